/- hash.Ripemd is RIPEMD-160. -/
import Derived.Test.YtlofddoojkeakaaDoorGD1
import Derived.Test.YtlofddoojkeakaaDoorGE0
import Derived.Test.YtlofddoojkeakaaDoorGD6
namespace Go.Proofs.YtlofddoojkeakaaDoor.Rip
set_option linter.unusedVariables false
set_option linter.unusedSimpArgs false
open Go Go.RowKit Go.Shelf Go.Proofs.YtlofddoojkeakaaDoor.B64

/-- what Ripemd holds at a block's beginning -/
structure RipAt (w W : World) (p2 pl pr p3 gm om : Nat) (M : List Int) (s : S5) : Prop where
  keeps : Keeps w W
  res : Row W p2 0 (List.replicate 20 (Value.int .u8 0))
  left : Row W pl 0 (roundsV rL sL kL)
  right : Row W pr 0 (roundsV rR sR kR)
  st : Row W p3 0 (s.list.map (Value.int .u32))
  msg : Row W gm om (M.map (Value.int .u8))
  new : w.heap.size ≤ p3 ∧ p2 ≠ p3 ∧ pl ≠ p3 ∧ pr ≠ p3 ∧ gm ≠ p3
theorem RipAt.step {w W W' : World} {p2 pl pr p3 gm om : Nat} {M : List Int} {s : S5} (h : RipAt w W p2 pl pr p3 gm om M s) (hk : Keeps W W') : RipAt w W' p2 pl pr p3 gm om M s :=
  ⟨h.keeps.trans hk, h.res.keeps hk, h.left.keeps hk, h.right.keeps hk, h.st.keeps hk, h.msg.keeps hk, h.new⟩
theorem RipAt.chg {w W W' : World} {p2 pl pr p3 gm om : Nat} {M : List Int} {s s' : S5} (h : RipAt w W p2 pl pr p3 gm om M s) (hc : Chg (· = p3) W W') (hr : Row W' p3 0 (s'.list.map (Value.int .u32))) : RipAt w W' p2 pl pr p3 gm om M s' :=
  ⟨keeps_chg h.keeps hc h.new.1, h.res.chg hc h.new.2.1, h.left.chg hc h.new.2.2.1, h.right.chg hc h.new.2.2.2.1, hr, h.msg.chg hc h.new.2.2.2.2, h.new⟩
theorem ripAt_own (B : Nat) (w : World) (hB : w.heap.size ≤ B) (p2 pl pr p3 gm om : Nat) (M : List Int) {α : Type} (f : List α → S5) : OwnFrom B (fun (ys : List α) W => RipAt w W p2 pl pr p3 gm om M (f ys)) := fun ys W W' row h hg hr => by
  have hr2 : ∀ r, row = some r → ∃ o : Obj, W.heap[r]? = some o ∧ o.isCells = false := fun r e => (hr r e).2
  exact ⟨h.keeps.grown hg h.keeps.size (fun k e => Nat.le_trans hB (hr k e).1), row_kept h.res hg hr2, row_kept h.left hg hr2, row_kept h.right hg hr2, row_kept h.st hg hr2, row_kept h.msg hg hr2, h.new⟩
def foldR (M : List Int) (s : S5) {B : Nat} (ys : List (Fin B)) : S5 := ys.foldl (fun s x => block s ((M.drop (64 * x.val)).take 64)) s
theorem foldR_snoc (M : List Int) (s : S5) {B : Nat} (ys : List (Fin B)) (x : Fin B) : foldR M s (ys ++ [x]) = block (foldR M s ys) ((M.drop (64 * x.val)).take 64) := by simp [foldR]
theorem foldR_take (M : List Int) (s : S5) (B : Nat) : ∀ k, k ≤ B → foldR M s ((List.finRange B).take k) = run160 s M k
  | 0, _ => rfl
  | k + 1, h => by rw [finTake (show k < B by omega), foldR_snoc, foldR_take M s B k (by omega)]; rfl
theorem foldR_all (M : List Int) (s : S5) (B : Nat) : foldR M s (List.finRange B) = run160 s M B := by
  have := foldR_take M s B B (Nat.le_refl _)
  rwa [List.take_of_length_le (by simp)] at this
theorem foldR_ok (M : List Int) {s : S5} (h : s.ok) {B : Nat} (ys : List (Fin B)) : (foldR M s ys).ok := by
  induction ys generalizing s with
  | nil => exact h
  | cons a r ih => exact ih (S5.mix3_ok _ _ _)
/-- the tail's last eight bytes turned -/
theorem turn_any (n q A Bn cap : Nat) (hA : A = 1 + fill64 n) (hB : Bn = 8) (hc : 8 ≤ cap) (hc2 : cap ≤ maxLen) (w : World) (hr : Row w q 0 ((tail64 n).map (Value.int .u8))) :
    Calls Tryd.prog 60 #[.slice (some ⟨q, A, none⟩) Bn cap] w fun e w' => e = .returned (.tuple #[]) ∧ Chg (· = q) w w' ∧ Row w' q 0 ((fillL 64 8 n true).map (Value.int .u8)) := by
  subst hA hB
  have hd := hr.drop (1 + fill64 n)
  have e : ((tail64 n).map (Value.int .u8)).drop (1 + fill64 n) = (be8 ((n : Int) * 8)).map (Value.int .u8) := by
    rw [← List.map_drop, tail64, List.drop_append_of_le_length (by simp; omega), List.drop_of_length_le (by simp; omega)]
    simp
  rw [e, Nat.zero_add] at hd
  refine (reverse8 q (1 + fill64 n) cap hc hc2 _ _ _ _ _ _ _ _ w hd).mono ?_
  rintro e w' ⟨rfl, hch, hrv, hbs⟩
  refine ⟨rfl, hch, ?_⟩
  have hp := hr.patch (1 + fill64 n) (by rw [Nat.zero_add]; exact hrv) (by rw [Nat.zero_add]; exact hbs) (by simp [tail64, be8]; omega)
  have e2 : ((tail64 n).map (Value.int .u8)).take (1 + fill64 n) ++ ([(n : Int) * 8 % 256, (n : Int) * 8 / 256 % 256, (n : Int) * 8 / 65536 % 256, (n : Int) * 8 / 16777216 % 256, (n : Int) * 8 / 4294967296 % 256, (n : Int) * 8 / 1099511627776 % 256, (n : Int) * 8 / 281474976710656 % 256, (n : Int) * 8 / 72057594037927936 % 256].map (Value.int .u8)) ++ ((tail64 n).map (Value.int .u8)).drop (1 + fill64 n + 8) = (fillL 64 8 n true).map (Value.int .u8) := by
    rw [← List.map_take, ← List.map_drop, tail64, List.take_append_of_le_length (by simp; omega), List.take_of_length_le (by simp; omega), List.drop_of_length_le (by simp [be8]; omega)]
    have h1 : fillN 64 8 n = fill64 n := rfl
    simp [fillL, lowB, h1]
  have e3 := hp
  simp only [List.length_map, List.length_cons, List.length_nil, Nat.reduceAdd] at e3
  rw [e2] at e3
  exact e3
theorem second_row {w W' : World} (hc : Chg (· = w.heap.size) ((w.alloc (.cells Tryd.zeroCells125 125)).alloc (.cells Tryd.zeroCells125 125)) W') : Row W' (w.heap.size + 1) 0 Tryd.zeroCells125.toList := by
  have h : Row ((w.alloc (.cells Tryd.zeroCells125 125)).alloc (.cells Tryd.zeroCells125 125)) (w.alloc (.cells Tryd.zeroCells125 125)).heap.size 0 Tryd.zeroCells125.toList := Row.new _ _ _ Array.toArray_toList.symm
  rw [World.size_alloc] at h
  exact h.chg hc (by omega)
set_option maxHeartbeats 1000000 in
set_option maxRecDepth 100000 in
theorem ripemd_any (v : Value) (n : Nat) (zs : List Int) (w : World) (hr : Rd w 1 v n (zs.map (Value.int .u8))) (hz : Bytes zs) (hn : n ≤ 35184372088832) :
    Calls Tryd.prog 34 #[v] w fun e w' => e = .returned (.agg ((rip160 zs).map (Value.int .u8)).toArray) ∧ Keeps w w' := by
  have hzl : zs.length = n := by have := hr.1; simpa using this
  have hf63 := fill64_le n
  have hfl : (fillL 64 8 n true).length = 9 + fill64 n := by rw [fillL_length]; show 1 + fill64 n + 8 = _; omega
  have hml : (zs ++ fillL 64 8 n true).length = n + (9 + fill64 n) := by rw [List.length_append, hfl, hzl]
  have hmb : Bytes (zs ++ fillL 64 8 n true) := by
    intro x hx
    rcases List.mem_append.1 hx with h | h
    · exact hz x h
    · exact fillL_bytes 64 8 n true x h
  have hmod : (n + (9 + fill64 n)) % 64 = 0 := by unfold fill64; omega
  have hsha : rip160 zs = Rip.outB (run160 iv160 (zs ++ fillL 64 8 n true) ((n + (9 + fill64 n)) / 64)).list := by unfold rip160 msg160; rw [hzl, hml]
  have htail : ∀ W, Calls Tryd.prog 47 #[.int .u64 n, .int .i64 64, .int .i64 8] W fun e w' => e = .returned (.slice (some ⟨W.heap.size, 0, none⟩) (9 + fill64 n) (9 + fill64 n)) ∧ Keeps W w' ∧ W.heap.size < w'.heap.size ∧ Row w' W.heap.size 0 ((tail64 n).map (Value.int .u8)) := fun W => tail_any n (by omega) W
  have hclone : ∀ W, Keeps w W → Calls Tryd.prog 46 #[v] W fun e w' => ∃ v', e = .returned v' ∧ Own W w' v' n zs := fun W hk => (clone_any v n zs W (hr.keeps hk) (by omega)).mono (by rintro e w' ⟨v', rfl, h1, h2, h3⟩; exact ⟨v', rfl, h1, h2, h3⟩)
  have hturn : ∀ (q A Bn cap : Nat), A = 1 + fill64 n → Bn = 8 → 8 ≤ cap → cap ≤ maxLen → ∀ W, Row W q 0 ((tail64 n).map (Value.int .u8)) → Calls Tryd.prog 60 #[.slice (some ⟨q, A, none⟩) Bn cap] W fun e w' => e = .returned (.tuple #[]) ∧ Chg (· = q) W w' ∧ Row w' q 0 ((fillL 64 8 n true).map (Value.int .u8)) := fun q A Bn cap h1 h2 h3 h4 W h5 => turn_any n q A Bn cap h1 h2 h3 h4 W h5
  rw [hsha]
  have HTAIL := Lib.hid htail; have HCLONE := Lib.hid hclone; have HMB := Lib.hid hmb; have HML := Lib.hid hml; have HFL := Lib.hid hfl; have HTURN := Lib.hid hturn
  clear hz hzl htail hclone hmb hml hsha hfl hturn
  obtain ⟨B, hB⟩ : ∃ B, n + (9 + fill64 n) = 64 * B := ⟨(n + (9 + fill64 n)) / 64, by omega⟩
  rw [show (n + (9 + fill64 n)) / 64 = B by omega]
  have HBB := Lib.hid hB
  obtain ⟨_, a, cap, rfl, _⟩ := hr
  rw [hB] at HML
  have hBb : B ≤ 549755813890 := by omega
  clear hmod hB
  generalize fill64 n = f at *
  generalize tail64 n = T64 at *
  generalize fillL 64 8 n true = FL at *
  generalize hM : zs ++ FL = M at *
  have HM := Lib.hid hM
  clear hM
  refine (callsIn_wide (n := 3)).1 (callsIn_of_wp_marks Tryd.func34 rfl trivial (wpIn_wide.2 ?_) rfl)
  simp only [Tryd.ntmps34, List.size_toArray, List.length_cons, List.length_nil, Nat.reduceAdd, Nat.reduceSub, Array.replicate_succ, Array.replicate_zero, List.push_toArray, List.append_toArray, List.nil_append, List.cons_append]
  go_upto_region 1 with (fail)
  refine wp_gen (fun W => Keeps w W ∧ w.heap.size < W.heap.size ∧ Row W w.heap.size 0 (List.replicate 20 (Value.int .u8 0))) ⟨(Keeps.refl _).alloc (Nat.le_refl _) _, by show _ < (w.heap.push _).size; rw [Array.size_push]; omega, Row.new _ _ _ rfl⟩ ?_
  intro W1 ⟨hk1, hl1, hr1⟩
  have HK1 := Lib.hid hk1; have HR1 := Lib.hid hr1
  clear hk1 hr1
  go_upto_region 2 with (refine wpList_store_row rfl 121 (.tmp 3) (.tmp 15) rfl W1.heap.size 0 rfl (List.replicate 5 (Value.int .u32 0)) (iv160.list.map (Value.int .u32)) rfl (Row.new _ _ _ rfl) rfl (by kernel_rfl) (int_oneCell _) ?_; intro W2 hr2 hc2; have HR2 := Lib.hid hr2; have HC2 := Lib.hid hc2; clear hr2 hc2)
  have hk2 : Keeps w W2 := keeps_chg (keeps_alloc HK1.out _) HC2.out (Nat.le_of_lt hl1)
  have hr12 : Row W2 w.heap.size 0 (List.replicate 20 (Value.int .u8 0)) := (HR1.out.alloc _).chg HC2.out (by omega)
  have hl2 : W1.heap.size < W2.heap.size := HR2.out.lt (by simp [S5.list])
  have HK2 := Lib.hid hk2; have HR12 := Lib.hid hr12
  clear hk2 hr12 HK1 HR1 HC2
  obtain ⟨p2, hp2⟩ : ∃ p, p = w.heap.size := ⟨_, rfl⟩
  obtain ⟨p3, hp3⟩ : ∃ p, p = W1.heap.size := ⟨_, rfl⟩
  rw [← hp2] at HR12 ⊢
  rw [← hp3] at HR2 ⊢
  have HP2 := Lib.hid hp2; have HP3 := Lib.hid hp3
  clear hp2 hp3
  go_upto_region 3 with (go_at_call 47; refine (HTAIL.out _).mono ?_; rintro e W5 ⟨rfl, hk5, hl5, hr5⟩; have HK5 := Lib.hid hk5; have HR5 := Lib.hid hr5; clear hk5 hr5)
  obtain ⟨q, hq⟩ : ∃ q, q = W2.heap.size := ⟨_, rfl⟩
  rw [← hq] at HR5 hl5 ⊢
  have HQ := Lib.hid hq
  clear hq
  go_upto_region 4 with (go_at_call 60; refine (HTURN.out q _ _ _ (by omega) (by omega) (by omega) (by unfold maxLen; omega) _ HR5.out).mono ?_; rintro e W6 ⟨rfl, hc6, hr6⟩; have HC6 := Lib.hid hc6; have HR6 := Lib.hid hr6; clear hc6 hr6)
  have hw2 := HK2.out.size
  have hk6 : Keeps w W6 := keeps_chg (HK2.out.trans HK5.out) HC6.out (by have := HQ.out; omega)
  have hr16 : Row W6 p2 0 (List.replicate 20 (Value.int .u8 0)) := (HR12.out.keeps HK5.out).chg HC6.out (by have := HP2.out; have := HQ.out; omega)
  have hr26 : Row W6 p3 0 (iv160.list.map (Value.int .u32)) := (HR2.out.keeps HK5.out).chg HC6.out (by have := HP3.out; have := HQ.out; omega)
  have hq6 : q < W6.heap.size := Nat.lt_of_lt_of_le hl5 HC6.out.size
  have HK6 := Lib.hid hk6; have HR16 := Lib.hid hr16; have HR26 := Lib.hid hr26
  clear hk6 hr16 hr26 HR12 HR2 HK2 HK5 HC6 HR5 HTURN HTAIL
  go_upto_region 5 with (first | (go_at_call 61; refine (left_any _).mono ?_; rintro e WL ⟨rfl, hkl⟩; have HKL := Lib.hid hkl; clear hkl) | (go_at_call 62; refine (Rip.right_any _).mono ?_; rintro e WR ⟨rfl, hkr⟩; have HKR := Lib.hid hkr; clear hkr) | (refine wpList_store_row rfl 125 (.tmp 5) (.tmp 26) rfl WR.heap.size 0 rfl Tryd.zeroCells125.toList (roundsV rL sL kL) rfl ((Row.new _ _ _ Array.toArray_toList.symm).alloc _) (by rw [roundsV_length tabL, zeroLen]) (by rw [roundsV_length tabL]; exact sz_rounds) (rounds_one _ _ _) ?_; intro W7 hr7 hc7; have HR7 := Lib.hid hr7; have HC7 := Lib.hid hc7; clear hr7 hc7) | (refine wpList_store_row rfl 125 (.tmp 6) (.tmp 27) rfl (WR.heap.size + 1) 0 rfl Tryd.zeroCells125.toList (roundsV rR sR kR) rfl (second_row HC7.out) (by rw [roundsV_length tabR, zeroLen]) (by rw [roundsV_length tabR]; exact sz_rounds) (rounds_one _ _ _) ?_; intro W8 hr8 hc8; have HR8 := Lib.hid hr8; have HC8 := Lib.hid hc8; clear hr8 hc8))
  have hk68 : Keeps W6 WR := HKL.out.trans HKR.out
  have hk67 : Keeps W6 W7 := keeps_chg (keeps_alloc (keeps_alloc hk68 _) _) HC7.out hk68.size
  have hk8 : Keeps W6 W8 := keeps_chg hk67 HC8.out (by have := hk68.size; omega)
  have hr78 : Row W8 WR.heap.size 0 (roundsV rL sL kL) := HR7.out.chg HC8.out (by omega)
  have hl7 : W6.heap.size ≤ WR.heap.size := hk68.size
  have hl8 : WR.heap.size + 1 < W8.heap.size := HR8.out.lt (by intro e; have := congrArg List.length e; rw [roundsV_length tabR] at this; simp at this)
  have HK8 := Lib.hid hk8; have HL8 := Lib.hid hr78
  clear hk68 hk67 hk8 hr78 HKL HKR HC7 HC8 HR7
  generalize WR.heap.size = pl at *
  obtain ⟨pr, hpr⟩ : ∃ pr, pr = pl + 1 := ⟨_, rfl⟩
  rw [← hpr] at HR8 hl8 ⊢
  have HPR := Lib.hid hpr
  clear hpr
  generalize hVL : Value.agg (roundsV rL sL kL).toArray = vL
  generalize hVR : Value.agg (roundsV rR sR kR).toArray = vR
  clear hVL hVR
  have hk8 := HK6.out.trans HK8.out
  have hr18 := HR16.out.keeps HK8.out
  have hr28 := HR26.out.keeps HK8.out
  have hr68 := HR6.out.keeps HK8.out
  have hq8 : q < W8.heap.size := Nat.lt_of_lt_of_le hq6 HK8.out.size
  have HK8w := Lib.hid hk8; have HR18 := Lib.hid hr18; have HR28 := Lib.hid hr28; have HR68 := Lib.hid hr68
  clear hk8 hr18 hr28 hr68 HK6 HR16 HR26 HR6 HK8
  go_upto_region 6 with (first | (go_at_call 46; refine (HCLONE.out _ HK8w.out).mono ?_; rintro e W9 ⟨vc, rfl, hO⟩; have HO := Lib.hid (show Own W8 W9 vc n zs from hO); clear hO) | (refine own_append rfl (.tmp 29) (.tmp 30) rfl HO.out (Keeps.refl _) rfl _ rfl (9 + f) FL (Rd.src (Rd.of_row (HR68.out.keeps HO.out.keeps) (by have := HFL.out; simp; omega) (by have := HO.out.keeps.size; omega) (by omega) (by unfold maxLen; omega)) Tryd.underlying38 (int_oneCell FL)) (by omega) ?_; intro v6 W10 hO6 hG6; rw [HBB.out, HM.out] at hO6; obtain ⟨gm, om, cm, rfl, hcm1, hcm2, hgm, hrm⟩ := hO6.buf.form (.inr (by have := HBB.out; omega)); have HRM := Lib.hid hrm; have HO6 := Lib.hid hO6; clear hO6 hG6 hrm) | (go_at_call 48; refine (chunk_any _ _ _ 64 (by omega) _).mono ?_; rintro e WC ⟨rfl, rfl⟩))
  have hra : RipAt w W10 p2 pl pr p3 gm om M (run160 iv160 M 0) := ⟨HK8w.out.trans HO6.out.keeps, HR18.out.keeps HO6.out.keeps, HL8.out.keeps HO6.out.keeps, HR8.out.keeps HO6.out.keeps, HR28.out.keeps HO6.out.keeps, HRM.out, by have := HO6.out.new gm rfl; have := HK8w.out.size; have := HP2.out; have := HP3.out; have := HPR.out; have := HQ.out; omega⟩
  have hW : w.heap.size ≤ W10.heap.size ∧ p3 < W10.heap.size := ⟨hra.keeps.size, hra.st.lt (by simp [S5.list])⟩
  have HRA := Lib.hid hra
  clear hra HO6 HO HRM HR18 HR28 HR68 HL8 HR8 HK8w HCLONE
  refine wp_gen (fun W => RipAt w W p2 pl pr p3 gm om M (run160 iv160 M 0) ∧ W.cell? ⟨W10.heap.size, 0, none⟩ = some (.slice (some ⟨gm, om, none⟩) (64 * B) cm) ∧ W.cell? ⟨W10.heap.size + 1, 0, none⟩ = some (.int .i64 64) ∧ W.heap.size = W10.heap.size + 2) ?_ ?_
  · refine ⟨HRA.out.step (keeps_alloc (keeps_alloc (Keeps.refl _) _) _), ?_, ?_, by simp⟩
    · have := (((Row.new [Value.slice (some ⟨gm, om, none⟩) (64 * B) cm] _ 38 rfl : Row (W10.alloc _) _ _ _).alloc (.cells #[.int .i64 64] 3)) 0 _ rfl).1
      rwa [Nat.zero_add] at this
    · have := ((Row.new [Value.int .i64 64] _ 3 rfl : Row ((W10.alloc (.cells #[.slice (some ⟨gm, om, none⟩) (64 * B) cm] 38)).alloc _) _ _ _) 0 _ rfl).1
      rwa [Nat.zero_add, World.size_alloc] at this
  intro WC ⟨hra7, hbs, hbn, hs7⟩
  have HRA7 := Lib.hid hra7
  clear hra7 HRA
  generalize W10.heap.size = q6 at *
  generalize hIV : Value.agg #[Value.int IntKind.u32 1732584193, Value.int IntKind.u32 4023233417, Value.int IntKind.u32 2562383102, Value.int IntKind.u32 271733878, Value.int IntKind.u32 3285377520] = vIV
  generalize (9 + f - (9 + f - 8)) = z1
  generalize (9 + f - 8) = z2
  clear hIV
  refine (wpIn_wide (n := 3)).1 (wpIn_rangeFunc_ownG (α := Fin B) rfl (by omega) (gf := 71) (lb := #[.pointer (some ⟨q6, 0, none⟩), .pointer (some ⟨q6 + 1, 0, none⟩)]) rfl trivial (enters_of Tryd.func71 (by kernel_rfl) rfl)
    (chunk_stops _ (by omega) q6 (q6 + 1) WC.heap.size p3 gm om 64 B cm (by omega) (by omega) (by omega) hcm1 (by omega) (by omega) (by omega) (by omega) WC (Nat.le_refl _) hbs hbn) (fun h k => Chg.trans h k) (KpC.b (Nat.le_refl _)) (Below.refl _ _) (fun _ => rfl)
    (fun ys W => RipAt w W p2 pl pr p3 gm om M (foldR M iv160 ys))
    (fun _ _ _ => False)
    (ripAt_own _ w (by omega) p2 pl pr p3 gm om M _)
    (fun _ _ _ _ _ hs _ _ => hs)
    HRA7.out
    (fun x => { tmps := #[.slice a n cap, undef, .pointer (some ⟨p2, 0, none⟩), .pointer (some ⟨p3, 0, none⟩), .slice (some ⟨q, 0, none⟩) (9 + f) (9 + f), .pointer (some ⟨pl, 0, none⟩), .pointer (some ⟨pr, 0, none⟩), .slice (some ⟨gm, om + 64 * x.val, none⟩) 64 64, undef, undef, undef, undef, undef, undef, undef, vIV, .slice a n cap, .int .i64 n, .int .u64 n, .slice (some ⟨q, 0, none⟩) (9 + f) (9 + f), .slice (some ⟨q, 0, none⟩) (9 + f) (9 + f), .slice (some ⟨q, 0, none⟩) (9 + f) (9 + f), .int .i64 (9 + f), .int .i64 (9 + f - 8), .slice (some ⟨q, z2, none⟩) z1 z1, .tuple #[], vL, vR, .slice a n cap, vc, .slice (some ⟨q, 0, none⟩) (9 + f) (9 + f), .slice (some ⟨gm, om, none⟩) (64 * B) cm, .func (.func 71) #[] #[.pointer (some ⟨q6, 0, none⟩), .pointer (some ⟨q6 + 1, 0, none⟩)],
      .slice (some ⟨gm, om + 64 * x.val, none⟩) 64 64, undef, undef, undef, undef, undef, undef, undef, undef, undef, undef, undef, undef, undef, undef, undef, undef, undef, undef, undef, undef, undef, undef, undef, undef, undef, undef, undef, undef, undef, undef, undef, undef, undef, undef, undef, undef, undef, undef, undef, undef, undef, undef, undef, undef, undef, undef, undef, undef, undef, undef, undef, undef, undef, undef, undef, undef, undef, undef, undef, undef, undef, undef, undef, undef, undef, undef, undef, undef, undef, undef, undef, undef, undef, undef, undef, undef, undef, undef, undef, undef, undef, undef, undef, undef, undef, undef, undef, undef, undef, undef, undef, undef, undef, undef, undef, undef, undef, undef, undef, undef, undef, undef, undef, undef, undef, undef, undef, undef, undef, undef, undef, undef, undef, undef, undef, undef, undef, undef, undef, undef, undef], defers := [] }) ?assign ?body ?done ?stop)
  case assign =>
    intro l x W K hK
    have hsem := @Oper.semAt_some
    gi_wp2
    exact hK
  case body =>
    rintro l pre x W hI hlen
    have hlk : ((M.drop (64 * x.val)).take 64).length = 64 := by have := HML.out; have := x.isLt; simp; omega
    have hlb : Bytes ((M.drop (64 * x.val)).take 64) := fun y hy => HMB.out y (List.mem_of_mem_drop (List.mem_of_mem_take hy))
    have hok := foldR_ok M iv160_ok pre
    have hrow : Row W gm (om + 64 * x.val) (((M.drop (64 * x.val)).take 64).map (Value.int .u8)) := by
      have := (hI.msg.drop (64 * x.val)).take 64
      rwa [← List.map_drop, ← List.map_take] at this
    have hsn := foldR_snoc M iv160 pre x
    generalize foldR M iv160 pre = s at *
    generalize (M.drop (64 * x.val)).take 64 = lk at *
    generalize om + 64 * x.val = ox at *
    have HSN := Lib.hid hsn; have HI := Lib.hid hI; have HLK := Lib.hid hlk; have HLB := Lib.hid hlb; have HOK := Lib.hid hok; have HROW := Lib.hid hrow
    clear hsn hI hlk hlb hok hrow
    have hsem := @Oper.semAt_some
    dsimp only
    gi_wp2
    have hr0 : Row (W.alloc (.cells (List.replicate 16 (Value.int .u32 0)).toArray 127)) W.heap.size 0 ((xbuf lk 0).map (Value.int .u32)) := Row.new _ _ _ rfl
    have hk0 : Keeps W (W.alloc (.cells (List.replicate 16 (Value.int .u32 0)).toArray 127)) := keeps_alloc (Keeps.refl W) _
    obtain ⟨q8, hq8⟩ : ∃ q, q = W.heap.size := ⟨_, rfl⟩
    rw [← hq8] at hr0 ⊢
    have HR0 := Lib.hid hr0; have HK0 := Lib.hid hk0; have HQ8 := Lib.hid hq8
    clear hr0 hk0 hq8
    gi_loopw [34] (fun c wr => ∃ i : Nat, i ≤ 16 ∧ c = .int .i64 i ∧ Keeps W wr ∧ Row wr q8 0 ((xbuf lk i).map (Value.int .u32))) (fun c _ => (16 - intOf c).toNat)
    case atStart => exact ⟨0, by omega, rfl, HK0.out, HR0.out⟩
    case round =>
      obtain ⟨i, hi, rfl, hk, hrt⟩ := hrel
      by_cases hlt : i < 16
      · have hcb := HROW.out.keeps hk
        have c0 := hcb.int (4 * i) (by rw [HLK.out]; omega)
        have c1 := hcb.int (4 * i + 1) (by rw [HLK.out]; omega)
        have c2 := hcb.int (4 * i + 2) (by rw [HLK.out]; omega)
        have c3 := hcb.int (4 * i + 3) (by rw [HLK.out]; omega)
        have b0 := HLB.out.getD (4 * i)
        have b1 := HLB.out.getD (4 * i + 1)
        have b2 := HLB.out.getD (4 * i + 2)
        have b3 := HLB.out.getD (4 * i + 3)
        have hd := hrt.int0 i (by rw [xbuf_length _ _ hi]; exact hlt)
        have hf := hrt.free0 i (by rw [List.length_map, xbuf_length _ _ hi]; exact hlt)
        have hset := fun nq => (hrt.drewN nq).setInt0 i (by rw [xbuf_length _ _ hi]; exact hlt) (lword lk i)
        simp only [xbuf_set _ _ hlt] at hset
        have hor := lword_or b0 b1 b2 b3
        have hlw : lword lk i = lk.getD (4 * i) 0 + lk.getD (4 * i + 1) 0 * 256 + lk.getD (4 * i + 2) 0 * 65536 + lk.getD (4 * i + 3) 0 * 16777216 := rfl
        rw [← hlw] at hor
        have HSET := Lib.hid hset; have HK := Lib.hid hk; have HOR := Lib.hid hor
        clear hset hk hrt hcb hor hlw
        generalize lword lk i = lw at *
        generalize lk.getD (4 * i) 0 = y0 at *
        generalize lk.getD (4 * i + 1) 0 = y1 at *
        generalize lk.getD (4 * i + 2) 0 = y2 at *
        generalize lk.getD (4 * i + 3) 0 = y3 at *
        obtain ⟨b00, b01⟩ := b0
        obtain ⟨b10, b11⟩ := b1
        obtain ⟨b20, b21⟩ := b2
        obtain ⟨b30, b31⟩ := b3
        gi_wp2
        refine wpIn_round_quiet 35 (by kernel_rfl) (by kernel_rfl) (by kernel_rfl) ?_
        simp only [List.take_succ_cons, List.take_zero, List.drop_succ_cons, List.drop_zero]
        repeat (first | go_big_quiet_step (fail) | quiet_step (fail))
        refine wpQuiet_nil ?_
        intro _ hw'
        obtain ⟨nq, hw''⟩ := hw'
        subst hw''
        gi_wp2
        go_roundw
        case rel => exact ⟨i + 1, by omega, by go_num, Below.setCell (HK.out.trans (Qt.drewN wr nq).keeps) (by have := HQ8.out; show W.heap.size ≤ q8; omega) _, by rw [HOR.out]; exact HSET.out nq⟩
        case measure => simp [intOf]; omega
      · obtain rfl : i = 16 := by omega
        gi_wp2
        have hxl : (xbuf lk 16).length = 16 := xbuf_length _ _ (Nat.le_refl _)
        have HXW := Lib.hid (xbuf_words HLB.out 16)
        have HUU : Hid (lineRun rL sL kL false s (xbuf lk 16) 80 = lineRun rL sL kL false s (xbuf lk 16) 80) := Lib.hid rfl
        have HVV : Hid (lineRun rR sR kR true s (xbuf lk 16) 80 = lineRun rR sR kR true s (xbuf lk 16) 80) := Lib.hid rfl
        have HBL : Hid (block s lk = s.mix3 (lineRun rL sL kL false s (xbuf lk 16) 80) (lineRun rR sR kR true s (xbuf lk 16) 80)) := Lib.hid rfl
        have HOU := Lib.hid (lineRun_ok (rt := rL) (st := sL) (kt := kL) (turned := false) HOK.out (xbuf lk 16) 80)
        have HOV := Lib.hid (lineRun_ok (rt := rR) (st := sR) (kt := kR) (turned := true) HOK.out (xbuf lk 16) 80)
        have HRX := Lib.hid hrt
        have HRI := Lib.hid (HI.out.step hk)
        have HKW := Lib.hid hk
        clear hrt hk
        generalize xbuf lk 16 = xs at *
        generalize hUU : lineRun rL sL kL false s xs 80 = U at HUU HBL HOU
        generalize hVV : lineRun rR sR kR true s xs 80 = Vv at HVV HBL HOV
        have HUU := Lib.hid hUU
        have HVV := Lib.hid hVV
        clear hUU hVV
        refine wpIn_region_inv (Inv := InvR wr _ (slotsV s xs U Vv) (U.list.map (Value.int .u32)) (Vv.list.map (Value.int .u32))) (by kernel_rfl) (by kernel_rfl) (InvR.start _ _ _ _ wr) ?_ ?_
        · intro listed a w' i o hs hI ho hl he
          have hT : (81 : Nat) ≤ 155 := by omega
          have hi12 : i < 12 := (Array.getElem?_eq_some_iff.1 ho).1
          have hc : i = 0 ∨ i = 1 ∨ i = 2 ∨ i = 3 ∨ i = 4 ∨ i = 5 ∨ i = 6 ∨ i = 7 ∨ i = 8 ∨ i = 9 ∨ i = 10 ∨ i = 11 := by omega
          rcases hc with rfl | rfl | rfl | rfl | rfl | rfl | rfl | rfl | rfl | rfl | rfl | rfl
          all_goals (obtain rfl := Option.some.inj (show some _ = some o from ho))
          · exact opIn_value ho rfl (fun c e => by cases e) (run_load_row 125 (.tmp 5) rfl pl 0 (evalOf ((hI.base 5 (by omega) (by omega) (.inl (by omega))).trans rfl)) _ _ (HRI.out.left.keeps hI.keeps) Tryd.underlying125 rfl (by rw [roundsV_length tabL]; exact sz_rounds)) (hI.valStep hs hT 0 (by omega) (Keeps.refl _))
          · exact opIn_value ho rfl (fun c e => by cases e) (run_load_row 121 (.tmp 3) rfl p3 0 (evalOf ((hI.base 3 (by omega) (by omega) (.inl (by omega))).trans rfl)) _ _ (HRI.out.st.keeps hI.keeps) Tryd.underlying121 rfl (sz5)) (hI.valStep hs hT 1 (by omega) (Keeps.refl _))
          · exact opIn_value ho rfl (fun c e => by cases e) (run_load_row 127 (.tmp 8) rfl q8 0 (evalOf ((hI.base 8 (by omega) (by omega) (.inl (by omega))).trans rfl)) _ _ (HRX.out.keeps hI.keeps) Tryd.underlying127 rfl (by rw [List.length_map, hxl]; exact sz16)) (hI.valStep hs hT 2 (by omega) (Keeps.refl _))
          · have l0 := he ⟨0, .data⟩ (by simp) rfl
            have l1 := he ⟨1, .data⟩ (by simp) rfl
            have l2 := he ⟨2, .data⟩ (by simp) rfl
            exact opIn_enter ho rfl (fun c e => by cases e) (run_line 73 74 75 false rfl _ _ _ (evalOf (hI.val 0 (by omega) l0)) (evalOf (hI.val 1 (by omega) l1)) (evalOf (hI.val 2 (by omega) l2))) ((line_any rL sL kL tabL false s HOK.out xs hxl HXW.out _).mono (by rintro e w2 ⟨rfl, hk2⟩; exact ⟨_, rfl, by rw [HUU.out]; exact hI.valStep hs hT 3 (by omega) hk2⟩))
          · exact opIn_value ho rfl (fun c e => by cases e) (run_load_row 125 (.tmp 6) rfl pr 0 (evalOf ((hI.base 6 (by omega) (by omega) (.inl (by omega))).trans rfl)) _ _ (HRI.out.right.keeps hI.keeps) Tryd.underlying125 rfl (by rw [roundsV_length tabR]; exact sz_rounds)) (hI.valStep hs hT 4 (by omega) (Keeps.refl _))
          · exact opIn_value ho rfl (fun c e => by cases e) (run_load_row 121 (.tmp 3) rfl p3 0 (evalOf ((hI.base 3 (by omega) (by omega) (.inl (by omega))).trans rfl)) _ _ (HRI.out.st.keeps hI.keeps) Tryd.underlying121 rfl (sz5)) (hI.valStep hs hT 5 (by omega) (Keeps.refl _))
          · exact opIn_value ho rfl (fun c e => by cases e) (run_load_row 127 (.tmp 8) rfl q8 0 (evalOf ((hI.base 8 (by omega) (by omega) (.inl (by omega))).trans rfl)) _ _ (HRX.out.keeps hI.keeps) Tryd.underlying127 rfl (by rw [List.length_map, hxl]; exact sz16)) (hI.valStep hs hT 6 (by omega) (Keeps.refl _))
          · have l0 := he ⟨4, .data⟩ (by simp) rfl
            have l1 := he ⟨5, .data⟩ (by simp) rfl
            have l2 := he ⟨6, .data⟩ (by simp) rfl
            exact opIn_enter ho rfl (fun c e => by cases e) (run_line 77 78 79 true rfl _ _ _ (evalOf (hI.val 4 (by omega) l0)) (evalOf (hI.val 5 (by omega) l1)) (evalOf (hI.val 6 (by omega) l2))) ((line_any rR sR kR tabR true s HOK.out xs hxl HXW.out _).mono (by rintro e w2 ⟨rfl, hk2⟩; exact ⟨_, rfl, by rw [HVV.out]; exact hI.valStep hs hT 7 (by omega) hk2⟩))
          · exact opIn_value ho rfl (fun c e => by cases e) (run_alloc5 rfl) (hI.alloc1 hs hT (getD_both hl) _)
          · exact opIn_value ho rfl (fun c e => by cases e) (run_alloc5 rfl) (hI.alloc2 hs hT (getD_both hl) _)
          · have l8 := he ⟨8, .data⟩ (by simp) rfl
            have l3 := he ⟨3, .data⟩ (by simp) rfl
            obtain ⟨x, x1, x2, x3, x4⟩ := hI.one l8
            rw [getD_both hl] at x4
            exact opIn_store_row ho rfl 121 (.tmp 10) (.tmp 76) rfl x 0 (evalOf x1) _ (U.list.map (Value.int .u32)) (evalOf (hI.val 3 (by omega) l3)) x4 rfl sz5 (int_oneCell _) (fun w2 hr2 hc2 => hI.store1 hs l8 x x1 hr2 hc2)
          · have l9 := he ⟨9, .data⟩ (by simp) rfl
            have l7 := he ⟨7, .data⟩ (by simp) rfl
            obtain ⟨x, x1, x2, x3, x4⟩ := hI.two l9
            rw [getD_both hl] at x4
            exact opIn_store_row ho rfl 121 (.tmp 11) (.tmp 80) rfl x 0 (evalOf x1) _ (Vv.list.map (Value.int .u32)) (evalOf (hI.val 7 (by omega) l7)) x4 rfl sz5 (int_oneCell _) (fun w2 hr2 hc2 => hI.store2 hs l9 x x1 hr2 hc2)
        · intro listed a w' hs hI hall
          have hT : (81 : Nat) ≤ 155 := by omega
          obtain ⟨x1, y1, rfl, hkw, hx, hy, hxy, hx2, hy2, hrx, hry⟩ := hI.final hT hall
          simp only [List.setIfInBounds_toArray, List.set_cons_zero, List.set_cons_succ]
          have hrs := HRI.out.st.keeps hkw
          have hp3 := HRI.out.st.lt (by simp [S5.list])
          have hu := HOU.out; have hv := HOV.out; have ho := HOK.out
          obtain ⟨ra, rb, rc, rd, re⟩ := s
          obtain ⟨ua, ub, uc, ud, ue⟩ := U
          obtain ⟨va, vb, vc', vd, ve⟩ := Vv
          obtain ⟨s0, s1', s2', s3, s4⟩ := S5.cells hrs
          obtain ⟨u0, u1, u2, u3, u4⟩ := S5.cells hrx
          obtain ⟨v0, v1, v2, v3, v4⟩ := S5.cells hry
          obtain ⟨⟨o00, o01⟩, ⟨o10, o11⟩, ⟨o20, o21⟩, ⟨o30, o31⟩, ⟨o40, o41⟩⟩ := ho
          obtain ⟨⟨m00, m01⟩, ⟨m10, m11⟩, ⟨m20, m21⟩, ⟨m30, m31⟩, ⟨m40, m41⟩⟩ := hu
          obtain ⟨⟨n00, n01⟩, ⟨n10, n11⟩, ⟨n20, n21⟩, ⟨n30, n31⟩, ⟨n40, n41⟩⟩ := hv
          simp only [] at s0 s1' s2' s3 s4 u0 u1 u2 u3 u4 v0 v1 v2 v3 v4
          have HRS := Lib.hid hrs; have HKF := Lib.hid hkw
          clear hrs hrx hry hkw hI
          simp only [ptr, slotsV]
          gi_wp2_with (refine wpListIn_store_row rfl 121 (.tmp 3) (.tmp 121) rfl p3 0 rfl _ [_, _, _, _, _] rfl HRS.out rfl sz5 (by intro v hv; simp only [List.mem_cons, List.not_mem_nil, or_false] at hv; rcases hv with rfl | rfl | rfl | rfl | rfl <;> rfl) ?_; intro w9 hr9 hc9; have HR9 := Lib.hid hr9; have HC9 := Lib.hid hc9; clear hr9 hc9)
          have hc := ((HKW.out.trans HKF.out).chg (· = p3)).trans HC9.out
          refine ⟨chg_from hc (rowCells HI.out.st), hc.mono (fun k _ e => .inl e), ?_⟩
          show RipAt w w9 p2 pl pr p3 gm om M (foldR M iv160 (pre ++ [x]))
          rw [HSN.out, HBL.out]
          exact HI.out.chg hc HR9.out
  case done =>
    rintro D ys W hD hys hI hK
    rw [hys, foldR_all] at hI
    have hok := run160_ok iv160_ok M B
    generalize hse : run160 iv160 M B = s at *
    have hDs : D < W.heap.size := (Array.getElem?_eq_some_iff.1 hK).1
    have HI := Lib.hid hI; have HK := Lib.hid hK; have HOK := Lib.hid hok; have HSE := Lib.hid hse
    clear hI hK hok hse hys HRA7 hbs hbn HM HFL
    go_upto_region 16 with (fail)
    obtain ⟨q9, hq9⟩ : ∃ q, q = W.heap.size := ⟨_, rfl⟩
    have hraq : RipAt w (W.alloc (.cells (List.replicate 20 (Value.int .u8 0)).toArray 60)) p2 pl pr p3 gm om M s := HI.out.step (keeps_alloc (Keeps.refl _) _)
    have hrq : Row (W.alloc (.cells (List.replicate 20 (Value.int .u8 0)).toArray 60)) q9 0 ((outR s 0).map (Value.int .u8)) := by rw [hq9]; exact Row.new _ _ _ (by rw [outR_zero]; rfl)
    have hqb : w.heap.size ≤ q9 ∧ p2 ≠ q9 ∧ p3 ≠ q9 ∧ D ≠ q9 := by
      have h1 := HI.out.res.lt (by simp)
      have h3 := HI.out.st.lt (by simp [S5.list])
      have h5 := HI.out.keeps.size
      omega
    have hdq : (W.alloc (.cells (List.replicate 20 (Value.int .u8 0)).toArray 60)).heap[D]? = some (.deferred (some [])) := by rw [(keeps_alloc (Keeps.refl W) _).block D hDs]; exact HK.out
    rw [← hq9]
    refine wp_gen (fun W' => RipAt w W' p2 pl pr p3 gm om M s ∧ Row W' q9 0 ((outR s 0).map (Value.int .u8)) ∧ W'.heap[D]? = some (.deferred (some []))) ⟨hraq, hrq, hdq⟩ ?_
    clear hraq hrq hq9 hdq
    intro Wa ⟨hra, hrq, hda⟩
    have HRA := Lib.hid hra; have HRQ := Lib.hid hrq; have HQB := Lib.hid hqb; have HDA := Lib.hid hda
    have hDa : D < Wa.heap.size := (Array.getElem?_eq_some_iff.1 hda).1
    clear hra hrq HI hqb hda HK
    have Z5 : Hid ((Tryd.prog.info? 121).map (·.size) = some (s.list.map (Value.int .u32)).length) := Lib.hid sz5
    go_upto_region 17 with (refine wpList_load_at rfl 121 (.tmp 3) rfl p3 0 rfl (s.list.map (Value.int .u32)) _ HRA.out.st Tryd.underlying121 rfl Z5.out ?_)
    go_loopw [123] (fun c wr => ∃ i : Nat, i ≤ 5 ∧ c = .int .i64 i ∧ Chg (· = q9) Wa wr ∧ Row wr q9 0 ((outR s (4 * i)).map (Value.int .u8))) (fun c _ => (5 - intOf c).toNat)
    case atStart => exact ⟨0, by omega, rfl, Chg.refl _ _, HRQ.out⟩
    case round =>
      obtain ⟨i, hi, rfl, hch, hr⟩ := hrel
      by_cases hlt : i < 5
      · have hix : ∀ W : World, (Instr.index 121 (.agg (s.list.map (Value.int .u32)).toArray) (.int .i64 (i : Int))).run Tryd.prog W = .ok (.int .u32 (s.list.getD i 0)) W := fun W => run_index_ints W _ _ 5 _ s.list i Tryd.underlying121 Tryd.underlying23 (by kernel_rfl) rfl hlt
        have hlen := outR_length s (4 * i) (by omega)
        have e0 := hr.int0 (4 * i) (by omega)
        have e1 := hr.int0 (4 * i + 1) (by omega)
        have e2 := hr.int0 (4 * i + 2) (by omega)
        have e3 := hr.int0 (4 * i + 3) (by omega)
        have g0 := hr.free0 (4 * i) (by simp; omega)
        have g1 := hr.free0 (4 * i + 1) (by simp; omega)
        have g2 := hr.free0 (4 * i + 2) (by simp; omega)
        have g3 := hr.free0 (4 * i + 3) (by simp; omega)
        have hx : W32 (s.list.getD i 0) := Rip.list_ok HOK.out i
        have hs0 := outR_set s (4 * i) (by omega)
        have hs1 := outR_set s (4 * i + 1) (by omega)
        have hs2 := outR_set s (4 * i + 2) (by omega)
        have hs3 := outR_set s (4 * i + 3) (by omega)
        rw [show 4 * i / 4 = i by omega, show 4 * i % 4 = 0 by omega] at hs0
        rw [show (4 * i + 1) / 4 = i by omega, show (4 * i + 1) % 4 = 1 by omega] at hs1
        rw [show (4 * i + 2) / 4 = i by omega, show (4 * i + 2) % 4 = 2 by omega] at hs2
        rw [show (4 * i + 3) / 4 = i by omega, show (4 * i + 3) % 4 = 3 by omega] at hs3
        have HCH := Lib.hid hch
        clear hch
        generalize s.list.getD i 0 = x at *
        obtain ⟨hx0, hx1⟩ := hx
        simp only [Nat.mul_zero, Nat.mul_one, Nat.reduceMul, Int.pow_zero, Int.ediv_one] at hs0 hs1 hs2 hs3
        have hset := (((hr.setInt0 (4 * i) (by omega) (x % 256)).setInt0 (4 * i + 1) (by simp; omega) (x / 2 ^ 8 % 256)).setInt0 (4 * i + 2) (by simp; omega) (x / 2 ^ 16 % 256)).setInt0 (4 * i + 3) (by simp; omega) (x / 2 ^ 24 % 256)
        rw [hs0, hs1, hs2, hs3, show x / 2 ^ 24 % 256 = x / 16777216 by omega, show x / 2 ^ 8 % 256 = x / 256 % 256 by omega, show x / 2 ^ 16 % 256 = x / 65536 % 256 by omega] at hset
        have HSET := Lib.hid hset
        clear hr hset hs0 hs1 hs2 hs3
        go_wp2
        go_roundw
        case rel => exact ⟨i + 1, by omega, by go_num, (((HCH.out.setCell (.inr rfl) _).setCell (.inr rfl) _).setCell (.inr rfl) _).setCell (.inr rfl) _, HSET.out⟩
        case measure => simp [intOf]; omega
      · obtain rfl : i = 5 := by omega
        rw [outR_full] at hr
        have hw2 := HRA.out.res.chg hch HQB.out.2.1
        have hkw := keeps_chg HRA.out.keeps hch HQB.out.1
        have hdw : wr.heap[D]? = some (.deferred (some [])) := by rw [hch.block D hDa (fun e => HQB.out.2.2.2 e)]; exact HDA.out
        have h20 : (Rip.outB s.list).length = 20 := Rip.outB_length _
        have Z20 : Hid ((Tryd.prog.info? 60).map (·.size) = some ((Rip.outB s.list).map (Value.int .u8)).length) := by
          rw [List.length_map, h20]; exact Lib.hid (by kernel_rfl)
        have hdl : D < wr.heap.size := (Array.getElem?_eq_some_iff.1 hdw).1
        have HRR := Lib.hid hr; have HOW := Lib.hid hw2; have HKW := Lib.hid hkw; have HDW := Lib.hid hdw
        clear hr hch hw2 hkw hdw
        go_wp2_with (first | (refine wpList_load_at rfl 60 (.tmp 12) rfl q9 0 rfl _ _ HRR.out Tryd.underlying60 rfl Z20.out ?_) | (refine wpList_store_row rfl 60 (.tmp 2) (.tmp 154) rfl p2 0 rfl _ _ rfl HOW.out (by simp [h20]) Z20.out (int_oneCell _) ?_; intro W10 hr10 hc10; have HR10 := Lib.hid hr10; have HC10 := Lib.hid hc10; clear hr10 hc10))
        have hK2 : W10.heap[D]? = some (.deferred (some [])) := by
          rw [HC10.out.block D hdl (fun e => by have h2 := HP2.out; have e' : D = p2 := e; omega)]; exact HDW.out
        have hkf : Keeps w W10 := Below.trans HKW.out (HC10.out.below HKW.out.size (fun k hk e => by have := HP2.out; omega))
        have HRF := Lib.hid (row_kept HR10.out (grownBy_putObj' W10 D (.deferred none)) (fun r e => by cases e; exact ⟨_, hK2, rfl⟩))
        have HKF := Lib.hid (Below.trans hkf (belowK_b (w := w) (Nat.le_refl _) W10 D _ (.deferred none) (by omega) hK2 rfl rfl))
        clear hkf
        simp only [Act.put, List.setIfInBounds_toArray, List.set_cons_zero, List.set_cons_succ]
        refine ⟨by simp, .inl ⟨_, _, rfl, run_takeDeferred hK2, ?_⟩⟩
        exact ⟨_, results_cell_at (p := 2) (ty := 60) rfl _ _ p2 0 _ _ rfl HRF.out Tryd.underlying60 rfl Z20.out, by rw [HSE.out], HKF.out⟩
  case stop =>
    rintro D c pre W _ _ h _
    exact h.elim
end Go.Proofs.YtlofddoojkeakaaDoor.Rip
