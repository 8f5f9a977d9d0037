/- The reference's RIPEMD-160 (strongboxref02.Ripemd) is RIPEMD-160. -/
import Derived.Test.YtgdbaejcbfofoaaRipParts
import Derived.Test.YtgdbaejcbfofoaaRefSum5
namespace Go.Proofs.Ytgdbaejcbfofoaa.Rip
set_option linter.unusedVariables false
set_option linter.unusedSimpArgs false
open Go Go.RowKit

/-- the reference's word, after j of its bytes, from the last on -/
def lp (l : List Int) (t : Nat) : Nat → Int
  | 0 => 0
  | j + 1 => (lp l t j * 256 + l.getD (4 * t + (3 - j)) 0) % 4294967296
theorem lp_range (l : List Int) (t j : Nat) : W32 (lp l t j) := by
  cases j with
  | zero => exact ⟨by simp [lp], by simp [lp]⟩
  | succ j => exact ⟨by simp only [lp]; omega, by simp only [lp]; omega⟩
theorem lp_full {l : List Int} (h : Bytes l) (t : Nat) : lp l t 4 = lword l t := by
  unfold lword
  simp only [lp, Nat.sub_zero, Nat.reduceSub, Nat.add_zero]
  obtain ⟨a0, a1⟩ := h.getD (4 * t)
  obtain ⟨b0, b1⟩ := h.getD (4 * t + 1)
  obtain ⟨c0, c1⟩ := h.getD (4 * t + 2)
  obtain ⟨d0, d1⟩ := h.getD (4 * t + 3)
  omega
def xw (l : List Int) (t j : Nat) : List Int := (xbuf l t).set t (lp l t j)
theorem xw_zero (l : List Int) (t : Nat) (h : t < 16) : xw l t 0 = xbuf l t := by
  unfold xw xbuf
  rw [List.set_append_right _ _ (by simp)]
  simp only [List.length_map, List.length_range, Nat.sub_self]
  rw [show 16 - t = (15 - t) + 1 by omega, List.replicate_succ]
  rfl
theorem xw_full {l : List Int} (hb : Bytes l) (t : Nat) (h : t < 16) : xw l t 4 = xbuf l (t + 1) := by
  unfold xw
  rw [lp_full hb, xbuf_set _ _ h]
theorem xw_length (l : List Int) (t j : Nat) (h : t ≤ 16) : (xw l t j).length = 16 := by unfold xw; rw [List.length_set, xbuf_length _ _ h]
theorem xw_getD (l : List Int) (t j : Nat) (h : t < 16) : (xw l t j).getD t 0 = lp l t j := by
  have : t < (xbuf l t).length := by rw [xbuf_length _ _ (by omega)]; exact h
  unfold xw
  simp [List.getD, this]
theorem xw_set (l : List Int) (t j : Nat) : (xw l t j).set t (lp l t (j + 1)) = xw l t (j + 1) := by unfold xw; rw [List.set_set]
/-- the six tables -/
structure Tabs (W : World) (b3 b4 b5 b6 b7 b8 : Nat) : Prop where
  r3 : Row W b3 0 ((ints rL).map (Value.int .i64))
  r4 : Row W b4 0 ((ints rR).map (Value.int .i64))
  r5 : Row W b5 0 ((ints sL).map (Value.int .i64))
  r6 : Row W b6 0 ((ints sR).map (Value.int .i64))
  r7 : Row W b7 0 (kL.map (Value.int .u32))
  r8 : Row W b8 0 (kR.map (Value.int .u32))
theorem Tabs.chg {S : Nat → Prop} {W W' : World} {b3 b4 b5 b6 b7 b8 : Nat} (h : Tabs W b3 b4 b5 b6 b7 b8) (hc : Chg S W W') (hs : ¬ S b3 ∧ ¬ S b4 ∧ ¬ S b5 ∧ ¬ S b6 ∧ ¬ S b7 ∧ ¬ S b8) : Tabs W' b3 b4 b5 b6 b7 b8 :=
  ⟨h.r3.chg hc hs.1, h.r4.chg hc hs.2.1, h.r5.chg hc hs.2.2.1, h.r6.chg hc hs.2.2.2.1, h.r7.chg hc hs.2.2.2.2.1, h.r8.chg hc hs.2.2.2.2.2⟩
theorem Tabs.keeps {W W' : World} {b3 b4 b5 b6 b7 b8 : Nat} (h : Tabs W b3 b4 b5 b6 b7 b8) (hk : Keeps W W') : Tabs W' b3 b4 b5 b6 b7 b8 := h.chg (hk.chg (fun _ => False)) ⟨id, id, id, id, id, id⟩
theorem ints_ne (l : List Nat) (h : l.length = 80) : (ints l).map (Value.int .i64) ≠ [] := by intro e; have := congrArg List.length e; rw [List.length_map, ints_length, h] at this; simp at this
theorem k_ne (l : List Int) (h : l.length = 5) : l.map (Value.int .u32) ≠ [] := by intro e; have := congrArg List.length e; rw [List.length_map, h] at this; simp at this
theorem Tabs.lt {W : World} {b3 b4 b5 b6 b7 b8 : Nat} (h : Tabs W b3 b4 b5 b6 b7 b8) : b3 < W.heap.size ∧ b4 < W.heap.size ∧ b5 < W.heap.size ∧ b6 < W.heap.size ∧ b7 < W.heap.size ∧ b8 < W.heap.size :=
  ⟨h.r3.lt (ints_ne _ rfl), h.r4.lt (ints_ne _ rfl), h.r5.lt (ints_ne _ rfl), h.r6.lt (ints_ne _ rfl), h.r7.lt (k_ne _ rfl), h.r8.lt (k_ne _ rfl)⟩
/-- what the tables hold for step j -/
theorem Tabs.at {W : World} {b3 b4 b5 b6 b7 b8 : Nat} (h : Tabs W b3 b4 b5 b6 b7 b8) (j : Nat) (hj : j < 80) :
    W.cell? ⟨b3, j, none⟩ = some (.int .i64 ((rL.getD j 0 : Nat) : Int)) ∧ W.cell? ⟨b4, j, none⟩ = some (.int .i64 ((rR.getD j 0 : Nat) : Int)) ∧ W.cell? ⟨b5, j, none⟩ = some (.int .i64 ((sL.getD j 0 : Nat) : Int)) ∧ W.cell? ⟨b6, j, none⟩ = some (.int .i64 ((sR.getD j 0 : Nat) : Int)) ∧ W.cell? ⟨b7, j / 16, none⟩ = some (.int .u32 (kL.getD (j / 16) 0)) ∧ W.cell? ⟨b8, j / 16, none⟩ = some (.int .u32 (kR.getD (j / 16) 0)) := by
  have h80 : ∀ l : List Nat, l.length = 80 → j < (ints l).length := fun l hl => by rw [ints_length, hl]; exact hj
  have g3 := h.r3.int0 j (h80 _ rfl)
  have g4 := h.r4.int0 j (h80 _ rfl)
  have g5 := h.r5.int0 j (h80 _ rfl)
  have g6 := h.r6.int0 j (h80 _ rfl)
  rw [ints_getD] at g3 g4 g5 g6
  exact ⟨g3, g4, g5, g6, h.r7.int0 (j / 16) (by show j / 16 < 5; omega), h.r8.int0 (j / 16) (by show j / 16 < 5; omega)⟩
/-- what the reference's Ripemd holds at a block's beginning -/
structure RefR (w W : World) (p2 b3 b4 b5 b6 b7 b8 p9 gm om : Nat) (M : List Int) (s : S5) : Prop where
  keeps : Keeps w W
  res : Row W p2 0 (List.replicate 20 (Value.int .u8 0))
  tabs : Tabs W b3 b4 b5 b6 b7 b8
  st : Row W p9 0 (s.list.map (Value.int .u32))
  msg : Row W gm om (M.map (Value.int .u8))
  new : w.heap.size ≤ p9 ∧ p2 ≠ p9 ∧ b3 ≠ p9 ∧ b4 ≠ p9 ∧ b5 ≠ p9 ∧ b6 ≠ p9 ∧ b7 ≠ p9 ∧ b8 ≠ p9 ∧ gm ≠ p9
theorem RefR.step {w W W' : World} {p2 b3 b4 b5 b6 b7 b8 p9 gm om : Nat} {M : List Int} {s : S5} (h : RefR w W p2 b3 b4 b5 b6 b7 b8 p9 gm om M s) (hk : Keeps W W') : RefR w W' p2 b3 b4 b5 b6 b7 b8 p9 gm om M s :=
  ⟨h.keeps.trans hk, h.res.keeps hk, h.tabs.keeps hk, h.st.keeps hk, h.msg.keeps hk, h.new⟩
theorem RefR.chg {w W W' : World} {p2 b3 b4 b5 b6 b7 b8 p9 gm om : Nat} {M : List Int} {s s' : S5} (h : RefR w W p2 b3 b4 b5 b6 b7 b8 p9 gm om M s) (hc : Chg (· = p9) W W') (hr : Row W' p9 0 (s'.list.map (Value.int .u32))) : RefR w W' p2 b3 b4 b5 b6 b7 b8 p9 gm om M s' := by
  obtain ⟨n0, n1, n2, n3, n4, n5, n6, n7, n8⟩ := h.new
  exact ⟨keeps_chg h.keeps hc n0, h.res.chg hc n1, h.tabs.chg hc ⟨n2, n3, n4, n5, n6, n7⟩, hr, h.msg.chg hc n8, h.new⟩
/-- blocks from N on have changed -/
theorem RefR.other {S : Nat → Prop} {w W W' : World} {p2 b3 b4 b5 b6 b7 b8 p9 gm om N : Nat} {M : List Int} {s : S5} (h : RefR w W p2 b3 b4 b5 b6 b7 b8 p9 gm om M s) (hc : Chg S W W') (hS : ∀ k, S k → N ≤ k) (hN : w.heap.size ≤ N ∧ p2 < N ∧ b3 < N ∧ b4 < N ∧ b5 < N ∧ b6 < N ∧ b7 < N ∧ b8 < N ∧ p9 < N ∧ gm < N) : RefR w W' p2 b3 b4 b5 b6 b7 b8 p9 gm om M s := by
  obtain ⟨n0, n1, n2, n3, n4, n5, n6, n7, n8, n9⟩ := hN
  have hn : ∀ b, b < N → ¬ S b := fun b hb hs => by have := hS b hs; omega
  exact ⟨Below.trans h.keeps (hc.below h.keeps.size (fun k hk e => by have := hS k e; omega)), h.res.chg hc (hn _ n1), h.tabs.chg hc ⟨hn _ n2, hn _ n3, hn _ n4, hn _ n5, hn _ n6, hn _ n7⟩, h.st.chg hc (hn _ n8), h.msg.chg hc (hn _ n9), h.new⟩
theorem RefR.lt {w W : World} {p2 b3 b4 b5 b6 b7 b8 p9 gm om : Nat} {M : List Int} {s : S5} (h : RefR w W p2 b3 b4 b5 b6 b7 b8 p9 gm om M s) (hM : M ≠ []) : w.heap.size ≤ W.heap.size ∧ p2 < W.heap.size ∧ b3 < W.heap.size ∧ b4 < W.heap.size ∧ b5 < W.heap.size ∧ b6 < W.heap.size ∧ b7 < W.heap.size ∧ b8 < W.heap.size ∧ p9 < W.heap.size ∧ gm < W.heap.size := by
  obtain ⟨t3, t4, t5, t6, t7, t8⟩ := h.tabs.lt
  exact ⟨h.keeps.size, h.res.lt (by simp), t3, t4, t5, t6, t7, t8, h.st.lt (by simp [S5.list]), h.msg.lt (by simpa using hM)⟩
set_option maxHeartbeats 8000000 in
set_option maxRecDepth 100000 in
theorem ref_ripemd (v : Value) (n : Nat) (zs : List Int) (w : World) (hr : Rd w 1 v n (zs.map (Value.int .u8))) (hz : Bytes zs) (hn : n ≤ 35184372088832) :
    Calls Try.prog 47 #[v] w fun e w' => e = .returned (.agg ((rip160 zs).map (Value.int .u8)).toArray) ∧ Keeps w w' := by
  have hzl : zs.length = n := by have := hr.1; simpa using this
  have hf63 : fillN 64 8 n ≤ 63 := by unfold fillN; omega
  have hml : (zs ++ fillL 64 8 n true).length = n + (9 + fillN 64 8 n) := by rw [List.length_append, fillL_length, hzl]; omega
  have hmb : Bytes (zs ++ fillL 64 8 n true) := by
    intro x hx
    rcases List.mem_append.1 hx with h | h
    · exact hz x h
    · exact B64.fillL_bytes 64 8 n true x h
  have hmod : (n + (9 + fillN 64 8 n)) % 64 = 0 := by unfold fillN; omega
  have hsha : rip160 zs = Rip.outB (run160 iv160 (zs ++ fillL 64 8 n true) ((n + (9 + fillN 64 8 n)) / 64)).list := by unfold rip160 msg160; rw [hzl, hml]
  have hfill : ∀ W, Keeps w W → Calls Try.prog 62 #[v, .int .i64 64, .int .i64 8, .bool true] W fun e w' => ∃ v', e = .returned v' ∧ Own W w' v' (n + (1 + fillN 64 8 n + 8)) (zs ++ fillL 64 8 n true) := fun W h => fill_any 64 8 (.inl ⟨rfl, rfl⟩) true v n zs W (hr.keeps h) (by omega)
  simp only [show n + (1 + fillN 64 8 n + 8) = n + (9 + fillN 64 8 n) by omega] at hfill
  rw [hsha]
  have HFILL := Lib.hid hfill; have HMB := Lib.hid hmb; have HML := Lib.hid hml
  clear hr hz hzl hfill hmb hml hsha
  obtain ⟨B, hB⟩ : ∃ B, n + (9 + fillN 64 8 n) = 64 * B := ⟨(n + (9 + fillN 64 8 n)) / 64, by omega⟩
  rw [show (n + (9 + fillN 64 8 n)) / 64 = B by omega]
  rw [hB] at HFILL HML
  generalize zs ++ fillL 64 8 n true = M at *
  have hBb : B ≤ 549755813890 := by omega
  have hB1 : 1 ≤ B := by omega
  clear hmod hf63 hB
  go_enter Try.func47, Try.ntmps47
  go_upto_region 1 with (fail)
  refine wp_gen (fun W => Keeps w W ∧ w.heap.size < W.heap.size ∧ Row W w.heap.size 0 (List.replicate 20 (Value.int .u8 0))) ⟨(Keeps.refl _).alloc (Nat.le_refl _) _, by show _ < (w.heap.push _).size; rw [Array.size_push]; omega, Row.new _ _ _ rfl⟩ ?_
  intro W1 ⟨hk1, hl1, hr1⟩
  obtain ⟨p2, hp2⟩ : ∃ p, p = w.heap.size := ⟨_, rfl⟩
  rw [← hp2] at hr1 ⊢
  have HP2 := Lib.hid hp2
  clear hp2
  have hlp2 : p2 < W1.heap.size := by have := HP2.out; omega
  have HK1 := Lib.hid hk1; have HR2 := Lib.hid hr1
  clear hk1 hr1 hl1
  go_upto_region 2 with (first | (refine wpList_buildFlatArr rfl 134 3 80 _ rfl .i64 (ints rL) Try.underlying134 sz_int (by kernel_rfl) (by kernel_rfl) ?_) | (refine wpList_store_row rfl 134 (.tmp 3) (.tmp 21) rfl W1.heap.size 0 rfl (List.replicate 80 (Value.int .i64 0)) ((ints rL).map (Value.int .i64)) rfl (Row.new _ _ _ rfl) (by simp [ints_length]; rfl) (by rw [List.length_map, ints_length]; exact sz80) (int_oneCell _) ?_; intro W2 hr hc; have HR3 := Lib.hid hr; have HC := Lib.hid hc; clear hr hc))
  have hk : Keeps w W2 := keeps_chg (keeps_alloc HK1.out _) HC.out HK1.out.size
  have hr2 := (HR2.out.alloc (.cells (List.replicate 80 (Value.int .i64 0)).toArray 134)).chg HC.out (by omega)
  have hl3 : W1.heap.size < W2.heap.size := HR3.out.lt (ints_ne _ rfl)
  clear HC HK1 HR2
  have HK2 := Lib.hid hk
  have HR2 := Lib.hid hr2
  clear hk hr2
  obtain ⟨b3, hb3⟩ : ∃ p, p = W1.heap.size := ⟨_, rfl⟩
  rw [← hb3] at HR3 ⊢
  have HN3 := Lib.hid hb3
  have hlt3 : b3 < W2.heap.size := by omega
  have hne3 : p2 < b3 ∧ p2 ≠ b3 := by omega
  have hsz : W1.heap.size ≤ W2.heap.size := by omega
  clear hb3 
  have hlp2 : p2 < W2.heap.size := by omega
  clear hsz hl3
  go_upto_region 3 with (first | (refine wpList_buildFlatArr rfl 134 3 80 _ rfl .i64 (ints rR) Try.underlying134 sz_int (by kernel_rfl) (by kernel_rfl) ?_) | (refine wpList_store_row rfl 134 (.tmp 4) (.tmp 22) rfl W2.heap.size 0 rfl (List.replicate 80 (Value.int .i64 0)) ((ints rR).map (Value.int .i64)) rfl (Row.new _ _ _ rfl) (by simp [ints_length]; rfl) (by rw [List.length_map, ints_length]; exact sz80) (int_oneCell _) ?_; intro W3 hr hc; have HR4 := Lib.hid hr; have HC := Lib.hid hc; clear hr hc))
  have hk : Keeps w W3 := keeps_chg (keeps_alloc HK2.out _) HC.out HK2.out.size
  have hr2 := (HR2.out.alloc (.cells (List.replicate 80 (Value.int .i64 0)).toArray 134)).chg HC.out (by omega)
  have hr3 := (HR3.out.alloc (.cells (List.replicate 80 (Value.int .i64 0)).toArray 134)).chg HC.out (by omega)
  have hl4 : W2.heap.size < W3.heap.size := HR4.out.lt (ints_ne _ rfl)
  clear HC HK2 HR2 HR3
  have HK3 := Lib.hid hk
  have HR2 := Lib.hid hr2
  have HR3 := Lib.hid hr3
  clear hk hr2 hr3
  obtain ⟨b4, hb4⟩ : ∃ p, p = W2.heap.size := ⟨_, rfl⟩
  rw [← hb4] at HR4 ⊢
  have HN4 := Lib.hid hb4
  have hlt4 : b4 < W3.heap.size := by omega
  have hne4 : p2 < b4 ∧ p2 ≠ b4 ∧ b3 ≠ b4 := by omega
  have hsz : W2.heap.size ≤ W3.heap.size := by omega
  clear hb4 hlt3
  have hlp2 : p2 < W3.heap.size := by omega
  have hlt3 : b3 < W3.heap.size := HR3.out.lt (ints_ne _ rfl)
  clear hsz hl4
  go_upto_region 4 with (first | (refine wpList_buildFlatArr rfl 134 3 80 _ rfl .i64 (ints sL) Try.underlying134 sz_int (by kernel_rfl) (by kernel_rfl) ?_) | (refine wpList_store_row rfl 134 (.tmp 5) (.tmp 23) rfl W3.heap.size 0 rfl (List.replicate 80 (Value.int .i64 0)) ((ints sL).map (Value.int .i64)) rfl (Row.new _ _ _ rfl) (by simp [ints_length]; rfl) (by rw [List.length_map, ints_length]; exact sz80) (int_oneCell _) ?_; intro W4 hr hc; have HR5 := Lib.hid hr; have HC := Lib.hid hc; clear hr hc))
  have hk : Keeps w W4 := keeps_chg (keeps_alloc HK3.out _) HC.out HK3.out.size
  have hr2 := (HR2.out.alloc (.cells (List.replicate 80 (Value.int .i64 0)).toArray 134)).chg HC.out (by omega)
  have hr3 := (HR3.out.alloc (.cells (List.replicate 80 (Value.int .i64 0)).toArray 134)).chg HC.out (by omega)
  have hr4 := (HR4.out.alloc (.cells (List.replicate 80 (Value.int .i64 0)).toArray 134)).chg HC.out (by omega)
  have hl5 : W3.heap.size < W4.heap.size := HR5.out.lt (ints_ne _ rfl)
  clear HC HK3 HR2 HR3 HR4
  have HK4 := Lib.hid hk
  have HR2 := Lib.hid hr2
  have HR3 := Lib.hid hr3
  have HR4 := Lib.hid hr4
  clear hk hr2 hr3 hr4
  obtain ⟨b5, hb5⟩ : ∃ p, p = W3.heap.size := ⟨_, rfl⟩
  rw [← hb5] at HR5 ⊢
  have HN5 := Lib.hid hb5
  have hlt5 : b5 < W4.heap.size := by omega
  have hne5 : p2 < b5 ∧ p2 ≠ b5 ∧ b3 ≠ b5 ∧ b4 ≠ b5 := by omega
  have hsz : W3.heap.size ≤ W4.heap.size := by omega
  clear hb5 hlt3 hlt4
  have hlp2 : p2 < W4.heap.size := by omega
  have hlt3 : b3 < W4.heap.size := HR3.out.lt (ints_ne _ rfl)
  have hlt4 : b4 < W4.heap.size := HR4.out.lt (ints_ne _ rfl)
  clear hsz hl5
  go_upto_region 5 with (first | (refine wpList_buildFlatArr rfl 134 3 80 _ rfl .i64 (ints sR) Try.underlying134 sz_int (by kernel_rfl) (by kernel_rfl) ?_) | (refine wpList_store_row rfl 134 (.tmp 6) (.tmp 24) rfl W4.heap.size 0 rfl (List.replicate 80 (Value.int .i64 0)) ((ints sR).map (Value.int .i64)) rfl (Row.new _ _ _ rfl) (by simp [ints_length]; rfl) (by rw [List.length_map, ints_length]; exact sz80) (int_oneCell _) ?_; intro W5 hr hc; have HR6 := Lib.hid hr; have HC := Lib.hid hc; clear hr hc))
  have hk : Keeps w W5 := keeps_chg (keeps_alloc HK4.out _) HC.out HK4.out.size
  have hr2 := (HR2.out.alloc (.cells (List.replicate 80 (Value.int .i64 0)).toArray 134)).chg HC.out (by omega)
  have hr3 := (HR3.out.alloc (.cells (List.replicate 80 (Value.int .i64 0)).toArray 134)).chg HC.out (by omega)
  have hr4 := (HR4.out.alloc (.cells (List.replicate 80 (Value.int .i64 0)).toArray 134)).chg HC.out (by omega)
  have hr5 := (HR5.out.alloc (.cells (List.replicate 80 (Value.int .i64 0)).toArray 134)).chg HC.out (by omega)
  have hl6 : W4.heap.size < W5.heap.size := HR6.out.lt (ints_ne _ rfl)
  clear HC HK4 HR2 HR3 HR4 HR5
  have HK5 := Lib.hid hk
  have HR2 := Lib.hid hr2
  have HR3 := Lib.hid hr3
  have HR4 := Lib.hid hr4
  have HR5 := Lib.hid hr5
  clear hk hr2 hr3 hr4 hr5
  obtain ⟨b6, hb6⟩ : ∃ p, p = W4.heap.size := ⟨_, rfl⟩
  rw [← hb6] at HR6 ⊢
  have HN6 := Lib.hid hb6
  have hlt6 : b6 < W5.heap.size := by omega
  have hne6 : p2 < b6 ∧ p2 ≠ b6 ∧ b3 ≠ b6 ∧ b4 ≠ b6 ∧ b5 ≠ b6 := by omega
  have hsz : W4.heap.size ≤ W5.heap.size := by omega
  clear hb6 hlt3 hlt4 hlt5
  have hlp2 : p2 < W5.heap.size := by omega
  have hlt3 : b3 < W5.heap.size := HR3.out.lt (ints_ne _ rfl)
  have hlt4 : b4 < W5.heap.size := HR4.out.lt (ints_ne _ rfl)
  have hlt5 : b5 < W5.heap.size := HR5.out.lt (ints_ne _ rfl)
  clear hsz hl6
  go_upto_region 6 with (first | (refine wpList_buildFlatArr rfl 132 26 5 _ rfl .u32 kL Try.underlying132 sz_u32 (by kernel_rfl) (by kernel_rfl) ?_) | (refine wpList_store_row rfl 132 (.tmp 7) (.tmp 25) rfl W5.heap.size 0 rfl (List.replicate 5 (Value.int .u32 0)) (kL.map (Value.int .u32)) rfl (Row.new _ _ _ rfl) rfl sz5 (int_oneCell _) ?_; intro W6 hr hc; have HR7 := Lib.hid hr; have HC := Lib.hid hc; clear hr hc))
  have hk : Keeps w W6 := keeps_chg (keeps_alloc HK5.out _) HC.out HK5.out.size
  have hr2 := (HR2.out.alloc (.cells (List.replicate 5 (Value.int .u32 0)).toArray 132)).chg HC.out (by omega)
  have hr3 := (HR3.out.alloc (.cells (List.replicate 5 (Value.int .u32 0)).toArray 132)).chg HC.out (by omega)
  have hr4 := (HR4.out.alloc (.cells (List.replicate 5 (Value.int .u32 0)).toArray 132)).chg HC.out (by omega)
  have hr5 := (HR5.out.alloc (.cells (List.replicate 5 (Value.int .u32 0)).toArray 132)).chg HC.out (by omega)
  have hr6 := (HR6.out.alloc (.cells (List.replicate 5 (Value.int .u32 0)).toArray 132)).chg HC.out (by omega)
  have hl7 : W5.heap.size < W6.heap.size := HR7.out.lt (k_ne _ rfl)
  clear HC HK5 HR2 HR3 HR4 HR5 HR6
  have HK6 := Lib.hid hk
  have HR2 := Lib.hid hr2
  have HR3 := Lib.hid hr3
  have HR4 := Lib.hid hr4
  have HR5 := Lib.hid hr5
  have HR6 := Lib.hid hr6
  clear hk hr2 hr3 hr4 hr5 hr6
  obtain ⟨b7, hb7⟩ : ∃ p, p = W5.heap.size := ⟨_, rfl⟩
  rw [← hb7] at HR7 ⊢
  have HN7 := Lib.hid hb7
  have hlt7 : b7 < W6.heap.size := by omega
  have hne7 : p2 < b7 ∧ p2 ≠ b7 ∧ b3 ≠ b7 ∧ b4 ≠ b7 ∧ b5 ≠ b7 ∧ b6 ≠ b7 := by omega
  have hsz : W5.heap.size ≤ W6.heap.size := by omega
  clear hb7 hlt3 hlt4 hlt5 hlt6
  have hlp2 : p2 < W6.heap.size := by omega
  have hlt3 : b3 < W6.heap.size := HR3.out.lt (ints_ne _ rfl)
  have hlt4 : b4 < W6.heap.size := HR4.out.lt (ints_ne _ rfl)
  have hlt5 : b5 < W6.heap.size := HR5.out.lt (ints_ne _ rfl)
  have hlt6 : b6 < W6.heap.size := HR6.out.lt (ints_ne _ rfl)
  clear hsz hl7
  go_upto_region 7 with (first | (refine wpList_buildFlatArr rfl 132 26 5 _ rfl .u32 kR Try.underlying132 sz_u32 (by kernel_rfl) (by kernel_rfl) ?_) | (refine wpList_store_row rfl 132 (.tmp 8) (.tmp 26) rfl W6.heap.size 0 rfl (List.replicate 5 (Value.int .u32 0)) (kR.map (Value.int .u32)) rfl (Row.new _ _ _ rfl) rfl sz5 (int_oneCell _) ?_; intro W7 hr hc; have HR8 := Lib.hid hr; have HC := Lib.hid hc; clear hr hc))
  have hk : Keeps w W7 := keeps_chg (keeps_alloc HK6.out _) HC.out HK6.out.size
  have hr2 := (HR2.out.alloc (.cells (List.replicate 5 (Value.int .u32 0)).toArray 132)).chg HC.out (by omega)
  have hr3 := (HR3.out.alloc (.cells (List.replicate 5 (Value.int .u32 0)).toArray 132)).chg HC.out (by omega)
  have hr4 := (HR4.out.alloc (.cells (List.replicate 5 (Value.int .u32 0)).toArray 132)).chg HC.out (by omega)
  have hr5 := (HR5.out.alloc (.cells (List.replicate 5 (Value.int .u32 0)).toArray 132)).chg HC.out (by omega)
  have hr6 := (HR6.out.alloc (.cells (List.replicate 5 (Value.int .u32 0)).toArray 132)).chg HC.out (by omega)
  have hr7 := (HR7.out.alloc (.cells (List.replicate 5 (Value.int .u32 0)).toArray 132)).chg HC.out (by omega)
  have hl8 : W6.heap.size < W7.heap.size := HR8.out.lt (k_ne _ rfl)
  clear HC HK6 HR2 HR3 HR4 HR5 HR6 HR7
  have HK7 := Lib.hid hk
  have HR2 := Lib.hid hr2
  have HR3 := Lib.hid hr3
  have HR4 := Lib.hid hr4
  have HR5 := Lib.hid hr5
  have HR6 := Lib.hid hr6
  have HR7 := Lib.hid hr7
  clear hk hr2 hr3 hr4 hr5 hr6 hr7
  obtain ⟨b8, hb8⟩ : ∃ p, p = W6.heap.size := ⟨_, rfl⟩
  rw [← hb8] at HR8 ⊢
  have HN8 := Lib.hid hb8
  have hlt8 : b8 < W7.heap.size := by omega
  have hne8 : p2 < b8 ∧ p2 ≠ b8 ∧ b3 ≠ b8 ∧ b4 ≠ b8 ∧ b5 ≠ b8 ∧ b6 ≠ b8 ∧ b7 ≠ b8 := by omega
  have hsz : W6.heap.size ≤ W7.heap.size := by omega
  clear hb8 hlt3 hlt4 hlt5 hlt6 hlt7
  have hlp2 : p2 < W7.heap.size := by omega
  have hlt3 : b3 < W7.heap.size := HR3.out.lt (ints_ne _ rfl)
  have hlt4 : b4 < W7.heap.size := HR4.out.lt (ints_ne _ rfl)
  have hlt5 : b5 < W7.heap.size := HR5.out.lt (ints_ne _ rfl)
  have hlt6 : b6 < W7.heap.size := HR6.out.lt (ints_ne _ rfl)
  have hlt7 : b7 < W7.heap.size := HR7.out.lt (k_ne _ rfl)
  clear hsz hl8
  go_upto_region 8 with (first | (refine wpList_buildFlatArr rfl 132 26 5 _ rfl .u32 iv160.list Try.underlying132 sz_u32 (by kernel_rfl) (by kernel_rfl) ?_) | (refine wpList_store_row rfl 132 (.tmp 9) (.tmp 27) rfl W7.heap.size 0 rfl (List.replicate 5 (Value.int .u32 0)) (iv160.list.map (Value.int .u32)) rfl (Row.new _ _ _ rfl) rfl sz5 (int_oneCell _) ?_; intro W8 hr hc; have HR9 := Lib.hid hr; have HC := Lib.hid hc; clear hr hc))
  have hk : Keeps w W8 := keeps_chg (keeps_alloc HK7.out _) HC.out HK7.out.size
  have hr2 := (HR2.out.alloc (.cells (List.replicate 5 (Value.int .u32 0)).toArray 132)).chg HC.out (by omega)
  have hr3 := (HR3.out.alloc (.cells (List.replicate 5 (Value.int .u32 0)).toArray 132)).chg HC.out (by omega)
  have hr4 := (HR4.out.alloc (.cells (List.replicate 5 (Value.int .u32 0)).toArray 132)).chg HC.out (by omega)
  have hr5 := (HR5.out.alloc (.cells (List.replicate 5 (Value.int .u32 0)).toArray 132)).chg HC.out (by omega)
  have hr6 := (HR6.out.alloc (.cells (List.replicate 5 (Value.int .u32 0)).toArray 132)).chg HC.out (by omega)
  have hr7 := (HR7.out.alloc (.cells (List.replicate 5 (Value.int .u32 0)).toArray 132)).chg HC.out (by omega)
  have hr8 := (HR8.out.alloc (.cells (List.replicate 5 (Value.int .u32 0)).toArray 132)).chg HC.out (by omega)
  have hl9 : W7.heap.size < W8.heap.size := HR9.out.lt (by simp [S5.list])
  clear HC HK7 HR2 HR3 HR4 HR5 HR6 HR7 HR8
  have HK8 := Lib.hid hk
  have HR2 := Lib.hid hr2
  have HR3 := Lib.hid hr3
  have HR4 := Lib.hid hr4
  have HR5 := Lib.hid hr5
  have HR6 := Lib.hid hr6
  have HR7 := Lib.hid hr7
  have HR8 := Lib.hid hr8
  clear hk hr2 hr3 hr4 hr5 hr6 hr7 hr8
  obtain ⟨p9, hp9⟩ : ∃ p, p = W7.heap.size := ⟨_, rfl⟩
  rw [← hp9] at HR9 ⊢
  have HN9 := Lib.hid hp9
  have hlt9 : p9 < W8.heap.size := by omega
  have hne9 : p2 < p9 ∧ p2 ≠ p9 ∧ b3 ≠ p9 ∧ b4 ≠ p9 ∧ b5 ≠ p9 ∧ b6 ≠ p9 ∧ b7 ≠ p9 ∧ b8 ≠ p9 := by omega
  have hsz : W7.heap.size ≤ W8.heap.size := by omega
  clear hp9 hlt3 hlt4 hlt5 hlt6 hlt7 hlt8
  have hlp2 : p2 < W8.heap.size := by omega
  have hlt3 : b3 < W8.heap.size := HR3.out.lt (ints_ne _ rfl)
  have hlt4 : b4 < W8.heap.size := HR4.out.lt (ints_ne _ rfl)
  have hlt5 : b5 < W8.heap.size := HR5.out.lt (ints_ne _ rfl)
  have hlt6 : b6 < W8.heap.size := HR6.out.lt (ints_ne _ rfl)
  have hlt7 : b7 < W8.heap.size := HR7.out.lt (k_ne _ rfl)
  have hlt8 : b8 < W8.heap.size := HR8.out.lt (k_ne _ rfl)
  clear hsz hl9
  have HNE := Lib.hid hne9
  have hw9 : w.heap.size ≤ p9 := by have h1 := HNE.out.1; have h3 := HP2.out; omega
  obtain ⟨d0, d1, d2, d3, d4, d5, d6, d7⟩ := hne9
  go_upto_region 9 with (go_at_call 62; refine (HFILL.out _ HK8.out).mono ?_; rintro e WF ⟨vm, rfl, hO⟩; have HO := Lib.hid hO; clear hO)
  obtain ⟨gm, om, cm, rfl, hcm1, hcm2, hgm, hrm⟩ := HO.out.buf.form (.inr (by omega))
  have hra : RefR w WF p2 b3 b4 b5 b6 b7 b8 p9 gm om M (run160 iv160 M 0) := ⟨HK8.out.trans HO.out.keeps, HR2.out.keeps HO.out.keeps, ⟨HR3.out.keeps HO.out.keeps, HR4.out.keeps HO.out.keeps, HR5.out.keeps HO.out.keeps, HR6.out.keeps HO.out.keeps, HR7.out.keeps HO.out.keeps, HR8.out.keeps HO.out.keeps⟩, HR9.out.keeps HO.out.keeps, hrm, ⟨hw9, d1, d2, d3, d4, d5, d6, d7, by have := HO.out.new gm rfl; omega⟩⟩
  have HRA := Lib.hid hra
  clear hra hrm HO HK8 HR2 HR3 HR4 HR5 HR6 HR7 HR8 HR9 HFILL HN3 HN4 HN5 HN6 HN7 HN8 HN9 HNE hne3 hne4 hne5 hne6 hne7 hne8 hlt3 hlt4 hlt5 hlt6 hlt7 hlt8 hlp2
  have hMne : M ≠ [] := by intro e; have := HML.out; rw [e] at this; simp at this; omega
  go_wp2
  go_loopw [11] (fun c wr => ∃ i : Nat, i ≤ B ∧ c = .int .i64 (64 * (i : Int)) ∧ RefR w wr p2 b3 b4 b5 b6 b7 b8 p9 gm om M (run160 iv160 M i)) (fun c _ => (64 * B - intOf c).toNat)
  case atStart => exact ⟨0, by omega, by go_num, HRA.out⟩
  case round =>
    obtain ⟨i, hi, rfl, hra⟩ := hrel
    have HRI := Lib.hid hra
    clear hra HRA
    by_cases hlt : i < B
    · have hl : ((M.drop (64 * i)).take 64).length = 64 := by have := HML.out; simp; omega
      have hlb : Bytes ((M.drop (64 * i)).take 64) := fun x hx => HMB.out x (List.mem_of_mem_drop (List.mem_of_mem_take hx))
      have hok := run160_ok iv160_ok M i
      have hnx : run160 iv160 M (i + 1) = block (run160 iv160 M i) ((M.drop (64 * i)).take 64) := rfl
      have hlr : ∀ W s, RefR w W p2 b3 b4 b5 b6 b7 b8 p9 gm om M s → Row W gm (om + 64 * i) (((M.drop (64 * i)).take 64).map (Value.int .u8)) := fun W s h => by
        have := (h.msg.drop (64 * i)).take 64
        rwa [← List.map_drop, ← List.map_take] at this
      generalize (M.drop (64 * i)).take 64 = l at *
      generalize run160 iv160 M i = s at *
      have HNX := Lib.hid hnx; have HOK := Lib.hid hok; have HLB := Lib.hid hlb; have HL := Lib.hid hl; have HLR := Lib.hid hlr
      clear hnx hok hlb hl hlr
      go_upto_region 13 with (fail)
      obtain ⟨q, hq⟩ : ∃ q, q = wr.heap.size := ⟨_, rfl⟩
      have hraq : RefR w (wr.alloc (.cells (List.replicate 16 (Value.int .u32 0)).toArray 138)) p2 b3 b4 b5 b6 b7 b8 p9 gm om M s := HRI.out.step (keeps_alloc (Keeps.refl _) _)
      have hrq : Row (wr.alloc (.cells (List.replicate 16 (Value.int .u32 0)).toArray 138)) q 0 ((xbuf l 0).map (Value.int .u32)) := by rw [hq]; exact Row.new _ _ _ rfl
      have hqb := HRI.out.lt hMne
      rw [← hq] at hqb
      have hwq : q < (wr.alloc (.cells (List.replicate 16 (Value.int .u32 0)).toArray 138)).heap.size := by rw [hq]; simp
      rw [← hq]
      refine wp_gen (fun W => RefR w W p2 b3 b4 b5 b6 b7 b8 p9 gm om M s ∧ q < W.heap.size ∧ Row W q 0 ((xbuf l 0).map (Value.int .u32))) ⟨hraq, hwq, hrq⟩ ?_
      clear hraq hwq hrq hq
      intro Wa ⟨hra, hqa, hrq⟩
      have HRA := Lib.hid hra; have HRQ := Lib.hid hrq; have HQB := Lib.hid hqb
      clear hra hrq HRI hqb
      have HRM := Lib.hid (HLR.out Wa s HRA.out)
      clear HLR
      have hgq : gm ≠ q := by have := HQB.out; omega
      go_wp2
      go_loopw [13] (fun c wr => ∃ t : Nat, t ≤ 16 ∧ c = .int .i64 t ∧ Chg (· = q) Wa wr ∧ Row wr q 0 ((xbuf l t).map (Value.int .u32))) (fun c _ => (16 - intOf c).toNat)
      case atStart => exact ⟨0, by omega, rfl, Chg.refl _ _, HRQ.out⟩
      case round =>
        obtain ⟨t, ht, rfl, hch, hrt⟩ := hrel
        by_cases hlt2 : t < 16
        · rw [← xw_zero l t (by omega)] at hrt
          have HRT := Lib.hid hrt; have HCH := Lib.hid hch
          clear hrt hch
          go_wp2
          go_loopw [14] (fun c wr => ∃ k : Nat, k ≤ 4 ∧ c = .int .i64 (3 - (k : Int)) ∧ Chg (· = q) Wa wr ∧ Row wr q 0 ((xw l t k).map (Value.int .u32))) (fun c _ => (intOf c + 1).toNat)
          case atStart => exact ⟨0, by omega, rfl, HCH.out, HRT.out⟩
          case round =>
            obtain ⟨k, hk, rfl, hch, hrt⟩ := hrel
            by_cases hlt3 : k < 4
            · obtain ⟨m, hm⟩ : ∃ m : Nat, m + k = 3 := ⟨3 - k, by omega⟩
              have em : (3 : Int) - (k : Int) = (m : Int) := by omega
              have em2 : 3 - k = m := by omega
              rw [em]
              have hcm := (HRM.out.chg hch (fun e => hgq e)).int (4 * t + m) (by have := HL.out; omega)
              have hcq := hrt.int0 t (by rw [xw_length _ _ _ (by omega)]; omega)
              have hcf := hrt.free0 t (by rw [List.length_map, xw_length _ _ _ (by omega)]; omega)
              rw [xw_getD _ _ _ hlt2] at hcq
              rw [show om + 64 * i + (4 * t + m) = om + (64 * i + 4 * t + m) by omega] at hcm
              have hib : 64 * (i : Int) + 4 * t + m < 64 * B := by omega
              have hbb := HLB.out.getD (4 * t + m)
              have hww := lp_range l t k
              have hset := fun nq => (hrt.drewN nq).setInt0 t (by rw [xw_length _ _ _ (by omega)]; omega) (lp l t (k + 1))
              simp only [xw_set] at hset
              have hst : lp l t (k + 1) = (lp l t k * 256 + l.getD (4 * t + (3 - k)) 0) % 4294967296 := rfl
              rw [em2] at hst
              have HST := Lib.hid hst
              have HSET := Lib.hid hset; have HCH := Lib.hid hch
              clear hset hch hrt hst
              generalize l.getD (4 * t + m) 0 = y at *
              generalize lp l t k = x at *
              obtain ⟨y0, y1⟩ := hbb
              obtain ⟨x0, x1⟩ := hww
              have EM := Lib.hid em; have EM2 := Lib.hid hm
              clear em em2 hm
              go_wp2
              refine wp_region_quiet_tail 17 (by kernel_rfl) (by kernel_rfl) ?_
              simp only [List.take_succ_cons, List.take_zero, List.drop_succ_cons, List.drop_zero]
              repeat (first | go_big_quiet_step (fail) | quiet_step (fail))
              refine wpQuiet_nil ?_
              intro _ hw'
              obtain ⟨nq, hw''⟩ := hw'
              subst hw''
              go_wp2
              go_roundw
              case rel => exact ⟨k + 1, by omega, by have h1 := EM2.out; have h2 := EM.out; simp only [Value.int.injEq, true_and]; omega, (HCH.out.trans ((Qt.drewN wr nq).keeps.chg _)).setCell (.inr rfl) _, by rw [show x * 256 % 4294967296 + y = lp l t (k + 1) by rw [HST.out]; omega]; exact HSET.out _⟩
              case measure => simp [intOf] <;> omega
            · obtain rfl : k = 4 := by omega
              rw [xw_full HLB.out t hlt2] at hrt
              have HRT := Lib.hid hrt; have HCH := Lib.hid hch
              clear hrt hch
              go_wp2
              go_roundw
              case rel => exact ⟨t + 1, by omega, by go_num, HCH.out, HRT.out⟩
              case measure => simp [intOf]; omega
        · obtain rfl : t = 16 := by omega
          have hrb := HRA.out.other hch (N := q) (fun k e => by have e' : k = q := e; omega) HQB.out
          obtain ⟨Wb, hWb⟩ : ∃ Wb, Wb = wr := ⟨_, rfl⟩
          subst hWb
          have hxl : (xbuf l 16).length = 16 := xbuf_length _ _ (Nat.le_refl _)
          have HXW := Lib.hid (xbuf_words HLB.out 16)
          have HBL : Hid (block s l = s.mix3 (lineRun rL sL kL false s (xbuf l 16) 80) (lineRun rR sR kR true s (xbuf l 16) 80)) := Lib.hid rfl
          have hqb1 : q < Wb.heap.size := hrt.lt (by intro e; have := congrArg List.length e; rw [List.length_map, hxl] at this; simp at this)
          generalize xbuf l 16 = xs at *
          have HRB := Lib.hid hrb; have HRX := Lib.hid hrt; have HXL := Lib.hid hxl
          clear hrb hrt hxl hch HRA HRQ HRM
          have Z5 : Hid ((Try.prog.info? 132).map (·.size) = some (s.list.map (Value.int .u32)).length) := Lib.hid sz5
          go_upto_region 21 with (first | (refine wpList_load_at rfl 132 (.tmp 9) rfl p9 0 rfl (s.list.map (Value.int .u32)) _ HRB.out.st Try.underlying132 rfl Z5.out ?_) | (refine wpList_store_row rfl 132 (.tmp 15) (.tmp 61) rfl Wb.heap.size 0 rfl (List.replicate 5 (Value.int .u32 0)) (s.list.map (Value.int .u32)) rfl (Row.new _ _ _ rfl) rfl Z5.out (int_oneCell _) ?_; intro Wc hrc hcc; have HRV := Lib.hid hrc; have HCC := Lib.hid hcc; clear hrc hcc))
          have hkc : Keeps Wb Wc := keeps_chg (keeps_alloc (Keeps.refl Wb) _) HCC.out (Nat.le_refl _)
          obtain ⟨p15, hp15⟩ : ∃ p, p = Wb.heap.size := ⟨_, rfl⟩
          rw [← hp15] at HRV ⊢ hqb1
          have HKC := Lib.hid hkc
          have hl15 : p15 < Wc.heap.size := HRV.out.lt (by simp [S5.list])
          have hqn := HRB.out.lt hMne
          rw [← hp15] at hqn
          have HQN := Lib.hid hqn
          clear hkc HCC hp15 hqn
          go_upto_region 22 with (first | (refine wpList_load_at rfl 132 (.tmp 9) rfl p9 0 rfl (s.list.map (Value.int .u32)) _ (HRB.out.st.keeps HKC.out) Try.underlying132 rfl Z5.out ?_) | (refine wpList_store_row rfl 132 (.tmp 16) (.tmp 62) rfl Wc.heap.size 0 rfl (List.replicate 5 (Value.int .u32 0)) (s.list.map (Value.int .u32)) rfl (Row.new _ _ _ rfl) rfl Z5.out (int_oneCell _) ?_; intro Wd hrd hcd; have HRW := Lib.hid hrd; have HCD := Lib.hid hcd; clear hrd hcd))
          have hkd : Keeps Wc Wd := keeps_chg (keeps_alloc (Keeps.refl Wc) _) HCD.out (Nat.le_refl _)
          obtain ⟨p16, hp16⟩ : ∃ p, p = Wc.heap.size := ⟨_, rfl⟩
          rw [← hp16] at HRW ⊢ hl15
          have hrcd := HRB.out.step (HKC.out.trans hkd)
          have hrxd := HRX.out.keeps (HKC.out.trans hkd)
          have hrvd := HRV.out.keeps hkd
          have HRC := Lib.hid hrcd; have HRXd := Lib.hid hrxd; have HRVd := Lib.hid hrvd
          clear hrcd hrxd hrvd hkd HCD hp16 HRB HRX HRV HKC
          have HALL : Hid (∀ W', Chg (fun k => p15 ≤ k) Wd W' → Tabs W' b3 b4 b5 b6 b7 b8 ∧ Row W' q 0 (xs.map (Value.int .u32))) := Lib.hid fun W' hc => ⟨(HRC.out.other hc (N := p15) (fun k e => e) HQN.out).tabs, HRXd.out.chg hc (fun e => by have e' : p15 ≤ q := e; omega)⟩
          go_wp2
          go_loopw [17] (fun c wr => ∃ j : Nat, j ≤ 80 ∧ c = .int .i64 j ∧ Chg (fun k => p15 ≤ k) Wd wr ∧ Row wr p15 0 ((lineRun rL sL kL false s xs j).list.map (Value.int .u32)) ∧ Row wr p16 0 ((lineRun rR sR kR true s xs j).list.map (Value.int .u32))) (fun c _ => (80 - intOf c).toNat)
          case atStart => exact ⟨0, by omega, rfl, Chg.refl _ _, HRVd.out, HRW.out⟩
          case round =>
            obtain ⟨j, hj, rfl, hch, hv1, hv2⟩ := hrel
            by_cases hlt4 : j < 80
            · obtain ⟨hT, hX⟩ := HALL.out _ hch
              obtain ⟨c3, c4, c5, c6, c7, c8⟩ := hT.at j hlt4
              have hrn := tabL.r j hlt4
              have hsn := tabL.s j hlt4
              have hcx := hX.int0 (rL.getD j 0) (by rw [HXL.out]; exact hrn)
              have hok1 := lineRun_ok (rt := rL) (st := sL) (kt := kL) (turned := false) HOK.out xs j
              have hok2 := lineRun_ok (rt := rR) (st := sR) (kt := kR) (turned := true) HOK.out xs j
              have hxi := HXW.out.getD (rL.getD j 0)
              have hkw := kL_words.getD (j / 16)
              have HNX1 : Hid (lineRun rL sL kL false s xs (j + 1) = lineStep (lineRun rL sL kL false s xs j) (way false j) (xs.getD (rL.getD j 0) 0) (kL.getD (j / 16) 0) (sL.getD j 0)) := Lib.hid rfl
              have HNX2 : Hid (lineRun rR sR kR true s xs (j + 1) = lineStep (lineRun rR sR kR true s xs j) (way true j) (xs.getD (rR.getD j 0) 0) (kR.getD (j / 16) 0) (sR.getD j 0)) := Lib.hid rfl
              obtain ⟨v0, v1, v2, v3, v4⟩ := S5.cells hv1
              generalize lineRun rL sL kL false s xs j = r1 at *
              generalize lineRun rR sR kR true s xs j = r2 at *
              obtain ⟨ra, rb, rc, rd, re⟩ := r1
              have HV1 := Lib.hid hv1; have HV2 := Lib.hid hv2; have HCH := Lib.hid hch; have HOK2 := Lib.hid hok2
              clear hv1 hv2 hch hok2 hT hX c4 c6 c8
              generalize rL.getD j 0 = rn at *
              generalize sL.getD j 0 = sn at *
              generalize kL.getD (j / 16) 0 = kk at *
              generalize xs.getD rn 0 = xx at *
              obtain ⟨o0, o1, o2, o3, o4⟩ := hok1
              simp only [] at v0 v1 v2 v3 v4 o0 o1 o2 o3 o4
              have a0 := o0.1; have a1 := o0.2; have e0 := o4.1; have e1 := o4.2
              obtain ⟨x0, x1⟩ := hxi
              obtain ⟨k0, k1⟩ := hkw
              obtain ⟨sn0, sn1⟩ := hsn
              go_wp2
              have hm0 : (0 : Int) ≤ (j : Int) / 16 := by omega
              have hm4 : (j : Int) / 16 ≤ 4 := by omega
              have hmm := fun w => f_int ((j : Int) / 16) (by omega) (by omega) rb rc rd o1 o2 o3 w
              have HMM := Lib.hid hmm
              clear hmm
              go_quiet (first | (go_at_call 101; first | exact s1 (HMM.out _) | exact s2 (HMM.out _)) | (go_at_call 63; first | exact s1 (rot_pos _ _ (by omega) (by omega) (by constructor <;> omega) _) | exact s2 (rot_pos _ _ (by omega) (by omega) (by constructor <;> omega) _)))
              go_wp2
              refine wp_region_quiet_tail 11 (by kernel_rfl) (by kernel_rfl) ?_
              simp only [List.take_succ_cons, List.take_zero, List.drop_succ_cons, List.drop_zero]
              repeat (first | go_big_quiet_step (((go_at_call 63; first | exact s1 (rot_pos _ _ (by omega) (by omega) (by assumption) _) | exact s2 (rot_pos _ _ (by omega) (by omega) (by assumption) _) | exact q1 (rot_pos _ _ (by omega) (by omega) (by assumption) _) | exact q2 (rot_pos _ _ (by omega) (by omega) (by assumption) _)))) | quiet_step (((go_at_call 63; first | exact s1 (rot_pos _ _ (by omega) (by omega) (by assumption) _) | exact s2 (rot_pos _ _ (by omega) (by omega) (by assumption) _) | exact q1 (rot_pos _ _ (by omega) (by omega) (by assumption) _) | exact q2 (rot_pos _ _ (by omega) (by omega) (by assumption) _)))))
              refine wpQuiet_nil ?_
              intro _ hw'
              obtain ⟨nq, hw''⟩ := hw'
              subst hw''
              go_wp2_with (refine wpList_store_row rfl 132 (.tmp 15) (.tmp 107) rfl p15 0 rfl _ [_, _, _, _, _] rfl ((HV1.out.drewN _).drewN _) rfl sz5 (by intro v hv; simp only [List.mem_cons, List.not_mem_nil, or_false] at hv; rcases hv with rfl | rfl | rfl | rfl | rfl <;> rfl) ?_; intro w3 hr3 hc3; have HR3 := Lib.hid hr3; have HC3 := Lib.hid hc3; clear hr3 hc3)
              have hr3L : Row w3 p15 0 ((lineStep ⟨ra, rb, rc, rd, re⟩ (way false j) xx kk sn).list.map (Value.int .u32)) := HR3.out
              have hch3 : Chg (fun k => p15 ≤ k) Wd w3 := (HCH.out.trans ((Qt.keeps (by repeat (first | exact Qt.refl _ | exact Qt.drewN _ _ | refine Qt.trans ?_ (Qt.drewN _ _)))).chg _)).trans (HC3.out.mono (fun k _ e => by have e' : k = p15 := e; omega))
              have hv2 := ((HV2.out.drewN _).drewN _).chg HC3.out (fun e => by have e' : p16 = p15 := e; omega)
              have hok2 := HOK2.out
              obtain ⟨hT, hX⟩ := HALL.out _ hch3
              obtain ⟨c3, c4, c5, c6, c7, c8⟩ := hT.at j hlt4
              have HRL := Lib.hid hr3L
              clear hT c3 c5 c7 hr3L
              have hrn := tabR.r j hlt4
              have hsn := tabR.s j hlt4
              have hcx := hX.int0 (rR.getD j 0) (by rw [HXL.out]; exact hrn)
              have hxi := HXW.out.getD (rR.getD j 0)
              have hkw := kR_words.getD (j / 16)
              obtain ⟨v0, v1, v2, v3, v4⟩ := S5.cells hv2
              obtain ⟨rf, rg, rh, ri, rj⟩ := r2
              have HV2 := Lib.hid hv2; have HCH3 := Lib.hid hch3
              clear hv2 hch3 hX HV1 HC3 HCH HOK2 HR3
              clear o0 o1 o2 o3 o4 a0 a1 e0 e1
              generalize rR.getD j 0 = rn2 at *
              generalize sR.getD j 0 = sn2 at *
              generalize kR.getD (j / 16) 0 = kk2 at *
              generalize xs.getD rn2 0 = xx2 at *
              obtain ⟨o0, o1, o2, o3, o4⟩ := hok2
              simp only [] at v0 v1 v2 v3 v4 o0 o1 o2 o3 o4
              have a0 := o0.1; have a1 := o0.2; have e0 := o4.1; have e1 := o4.2
              obtain ⟨x0, x1⟩ := hxi
              obtain ⟨k0, k1⟩ := hkw
              obtain ⟨sn0, sn1⟩ := hsn
              have hj0 : (0 : Int) ≤ (j : Int) := by omega
              obtain ⟨wy, hwy⟩ : ∃ wy : Int, wy = 4 - (j : Int) / 16 := ⟨_, rfl⟩
              have hwz : wy.toNat = way true j := by show wy.toNat = 4 - j / 16; omega
              have hwy0 : 0 ≤ wy := by omega
              have hwy4 : wy ≤ 4 := by omega
              have hw1 : IntKind.i64.wrap (4 - (j : Int) / 16) = wy := by rw [hwy, IntKind.wrap_i64]; omega
              have hw2 : IntKind.i64.wrap ((j : Int).tdiv 16) = (j : Int) / 16 := by rw [Int.tdiv_eq_ediv_of_nonneg hj0, IntKind.wrap_i64]; omega
              have hw3 : IntKind.i64.wrap (4 - (j : Int).tdiv 16) = wy := by rw [hwy, Int.tdiv_eq_ediv_of_nonneg hj0, IntKind.wrap_i64]; omega
              have HWY := Lib.hid hwy; have HWZ := Lib.hid hwz
              clear hwy hwz
              have hmm := fun w => f_int wy hwy0 hwy4 rg rh ri o1 o2 o3 w
              have HMM := Lib.hid hmm
              clear hmm
              refine wp_region_quiet_lit (by kernel_rfl) (by kernel_rfl) ?_
              repeat (first | go_big_quiet_step (first | (go_at_call 101; refine (HMM.out _).mono ?_; rintro e w' ⟨rfl, rfl⟩; exact ⟨rfl, _, rfl⟩) | (go_at_call 63; refine (rot_pos _ _ (by omega) (by omega) (by constructor <;> omega) _).mono ?_; rintro e w' ⟨rfl, rfl⟩; exact ⟨rfl, _, rfl⟩)) | quiet_step (first | (go_at_call 101; refine (HMM.out _).mono ?_; rintro e w' ⟨rfl, rfl⟩; exact ⟨rfl, _, rfl⟩) | (go_at_call 63; refine (rot_pos _ _ (by omega) (by omega) (by constructor <;> omega) _).mono ?_; rintro e w' ⟨rfl, rfl⟩; exact ⟨rfl, _, rfl⟩)))
              refine wpQuiet_nil ?_
              intro _ hw'
              obtain ⟨nq, hw''⟩ := hw'
              subst hw''
              go_wp2
              refine wp_region_quiet_tail 11 (by kernel_rfl) (by kernel_rfl) ?_
              simp only [List.take_succ_cons, List.take_zero, List.drop_succ_cons, List.drop_zero]
              repeat (first | go_big_quiet_step ((go_at_call 63; refine (rot_pos _ _ (by omega) (by omega) (by assumption) _).mono ?_; rintro e w' ⟨rfl, rfl⟩; exact ⟨rfl, _, rfl⟩)) | quiet_step ((go_at_call 63; refine (rot_pos _ _ (by omega) (by omega) (by assumption) _).mono ?_; rintro e w' ⟨rfl, rfl⟩; exact ⟨rfl, _, rfl⟩)))
              refine wpQuiet_nil ?_
              intro _ hw'
              obtain ⟨nq, hw''⟩ := hw'
              subst hw''
              go_wp2_with (refine wpList_store_row rfl 132 (.tmp 16) (.tmp 149) rfl p16 0 rfl _ [_, _, _, _, _] rfl ((HV2.out.drewN _).drewN _) rfl sz5 (by intro v hv; simp only [List.mem_cons, List.not_mem_nil, or_false] at hv; rcases hv with rfl | rfl | rfl | rfl | rfl <;> rfl) ?_; intro w4 hr4 hc4; have HR4 := Lib.hid hr4; have HC4 := Lib.hid hc4; clear hr4 hc4)
              go_roundw
              case rel =>
                refine ⟨j + 1, by omega, by go_num, (HCH3.out.trans ((Qt.keeps (by repeat (first | exact Qt.refl _ | exact Qt.drewN _ _ | refine Qt.trans ?_ (Qt.drewN _ _)))).chg _)).trans (HC4.out.mono (fun k _ e => by have e' : k = p16 := e; omega)), ?_, ?_⟩
                · rw [HNX1.out]
                  exact ((HRL.out.drewN _).drewN _).chg HC4.out (fun e => by have e' : p15 = p16 := e; omega)
                · rw [HNX2.out]
                  have e1 := HWZ.out
                  have hr := HR4.out
                  first
                    | exact hr
                    | (rw [e1] at hr; exact hr)
              case measure => simp [intOf]; omega
            · obtain rfl : j = 80 := by omega
              have hrd := HRC.out.other hch (N := p15) (fun k e => e) HQN.out
              have hou := lineRun_ok (rt := rL) (st := sL) (kt := kL) (turned := false) HOK.out xs 80
              have hov := lineRun_ok (rt := rR) (st := sR) (kt := kR) (turned := true) HOK.out xs 80
              generalize lineRun rL sL kL false s xs 80 = U at *
              generalize lineRun rR sR kR true s xs 80 = Vv at *
              have ho := HOK.out
              have hst := hrd.st
              have HNX2 : Hid (run160 iv160 M (i + 1) = s.mix3 U Vv) := by rw [← HBL.out]; exact HNX
              have HRD := Lib.hid hrd
              clear hrd hch HRC HRXd HRVd HRW HALL HNX HBL HOK
              obtain ⟨ra, rb, rc, rd, re⟩ := s
              obtain ⟨ua, ub, uc, ud, ue⟩ := U
              obtain ⟨va, vb, vc', vd, ve⟩ := Vv
              obtain ⟨y0, y1, y2, y3, y4⟩ := S5.cells hst
              obtain ⟨u0, u1, u2, u3, u4⟩ := S5.cells hv1
              obtain ⟨v0, v1, v2, v3, v4⟩ := S5.cells hv2
              obtain ⟨⟨o00, o01⟩, ⟨o10, o11⟩, ⟨o20, o21⟩, ⟨o30, o31⟩, ⟨o40, o41⟩⟩ := ho
              obtain ⟨⟨m00, m01⟩, ⟨m10, m11⟩, ⟨m20, m21⟩, ⟨m30, m31⟩, ⟨m40, m41⟩⟩ := hou
              obtain ⟨⟨n00, n01⟩, ⟨n10, n11⟩, ⟨n20, n21⟩, ⟨n30, n31⟩, ⟨n40, n41⟩⟩ := hov
              simp only [] at y0 y1 y2 y3 y4 u0 u1 u2 u3 u4 v0 v1 v2 v3 v4
              have HST := Lib.hid hst
              clear hst hv1 hv2
              go_wp2_with (refine wpList_store_row rfl 132 (.tmp 9) (.tmp 190) rfl p9 0 rfl _ [_, _, _, _, _] rfl HST.out rfl sz5 (by intro v hv; simp only [List.mem_cons, List.not_mem_nil, or_false] at hv; rcases hv with rfl | rfl | rfl | rfl | rfl <;> rfl) ?_; intro w9 hr9 hc9; have HR9 := Lib.hid hr9; have HC9 := Lib.hid hc9; clear hr9 hc9)
              go_roundw
              case rel => exact ⟨i + 1, by omega, by go_num, by rw [HNX2.out]; exact HRD.out.chg HC9.out HR9.out⟩
              case measure => simp [intOf]; omega
    · obtain rfl : i = B := by omega
      have hok := run160_ok iv160_ok M i
      generalize hse : run160 iv160 M i = s at *
      have HOK := Lib.hid hok; have HRB := Lib.hid HRI.out; have HSE := Lib.hid hse
      clear hok HRI hse
      go_upto_region 31 with (fail)
      obtain ⟨q, hq⟩ : ∃ q, q = wr.heap.size := ⟨_, rfl⟩
      have hraq : RefR w (wr.alloc (.cells (List.replicate 20 (Value.int .u8 0)).toArray 70)) p2 b3 b4 b5 b6 b7 b8 p9 gm om M s := HRB.out.step (keeps_alloc (Keeps.refl _) _)
      have hrq : Row (wr.alloc (.cells (List.replicate 20 (Value.int .u8 0)).toArray 70)) q 0 ((outR s 0).map (Value.int .u8)) := by rw [hq]; exact Row.new _ _ _ (by rw [outR_zero]; rfl)
      have hqb := HRB.out.lt hMne
      rw [← hq] at hqb
      rw [← hq]
      refine wp_gen (fun W => RefR w W p2 b3 b4 b5 b6 b7 b8 p9 gm om M s ∧ Row W q 0 ((outR s 0).map (Value.int .u8))) ⟨hraq, hrq⟩ ?_
      clear hraq hrq hq
      intro Wa ⟨hra, hrq⟩
      have HRA := Lib.hid hra; have HRQ := Lib.hid hrq
      have HQB : Hid (w.heap.size ≤ q ∧ p2 ≠ q ∧ p9 ≠ q) := Lib.hid (by omega)
      clear hra hrq HRB hqb
      go_wp2
      go_loopw [20] (fun c wr => ∃ t : Nat, t ≤ 20 ∧ c = .int .i64 t ∧ Chg (· = q) Wa wr ∧ Row wr q 0 ((outR s t).map (Value.int .u8))) (fun c _ => (20 - intOf c).toNat)
      case atStart => exact ⟨0, by omega, rfl, Chg.refl _ _, HRQ.out⟩
      case round =>
        obtain ⟨t, ht, rfl, hch, hrt⟩ := hrel
        by_cases hlt2 : t < 20
        · have hcs := (HRA.out.st.chg hch HQB.out.2.2).int0 (t / 4) (by show t / 4 < 5; omega)
          have hfr := hrt.free0 t (by rw [List.length_map, outR_length _ _ (by omega)]; omega)
          have hce := hrt.int0 t (by rw [outR_length _ _ (by omega)]; omega)
          have hset := hrt.setInt0 t (by rw [outR_length _ _ (by omega)]; omega) (s.list.getD (t / 4) 0 / 2 ^ (8 * (t % 4)) % 256)
          rw [outR_set _ _ hlt2] at hset
          have hx := Rip.list_ok HOK.out (t / 4)
          have HSET := Lib.hid hset; have HCH := Lib.hid hch
          clear hset hch hrt
          generalize s.list.getD (t / 4) 0 = x at *
          obtain ⟨x0, x1⟩ := hx
          go_wp2
          go_roundw
          case rel => exact ⟨t + 1, by omega, by go_num, HCH.out.setCell (.inr rfl) _, HSET.out⟩
          case measure => simp [intOf]; omega
        · obtain rfl : t = 20 := by omega
          rw [outR_full] at hrt
          have hw2 := HRA.out.res.chg hch HQB.out.2.1
          have hkw := keeps_chg HRA.out.keeps hch HQB.out.1
          have h20 : (Rip.outB s.list).length = 20 := Rip.outB_length _
          have Z20 : Hid ((Try.prog.info? 70).map (·.size) = some ((Rip.outB s.list).map (Value.int .u8)).length) := by
            rw [List.length_map, h20]; exact Lib.hid (by kernel_rfl)
          have HRR := Lib.hid hrt; have HOW := Lib.hid hw2; have HKW := Lib.hid hkw
          clear hrt hch hw2 hkw
          go_wp2_with (first | (refine wpList_load_at rfl 70 (.tmp 19) rfl q 0 rfl _ _ HRR.out Try.underlying70 rfl Z20.out ?_) | (refine wpList_store_row rfl 70 (.tmp 2) (.tmp 207) rfl p2 0 rfl _ _ rfl HOW.out (by simp [h20]) Z20.out (int_oneCell _) ?_; intro W10 hr10 hc10; have HR10 := Lib.hid hr10; have HC10 := Lib.hid hc10; clear hr10 hc10))
          exact bodyPost_ret (v := .agg ((Rip.outB s.list).map (Value.int .u8)).toArray) (results_cell_at (p := 2) (ty := 70) rfl _ _ p2 0 _ _ rfl HR10.out Try.underlying70 rfl Z20.out) rfl ⟨by rw [HSE.out], Below.trans HKW.out (HC10.out.below HKW.out.size (fun k hk e => by have := HP2.out; omega))⟩
end Go.Proofs.Ytgdbaejcbfofoaa.Rip
