/- hash.Sum256 and Sum's Twice. No condition. | curve's nonce and lessOrEqual. No condition. | What Sign reckons, on numbers: of sixteen numbers in a row one serves, and what is signed is taken. No condition. -/
import Derived.Test.YtajipagpdphejaaGE0
import Derived.Test.YtajipagpdphejaaGD8
namespace Go.Proofs.Ytajipagpdphejaa
set_option linter.unusedVariables false
set_option linter.unusedSimpArgs false
open Go Go.RowKit

theorem outB_length (s : St) : (outB s.list).length = 32 := rfl
theorem outB_bytes (ws : List Int) : Bytes (outB ws) := by
  intro x hx
  simp only [outB, List.mem_flatMap, List.mem_cons, List.not_mem_nil, or_false] at hx
  obtain ⟨y, _, h⟩ := hx
  unfold Byte
  rcases h with rfl | rfl | rfl | rfl <;> omega
theorem sha_bytes (l : List Int) : Bytes (sha256 l) := outB_bytes _
theorem sha_length (l : List Int) : (sha256 l).length = 32 := outB_length _
theorem sz_hash : (Try.prog.info? 44).map (·.size) = some 32 := by kernel_rfl
theorem sumAt_zero {W : World} {p : Nat} (h : Row W p 0 zeroSum) : SumAt W p 0 (.slice none 0 0) [] :=
  ⟨fun x hx => by simp at hx, by simp, ⟨⟨0, 0, 0, 0, 0, 0, 0, 0⟩, false, by unfold St.ok W32; simp, .inr ⟨rfl, rfl⟩, h⟩, Buf.nil _ _, by simp [Value.ownBlock]⟩
def zeros32 : List Value := List.replicate 32 (Value.int .u8 0)
/-- two new blocks: the result's, and a Sum that is nought -/
structure Fresh2 (w W : World) (p q : Nat) : Prop where
  keeps : Keeps w W
  res : Row W p 0 zeros32
  sum : SumAt W q 0 (.slice none 0 0) []
  new : w.heap.size ≤ p ∧ p < q
theorem fresh2 (w : World) (T U : TypeId) : Fresh2 w ((w.alloc (.cells zeros32.toArray T)).alloc (.cells zeroSum.toArray U)) w.heap.size (w.heap.size + 1) :=
  ⟨keeps_alloc (keeps_alloc (Keeps.refl w) _) _, (Row.new _ _ _ rfl).alloc _, by
    have := Row.new (w := w.alloc (.cells zeros32.toArray T)) zeroSum _ U rfl
    rw [World.size_alloc] at this
    exact sumAt_zero this, Nat.le_refl _, by omega⟩
theorem Fresh2.added {w W W' : World} {p q : Nat} {l : List Int} (h : Fresh2 w W p q) (ha : AddPost W W' q 0 (.slice none 0 0) ([] ++ l)) : ∃ wv, Keeps w W' ∧ Row W' p 0 zeros32 ∧ SumAt W' q 0 wv l := by
  obtain ⟨wv, h1, h2, _⟩ := ha
  refine ⟨wv, ?_, h.res.chg h2 ?_, h1⟩
  · exact Below.trans h.keeps (h2.below h.keeps.size (fun k hk e => by
      rcases e with e | e
      · have := h.new; omega
      · simp [Value.ownBlock] at e))
  · rintro (e | e)
    · have := h.new; omega
    · simp [Value.ownBlock] at e
set_option maxRecDepth 100000 in
theorem sum256_any (v : Value) (n : Nat) (zs : List Int) (w : World) (hr : Rd w 1 v n (zs.map (Value.int .u8))) (hz : Bytes zs) (hn : n ≤ 35184372088832) :
    Calls Try.prog 86 #[v] w fun e w' => e = .returned (.agg ((sha256 zs).map (Value.int .u8)).toArray) ∧ Keeps w w' := by
  have hzl : zs.length = n := by have := hr.1; simpa using this
  obtain ⟨a, cap, rfl⟩ : ∃ a cap, v = .slice a n cap := by obtain ⟨_, a, cap, h, _⟩ := hr; exact ⟨a, cap, h⟩
  have HR := Lib.hid hr; have HZ := Lib.hid hz; have HL := Lib.hid hzl
  clear hr hz hzl
  go_enter Try.func86, Try.ntmps86
  go_upto_region 2 with (fail)
  have hf := fresh2 w 44 125
  obtain ⟨q, hq⟩ : ∃ q, q = w.heap.size + 1 := ⟨_, rfl⟩
  obtain ⟨p, hp⟩ : ∃ p, p = w.heap.size := ⟨_, rfl⟩
  rw [← hq, ← hp] at hf ⊢
  have HP := Lib.hid hp
  clear hq hp
  refine wp_gen (fun W => Fresh2 w W p q) hf ?_
  clear hf
  intro W hf
  have HF := Lib.hid hf
  clear hf
  go_upto_region 3 with (go_at_call 76; refine (sum_add q 0 _ [] _ n zs _ HF.out.sum (HR.out.keeps HF.out.keeps) HZ.out (by omega) (by simp; omega) (fun h0 e => by have h1 := HR.out.own_lt h0 q e; have h2 := HF.out.new; have h3 := HP.out; omega)).mono ?_; rintro e W2 ⟨rfl, hA⟩; have HA := Lib.hid hA; clear hA)
  obtain ⟨wv, hk, hr, hs⟩ := HF.out.added HA.out
  have HK := Lib.hid hk; have HRR := Lib.hid hr; have HS := Lib.hid hs
  clear hk hr hs HA
  have Z32 : Hid ((Try.prog.info? 44).map (·.size) = some ((sha256 zs).map (Value.int .u8)).length) := by
    rw [List.length_map, sha_length]; exact Lib.hid sz_hash
  go_wp2_with (first | (go_at_call 85; refine (sum_hash q 0 _ zs _ HS.out (by rw [HL.out]; omega)).mono ?_; rintro e W3 ⟨rfl, hk3⟩; have HK3 := Lib.hid hk3; clear hk3) | (refine wpList_store_row rfl 44 (.tmp 2) (.tmp 6) rfl p 0 rfl _ _ rfl (HRR.out.keeps HK3.out) (by simp [zeros32, sha_length]) Z32.out (int_oneCell _) ?_; intro W4 hr4 hc4; have HR4 := Lib.hid hr4; have HC4 := Lib.hid hc4; clear hr4 hc4))
  exact bodyPost_ret (v := .agg ((sha256 zs).map (Value.int .u8)).toArray) (results_cell_at (p := 2) (ty := 44) rfl _ _ p 0 _ _ rfl HR4.out Try.underlying44 rfl Z32.out) rfl ⟨rfl, keeps_chg (HK.out.trans HK3.out) HC4.out (by have := HP.out; omega)⟩
/-- behind the first of two digests: a block holds it -/
theorem rd_sha {W : World} {q : Nat} {l : List Int} (h : Row W q 0 ((sha256 l).map (Value.int .u8))) : Rd W 1 (.slice (some ⟨q, 0, none⟩) 32 32) 32 ((sha256 l).map (Value.int .u8)) :=
  Rd.of_row h (by simp [sha_length]) (h.lt (by intro e; have := congrArg List.length e; rw [List.length_map, sha_length] at this; simp at this)) (Nat.le_refl _) (by unfold maxLen; omega)
set_option maxRecDepth 100000 in
theorem twice_any (b o : Nat) (wv : Value) (l : List Int) (w : World) (hs : SumAt w b o wv l) (hsm : l.length < 576460752303423488) :
    Calls Try.prog 77 #[.pointer (some ⟨b, o, none⟩)] w fun e w' => e = .returned (.agg ((sha256 (sha256 l)).map (Value.int .u8)).toArray) ∧ Keeps w w' := by
  have HS := Lib.hid hs
  clear hs
  go_enter Try.func77, Try.ntmps77
  go_upto_region 1 with (fail)
  obtain ⟨p, hp⟩ : ∃ p, p = w.heap.size := ⟨_, rfl⟩
  have hk0 : Keeps w (w.alloc (.cells zeros32.toArray 44)) := keeps_alloc (Keeps.refl w) _
  have hr0 : Row (w.alloc (.cells zeros32.toArray 44)) p 0 zeros32 := by rw [hp]; exact Row.new _ _ _ rfl
  rw [← hp]
  have HP := Lib.hid hp
  clear hp
  refine wp_gen (fun W => Keeps w W ∧ Row W p 0 zeros32) ⟨hk0, hr0⟩ ?_
  clear hk0 hr0
  intro W ⟨hk, hr⟩
  have HK := Lib.hid hk; have HR := Lib.hid hr
  clear hk hr
  have Z1 : Hid ((Try.prog.info? 44).map (·.size) = some ((sha256 l).map (Value.int .u8)).length) := by
    rw [List.length_map, sha_length]; exact Lib.hid sz_hash
  have Z2 : Hid ((Try.prog.info? 44).map (·.size) = some ((sha256 (sha256 l)).map (Value.int .u8)).length) := by
    rw [List.length_map, sha_length]; exact Lib.hid sz_hash
  have Z0 : Hid (((sha256 l).map (Value.int .u8)).length = (List.replicate 32 (Value.int .u8 0)).length) := by
    rw [List.length_map, sha_length]; exact Lib.hid rfl
  go_upto_region 2 with (first | (go_at_call 85; refine (sum_hash b o _ l _ (HS.out.keeps HK.out) hsm).mono ?_; rintro e W3 ⟨rfl, hk3⟩; have HK3 := Lib.hid hk3; clear hk3) | (refine wpList_store_row rfl 44 (.tmp 3) (.tmp 5) rfl W3.heap.size 0 rfl (List.replicate 32 (Value.int .u8 0)) _ rfl (Row.new _ _ _ rfl) Z0.out Z1.out (int_oneCell _) ?_; intro W4 hr4 hc4; have HR4 := Lib.hid hr4; have HC4 := Lib.hid hc4; clear hr4 hc4))
  have hk4 : Keeps w W4 := keeps_chg (keeps_alloc (HK.out.trans HK3.out) _) HC4.out (HK.out.trans HK3.out).size
  have hp4 : Row W4 p 0 zeros32 := ((HR.out.keeps HK3.out).alloc _).chg HC4.out (by have h1 := HR.out.lt (by simp [zeros32]); have h2 := HK3.out.size; omega)
  have HK4 := Lib.hid hk4; have HP4 := Lib.hid hp4
  clear hk4 hp4 HC4 HR
  go_wp2_with (first | (go_at_call 86; refine (sum256_any _ 32 (sha256 l) _ (rd_sha HR4.out) (sha_bytes l) (by omega)).mono ?_; rintro e W5 ⟨rfl, hk5⟩; have HK5 := Lib.hid hk5; clear hk5) | (refine wpList_store_row rfl 44 (.tmp 2) (.tmp 7) rfl p 0 rfl _ _ rfl (HP4.out.keeps HK5.out) (by simp [zeros32, sha_length]) Z2.out (int_oneCell _) ?_; intro W6 hr6 hc6; have HR6 := Lib.hid hr6; have HC6 := Lib.hid hc6; clear hr6 hc6))
  exact bodyPost_ret (v := .agg ((sha256 (sha256 l)).map (Value.int .u8)).toArray) (results_cell_at (p := 2) (ty := 44) rfl _ _ p 0 _ _ rfl HR6.out Try.underlying44 rfl Z2.out) rfl ⟨rfl, keeps_chg (HK4.out.trans HK5.out) HC6.out (by have := HP.out; omega)⟩
end Go.Proofs.Ytajipagpdphejaa
namespace Go.Proofs.Ytajipagpdphejaa
set_option linter.unusedVariables false
set_option linter.unusedSimpArgs false
open Go Go.RowKit Cv

/-- behind which number the first one that is tried stands -/
def nonceN (K M : List Int) : Int := be (sha256 (sha256 (K ++ M))) % NV
set_option maxRecDepth 100000 in
set_option maxHeartbeats 1000000 in
theorem leq_any (x y : Int) (hx : U256 x) (hy : U256 y) (w : World) : Calls Try.prog 79 #[.agg ((words x).map (Value.int .u64)).toArray, .agg ((words y).map (Value.int .u64)).toArray] w fun e w' => e = .returned (.bool (!decide (y < x))) ∧ Keeps w w' := by
  have HSUB := Lib.hid (csub_any y x hy hx)
  have hxl := words_length x
  have hyl := words_length y
  have hdl := words_length (y - x)
  generalize words (y - x) = D at *
  generalize words x = X at *
  generalize words y = Y at *
  generalize decide (y < x) = L at *
  clear hx hy
  go_enter Try.func79, Try.ntmps79
  go_upto_region 1 with (fail)
  refine cu_rows2 (fun W hk hra hrb hs => ?_)
  obtain ⟨p, hp⟩ : ∃ p, p = w.heap.size := ⟨_, rfl⟩
  rw [← hp] at hra hrb hs ⊢
  have HRA := Lib.hid (show Row W p 0 (X.map (Value.int .u64)) from hra); have HRB := Lib.hid (show Row W (p + 1) 0 (Y.map (Value.int .u64)) from hrb); have HKW := Lib.hid hk
  clear hp hk hra hrb hs
  go_upto_region 2 with (first | (refine wpList_load_at rfl 69 (.tmp 2) rfl _ 0 rfl (X.map (Value.int .u64)) _ HRA.out Try.underlying69 rfl (by rw [List.length_map, hxl]; exact sz_cnum) ?_) | (refine wpList_load_at rfl 69 (.tmp 3) rfl _ 0 rfl (Y.map (Value.int .u64)) _ HRB.out Try.underlying69 rfl (by rw [List.length_map, hyl]; exact sz_cnum) ?_) | (go_at_call 68; refine (HSUB.out _).mono ?_; rintro e W1 ⟨rfl, hk1⟩; have HK1 := Lib.hid hk1; clear hk1) | (refine wpList_store_row rfl 69 (.tmp 5) (.tmp 11) rfl W1.heap.size 0 rfl zeros4 (D.map (Value.int .u64)) rfl (Row.new _ _ _ rfl) (by rw [List.length_map, hdl]; rfl) (by rw [List.length_map, hdl]; exact sz_cnum) (int_oneCell _) ?_; intro W2 hr2 hc2; have HK2 := Lib.hid (nm_keeps_chg (nm_keeps_alloc HK1.out _) hc2 HK1.out.size); clear hr2 hc2))
  go_wp2
  go_ret
  exact ⟨rfl, HKW.out.trans HK2.out⟩
set_option maxRecDepth 100000 in
set_option maxHeartbeats 4000000 in
theorem nonce_any (g : Nat) (K M : List Int) (hK : Bytes K) (hM : Bytes M) (lK : K.length = 32) (lM : M.length = 32) (w : World) (hr : Row w g 0 gCells) :
    Calls Try.prog 58 #[.pointer (some ⟨g, 7, none⟩), .agg (K.map (Value.int .u8)).toArray, .agg (M.map (Value.int .u8)).toArray] w fun e w' => e = .returned (.agg ((words (nonceN K M)).map (Value.int .u64)).toArray) ∧ Keeps w w' := by
  have HROW := Lib.hid hr
  have hH := sha_length (sha256 (K ++ M))
  have HNUM := Lib.hid (fun (v : Value) W (hv : Rd W 1 v 32 ((sha256 (sha256 (K ++ M))).map (Value.int .u8))) => cnumber_any v _ W hv (sha_bytes _) hH)
  have HIN := Lib.hid (fun W (hk : Keeps w W) => nin_any g (be (sha256 (sha256 (K ++ M)))) (be_u256 (sha_bytes _) hH) W (hr.keeps hk))
  have hrl := words_length (nonceN K M)
  rw [show be (sha256 (sha256 (K ++ M))) % NV = nonceN K M from rfl] at HIN
  go_enter Try.func58, Try.ntmps58
  go_upto_region 1 with (fail)
  refine wp_rows3 (fun W hk hra hrb hrc hs => ?_)
  obtain ⟨p, hp⟩ : ∃ p, p = w.heap.size := ⟨_, rfl⟩
  rw [← hp] at hra hrb hrc hs ⊢
  have hkp : w.heap.size ≤ p := by omega
  obtain ⟨Zr, hZr, hrz⟩ : ∃ Zr : List Value, Zr.length = 4 ∧ Row W (p + 1 + 1) 0 Zr := ⟨_, rfl, hrc⟩
  have HRA := Lib.hid (show Row W p 0 (K.map (Value.int .u8)) from hra); have HRB := Lib.hid (show Row W (p + 1) 0 (M.map (Value.int .u8)) from hrb); have HKW := Lib.hid hk; have HRres := Lib.hid hrz
  have hpW : p + 1 + 1 < W.heap.size := by omega
  clear hp hk hra hrb hrc hrz hs hr
  go_upto_region 2 with (fail)
  refine cu_rows1 (fun W1 hk1 hr1 hs1 => ?_)
  have HSM := Lib.hid (sumAt_zero (show Row W1 W.heap.size 0 zeroSum from hr1))
  have HRA := Lib.hid (HRA.out.keeps hk1); have HRB := Lib.hid (HRB.out.keeps hk1); have HRres := Lib.hid (HRres.out.keeps hk1); have HKW := Lib.hid (HKW.out.trans hk1)
  have hq1 : W.heap.size < W1.heap.size := by omega
  generalize W.heap.size = q at *
  clear hk1 hr1 hs1
  go_upto_region 3 with (go_at_call 76; refine (sum_add q 0 _ [] _ 32 K _ HSM.out (Rd.of_row HRA.out (by simp [lK]) (by omega) (by omega) (by unfold maxLen; omega)) hK (by omega) (by simp) (fun _ e => by simp [Value.ownBlock] at e; omega)).mono ?_; rintro e W2 ⟨rfl, hA⟩; have HA := Lib.hid hA; clear hA)
  obtain ⟨wv, hs2, hc2, hn2⟩ := HA.out
  have hn2' : ∀ k, wv.ownBlock = some k → W1.heap.size ≤ k := fun k e => by
    rcases hn2 k e with h | h
    · simp [Value.ownBlock] at h
    · exact h
  have hno : ∀ k, ¬ (Value.slice none 0 0).ownBlock = some k := fun k e => by simp [Value.ownBlock] at e
  have HS2 := Lib.hid hs2
  have HRB := Lib.hid (HRB.out.chg hc2 (by rintro (e | e); omega; exact hno _ e)); have HRres := Lib.hid (HRres.out.chg hc2 (by rintro (e | e); omega; exact hno _ e))
  have HKW := Lib.hid (show Keeps w W2 from Below.trans HKW.out (hc2.below HKW.out.size (fun k hk e => by rcases e with e | e; omega; exact hno _ e)))
  have hsz2 : W1.heap.size ≤ W2.heap.size := hc2.size
  clear hs2 hc2 hn2 HA HSM
  go_upto_region 4 with (go_at_call 76; refine (sum_add q 0 wv _ _ 32 M _ HS2.out (Rd.of_row HRB.out (by simp [lM]) (by omega) (by omega) (by unfold maxLen; omega)) hM (by omega) (by simp [lK]) (fun _ e => by simp [Value.ownBlock] at e; omega)).mono ?_; rintro e W3 ⟨rfl, hA⟩; have HA := Lib.hid hA; clear hA)
  obtain ⟨wv3, hs3, hc3, hn3⟩ := HA.out
  rw [List.nil_append] at hs3
  have HS3 := Lib.hid hs3
  have HRres := Lib.hid (HRres.out.chg hc3 (by rintro (e | e); omega; have := hn2' _ e; omega))
  have HKW := Lib.hid (show Keeps w W3 from Below.trans HKW.out (hc3.below HKW.out.size (fun k hk e => by rcases e with e | e; omega; have := hn2' _ e; omega)))
  clear hs3 hc3 hn3 HA HS2 HRB HRA
  have hsz : (Try.prog.info? 44).map (·.size) = some 32 := sz_hash
  generalize hHH : sha256 (sha256 (K ++ M)) = HH at *
  have HTW := Lib.hid (fun W (hk : Keeps W3 W) => twice_any q 0 _ _ W (HS3.out.keeps hk) (by rw [List.length_append, lK, lM]; omega))
  rw [hHH] at HTW
  clear hHH
  go_upto_region 5 with (first | (go_at_call 77; refine (HTW.out _ (Keeps.refl _)).mono ?_; rintro e W4 ⟨rfl, hk1⟩; have HK4 := Lib.hid hk1; clear hk1) | (refine wpList_store_row rfl 44 (.tmp 8) (.tmp 13) rfl W4.heap.size 0 rfl ((List.replicate 32 (0 : Int)).map (Value.int .u8)) (HH.map (Value.int .u8)) rfl (Row.new _ _ _ rfl) (by rw [List.length_map, hH]; rfl) (by rw [List.length_map, hH]; exact hsz) (int_oneCell _) ?_; intro W5 hr2 hc2; have HRH := Lib.hid hr2; have HK5 := Lib.hid (nm_keeps_chg (nm_keeps_alloc HK4.out _) hc2 HK4.out.size); clear hr2 hc2))
  generalize W4.heap.size = h8 at *
  have HRres := Lib.hid (HRres.out.keeps HK5.out); have HKW := Lib.hid (HKW.out.trans HK5.out)
  have h8W : h8 < W5.heap.size := HRH.out.lt (map_ne hH)
  go_wp2_with (first | (go_at_call 44; refine (HNUM.out _ _ (Rd.of_row HRH.out (by simp [hH]) h8W (by omega) (by unfold maxLen; omega))).mono ?_; rintro e W6 ⟨rfl, hk1⟩; have HK6 := Lib.hid hk1; clear hk1) | (go_at_call 43; refine (HIN.out _ (HKW.out.trans HK6.out)).mono ?_; rintro e W7 ⟨rfl, hk1⟩; have HK7 := Lib.hid (HK6.out.trans hk1); clear hk1) | (refine wpList_store_row rfl 69 (.tmp 6) (.tmp 17) rfl _ 0 rfl Zr ((words (nonceN K M)).map (Value.int .u64)) rfl (HRres.out.keeps HK7.out) (by rw [List.length_map, hrl, hZr]) (by rw [List.length_map, hrl]; exact sz_cnum) (int_oneCell _) ?_; intro W8 hr2 hc2; have HN := Lib.hid hr2; have HC := Lib.hid hc2; clear hr2 hc2))
  exact bodyPost_ret (results_cell_at (p := 6) (ty := 69) rfl _ _ (p + 1 + 1) 0 _ _ rfl HN.out Try.underlying69 rfl (by rw [List.length_map, hrl]; exact sz_cnum)) rfl ⟨rfl, nm_keeps_chg (HKW.out.trans HK7.out) HC.out (by omega)⟩
def sgX (k : Nat) : Nat := (flatJ (timesJ k gJ 256)).1
def sgR (k : Nat) : Nat := sgX k % nVn
def sgI (k : Nat) : Nat := k ^ (nVn - 2) % nVn
def sgZ (d e k : Nat) : Nat := sgI k * ((e + sgR k * d % nVn) % nVn) % nVn
def sgL (d e k : Nat) : Nat := if sgZ d e k = 0 then 0 else nVn - sgZ d e k
def sgS (d e k : Nat) : Nat := if sgL d e k < sgZ d e k then sgL d e k else sgZ d e k
def sgOk (d e k : Nat) : Bool := if k = 0 then false else !decide (sgR k = 0) && !decide (sgS d e k = 0)
def zeroL64 : List Int := List.replicate 64 0
/-- the bytes for a number k -/
def sgB (d e k : Nat) : List Int := if k = 0 then zeroL64 else toB 32 (sgR k : Int) ++ toB 32 (sgS d e k : Int)
theorem sgB_len (d e k : Nat) : (sgB d e k).length = 64 := by
  unfold sgB
  split
  · rfl
  · rw [List.length_append, toB_length, toB_length]
theorem sgB_bytes (d e k : Nat) : Bytes (sgB d e k) := by
  unfold sgB
  split
  · intro y hy
    rw [(List.mem_replicate.1 (show y ∈ List.replicate 64 0 from hy)).2]
    exact ⟨by omega, by omega⟩
  · intro y hy
    rcases List.mem_append.1 hy with h | h
    · exact toB_bytes _ _ y h
    · exact toB_bytes _ _ y h
theorem sgX_eq {k : Nat} (hk : k < 2 ^ 256) : sgX k = (xyP (mulP gP k)).1 := by
  unfold sgX
  rw [flatJ_eq (timesJ_ok k gJ_ok 256) (times_n gJ_ok g_on gJ_jr hk)]
theorem sgX_lt (k : Nat) : sgX k < PVn := fm_lt _ _
theorem sgR_lt (k : Nat) : sgR k < nVn := Nat.mod_lt _ n_pos
theorem sgZ_lt (d e k : Nat) : sgZ d e k < nVn := Nat.mod_lt _ n_pos
theorem sgS_lt (d e k : Nat) : sgS d e k < nVn := by
  have := sgZ_lt d e k
  unfold sgS
  split
  · omega
  · exact this
theorem sgX_aff {k : Nat} (h0 : 0 < k) (h : k < nVn) : ∃ y, mulP gP k = .aff (fp (sgX k)) y := by
  have hne := key_ne h0 h
  have he := sgX_eq (k := k) (Nat.lt_trans h n_lt)
  cases hm : mulP gP k with
  | inf => exact absurd hm hne
  | aff x y =>
    rw [hm] at he
    exact ⟨y, by rw [he, show (xyP (Pt.aff x y)).1 = x.val from rfl, show fp x.val = x from fof_self x]⟩
theorem sg_pair {a b : Nat} (a0 : 0 < a) (ha : a < nVn) (b0 : 0 < b) (hb : b < nVn) (h : sgX a = sgX b) : a = b ∨ a + b = nVn := by
  obtain ⟨y, h1⟩ := sgX_aff a0 ha
  obtain ⟨y', h2⟩ := sgX_aff b0 hb
  rw [h] at h1
  rcases same_pt h1 h2 with e | e
  · left
    rw [Nat.mod_eq_of_lt ha, Nat.mod_eq_of_lt hb] at e
    exact e
  · right
    obtain ⟨c, hc⟩ := Nat.dvd_of_mod_eq_zero e
    have c2 : c < 2 := by
      rcases Nat.lt_or_ge c 2 with h | h
      · exact h
      · have := Nat.mul_le_mul_left nVn h
        omega
    have c1 : c ≠ 0 := fun h => by rw [h] at hc; omega
    have : c = 1 := by omega
    rw [this, Nat.mul_one] at hc
    exact hc
theorem sgS_zero {d e k : Nat} (h : sgS d e k = 0) : sgZ d e k = 0 := by
  have hl := sgZ_lt d e k
  unfold sgS at h
  by_cases h3 : sgZ d e k = 0
  · exact h3
  · have h4 : sgL d e k = nVn - sgZ d e k := by unfold sgL; rw [if_neg h3]
    rw [h4] at h
    split at h <;> omega
theorem fn_z {a : Nat} : fn a = 0 ↔ a % nVn = 0 := by
  have h0 : (0 : Fin nVn) = fn 0 := rfl
  rw [h0, fn_eq, Nat.zero_mod]
theorem fn_mod (x : Nat) : fn (x % nVn) = fn x := fof_eq.2 (Nat.mod_mod _ _)
theorem fn_ne {a : Nat} (h0 : 0 < a) (h : a < nVn) : fn a ≠ 0 := fun e => by
  rw [fn_z, Nat.mod_eq_of_lt h] at e
  omega
theorem fn_I (k : Nat) : fn (sgI k) = finv (fn k) := by
  unfold sgI
  rw [fn_mod]
  exact (fof_pow (n := nVn) k (nVn - 2)).symm
theorem fn_Z (d e k : Nat) : fn (sgZ d e k) = finv (fn k) * (fn e + fn (sgR k) * fn d) := by
  unfold sgZ
  rw [fn_val, fn_I, fn_mod]
  show _ * fof nVn (e + sgR k * d % nVn) = _
  rw [← fof_add]
  show _ * (fn e + fn (sgR k * d % nVn)) = _
  rw [fn_val]
theorem can1 {A I T : Fin nVn} (h : A * I = 1) (h2 : I * T = 0) : T = 0 := by grobner
theorem can2 {E R R' D W : Fin nVn} (h : D * W = 1) (h1 : E + R * D = 0) (h2 : E + R' * D = 0) : R = R' := by grobner
/-- where s is 0, r is given -/
theorem sgZ_r {d e a b : Nat} (d0 : 0 < d) (hd : d < nVn) (a0 : 0 < a) (ha : a < nVn) (b0 : 0 < b) (hb : b < nVn) (h1 : sgZ d e a = 0) (h2 : sgZ d e b = 0) : sgR a = sgR b := by
  have e1 := fn_Z d e a
  have e2 := fn_Z d e b
  rw [h1] at e1
  rw [h2] at e2
  have z : fn 0 = 0 := rfl
  rw [z] at e1 e2
  have t1 := can1 (fn_inv _ (fn_ne a0 ha)) e1.symm
  have t2 := can1 (fn_inv _ (fn_ne b0 hb)) e2.symm
  have h3 := can2 (fn_inv _ (fn_ne d0 hd)) t1 t2
  rw [fn_eq, Nat.mod_eq_of_lt (sgR_lt a), Nat.mod_eq_of_lt (sgR_lt b)] at h3
  exact h3
/-- in which way a number fails -/
def sgC (k : Nat) : Nat := if k = 0 then 0 else if sgX k = 0 then 1 else if sgX k = nVn then 2 else if sgX k < nVn then 3 else 4
theorem p_two : PVn < 2 * nVn := by decide
theorem sgR_z {k : Nat} (h : sgR k = 0) : sgX k = 0 ∨ sgX k = nVn := by
  have h1 := sgX_lt k
  have h2 := p_two
  obtain ⟨c, hc⟩ := Nat.dvd_of_mod_eq_zero h
  have c2 : c < 2 := by
    rcases Nat.lt_or_ge c 2 with h | h
    · exact h
    · have := Nat.mul_le_mul_left nVn h
      omega
  rcases Nat.lt_or_ge c 1 with h | h
  · left; rw [hc, show c = 0 by omega, Nat.mul_zero]
  · right; rw [hc, show c = 1 by omega, Nat.mul_one]
theorem sg_class {d e a b : Nat} (d0 : 0 < d) (hd : d < nVn) (ha : a < nVn) (hb : b < nVn) (h1 : sgOk d e a = false) (h2 : sgOk d e b = false) (hc : sgC a = sgC b) : a = b ∨ a + b = nVn := by
  by_cases a0 : a = 0
  · by_cases b0 : b = 0
    · left; omega
    · unfold sgC at hc
      rw [if_pos a0, if_neg b0] at hc
      split at hc <;> (try omega) <;> split at hc <;> (try omega) <;> split at hc <;> omega
  · by_cases b0 : b = 0
    · unfold sgC at hc
      rw [if_neg a0, if_pos b0] at hc
      split at hc <;> (try omega) <;> split at hc <;> (try omega) <;> split at hc <;> omega
    · have pa : 0 < a := by omega
      have pb : 0 < b := by omega
      refine sg_pair pa ha pb hb ?_
      unfold sgC at hc
      rw [if_neg a0, if_neg b0] at hc
      unfold sgOk at h1 h2
      rw [if_neg a0] at h1
      rw [if_neg b0] at h2
      have xa := sgX_lt a
      have xb := sgX_lt b
      have p2 := p_two
      have key : ∀ k, (!decide (sgR k = 0) && !decide (sgS d e k = 0)) = false → ¬ sgX k = 0 → ¬ sgX k = nVn → sgZ d e k = 0 := fun k h g1 g2 => by
        rw [Bool.and_eq_false_iff] at h
        rcases h with h | h
        · have : sgR k = 0 := by simpa using h
          rcases sgR_z this with h | h
          · exact absurd h g1
          · exact absurd h g2
        · exact sgS_zero (by simpa using h)
      by_cases u1 : sgX a = 0 <;> by_cases v1 : sgX b = 0
      · rw [u1, v1]
      · rw [if_pos u1, if_neg v1] at hc
        split at hc <;> (try omega) <;> split at hc <;> omega
      · rw [if_neg u1, if_pos v1] at hc
        split at hc <;> (try omega) <;> split at hc <;> omega
      · rw [if_neg u1, if_neg v1] at hc
        by_cases u2 : sgX a = nVn <;> by_cases v2 : sgX b = nVn
        · rw [u2, v2]
        · rw [if_pos u2, if_neg v2] at hc
          split at hc <;> omega
        · rw [if_neg u2, if_pos v2] at hc
          split at hc <;> omega
        · rw [if_neg u2, if_neg v2] at hc
          have hr := sgZ_r d0 hd pa ha pb hb (key a h1 u1 u2) (key b h2 v1 v2)
          unfold sgR at hr
          by_cases u3 : sgX a < nVn <;> by_cases v3 : sgX b < nVn
          · rw [Nat.mod_eq_of_lt u3, Nat.mod_eq_of_lt v3] at hr; exact hr
          · rw [if_pos u3, if_neg v3] at hc; omega
          · rw [if_neg u3, if_pos v3] at hc; omega
          · rw [Nat.mod_eq_sub_mod (by omega), Nat.mod_eq_sub_mod (a := sgX b) (by omega), Nat.mod_eq_of_lt (by omega), Nat.mod_eq_of_lt (by omega)] at hr
            omega
theorem five (f : Nat → Nat) (hf : ∀ i, f i < 5) : ∀ l : List Nat, (l.filter (fun i => f i = 0)).length + (l.filter (fun i => f i = 1)).length + (l.filter (fun i => f i = 2)).length + (l.filter (fun i => f i = 3)).length + (l.filter (fun i => f i = 4)).length = l.length
  | [] => rfl
  | x :: l => by
    have ih := five f hf l
    have hx := hf x
    simp only [List.filter_cons, decide_eq_true_eq]
    generalize f x = y at *
    have : y = 0 ∨ y = 1 ∨ y = 2 ∨ y = 3 ∨ y = 4 := by omega
    rcases this with rfl | rfl | rfl | rfl | rfl <;> simp <;> omega
theorem le_two {l : List Nat} (hn : l.Nodup) (h : ∀ a b c, a ∈ l → b ∈ l → c ∈ l → a ≠ b → a ≠ c → b ≠ c → False) : l.length ≤ 2 := by
  match l, hn, h with
  | [], _, _ => simp
  | [_], _, _ => simp
  | [_, _], _, _ => simp
  | a :: b :: c :: t, hn, h =>
    rw [List.nodup_cons, List.nodup_cons, List.nodup_cons] at hn
    obtain ⟨h1, h2, _⟩ := hn
    simp only [List.mem_cons, not_or] at h1 h2
    exact (h a b c (by simp) (by simp) (by simp) h1.1 h1.2.1 h2.1).elim
def sgK (k0 i : Nat) : Nat := (k0 + (i + 1)) % nVn
theorem sgK_ne {k0 i j : Nat} (hi : i < 16) (hj : j < 16) (h : sgK k0 i = sgK k0 j) : i = j := by
  unfold sgK nVn at h
  omega
/-- of sixteen in a row one serves -/
theorem sg_one {d e : Nat} (d0 : 0 < d) (hd : d < nVn) (k0 : Nat) : ∃ i, i < 16 ∧ sgOk d e (sgK k0 i) = true := by
  rcases Classical.em (∃ i, i < 16 ∧ sgOk d e (sgK k0 i) = true) with h | h
  · exact h
  exfalso
  have bad : ∀ i, i < 16 → sgOk d e (sgK k0 i) = false := fun i hi => by
    cases hh : sgOk d e (sgK k0 i) with
    | false => rfl
    | true => exact absurd ⟨i, hi, hh⟩ h
  have h5 := five (fun i => sgC (sgK k0 i)) (fun i => by unfold sgC; split <;> (try omega) <;> split <;> (try omega) <;> split <;> (try omega) <;> split <;> omega) (List.range 16)
  have c2 : ∀ c, ((List.range 16).filter (fun i => sgC (sgK k0 i) = c)).length ≤ 2 := fun c => by
    refine le_two (List.nodup_range.filter _) fun i j l hi hj hl n1 n2 n3 => ?_
    simp only [List.mem_filter, List.mem_range, decide_eq_true_eq] at hi hj hl
    have lt : ∀ i, sgK k0 i < nVn := fun i => Nat.mod_lt _ n_pos
    rcases sg_class d0 hd (lt i) (lt j) (bad i hi.1) (bad j hj.1) (hi.2.trans hj.2.symm) with e1 | e1
    · exact n1 (sgK_ne hi.1 hj.1 e1)
    · rcases sg_class d0 hd (lt i) (lt l) (bad i hi.1) (bad l hl.1) (hi.2.trans hl.2.symm) with e2 | e2
      · exact n2 (sgK_ne hi.1 hl.1 e2)
      · exact n3 (sgK_ne (k0 := k0) hj.1 hl.1 (by omega))
  have := c2 0; have := c2 1; have := c2 2; have := c2 3; have := c2 4
  rw [List.length_range] at h5
  omega
/-- the tries: m more of them, behind number k; out is what the last one gave -/
def sgN (d e : Nat) : Nat → Nat → List Int → List Int
  | 0, _, out => out
  | m + 1, k, _ => if sgOk d e ((k + 1) % nVn) = true then sgB d e ((k + 1) % nVn) else sgN d e m ((k + 1) % nVn) (sgB d e ((k + 1) % nVn))
theorem sgN_len {d e : Nat} : ∀ (m k : Nat) (out : List Int), out.length = 64 → (sgN d e m k out).length = 64
  | 0, _, _, h => h
  | m + 1, k, _, _ => by
    unfold sgN
    split
    · exact sgB_len _ _ _
    · exact sgN_len m _ _ (sgB_len _ _ _)
theorem sgN_bytes {d e : Nat} : ∀ (m k : Nat) (out : List Int), Bytes out → Bytes (sgN d e m k out)
  | 0, _, _, h => h
  | m + 1, k, _, _ => by
    unfold sgN
    split
    · exact sgB_bytes _ _ _
    · exact sgN_bytes m _ _ (sgB_bytes _ _ _)
theorem sgN_ok {d e : Nat} : ∀ (m k : Nat) (out : List Int), (∃ i, i < m ∧ sgOk d e (sgK k i) = true) → ∃ k', k' < nVn ∧ sgOk d e k' = true ∧ sgN d e m k out = sgB d e k'
  | 0, _, _, ⟨i, h, _⟩ => by omega
  | m + 1, k, out, ⟨i, hi, hk⟩ => by
    unfold sgN
    by_cases h1 : sgOk d e ((k + 1) % nVn) = true
    · rw [if_pos h1]
      exact ⟨_, Nat.mod_lt _ n_pos, h1, rfl⟩
    · rw [if_neg h1]
      cases i with
      | zero => exact absurd hk h1
      | succ j =>
        refine sgN_ok m _ _ ⟨j, by omega, ?_⟩
        have : sgK ((k + 1) % nVn) j = sgK k (j + 1) := by
          unfold sgK
          rw [Nat.mod_add_mod]
          congr 1
          omega
        rw [this]
        exact hk
theorem nat_nv {x : Nat} (h : x < nVn) : U256 (x : Int) := nv_u256 h
theorem pow_finv (a : Nat) : fn (a ^ (nVn - 2) % nVn) = finv (fn a) := fn_I a
theorem sgL_neg (d e k : Nat) : fn (sgL d e k) = -fn (sgZ d e k) := by
  have hl := sgZ_lt d e k
  unfold sgL
  split
  · rename_i h
    rw [h]
    have : fn 0 = 0 := rfl
    rw [this]
    grobner
  · have h1 : fn (nVn - sgZ d e k) + fn (sgZ d e k) = 0 := by
      show fof nVn _ + fof nVn _ = 0
      rw [fof_add, Nat.sub_add_cancel (Nat.le_of_lt hl)]
      exact fn_z.2 (Nat.mod_self _)
    generalize fn (nVn - sgZ d e k) = x at *
    generalize fn (sgZ d e k) = y at *
    grobner
theorem sgS_pm (d e k : Nat) : fn (sgS d e k) = fn (sgZ d e k) ∨ fn (sgS d e k) = -fn (sgZ d e k) := by
  unfold sgS
  split
  · right; exact sgL_neg d e k
  · left; rfl
/-- s is the low one -/
theorem sgS_low (d e k : Nat) (h : ¬ sgS d e k = 0) : sgS d e k ≤ nVn - sgS d e k := by
  have hl := sgZ_lt d e k
  unfold sgS at h ⊢
  split
  · rename_i h1
    rw [if_pos h1] at h
    unfold sgL at *
    split
    · rename_i h2
      rw [if_pos h2] at h
      omega
    · rename_i h2
      rw [if_neg h2] at h1
      omega
  · rename_i h1
    rw [if_neg h1] at h
    unfold sgL at h1
    rw [if_neg h] at h1
    omega
/-- what is signed with a number that serves is taken -/
theorem sg_taken {d k : Nat} {M : List Int} (d0 : 0 < d) (hd : d < nVn) (hk : k < nVn) (h : sgOk d (be M % NV).toNat k = true) : verV (pubB d) M (sgB d (be M % NV).toNat k) = true := by
  obtain ⟨m1, m2⟩ := mod_nat (m := be M)
  unfold sgOk at h
  split at h
  · cases h
  rename_i k0
  have pk : 0 < k := by omega
  rw [Bool.and_eq_true] at h
  have r0 : ¬ sgR k = 0 := by simpa using h.1
  have s0 : ¬ sgS d (be M % NV).toNat k = 0 := by simpa using h.2
  have hrl := sgR_lt k
  have hsl := sgS_lt d (be M % NV).toNat k
  have hsg : sgB d (be M % NV).toNat k = toB 32 (sgR k : Int) ++ toB 32 (sgS d (be M % NV).toNat k : Int) := by unfold sgB; rw [if_neg k0]
  have hR : be (toB 32 (sgR k : Int)) = (sgR k : Int) := be_toB32 (nat_nv hrl)
  have hS : be (toB 32 (sgS d (be M % NV).toNat k : Int)) = (sgS d (be M % NV).toNat k : Int) := be_toB32 (nat_nv hsl)
  have hl1 := toB_length 32 (sgR k : Int)
  have hl2 := toB_length 32 (sgS d (be M % NV).toNat k : Int)
  obtain ⟨a, b, hu, ha, hb, hon, hm⟩ := unp_pub d0 hd
  have hnv := nv_eq
  have k1 : keyB (sgR k : Int) = true := keyB_of (by omega) (by omega)
  have k2 : keyB (sgS d (be M % NV).toNat k : Int) = true := keyB_of (by omega) (by omega)
  have hok : (J.mk a b 1).ok := ⟨ha, hb, (by decide : 1 < PVn)⟩
  have hlaw := sign_law (d := d) (e := (be M % NV).toNat) (k := k) (r := sgR k) (s := sgS d (be M % NV).toNat k) (w := wN (sgS d (be M % NV).toNat k : Int)) (fn_ne pk hk) (fn_Z d _ k) (sgS_pm d _ k) (by
    have : wN (sgS d (be M % NV).toNat k : Int) = sgS d (be M % NV).toNat k ^ (nVn - 2) % nVn := by unfold wN; rw [Int.toNat_natCast]
    rw [this, pow_finv]
    exact fn_inv _ (fn_ne (by omega) hsl))
  have hjr : (verQ ⟨a, b, 1⟩ (sgR k : Int) (sgS d (be M % NV).toNat k : Int) (be M)).jr (addP (mulP gP ((be M % NV).toNat * wN (sgS d (be M % NV).toNat k : Int) % nVn)) (mulP (mulP gP d) (sgR k * wN (sgS d (be M % NV).toNat k : Int) % nVn))) := by
    rw [hm]
    have t1 := times_n gJ_ok g_on gJ_jr (Nat.lt_trans (u1N_lt (sgS d (be M % NV).toNat k : Int) (be M)) n_lt)
    have t2 := times_n (a := J.mk a b 1) (P := .aff (fp a) (fp b)) hok hon aff_jr (Nat.lt_trans (u2N_lt (sgR k : Int) (sgS d (be M % NV).toNat k : Int)) n_lt)
    have := addJ_jr (timesJ_ok _ gJ_ok 256) (timesJ_ok _ hok 256) (gmul_on _) (mul_on good_p (P := .aff (fp a) (fp b)) hon _) t1 t2
    have e2 : u2N (sgR k : Int) (sgS d (be M % NV).toNat k : Int) = sgR k * wN (sgS d (be M % NV).toNat k : Int) % nVn := by unfold u2N; rw [Int.toNat_natCast]
    rw [e2] at this
    unfold verQ
    rw [e2]
    exact this
  have hqok := verQ_ok hok (sgR k : Int) (sgS d (be M % NV).toNat k : Int) (be M)
  generalize addP (mulP gP ((be M % NV).toNat * wN (sgS d (be M % NV).toNat k : Int) % nVn)) (mulP (mulP gP d) (sgR k * wN (sgS d (be M % NV).toNat k : Int) % nVn)) = Q at *
  have hx : (xyP Q).1 = sgX k := by
    rw [sgX_eq (Nat.lt_trans hk n_lt)]
    rcases hlaw with e | e
    · rw [e]
    · rw [e, xy_neg]
  have hz : ¬ (verQ ⟨a, b, 1⟩ (sgR k : Int) (sgS d (be M % NV).toNat k : Int) (be M)).z = 0 := fun h0 => by
    have hi := (jr_z hqok hjr).1 h0
    have hne := key_ne pk hk
    rw [hi] at hlaw
    cases hmk : mulP gP k with
    | inf => exact hne hmk
    | aff x y =>
      rw [hmk] at hlaw
      rcases hlaw with e | e <;> cases e
  have hf := flatJ_eq hqok hjr
  unfold verV
  rw [hsg, List.take_left' hl1, List.drop_left' hl1, hR, hS, if_pos (by rw [List.length_append, hl1, hl2]), hu]
  dsimp only
  rw [if_pos ⟨k1, k2⟩, if_neg hz, hf, hx, decide_eq_true_eq, hnv, ← Int.natCast_emod]
  rfl
end Go.Proofs.Ytajipagpdphejaa
