/- hash.Sum256, Double, Sum's Twice, and the reference's Double: SHA-256, and twice. | hash.Sum512 is SHA-512: its constants, the tail, and the walk over the blocks by slices.Chunk. -/
import Derived.Test.YtlofddoojkeakaaDoorGD0
import Derived.Test.YtlofddoojkeakaaDoorGD5
import Derived.Test.YtlofddoojkeakaaDoorGD1
import Derived.Test.YtlofddoojkeakaaDoorGD4
namespace Go.Proofs.YtlofddoojkeakaaDoor
set_option linter.unusedVariables false
set_option linter.unusedSimpArgs false
open Go Go.RowKit

theorem outB_bytes (ws : List Int) : Bytes (outB ws) := by
  intro x hx
  simp only [outB, List.mem_flatMap, List.mem_cons, List.not_mem_nil, or_false] at hx
  obtain ⟨y, _, h⟩ := hx
  unfold Byte
  rcases h with rfl | rfl | rfl | rfl <;> omega
theorem sha_bytes (l : List Int) : Bytes (sha256 l) := outB_bytes _
theorem sha_length (l : List Int) : (sha256 l).length = 32 := outB_length _
theorem sz_hash : (Tryd.prog.info? 80).map (·.size) = some 32 := by kernel_rfl
theorem sumAt_zero {W : World} {p : Nat} (h : Row W p 0 zeroSum) : SumAt W p 0 (.slice none 0 0) [] :=
  ⟨fun x hx => by simp at hx, by simp, ⟨⟨0, 0, 0, 0, 0, 0, 0, 0⟩, false, by unfold St.ok W32; simp, .inr ⟨rfl, rfl⟩, h⟩, Buf.nil _ _, by simp [Value.ownBlock]⟩
def zeros32 : List Value := List.replicate 32 (Value.int .u8 0)
/-- two new blocks: the result's, and a Sum that is nought -/
structure Fresh2 (w W : World) (p q : Nat) : Prop where
  keeps : Keeps w W
  res : Row W p 0 zeros32
  sum : SumAt W q 0 (.slice none 0 0) []
  new : w.heap.size ≤ p ∧ p < q
theorem fresh2 (w : World) (T U : TypeId) : Fresh2 w ((w.alloc (.cells zeros32.toArray T)).alloc (.cells zeroSum.toArray U)) w.heap.size (w.heap.size + 1) :=
  ⟨keeps_alloc (keeps_alloc (Keeps.refl w) _) _, (Row.new _ _ _ rfl).alloc _, by
    have := Row.new (w := w.alloc (.cells zeros32.toArray T)) zeroSum _ U rfl
    rw [World.size_alloc] at this
    exact sumAt_zero this, Nat.le_refl _, by omega⟩
theorem Fresh2.added {w W W' : World} {p q : Nat} {l : List Int} (h : Fresh2 w W p q) (ha : AddPost W W' q 0 (.slice none 0 0) ([] ++ l)) : ∃ wv, Keeps w W' ∧ Row W' p 0 zeros32 ∧ SumAt W' q 0 wv l := by
  obtain ⟨wv, h1, h2, _⟩ := ha
  refine ⟨wv, ?_, h.res.chg h2 ?_, h1⟩
  · exact Below.trans h.keeps (h2.below h.keeps.size (fun k hk e => by
      rcases e with e | e
      · have := h.new; omega
      · simp [Value.ownBlock] at e))
  · rintro (e | e)
    · have := h.new; omega
    · simp [Value.ownBlock] at e
set_option maxRecDepth 100000 in
theorem sum256_any (v : Value) (n : Nat) (zs : List Int) (w : World) (hr : Rd w 1 v n (zs.map (Value.int .u8))) (hz : Bytes zs) (hn : n ≤ 35184372088832) :
    Calls Tryd.prog 33 #[v] w fun e w' => e = .returned (.agg ((sha256 zs).map (Value.int .u8)).toArray) ∧ Keeps w w' := by
  have hzl : zs.length = n := by have := hr.1; simpa using this
  obtain ⟨a, cap, rfl⟩ : ∃ a cap, v = .slice a n cap := by obtain ⟨_, a, cap, h, _⟩ := hr; exact ⟨a, cap, h⟩
  have HR := Lib.hid hr; have HZ := Lib.hid hz; have HL := Lib.hid hzl
  clear hr hz hzl
  go_enter Tryd.func33, Tryd.ntmps33
  go_upto_region 2 with (fail)
  have hf := fresh2 w 80 118
  obtain ⟨q, hq⟩ : ∃ q, q = w.heap.size + 1 := ⟨_, rfl⟩
  obtain ⟨p, hp⟩ : ∃ p, p = w.heap.size := ⟨_, rfl⟩
  rw [← hq, ← hp] at hf ⊢
  have HP := Lib.hid hp
  clear hq hp
  refine wp_gen (fun W => Fresh2 w W p q) hf ?_
  clear hf
  intro W hf
  have HF := Lib.hid hf
  clear hf
  go_upto_region 3 with (go_at_call 58; refine (sum_add q 0 _ [] _ n zs _ HF.out.sum (HR.out.keeps HF.out.keeps) HZ.out (by omega) (by simp; omega) (fun h0 e => by have h1 := HR.out.own_lt h0 q e; have h2 := HF.out.new; have h3 := HP.out; omega)).mono ?_; rintro e W2 ⟨rfl, hA⟩; have HA := Lib.hid hA; clear hA)
  obtain ⟨wv, hk, hr, hs⟩ := HF.out.added HA.out
  have HK := Lib.hid hk; have HRR := Lib.hid hr; have HS := Lib.hid hs
  clear hk hr hs HA
  have Z32 : Hid ((Tryd.prog.info? 80).map (·.size) = some ((sha256 zs).map (Value.int .u8)).length) := by
    rw [List.length_map, sha_length]; exact Lib.hid sz_hash
  go_wp2_with (first | (go_at_call 59; refine (sum_hash q 0 _ zs _ HS.out (by rw [HL.out]; omega)).mono ?_; rintro e W3 ⟨rfl, hk3⟩; have HK3 := Lib.hid hk3; clear hk3) | (refine wpList_store_row rfl 80 (.tmp 2) (.tmp 6) rfl p 0 rfl _ _ rfl (HRR.out.keeps HK3.out) (by simp [zeros32, sha_length]) Z32.out (int_oneCell _) ?_; intro W4 hr4 hc4; have HR4 := Lib.hid hr4; have HC4 := Lib.hid hc4; clear hr4 hc4))
  exact bodyPost_ret (v := .agg ((sha256 zs).map (Value.int .u8)).toArray) (results_cell_at (p := 2) (ty := 80) rfl _ _ p 0 _ _ rfl HR4.out Tryd.underlying80 rfl Z32.out) rfl ⟨rfl, keeps_chg (HK.out.trans HK3.out) HC4.out (by have := HP.out; omega)⟩
/-- behind the first of two digests: a block holds it -/
theorem rd_sha {W : World} {q : Nat} {l : List Int} (h : Row W q 0 ((sha256 l).map (Value.int .u8))) : Rd W 1 (.slice (some ⟨q, 0, none⟩) 32 32) 32 ((sha256 l).map (Value.int .u8)) :=
  Rd.of_row h (by simp [sha_length]) (h.lt (by intro e; have := congrArg List.length e; rw [List.length_map, sha_length] at this; simp at this)) (Nat.le_refl _) (by unfold maxLen; omega)
end Go.Proofs.YtlofddoojkeakaaDoor
namespace Go.Proofs.YtlofddoojkeakaaDoor.B64
set_option linter.unusedVariables false
set_option linter.unusedSimpArgs false
open Go Go.RowKit Go.Shelf

set_option maxRecDepth 100000 in
theorem k512_any (w : World) : Calls Tryd.prog 45 #[] w fun e w' => e = .returned (.agg (k512.map (Value.int .u64)).toArray) ∧ Keeps w w' := by
  go_enter Tryd.func45, Tryd.ntmps45
  go_wp2_with (first | (refine wpList_buildFlatArr rfl 95 54 80 _ rfl .u64 k512 Tryd.underlying95 sz_u64 (by kernel_rfl) (by kernel_rfl) ?_) | (refine wpList_store_row rfl 95 (.tmp 0) (.tmp 1) rfl w.heap.size 0 rfl (List.replicate 80 (Value.int .u64 0)) (k512.map (Value.int .u64)) rfl (Row.new _ _ _ rfl) (by kernel_rfl) (by kernel_rfl) (int_oneCell _) ?_; intro w1 hr hc))
  refine bodyPost_ret (results_cell_at (p := 0) (by kernel_rfl) _ _ w.heap.size 0 (k512.map (Value.int .u64)) _ rfl hr Tryd.underlying95 rfl (by kernel_rfl)) rfl ⟨rfl, ?_⟩
  exact Chg.keeps (((Chg.refl (· = w.heap.size) w).alloc _).trans hc) (fun k hk e => by omega)
theorem low16 (v : Int) (h0 : 0 ≤ v) (h1 : v < 18446744073709551616) : (lowB v 16).reverse = List.replicate 8 0 ++ be8 v := by
  simp [lowB, be8]
  omega
theorem tail_eq (n : Nat) (hn : n < 1152921504606846976) : tb (17 + fillN 128 16 n) ((n : Int) * 8) 8 = fillL 128 16 n false := by
  have h := low16 ((n : Int) * 8) (by omega) (by omega)
  simp only [fillL, tb, h, Bool.false_eq_true, if_false]
  simp only [Nat.sub_self, List.drop_zero, List.cons_append]
  rw [← List.append_assoc, show 17 + fillN 128 16 n - 1 - 8 = fillN 128 16 n + 8 by omega, ← List.replicate_append_replicate]
theorem tb_nine (N : Nat) (v : Int) (hN : 17 ≤ N) : (tb N v 8).getD (N - 9) 0 = 0 ∧ (tb N v 8).set (N - 9) 0 = tb N v 8 := by
  have e : (tb N v 8)[N - 9]? = some 0 := by
    unfold tb
    rw [List.getElem?_append_left (by simp; omega), show N - 9 = (N - 10) + 1 by omega, List.getElem?_cons_succ, List.getElem?_replicate, if_pos (by omega)]
  refine ⟨by simp [List.getD, e], ?_⟩
  apply List.ext_getElem?
  intro i
  rw [List.getElem?_set]
  split
  · next h => subst h; rw [e]; have := (List.getElem?_eq_some_iff.1 e).1; simp [this]
  · rfl
set_option maxRecDepth 100000 in
theorem tail5_any (n : Nat) (hn : n < 1152921504606846976) (w : World) : Calls Tryd.prog 47 #[.int .u64 n, .int .i64 128, .int .i64 16] w fun e w' =>
    e = .returned (.slice (some ⟨w.heap.size, 0, none⟩) (17 + fillN 128 16 n) (17 + fillN 128 16 n)) ∧ Keeps w w' ∧ w.heap.size < w'.heap.size ∧ Row w' w.heap.size 0 ((fillL 128 16 n false).map (Value.int .u8)) := by
  have hf : ((fillN 128 16 n : Nat) : Int) = 127 - ((n : Int) + 16) % 128 := by unfold fillN; omega
  have hf2 : fillN 128 16 n ≤ 127 := by unfold fillN; omega
  obtain ⟨i0, hi, hz0, hz1, hz2⟩ := info_parts u8_info
  have HT := Lib.hid (tail_eq n hn)
  generalize fillL 128 16 n false = FL at *
  generalize fillN 128 16 n = f at *
  have HF := Lib.hid hf; clear hf
  go_enter Tryd.func47, Tryd.ntmps47
  go_wp2_with (refine wpList_make_row rfl 38 (.tmp 25) (.tmp 25) rfl 5 i0 (.int .u8 0) 1 Tryd.underlying38 hi hz0 hz1 hz2 rfl .i64 .i64 _ (17 + f) rfl rfl (by have := HF.out; omega) (by omega) (by unfold maxLen; omega) ?_; intro w1 hr hk hsz; have c0 := (hr 0 _ (by rw [Nat.add_comm, List.replicate_succ]; rfl)).1; have f0 := (hr 0 _ (by rw [Nat.add_comm, List.replicate_succ]; rfl)).2; have HR := Lib.hid hr; clear hr)
  go_loopw [29] (fun c wr => ∃ i : Nat, i ≤ 8 ∧ c = .int .i64 i ∧ Keeps w wr ∧ w.heap.size < wr.heap.size ∧ Row wr w.heap.size 0 ((tb (17 + f) ((n : Int) * 8) i).map (Value.int .u8))) (fun c _ => (8 - intOf c).toNat)
  case atStart =>
    refine ⟨0, by omega, rfl, Below.setCell hk (Nat.le_refl _) _, by simpa using hsz, ?_⟩
    have := HR.out.set 0 (by simp; omega) (.int .u8 128)
    rw [show (17 + f) = (16 + f) + 1 by omega, List.replicate_succ] at this
    simpa [tb, be8, show 17 + f - 1 = 16 + f by omega] using this
  case round =>
    obtain ⟨i, hi8, rfl, hk2, hsz2, hr⟩ := hrel
    by_cases hlt : i < 8
    · have c1 := hr.int0 (17 + f - 1 - i) (by rw [tb_length _ _ _ (by omega) hi8]; omega)
      have f1 := hr.free0 (17 + f - 1 - i) (by rw [List.length_map, tb_length _ _ _ (by omega) hi8]; omega)
      have hset := hr.setInt0 (17 + f - 1 - i) (by rw [tb_length _ _ _ (by omega) hi8]; omega) ((n : Int) * 8 / 2 ^ (8 * i) % 256)
      rw [tb_set _ _ _ (by omega) hlt] at hset
      have e8 : 17 + f - 1 - i = 16 + f - i := by omega
      rw [e8] at c1 f1 hset
      have HS := Lib.hid hset; have HR2 := Lib.hid hr; clear hr hset e8
      go_wp2
      go_roundw
      case rel => exact ⟨i + 1, by omega, by go_num, Below.setCell hk2 (Nat.le_refl _) _, by simpa using hsz2, HS.out⟩
      case measure => simp [intOf]; omega
    · obtain rfl : i = 8 := by omega
      obtain ⟨t1, t2⟩ := tb_nine (17 + f) ((n : Int) * 8) (by omega)
      have c1 := hr.int0 (17 + f - 9) (by rw [tb_length _ _ _ (by omega) hi8]; omega)
      have f1 := hr.free0 (17 + f - 9) (by rw [List.length_map, tb_length _ _ _ (by omega) hi8]; omega)
      have hset := hr.setInt0 (17 + f - 9) (by rw [tb_length _ _ _ (by omega) hi8]; omega) 0
      rw [t1] at c1
      rw [t2, HT.out] at hset
      have h61 : (n : Int) / 2305843009213693952 = 0 := by omega
      have HS := Lib.hid hset; clear hr hset t1 t2
      go_wp2
      go_ret
      exact ⟨rfl, Below.setCell hk2 (Nat.le_refl _) _, by simpa using hsz2, HS.out⟩
/-- one chunk after the other -/
def fold5 (M : List Int) (s : St) {B : Nat} (ys : List (Fin B)) : St := ys.foldl (fun s x => compress s ((M.drop (128 * x.val)).take 128)) s
theorem fold5_snoc (M : List Int) (s : St) {B : Nat} (ys : List (Fin B)) (x : Fin B) : fold5 M s (ys ++ [x]) = compress (fold5 M s ys) ((M.drop (128 * x.val)).take 128) := by simp [fold5]
theorem fold5_take (M : List Int) (s : St) (B : Nat) : ∀ k, k ≤ B → fold5 M s ((List.finRange B).take k) = run512 s M k
  | 0, _ => rfl
  | k + 1, h => by rw [finTake (show k < B by omega), fold5_snoc, fold5_take M s B k (by omega)]; rfl
theorem fold5_all (M : List Int) (s : St) (B : Nat) : fold5 M s (List.finRange B) = run512 s M B := by
  have := fold5_take M s B B (Nat.le_refl _)
  rwa [List.take_of_length_le (by simp)] at this
theorem fold5_ok (M : List Int) {s : St} (h : s.ok) {B : Nat} (ys : List (Fin B)) : (fold5 M s ys).ok := by
  induction ys generalizing s with
  | nil => exact h
  | cons a r ih => exact ih (St.plus_ok _ _)
theorem row_kept {W W' : World} {row : Option Nat} {b off : Nat} {vs : List Value} (h : Row W b off vs) (hg : W.grownBy W' row) (hr : ∀ r, row = some r → ∃ o : Obj, W.heap[r]? = some o ∧ o.isCells = false) : Row W' b off vs := by
  by_cases hne : vs = []
  · subst hne; intro j v hv; simp at hv
  · refine h.of_block (hg.block b (h.lt hne) (fun e => ?_))
    obtain ⟨o, ho, hc⟩ := hr b e.symm
    cases vs with
    | nil => exact hne rfl
    | cons v vs =>
      have := (h 0 v rfl).1
      cases o <;> simp_all [World.cell?, Obj.isCells]
theorem refAt_own (B : Nat) (w : World) (hB : w.heap.size ≤ B) (p2 p3 p4 gm om : Nat) (M : List Int) {α : Type} (f : List α → St) : OwnFrom B (fun (ys : List α) W => RefAt w W p2 p3 p4 gm om M (f ys)) := fun ys W W' row h hg hr => by
  have hr2 : ∀ r, row = some r → ∃ o : Obj, W.heap[r]? = some o ∧ o.isCells = false := fun r e => (hr r e).2
  exact ⟨h.keeps.grown hg h.keeps.size (fun k e => Nat.le_trans hB (hr k e).1), row_kept h.res hg hr2, row_kept h.key hg hr2, row_kept h.st hg hr2, row_kept h.msg hg hr2, h.new⟩
theorem rowCells {W : World} {b off : Nat} {v : Value} {vs : List Value} (h : Row W b off (v :: vs)) (o : Obj) (ho : W.heap[b]? = some o) : o.isCells = true := by
  have := (h 0 v rfl).1
  cases o <;> simp_all [World.cell?, Obj.isCells]
theorem chg_from {B p : Nat} {W W' : World} (h : Chg (· = p) W W') (hp : ∀ o, W.heap[p]? = some o → o.isCells = true) : KeepsFrom B W W' :=
  ⟨h.size, fun k o _ hk ho => by
    rw [h.block k (Array.getElem?_eq_some_iff.1 hk).1 (fun e => by have e' : k = p := e; rw [e'] at hk; rw [hp o hk] at ho; cases ho)]
    exact hk⟩
set_option maxHeartbeats 4000000 in
set_option maxRecDepth 100000 in
theorem sum512_any (v : Value) (n : Nat) (zs : List Int) (w : World) (hr : Rd w 1 v n (zs.map (Value.int .u8))) (hz : Bytes zs) (hn : n ≤ 35184372088832) :
    Calls Tryd.prog 27 #[v] w fun e w' => e = .returned (.agg ((sha512 zs).map (Value.int .u8)).toArray) ∧ Keeps w w' := by
  have hzl : zs.length = n := by have := hr.1; simpa using this
  have hf63 : fillN 128 16 n ≤ 127 := (by unfold fillN; omega)
  have hml : (zs ++ fillL 128 16 n false).length = n + (17 + fillN 128 16 n) := by rw [List.length_append, fillL_length, hzl]; omega
  have hmb : Bytes (zs ++ fillL 128 16 n false) := by
    intro x hx
    rcases List.mem_append.1 hx with h | h
    · exact hz x h
    · exact fillL_bytes 128 16 n false x h
  have hmod : (n + (17 + fillN 128 16 n)) % 128 = 0 := by unfold fillN; omega
  have hsha : sha512 zs = outB (run512 iv512 (zs ++ fillL 128 16 n false) ((n + (17 + fillN 128 16 n)) / 128)).list := by unfold sha512 msg512; rw [hzl, hml]
  have htail : ∀ W, Calls Tryd.prog 47 #[.int .u64 n, .int .i64 128, .int .i64 16] W fun e w' => e = .returned (.slice (some ⟨W.heap.size, 0, none⟩) (17 + fillN 128 16 n) (17 + fillN 128 16 n)) ∧ Keeps W w' ∧ W.heap.size < w'.heap.size ∧ Row w' W.heap.size 0 ((fillL 128 16 n false).map (Value.int .u8)) := fun W => tail5_any n (by omega) W
  have hclone : ∀ W, Keeps w W → Calls Tryd.prog 46 #[v] W fun e w' => ∃ v', e = .returned v' ∧ Own W w' v' n zs := fun W hk => (clone_any v n zs W (hr.keeps hk) (by omega)).mono (by rintro e w' ⟨v', rfl, h1, h2, h3⟩; exact ⟨v', rfl, h1, h2, h3⟩)
  have hfl : (fillL 128 16 n false).length = 17 + fillN 128 16 n := by rw [fillL_length]; omega
  rw [hsha]
  have HTAIL := Lib.hid htail; have HCLONE := Lib.hid hclone; have HMB := Lib.hid hmb; have HML := Lib.hid hml; have HFL := Lib.hid hfl
  clear hz hzl htail hclone hmb hml hsha hfl
  obtain ⟨B, hB⟩ : ∃ B, n + (17 + fillN 128 16 n) = 128 * B := ⟨(n + (17 + fillN 128 16 n)) / 128, by omega⟩
  rw [show (n + (17 + fillN 128 16 n)) / 128 = B by omega]
  have HBB := Lib.hid hB
  obtain ⟨_, a, cap, rfl, _⟩ := hr
  rw [hB] at HML
  have hBb : B ≤ 549755813890 := by omega
  clear hmod hB
  generalize fillN 128 16 n = f at *
  generalize fillL 128 16 n false = FL at *
  generalize hM : zs ++ FL = M at *
  have HM := Lib.hid hM
  clear hM
  refine (callsIn_wide (n := 3)).1 (callsIn_of_wp_marks Tryd.func27 rfl trivial (wpIn_wide.2 ?_) rfl)
  simp only [Tryd.ntmps27, List.size_toArray, List.length_cons, List.length_nil, Nat.reduceAdd, Nat.reduceSub, Array.replicate_succ, Array.replicate_zero, List.push_toArray, List.append_toArray, List.nil_append, List.cons_append]
  go_upto_region 1 with (fail)
  refine wp_gen (fun W => Keeps w W ∧ w.heap.size < W.heap.size ∧ Row W w.heap.size 0 (List.replicate 64 (Value.int .u8 0))) ⟨(Keeps.refl _).alloc (Nat.le_refl _) _, by show _ < (w.heap.push _).size; rw [Array.size_push]; omega, Row.new _ _ _ rfl⟩ ?_
  intro W1 ⟨hk1, hl1, hr1⟩
  have HK1 := Lib.hid hk1; have HR1 := Lib.hid hr1
  clear hk1 hr1
  go_upto_region 2 with (refine wpList_store_row rfl 94 (.tmp 3) (.tmp 11) rfl W1.heap.size 0 rfl (List.replicate 8 (Value.int .u64 0)) (iv512.list.map (Value.int .u64)) rfl (Row.new _ _ _ rfl) rfl (by kernel_rfl) (int_oneCell _) ?_; intro W2 hr2 hc2; have HR2 := Lib.hid hr2; have HC2 := Lib.hid hc2; clear hr2 hc2)
  have hk2 : Keeps w W2 := keeps_chg (keeps_alloc HK1.out _) HC2.out (Nat.le_of_lt hl1)
  have hr12 : Row W2 w.heap.size 0 (List.replicate 64 (Value.int .u8 0)) := (HR1.out.alloc _).chg HC2.out (by omega)
  have hl2 : W1.heap.size < W2.heap.size := HR2.out.lt (by simp [St.list])
  have HK2 := Lib.hid hk2; have HR12 := Lib.hid hr12
  clear hk2 hr12 HK1 HR1 HC2
  obtain ⟨p2, hp2⟩ : ∃ p, p = w.heap.size := ⟨_, rfl⟩
  obtain ⟨p3, hp3⟩ : ∃ p, p = W1.heap.size := ⟨_, rfl⟩
  rw [← hp2] at HR12 ⊢
  rw [← hp3] at HR2 ⊢
  have HP2 := Lib.hid hp2; have HP3 := Lib.hid hp3
  clear hp2 hp3
  go_upto_region 3 with (first | (go_at_call 45; refine (k512_any _).mono ?_; rintro e Wk ⟨rfl, hkk⟩; have HKK := Lib.hid hkk; clear hkk) | (refine wpList_store_row rfl 95 (.tmp 4) (.tmp 12) rfl Wk.heap.size 0 rfl (List.replicate 80 (Value.int .u64 0)) (k512.map (Value.int .u64)) rfl (Row.new _ _ _ rfl) (by kernel_rfl) (by kernel_rfl) (int_oneCell _) ?_; intro W3 hr3 hc3; have HR3 := Lib.hid hr3; have HC3 := Lib.hid hc3; clear hr3 hc3))
  have hpk : p3 < Wk.heap.size := by have := HP3.out; have := HKK.out.size; omega
  have hk3 : Keeps w W3 := keeps_chg (keeps_alloc (HK2.out.trans HKK.out) _) HC3.out (by have := HK2.out.size; have := HKK.out.size; omega)
  have hr13 : Row W3 p2 0 (List.replicate 64 (Value.int .u8 0)) := ((HR12.out.keeps HKK.out).alloc _).chg HC3.out (by have := HP2.out; have := HP3.out; omega)
  have hr23 : Row W3 p3 0 (iv512.list.map (Value.int .u64)) := ((HR2.out.keeps HKK.out).alloc _).chg HC3.out (by omega)
  have hl3 : Wk.heap.size < W3.heap.size := HR3.out.lt (by simp [k512])
  have HK3 := Lib.hid hk3; have HR13 := Lib.hid hr13; have HR23 := Lib.hid hr23
  clear hk3 hr13 hr23 HK2 HR12 HR2 HKK HC3
  obtain ⟨p4, hp4⟩ : ∃ p, p = Wk.heap.size := ⟨_, rfl⟩
  rw [← hp4] at HR3 hpk hl3 ⊢
  clear hp4
  go_upto_region 4 with (first | (go_at_call 46; refine (HCLONE.out _ HK3.out).mono ?_; rintro e W4 ⟨vc, rfl, hO⟩; have HO := Lib.hid (show Own W3 W4 vc n zs from hO); clear hO) | (go_at_call 47; refine (HTAIL.out _).mono ?_; rintro e W5 ⟨rfl, hk5, hl5, hr5⟩; have HK5 := Lib.hid hk5; have HR5 := Lib.hid hr5; clear hk5 hr5) | (refine own_append rfl (.tmp 14) (.tmp 18) rfl HO.out HK5.out rfl _ rfl (17 + f) FL (Rd.src (Rd.of_row HR5.out (by have := HFL.out; simp; omega) hl5 (by omega) (by unfold maxLen; omega)) Tryd.underlying38 (int_oneCell FL)) (by omega) ?_; intro v6 W6 hO6 hG6; have HO6 := Lib.hid hO6; clear hO6 hG6))
  have hO6 := HO6.out
  rw [HBB.out, HM.out] at hO6
  obtain ⟨gm, om, cm, rfl, hcm1, hcm2, hgm, hrm⟩ := hO6.buf.form (.inr (by have := HBB.out; omega))
  have hra : RefAt w W6 p2 p4 p3 gm om M (run512 iv512 M 0) := ⟨HK3.out.trans hO6.keeps, HR13.out.keeps hO6.keeps, HR3.out.keeps hO6.keeps, HR23.out.keeps hO6.keeps, hrm, by have := hO6.new gm rfl; have := HK3.out.size; have := HP2.out; have := HP3.out; omega⟩
  have HRA := Lib.hid hra
  have hk36 := hO6.keeps
  have hkw3 := HK3.out
  clear hra hrm hO6 HO6 HO HK5 HR5 HK3 HR13 HR23 HR3 HTAIL HCLONE
  have hW6 : W3.heap.size ≤ W6.heap.size ∧ w.heap.size ≤ W3.heap.size ∧ w.heap.size ≤ W6.heap.size := ⟨hk36.size, hkw3.size, HRA.out.keeps.size⟩
  clear hk36 hkw3
  go_upto_region 5 with (go_at_call 48; refine (chunk_any _ _ _ 128 (by omega) _).mono ?_; rintro e W7 ⟨rfl, rfl⟩)
  refine wp_gen (fun W => RefAt w W p2 p4 p3 gm om M (run512 iv512 M 0) ∧ W.cell? ⟨W6.heap.size, 0, none⟩ = some (.slice (some ⟨gm, om, none⟩) (128 * B) cm) ∧ W.cell? ⟨W6.heap.size + 1, 0, none⟩ = some (.int .i64 128) ∧ W.heap.size = W6.heap.size + 2) ?_ ?_
  · refine ⟨HRA.out.step (keeps_alloc (keeps_alloc (Keeps.refl _) _) _), ?_, ?_, by simp⟩
    · have := (((Row.new [Value.slice (some ⟨gm, om, none⟩) (128 * B) cm] _ 38 rfl : Row (W6.alloc _) _ _ _).alloc (.cells #[.int .i64 128] 3)) 0 _ rfl).1
      rwa [Nat.zero_add] at this
    · have := ((Row.new [Value.int .i64 128] _ 3 rfl : Row ((W6.alloc (.cells #[.slice (some ⟨gm, om, none⟩) (128 * B) cm] 38)).alloc _) _ _ _) 0 _ rfl).1
      rwa [Nat.zero_add, World.size_alloc] at this
  intro W7 ⟨hra7, hbs, hbn, hs7⟩
  have HRA7 := Lib.hid hra7
  clear hra7 HRA
  have hbk : p3 < W6.heap.size ∧ p4 < W6.heap.size := by omega
  generalize W6.heap.size = q6 at *
  generalize W4.heap.size = q4 at *
  generalize hIV : Value.agg #[Value.int IntKind.u64 7640891576956012808, Value.int IntKind.u64 13503953896175478587, Value.int IntKind.u64 4354685564936845355, Value.int IntKind.u64 11912009170470909681, Value.int IntKind.u64 5840696475078001361, Value.int IntKind.u64 11170449401992604703, Value.int IntKind.u64 2270897969802886507, Value.int IntKind.u64 6620516959819538809] = vIV
  generalize hVK : Value.agg (List.map (Value.int IntKind.u64) k512).toArray = vK
  clear hIV hVK
  refine (wpIn_wide (n := 3)).1 (wpIn_rangeFunc_ownG (α := Fin B) rfl (by omega) (gf := 71) (lb := #[.pointer (some ⟨q6, 0, none⟩), .pointer (some ⟨q6 + 1, 0, none⟩)]) rfl trivial (enters_of Tryd.func71 (by kernel_rfl) rfl)
    (chunk_stops _ (by omega) q6 (q6 + 1) W7.heap.size p3 gm om 128 B cm (by omega) (by omega) (by omega) hcm1 (by omega) (by omega) (by omega) (by omega) W7 (Nat.le_refl _) hbs hbn) (fun h k => Chg.trans h k) (KpC.b (Nat.le_refl _)) (Below.refl _ _) (fun _ => rfl)
    (fun ys W => RefAt w W p2 p4 p3 gm om M (fold5 M iv512 ys))
    (fun _ _ _ => False)
    (refAt_own _ w (by omega) p2 p4 p3 gm om M _)
    (fun _ _ _ _ _ hs _ _ => hs)
    HRA7.out
    (fun x => { tmps := #[.slice a n cap, undef, .pointer (some ⟨p2, 0, none⟩), .pointer (some ⟨p3, 0, none⟩), .pointer (some ⟨p4, 0, none⟩), .slice (some ⟨gm, om, none⟩) (128 * B) cm, .slice (some ⟨gm, om + 128 * x.val, none⟩) 128 128, undef, undef, undef, undef, vIV, vK, .slice a n cap, vc, .slice a n cap, .int .i64 n, .int .u64 n, .slice (some ⟨q4, 0, none⟩) (17 + f) (17 + f), .slice (some ⟨gm, om, none⟩) (128 * B) cm, .slice (some ⟨gm, om, none⟩) (128 * B) cm, .func (.func 71) #[] #[.pointer (some ⟨q6, 0, none⟩), .pointer (some ⟨q6 + 1, 0, none⟩)],
      .slice (some ⟨gm, om + 128 * x.val, none⟩) 128 128, undef, undef, undef, undef, undef, undef, undef, undef, undef, undef, undef, undef, undef, undef, undef, undef, undef, undef, undef, undef, undef, undef, undef, undef], defers := [] }) ?assign ?body ?done ?stop)
  case assign =>
    intro l x W K hK
    have hsem := @Oper.semAt_some
    gi_wp2
    exact hK
  case body =>
    rintro l pre x W hI hlen
    have hlk : ((M.drop (128 * x.val)).take 128).length = 128 := by have := HML.out; have := x.isLt; simp; omega
    have hlb : Bytes ((M.drop (128 * x.val)).take 128) := fun y hy => HMB.out y (List.mem_of_mem_drop (List.mem_of_mem_take hy))
    have hok := fold5_ok M iv512_ok pre
    have hrow : Row W gm (om + 128 * x.val) (((M.drop (128 * x.val)).take 128).map (Value.int .u8)) := by
      have := (hI.msg.drop (128 * x.val)).take 128
      rwa [← List.map_drop, ← List.map_take] at this
    have hsn := fold5_snoc M iv512 pre x
    generalize fold5 M iv512 pre = s at *
    have HSN := Lib.hid hsn; have HI := Lib.hid hI; have HLK := Lib.hid hlk; have HLB := Lib.hid hlb; have HOK := Lib.hid hok; have HROW := Lib.hid hrow
    clear hsn hI hlk hlb hok hrow
    have hsem := @Oper.semAt_some
    dsimp only
    gi_wp2_with (refine ⟨trivial, ?_⟩; gi_at_call 49; refine (CallsIn.inRound l (callsIn_wide.2 (step_any s HOK.out _ HLK.out HLB.out p3 0 p4 gm (om + 128 * x.val) 128 (by omega) _ HI.out.st HI.out.key HROW.out))).mono ?_; rintro e w2 ⟨rfl, hc, hr2, _⟩; have HC := Lib.hid hc; have HR2 := Lib.hid hr2; clear hc hr2)
    refine ⟨chg_from HC.out (rowCells HI.out.st), HC.out.mono (fun k _ e => .inl e), ?_⟩
    show RefAt w w2 p2 p4 p3 gm om M (fold5 M iv512 (pre ++ [x]))
    rw [HSN.out]
    exact HI.out.chg HC.out HR2.out
  case done =>
    rintro D ys W hD hys hI hK
    rw [hys, fold5_all] at hI
    have hok := run512_ok iv512_ok M B
    generalize hse : run512 iv512 M B = s at *
    have hDs : D < W.heap.size := (Array.getElem?_eq_some_iff.1 hK).1
    have HI := Lib.hid hI; have HK := Lib.hid hK; have HOK := Lib.hid hok; have HSE := Lib.hid hse
    clear hI hK hok hse hys HRA7 hbs hbn HM HFL
    go_upto_region 8 with (fail)
    obtain ⟨q, hq⟩ : ∃ q, q = W.heap.size := ⟨_, rfl⟩
    have hraq : RefAt w (W.alloc (.cells (List.replicate 64 (Value.int .u8 0)).toArray 43)) p2 p4 p3 gm om M s := HI.out.step (keeps_alloc (Keeps.refl _) _)
    have hrq : Row (W.alloc (.cells (List.replicate 64 (Value.int .u8 0)).toArray 43)) q 0 ((outR s 0).map (Value.int .u8)) := by rw [hq]; exact Row.new _ _ _ (by rw [outR_zero]; rfl)
    have hqb : w.heap.size ≤ q ∧ p2 ≠ q ∧ p3 ≠ q ∧ D ≠ q := by
      have h1 := HI.out.res.lt (by simp)
      have h3 := HI.out.st.lt (by simp [St.list])
      have h5 := HI.out.keeps.size
      omega
    have hdq : (W.alloc (.cells (List.replicate 64 (Value.int .u8 0)).toArray 43)).heap[D]? = some (.deferred (some [])) := by rw [(keeps_alloc (Keeps.refl W) _).block D hDs]; exact HK.out
    rw [← hq]
    refine wp_gen (fun W' => RefAt w W' p2 p4 p3 gm om M s ∧ Row W' q 0 ((outR s 0).map (Value.int .u8)) ∧ W'.heap[D]? = some (.deferred (some []))) ⟨hraq, hrq, hdq⟩ ?_
    clear hraq hrq hq hdq
    intro Wa ⟨hra, hrq, hda⟩
    have HRA := Lib.hid hra; have HRQ := Lib.hid hrq; have HQB := Lib.hid hqb; have HDA := Lib.hid hda
    have hDa : D < Wa.heap.size := (Array.getElem?_eq_some_iff.1 hda).1
    clear hra hrq HI hqb hda HK
    have Z8 : Hid ((Tryd.prog.info? 94).map (·.size) = some (s.list.map (Value.int .u64)).length) := Lib.hid sz_st8u
    go_upto_region 9 with (refine wpList_load_at rfl 94 (.tmp 3) rfl p3 0 rfl (s.list.map (Value.int .u64)) _ HRA.out.st Tryd.underlying94 rfl Z8.out ?_)
    go_loopw [26] (fun c wr => ∃ i : Nat, i ≤ 8 ∧ c = .int .i64 i ∧ Chg (· = q) Wa wr ∧ Row wr q 0 ((outR s (8 * i)).map (Value.int .u8))) (fun c _ => (8 - intOf c).toNat)
    case atStart => exact ⟨0, by omega, rfl, Chg.refl _ _, HRQ.out⟩
    case round =>
      obtain ⟨i, hi, rfl, hch, hrt⟩ := hrel
      by_cases hlt : i < 8
      · have hix : ∀ W : World, (Instr.index 94 (.agg (s.list.map (Value.int .u64)).toArray) (.int .i64 (i : Int))).run Tryd.prog W = .ok (.int .u64 (s.list.getD i 0)) W := fun W => run_index_ints W _ _ 8 _ s.list i Tryd.underlying94 Tryd.underlying54 (by kernel_rfl) (list_length s) hlt
        have hx := list_ok HOK.out i
        have hset : ∀ W j, j < 8 → Row W q 0 ((outR s (8 * i + j)).map (Value.int .u8)) → Row (W.setCell ⟨q, 8 * i + j, none⟩ (.int .u8 (s.list.getD i 0 / 2 ^ (56 - 8 * j) % 256))) q 0 ((outR s (8 * i + (j + 1))).map (Value.int .u8)) := fun W j hj h => by
          have := h.setInt0 (8 * i + j) (by rw [outR_length _ _ (by omega)]; omega) (s.list.getD ((8 * i + j) / 8) 0 / 2 ^ (56 - 8 * ((8 * i + j) % 8)) % 256)
          rw [outR_set _ _ (by omega)] at this
          rwa [show (8 * i + j) / 8 = i by omega, show (8 * i + j) % 8 = j by omega] at this
        have HSET := Lib.hid hset; have HCH := Lib.hid hch; have HRT := Lib.hid hrt
        clear hset hch hrt
        generalize s.list.getD i 0 = x at *
        obtain ⟨x0, x1⟩ := hx
        go_wp2
        go_loopw [30] (fun c wr2 => ∃ j : Nat, j ≤ 8 ∧ c = .int .i64 j ∧ Chg (· = q) Wa wr2 ∧ Row wr2 q 0 ((outR s (8 * i + j)).map (Value.int .u8))) (fun c _ => (8 - intOf c).toNat)
        case atStart => exact ⟨0, by omega, rfl, HCH.out, HRT.out⟩
        case round =>
          obtain ⟨j, hj, rfl, hch, hrt⟩ := hrel
          by_cases hlt2 : j < 8
          · have hfr := hrt.free0 (8 * i + j) (by rw [List.length_map, outR_length _ _ (by omega)]; omega)
            have hce := hrt.int0 (8 * i + j) (by rw [outR_length _ _ (by omega)]; omega)
            have HS := Lib.hid (HSET.out _ j hlt2 hrt); have HCH2 := Lib.hid hch
            clear hch hrt
            go_wp2
            go_roundw
            case rel => exact ⟨j + 1, by omega, by go_num, HCH2.out.setCell (.inr rfl) _, HS.out⟩
            case measure => simp [intOf]; omega
          · obtain rfl : j = 8 := by omega
            have HCH2 := Lib.hid hch; have HRT2 := Lib.hid hrt
            clear hch hrt
            go_wp2
            go_roundw
            case rel => exact ⟨i + 1, by omega, by go_num, HCH2.out, by rw [show 8 * (i + 1) = 8 * i + 8 by omega]; exact HRT2.out⟩
            case measure => simp [intOf]; omega
      · obtain rfl : i = 8 := by omega
        rw [outR_full] at hrt
        have hw2 := HRA.out.res.chg hch HQB.out.2.1
        have hkw := keeps_chg HRA.out.keeps hch HQB.out.1
        have hdw : wr.heap[D]? = some (.deferred (some [])) := by rw [hch.block D hDa (fun e => HQB.out.2.2.2 e)]; exact HDA.out
        have h64 : (outB s.list).length = 64 := outB_length _
        have Z64 : Hid ((Tryd.prog.info? 43).map (·.size) = some ((outB s.list).map (Value.int .u8)).length) := by
          rw [List.length_map, h64]; exact Lib.hid (by kernel_rfl)
        have hdl : D < wr.heap.size := (Array.getElem?_eq_some_iff.1 hdw).1
        have HRR := Lib.hid hrt; have HOW := Lib.hid hw2; have HKW := Lib.hid hkw; have HDW := Lib.hid hdw
        clear hrt hch hw2 hkw hdw
        go_wp2_with (first | (refine wpList_load_at rfl 43 (.tmp 7) rfl q 0 rfl _ _ HRR.out Tryd.underlying43 rfl Z64.out ?_) | (refine wpList_store_row rfl 43 (.tmp 2) (.tmp 46) rfl p2 0 rfl _ _ rfl HOW.out (by simp [h64]) Z64.out (int_oneCell _) ?_; intro W10 hr10 hc10; have HR10 := Lib.hid hr10; have HC10 := Lib.hid hc10; clear hr10 hc10))
        have hK2 : W10.heap[D]? = some (.deferred (some [])) := by
          rw [HC10.out.block D hdl (fun e => by have h2 := HP2.out; have e' : D = p2 := e; omega)]; exact HDW.out
        have hkf : Keeps w W10 := Below.trans HKW.out (HC10.out.below HKW.out.size (fun k hk e => by have := HP2.out; omega))
        have HRF := Lib.hid (row_kept HR10.out (grownBy_putObj' W10 D (.deferred none)) (fun r e => by cases e; exact ⟨_, hK2, rfl⟩))
        have HKF := Lib.hid (Below.trans hkf (belowK_b (w := w) (Nat.le_refl _) W10 D _ (.deferred none) (by omega) hK2 rfl rfl))
        clear hkf
        simp only [Act.put, List.setIfInBounds_toArray, List.set_cons_zero, List.set_cons_succ]
        refine ⟨by simp, .inl ⟨_, _, rfl, run_takeDeferred hK2, ?_⟩⟩
        exact ⟨_, results_cell_at (p := 2) (ty := 43) rfl _ _ p2 0 _ _ rfl HRF.out Tryd.underlying43 rfl Z64.out, by rw [HSE.out], HKF.out⟩
  case stop =>
    rintro D c pre W _ _ h _
    exact h.elim
end Go.Proofs.YtlofddoojkeakaaDoor.B64
