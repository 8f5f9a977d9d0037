/- Parts of package hash: the constants, the tail that fills a message, slices.Clone at bytes. | A slice of bytes of one's own, that is appended to: what it reads, that all older memory stays. No condition. | Numbers of 256 bits as lists of bytes and of words, in plain Lean. | Words added, targets, bits, subsidies and long division, in plain Lean. -/
import Derived.Test.YtlofddoojkeakaaDoorGA1
import Derived.Test.YtlofddoojkeakaaDoorGA2
import Derived.Great.BuildSlice
namespace Go.Proofs.YtlofddoojkeakaaDoor
set_option linter.unusedVariables false
set_option linter.unusedSimpArgs false
open Go Go.RowKit

/-- the eight words as a value -/
def St.agg (s : St) : Value := .agg #[.int .u32 s.a, .int .u32 s.b, .int .u32 s.c, .int .u32 s.d, .int .u32 s.e, .int .u32 s.f, .int .u32 s.g, .int .u32 s.h]
theorem begin_any (w : World) : Calls Tryd.prog 81 #[] w fun e w' => e = .returned iv256.agg ∧ Keeps w w' := by
  go_enter Tryd.func81, Tryd.ntmps81
  go_wp2
  exact bodyPost_ret (v := iv256.agg) (by simp [results, Tryd.results81, go_sem]; rfl) rfl ⟨rfl, (Keeps.refl _).alloc (Nat.le_refl _) _⟩
set_option maxRecDepth 100000 in
theorem k256_any (w : World) : Calls Tryd.prog 82 #[] w fun e w' => e = .returned (.agg (k256.map (Value.int .u32)).toArray) ∧ Keeps w w' := by
  go_enter Tryd.func82, Tryd.ntmps82
  go_wp2_with (first | (refine wpList_buildFlatArr rfl 149 23 64 _ rfl .u32 k256 Tryd.underlying149 sz_u32 (by kernel_rfl) (by kernel_rfl) ?_) | (refine wpList_store_row rfl 149 (.tmp 0) (.tmp 1) rfl w.heap.size 0 rfl (List.replicate 64 (Value.int .u32 0)) (k256.map (Value.int .u32)) rfl (Row.new _ _ _ rfl) (by kernel_rfl) (by kernel_rfl) (int_oneCell _) ?_; intro w1 hr hc))
  refine bodyPost_ret (results_cell_at (p := 0) (by kernel_rfl) _ _ w.heap.size 0 (k256.map (Value.int .u32)) _ rfl hr Tryd.underlying149 rfl (by kernel_rfl)) rfl ⟨rfl, ?_⟩
  exact Chg.keeps (((Chg.refl (· = w.heap.size) w).alloc _).trans hc) (fun k hk e => by omega)
theorem u8_info : (Tryd.prog.info? 5).map (fun i => (i.zero, i.size, i.bytes)) = some (some (.int .u8 0), 1, 1) := by kernel_rfl

/-- eight bytes of a number, the greatest first -/
def be8 (v : Int) : List Int := [v / 72057594037927936 % 256, v / 281474976710656 % 256, v / 1099511627776 % 256, v / 4294967296 % 256, v / 16777216 % 256, v / 65536 % 256, v / 256 % 256, v % 256]
theorem be8_bytes (v : Int) : Bytes (be8 v) := by
  intro x hx
  simp only [be8, List.mem_cons, List.mem_singleton, List.not_mem_nil, or_false] at hx
  unfold Byte
  rcases hx with rfl | rfl | rfl | rfl | rfl | rfl | rfl | rfl <;> omega
/-- a head, noughts, and the last i bytes of a number, N in all -/
def tb (N : Nat) (v : Int) (i : Nat) : List Int := (128 :: List.replicate (N - 1 - i) 0) ++ (be8 v).drop (8 - i)
theorem tb_length (N : Nat) (v : Int) (i : Nat) (hN : 9 ≤ N) (hi : i ≤ 8) : (tb N v i).length = N := by simp [tb, be8]; omega
theorem tb_set (N : Nat) (v : Int) (i : Nat) (hN : 9 ≤ N) (hi : i < 8) : (tb N v i).set (N - 1 - i) (v / 2 ^ (8 * i) % 256) = tb N v (i + 1) := by
  unfold tb
  rw [List.set_append_left _ _ (by simp)]
  have e : (128 :: List.replicate (N - 1 - i) (0 : Int)).set (N - 1 - i) (v / 2 ^ (8 * i) % 256) = (128 :: List.replicate (N - 1 - (i + 1)) 0) ++ [v / 2 ^ (8 * i) % 256] := by
    rw [show N - 1 - i = (N - 1 - (i + 1)) + 1 by omega, List.set_cons_succ, List.replicate_succ', List.set_append_right _ _ (by simp)]
    simp
  rw [e, List.append_assoc]
  congr 1
  have : i = 0 ∨ i = 1 ∨ i = 2 ∨ i = 3 ∨ i = 4 ∨ i = 5 ∨ i = 6 ∨ i = 7 := by omega
  rcases this with rfl | rfl | rfl | rfl | rfl | rfl | rfl | rfl <;> simp [be8]
/-- what fills a message of n bytes up to blocks of 64 -/
def fill64 (n : Nat) : Nat := 63 - (n + 8) % 64
def tail64 (n : Nat) : List Int := 128 :: List.replicate (fill64 n) 0 ++ be8 (n * 8)
theorem tail64_eq (n : Nat) : tb (9 + fill64 n) ((n : Int) * 8) 8 = tail64 n := by simp [tb, tail64]

set_option maxRecDepth 100000 in
theorem tail_any (n : Nat) (hn : n < 1152921504606846976) (w : World) : Calls Tryd.prog 47 #[.int .u64 n, .int .i64 64, .int .i64 8] w fun e w' =>
    e = .returned (.slice (some ⟨w.heap.size, 0, none⟩) (9 + fill64 n) (9 + fill64 n)) ∧ Keeps w w' ∧ w.heap.size < w'.heap.size ∧ Row w' w.heap.size 0 ((tail64 n).map (Value.int .u8)) := by
  have hf : ((fill64 n : Nat) : Int) = 63 - ((n : Int) + 8) % 64 := by unfold fill64; omega
  have hf2 : fill64 n ≤ 63 := by unfold fill64; omega
  obtain ⟨i0, hi, hz0, hz1, hz2⟩ := info_parts u8_info
  have HT := Lib.hid (tail64_eq n)
  generalize fill64 n = f at *
  have HF := Lib.hid hf; clear hf
  go_enter Tryd.func47, Tryd.ntmps47
  go_wp2_with (refine wpList_make_row rfl 38 (.tmp 25) (.tmp 25) rfl 5 i0 (.int .u8 0) 1 Tryd.underlying38 hi hz0 hz1 hz2 rfl .i64 .i64 _ (9 + f) rfl rfl (by have := HF.out; omega) (by omega) (by unfold maxLen; omega) ?_; intro w1 hr hk hsz; have c0 := (hr 0 _ (by rw [Nat.add_comm, List.replicate_succ]; rfl)).1; have f0 := (hr 0 _ (by rw [Nat.add_comm, List.replicate_succ]; rfl)).2; have HR := Lib.hid hr; clear hr)
  go_loopw [29] (fun c wr => ∃ i : Nat, i ≤ 8 ∧ c = .int .i64 i ∧ Keeps w wr ∧ w.heap.size < wr.heap.size ∧ Row wr w.heap.size 0 ((tb (9 + f) ((n : Int) * 8) i).map (Value.int .u8))) (fun c _ => (8 - intOf c).toNat)
  case atStart =>
    refine ⟨0, by omega, rfl, Below.setCell hk (Nat.le_refl _) _, by simpa using hsz, ?_⟩
    have := HR.out.set 0 (by simp; omega) (.int .u8 128)
    rw [show (9 + f) = (8 + f) + 1 by omega, List.replicate_succ] at this
    simpa [tb, be8, show 9 + f - 1 = 8 + f by omega] using this
  case round =>
    obtain ⟨i, hi8, rfl, hk2, hsz2, hr⟩ := hrel
    by_cases hlt : i < 8
    · have c1 := hr.int0 (9 + f - 1 - i) (by rw [tb_length _ _ _ (by omega) hi8]; omega)
      have f1 := hr.free0 (9 + f - 1 - i) (by rw [List.length_map, tb_length _ _ _ (by omega) hi8]; omega)
      have hset := hr.setInt0 (9 + f - 1 - i) (by rw [tb_length _ _ _ (by omega) hi8]; omega) ((n : Int) * 8 / 2 ^ (8 * i) % 256)
      rw [tb_set _ _ _ (by omega) hlt] at hset
      have e8 : 9 + f - 1 - i = 8 + f - i := by omega
      rw [e8] at c1 f1 hset
      have HS := Lib.hid hset; have HR2 := Lib.hid hr; clear hr hset e8
      go_wp2
      go_roundw
      case rel => exact ⟨i + 1, by omega, by go_num, Below.setCell hk2 (Nat.le_refl _) _, by simpa using hsz2, HS.out⟩
      case measure => simp [intOf]; omega
    · obtain rfl : i = 8 := by omega
      rw [HT.out] at hr
      have HR2 := Lib.hid hr; clear hr
      go_wp2
      go_ret
      exact ⟨rfl, hk2, hsz2, HR2.out⟩

/-! slices.Clone at []byte -/
theorem clone_nil (w : World) : Calls Tryd.prog 46 #[.slice none 0 0] w fun e w' => e = .returned (.slice none 0 0) ∧ Keeps w w' := by
  have hq := fun (W : World) => Lib.run_eql_slice_nil (P := Tryd.prog) W 38 5 none 0 0 0 0 Tryd.underlying38
  go_enter Tryd.func46, Tryd.ntmps46
  go_wp2
  go_ret
  exact ⟨rfl, Keeps.refl _⟩
theorem clone_some (ad : Addr) (n cap : Nat) (zs : List Int) (w : World) (hr : Rd w 1 (.slice (some ad) n cap) n (zs.map (Value.int .u8))) (hn : n ≤ 140737488355328) :
    Calls Tryd.prog 46 #[.slice (some ad) n cap] w fun e w' => ∃ v', e = .returned v' ∧ Keeps w w' ∧ Buf w' 1 v' n (zs.map (Value.int .u8)) ∧ ∀ g, v'.ownBlock = some g → w.heap.size ≤ g := by
  have hq := fun (W : World) => Lib.run_eql_slice_nil (P := Tryd.prog) W 38 5 (some ad) n cap 0 0 Tryd.underlying38
  obtain ⟨i0, hi, hz0, hz1, hz2⟩ := info_parts u8_info
  have HR := Lib.hid hr; clear hr
  go_enter Tryd.func46, Tryd.ntmps46
  go_wp2_with (at_builtin; refine wpList_append_buf rfl (.tmp 5) (.tmp 6) 38 38 rfl 5 i0 (.int .u8 0) 1 1 Tryd.underlying38 hi hz0 hz1 hz2 rfl (by decide) _ 0 [] rfl (Buf.made _) _ rfl n _ ((HR.out.keeps ((Keeps.refl w).alloc (Nat.le_refl _) _)).src Tryd.underlying38 (int_oneCell zs)) (by unfold maxLen; omega) (by omega) ?_; intro v' w1 hb hc hs hnn; have HB := Lib.hid hb; have HC := Lib.hid hc; have HS := Lib.hid hs; clear hb hc hs hnn)
  go_ret
  refine ⟨v', rfl, ?_, ?_, ?_⟩
  · exact Chg.keeps (((Chg.refl (fun k => k = w.heap.size) w).alloc _).trans (HC.out.mono (fun k _ h => (Option.some.inj (show some w.heap.size = some k from h)).symm))) (fun k hk e => by omega)
  · have := HB.out; simpa using this
  · intro g hg
    rcases HS.out with h | ⟨g', h1, h2⟩
    · have h' : v'.ownBlock = some w.heap.size := h
      rw [hg] at h'; cases h'; exact Nat.le_refl _
    · rw [hg] at h1; cases h1; simp at h2; omega
/-- a copy of its own, nil of nil -/
theorem clone_any (v : Value) (n : Nat) (zs : List Int) (w : World) (hr : Rd w 1 v n (zs.map (Value.int .u8))) (hn : n ≤ 140737488355328) :
    Calls Tryd.prog 46 #[v] w fun e w' => ∃ v', e = .returned v' ∧ Keeps w w' ∧ Buf w' 1 v' n (zs.map (Value.int .u8)) ∧ ∀ g, v'.ownBlock = some g → w.heap.size ≤ g := by
  have hr0 := hr
  obtain ⟨h0, a, cap, rfl, h2, h3, h4, h5⟩ := hr0
  cases a with
  | none =>
    obtain ⟨rfl, rfl⟩ := h4 rfl
    have hx : zs = [] := List.eq_nil_of_length_eq_zero (by simpa using h0)
    subst hx
    refine (clone_nil w).mono ?_
    rintro e w' ⟨rfl, hk⟩
    exact ⟨_, rfl, hk, Buf.nil _ _, fun g hg => by simp [Value.ownBlock] at hg⟩
  | some ad => exact clone_some ad n cap zs w hr hn
/-- from w on a slice of n bytes has been made in memory of its own: it reads as l; all that was there at w stays -/
structure Own (w W : World) (v : Value) (n : Nat) (l : List Int) : Prop where
  keeps : Keeps w W
  buf : Buf W 1 v n (l.map (Value.int .u8))
  new : ∀ g, v.ownBlock = some g → w.heap.size ≤ g
theorem Own.nil (w : World) : Own w w (.slice none 0 0) 0 [] := ⟨Keeps.refl _, Buf.nil _ _, fun g h => by simp [Value.ownBlock] at h⟩
theorem Own.made (w : World) (T : TypeId) : Own w (w.alloc (.cells #[] T)) (.slice (some ⟨w.heap.size, 0, none⟩) 0 0) 0 [] :=
  ⟨(Keeps.refl w).alloc (Nat.le_refl _) _, Buf.made T, fun g h => by simp [Value.ownBlock] at h; omega⟩
theorem Own.step {w W W' : World} {v : Value} {n : Nat} {l : List Int} (h : Own w W v n l) (hk : Keeps W W') : Own w W' v n l :=
  ⟨h.keeps.trans hk, h.buf.keeps hk, h.new⟩
theorem Own.len {w W : World} {v : Value} {n : Nat} {l : List Int} (h : Own w W v n l) : l.length = n := by have := h.buf.1; simpa using this
theorem Own.rd {w W : World} {v : Value} {n : Nat} {l : List Int} (h : Own w W v n l) : Rd W 1 v n (l.map (Value.int .u8)) := h.buf.rd
theorem Own.any {w W : World} {v : Value} {n : Nat} {l : List Int} (h : Own w W v n l) : ∃ a cap, v = .slice a n cap := by
  obtain ⟨a, cap, h1, _⟩ := h.buf.any
  exact ⟨a, cap, h1⟩
theorem Own.after {w W w1 w2 : World} {v v' : Value} {n m : Nat} {l r : List Int} (h : Own w W v n l) (hk : Keeps W w1) (hb : Buf w2 1 v' (n + m) (l.map (Value.int .u8) ++ r.map (Value.int .u8)))
    (hc : Chg (fun k => v.ownBlock = some k) w1 w2) (hs : SameOrNew w1 v v') : Own w w2 v' (n + m) (l ++ r) := by
  have hk1 := h.keeps.trans hk
  refine ⟨Below.trans hk1 (hc.below hk1.size (fun k hk2 e => by have := h.new k e; omega)), by rw [List.map_append]; exact hb, ?_⟩
  intro g hg
  rcases hs with e | ⟨g', e1, e2⟩
  · exact h.new g (by rw [← e]; exact hg)
  · rw [hg] at e1; cases e1; exact Nat.le_trans hk1.size e2
/-- an append's effect beside what it reads: only the old block is written; the new value lies there or in new memory -/
def Grown (w w' : World) (v v' : Value) : Prop := Chg (fun k => v.ownBlock = some k) w w' ∧ SameOrNew w v v'
/-- x lies in memory that is there, and not where v lies -/
def Apart (w : World) (x v : Value) : Prop := ∀ g, x.ownBlock = some g → g < w.heap.size ∧ v.ownBlock ≠ some g
theorem Apart.grown {w w' : World} {x v v' : Value} (h : Apart w x v) (hg : Grown w w' v v') : Apart w' x v' := by
  intro g e
  obtain ⟨h1, h2⟩ := h g e
  refine ⟨Nat.lt_of_lt_of_le h1 hg.1.size, ?_⟩
  rcases hg.2 with e2 | ⟨g', e2, e3⟩
  · rw [e2]; exact h2
  · rw [e2]; intro e4; cases e4; omega
theorem Rd.grown {w w' : World} {x v v' : Value} {size n : Nat} {xs : List Value} (h : Rd w size x n xs) (ha : Apart w x v) (hg : Grown w w' v v') : Rd w' size x n xs :=
  h.chg hg.1 (fun g e e2 => (ha g e).2 e2)
theorem Grown.keeps {w w1 w' : World} {v v' : Value} (hk : Keeps w w1) (h : Grown w1 w' v v') : Grown w w' v v' := by
  refine ⟨(hk.chg _).trans h.1, ?_⟩
  rcases h.2 with e | ⟨g, e1, e2⟩
  · exact .inl e
  · exact .inr ⟨g, e1, Nat.le_trans hk.size e2⟩
theorem own_append {w W W1 : World} {ops : Array Oper} {rest : List Oper} {o : Oper} {a : Act} {Q : Exit → Act → World → Prop} (hgd : o.guard = none) (s x : Operand)
    (ho : o.op = .call { callee := .builtin .append, args := #[s, x], argTypes := #[38, 38] }) {v : Value} {n : Nat} {l : List Int} (hO : Own w W v n l) (hk : Keeps W W1) (hv : a.eval s = v)
    (xv : Value) (hx : a.eval x = xv) (m : Nat) (r : List Int) (hs : Src Tryd.prog 1 38 xv m (r.map (Value.int .u8)) W1) (hn : n + m ≤ 140737488355328)
    (h : ∀ v' w', Own w w' v' (n + m) (l ++ r) → Grown W1 w' v v' → wpList Tryd.prog ops Q rest (a.put o.dst v') w') : wpList Tryd.prog ops Q (o :: rest) a W1 := by
  obtain ⟨i0, hi, hz0, hz1, hz2⟩ := info_parts u8_info
  exact wpList_append_buf hgd s x 38 38 ho 5 i0 (.int .u8 0) 1 1 Tryd.underlying38 hi hz0 hz1 hz2 rfl (by decide) v n _ hv (hO.buf.keeps hk) xv hx m _ hs (by unfold maxLen; omega) (by omega)
    (fun v' w' hb hc hs' _ => h v' w' (hO.after hk hb hc hs') ⟨hc, hs'⟩)
theorem snoc_ind {P : List Int → Prop} (h0 : P []) (hs : ∀ l x, P l → P (l ++ [x])) (l : List Int) : P l := by
  rw [← List.reverse_reverse l]
  induction l.reverse with
  | nil => exact h0
  | cons a r ih => rw [List.reverse_cons]; exact hs _ _ ih
/-- the number that bytes tell, the greatest first -/
def be (l : List Int) : Int := l.foldl (fun a c => a * 256 + c) 0
theorem be_snoc (l : List Int) (c : Int) : be (l ++ [c]) = be l * 256 + c := by simp [be, List.foldl_append]
theorem be_append (a b : List Int) : be (a ++ b) = be a * 256 ^ b.length + be b := by
  induction b using snoc_ind with
  | h0 => simp [be]
  | hs b c ih =>
    rw [← List.append_assoc, be_snoc, ih, be_snoc, List.length_append, List.length_singleton, Int.pow_succ, Int.add_mul, Int.mul_assoc, Int.add_assoc]
theorem be_range {l : List Int} (h : Bytes l) : 0 ≤ be l ∧ be l < 256 ^ l.length := by
  induction l using snoc_ind with
  | h0 => simp [be]
  | hs b c ih =>
    have hb := ih (fun x hx => h x (by simp [hx]))
    have hc := h c (by simp)
    rw [be_snoc, List.length_append, List.length_singleton, Int.pow_succ]
    obtain ⟨h1, h2⟩ := hb
    obtain ⟨h3, h4⟩ := hc
    omega
/-- k bytes of a number, the greatest first -/
def toB : Nat → Int → List Int
  | 0, _ => []
  | k + 1, v => toB k (v / 256) ++ [v % 256]
theorem toB_length (k : Nat) (v : Int) : (toB k v).length = k := by
  induction k generalizing v with
  | zero => rfl
  | succ k ih => simp [toB, ih]
theorem toB_bytes (k : Nat) (v : Int) : Bytes (toB k v) := by
  induction k generalizing v with
  | zero => intro x hx; simp [toB] at hx
  | succ k ih =>
    intro x hx
    simp only [toB, List.mem_append, List.mem_singleton] at hx
    rcases hx with hx | rfl
    · exact ih _ x hx
    · exact ⟨by omega, by omega⟩
theorem be_toB (k : Nat) (v : Int) : be (toB k v) = v % 256 ^ k := by
  induction k generalizing v with
  | zero => simp [toB, be, Int.emod_one]
  | succ k ih =>
    rw [toB, be_snoc, ih, Int.pow_succ]
    have hM : (0 : Int) < 256 ^ k := Int.pow_pos (by decide)
    have key : ∀ s t r M : Int, 0 ≤ s → s < M → 0 ≤ r → r < 256 → (s * 256 + r + M * 256 * t) % (M * 256) = s * 256 + r := by
      intro s t r M h1 h2 h3 h4
      rw [Int.add_mul_emod_self_left, Int.emod_eq_of_lt (by omega) (by omega)]
    have h1 := Int.emod_add_mul_ediv (v / 256) (256 ^ k)
    have h5 := key _ (v / 256 / 256 ^ k) (v % 256) _ (Int.emod_nonneg (v / 256) (Int.ne_of_gt hM)) (Int.emod_lt_of_pos (v / 256) hM) (by omega) (by omega)
    rw [← h5]
    congr 1
    rw [Int.mul_assoc, Int.mul_comm 256 (v / 256 / 256 ^ k), ← Int.mul_assoc]
    generalize 256 ^ k * (v / 256 / 256 ^ k) = A at *
    generalize v / 256 % 256 ^ k = B at *
    omega
theorem toB_getD (k : Nat) (v : Int) (i : Nat) (h : i < k) : (toB k v).getD i 0 = v / 256 ^ (k - 1 - i) % 256 := by
  induction k generalizing v i with
  | zero => omega
  | succ k ih =>
    by_cases hi : i < k
    · have e : (toB (k + 1) v).getD i 0 = (toB k (v / 256)).getD i 0 := by
        simp [toB, List.getD, List.getElem?_append_left, toB_length, hi]
      rw [e, ih _ _ hi, show k + 1 - 1 - i = (k - 1 - i) + 1 by omega, Int.pow_succ', Int.ediv_ediv_of_nonneg (by decide)]
    · obtain rfl : i = k := by omega
      simp [toB, List.getD, toB_length]
/-- the first i of a list, then noughts, N in all -/
def upto0 (l : List Int) (N i : Nat) : List Int := l.take i ++ List.replicate (N - i) 0
theorem upto0_zero (l : List Int) (N : Nat) : upto0 l N 0 = List.replicate N 0 := by simp [upto0]
theorem upto0_full (l : List Int) (N : Nat) (h : l.length = N) : upto0 l N N = l := by simp [upto0, ← h]
theorem upto0_length (l : List Int) (N i : Nat) (h : l.length = N) (hi : i ≤ N) : (upto0 l N i).length = N := by simp [upto0, h]; omega
theorem upto0_set (l : List Int) (N i : Nat) (h : l.length = N) (hi : i < N) : (upto0 l N i).set i (l.getD i 0) = upto0 l N (i + 1) := by
  have hl : i < l.length := by omega
  unfold upto0
  have e : i - (l.take i).length = 0 := by simp; omega
  rw [List.set_append_right _ _ (by simp; omega), e, show N - i = (N - (i + 1)) + 1 by omega, List.replicate_succ, List.set_cons_zero, List.take_succ_eq_append_getElem hl, List.append_assoc]
  simp [List.getD, hl]
/-- the four words of a number, the lowest first -/
def words (v : Int) : List Int := [v % 18446744073709551616, v / 18446744073709551616 % 18446744073709551616, v / 340282366920938463463374607431768211456 % 18446744073709551616, v / 6277101735386680763835789423207666416102355444464034512896 % 18446744073709551616]
theorem words_length (v : Int) : (words v).length = 4 := rfl
/-- what is carried into word i -/
def wcarry (u v : Int) (i : Nat) : Int := (u % 18446744073709551616 ^ i + v % 18446744073709551616 ^ i) / 18446744073709551616 ^ i
theorem B64_pos (i : Nat) : (0 : Int) < 18446744073709551616 ^ i := Int.pow_pos (by decide)
theorem words_getD' (v : Int) (i : Nat) (h : i < 4) : (words v).getD i 0 = v / 18446744073709551616 ^ i % 18446744073709551616 := by
  have : i = 0 ∨ i = 1 ∨ i = 2 ∨ i = 3 := by omega
  rcases this with rfl | rfl | rfl | rfl <;> simp [words]
theorem emod_pow_succ (u B : Int) (hB : 0 < B) (i : Nat) : u % B ^ (i + 1) = u % B ^ i + B ^ i * (u / B ^ i % B) := by
  have hp : 0 < B ^ i := Int.pow_pos hB
  have h1 := Int.emod_add_mul_ediv u (B ^ i)
  have h2 := Int.emod_add_mul_ediv (u / B ^ i) B
  have e : u = (u % B ^ i + B ^ i * (u / B ^ i % B)) + B ^ (i + 1) * (u / B ^ i / B) := by
    have h3 : B ^ (i + 1) * (u / B ^ i / B) = B ^ i * (B * (u / B ^ i / B)) := by rw [Int.pow_succ, Int.mul_assoc]
    rw [h3, Int.add_assoc, ← Int.mul_add, h2, h1]
  have r1 := Int.emod_nonneg u (Int.ne_of_gt hp)
  have r2 := Int.emod_lt_of_pos u hp
  have r3 := Int.emod_nonneg (u / B ^ i) (Int.ne_of_gt hB)
  have r4 := Int.emod_lt_of_pos (u / B ^ i) hB
  conv => lhs; rw [e]
  rw [Int.add_mul_emod_self_left, Int.emod_eq_of_lt]
  · have := Int.mul_nonneg (Int.le_of_lt hp) r3
    omega
  · have h5 : B ^ i * (u / B ^ i % B) ≤ B ^ i * (B - 1) := Int.mul_le_mul_of_nonneg_left (by omega) (Int.le_of_lt hp)
    have h6 : B ^ i * (B - 1) = B ^ (i + 1) - B ^ i := by rw [Int.pow_succ, Int.mul_sub, Int.mul_one]
    omega
theorem wcarry_zero (u v : Int) : wcarry u v 0 = 0 := by simp [wcarry, Int.emod_one]
theorem wcarry_step (u v : Int) (i : Nat) (h : i < 4) :
    ((words u).getD i 0 + (words v).getD i 0 + wcarry u v i) / 18446744073709551616 = wcarry u v (i + 1) ∧
    ((words u).getD i 0 + (words v).getD i 0 + wcarry u v i) % 18446744073709551616 = (words (u + v)).getD i 0 := by
  have hp := B64_pos i
  have key : (words u).getD i 0 + (words v).getD i 0 + wcarry u v i = (u % 18446744073709551616 ^ (i + 1) + v % 18446744073709551616 ^ (i + 1)) / 18446744073709551616 ^ i := by
    rw [words_getD' _ _ h, words_getD' _ _ h, emod_pow_succ u _ (by decide), emod_pow_succ v _ (by decide), wcarry]
    generalize u % 18446744073709551616 ^ i = a
    generalize v % 18446744073709551616 ^ i = b
    generalize u / 18446744073709551616 ^ i % 18446744073709551616 = c
    generalize v / 18446744073709551616 ^ i % 18446744073709551616 = d
    rw [show a + 18446744073709551616 ^ i * c + (b + 18446744073709551616 ^ i * d) = (a + b) + 18446744073709551616 ^ i * (c + d) by rw [Int.mul_add]; omega, Int.add_mul_ediv_left _ _ (Int.ne_of_gt hp)]
    omega
  refine ⟨?_, ?_⟩
  · rw [key, wcarry, Int.ediv_ediv_of_nonneg (Int.le_of_lt hp), ← Int.pow_succ]
  · rw [key, words_getD' _ _ h]
    have e1 := Int.emod_add_mul_ediv u (18446744073709551616 ^ (i + 1))
    have e2 := Int.emod_add_mul_ediv v (18446744073709551616 ^ (i + 1))
    generalize hs : u % 18446744073709551616 ^ (i + 1) + v % 18446744073709551616 ^ (i + 1) = s
    have e3 : u + v = s + 18446744073709551616 ^ i * (18446744073709551616 * (u / 18446744073709551616 ^ (i + 1) + v / 18446744073709551616 ^ (i + 1))) := by
      rw [← Int.mul_assoc, ← Int.pow_succ, Nat.succ_eq_add_one, Int.mul_add]; omega
    conv => rhs; rw [e3]
    rw [Int.add_mul_ediv_left _ _ (Int.ne_of_gt hp), Int.add_mul_emod_self_left]
theorem wcarry_range (u v : Int) (i : Nat) : 0 ≤ wcarry u v i ∧ wcarry u v i ≤ 1 := by
  have hp := B64_pos i
  have r1 := Int.emod_nonneg u (Int.ne_of_gt hp)
  have r2 := Int.emod_lt_of_pos u hp
  have r3 := Int.emod_nonneg v (Int.ne_of_gt hp)
  have r4 := Int.emod_lt_of_pos v hp
  unfold wcarry
  refine ⟨Int.ediv_nonneg (by omega) (by omega), ?_⟩
  have : (u % 18446744073709551616 ^ i + v % 18446744073709551616 ^ i) / 18446744073709551616 ^ i < 2 := Int.ediv_lt_of_lt_mul hp (by omega)
  omega
theorem wcarry_four {u v : Int} (hu : 0 ≤ u) (hu' : u < 115792089237316195423570985008687907853269984665640564039457584007913129639936) (hv : 0 ≤ v) (hv' : v < 115792089237316195423570985008687907853269984665640564039457584007913129639936) : wcarry u v 4 = (u + v) / 115792089237316195423570985008687907853269984665640564039457584007913129639936 := by
  unfold wcarry
  rw [show (18446744073709551616 : Int) ^ 4 = 115792089237316195423570985008687907853269984665640564039457584007913129639936 by decide, Int.emod_eq_of_lt hu hu', Int.emod_eq_of_lt hv hv']
/-- what is wanting at word i -/
def wborrow (u v : Int) (i : Nat) : Int := -((u % 18446744073709551616 ^ i - v % 18446744073709551616 ^ i) / 18446744073709551616 ^ i)
theorem wborrow_zero (u v : Int) : wborrow u v 0 = 0 := by simp [wborrow, Int.emod_one]
theorem wborrow_step (u v : Int) (i : Nat) (h : i < 4) :
    -(((words u).getD i 0 - (words v).getD i 0 - wborrow u v i) / 18446744073709551616) = wborrow u v (i + 1) ∧
    ((words u).getD i 0 - (words v).getD i 0 - wborrow u v i) % 18446744073709551616 = (words (u - v)).getD i 0 := by
  have hp := B64_pos i
  have key : (words u).getD i 0 - (words v).getD i 0 - wborrow u v i = (u % 18446744073709551616 ^ (i + 1) - v % 18446744073709551616 ^ (i + 1)) / 18446744073709551616 ^ i := by
    rw [words_getD' _ _ h, words_getD' _ _ h, emod_pow_succ u _ (by decide), emod_pow_succ v _ (by decide), wborrow]
    generalize u % 18446744073709551616 ^ i = a
    generalize v % 18446744073709551616 ^ i = b
    generalize u / 18446744073709551616 ^ i % 18446744073709551616 = c
    generalize v / 18446744073709551616 ^ i % 18446744073709551616 = d
    rw [show a + 18446744073709551616 ^ i * c - (b + 18446744073709551616 ^ i * d) = (a - b) + 18446744073709551616 ^ i * (c - d) by rw [Int.mul_sub]; omega, Int.add_mul_ediv_left _ _ (Int.ne_of_gt hp)]
    omega
  refine ⟨?_, ?_⟩
  · rw [key, wborrow, Int.ediv_ediv_of_nonneg (Int.le_of_lt hp), ← Int.pow_succ]
  · rw [key, words_getD' _ _ h]
    have e1 := Int.emod_add_mul_ediv u (18446744073709551616 ^ (i + 1))
    have e2 := Int.emod_add_mul_ediv v (18446744073709551616 ^ (i + 1))
    generalize hs : u % 18446744073709551616 ^ (i + 1) - v % 18446744073709551616 ^ (i + 1) = s
    have e3 : u - v = s + 18446744073709551616 ^ i * (18446744073709551616 * (u / 18446744073709551616 ^ (i + 1) - v / 18446744073709551616 ^ (i + 1))) := by
      rw [← Int.mul_assoc, ← Int.pow_succ, Nat.succ_eq_add_one, Int.mul_sub]; omega
    conv => rhs; rw [e3]
    rw [Int.add_mul_ediv_left _ _ (Int.ne_of_gt hp), Int.add_mul_emod_self_left]
theorem wborrow_range (u v : Int) (i : Nat) : 0 ≤ wborrow u v i ∧ wborrow u v i ≤ 1 := by
  have hp := B64_pos i
  have r1 := Int.emod_nonneg u (Int.ne_of_gt hp)
  have r2 := Int.emod_lt_of_pos u hp
  have r3 := Int.emod_nonneg v (Int.ne_of_gt hp)
  have r4 := Int.emod_lt_of_pos v hp
  unfold wborrow
  generalize u % 18446744073709551616 ^ i = a at *
  generalize v % 18446744073709551616 ^ i = b at *
  generalize (18446744073709551616 : Int) ^ i = M at *
  by_cases h : b ≤ a
  · rw [Int.ediv_eq_zero_of_lt (by omega) (by omega)]; omega
  · have : (a - b) / M = -1 := by
      rw [show a - b = (a - b + M) + M * (-1) by omega, Int.add_mul_ediv_left _ _ (Int.ne_of_gt hp), Int.ediv_eq_zero_of_lt (by omega) (by omega)]; rfl
    omega
theorem wborrow_four {u v : Int} (hu : 0 ≤ u) (hu' : u < 115792089237316195423570985008687907853269984665640564039457584007913129639936) (hv : 0 ≤ v) (hv' : v < 115792089237316195423570985008687907853269984665640564039457584007913129639936) : wborrow u v 4 = if u < v then 1 else 0 := by
  unfold wborrow
  rw [show (18446744073709551616 : Int) ^ 4 = 115792089237316195423570985008687907853269984665640564039457584007913129639936 by decide, Int.emod_eq_of_lt hu hu', Int.emod_eq_of_lt hv hv']
  split <;> omega
/-- bit i of a number -/
def bit (a : Int) (i : Nat) : Int := a / 2 ^ i % 2
end Go.Proofs.YtlofddoojkeakaaDoor
