/- A slice that may be appended to: what it reads, and that its spare room may be written (Buf); append onto it, from whatever source. No condition. | Parts of package hash: the constants, the tail that fills a message, slices.Clone at bytes. | A slice of bytes of one's own, that is appended to: what it reads, that all older memory stays. No condition. | Numbers of 256 bits as lists of bytes and of words, in plain Lean. | Words added, targets, bits, subsidies and long division, in plain Lean. -/
import Derived.Test.YtajipagpdphejaaGA1
import Derived.Deep.AppendSrc
import Derived.Test.YtajipagpdphejaaGA2
import Derived.Great.BuildSlice
namespace Go.Proofs.Ytajipagpdphejaa
set_option linter.unusedVariables false
set_option linter.unusedSimpArgs false
open Go Go.RowKit

/-- the value is a slice of n elements of 'size' cells each that reads as xs; its spare room is there and may be written; nil: it has none -/
def Buf (w : World) (size : Nat) (v : Value) (n : Nat) (xs : List Value) : Prop :=
  xs.length = n * size ∧ ((v = .slice none 0 0 ∧ n = 0) ∨
    ∃ g off cap spare, v = .slice (some ⟨g, off, none⟩) n cap ∧ n ≤ cap ∧ cap ≤ maxLen ∧ xs.length + spare.length = cap * size ∧ g < w.heap.size ∧ Row w g off (xs ++ spare))

theorem Buf.nil (w : World) (size : Nat) : Buf w size (.slice none 0 0) 0 [] := ⟨by simp, .inl ⟨rfl, rfl⟩⟩
theorem Buf.chg {S : Nat → Prop} {w w' : World} {size : Nat} {v : Value} {n : Nat} {xs : List Value} (h : Buf w size v n xs) (hc : Chg S w w') (hs : ∀ g, v.ownBlock = some g → ¬ S g) : Buf w' size v n xs := by
  refine ⟨h.1, ?_⟩
  rcases h.2 with hn | ⟨g, off, cap, spare, rfl, h1, h2, h3, h4, h5⟩
  · exact .inl hn
  · exact .inr ⟨g, off, cap, spare, rfl, h1, h2, h3, Nat.lt_of_lt_of_le h4 hc.size, h5.chg hc (hs g rfl)⟩
theorem Buf.keeps {w w' : World} {size : Nat} {v : Value} {n : Nat} {xs : List Value} (h : Buf w size v n xs) (hc : Keeps w w') : Buf w' size v n xs := h.chg (hc.chg (fun _ => False)) (fun _ _ h => h)
theorem Buf.lt {w : World} {size : Nat} {v : Value} {n : Nat} {xs : List Value} (h : Buf w size v n xs) {g : Nat} (hg : v.ownBlock = some g) : g < w.heap.size := by
  rcases h.2 with ⟨rfl, _⟩ | ⟨g', off, cap, spare, rfl, h1, h2, h3, h4, h5⟩
  · simp [Value.ownBlock] at hg
  · simp [Value.ownBlock] at hg; subst hg; exact h4
/-- any slice: an address (perhaps none), the length, a capacity; the row where there is something -/
theorem Buf.any {w : World} {size : Nat} {v : Value} {n : Nat} {xs : List Value} (h : Buf w size v n xs) :
    ∃ a cap, v = .slice a n cap ∧ n ≤ cap ∧ cap ≤ maxLen ∧ (a = none → n = 0 ∧ cap = 0) ∧ (∀ ad, a = some ad → ∃ g off, ad = ⟨g, off, none⟩ ∧ g < w.heap.size ∧ Row w g off xs) := by
  rcases h.2 with ⟨rfl, h0⟩ | ⟨g, off, cap, spare, rfl, h1, h2, h3, h4, h5⟩
  · subst h0; exact ⟨none, 0, rfl, Nat.le_refl _, Nat.zero_le _, fun _ => ⟨rfl, rfl⟩, fun ad h => by cases h⟩
  · refine ⟨_, cap, rfl, h1, h2, fun h => (by cases h), fun ad h => ⟨g, off, (Option.some.inj h).symm, h4, ?_⟩⟩
    have := h5.take xs.length
    rwa [List.take_left] at this
theorem Buf.made {w : World} {size : Nat} (T : TypeId) : Buf (w.alloc (.cells #[] T)) size (.slice (some ⟨w.heap.size, 0, none⟩) 0 0) 0 [] :=
  ⟨by simp, .inr ⟨w.heap.size, 0, 0, [], rfl, Nat.le_refl _, Nat.zero_le _, by simp, by simp, fun j v hv => by simp at hv⟩⟩
/-- a whole row that is a slice's own -/
theorem Buf.of_row {w : World} {size g off n : Nat} {xs : List Value} (h : Row w g off xs) (hl : xs.length = n * size) (hg : g < w.heap.size) (hn : n ≤ maxLen) : Buf w size (.slice (some ⟨g, off, none⟩) n n) n xs :=
  ⟨hl, .inr ⟨g, off, n, [], rfl, Nat.le_refl _, hn, by simp [hl], hg, by simpa using h⟩⟩

/-- many cells stored from a place on -/
theorem Row.setCells {w : World} {b off : Nat} : ∀ (news : List Value) (i : Nat) {w : World} {vs : List Value}, Row w b off vs → i + news.length ≤ vs.length →
    Row (w.setCells b (off + i) news) b off (vs.take i ++ news ++ vs.drop (i + news.length))
  | [], i, w, vs, h, hl => by simpa [World.setCells] using h
  | v :: r, i, w, vs, h, hl => by
    have h1 := h.set i (by simp at hl; omega) v
    have h2 := Row.setCells (w := w) r (i + 1) h1 (by simp at hl ⊢; omega)
    rw [World.setCells, show off + i + 1 = off + (i + 1) by omega]
    have hi : i < vs.length := by simp at hl; omega
    have e : (vs.set i v).take (i + 1) ++ r ++ (vs.set i v).drop (i + 1 + r.length) = vs.take i ++ v :: r ++ vs.drop (i + (v :: r).length) := by
      have e1 : (vs.set i v).take (i + 1) = vs.take i ++ [v] := by
        rw [List.take_succ_eq_append_getElem (by simpa using hi), List.take_set_of_le (Nat.le_refl _)]
        simp
      have e2 : (vs.set i v).drop (i + 1 + r.length) = vs.drop (i + (v :: r).length) := by
        rw [List.drop_set_of_lt (by omega)]
        rw [show i + 1 + r.length = i + (v :: r).length by simp; omega]
      rw [e1, e2]; simp
    rw [e] at h2
    exact h2
theorem setCells_chg (b : Nat) : ∀ (news : List Value) (o : Nat) (w : World), Chg (· = b) w (w.setCells b o news)
  | [], _, w => Chg.refl _ w
  | v :: r, o, w => Chg.trans (b := w.setCell ⟨b, o, none⟩ v) ((Chg.refl (· = b) w).setCell (p := ⟨b, o, none⟩) (.inr rfl) v) (setCells_chg b r (o + 1) _)

/-- what an append hands back: where its elements lie -/
def SameOrNew (w : World) (v v' : Value) : Prop := v'.ownBlock = v.ownBlock ∨ ∃ g, v'.ownBlock = some g ∧ w.heap.size ≤ g

section
variable {P : Program}
end
theorem Src.row {P : Program} {w : World} {size : Nat} {tx e' : TypeId} (hk : P.underlying tx = some (.slice e')) {g off n c : Nat} {news : List Value} (hl : news.length = n * size) (hr : Row w g off news) (h1 : ∀ u ∈ news, u.oneCell' = true) :
    Src P size tx (.slice (some ⟨g, off, none⟩) n c) n news w :=
  Src.ofSlice w hk ⟨g, off, none⟩ n c news hl (fun j u hu => by
    have hadd : (⟨g, off, none⟩ : Addr).add j = ⟨g, off + j, none⟩ := by unfold Addr.add; split <;> simp_all
    rw [hadd]; exact (hr j u hu).1) h1

/-! a whole array, or struct, stored over a row -/
theorem Row.whole {w : World} {b off : Nat} {olds cs : List Value} (h : Row w b off olds) (hl : cs.length = olds.length) : Row (w.setCells b off cs) b off cs := by
  have := Row.setCells (w := w) cs 0 h (by omega)
  simp only [Nat.add_zero, List.take_zero, List.nil_append, Nat.zero_add] at this
  rwa [List.drop_eq_nil_of_le (by omega), List.append_nil] at this
section
variable {P : Program}
theorem run_storeVar_row (w : World) (g off : Nat) (T : TypeId) (olds cs : List Value) (hg : Row w g off olds) (hl : cs.length = olds.length) (hi : (P.info? T).map (·.size) = some cs.length) (h1 : ∀ v ∈ cs, v.oneCell' = true) :
    (storeVar T ⟨g, off, none⟩ (.agg cs.toArray)).run P w = .ok () (w.setCells g off cs) := by
  have hst := run_storeCells_cells (P := P) g off cs 0 w (fun j hj => by
      rw [Nat.add_zero]
      have := hg j olds[j] (by simp)
      rw [this.1]; rfl) (fun j hj => by
      rw [Nat.add_zero]
      exact (hg j olds[j] (by simp)).2) h1
  simp only [Nat.add_zero] at hst
  cases hq : P.info? T with
  | none => simp [hq] at hi
  | some x =>
    have hx : x.size = cs.length := by simpa [hq] using hi
    simp [storeVar, Value.cells, sizeOf, typeInfo, hq, hx, hst]
theorem wpList_store_row {w : World} {ops : Array Oper} {rest : List Oper} {o : Oper} {a : Act} {Q : Exit → Act → World → Prop} (hgd : o.guard = none) (T : TypeId) (x y : Operand) (ho : o.op = .store T x y)
    (g off : Nat) (hx : a.eval x = .pointer (some ⟨g, off, none⟩)) (olds cs : List Value) (hy : a.eval y = .agg cs.toArray) (hg : Row w g off olds) (hl : cs.length = olds.length)
    (hi : (P.info? T).map (·.size) = some cs.length) (h1 : ∀ v ∈ cs, v.oneCell' = true)
    (h : ∀ w', Row w' g off cs → Chg (· = g) w w' → wpList P ops Q rest (a.put o.dst undef) w') : wpList P ops Q (o :: rest) a w :=
  wpList_plain hgd fun _ hK => by
    unfold Oper.wp execOp
    simp only [ho, hx, hy, Instr.storeAt, Instr.sureAddr, Sem.run_bind, Sem.run_pure, Result.andThen_ok, run_storeVar_row w g off T olds cs hg hl hi h1]
    exact hK _ _ (h _ (hg.whole hl) (setCells_chg _ _ _ _))
end

/-! make([]T, n), elements of one cell -/
theorem madeCells_one (z : Value) (n : Nat) : madeCells #[z] n = (List.replicate n z).toArray := by
  apply Array.ext
  · simp [madeCells]
  · intro i h1 h2
    simp [madeCells, Nat.mod_one]
section
variable {P : Program}
theorem wpList_make_row {w : World} {ops : Array Oper} {rest : List Oper} {o : Oper} {a : Act} {Q : Exit → Act → World → Prop} (hgd : o.guard = none) (t : TypeId) (x y : Operand) (ho : o.op = .makeSlice t x y)
    (e : TypeId) (i : TypeInfo) (z : Value) (bytes : Nat) (ht : P.underlying t = some (.slice e)) (hi : P.info? e = some i) (hz : i.zero = some z) (hs : i.size = 1) (hby : i.bytes = bytes) (hzc : z.cells = #[z])
    (kl kc : IntKind) (c : Int) (n : Nat) (hx : a.eval x = .int kl c) (hy : a.eval y = .int kc c) (hc : c = (n : Int)) (hbytes : bytes * n ≤ 281474976710656) (h63 : n ≤ maxLen)
    (h : ∀ w', Row w' w.heap.size 0 (List.replicate n z) → Keeps w w' → w.heap.size < w'.heap.size → wpList P ops Q rest (a.put o.dst (.slice (some ⟨w.heap.size, 0, none⟩) n n)) w') : wpList P ops Q (o :: rest) a w :=
  wpList_plain hgd fun _ hK => by
    subst hby hc
    have hr := run_make (P := P) w t e i z ht hi hz kl kc (n : Int) (n : Int) (by omega) (Int.le_refl _) (by omega) (by simp only [maxLen] at h63; omega)
    simp only [Int.toNat_natCast, hs, Nat.mul_one, hzc, madeCells_one] at hr
    unfold Oper.wp execOp
    simp only [ho, hx, hy, Sem.run_bind, Sem.run_pure, Result.andThen_ok, hr]
    exact hK _ _ (h _ (Row.new _ _ _ rfl) ((Keeps.refl w).alloc (Nat.le_refl _) _) (by simp))
end

/-- a slice that may be read -/
def Rd (w : World) (size : Nat) (v : Value) (n : Nat) (xs : List Value) : Prop :=
  xs.length = n * size ∧ ∃ a cap, v = .slice a n cap ∧ n ≤ cap ∧ cap ≤ maxLen ∧ (a = none → n = 0 ∧ cap = 0) ∧ (∀ ad, a = some ad → 0 < n → ∃ g off, ad = ⟨g, off, none⟩ ∧ g < w.heap.size ∧ Row w g off xs)
theorem Rd.chg {S : Nat → Prop} {w w' : World} {size : Nat} {v : Value} {n : Nat} {xs : List Value} (h : Rd w size v n xs) (hc : Chg S w w') (hs : ∀ g, v.ownBlock = some g → ¬ S g) : Rd w' size v n xs := by
  obtain ⟨h0, a, cap, rfl, h2, h3, h4, h5⟩ := h
  refine ⟨h0, a, cap, rfl, h2, h3, h4, fun ad e hn => ?_⟩
  obtain ⟨g, off, e2, hg, hr⟩ := h5 ad e hn
  subst e e2
  exact ⟨g, off, rfl, Nat.lt_of_lt_of_le hg hc.size, hr.chg hc (hs g rfl)⟩
theorem Rd.keeps {w w' : World} {size : Nat} {v : Value} {n : Nat} {xs : List Value} (h : Rd w size v n xs) (hc : Keeps w w') : Rd w' size v n xs := h.chg (hc.chg (fun _ => False)) (fun _ _ h => h)
theorem Rd.of_row {w : World} {size g off n cap : Nat} {xs : List Value} (h : Row w g off xs) (hl : xs.length = n * size) (hg : g < w.heap.size) (hn : n ≤ cap) (hc : cap ≤ maxLen) : Rd w size (.slice (some ⟨g, off, none⟩) n cap) n xs :=
  ⟨hl, _, _, rfl, hn, hc, fun h => (by cases h), fun ad e _ => ⟨g, off, (Option.some.inj e).symm, hg, h⟩⟩
/-- the rest of a slice -/
theorem Buf.tail {w : World} {g off n cap k : Nat} {xs : List Value} (h : Buf w 1 (.slice (some ⟨g, off, none⟩) n cap) n xs) (hk : k ≤ n) : Buf w 1 (.slice (some ⟨g, off + k, none⟩) (n - k) (cap - k)) (n - k) (xs.drop k) := by
  have h0 := h.1
  rcases h.2 with ⟨hv, _⟩ | ⟨g', off', cap', spare, hv, h1, h2, h3, h4, h5⟩
  · cases hv
  · cases hv
    refine ⟨by rw [List.length_drop]; omega, .inr ⟨g, off + k, cap - k, spare, rfl, by omega, by omega, by rw [List.length_drop]; omega, h4, ?_⟩⟩
    have := h5.drop k
    rwa [List.drop_append_of_le_length (by omega)] at this
theorem wp_gen {P : Program} {c : Code} {Q : Exit → Act → World → Prop} {a : Act} {E : World} (I : World → Prop) (hE : I E) (h : ∀ W, I W → Code.wp P c Q a W) : Code.wp P c Q a E := h E hE
end Go.Proofs.Ytajipagpdphejaa
namespace Go.Proofs.Ytajipagpdphejaa
set_option linter.unusedVariables false
set_option linter.unusedSimpArgs false
open Go Go.RowKit

/-- the eight words as a value -/
def St.agg (s : St) : Value := .agg #[.int .u32 s.a, .int .u32 s.b, .int .u32 s.c, .int .u32 s.d, .int .u32 s.e, .int .u32 s.f, .int .u32 s.g, .int .u32 s.h]
theorem u8_info : (Try.prog.info? 5).map (fun i => (i.zero, i.size, i.bytes)) = some (some (.int .u8 0), 1, 1) := by kernel_rfl

/-- from w on a slice of n bytes has been made in memory of its own: it reads as l; all that was there at w stays -/
structure Own (w W : World) (v : Value) (n : Nat) (l : List Int) : Prop where
  keeps : Keeps w W
  buf : Buf W 1 v n (l.map (Value.int .u8))
  new : ∀ g, v.ownBlock = some g → w.heap.size ≤ g
theorem Own.nil (w : World) : Own w w (.slice none 0 0) 0 [] := ⟨Keeps.refl _, Buf.nil _ _, fun g h => by simp [Value.ownBlock] at h⟩
theorem Own.made (w : World) (T : TypeId) : Own w (w.alloc (.cells #[] T)) (.slice (some ⟨w.heap.size, 0, none⟩) 0 0) 0 [] :=
  ⟨(Keeps.refl w).alloc (Nat.le_refl _) _, Buf.made T, fun g h => by simp [Value.ownBlock] at h; omega⟩
theorem Own.step {w W W' : World} {v : Value} {n : Nat} {l : List Int} (h : Own w W v n l) (hk : Keeps W W') : Own w W' v n l :=
  ⟨h.keeps.trans hk, h.buf.keeps hk, h.new⟩
theorem Own.len {w W : World} {v : Value} {n : Nat} {l : List Int} (h : Own w W v n l) : l.length = n := by have := h.buf.1; simpa using this
theorem Own.any {w W : World} {v : Value} {n : Nat} {l : List Int} (h : Own w W v n l) : ∃ a cap, v = .slice a n cap := by
  obtain ⟨a, cap, h1, _⟩ := h.buf.any
  exact ⟨a, cap, h1⟩
theorem Own.after {w W w1 w2 : World} {v v' : Value} {n m : Nat} {l r : List Int} (h : Own w W v n l) (hk : Keeps W w1) (hb : Buf w2 1 v' (n + m) (l.map (Value.int .u8) ++ r.map (Value.int .u8)))
    (hc : Chg (fun k => v.ownBlock = some k) w1 w2) (hs : SameOrNew w1 v v') : Own w w2 v' (n + m) (l ++ r) := by
  have hk1 := h.keeps.trans hk
  refine ⟨Below.trans hk1 (hc.below hk1.size (fun k hk2 e => by have := h.new k e; omega)), by rw [List.map_append]; exact hb, ?_⟩
  intro g hg
  rcases hs with e | ⟨g', e1, e2⟩
  · exact h.new g (by rw [← e]; exact hg)
  · rw [hg] at e1; cases e1; exact Nat.le_trans hk1.size e2
/-- an append's effect beside what it reads: only the old block is written; the new value lies there or in new memory -/
def Grown (w w' : World) (v v' : Value) : Prop := Chg (fun k => v.ownBlock = some k) w w' ∧ SameOrNew w v v'
theorem Grown.keeps {w w1 w' : World} {v v' : Value} (hk : Keeps w w1) (h : Grown w1 w' v v') : Grown w w' v v' := by
  refine ⟨(hk.chg _).trans h.1, ?_⟩
  rcases h.2 with e | ⟨g, e1, e2⟩
  · exact .inl e
  · exact .inr ⟨g, e1, Nat.le_trans hk.size e2⟩
theorem snoc_ind {P : List Int → Prop} (h0 : P []) (hs : ∀ l x, P l → P (l ++ [x])) (l : List Int) : P l := by
  rw [← List.reverse_reverse l]
  induction l.reverse with
  | nil => exact h0
  | cons a r ih => rw [List.reverse_cons]; exact hs _ _ ih
/-- the number that bytes tell, the greatest first -/
def be (l : List Int) : Int := l.foldl (fun a c => a * 256 + c) 0
theorem be_snoc (l : List Int) (c : Int) : be (l ++ [c]) = be l * 256 + c := by simp [be, List.foldl_append]
theorem be_append (a b : List Int) : be (a ++ b) = be a * 256 ^ b.length + be b := by
  induction b using snoc_ind with
  | h0 => simp [be]
  | hs b c ih =>
    rw [← List.append_assoc, be_snoc, ih, be_snoc, List.length_append, List.length_singleton, Int.pow_succ, Int.add_mul, Int.mul_assoc, Int.add_assoc]
theorem be_range {l : List Int} (h : Bytes l) : 0 ≤ be l ∧ be l < 256 ^ l.length := by
  induction l using snoc_ind with
  | h0 => simp [be]
  | hs b c ih =>
    have hb := ih (fun x hx => h x (by simp [hx]))
    have hc := h c (by simp)
    rw [be_snoc, List.length_append, List.length_singleton, Int.pow_succ]
    obtain ⟨h1, h2⟩ := hb
    obtain ⟨h3, h4⟩ := hc
    omega
/-- k bytes of a number, the greatest first -/
def toB : Nat → Int → List Int
  | 0, _ => []
  | k + 1, v => toB k (v / 256) ++ [v % 256]
theorem toB_length (k : Nat) (v : Int) : (toB k v).length = k := by
  induction k generalizing v with
  | zero => rfl
  | succ k ih => simp [toB, ih]
theorem toB_getD (k : Nat) (v : Int) (i : Nat) (h : i < k) : (toB k v).getD i 0 = v / 256 ^ (k - 1 - i) % 256 := by
  induction k generalizing v i with
  | zero => omega
  | succ k ih =>
    by_cases hi : i < k
    · have e : (toB (k + 1) v).getD i 0 = (toB k (v / 256)).getD i 0 := by
        simp [toB, List.getD, List.getElem?_append_left, toB_length, hi]
      rw [e, ih _ _ hi, show k + 1 - 1 - i = (k - 1 - i) + 1 by omega, Int.pow_succ', Int.ediv_ediv_of_nonneg (by decide)]
    · obtain rfl : i = k := by omega
      simp [toB, List.getD, toB_length]
/-- the first i of a list, then noughts, N in all -/
def upto0 (l : List Int) (N i : Nat) : List Int := l.take i ++ List.replicate (N - i) 0
theorem upto0_zero (l : List Int) (N : Nat) : upto0 l N 0 = List.replicate N 0 := by simp [upto0]
theorem upto0_full (l : List Int) (N : Nat) (h : l.length = N) : upto0 l N N = l := by simp [upto0, ← h]
theorem upto0_length (l : List Int) (N i : Nat) (h : l.length = N) (hi : i ≤ N) : (upto0 l N i).length = N := by simp [upto0, h]; omega
theorem upto0_set (l : List Int) (N i : Nat) (h : l.length = N) (hi : i < N) : (upto0 l N i).set i (l.getD i 0) = upto0 l N (i + 1) := by
  have hl : i < l.length := by omega
  unfold upto0
  have e : i - (l.take i).length = 0 := by simp; omega
  rw [List.set_append_right _ _ (by simp; omega), e, show N - i = (N - (i + 1)) + 1 by omega, List.replicate_succ, List.set_cons_zero, List.take_succ_eq_append_getElem hl, List.append_assoc]
  simp [List.getD, hl]
/-- the four words of a number, the lowest first -/
def words (v : Int) : List Int := [v % 18446744073709551616, v / 18446744073709551616 % 18446744073709551616, v / 340282366920938463463374607431768211456 % 18446744073709551616, v / 6277101735386680763835789423207666416102355444464034512896 % 18446744073709551616]
theorem words_length (v : Int) : (words v).length = 4 := rfl
/-- what is carried into word i -/
def wcarry (u v : Int) (i : Nat) : Int := (u % 18446744073709551616 ^ i + v % 18446744073709551616 ^ i) / 18446744073709551616 ^ i
theorem B64_pos (i : Nat) : (0 : Int) < 18446744073709551616 ^ i := Int.pow_pos (by decide)
theorem words_getD' (v : Int) (i : Nat) (h : i < 4) : (words v).getD i 0 = v / 18446744073709551616 ^ i % 18446744073709551616 := by
  have : i = 0 ∨ i = 1 ∨ i = 2 ∨ i = 3 := by omega
  rcases this with rfl | rfl | rfl | rfl <;> simp [words]
theorem emod_pow_succ (u B : Int) (hB : 0 < B) (i : Nat) : u % B ^ (i + 1) = u % B ^ i + B ^ i * (u / B ^ i % B) := by
  have hp : 0 < B ^ i := Int.pow_pos hB
  have h1 := Int.emod_add_mul_ediv u (B ^ i)
  have h2 := Int.emod_add_mul_ediv (u / B ^ i) B
  have e : u = (u % B ^ i + B ^ i * (u / B ^ i % B)) + B ^ (i + 1) * (u / B ^ i / B) := by
    have h3 : B ^ (i + 1) * (u / B ^ i / B) = B ^ i * (B * (u / B ^ i / B)) := by rw [Int.pow_succ, Int.mul_assoc]
    rw [h3, Int.add_assoc, ← Int.mul_add, h2, h1]
  have r1 := Int.emod_nonneg u (Int.ne_of_gt hp)
  have r2 := Int.emod_lt_of_pos u hp
  have r3 := Int.emod_nonneg (u / B ^ i) (Int.ne_of_gt hB)
  have r4 := Int.emod_lt_of_pos (u / B ^ i) hB
  conv => lhs; rw [e]
  rw [Int.add_mul_emod_self_left, Int.emod_eq_of_lt]
  · have := Int.mul_nonneg (Int.le_of_lt hp) r3
    omega
  · have h5 : B ^ i * (u / B ^ i % B) ≤ B ^ i * (B - 1) := Int.mul_le_mul_of_nonneg_left (by omega) (Int.le_of_lt hp)
    have h6 : B ^ i * (B - 1) = B ^ (i + 1) - B ^ i := by rw [Int.pow_succ, Int.mul_sub, Int.mul_one]
    omega
theorem wcarry_zero (u v : Int) : wcarry u v 0 = 0 := by simp [wcarry, Int.emod_one]
theorem wcarry_step (u v : Int) (i : Nat) (h : i < 4) :
    ((words u).getD i 0 + (words v).getD i 0 + wcarry u v i) / 18446744073709551616 = wcarry u v (i + 1) ∧
    ((words u).getD i 0 + (words v).getD i 0 + wcarry u v i) % 18446744073709551616 = (words (u + v)).getD i 0 := by
  have hp := B64_pos i
  have key : (words u).getD i 0 + (words v).getD i 0 + wcarry u v i = (u % 18446744073709551616 ^ (i + 1) + v % 18446744073709551616 ^ (i + 1)) / 18446744073709551616 ^ i := by
    rw [words_getD' _ _ h, words_getD' _ _ h, emod_pow_succ u _ (by decide), emod_pow_succ v _ (by decide), wcarry]
    generalize u % 18446744073709551616 ^ i = a
    generalize v % 18446744073709551616 ^ i = b
    generalize u / 18446744073709551616 ^ i % 18446744073709551616 = c
    generalize v / 18446744073709551616 ^ i % 18446744073709551616 = d
    rw [show a + 18446744073709551616 ^ i * c + (b + 18446744073709551616 ^ i * d) = (a + b) + 18446744073709551616 ^ i * (c + d) by rw [Int.mul_add]; omega, Int.add_mul_ediv_left _ _ (Int.ne_of_gt hp)]
    omega
  refine ⟨?_, ?_⟩
  · rw [key, wcarry, Int.ediv_ediv_of_nonneg (Int.le_of_lt hp), ← Int.pow_succ]
  · rw [key, words_getD' _ _ h]
    have e1 := Int.emod_add_mul_ediv u (18446744073709551616 ^ (i + 1))
    have e2 := Int.emod_add_mul_ediv v (18446744073709551616 ^ (i + 1))
    generalize hs : u % 18446744073709551616 ^ (i + 1) + v % 18446744073709551616 ^ (i + 1) = s
    have e3 : u + v = s + 18446744073709551616 ^ i * (18446744073709551616 * (u / 18446744073709551616 ^ (i + 1) + v / 18446744073709551616 ^ (i + 1))) := by
      rw [← Int.mul_assoc, ← Int.pow_succ, Nat.succ_eq_add_one, Int.mul_add]; omega
    conv => rhs; rw [e3]
    rw [Int.add_mul_ediv_left _ _ (Int.ne_of_gt hp), Int.add_mul_emod_self_left]
theorem wcarry_range (u v : Int) (i : Nat) : 0 ≤ wcarry u v i ∧ wcarry u v i ≤ 1 := by
  have hp := B64_pos i
  have r1 := Int.emod_nonneg u (Int.ne_of_gt hp)
  have r2 := Int.emod_lt_of_pos u hp
  have r3 := Int.emod_nonneg v (Int.ne_of_gt hp)
  have r4 := Int.emod_lt_of_pos v hp
  unfold wcarry
  refine ⟨Int.ediv_nonneg (by omega) (by omega), ?_⟩
  have : (u % 18446744073709551616 ^ i + v % 18446744073709551616 ^ i) / 18446744073709551616 ^ i < 2 := Int.ediv_lt_of_lt_mul hp (by omega)
  omega
theorem wcarry_four {u v : Int} (hu : 0 ≤ u) (hu' : u < 115792089237316195423570985008687907853269984665640564039457584007913129639936) (hv : 0 ≤ v) (hv' : v < 115792089237316195423570985008687907853269984665640564039457584007913129639936) : wcarry u v 4 = (u + v) / 115792089237316195423570985008687907853269984665640564039457584007913129639936 := by
  unfold wcarry
  rw [show (18446744073709551616 : Int) ^ 4 = 115792089237316195423570985008687907853269984665640564039457584007913129639936 by decide, Int.emod_eq_of_lt hu hu', Int.emod_eq_of_lt hv hv']
/-- what is wanting at word i -/
def wborrow (u v : Int) (i : Nat) : Int := -((u % 18446744073709551616 ^ i - v % 18446744073709551616 ^ i) / 18446744073709551616 ^ i)
theorem wborrow_zero (u v : Int) : wborrow u v 0 = 0 := by simp [wborrow, Int.emod_one]
theorem wborrow_step (u v : Int) (i : Nat) (h : i < 4) :
    -(((words u).getD i 0 - (words v).getD i 0 - wborrow u v i) / 18446744073709551616) = wborrow u v (i + 1) ∧
    ((words u).getD i 0 - (words v).getD i 0 - wborrow u v i) % 18446744073709551616 = (words (u - v)).getD i 0 := by
  have hp := B64_pos i
  have key : (words u).getD i 0 - (words v).getD i 0 - wborrow u v i = (u % 18446744073709551616 ^ (i + 1) - v % 18446744073709551616 ^ (i + 1)) / 18446744073709551616 ^ i := by
    rw [words_getD' _ _ h, words_getD' _ _ h, emod_pow_succ u _ (by decide), emod_pow_succ v _ (by decide), wborrow]
    generalize u % 18446744073709551616 ^ i = a
    generalize v % 18446744073709551616 ^ i = b
    generalize u / 18446744073709551616 ^ i % 18446744073709551616 = c
    generalize v / 18446744073709551616 ^ i % 18446744073709551616 = d
    rw [show a + 18446744073709551616 ^ i * c - (b + 18446744073709551616 ^ i * d) = (a - b) + 18446744073709551616 ^ i * (c - d) by rw [Int.mul_sub]; omega, Int.add_mul_ediv_left _ _ (Int.ne_of_gt hp)]
    omega
  refine ⟨?_, ?_⟩
  · rw [key, wborrow, Int.ediv_ediv_of_nonneg (Int.le_of_lt hp), ← Int.pow_succ]
  · rw [key, words_getD' _ _ h]
    have e1 := Int.emod_add_mul_ediv u (18446744073709551616 ^ (i + 1))
    have e2 := Int.emod_add_mul_ediv v (18446744073709551616 ^ (i + 1))
    generalize hs : u % 18446744073709551616 ^ (i + 1) - v % 18446744073709551616 ^ (i + 1) = s
    have e3 : u - v = s + 18446744073709551616 ^ i * (18446744073709551616 * (u / 18446744073709551616 ^ (i + 1) - v / 18446744073709551616 ^ (i + 1))) := by
      rw [← Int.mul_assoc, ← Int.pow_succ, Nat.succ_eq_add_one, Int.mul_sub]; omega
    conv => rhs; rw [e3]
    rw [Int.add_mul_ediv_left _ _ (Int.ne_of_gt hp), Int.add_mul_emod_self_left]
theorem wborrow_range (u v : Int) (i : Nat) : 0 ≤ wborrow u v i ∧ wborrow u v i ≤ 1 := by
  have hp := B64_pos i
  have r1 := Int.emod_nonneg u (Int.ne_of_gt hp)
  have r2 := Int.emod_lt_of_pos u hp
  have r3 := Int.emod_nonneg v (Int.ne_of_gt hp)
  have r4 := Int.emod_lt_of_pos v hp
  unfold wborrow
  generalize u % 18446744073709551616 ^ i = a at *
  generalize v % 18446744073709551616 ^ i = b at *
  generalize (18446744073709551616 : Int) ^ i = M at *
  by_cases h : b ≤ a
  · rw [Int.ediv_eq_zero_of_lt (by omega) (by omega)]; omega
  · have : (a - b) / M = -1 := by
      rw [show a - b = (a - b + M) + M * (-1) by omega, Int.add_mul_ediv_left _ _ (Int.ne_of_gt hp), Int.ediv_eq_zero_of_lt (by omega) (by omega)]; rfl
    omega
theorem wborrow_four {u v : Int} (hu : 0 ≤ u) (hu' : u < 115792089237316195423570985008687907853269984665640564039457584007913129639936) (hv : 0 ≤ v) (hv' : v < 115792089237316195423570985008687907853269984665640564039457584007913129639936) : wborrow u v 4 = if u < v then 1 else 0 := by
  unfold wborrow
  rw [show (18446744073709551616 : Int) ^ 4 = 115792089237316195423570985008687907853269984665640564039457584007913129639936 by decide, Int.emod_eq_of_lt hu hu', Int.emod_eq_of_lt hv hv']
  split <;> omega
theorem getD_set (l : List Int) (p j : Nat) (v : Int) (h : j < l.length) : (l.set p v).getD j 0 = if p = j then v else l.getD j 0 := by
  simp only [List.getD, List.getElem?_set]
  split <;> rename_i hp
  · subst hp; simp [h]
  · rfl
/-- bit i of a number -/
def bit (a : Int) (i : Nat) : Int := a / 2 ^ i % 2
end Go.Proofs.Ytajipagpdphejaa
