/- A slice that may be appended to: what it reads, and that its spare room may be written (Buf); append onto it, from whatever source. No condition. -/
import Derived.Test.YtlofddoojkeakaaDoorGA0
import Derived.Deep.AppendSrc
namespace Go.Proofs.YtlofddoojkeakaaDoor
set_option linter.unusedVariables false
set_option linter.unusedSimpArgs false
open Go Go.RowKit

/-- the value is a slice of n elements of 'size' cells each that reads as xs; its spare room is there and may be written; nil: it has none -/
def Buf (w : World) (size : Nat) (v : Value) (n : Nat) (xs : List Value) : Prop :=
  xs.length = n * size ∧ ((v = .slice none 0 0 ∧ n = 0) ∨
    ∃ g off cap spare, v = .slice (some ⟨g, off, none⟩) n cap ∧ n ≤ cap ∧ cap ≤ maxLen ∧ xs.length + spare.length = cap * size ∧ g < w.heap.size ∧ Row w g off (xs ++ spare))

theorem Buf.nil (w : World) (size : Nat) : Buf w size (.slice none 0 0) 0 [] := ⟨by simp, .inl ⟨rfl, rfl⟩⟩
theorem Buf.chg {S : Nat → Prop} {w w' : World} {size : Nat} {v : Value} {n : Nat} {xs : List Value} (h : Buf w size v n xs) (hc : Chg S w w') (hs : ∀ g, v.ownBlock = some g → ¬ S g) : Buf w' size v n xs := by
  refine ⟨h.1, ?_⟩
  rcases h.2 with hn | ⟨g, off, cap, spare, rfl, h1, h2, h3, h4, h5⟩
  · exact .inl hn
  · exact .inr ⟨g, off, cap, spare, rfl, h1, h2, h3, Nat.lt_of_lt_of_le h4 hc.size, h5.chg hc (hs g rfl)⟩
theorem Buf.keeps {w w' : World} {size : Nat} {v : Value} {n : Nat} {xs : List Value} (h : Buf w size v n xs) (hc : Keeps w w') : Buf w' size v n xs := h.chg (hc.chg (fun _ => False)) (fun _ _ h => h)
theorem Buf.lt {w : World} {size : Nat} {v : Value} {n : Nat} {xs : List Value} (h : Buf w size v n xs) {g : Nat} (hg : v.ownBlock = some g) : g < w.heap.size := by
  rcases h.2 with ⟨rfl, _⟩ | ⟨g', off, cap, spare, rfl, h1, h2, h3, h4, h5⟩
  · simp [Value.ownBlock] at hg
  · simp [Value.ownBlock] at hg; subst hg; exact h4
/-- the value's form, where it reads something or is known not to be nil -/
theorem Buf.form {w : World} {size : Nat} {v : Value} {n : Nat} {xs : List Value} (h : Buf w size v n xs) (hv : v ≠ .slice none 0 0 ∨ 0 < n) :
    ∃ g off cap, v = .slice (some ⟨g, off, none⟩) n cap ∧ n ≤ cap ∧ cap ≤ maxLen ∧ g < w.heap.size ∧ Row w g off xs := by
  rcases h.2 with ⟨rfl, h0⟩ | ⟨g, off, cap, spare, rfl, h1, h2, h3, h4, h5⟩
  · rcases hv with hv | hv
    · exact absurd rfl hv
    · omega
  · refine ⟨g, off, cap, rfl, h1, h2, h4, ?_⟩
    have := h5.take xs.length
    rwa [List.take_left] at this
/-- any slice: an address (perhaps none), the length, a capacity; the row where there is something -/
theorem Buf.any {w : World} {size : Nat} {v : Value} {n : Nat} {xs : List Value} (h : Buf w size v n xs) :
    ∃ a cap, v = .slice a n cap ∧ n ≤ cap ∧ cap ≤ maxLen ∧ (a = none → n = 0 ∧ cap = 0) ∧ (∀ ad, a = some ad → ∃ g off, ad = ⟨g, off, none⟩ ∧ g < w.heap.size ∧ Row w g off xs) := by
  rcases h.2 with ⟨rfl, h0⟩ | ⟨g, off, cap, spare, rfl, h1, h2, h3, h4, h5⟩
  · subst h0; exact ⟨none, 0, rfl, Nat.le_refl _, Nat.zero_le _, fun _ => ⟨rfl, rfl⟩, fun ad h => by cases h⟩
  · refine ⟨_, cap, rfl, h1, h2, fun h => (by cases h), fun ad h => ⟨g, off, (Option.some.inj h).symm, h4, ?_⟩⟩
    have := h5.take xs.length
    rwa [List.take_left] at this
theorem Buf.of_owned {w : World} {base : Nat} {e : TypeId} {size : Nat} {v : Value} {n : Nat} {xs : List Value} (h : w.ownsRow base e size v n xs) : Buf w size v n xs := by
  refine ⟨h.1, ?_⟩
  rcases h.2 with hn | ⟨g, cap, cur, rfl, hb, hg, hnc, hcm, hcs, htake⟩
  · exact .inl hn
  · have hx : xs ++ cur.toList.drop (n * size) = cur.toList := by rw [← htake, List.take_append_drop]
    refine .inr ⟨g, 0, cap, cur.toList.drop (n * size), rfl, hnc, hcm, ?_, (Array.getElem?_eq_some_iff.1 hg).1, ?_⟩
    · have := congrArg List.length hx
      rw [List.length_append] at this
      rw [this, Array.length_toList, hcs]
    · rw [hx]
      intro j v hv
      rw [Nat.zero_add]
      exact ⟨(cell_of_row _ _ _ _ _ _ hg).trans (by simpa using hv), frozen_of_row _ _ _ _ _ hg⟩
theorem Buf.made {w : World} {size : Nat} (T : TypeId) : Buf (w.alloc (.cells #[] T)) size (.slice (some ⟨w.heap.size, 0, none⟩) 0 0) 0 [] :=
  ⟨by simp, .inr ⟨w.heap.size, 0, 0, [], rfl, Nat.le_refl _, Nat.zero_le _, by simp, by simp, fun j v hv => by simp at hv⟩⟩
/-- a whole row that is a slice's own -/
theorem Buf.of_row {w : World} {size g off n : Nat} {xs : List Value} (h : Row w g off xs) (hl : xs.length = n * size) (hg : g < w.heap.size) (hn : n ≤ maxLen) : Buf w size (.slice (some ⟨g, off, none⟩) n n) n xs :=
  ⟨hl, .inr ⟨g, off, n, [], rfl, Nat.le_refl _, hn, by simp [hl], hg, by simpa using h⟩⟩

/-- many cells stored from a place on -/
theorem Row.setCells {w : World} {b off : Nat} : ∀ (news : List Value) (i : Nat) {w : World} {vs : List Value}, Row w b off vs → i + news.length ≤ vs.length →
    Row (w.setCells b (off + i) news) b off (vs.take i ++ news ++ vs.drop (i + news.length))
  | [], i, w, vs, h, hl => by simpa [World.setCells] using h
  | v :: r, i, w, vs, h, hl => by
    have h1 := h.set i (by simp at hl; omega) v
    have h2 := Row.setCells (w := w) r (i + 1) h1 (by simp at hl ⊢; omega)
    rw [World.setCells, show off + i + 1 = off + (i + 1) by omega]
    have hi : i < vs.length := by simp at hl; omega
    have e : (vs.set i v).take (i + 1) ++ r ++ (vs.set i v).drop (i + 1 + r.length) = vs.take i ++ v :: r ++ vs.drop (i + (v :: r).length) := by
      have e1 : (vs.set i v).take (i + 1) = vs.take i ++ [v] := by
        rw [List.take_succ_eq_append_getElem (by simpa using hi), List.take_set_of_le (Nat.le_refl _)]
        simp
      have e2 : (vs.set i v).drop (i + 1 + r.length) = vs.drop (i + (v :: r).length) := by
        rw [List.drop_set_of_lt (by omega)]
        rw [show i + 1 + r.length = i + (v :: r).length by simp; omega]
      rw [e1, e2]; simp
    rw [e] at h2
    exact h2
theorem setCells_chg (b : Nat) : ∀ (news : List Value) (o : Nat) (w : World), Chg (· = b) w (w.setCells b o news)
  | [], _, w => Chg.refl _ w
  | v :: r, o, w => Chg.trans (b := w.setCell ⟨b, o, none⟩ v) ((Chg.refl (· = b) w).setCell (p := ⟨b, o, none⟩) (.inr rfl) v) (setCells_chg b r (o + 1) _)

/-- what an append hands back: where its elements lie -/
def SameOrNew (w : World) (v v' : Value) : Prop := v'.ownBlock = v.ownBlock ∨ ∃ g, v'.ownBlock = some g ∧ w.heap.size ≤ g

section
variable {P : Program}
theorem run_append_buf (w : World) (t tx ty e : TypeId) (i : TypeInfo) (z : Value) (size bytes : Nat) (ht : P.underlying t = some (.slice e)) (hi : P.info? e = some i) (hz : i.zero = some z)
    (hsize : i.size = size) (hby : i.bytes = bytes) (hzs : z.cells.size = size) (hsz : 0 < size)
    (v : Value) (n : Nat) (xs : List Value) (hb : Buf w size v n xs) (x : Value) (m : Nat) (news : List Value) (hs : Src P size tx x m news w)
    (h63 : n + m ≤ maxLen) (hbytes : (n + m) * bytes ≤ 140737488355328) :
    ∃ v' w', (Builtin.append_ #[t, tx] ty #[v, x]).run P w = .ok v' w' ∧ Buf w' size v' (n + m) (xs ++ news) ∧ Chg (fun k => v.ownBlock = some k) w w' ∧ SameOrNew w v v' ∧ (v' = .slice none 0 0 → v = .slice none 0 0 ∧ m = 0) := by
  subst hsize
  subst hby
  have hlen : (xs ++ news).length = (n + m) * i.size := by rw [List.length_append, hb.1, hs.newsLen, Nat.add_mul]
  have grown : ∀ (base : Option Addr) (cap : Nat), cap < n + m → (Builtin.firstCells i.size n (.slice base n cap)).run P w.drew = .ok xs.toArray w.drew → v = .slice base n cap →
      ∃ v' w', (Builtin.append_ #[t, tx] ty #[v, x]).run P w = .ok v' w' ∧ Buf w' i.size v' (n + m) (xs ++ news) ∧ Chg (fun k => v.ownBlock = some k) w w' ∧ SameOrNew w v v' ∧ (v' = .slice none 0 0 → v = .slice none 0 0 ∧ m = 0) := by
    intro base cap hcap hold hv
    subst hv
    have hge := grownCap_ge w (n + m) cap e
    have hcm : grownCap w (n + m) cap e ≤ maxLen := grownCap_le_maxLen w (n + m) cap e h63
    have hr := run_append_grow_src (P := P) w t tx ty e i z ht hi hz base n cap xs hold x m news hs hcap (by simp only [maxLen] at h63; omega) (growslice_fits hcap hbytes)
    refine ⟨_, _, hr, Buf.of_owned (base := w.heap.size) (e := e) ⟨hlen, .inr ⟨w.heap.size, _, _, rfl, Nat.le_refl _, heap_alloc_new w.drew _, hge, hcm, ?_, ?_⟩⟩, (Chg.refl _ w).drew.alloc _, .inr ⟨w.heap.size, rfl, Nat.le_refl _⟩, fun h => by cases h⟩
    · simp only [Array.size_append, List.size_toArray, size_zeroCells, hzs, hlen, ← Nat.add_mul]
      congr 1
      omega
    · simp only [Array.toList_append, ← hlen]
      exact List.take_left
  rcases hb.2 with ⟨rfl, rfl⟩ | ⟨g, off, cap, spare, rfl, h1, h2, h3, h4, h5⟩
  · have hx : xs = [] := List.eq_nil_of_length_eq_zero (by simpa using hb.1)
    subst hx
    by_cases hm : m = 0
    · subst hm
      have hn : news = [] := List.eq_nil_of_length_eq_zero (by simpa using hs.newsLen)
      subst hn
      refine ⟨.slice none 0 0, w, ?_, Buf.nil w i.size, Chg.refl _ w, .inl rfl, fun _ => ⟨rfl, rfl⟩⟩
      rcases hs.kind with ⟨e', hk⟩ | hk <;> simp [Builtin.append_, run_underlying ht, run_underlying hk, sizeOf, typeInfo, hi, hs.len, hs.cells]
    · exact grown none 0 (by omega) (run_firstCells_none w.drew i.size 0 0 0) rfl
  · by_cases hroom : n + m ≤ cap
    · have hml : n * i.size + m * i.size ≤ cap * i.size := by rw [← Nat.add_mul]; exact Nat.mul_le_mul_right _ hroom
      have hb1 := hb.1
      have hnl := hs.newsLen
      have hfit : xs.length + news.length ≤ (xs ++ spare).length := by rw [List.length_append]; omega
      have hcell : ∀ j, j < news.length → (w.cell? ⟨g, off + n * i.size + j, none⟩).isSome = true ∧ w.frozen? ⟨g, off + n * i.size + j, none⟩ = false := fun j hj => by
        have hj2 : n * i.size + j < (xs ++ spare).length := by omega
        have := h5 (n * i.size + j) (xs ++ spare)[n * i.size + j] (by simp [hj2])
        rw [← Nat.add_assoc] at this
        exact ⟨by rw [this.1]; rfl, this.2⟩
      have hr := run_append_room_src (P := P) w t tx ty e i ht hi g off n cap x m news hs hroom (fun j hj => (hcell j hj).1) (fun j hj => (hcell j hj).2)
      have hrow := Row.setCells (w := w) news (n * i.size) h5 (by rw [← hb1]; exact hfit)
      have e1 : (xs ++ spare).take (n * i.size) = xs := by rw [← hb1]; exact List.take_left
      have e2 : (xs ++ spare).drop (n * i.size + news.length) = spare.drop news.length := by
        rw [← hb1, List.drop_append]
        simp
      rw [e1, e2] at hrow
      have hc := setCells_chg g news (off + n * i.size) w
      refine ⟨_, _, hr, ⟨hlen, .inr ⟨g, off, cap, spare.drop news.length, rfl, hroom, h2, ?_, Nat.lt_of_lt_of_le h4 hc.size, hrow⟩⟩, hc.mono (fun k _ hk => by subst hk; rfl), .inl rfl, fun h => by cases h⟩
      rw [List.length_append] at hfit ⊢
      rw [List.length_drop]
      omega
    · refine grown (some ⟨g, off, none⟩) cap (by omega) ?_ rfl
      exact run_firstCells_some w.drew i.size n ⟨g, off, none⟩ n cap xs hb.1 (fun j u hu => by
        have hadd : (⟨g, off, none⟩ : Addr).add j = ⟨g, off + j, none⟩ := by unfold Addr.add; split <;> simp_all
        rw [hadd]
        have hj : j < xs.length := by
          by_cases hj : j < xs.length
          · exact hj
          · rw [List.getElem?_eq_none (by omega)] at hu; cases hu
        exact (h5 j u (by rw [List.getElem?_append_left hj]; exact hu)).1)
theorem wpList_append_buf {w : World} {ops : Array Oper} {rest : List Oper} {o : Oper} {a : Act} {Q : Exit → Act → World → Prop} (hgd : o.guard = none) (s x : Operand) (t tx : TypeId)
    (ho : o.op = .call { callee := .builtin .append, args := #[s, x], argTypes := #[t, tx] })
    (e : TypeId) (i : TypeInfo) (z : Value) (size bytes : Nat) (ht : P.underlying t = some (.slice e)) (hi : P.info? e = some i) (hz : i.zero = some z)
    (hsize : i.size = size) (hby : i.bytes = bytes) (hzs : z.cells.size = size) (hsz : 0 < size)
    (v : Value) (n : Nat) (xs : List Value) (hv : a.eval s = v) (hb : Buf w size v n xs) (xv : Value) (hx : a.eval x = xv) (m : Nat) (news : List Value) (hs : Src P size tx xv m news w)
    (h63 : n + m ≤ maxLen) (hbytes : (n + m) * bytes ≤ 140737488355328)
    (h : ∀ v' w', Buf w' size v' (n + m) (xs ++ news) → Chg (fun k => v.ownBlock = some k) w w' → SameOrNew w v v' → (v' = .slice none 0 0 → v = .slice none 0 0 ∧ m = 0) → wpList P ops Q rest (a.put o.dst v') w') : wpList P ops Q (o :: rest) a w := by
  refine wpList_plain hgd fun K hK => ?_
  obtain ⟨v', w', hr, h1, h2, h3, h4⟩ := run_append_buf (P := P) w t tx o.type e i z size bytes ht hi hz hsize hby hzs hsz v n xs hb xv m news hs h63 hbytes
  subst hv hx
  unfold Oper.wp
  simp [execOp, ho, resolve, invoke, builtin, hr, Result.andThen]
  exact hK _ _ (h v' w' h1 h2 h3 h4)
end
theorem Src.row {P : Program} {w : World} {size : Nat} {tx e' : TypeId} (hk : P.underlying tx = some (.slice e')) {g off n c : Nat} {news : List Value} (hl : news.length = n * size) (hr : Row w g off news) (h1 : ∀ u ∈ news, u.oneCell' = true) :
    Src P size tx (.slice (some ⟨g, off, none⟩) n c) n news w :=
  Src.ofSlice w hk ⟨g, off, none⟩ n c news hl (fun j u hu => by
    have hadd : (⟨g, off, none⟩ : Addr).add j = ⟨g, off + j, none⟩ := by unfold Addr.add; split <;> simp_all
    rw [hadd]; exact (hr j u hu).1) h1

/-! a whole array, or struct, stored over a row -/
theorem Row.whole {w : World} {b off : Nat} {olds cs : List Value} (h : Row w b off olds) (hl : cs.length = olds.length) : Row (w.setCells b off cs) b off cs := by
  have := Row.setCells (w := w) cs 0 h (by omega)
  simp only [Nat.add_zero, List.take_zero, List.nil_append, Nat.zero_add] at this
  rwa [List.drop_eq_nil_of_le (by omega), List.append_nil] at this
section
variable {P : Program}
theorem run_storeVar_row (w : World) (g off : Nat) (T : TypeId) (olds cs : List Value) (hg : Row w g off olds) (hl : cs.length = olds.length) (hi : (P.info? T).map (·.size) = some cs.length) (h1 : ∀ v ∈ cs, v.oneCell' = true) :
    (storeVar T ⟨g, off, none⟩ (.agg cs.toArray)).run P w = .ok () (w.setCells g off cs) := by
  have hst := run_storeCells_cells (P := P) g off cs 0 w (fun j hj => by
      rw [Nat.add_zero]
      have := hg j olds[j] (by simp)
      rw [this.1]; rfl) (fun j hj => by
      rw [Nat.add_zero]
      exact (hg j olds[j] (by simp)).2) h1
  simp only [Nat.add_zero] at hst
  cases hq : P.info? T with
  | none => simp [hq] at hi
  | some x =>
    have hx : x.size = cs.length := by simpa [hq] using hi
    simp [storeVar, Value.cells, sizeOf, typeInfo, hq, hx, hst]
theorem wpList_store_row {w : World} {ops : Array Oper} {rest : List Oper} {o : Oper} {a : Act} {Q : Exit → Act → World → Prop} (hgd : o.guard = none) (T : TypeId) (x y : Operand) (ho : o.op = .store T x y)
    (g off : Nat) (hx : a.eval x = .pointer (some ⟨g, off, none⟩)) (olds cs : List Value) (hy : a.eval y = .agg cs.toArray) (hg : Row w g off olds) (hl : cs.length = olds.length)
    (hi : (P.info? T).map (·.size) = some cs.length) (h1 : ∀ v ∈ cs, v.oneCell' = true)
    (h : ∀ w', Row w' g off cs → Chg (· = g) w w' → wpList P ops Q rest (a.put o.dst undef) w') : wpList P ops Q (o :: rest) a w :=
  wpList_plain hgd fun _ hK => by
    unfold Oper.wp execOp
    simp only [ho, hx, hy, Instr.storeAt, Instr.sureAddr, Sem.run_bind, Sem.run_pure, Result.andThen_ok, run_storeVar_row w g off T olds cs hg hl hi h1]
    exact hK _ _ (h _ (hg.whole hl) (setCells_chg _ _ _ _))
end

/-! make([]T, n), elements of one cell -/
theorem madeCells_one (z : Value) (n : Nat) : madeCells #[z] n = (List.replicate n z).toArray := by
  apply Array.ext
  · simp [madeCells]
  · intro i h1 h2
    simp [madeCells, Nat.mod_one]
section
variable {P : Program}
theorem wpList_make_row {w : World} {ops : Array Oper} {rest : List Oper} {o : Oper} {a : Act} {Q : Exit → Act → World → Prop} (hgd : o.guard = none) (t : TypeId) (x y : Operand) (ho : o.op = .makeSlice t x y)
    (e : TypeId) (i : TypeInfo) (z : Value) (bytes : Nat) (ht : P.underlying t = some (.slice e)) (hi : P.info? e = some i) (hz : i.zero = some z) (hs : i.size = 1) (hby : i.bytes = bytes) (hzc : z.cells = #[z])
    (kl kc : IntKind) (c : Int) (n : Nat) (hx : a.eval x = .int kl c) (hy : a.eval y = .int kc c) (hc : c = (n : Int)) (hbytes : bytes * n ≤ 281474976710656) (h63 : n ≤ maxLen)
    (h : ∀ w', Row w' w.heap.size 0 (List.replicate n z) → Keeps w w' → w.heap.size < w'.heap.size → wpList P ops Q rest (a.put o.dst (.slice (some ⟨w.heap.size, 0, none⟩) n n)) w') : wpList P ops Q (o :: rest) a w :=
  wpList_plain hgd fun _ hK => by
    subst hby hc
    have hr := run_make (P := P) w t e i z ht hi hz kl kc (n : Int) (n : Int) (by omega) (Int.le_refl _) (by omega) (by simp only [maxLen] at h63; omega)
    simp only [Int.toNat_natCast, hs, Nat.mul_one, hzc, madeCells_one] at hr
    unfold Oper.wp execOp
    simp only [ho, hx, hy, Sem.run_bind, Sem.run_pure, Result.andThen_ok, hr]
    exact hK _ _ (h _ (Row.new _ _ _ rfl) ((Keeps.refl w).alloc (Nat.le_refl _) _) (by simp))
end

/-- a slice that may be read -/
def Rd (w : World) (size : Nat) (v : Value) (n : Nat) (xs : List Value) : Prop :=
  xs.length = n * size ∧ ∃ a cap, v = .slice a n cap ∧ n ≤ cap ∧ cap ≤ maxLen ∧ (a = none → n = 0 ∧ cap = 0) ∧ (∀ ad, a = some ad → 0 < n → ∃ g off, ad = ⟨g, off, none⟩ ∧ g < w.heap.size ∧ Row w g off xs)
theorem Buf.rd {w : World} {size : Nat} {v : Value} {n : Nat} {xs : List Value} (h : Buf w size v n xs) : Rd w size v n xs := by
  obtain ⟨a, cap, h1, h2, h3, h4, h5⟩ := h.any
  exact ⟨h.1, a, cap, h1, h2, h3, h4, fun ad e _ => h5 ad e⟩
theorem Rd.chg {S : Nat → Prop} {w w' : World} {size : Nat} {v : Value} {n : Nat} {xs : List Value} (h : Rd w size v n xs) (hc : Chg S w w') (hs : ∀ g, v.ownBlock = some g → ¬ S g) : Rd w' size v n xs := by
  obtain ⟨h0, a, cap, rfl, h2, h3, h4, h5⟩ := h
  refine ⟨h0, a, cap, rfl, h2, h3, h4, fun ad e hn => ?_⟩
  obtain ⟨g, off, e2, hg, hr⟩ := h5 ad e hn
  subst e e2
  exact ⟨g, off, rfl, Nat.lt_of_lt_of_le hg hc.size, hr.chg hc (hs g rfl)⟩
theorem Rd.keeps {w w' : World} {size : Nat} {v : Value} {n : Nat} {xs : List Value} (h : Rd w size v n xs) (hc : Keeps w w') : Rd w' size v n xs := h.chg (hc.chg (fun _ => False)) (fun _ _ h => h)
theorem Rd.of_row {w : World} {size g off n cap : Nat} {xs : List Value} (h : Row w g off xs) (hl : xs.length = n * size) (hg : g < w.heap.size) (hn : n ≤ cap) (hc : cap ≤ maxLen) : Rd w size (.slice (some ⟨g, off, none⟩) n cap) n xs :=
  ⟨hl, _, _, rfl, hn, hc, fun h => (by cases h), fun ad e _ => ⟨g, off, (Option.some.inj e).symm, hg, h⟩⟩
theorem Rd.src {P : Program} {w : World} {size : Nat} {v : Value} {n : Nat} {xs : List Value} (h : Rd w size v n xs) {tx e' : TypeId} (hk : P.underlying tx = some (.slice e')) (h1 : ∀ u ∈ xs, u.oneCell' = true) : Src P size tx v n xs w := by
  obtain ⟨h0, a, cap, rfl, h2, h3, h4, h5⟩ := h
  cases a with
  | none =>
    obtain ⟨rfl, rfl⟩ := h4 rfl
    have hx : xs = [] := List.eq_nil_of_length_eq_zero (by simpa using h0)
    subst hx
    exact Src.ofNil w hk 0
  | some ad =>
    by_cases hn : n = 0
    · subst hn
      have hx : xs = [] := List.eq_nil_of_length_eq_zero (by simpa using h0)
      subst hx
      exact Src.ofSlice w hk ad 0 cap [] (by simp) (fun j u hu => by simp at hu) h1
    · obtain ⟨g, off, rfl, _, hr⟩ := h5 ad rfl (by omega)
      exact Src.row hk h0 hr h1

/-- a whole array stored over a part of a row -/
theorem wpList_store_into {P : Program} {w : World} {ops : Array Oper} {rest : List Oper} {o : Oper} {a : Act} {Q : Exit → Act → World → Prop} (hgd : o.guard = none) (T : TypeId) (x y : Operand) (ho : o.op = .store T x y)
    (g base i : Nat) (hx : a.eval x = .pointer (some ⟨g, base + i, none⟩)) (vs cs : List Value) (hy : a.eval y = .agg cs.toArray) (hg : Row w g base vs) (hl : i + cs.length ≤ vs.length)
    (hi : (P.info? T).map (·.size) = some cs.length) (h1 : ∀ v ∈ cs, v.oneCell' = true)
    (h : ∀ w', Row w' g base (vs.take i ++ cs ++ vs.drop (i + cs.length)) → Chg (· = g) w w' → wpList P ops Q rest (a.put o.dst undef) w') : wpList P ops Q (o :: rest) a w :=
  wpList_plain hgd fun _ hK => by
    have hg' : Row w g (base + i) ((vs.drop i).take cs.length) := (hg.drop i).take _
    unfold Oper.wp execOp
    simp only [ho, hx, hy, Instr.storeAt, Instr.sureAddr, Sem.run_bind, Sem.run_pure, Result.andThen_ok, run_storeVar_row w g (base + i) T _ cs hg' (by simp; omega) hi h1]
    exact hK _ _ (h _ (Row.setCells (w := w) cs i hg hl) (setCells_chg _ _ _ _))
/-- the rest of a slice -/
theorem Buf.tail {w : World} {g off n cap k : Nat} {xs : List Value} (h : Buf w 1 (.slice (some ⟨g, off, none⟩) n cap) n xs) (hk : k ≤ n) : Buf w 1 (.slice (some ⟨g, off + k, none⟩) (n - k) (cap - k)) (n - k) (xs.drop k) := by
  have h0 := h.1
  rcases h.2 with ⟨hv, _⟩ | ⟨g', off', cap', spare, hv, h1, h2, h3, h4, h5⟩
  · cases hv
  · cases hv
    refine ⟨by rw [List.length_drop]; omega, .inr ⟨g, off + k, cap - k, spare, rfl, by omega, by omega, by rw [List.length_drop]; omega, h4, ?_⟩⟩
    have := h5.drop k
    rwa [List.drop_append_of_le_length (by omega)] at this
theorem Buf.tail_all {w : World} {g off n : Nat} {xs : List Value} (h : Buf w 1 (.slice (some ⟨g, off, none⟩) n n) n xs) : Buf w 1 (.slice (some ⟨g, off, none⟩) 0 0) 0 (xs.drop n) := by
  have h0 := h.1
  rcases h.2 with ⟨hv, _⟩ | ⟨g', off', cap', spare, hv, h1, h2, h3, h4, h5⟩
  · cases hv
  · cases hv
    refine ⟨by rw [List.length_drop]; omega, .inr ⟨g, off, 0, [], rfl, Nat.le_refl _, Nat.zero_le _, by rw [List.length_drop]; simp; omega, h4, ?_⟩⟩
    rw [List.drop_eq_nil_of_le (by omega)]
    intro j v hv; simp at hv
theorem wp_gen {P : Program} {c : Code} {Q : Exit → Act → World → Prop} {a : Act} {E : World} (I : World → Prop) (hE : I E) (h : ∀ W, I W → Code.wp P c Q a W) : Code.wp P c Q a E := h E hE
end Go.Proofs.YtlofddoojkeakaaDoor
