/- block.header: what is read of a head. | block.header: the walk. -/
import Derived.Test.YtcodpdpeklammaaGreatDoorGC4
import Derived.Test.YtcodpdpeklammaaGreatDoorGC6
namespace Go.Proofs.YtcodpdpeklammaaGreatDoor
set_option linter.unusedVariables false
set_option linter.unusedSimpArgs false
open Go Go.RowKit
variable {B : Nat}
/-- what is read copied into a row -/
theorem wpList_copy_rw {w : World} {ops : Array Oper} {rest : List Oper} {o : Oper} {a : Act} {Q : Exit → Act → World → Prop} (hgd : o.guard = none) (d s : Operand)
    (ho : o.op = .call { callee := .builtin .copy, args := #[d, s], argTypes := #[32, 32] }) (g i m c1 : Nat) (hd : a.eval d = .slice (some ⟨g, i, none⟩) m c1) (sa : Option Addr) (n cap : Nat) (hs : a.eval s = .slice sa n cap) (hn : n ≤ m)
    (vs : List Value) (hg : Row w g 0 vs) (hl : i + n ≤ vs.length) (xs : List Value) (hr : Rd w 1 (.slice sa n cap) n xs) (h1 : ∀ v ∈ xs, v.oneCell' = true)
    (h : ∀ w', Row w' g 0 (vs.take i ++ xs ++ vs.drop (i + n)) → Chg (· = g) w w' → wpList Tryz.prog ops Q rest (a.put o.dst (goInt n)) w') : wpList Tryz.prog ops Q (o :: rest) a w := by
  have hxl : xs.length = n := by have := hr.1; simpa using this
  have sz : (Tryz.prog.info? 5).map (·.size) = some 1 := by kernel_rfl
  obtain ⟨_, a', cap', e, h2, h3, h4, h5⟩ := hr
  cases e
  by_cases h0 : n = 0
  · subst h0
    have hx0 : xs = [] := List.eq_nil_of_length_eq_zero hxl
    subst hx0
    exact wpList_copy_nothing hgd d s _ _ ho 5 Tryz.underlying32 sz _ _ _ _ _ _ hd hs (by simp) (h _ (by simpa using hg) (Chg.refl _ _))
  · cases sa with
    | none => exact absurd (h4 rfl).1 h0
    | some ad =>
      obtain ⟨g2, off2, rfl, _, hrow⟩ := h5 ad rfl (by omega)
      have hadd : ∀ j, (⟨g2, off2, none⟩ : Addr).add j = ⟨g2, off2 + j, none⟩ := fun j => by unfold Addr.add; split <;> simp_all
      have hsub := (hg.drop i).take n
      have hsl : ((vs.drop i).take n).length = n := by simp; omega
      rw [Nat.zero_add] at hsub
      have hld := run_loadCells_list (P := Tryz.prog) w ⟨g2, off2, none⟩ xs (fun j v hv => by rw [hadd]; exact (hrow j v hv).1)
      have hst := run_storeCells_cells (P := Tryz.prog) g i xs 0 w (fun j hj => by
          rw [Nat.add_zero]
          have := hsub j ((vs.drop i).take n)[j] (List.getElem?_eq_getElem (by omega))
          rw [this.1]; rfl) (fun j hj => by
          rw [Nat.add_zero]
          exact (hsub j ((vs.drop i).take n)[j] (List.getElem?_eq_getElem (by omega))).2) h1
      simp only [Nat.add_zero] at hst
      refine wpList_plain hgd fun K hK => ?_
      cases hq : Tryz.prog.info? 5 with
      | none => simp [hq] at sz
      | some x =>
        have hx : x.size = 1 := by simpa [hq] using sz
        have hmin : Nat.min n m = n := Nat.min_eq_left hn
        have hrun : (Builtin.copy_ #[32, 32] o.type #[.slice (some ⟨g, i, none⟩) m c1, .slice (some ⟨g2, off2, none⟩) n cap]).run Tryz.prog w = .ok (goInt n) (w.setCells g i xs) := by
          rw [hxl] at hld
          simp [Builtin.copy_, run_underlying Tryz.underlying32, Builtin.lenOf, Builtin.firstCells, sizeOf, typeInfo, hq, hx, hmin, hld, hst]
        unfold Oper.wp
        simp [execOp, ho, resolve, invoke, builtin, hd, hs, hrun, Result.andThen]
        have hrow2 := Row.setCells (w := w) xs i hg (by omega)
        rw [Nat.zero_add, hxl] at hrow2
        exact hK _ _ (h _ hrow2 (setCells_chg _ _ _ _))
def U32S (B g : Nat) (e : Int) (l : List Int) (w : World) (r : Ending) (W' : World) : Prop :=
  Chg (· = g) w W' ∧ ∃ x v' e' l', r = .returned (.int .u32 x) ∧ U32 x ∧ RdAt B W' g v' e' l' ∧ RfR (rdNum 4) e l x e' l'
theorem u32_s (g : Nat) (v : Value) (e : Int) (l : List Int) (w : World) (h : RdAt B w g v e l) (hB : B ≤ w.heap.size) (hg : g < w.heap.size) :
    Calls Tryz.prog 56 #[.pointer (some ⟨g, 0, none⟩)] w (U32S B g e l w) := by
  have hby := h.bytes
  refine (rdr_u32_any g v e l w h hB hg).mono ?_
  rintro r W' ⟨hc, hcase⟩
  refine ⟨hc, ?_⟩
  rcases hcase with ⟨h0, rfl, hr⟩ | ⟨rfl, x, val, v', l', hp, rfl, rfl, hr⟩ | ⟨rfl, c, hp, rfl, hr⟩
  · exact ⟨0, v, e, l, rfl, ⟨by omega, by omega⟩, hr, .inl ⟨h0, rfl⟩⟩
  · obtain ⟨a1, a2, _⟩ := rdNum_inv hby hp
    simp only [Int.reducePow] at a2
    exact ⟨x, v', 0, l', rfl, ⟨a1, a2⟩, hr, .inr (.inl ⟨rfl, rfl, hp⟩)⟩
  · exact ⟨0, v, c, l, rfl, ⟨by omega, by omega⟩, hr, .inr (.inr ⟨rfl, rdNum_err hp, hp⟩)⟩
def RawB (B g k : Nat) (e : Int) (l : List Int) (w : World) (r : Ending) (W' : World) : Prop :=
  Chg (· = g) w W' ∧ ∃ a n c xs v' e' l', r = .returned (.slice a n c) ∧ Rd W' 1 (.slice a n c) n (xs.map (Value.int .u8)) ∧ n ≤ k ∧ RdAt B W' g v' e' l' ∧ StP (rdTake k) e l xs e' l' ∧ (e' = 0 → n = k) ∧ Bytes xs
theorem raw_b (g : Nat) (v : Value) (e : Int) (l : List Int) (k : Nat) (hk : k ≤ 140737488355328) (w : World) (h : RdAt B w g v e l) (hB : B ≤ w.heap.size) (hg : g < w.heap.size) :
    Calls Tryz.prog 57 #[.pointer (some ⟨g, 0, none⟩), .int .i64 k] w (RawB B g k e l w) := by
  have hby := h.bytes
  refine (rdr_raw_any g v e l k hk w h hB hg).mono ?_
  rintro r W' ⟨hc, hcase⟩
  refine ⟨hc, ?_⟩
  rcases hcase with ⟨h0, rfl, hr⟩ | ⟨rfl, x, val, v', l', hp, rfl, hx, hr⟩ | ⟨rfl, c, hp, rfl, hr⟩
  · exact ⟨none, 0, 0, [], v, e, l, rfl, rd_nil _, Nat.zero_le _, hr, .inl ⟨h0, rfl, rfl⟩, (fun h => absurd h h0), fun x hx => by cases hx⟩
  · obtain ⟨h3, rfl, rfl⟩ := rdTake_inv hp
    obtain ⟨a, c, rfl, _⟩ := hx.1.any
    have hl : (l.take k).length = k := by simp; omega
    exact ⟨a, (l.take k).length, c, l.take k, v', 0, l.drop k, rfl, hx.1.rd, by omega, hr, .inr (.inl ⟨rfl, rfl, hp⟩), (fun _ => hl), bytes_take hby k⟩
  · exact ⟨none, 0, 0, [], v, c, l, rfl, rd_nil _, Nat.zero_le _, hr, .inr (.inr ⟨rfl, rdTake_err hp, hp, rfl⟩), (fun h => absurd h (rdTake_err hp)), fun x hx => by cases hx⟩
structure HdOk (h : HdD) : Prop where
  ver : I32 h.ver
  prevLen : h.prev.length = 32
  prev : Bytes h.prev
  merkleLen : h.merkle.length = 32
  merkle : Bytes h.merkle
  time : U32 h.time
  bits : U32 h.bits
  nonce : U32 h.nonce
def hdCells (h : HdD) : List Value := headCells h.ver h.prev h.merkle h.time h.bits h.nonce
theorem hdCells_len {h : HdD} (h1 : h.prev.length = 32) (h2 : h.merkle.length = 32) : (hdCells h).length = 68 := by simp [hdCells, headCells, h1, h2]
theorem hdCells_one (h : HdD) : ∀ v ∈ hdCells h, v.oneCell' = true := by
  intro v hv
  simp only [hdCells, headCells, List.mem_cons, List.mem_append, List.mem_map, List.not_mem_nil, or_false] at hv
  rcases hv with rfl | ⟨x, _, rfl⟩ | ⟨x, _, rfl⟩ | rfl | rfl | rfl <;> rfl
def Z32 : List Int := List.replicate 32 0
def hd0 (v : Int) : HdD := ⟨v, Z32, Z32, 0, 0, 0⟩
theorem sz_hd {h : HdD} (h1 : h.prev.length = 32) (h2 : h.merkle.length = 32) : (Tryz.prog.info? 26).map (·.size) = some (hdCells h).length := by rw [hdCells_len h1 h2]; kernel_rfl
theorem built_hd (v : Int) : Tryz.prog.built 26 [(0, .int .i32 v)] = some (hdCells (hd0 v)).toArray := by kernel_rfl
theorem Z32_bytes : Bytes Z32 := fun x hx => by
  rw [(List.mem_replicate.1 (show x ∈ List.replicate 32 0 from hx)).2]; exact ⟨by omega, by omega⟩
/-- what was copied, and the rest -/
def padZ (xs : List Int) : List Int := xs ++ Z32.drop xs.length
theorem padZ_len {xs : List Int} (h : xs.length ≤ 32) : (padZ xs).length = 32 := by simp [padZ, Z32]; omega
theorem padZ_all {xs : List Int} (h : xs.length = 32) : padZ xs = xs := by unfold padZ; rw [h]; simp [Z32]
theorem padZ_bytes {xs : List Int} (h : Bytes xs) : Bytes (padZ xs) := by
  intro x hx
  rcases List.mem_append.1 hx with hx | hx
  · exact h x hx
  · exact Z32_bytes x (List.mem_of_mem_drop hx)
theorem hd_copy1 {h : HdD} {xs : List Int} (hp : h.prev = Z32) : (hdCells h).take 1 ++ xs.map (Value.int .u8) ++ (hdCells h).drop (1 + xs.length) = hdCells { h with prev := padZ xs } ∨ 32 < xs.length := by
  by_cases hx : 32 < xs.length
  · exact .inr hx
  · refine .inl ?_
    unfold hdCells headCells padZ
    rw [hp, Nat.add_comm 1, List.drop_succ_cons]
    simp only [List.take_succ_cons, List.take_zero, List.map_append, List.append_assoc, List.cons_append, List.nil_append]
    rw [List.drop_append_of_le_length (by simp [Z32]; omega), List.map_drop]
theorem hd_copy2 {h : HdD} {xs : List Int} (hp : h.prev.length = 32) (hm : h.merkle = Z32) : (hdCells h).take 33 ++ xs.map (Value.int .u8) ++ (hdCells h).drop (33 + xs.length) = hdCells { h with merkle := padZ xs } ∨ 32 < xs.length := by
  by_cases hx : 32 < xs.length
  · exact .inr hx
  · refine .inl ?_
    unfold hdCells headCells padZ
    rw [hm, show 33 + xs.length = (32 + xs.length) + 1 by omega, List.drop_succ_cons, show (33 : Nat) = 32 + 1 from rfl, List.take_succ_cons]
    have h32 : (h.prev.map (Value.int .u8)).length = 32 := by simp [hp]
    rw [List.take_append_of_le_length (by omega), List.take_of_length_le (by omega), List.drop_append, h32, List.drop_eq_nil_of_le (by omega), Nat.add_sub_cancel_left, List.nil_append,
      List.drop_append_of_le_length (by simp [Z32]; omega)]
    simp only [List.map_append, List.map_drop, List.append_assoc, List.cons_append]
end Go.Proofs.YtcodpdpeklammaaGreatDoor
namespace Go.Proofs.YtcodpdpeklammaaGreatDoor
set_option linter.unusedVariables false
set_option linter.unusedSimpArgs false
open Go Go.RowKit
variable {B : Nat}
/-- what header does -/
def HdP (B g : Nat) (l : List Int) (w : World) (r : Ending) (W : World) : Prop :=
  Chg (· = g) w W ∧ ∃ h v' e' l' hd, r = .returned (.agg (hdCells h).toArray) ∧ HdOk h ∧ RdAt B W g v' e' l' ∧ RfR rdHead 0 l hd e' l' ∧ (e' = 0 → h = hd)
/-- header's memory: its result, its head as far as it is read -/
structure HdSt (B p q g : Nat) (W : World) (v : Value) (e : Int) (l : List Int) (h : HdD) : Prop where
  res : Row W p 0 (hdCells (hd0 0))
  loc : Row W q 0 (hdCells h)
  lt : p < q ∧ q < W.heap.size
  gp : g < p ∧ B ≤ p
  rd : RdAt B W g v e l
theorem HdSt.next {p q g : Nat} {W W' : World} {v v' : Value} {e e' : Int} {l l' : List Int} {h : HdD} (s : HdSt B p q g W v e l h) (hc : Chg (· = g) W W') (hr : RdAt B W' g v' e' l') : HdSt B p q g W' v' e' l' h := by
  have h1 := s.lt
  have h2 := s.gp
  exact ⟨s.res.chg hc (by omega), s.loc.chg hc (by omega), ⟨h1.1, Nat.lt_of_lt_of_le h1.2 hc.size⟩, h2, hr⟩
theorem HdSt.put {p q g : Nat} {W W' : World} {v : Value} {e : Int} {l : List Int} {h h' : HdD} (s : HdSt B p q g W v e l h) (hc : Chg (· = q) W W') (hr : Row W' q 0 (hdCells h')) : HdSt B p q g W' v e l h' := by
  have h1 := s.lt
  have h2 := s.gp
  exact ⟨s.res.chg hc (by omega), hr, ⟨h1.1, Nat.lt_of_lt_of_le h1.2 hc.size⟩, h2, s.rd.far hc (fun k e => by omega) (by omega)⟩
theorem HdSt.size {p q g : Nat} {W : World} {v : Value} {e : Int} {l : List Int} {h : HdD} (s : HdSt B p q g W v e l h) : B ≤ W.heap.size ∧ g < W.heap.size := by
  have h1 := s.lt
  have h2 := s.gp
  omega
theorem HdSt.drew {p q g : Nat} {W : World} {v : Value} {e : Int} {l : List Int} {h : HdD} (s : HdSt B p q g W v e l h) : HdSt B p q g W.drew v e l h :=
  s.next ((keeps_drew (Keeps.refl _)).chg _) (s.rd.keeps (keeps_drew (Keeps.refl _)))
theorem hd_free {w : World} {q : Nat} {h : HdD} (hr : Row w q 0 (hdCells h)) (h1 : h.prev.length = 32) (h2 : h.merkle.length = 32) :
    (w.cell? ⟨q, 65, none⟩ = some (.int .u32 h.time) ∧ w.frozen? ⟨q, 65, none⟩ = false) ∧ (w.cell? ⟨q, 66, none⟩ = some (.int .u32 h.bits) ∧ w.frozen? ⟨q, 66, none⟩ = false) ∧ (w.cell? ⟨q, 67, none⟩ = some (.int .u32 h.nonce) ∧ w.frozen? ⟨q, 67, none⟩ = false) := by
  obtain ⟨a, b, c⟩ := headCells_at h.ver h.prev h.merkle h.time h.bits h.nonce h1 h2
  refine ⟨?_, ?_, ?_⟩
  · have := hr 65 _ a; simpa using this
  · have := hr 66 _ b; simpa using this
  · have := hr 67 _ c; simpa using this
theorem hd_set65 {h : HdD} (x : Int) (h1 : h.prev.length = 32) (h2 : h.merkle.length = 32) : (hdCells h).set 65 (.int .u32 x) = hdCells { h with time := x } := by
  unfold hdCells headCells
  rw [List.set_cons_succ, List.set_append_right _ _ (by simp [h1]), List.set_append_right _ _ (by simp [h1, h2])]
  simp [h1, h2]
theorem hd_set66 {h : HdD} (x : Int) (h1 : h.prev.length = 32) (h2 : h.merkle.length = 32) : (hdCells h).set 66 (.int .u32 x) = hdCells { h with bits := x } := by
  unfold hdCells headCells
  rw [List.set_cons_succ, List.set_append_right _ _ (by simp [h1]), List.set_append_right _ _ (by simp [h1, h2])]
  simp [h1, h2]
theorem hd_set67 {h : HdD} (x : Int) (h1 : h.prev.length = 32) (h2 : h.merkle.length = 32) : (hdCells h).set 67 (.int .u32 x) = hdCells { h with nonce := x } := by
  unfold hdCells headCells
  rw [List.set_cons_succ, List.set_append_right _ _ (by simp [h1]), List.set_append_right _ _ (by simp [h1, h2])]
  simp [h1, h2]
set_option maxRecDepth 100000 in
set_option maxHeartbeats 4000000 in
theorem header_any (g : Nat) (v : Value) (l : List Int) (w : World) (h : RdAt B w g v 0 l) (hB : B ≤ w.heap.size) (hg : g < w.heap.size) :
    Calls Tryz.prog 28 #[.pointer (some ⟨g, 0, none⟩)] w (HdP B g l w) := by
  have HH := Lib.hid h
  have HBG := Lib.hid (And.intro hB hg)
  have HBY := Lib.hid h.bytes
  clear h hB hg
  go_enter Tryz.func28, Tryz.ntmps28
  go_upto_region 1 with (fail)
  refine wp_rows1r (fun W0 hk hr1 hsz => ?_)
  obtain ⟨p, hp⟩ : ∃ p, p = w.heap.size := ⟨_, rfl⟩
  rw [← hp] at hr1 hsz ⊢
  have HP := Lib.hid hp; have HSZ := Lib.hid hsz; have HK := Lib.hid hk
  have HR1 := Lib.hid (show Row W0 p 0 (hdCells (hd0 0)) from hr1)
  clear hp hsz hk hr1
  go_upto_region 2 with (first
    | (go_at_call 56; refine (u32_s g v 0 l W0 (HH.out.keeps HK.out) (by have := HBG.out; have := HP.out; have := HSZ.out; omega) (by have := HBG.out; have := HP.out; have := HSZ.out; omega)).mono ?_; intro r W1 hpst; obtain ⟨hc1, x1, v1, e1, l1, rfl, hx1, hra1, hrf1⟩ := hpst; have HC1 := Lib.hid hc1; have HX1 := Lib.hid hx1; have HRA1 := Lib.hid hra1; have HRF1 := Lib.hid hrf1; clear hc1 hx1 hra1 hrf1)
    | ((with_reducible refine gate_build 26 _ ?_); refine wpList_build_at rfl 26 _ rfl [(0, .int .i32 _)] ?_ _ (built_hd _) ?_; focus (simp only [List.map_toArray, List.map_cons, List.map_nil]; rfl))
    | ((with_reducible refine gate_store 26 (.tmp 3) (.tmp 7) ?_); refine wpList_store_row rfl 26 (.tmp 3) (.tmp 7) rfl W1.heap.size 0 rfl (hdCells (hd0 0)) (hdCells (hd0 _)) rfl (Row.new _ _ _ rfl) (by rw [hdCells_len rfl rfl, hdCells_len rfl rfl]) (sz_hd rfl rfl) (hdCells_one _) ?_; intro W2 hr2 hc2; have HR2 := Lib.hid hr2; have HC2 := Lib.hid hc2; clear hr2 hc2))
  obtain ⟨y0, y1⟩ := HX1.out
  have hver : wrap32 x1 = toI32 x1 := by unfold wrap32 toI32; split <;> omega
  have hi32 := toI32_range y0 y1
  rw [hver] at HR2
  have hst2 : HdSt B p W1.heap.size g W2 v1 e1 l1 (hd0 (toI32 x1)) := by
    have h1 := HC1.out.size
    have h2 := HSZ.out
    have h3 := HBG.out
    have h4 := HP.out
    have hka : Keeps W1 (W1.alloc (.cells (hdCells (hd0 0)).toArray 26)) := keeps_alloc (Keeps.refl _) _
    have hc2 : Chg (· = W1.heap.size) _ W2 := HC2.out
    refine ⟨((HR1.out.chg HC1.out (by omega)).keeps hka).chg hc2 (by omega), HR2.out, ⟨by omega, HR2.out.lt (by simp [hdCells, headCells])⟩, ⟨by omega, by omega⟩, ?_⟩
    exact (HRA1.out.keeps hka).far hc2 (fun k e => by omega) (by omega)
  have hk2 : Chg (· = g) w W2 := chg_then (((HK.out.chg _).trans HC1.out).trans ((keeps_alloc (Keeps.refl W1) _).chg _)) HC2.out (fun k hk => .inl (by have h : k = W1.heap.size := hk; have := HC1.out.size; have := HSZ.out; have := HP.out; omega))
  have HS2 := Lib.hid hst2; have HK2 := Lib.hid hk2; have HI32 := Lib.hid hi32
  clear hst2 hk2 hi32 hver y0 y1 HR2 HC2 HR1
  have hqw : w.heap.size < W1.heap.size := by have h1 := HC1.out.size; have h2 := HSZ.out; have h3 := HP.out; omega
  have HQW := Lib.hid hqw
  clear hqw HRA1 HC1 HK HSZ
  generalize W1.heap.size = q at *
  obtain ⟨v2, hv2⟩ : ∃ v2, v2 = v1 := ⟨_, rfl⟩
  obtain ⟨e2, he2⟩ : ∃ e2, e2 = e1 := ⟨_, rfl⟩
  obtain ⟨l2, hl2⟩ : ∃ l2, l2 = l1 := ⟨_, rfl⟩
  rw [← hv2, ← he2, ← hl2] at HS2
  rw [← he2, ← hl2] at HRF1
  clear hv2 he2 hl2
  refine wp_region_head (S := fun W => Hid ((fun _ => True) W)) 4 (by kernel_rfl) (by kernel_rfl) ?_ (fun hHeld => ?_)
  focus exact Lib.hid trivial
  refine wpAnyHL_take (i := 0) (oi := ?_) (v := ?_) ?_ ?_ ?_ ?_ ?_ ?_ ?_ ?_ ?_ (Or.inl ⟨?_, ?_⟩) ?_ ?_
  rotate_left 2
  focus (simp only [List.getElem?_toArray, List.getElem?_cons_succ, List.getElem?_cons_zero]; exact rfl)
  iterate 7 focus kernel_rfl
  focus (exact fun _ _ _ h => h)
  focus rfl
  focus ((intro wSw hSw; (have hSw := hSw.out); (try dsimp only at hSw); go_simp) <;> with_reducible rfl)
  focus assumption
  try simp only [Act.put, List.setIfInBounds_toArray, List.set_cons_zero, List.set_cons_succ]
  refine wpAnyHL_take (i := 1) (oi := ?_) (v := ?_) ?_ ?_ ?_ ?_ ?_ ?_ ?_ ?_ ?_ (Or.inl ⟨?_, ?_⟩) ?_ ?_
  rotate_left 2
  focus (simp only [List.getElem?_toArray, List.getElem?_cons_succ, List.getElem?_cons_zero]; exact rfl)
  iterate 7 focus kernel_rfl
  focus (exact fun _ _ _ h => h)
  focus rfl
  focus ((intro wSw hSw; (have hSw := hSw.out); (try dsimp only at hSw); go_simp) <;> with_reducible rfl)
  focus assumption
  try simp only [Act.put, List.setIfInBounds_toArray, List.set_cons_zero, List.set_cons_succ]
  refine wpAnyHL_take (i := 2) (oi := ?_) (v := ?_) ?_ ?_ ?_ ?_ ?_ ?_ ?_ ?_ ?_ (Or.inl ⟨?_, ?_⟩) ?_ ?_
  rotate_left 2
  focus (simp only [List.getElem?_toArray, List.getElem?_cons_succ, List.getElem?_cons_zero]; exact rfl)
  iterate 7 focus kernel_rfl
  focus (exact fun _ _ _ h => h)
  focus rfl
  focus ((intro wSw hSw; (have hSw := hSw.out); (try dsimp only at hSw); go_simp) <;> with_reducible rfl)
  focus assumption
  try simp only [Act.put, List.setIfInBounds_toArray, List.set_cons_zero, List.set_cons_succ]
  refine wpAnyHL_one (i := 3) (o := ?_) (by kernel_rfl) (by kernel_rfl) ?_ ?_
  rotate_left 1
  focus (simp only [List.getElem?_toArray, List.getElem?_cons_succ, List.getElem?_cons_zero]; exact rfl)
  go_wp2_with (go_at_call 57; refine (raw_b g v2 e2 l2 32 (by omega) W2.drew HS2.out.drew.rd HS2.out.drew.size.1 HS2.out.drew.size.2).mono ?_; intro r WA3 hraw; obtain ⟨hc3, a3, n3, c3, xs3, v3, e3, l3, rfl, hrd3, hn3, hra3, hst3, hnk3, hrb3⟩ := hraw; have HC3 := Lib.hid hc3; have HRD3 := Lib.hid hrd3; have HRA3 := Lib.hid hra3; have HST3 := Lib.hid hst3.rf; have HNK3 := Lib.hid hnk3; have HRB3 := Lib.hid hrb3; clear hrb3; clear hc3 hrd3 hra3 hst3 hnk3)
  try dsimp only [StepQ]
  refine ⟨?_, fun hHeld => ?_⟩
  focus (exact Lib.hid (trivial))
  try simp only [Act.put, List.setIfInBounds_toArray, List.set_cons_zero, List.set_cons_succ]
  refine wpAnyHL_done (by kernel_rfl) ?_
  try simp only [List.drop_succ_cons, List.drop_zero]
  clear hHeld
  have hnl3 : xs3.length = n3 := by have := HRD3.out.1; simpa using this
  have HNL3 := Lib.hid hnl3
  have HSA3 := Lib.hid (HS2.out.drew.next HC3.out HRA3.out)
  clear hnl3
  go_upto_region 3 with (refine wpList_copy_rw rfl (.tmp 9) (.tmp 11) rfl q 1 32 32 rfl _ n3 _ rfl hn3 (hdCells (hd0 (toI32 x1))) HSA3.out.loc (by rw [hdCells_len rfl rfl]; omega) (xs3.map (Value.int .u8)) HRD3.out (int_oneCell xs3) ?_; intro W3 hr4 hc4; have HR3 := Lib.hid hr4; have HC2_3 := Lib.hid hc4; clear hr4 hc4)
  have hr3 : Row W3 q 0 (hdCells { (hd0 (toI32 x1)) with prev := padZ xs3 }) := by
    have h := HR3.out
    rw [← HNL3.out] at h
    rcases hd_copy1 (h := hd0 (toI32 x1)) (xs := xs3) rfl with e | e
    · rw [← e]; exact h
    · have := hn3; have := HNL3.out; omega
  have HS3 := Lib.hid (HSA3.out.put HC2_3.out hr3)
  have HB3 := Lib.hid (show (padZ xs3).length = 32 from padZ_len (by have := hn3; have := HNL3.out; omega))
  have HK3 := Lib.hid (chg_then (HK2.out.drew.trans HC3.out) HC2_3.out (fun k hk => .inl (by have h : k = q := hk; have := HQW.out; omega)))
  clear hr3
  obtain ⟨h3, hh3⟩ : ∃ h3 : HdD, h3 = { (hd0 (toI32 x1)) with prev := padZ xs3 } := ⟨_, rfl⟩
  rw [← hh3] at HS3
  have HH3 := Lib.hid hh3
  have HP3 := Lib.hid (show h3.prev.length = 32 by rw [hh3]; exact HB3.out)
  have HM3 := Lib.hid (show h3.merkle = Z32 by rw [hh3]; rfl)
  clear hh3
  refine wp_region_head (S := fun W => Hid ((fun _ => True) W)) 4 (by kernel_rfl) (by kernel_rfl) ?_ (fun hHeld => ?_)
  focus exact Lib.hid trivial
  refine wpAnyHL_take (i := 0) (oi := ?_) (v := ?_) ?_ ?_ ?_ ?_ ?_ ?_ ?_ ?_ ?_ (Or.inl ⟨?_, ?_⟩) ?_ ?_
  rotate_left 2
  focus (simp only [List.getElem?_toArray, List.getElem?_cons_succ, List.getElem?_cons_zero]; exact rfl)
  iterate 7 focus kernel_rfl
  focus (exact fun _ _ _ h => h)
  focus rfl
  focus ((intro wSw hSw; (have hSw := hSw.out); (try dsimp only at hSw); go_simp) <;> with_reducible rfl)
  focus assumption
  try simp only [Act.put, List.setIfInBounds_toArray, List.set_cons_zero, List.set_cons_succ]
  refine wpAnyHL_take (i := 1) (oi := ?_) (v := ?_) ?_ ?_ ?_ ?_ ?_ ?_ ?_ ?_ ?_ (Or.inl ⟨?_, ?_⟩) ?_ ?_
  rotate_left 2
  focus (simp only [List.getElem?_toArray, List.getElem?_cons_succ, List.getElem?_cons_zero]; exact rfl)
  iterate 7 focus kernel_rfl
  focus (exact fun _ _ _ h => h)
  focus rfl
  focus ((intro wSw hSw; (have hSw := hSw.out); (try dsimp only at hSw); go_simp) <;> with_reducible rfl)
  focus assumption
  try simp only [Act.put, List.setIfInBounds_toArray, List.set_cons_zero, List.set_cons_succ]
  refine wpAnyHL_take (i := 2) (oi := ?_) (v := ?_) ?_ ?_ ?_ ?_ ?_ ?_ ?_ ?_ ?_ (Or.inl ⟨?_, ?_⟩) ?_ ?_
  rotate_left 2
  focus (simp only [List.getElem?_toArray, List.getElem?_cons_succ, List.getElem?_cons_zero]; exact rfl)
  iterate 7 focus kernel_rfl
  focus (exact fun _ _ _ h => h)
  focus rfl
  focus ((intro wSw hSw; (have hSw := hSw.out); (try dsimp only at hSw); go_simp) <;> with_reducible rfl)
  focus assumption
  try simp only [Act.put, List.setIfInBounds_toArray, List.set_cons_zero, List.set_cons_succ]
  refine wpAnyHL_one (i := 3) (o := ?_) (by kernel_rfl) (by kernel_rfl) ?_ ?_
  rotate_left 1
  focus (simp only [List.getElem?_toArray, List.getElem?_cons_succ, List.getElem?_cons_zero]; exact rfl)
  go_wp2_with (go_at_call 57; refine (raw_b g v3 e3 l3 32 (by omega) W3.drew HS3.out.drew.rd HS3.out.drew.size.1 HS3.out.drew.size.2).mono ?_; intro r WA4 hraw; obtain ⟨hc4, a4, n4, c4, xs4, v4, e4, l4, rfl, hrd4, hn4, hra4, hst4, hnk4, hrb4⟩ := hraw; have HC4 := Lib.hid hc4; have HRD4 := Lib.hid hrd4; have HRA4 := Lib.hid hra4; have HST4 := Lib.hid hst4.rf; have HNK4 := Lib.hid hnk4; have HRB4 := Lib.hid hrb4; clear hrb4; clear hc4 hrd4 hra4 hst4 hnk4)
  try dsimp only [StepQ]
  refine ⟨?_, fun hHeld => ?_⟩
  focus (exact Lib.hid (trivial))
  try simp only [Act.put, List.setIfInBounds_toArray, List.set_cons_zero, List.set_cons_succ]
  refine wpAnyHL_done (by kernel_rfl) ?_
  try simp only [List.drop_succ_cons, List.drop_zero]
  clear hHeld
  have hnl4 : xs4.length = n4 := by have := HRD4.out.1; simpa using this
  have HNL4 := Lib.hid hnl4
  have HSA4 := Lib.hid (HS3.out.drew.next HC4.out HRA4.out)
  clear hnl4
  go_upto_region 4 with (refine wpList_copy_rw rfl (.tmp 14) (.tmp 16) rfl q 33 32 32 rfl _ n4 _ rfl hn4 (hdCells h3) HSA4.out.loc (by rw [hdCells_len HP3.out (by rw [HM3.out]; rfl)]; omega) (xs4.map (Value.int .u8)) HRD4.out (int_oneCell xs4) ?_; intro W4 hr4 hc4; have HR4 := Lib.hid hr4; have HC2_4 := Lib.hid hc4; clear hr4 hc4)
  have hr4 : Row W4 q 0 (hdCells { h3 with merkle := padZ xs4 }) := by
    have h := HR4.out
    rw [← HNL4.out] at h
    rcases hd_copy2 (h := h3) (xs := xs4) HP3.out HM3.out with e | e
    · rw [← e]; exact h
    · have := hn4; have := HNL4.out; omega
  have HS4 := Lib.hid (HSA4.out.put HC2_4.out hr4)
  have HK4 := Lib.hid (chg_then (HK3.out.drew.trans HC4.out) HC2_4.out (fun k hk => .inl (by have h : k = q := hk; have := HQW.out; omega)))
  clear hr4
  obtain ⟨h4, hh4⟩ : ∃ h4 : HdD, h4 = { h3 with merkle := padZ xs4 } := ⟨_, rfl⟩
  rw [← hh4] at HS4
  have HH4 := Lib.hid hh4
  have HP4 := Lib.hid (show h4.prev.length = 32 by rw [hh4]; exact HP3.out)
  have HM4 := Lib.hid (show h4.merkle.length = 32 by rw [hh4]; exact padZ_len (by have := hn4; have := HNL4.out; omega))
  clear hh4
  go_upto_region 5 with (go_at_call 56; refine (u32_s g v4 e4 l4 W4 HS4.out.rd HS4.out.size.1 HS4.out.size.2).mono ?_; intro r WA5 hpst; obtain ⟨hc5, x5, v5, e5, l5, rfl, hx5, hra5, hrf5⟩ := hpst; have HC5 := Lib.hid hc5; have HX5 := Lib.hid hx5; have HRF5 := Lib.hid hrf5; have hsa := HS4.out.next hc5 hra5; obtain ⟨⟨z, y⟩, -, -⟩ := hd_free hsa.loc HP4.out HM4.out; have HSA5 := Lib.hid hsa; clear hc5 hx5 hra5 hrf5 hsa)
  clear z y
  have hset5 := HSA5.out.loc.set 65 (by rw [hdCells_len HP4.out HM4.out]; omega) (.int .u32 x5)
  rw [Nat.zero_add, hd_set65 x5 HP4.out HM4.out] at hset5
  have HS5 := Lib.hid (HSA5.out.put (Chg.cell q 65 (.int .u32 x5)) hset5)
  have HK5 := Lib.hid (chg_then (HK4.out.trans HC5.out) (Chg.cell q 65 (.int .u32 x5)) (fun k hk => .inl (by have h : k = q := hk; have := HQW.out; omega)))
  clear hset5
  generalize WA5.setCell ⟨q, 65, none⟩ (.int .u32 x5) = W5 at *
  obtain ⟨h5, hh5⟩ : ∃ h5 : HdD, h5 = { h4 with time := x5 } := ⟨_, rfl⟩
  rw [← hh5] at HS5
  have HH5 := Lib.hid hh5
  have HP5 := Lib.hid (show h5.prev.length = 32 by rw [hh5]; exact HP4.out)
  have HM5 := Lib.hid (show h5.merkle.length = 32 by rw [hh5]; exact HM4.out)
  clear hh5
  go_upto_region 6 with (go_at_call 56; refine (u32_s g v5 e5 l5 W5 HS5.out.rd HS5.out.size.1 HS5.out.size.2).mono ?_; intro r WA6 hpst; obtain ⟨hc6, x6, v6, e6, l6, rfl, hx6, hra6, hrf6⟩ := hpst; have HC6 := Lib.hid hc6; have HX6 := Lib.hid hx6; have HRF6 := Lib.hid hrf6; have hsa := HS5.out.next hc6 hra6; obtain ⟨-, ⟨z, y⟩, -⟩ := hd_free hsa.loc HP5.out HM5.out; have HSA6 := Lib.hid hsa; clear hc6 hx6 hra6 hrf6 hsa)
  clear z y
  have hset6 := HSA6.out.loc.set 66 (by rw [hdCells_len HP5.out HM5.out]; omega) (.int .u32 x6)
  rw [Nat.zero_add, hd_set66 x6 HP5.out HM5.out] at hset6
  have HS6 := Lib.hid (HSA6.out.put (Chg.cell q 66 (.int .u32 x6)) hset6)
  have HK6 := Lib.hid (chg_then (HK5.out.trans HC6.out) (Chg.cell q 66 (.int .u32 x6)) (fun k hk => .inl (by have h : k = q := hk; have := HQW.out; omega)))
  clear hset6
  generalize WA6.setCell ⟨q, 66, none⟩ (.int .u32 x6) = W6 at *
  obtain ⟨h6, hh6⟩ : ∃ h6 : HdD, h6 = { h5 with bits := x6 } := ⟨_, rfl⟩
  rw [← hh6] at HS6
  have HH6 := Lib.hid hh6
  have HP6 := Lib.hid (show h6.prev.length = 32 by rw [hh6]; exact HP5.out)
  have HM6 := Lib.hid (show h6.merkle.length = 32 by rw [hh6]; exact HM5.out)
  clear hh6
  go_upto_region 7 with (go_at_call 56; refine (u32_s g v6 e6 l6 W6 HS6.out.rd HS6.out.size.1 HS6.out.size.2).mono ?_; intro r WA7 hpst; obtain ⟨hc7, x7, v7, e7, l7, rfl, hx7, hra7, hrf7⟩ := hpst; have HC7 := Lib.hid hc7; have HX7 := Lib.hid hx7; have HRF7 := Lib.hid hrf7; have hsa := HS6.out.next hc7 hra7; obtain ⟨-, -, ⟨z, y⟩⟩ := hd_free hsa.loc HP6.out HM6.out; have HSA7 := Lib.hid hsa; clear hc7 hx7 hra7 hrf7 hsa)
  clear z y
  have hset7 := HSA7.out.loc.set 67 (by rw [hdCells_len HP6.out HM6.out]; omega) (.int .u32 x7)
  rw [Nat.zero_add, hd_set67 x7 HP6.out HM6.out] at hset7
  have HS7 := Lib.hid (HSA7.out.put (Chg.cell q 67 (.int .u32 x7)) hset7)
  have HK7 := Lib.hid (chg_then (HK6.out.trans HC7.out) (Chg.cell q 67 (.int .u32 x7)) (fun k hk => .inl (by have h : k = q := hk; have := HQW.out; omega)))
  clear hset7
  generalize WA7.setCell ⟨q, 67, none⟩ (.int .u32 x7) = W7 at *
  obtain ⟨h7, hh7⟩ : ∃ h7 : HdD, h7 = { h6 with nonce := x7 } := ⟨_, rfl⟩
  rw [← hh7] at HS7
  have HH7 := Lib.hid hh7
  have HP7 := Lib.hid (show h7.prev.length = 32 by rw [hh7]; exact HP6.out)
  have HM7 := Lib.hid (show h7.merkle.length = 32 by rw [hh7]; exact HM6.out)
  clear hh7
  go_wp2_with (first
    | ((with_reducible refine gate_load 26 (.tmp 3) ?_); refine wpList_load_at rfl 26 (.tmp 3) rfl q 0 rfl _ _ HS7.out.loc Tryz.underlying26 rfl (sz_hd HP7.out HM7.out) ?_)
    | ((with_reducible refine gate_store 26 (.tmp 2) (.tmp 27) ?_); refine wpList_store_row rfl 26 (.tmp 2) (.tmp 27) rfl p 0 rfl (hdCells (hd0 0)) (hdCells h7) rfl HS7.out.res (by rw [hdCells_len HP7.out HM7.out, hdCells_len rfl rfl]) (sz_hd HP7.out HM7.out) (hdCells_one _) ?_; intro W8 hr8 hc8; have HR8 := Lib.hid hr8; have HC8 := Lib.hid hc8; clear hr8 hc8))
  refine bodyPost_ret (results_cell_at rfl _ _ p 0 _ _ (by simp only [Act.put, List.setIfInBounds_toArray, List.set_cons_zero, List.set_cons_succ]; rfl) HR8.out Tryz.underlying26 rfl (sz_hd HP7.out HM7.out)) rfl ?_
  have hgp := HS7.out.gp
  have hpw := HP.out
  have hc8 : Chg (· = p) W7 W8 := HC8.out
  have hbl1 : Bytes l2 := HS2.out.rd.bytes
  have hbl3 : Bytes l3 := HS3.out.rd.bytes
  have hx3 : Bytes xs3 ∨ True := .inr trivial
  have hx7 : h7 = ⟨toI32 x1, padZ xs3, padZ xs4, x5, x6, x7⟩ := by rw [HH7.out, HH6.out, HH5.out, HH4.out, HH3.out]; rfl
  have hb3 : Bytes xs3 := HRB3.out
  have hb4 : Bytes xs4 := HRB4.out
  refine ⟨chg_then HK7.out hc8 (fun k hk => .inl (by have h : k = p := hk; omega)), h7, v7, e7, l7, ⟨toI32 x1, xs3, xs4, x5, x6, x7⟩, rfl, ?_, HS7.out.rd.far hc8 (fun k e => by omega) (by omega), head_read HRF1.out HST3.out HST4.out HRF5.out HRF6.out HRF7.out, fun he => ?_⟩
  · rw [hx7]
    exact ⟨HI32.out, padZ_len (by have := hn3; have := HNL3.out; omega), padZ_bytes hb3, padZ_len (by have := hn4; have := HNL4.out; omega), padZ_bytes hb4, HX5.out, HX6.out, HX7.out⟩
  · subst he
    obtain ⟨r6, -⟩ := HRF7.out.zero
    subst r6
    obtain ⟨r5, -⟩ := HRF6.out.zero
    subst r5
    obtain ⟨r4, -⟩ := HRF5.out.zero
    subst r4
    have n4 := HNK4.out rfl
    obtain ⟨r3, -⟩ := HST4.out.zero
    subst r3
    have n3' := HNK3.out rfl
    rw [hx7, padZ_all (by rw [HNL3.out, n3']), padZ_all (by rw [HNL4.out, n4])]
end Go.Proofs.YtcodpdpeklammaaGreatDoor
