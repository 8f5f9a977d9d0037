/- A transaction that came in: from what a row says of the argument to RTx. | A block, and a list of names, that came in: from what a row says of the arguments to what the walks ask. -/
import Derived.Test.YtcodpdpeklammaaGreatDoorGA3
import Derived.Test.YtcodpdpeklammaaGreatDoorRows
import Derived.ProofKit
import Derived.OpenShut
import Derived.SizedLaws
import Derived.Deep.Slices
import Derived.Test.YtcodpdpeklammaaGreatDoorGD8
import Derived.Test.YtcodpdpeklammaaGreatDoorGD7
import Derived.LaidMore
import Derived.Stop.Joined
import Derived.Lay
import Derived.Handy
namespace Go.Proofs.YtcodpdpeklammaaGreatDoor
set_option linter.unusedVariables false
set_option linter.unusedSimpArgs false
open Go Go.RowKit Go.ChangeShapes Go.WideShapes Go.ChangeAt Go.Deep

instance : Inhabited InD := ⟨⟨[], 0, [], 0, []⟩⟩
instance : Inhabited OutD := ⟨⟨0, []⟩⟩
theorem own : ownKnob Tryz.prog.godebug = none := by kernel_rfl
theorem laidOut : laidOutB Tryz.prog = true := by kernel_rfl
theorem pick_lt {α : Type} [Inhabited α] {m : Nat} {p : Nat → α → Prop} (h : ∀ i, i < m → ∃ v, p i v) : ∃ V : Nat → α, ∀ i, i < m → p i (V i) := by
  classical
  exact ⟨fun i => if h' : i < m then (h i h').choose else default, fun i hi => by simp only [hi, dite_true]; exact (h i hi).choose_spec⟩
theorem flat_at {α : Type} (F : Nat → List α) (sz : Nat) : ∀ (n : Nat), (∀ i, i < n → (F i).length = sz) → ((List.range n).flatMap F).length = n * sz ∧ ∀ i, i < n → (((List.range n).flatMap F).drop (i * sz)).take sz = F i
  | 0, _ => ⟨by simp, fun i hi => by omega⟩
  | n + 1, h => by
    obtain ⟨h1, h2⟩ := flat_at F sz n (fun i hi => h i (by omega))
    have hn := h n (by omega)
    have e : (List.range (n + 1)).flatMap F = (List.range n).flatMap F ++ F n := by rw [List.range_succ, List.flatMap_append]; simp
    rw [e]
    refine ⟨by rw [List.length_append, h1, hn, Nat.succ_mul], fun i hi => ?_⟩
    by_cases hin : i < n
    · have hle : (i + 1) * sz ≤ n * sz := Nat.mul_le_mul_right _ hin
      rw [Nat.succ_mul] at hle
      rw [List.drop_append_of_le_length (by omega), List.take_append_of_le_length (by rw [List.length_drop]; omega)]
      exact h2 i hin
    · obtain rfl : i = n := by omega
      rw [List.drop_left' h1, List.take_of_length_le (by omega)]
theorem flat_one {α β : Type} (f : α → β) (l : List α) : (l.flatMap fun i => [f i]) = l.map f := by induction l <;> simp_all [List.flatMap_cons]
theorem split1 {α : Type} (l : List α) (k : Nat) : l.drop k = (l.drop k).take 1 ++ l.drop (k + 1) := by
  have := (List.take_append_drop 1 (l.drop k)).symm
  rwa [List.drop_drop] at this

section
variable {H : Type} {enc : TypeId × Value → H} {W : World} {ps : List MemPlace}
/-- what was read there, its places among ps, its weights in reach -/
structure Trd (enc : TypeId × Value → H) (W : World) (ps : List MemPlace) (n : Nat) (t : TypeId) (cs : List Value) (x : DataW H × List MemPlace) : Prop where
  rd : DataW.trod enc Tryz.prog W 0 (fun _ => true) true n t cs = some x
  sub : ∀ p ∈ x.2, p ∈ ps
  lite : ∀ k ∈ x.1.weights Tryz.prog t, k ≤ reachBytes
theorem weightsAll_mem {P : Program} {e : TypeId} {l : List (DataW H)} {d : DataW H} (hd : d ∈ l) {k : Nat} (hk : k ∈ d.weights P e) : k ∈ DataW.weightsAll P e l := by
  induction l with
  | nil => cases hd
  | cons a r ih =>
    simp only [DataW.weightsAll, List.mem_append]
    rcases List.mem_cons.1 hd with rfl | h
    · exact .inl hk
    · exact .inr (ih h)
theorem Trd.fields {n : Nat} {t : TypeId} {cs : List Value} {x : DataW H × List MemPlace} {fs : Array Field} (h : Trd enc W ps n t cs x) (ht : Tryz.prog.underlying t = some (.struct fs)) :
    ∃ m, cs.length = Tryz.prog.cellsOf t ∧ ∀ (j : Nat) (f : Field), fs[j]? = some f → ∃ y, Trd enc W ps m f.type ((cs.drop f.offset).take (Tryz.prog.cellsOf f.type)) y := by
  obtain ⟨xs, m, -, hx, hl, hxl, hf⟩ := DataW.trod_struct ht h.rd
  refine ⟨m, hl, fun j f hj => ?_⟩
  have hjl : j < fs.size := (Array.getElem?_eq_some_iff.1 hj).1
  have hy : xs[j]? = some (xs[j]'(by omega)) := List.getElem?_eq_getElem (by omega)
  have hs := h.sub; have hw := h.lite
  rw [hx] at hs hw
  refine ⟨_, (hf j f hj).trans hy, fun p hp => hs p (List.mem_flatMap.2 ⟨_, List.getElem_mem _, hp⟩), fun k hk => hw k ?_⟩
  simp only [DataW.weights, ht]
  exact DataW.weights_mem_each (j := j) (by rw [List.getElem?_map, Array.getElem?_toList, hj]; rfl) (by rw [List.getElem?_map, hy]; rfl) k hk
theorem Trd.elems {n c : Nat} {t e : TypeId} {cs : List Value} {x : DataW H × List MemPlace} (h : Trd enc W ps n t cs x) (ht : Tryz.prog.underlying t = some (.array c e)) :
    ∃ m, cs.length = Tryz.prog.cellsOf t ∧ ∀ (j : Nat), j < c → ∃ y, Trd enc W ps m e ((cs.drop (j * Tryz.prog.cellsOf e)).take (Tryz.prog.cellsOf e)) y := by
  obtain ⟨xs, m, -, hx, hl, hxl, hf⟩ := DataW.trod_array ht h.rd
  refine ⟨m, hl, fun j hj => ?_⟩
  have hy : xs[j]? = some (xs[j]'(by omega)) := List.getElem?_eq_getElem (by omega)
  have hs := h.sub; have hw := h.lite
  rw [hx] at hs hw
  refine ⟨_, (hf j hj).trans hy, fun p hp => hs p (List.mem_flatMap.2 ⟨_, List.getElem_mem _, hp⟩), fun k hk => hw k ?_⟩
  simp only [DataW.weights, ht]
  exact weightsAll_mem (List.mem_map.2 ⟨_, List.getElem_mem _, rfl⟩) hk
theorem Trd.items {n : Nat} {t e : TypeId} {cs : List Value} {x : DataW H × List MemPlace} (h : Trd enc W ps n t cs x) (ht : Tryz.prog.underlying t = some (.slice e)) :
    (cs = [.slice none 0 0]) ∨ ∃ (a : Addr) (len cap m : Nat), cs = [.slice (some a) len cap] ∧ len ≤ cap ∧ cap ≤ maxLen ∧ cap * Tryz.prog.bytesOf e ≤ reachBytes ∧ (∀ p ∈ MemPlace.row a (cap * Tryz.prog.cellsOf e), p ∈ ps) ∧
      ∀ i, i < cap → ∃ cs' y, W.cells? 0 (a.add (i * Tryz.prog.cellsOf e)) (Tryz.prog.cellsOf e) = some cs' ∧ Trd enc W ps m e cs' y := by
  rcases open_slice ht h.rd with ⟨h0, -⟩ | ⟨a, len, cap, m, n, D, Pl, hcs, -, hl, hm, hmm, hx, hi⟩
  · exact .inl h0
  · simp only [if_true] at hmm
    subst hmm
    have hs := h.sub; have hw := h.lite
    rw [hx] at hs hw
    simp only [DataW.weights, ht] at hw
    refine .inr ⟨a, len, m, n, hcs, hl, hm, ?_, fun p hp => hs p (List.mem_append_left _ hp), fun i hi' => ?_⟩
    · have := hw _ (List.mem_cons_self ..)
      simp only [List.length_map, List.length_range] at this
      rwa [show len + (m - len) = m by omega] at this
    · obtain ⟨cs', h1, h2⟩ := hi i hi'
      refine ⟨cs', _, h1, h2, fun p hp => hs p (List.mem_append_right _ (List.mem_flatMap.2 ⟨i, List.mem_range.2 hi', hp⟩)), fun k hk => hw k (List.mem_cons_of_mem _ ?_)⟩
      by_cases hil : i < len
      · exact List.mem_append_left _ (weightsAll_mem (List.mem_map.2 ⟨i, List.mem_range.2 hil, rfl⟩) hk)
      · exact List.mem_append_right _ (weightsAll_mem (List.mem_map.2 ⟨i - len, List.mem_range.2 (by omega), by rw [show len + (i - len) = i by omega]⟩) hk)
/-- rows of sz cells -/
theorem rd_gen {a : Addr} {len cap sz : Nat} (hz : 0 < sz) (F : Nat → List Value) (hl : len ≤ cap) (hm : cap ≤ maxLen) (hF : ∀ i, i < cap → W.cells? 0 (a.add (i * sz)) sz = some (F i))
    (hfz : W.noneFrozen ps) (hp : ∀ x ∈ MemPlace.row a (cap * sz), x ∈ ps) : Rd W sz (.slice (some a) len cap) len ((List.range len).flatMap F) := by
  have hlen : ∀ i, i < cap → (F i).length = sz := fun i hi => (World.cells?_some (hF i hi)).2.1
  obtain ⟨h1, h2⟩ := flat_at F sz len (fun i hi => hlen i (by omega))
  refine ⟨by rw [h1], some a, cap, rfl, hl, hm, fun e => (by cases e), fun ad e hn => ?_⟩
  cases e
  obtain ⟨b, off, spot⟩ := a
  have h00 : W.cell? ((⟨b, off, spot⟩ : Addr).add 0) = (F 0)[0]? := by
    have := (World.cells?_some (hF 0 (by omega))).2.2 0 hz
    rwa [Nat.zero_mul, Go.Deep.add_add] at this
  have h000 : W.cell? ((⟨b, off, spot⟩ : Addr).add 0) = some ((F 0)[0]'(by rw [hlen 0 (by omega)]; exact hz)) := by rw [h00]; exact List.getElem?_eq_getElem _
  have hspot : spot = none := by simpa [Addr.add] using World.cell?_spot h000
  subst hspot
  have hadd : ∀ i, (⟨b, off, none⟩ : Addr).add i = ⟨b, off + i, none⟩ := fun i => by unfold Addr.add; split <;> simp_all
  refine ⟨b, off, rfl, ?_, fun j v hv => ?_⟩
  · rw [hadd] at h000
    exact World.block_lt_of_cell? W _ h000
  · have hj : j < len * sz := by
      have := (List.getElem?_eq_some_iff.1 hv).1
      omega
    have hq : j / sz < len := (Nat.div_lt_iff_lt_mul hz).2 hj
    have hdm : j / sz * sz + j % sz = j := by rw [Nat.mul_comm]; exact Nat.div_add_mod j sz
    have hmod : j % sz < sz := Nat.mod_lt _ hz
    have hc := (World.cells?_some (hF (j / sz) (by omega))).2.2 (j % sz) hmod
    rw [Go.Deep.add_add, hdm, hadd] at hc
    have hmul : len * sz ≤ cap * sz := Nat.mul_le_mul_right _ hl
    refine ⟨?_, hfz b (off + j) (hp _ (MemPlace.mem_row.2 ⟨j, by omega, rfl⟩))⟩
    rw [hc]
    have h3 := congrArg (fun l : List Value => l[j % sz]?) (h2 (j / sz) hq)
    simp only [List.getElem?_take, List.getElem?_drop, hmod, if_true, hdm] at h3
    rw [← h3, hv]
theorem rdn (W : World) (sz : Nat) : Rd W sz (.slice none 0 0) 0 [] := ⟨by simp, none, 0, rfl, Nat.le_refl _, Nat.zero_le _, fun _ => ⟨rfl, rfl⟩, fun ad e _ => (by cases e)⟩
theorem Trd.int {n : Nat} {t : TypeId} {k : IntKind} {cs : List Value} {x : DataW H × List MemPlace} (h : Trd enc W ps n t cs x) (ht : Tryz.prog.underlying t = some (.int k)) : ∃ z, cs = [.int k z] ∧ (Lit.int k z).wf = true := by
  obtain ⟨z, h1, _, h2⟩ := DataW.trod_int ht h.rd
  exact ⟨z, h1, h2⟩
theorem cells_u8 : Tryz.prog.cellsOf 5 = 1 := by kernel_rfl
theorem bytes_u8 : Tryz.prog.bytesOf 5 = 1 := by kernel_rfl
theorem cells_sl : Tryz.prog.cellsOf 32 = 1 := by kernel_rfl
theorem bytes_sl : Tryz.prog.bytesOf 32 = 24 := by kernel_rfl
theorem cells_in : Tryz.prog.cellsOf 100 = 36 := by kernel_rfl
theorem bytes_in : Tryz.prog.bytesOf 100 = 96 := by kernel_rfl
theorem cells_out : Tryz.prog.cellsOf 102 = 2 := by kernel_rfl
theorem bytes_out : Tryz.prog.bytesOf 102 = 32 := by kernel_rfl
theorem cells_pt : Tryz.prog.cellsOf 97 = 33 := by kernel_rfl
theorem cells_hash : Tryz.prog.cellsOf 23 = 32 := by kernel_rfl
theorem cells_u32 : Tryz.prog.cellsOf 24 = 1 := by kernel_rfl
theorem cells_i32 : Tryz.prog.cellsOf 21 = 1 := by kernel_rfl
theorem cells_i64 : Tryz.prog.cellsOf 2 = 1 := by kernel_rfl
theorem cells_ll : Tryz.prog.cellsOf 98 = 1 := by kernel_rfl
theorem cells_ins : Tryz.prog.cellsOf 43 = 1 := by kernel_rfl
theorem cells_outs : Tryz.prog.cellsOf 44 = 1 := by kernel_rfl
theorem cells_tx : Tryz.prog.cellsOf 46 = 4 := by kernel_rfl
/-- bytes -/
theorem Trd.bytes {n : Nat} {cs : List Value} {x : DataW H × List MemPlace} (h : Trd enc W ps n 32 cs x) (hfz : W.noneFrozen ps) : ∃ v l, cs = [v] ∧ RB AnyB W v l := by
  rcases h.items Tryz.underlying32 with h0 | ⟨a, len, cap, m, hcs, hl, hm, hb, hp, hi⟩
  · exact ⟨_, [], h0, rdn W 1, fun x hx => (by cases hx), by simp, fun g _ => trivial⟩
  · rw [cells_u8] at hp hi
    rw [bytes_u8] at hb
    obtain ⟨Z, hZ⟩ := pick_lt (α := Int) (p := fun i z => W.cells? 0 (a.add (i * 1)) 1 = some [.int .u8 z] ∧ (Lit.int .u8 z).wf = true) (fun i hi' => by
      obtain ⟨cs', y, h1, h2⟩ := hi i hi'
      obtain ⟨z, rfl, h4⟩ := h2.int Tryz.underlying5
      exact ⟨z, h1, h4⟩)
    have hlm : ((List.range len).map Z).length = len := by simp
    refine ⟨_, (List.range len).map Z, hcs, ?_, fun x hx => ?_, by rw [hlm]; unfold reachBytes at hb; omega, fun g _ => trivial⟩
    · have := rd_gen (W := W) (ps := ps) (by omega) (fun i => [.int .u8 (Z i)]) hl hm (fun i hi' => (hZ i hi').1) hfz hp
      rw [hlm, List.map_map]
      have e : ((List.range len).flatMap fun i => [Value.int .u8 (Z i)]) = (List.range len).map (Value.int .u8 ∘ Z) := by rw [flat_one]; rfl
      rwa [e] at this
    · obtain ⟨i, hi', rfl⟩ := List.mem_map.1 hx
      have := bounds_u8 (hZ i (by have := List.mem_range.1 hi'; omega)).2
      exact ⟨by omega, by omega⟩
/-- a list of bytes -/
theorem Trd.list {n : Nat} {cs : List Value} {x : DataW H × List MemPlace} (h : Trd enc W ps n 98 cs x) (hfz : W.noneFrozen ps) : ∃ v ls, cs = [v] ∧ RLL AnyB AnyB W v ls := by
  rcases h.items Tryz.underlying98 with h0 | ⟨a, len, cap, m, hcs, hl, hm, hb, hp, hi⟩
  · exact ⟨_, [], h0, [], rdn W 1, fun i u l hu hl => (by simp at hu), by simp, fun g _ => trivial⟩
  · rw [cells_sl] at hp hi
    rw [bytes_sl] at hb
    obtain ⟨Z, hZ⟩ := pick_lt (α := Value × List Int) (p := fun i z => W.cells? 0 (a.add (i * 1)) 1 = some [z.1] ∧ RB AnyB W z.1 z.2) (fun i hi' => by
      obtain ⟨cs', y, h1, h2⟩ := hi i hi'
      obtain ⟨v, l, rfl, h4⟩ := h2.bytes hfz
      exact ⟨(v, l), h1, h4⟩)
    have hlm : ((List.range len).map fun i => (Z i).2).length = len := by simp
    refine ⟨_, (List.range len).map (fun i => (Z i).2), hcs, (List.range len).map (fun i => (Z i).1), ?_, fun i u l hu hl' => ?_, by rw [hlm]; unfold reachBytes at hb; omega, fun g _ => trivial⟩
    · have := rd_gen (W := W) (ps := ps) (by omega) (fun i => [(Z i).1]) hl hm (fun i hi' => (hZ i hi').1) hfz hp
      rw [hlm]
      have e : ((List.range len).flatMap fun i => [(Z i).1]) = (List.range len).map (fun i => (Z i).1) := flat_one _ _
      rwa [e] at this
    · have hil : i < len := by have := (List.getElem?_eq_some_iff.1 hu).1; simpa using this
      rw [List.getElem?_map, List.getElem?_range hil] at hu hl'
      simp only [Option.map_some, Option.some.injEq] at hu hl'
      rw [← hu, ← hl']
      exact (hZ i (by omega)).2
theorem Trd.hash {n : Nat} {cs : List Value} {x : DataW H × List MemPlace} (h : Trd enc W ps n 23 cs x) : ∃ l : List Int, cs = l.map (Value.int .u8) ∧ l.length = 32 ∧ Bytes l := by
  obtain ⟨m, hl, he⟩ := h.elems Tryz.underlying23
  rw [cells_hash] at hl
  rw [cells_u8] at he
  obtain ⟨Z, hZ⟩ := pick_lt (α := Int) (p := fun i z => (cs.drop (i * 1)).take 1 = [.int .u8 z] ∧ (Lit.int .u8 z).wf = true) (fun i hi' => by
    obtain ⟨y, hy⟩ := he i hi'
    obtain ⟨z, h1, h4⟩ := hy.int Tryz.underlying5
    exact ⟨z, h1, h4⟩)
  refine ⟨(List.range 32).map Z, ?_, by simp, fun x hx => ?_⟩
  · refine List.ext_getElem? fun i => ?_
    by_cases hi : i < 32
    · have h3 := congrArg (fun l : List Value => l[0]?) (hZ i hi).1
      simp only [List.getElem?_take, List.getElem?_drop, Nat.mul_one, Nat.add_zero] at h3
      rw [List.getElem?_map, List.getElem?_map, List.getElem?_range hi]
      simpa using h3
    · rw [List.getElem?_eq_none (by omega), List.getElem?_eq_none (by simp; omega)]
  · obtain ⟨i, hi', rfl⟩ := List.mem_map.1 hx
    have := bounds_u8 (hZ i (List.mem_range.1 hi')).2
    exact ⟨by omega, by omega⟩
theorem Trd.txin {n : Nat} {cs : List Value} {x : DataW H × List MemPlace} (h : Trd enc W ps n 100 cs x) (hfz : W.noneFrozen ps) : ∃ sv wv d, cs = inCells d sv wv ∧ RIn AnyB AnyB W sv wv d := by
  obtain ⟨m, hl, hf⟩ := h.fields Tryz.underlying100
  rw [cells_in] at hl
  obtain ⟨y0, h0⟩ : ∃ y, Trd enc W ps m 97 ((cs.drop 0).take (Tryz.prog.cellsOf 97)) y := hf 0 _ rfl
  obtain ⟨y1, h1⟩ : ∃ y, Trd enc W ps m 32 ((cs.drop 33).take (Tryz.prog.cellsOf 32)) y := hf 1 _ rfl
  obtain ⟨y2, h2⟩ : ∃ y, Trd enc W ps m 24 ((cs.drop 34).take (Tryz.prog.cellsOf 24)) y := hf 2 _ rfl
  obtain ⟨y3, h3⟩ : ∃ y, Trd enc W ps m 98 ((cs.drop 35).take (Tryz.prog.cellsOf 98)) y := hf 3 _ rfl
  rw [cells_pt] at h0; rw [cells_sl] at h1; rw [cells_u32] at h2; rw [cells_ll] at h3
  obtain ⟨sv, script, e1, hsv⟩ := h1.bytes hfz
  obtain ⟨sq, e2, hq⟩ := h2.int Tryz.underlying24
  obtain ⟨wv, wit, e3, hwv⟩ := h3.list hfz
  obtain ⟨m', hl0, hf0⟩ := h0.fields Tryz.underlying97
  obtain ⟨z0, g0⟩ : ∃ y, Trd enc W ps m' 23 ((((cs.drop 0).take 33).drop 0).take (Tryz.prog.cellsOf 23)) y := hf0 0 _ rfl
  obtain ⟨z1, g1⟩ : ∃ y, Trd enc W ps m' 24 ((((cs.drop 0).take 33).drop 32).take (Tryz.prog.cellsOf 24)) y := hf0 1 _ rfl
  rw [cells_hash] at g0; rw [cells_u32] at g1
  obtain ⟨hs, e4, hs1, hs2⟩ := g0.hash
  obtain ⟨ix, e5, hx⟩ := g1.int Tryz.underlying24
  have b1 := bounds_u32 hq
  have b2 := bounds_u32 hx
  have u1 : U32 ix := ⟨by omega, by omega⟩
  have u2 : U32 sq := ⟨by omega, by omega⟩
  refine ⟨sv, wv, ⟨hs, ix, script, sq, wit⟩, ?_, ⟨hs1, hs2, u1, u2⟩, hsv, hwv⟩
  have f0 : cs = cs.take 33 ++ cs.drop 33 := (List.take_append_drop 33 cs).symm
  rw [List.drop_zero] at e4 e5
  have f1 : cs.take 33 = (cs.take 33).take 32 ++ (cs.take 33).drop 32 := (List.take_append_drop 32 _).symm
  have f2 : ((cs.take 33).drop 32).take 1 = (cs.take 33).drop 32 := List.take_of_length_le (by simp; omega)
  have f3 : cs.drop 36 = [] := List.drop_eq_nil_of_le (by omega)
  rw [f2] at e5
  rw [List.drop_zero] at e4
  rw [f0, f1, e4, e5, split1 cs 33, split1 cs 34, split1 cs 35, e1, e2, e3, f3]
  simp [inCells]
theorem Trd.txout {n : Nat} {cs : List Value} {x : DataW H × List MemPlace} (h : Trd enc W ps n 102 cs x) (hfz : W.noneFrozen ps) : ∃ sv d, cs = outCells d sv ∧ RB AnyB W sv d.script ∧ I64 d.value := by
  obtain ⟨m, hl, hf⟩ := h.fields Tryz.underlying102
  rw [cells_out] at hl
  obtain ⟨y0, h0⟩ : ∃ y, Trd enc W ps m 2 ((cs.drop 0).take (Tryz.prog.cellsOf 2)) y := hf 0 _ rfl
  obtain ⟨y1, h1⟩ : ∃ y, Trd enc W ps m 32 ((cs.drop 1).take (Tryz.prog.cellsOf 32)) y := hf 1 _ rfl
  rw [cells_i64] at h0; rw [cells_sl] at h1
  obtain ⟨z, e0, hz⟩ := h0.int Tryz.underlying2
  obtain ⟨sv, script, e1, hsv⟩ := h1.bytes hfz
  have b1 := bounds_i64 hz
  have u1 : I64 z := ⟨by omega, by omega⟩
  refine ⟨sv, ⟨z, script⟩, ?_, hsv, u1⟩
  have f0 : cs = cs.drop 0 := (List.drop_zero).symm
  have f3 : cs.drop 2 = [] := List.drop_eq_nil_of_le (by omega)
  rw [f0, split1 cs 0, split1 cs 1, e0, e1, f3]
  simp [outCells]
theorem Trd.ins {n : Nat} {cs : List Value} {x : DataW H × List MemPlace} (h : Trd enc W ps n 43 cs x) (hfz : W.noneFrozen ps) : ∃ v l, cs = [v] ∧ RInsX AnyB AnyB AnyB W v l := by
  rcases h.items Tryz.underlying43 with h0 | ⟨a, len, cap, m, hcs, hl, hm, hb, hp, hi⟩
  · exact ⟨_, [], h0, [], [], rdn W 36, rfl, fun i p d hp hd => (by simp at hp), by simp, fun g _ => trivial⟩
  · rw [cells_in] at hp hi
    rw [bytes_in] at hb
    obtain ⟨Z, hZ⟩ := pick_lt (α := Value × Value) (p := fun i z => ∃ d : InD, W.cells? 0 (a.add (i * 36)) 36 = some (inCells d z.1 z.2) ∧ RIn AnyB AnyB W z.1 z.2 d) (fun i hi' => by
      obtain ⟨cs', y, h1, h2⟩ := hi i hi'
      obtain ⟨sv, wv, d, rfl, h4⟩ := h2.txin hfz
      exact ⟨(sv, wv), d, h1, h4⟩)
    obtain ⟨D, hD⟩ := pick_lt (α := InD) (p := fun i d => W.cells? 0 (a.add (i * 36)) 36 = some (inCells d (Z i).1 (Z i).2) ∧ RIn AnyB AnyB W (Z i).1 (Z i).2 d) (fun i hi' => hZ i hi')
    have hlm : ((List.range len).map D).length = len := by simp
    have hrd := rd_gen (W := W) (ps := ps) (by omega) (fun i => inCells (D i) (Z i).1 (Z i).2) hl hm (fun i hi' => (hD i hi').1) hfz hp
    obtain ⟨-, hat⟩ := flat_at (fun i => inCells (D i) (Z i).1 (Z i).2) 36 len (fun i hi' => inCells_length _ _ _ (hD i (by omega)).2.ok.hashLen)
    refine ⟨_, (List.range len).map D, hcs, _, (List.range len).map Z, by rw [hlm]; exact hrd, by simp, fun i p d hu hl' => ?_, by rw [hlm]; unfold reachBytes at hb; omega, fun g _ => trivial⟩
    have hil : i < len := by have := (List.getElem?_eq_some_iff.1 hu).1; simpa using this
    rw [List.getElem?_map, List.getElem?_range hil] at hu hl'
    simp only [Option.map_some, Option.some.injEq] at hu hl'
    rw [← hu, ← hl']
    exact ⟨(hD i (by omega)).2, hat i hil⟩
theorem Trd.outs {n : Nat} {cs : List Value} {x : DataW H × List MemPlace} (h : Trd enc W ps n 44 cs x) (hfz : W.noneFrozen ps) : ∃ v l, cs = [v] ∧ ROutsX AnyB AnyB W v l := by
  rcases h.items Tryz.underlying44 with h0 | ⟨a, len, cap, m, hcs, hl, hm, hb, hp, hi⟩
  · exact ⟨_, [], h0, [], [], rdn W 2, rfl, fun i p d hp hd => (by simp at hp), by simp, fun g _ => trivial⟩
  · rw [cells_out] at hp hi
    rw [bytes_out] at hb
    obtain ⟨Z, hZ⟩ := pick_lt (α := Value) (p := fun i z => ∃ d : OutD, W.cells? 0 (a.add (i * 2)) 2 = some (outCells d z) ∧ RB AnyB W z d.script ∧ I64 d.value) (fun i hi' => by
      obtain ⟨cs', y, h1, h2⟩ := hi i hi'
      obtain ⟨sv, d, rfl, h4⟩ := h2.txout hfz
      exact ⟨sv, d, h1, h4⟩)
    obtain ⟨D, hD⟩ := pick_lt (α := OutD) (p := fun i d => W.cells? 0 (a.add (i * 2)) 2 = some (outCells d (Z i)) ∧ RB AnyB W (Z i) d.script ∧ I64 d.value) (fun i hi' => hZ i hi')
    have hlm : ((List.range len).map D).length = len := by simp
    have hrd := rd_gen (W := W) (ps := ps) (by omega) (fun i => outCells (D i) (Z i)) hl hm (fun i hi' => (hD i hi').1) hfz hp
    obtain ⟨-, hat⟩ := flat_at (fun i => outCells (D i) (Z i)) 2 len (fun i hi' => rfl)
    refine ⟨_, (List.range len).map D, hcs, _, (List.range len).map Z, by rw [hlm]; exact hrd, by simp, fun i p d hu hl' => ?_, by rw [hlm]; unfold reachBytes at hb; omega, fun g _ => trivial⟩
    have hil : i < len := by have := (List.getElem?_eq_some_iff.1 hu).1; simpa using this
    rw [List.getElem?_map, List.getElem?_range hil] at hu hl'
    simp only [Option.map_some, Option.some.injEq] at hu hl'
    rw [← hu, ← hl']
    exact ⟨(hD i (by omega)).2.1, (hD i (by omega)).2.2, hat i hil⟩
theorem Trd.tx {n : Nat} {cs : List Value} {x : DataW H × List MemPlace} (h : Trd enc W ps n 46 cs x) (hfz : W.noneFrozen ps) : ∃ d iv ov, cs = [.int .i32 d.ver, iv, ov, .int .u32 d.lock] ∧ RTx AnyB AnyB AnyB W iv ov d := by
  obtain ⟨m, hl, hf⟩ := h.fields Tryz.underlying46
  rw [cells_tx] at hl
  obtain ⟨y0, h0⟩ : ∃ y, Trd enc W ps m 21 ((cs.drop 0).take (Tryz.prog.cellsOf 21)) y := hf 0 _ rfl
  obtain ⟨y1, h1⟩ : ∃ y, Trd enc W ps m 43 ((cs.drop 1).take (Tryz.prog.cellsOf 43)) y := hf 1 _ rfl
  obtain ⟨y2, h2⟩ : ∃ y, Trd enc W ps m 44 ((cs.drop 2).take (Tryz.prog.cellsOf 44)) y := hf 2 _ rfl
  obtain ⟨y3, h3⟩ : ∃ y, Trd enc W ps m 24 ((cs.drop 3).take (Tryz.prog.cellsOf 24)) y := hf 3 _ rfl
  rw [cells_i32] at h0; rw [cells_ins] at h1; rw [cells_outs] at h2; rw [cells_u32] at h3
  obtain ⟨ver, e0, hv⟩ := h0.int Tryz.underlying21
  obtain ⟨iv, li, e1, hiv⟩ := h1.ins hfz
  obtain ⟨ov, lo, e2, hov⟩ := h2.outs hfz
  obtain ⟨lk, e3, hk⟩ := h3.int Tryz.underlying24
  have b1 := bounds_i32 hv
  have b2 := bounds_u32 hk
  have u1 : I32 ver := ⟨by omega, by omega⟩
  have u2 : U32 lk := ⟨by omega, by omega⟩
  refine ⟨⟨ver, li, lo, lk⟩, iv, ov, ?_, u1, u2, hiv, hov⟩
  have f0 : cs = cs.drop 0 := (List.drop_zero).symm
  have f4 : cs.drop 4 = [] := List.drop_eq_nil_of_le (by omega)
  rw [f0, split1 cs 0, split1 cs 1, split1 cs 2, split1 cs 3, e0, e1, e2, e3, f4]
  rfl
end
end Go.Proofs.YtcodpdpeklammaaGreatDoor
namespace Go.Proofs.YtcodpdpeklammaaGreatDoor
set_option linter.unusedVariables false
set_option linter.unusedSimpArgs false
open Go Go.RowKit Go.ChangeShapes Go.WideShapes Go.ChangeAt Go.Deep

instance : Inhabited TxD := ⟨⟨0, [], [], 0⟩⟩
theorem bytes_tx : Tryz.prog.bytesOf 46 = 64 := by kernel_rfl
theorem cells_head : Tryz.prog.cellsOf 26 = 68 := by kernel_rfl
theorem cells_txs : Tryz.prog.cellsOf 27 = 1 := by kernel_rfl
theorem cells_blk : Tryz.prog.cellsOf 29 = 69 := by kernel_rfl
section
variable {H : Type} {enc : TypeId × Value → H} {W : World} {ps : List MemPlace}
theorem Trd.txs {n : Nat} {cs : List Value} {x : DataW H × List MemPlace} (h : Trd enc W ps n 27 cs x) (hfz : W.noneFrozen ps) : ∃ v l, cs = [v] ∧ RTxs AnyB AnyB AnyB W v l := by
  rcases h.items Tryz.underlying27 with h0 | ⟨a, len, cap, m, hcs, hl, hm, hb, hp, hi⟩
  · exact ⟨_, [], h0, [], [], rdn W 4, rfl, fun i p d hp hd => (by simp at hp), by simp⟩
  · rw [cells_tx] at hp hi
    rw [bytes_tx] at hb
    obtain ⟨Z, hZ⟩ := pick_lt (α := Value × Value) (p := fun i z => ∃ d : TxD, W.cells? 0 (a.add (i * 4)) 4 = some (txCells d z.1 z.2) ∧ RTx AnyB AnyB AnyB W z.1 z.2 d) (fun i hi' => by
      obtain ⟨cs', y, h1, h2⟩ := hi i hi'
      obtain ⟨d, iv, ov, rfl, h4⟩ := h2.tx hfz
      exact ⟨(iv, ov), d, h1, h4⟩)
    obtain ⟨D, hD⟩ := pick_lt (α := TxD) (p := fun i d => W.cells? 0 (a.add (i * 4)) 4 = some (txCells d (Z i).1 (Z i).2) ∧ RTx AnyB AnyB AnyB W (Z i).1 (Z i).2 d) (fun i hi' => hZ i hi')
    have hlm : ((List.range len).map D).length = len := by simp
    have hrd := rd_gen (W := W) (ps := ps) (by omega) (fun i => txCells (D i) (Z i).1 (Z i).2) hl hm (fun i hi' => (hD i hi').1) hfz hp
    obtain ⟨-, hat⟩ := flat_at (fun i => txCells (D i) (Z i).1 (Z i).2) 4 len (fun i hi' => rfl)
    refine ⟨_, (List.range len).map D, hcs, _, (List.range len).map Z, by rw [hlm]; exact hrd, by simp, fun i p d hu hl' => ?_, by rw [hlm]; unfold reachBytes at hb; omega⟩
    have hil : i < len := by have := (List.getElem?_eq_some_iff.1 hu).1; simpa using this
    rw [List.getElem?_map, List.getElem?_range hil] at hu hl'
    simp only [Option.map_some, Option.some.injEq] at hu hl'
    rw [← hu, ← hl']
    exact ⟨(hD i (by omega)).2, hat i hil⟩
theorem Trd.head {n : Nat} {cs : List Value} {x : DataW H × List MemPlace} (h : Trd enc W ps n 26 cs x) : ∃ ver prev merkle t b k, cs = headCells ver prev merkle t b k ∧ HeadOk ver prev merkle t b k := by
  obtain ⟨m, hl, hf⟩ := h.fields Tryz.underlying26
  rw [cells_head] at hl
  obtain ⟨y0, h0⟩ : ∃ y, Trd enc W ps m 21 ((cs.drop 0).take (Tryz.prog.cellsOf 21)) y := hf 0 _ rfl
  obtain ⟨y1, h1⟩ : ∃ y, Trd enc W ps m 23 ((cs.drop 1).take (Tryz.prog.cellsOf 23)) y := hf 1 _ rfl
  obtain ⟨y2, h2⟩ : ∃ y, Trd enc W ps m 23 ((cs.drop 33).take (Tryz.prog.cellsOf 23)) y := hf 2 _ rfl
  obtain ⟨y3, h3⟩ : ∃ y, Trd enc W ps m 24 ((cs.drop 65).take (Tryz.prog.cellsOf 24)) y := hf 3 _ rfl
  obtain ⟨y4, h4⟩ : ∃ y, Trd enc W ps m 24 ((cs.drop 66).take (Tryz.prog.cellsOf 24)) y := hf 4 _ rfl
  obtain ⟨y5, h5⟩ : ∃ y, Trd enc W ps m 24 ((cs.drop 67).take (Tryz.prog.cellsOf 24)) y := hf 5 _ rfl
  rw [cells_i32] at h0; rw [cells_hash] at h1 h2; rw [cells_u32] at h3 h4 h5
  obtain ⟨ver, e0, hv⟩ := h0.int Tryz.underlying21
  obtain ⟨prev, e1, hp1, hp2⟩ := h1.hash
  obtain ⟨mk, e2, hm1, hm2⟩ := h2.hash
  obtain ⟨t, e3, ht⟩ := h3.int Tryz.underlying24
  obtain ⟨b, e4, hb⟩ := h4.int Tryz.underlying24
  obtain ⟨k, e5, hk⟩ := h5.int Tryz.underlying24
  have b0 := bounds_i32 hv
  have b3 := bounds_u32 ht
  have b4 := bounds_u32 hb
  have b5 := bounds_u32 hk
  refine ⟨ver, prev, mk, t, b, k, ?_, ⟨⟨by omega, by omega⟩, hp1, hp2, hm1, hm2, ⟨by omega, by omega⟩, ⟨by omega, by omega⟩, ⟨by omega, by omega⟩⟩⟩
  have f0 : cs = cs.drop 0 := (List.drop_zero).symm
  have f1 : cs.drop 1 = (cs.drop 1).take 32 ++ cs.drop 33 := by have := (List.take_append_drop 32 (cs.drop 1)).symm; rwa [List.drop_drop] at this
  have f2 : cs.drop 33 = (cs.drop 33).take 32 ++ cs.drop 65 := by have := (List.take_append_drop 32 (cs.drop 33)).symm; rwa [List.drop_drop] at this
  have f9 : cs.drop 68 = [] := List.drop_eq_nil_of_le (by omega)
  rw [f0, split1 cs 0, f1, f2, split1 cs 65, split1 cs 66, split1 cs 67, e0, e1, e2, e3, e4, e5, f9]
  simp [headCells]
theorem Trd.block {n : Nat} {cs : List Value} {x : DataW H × List MemPlace} (h : Trd enc W ps n 29 cs x) (hfz : W.noneFrozen ps) :
    ∃ ver prev merkle t b k tv l, cs = headCells ver prev merkle t b k ++ [tv] ∧ HeadOk ver prev merkle t b k ∧ RTxs AnyB AnyB AnyB W tv l := by
  obtain ⟨m, hl, hf⟩ := h.fields Tryz.underlying29
  rw [cells_blk] at hl
  obtain ⟨y0, h0⟩ : ∃ y, Trd enc W ps m 26 ((cs.drop 0).take (Tryz.prog.cellsOf 26)) y := hf 0 _ rfl
  obtain ⟨y1, h1⟩ : ∃ y, Trd enc W ps m 27 ((cs.drop 68).take (Tryz.prog.cellsOf 27)) y := hf 1 _ rfl
  rw [cells_head] at h0; rw [cells_txs] at h1
  obtain ⟨ver, prev, mk, t, b, k, e0, hok⟩ := h0.head
  obtain ⟨tv, l, e1, hr⟩ := h1.txs hfz
  refine ⟨ver, prev, mk, t, b, k, tv, l, ?_, hok, hr⟩
  rw [List.drop_zero] at e0
  have f0 : cs = cs.take 68 ++ cs.drop 68 := (List.take_append_drop 68 cs).symm
  have f2 : (cs.drop 68).take 1 = cs.drop 68 := List.take_of_length_le (by simp; omega)
  rw [f2] at e1
  rw [f0, e0, e1]
end
end Go.Proofs.YtcodpdpeklammaaGreatDoor
