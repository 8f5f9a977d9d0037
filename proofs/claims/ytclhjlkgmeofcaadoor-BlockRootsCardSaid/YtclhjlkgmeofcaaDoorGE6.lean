/- A block, and a list of names, that came in: from what a row says of the arguments to what the walks ask. -/
import Derived.Test.YtclhjlkgmeofcaaDoorGE5
import Derived.Test.YtclhjlkgmeofcaaDoorGC0
import Derived.Test.YtclhjlkgmeofcaaDoorGD0
import Derived.Test.YtclhjlkgmeofcaaDoorGB2
import Derived.LaidMore
import Derived.Stop.Joined
import Derived.Lay
import Derived.Handy
namespace Go.Proofs.YtclhjlkgmeofcaaDoor
set_option linter.unusedVariables false
set_option linter.unusedSimpArgs false
open Go Go.RowKit Go.ChangeShapes Go.WideShapes Go.ChangeAt Go.Deep

theorem laid_met (os : Os) (args : Array Value) : laidMetH Tryd.prog Rows.blockRootsRow.laid ((World.laidAll Tryd.prog os Rows.blockRootsRow.laid).forCall (fun _ _ => 0) ⟨#[], args, []⟩).memory := by
  rw [MakeChecks.laidMetH_plain _ _ _ (by kernel_rfl)]; exact laidMet_laidAll _ (by kernel_rfl) (by kernel_rfl)
instance : Inhabited TxD := ⟨⟨0, [], [], 0⟩⟩
theorem bytes_hash : Tryd.prog.bytesOf 24 = 32 := by kernel_rfl
theorem bytes_tx : Tryd.prog.bytesOf 66 = 64 := by kernel_rfl
theorem cells_head : Tryd.prog.cellsOf 27 = 68 := by kernel_rfl
theorem cells_txs : Tryd.prog.cellsOf 28 = 1 := by kernel_rfl
theorem cells_blk : Tryd.prog.cellsOf 30 = 69 := by kernel_rfl
/-- a head's parts -/
structure HeadOk (ver : Int) (prev merkle : List Int) (t b n : Int) : Prop where
  ver : I32 ver
  prevLen : prev.length = 32
  prev : Bytes prev
  merkleLen : merkle.length = 32
  merkle : Bytes merkle
  time : U32 t
  bits : U32 b
  nonce : U32 n
theorem headCells_length {ver : Int} {prev merkle : List Int} {t b n : Int} (h : HeadOk ver prev merkle t b n) : (headCells ver prev merkle t b n).length = 68 := by simp [headCells, h.prevLen, h.merkleLen]
theorem headCells_one {ver : Int} {prev merkle : List Int} {t b n : Int} : ∀ v ∈ headCells ver prev merkle t b n, v.oneCell' = true := by
  intro v hv
  simp only [headCells, List.mem_cons, List.mem_append, List.mem_map, List.not_mem_nil, or_false] at hv
  rcases hv with rfl | ⟨x, _, rfl⟩ | ⟨x, _, rfl⟩ | rfl | rfl | rfl <;> rfl
section
variable {H : Type} {enc : TypeId × Value → H} {W : World} {ps : List MemPlace}
theorem Trd.hashes {n : Nat} {cs : List Value} {x : DataW H × List MemPlace} (h : Trd enc W ps n 22 cs x) (hfz : W.noneFrozen ps) : ∃ v l, cs = [v] ∧ RH W v l := by
  rcases h.items Tryd.underlying22 with h0 | ⟨a, len, cap, m, hcs, hl, hm, hb, hp, hi⟩
  · exact ⟨_, [], h0, rdn W 32, fun y hy => (by cases hy), by simp⟩
  · rw [cells_hash] at hp hi
    rw [bytes_hash] at hb
    obtain ⟨Z, hZ⟩ := pick_lt (α := List Int) (p := fun i z => W.cells? 0 (a.add (i * 32)) 32 = some (z.map (Value.int .u8)) ∧ z.length = 32 ∧ Bytes z) (fun i hi' => by
      obtain ⟨cs', y, h1, h2⟩ := hi i hi'
      obtain ⟨l, rfl, h4, h5⟩ := h2.hash
      exact ⟨l, h1, h4, h5⟩)
    have hlm : ((List.range len).map Z).length = len := by simp
    have hrd := rd_gen (W := W) (ps := ps) (by omega) (fun i => (Z i).map (Value.int .u8)) hl hm (fun i hi' => (hZ i hi').1) hfz hp
    refine ⟨_, (List.range len).map Z, hcs, ?_, fun y hy => ?_, by rw [hlm]; unfold reachBytes at hb; omega⟩
    · rw [hlm]
      have e : hCells ((List.range len).map Z) = (List.range len).flatMap fun i => (Z i).map (Value.int .u8) := by unfold hCells; rw [List.flatMap_map]
      rwa [e]
    · obtain ⟨i, hi', rfl⟩ := List.mem_map.1 hy
      exact (hZ i (by have := List.mem_range.1 hi'; omega)).2
theorem Trd.txs {n : Nat} {cs : List Value} {x : DataW H × List MemPlace} (h : Trd enc W ps n 28 cs x) (hfz : W.noneFrozen ps) : ∃ v l, cs = [v] ∧ RTxs AnyB AnyB AnyB W v l := by
  rcases h.items Tryd.underlying28 with h0 | ⟨a, len, cap, m, hcs, hl, hm, hb, hp, hi⟩
  · exact ⟨_, [], h0, [], [], rdn W 4, rfl, fun i p d hp hd => (by simp at hp), by simp⟩
  · rw [cells_tx] at hp hi
    rw [bytes_tx] at hb
    obtain ⟨Z, hZ⟩ := pick_lt (α := Value × Value) (p := fun i z => ∃ d : TxD, W.cells? 0 (a.add (i * 4)) 4 = some (txCells d z.1 z.2) ∧ RTx AnyB AnyB AnyB W z.1 z.2 d) (fun i hi' => by
      obtain ⟨cs', y, h1, h2⟩ := hi i hi'
      obtain ⟨d, iv, ov, rfl, h4⟩ := h2.tx hfz
      exact ⟨(iv, ov), d, h1, h4⟩)
    obtain ⟨D, hD⟩ := pick_lt (α := TxD) (p := fun i d => W.cells? 0 (a.add (i * 4)) 4 = some (txCells d (Z i).1 (Z i).2) ∧ RTx AnyB AnyB AnyB W (Z i).1 (Z i).2 d) (fun i hi' => hZ i hi')
    have hlm : ((List.range len).map D).length = len := by simp
    have hrd := rd_gen (W := W) (ps := ps) (by omega) (fun i => txCells (D i) (Z i).1 (Z i).2) hl hm (fun i hi' => (hD i hi').1) hfz hp
    obtain ⟨-, hat⟩ := flat_at (fun i => txCells (D i) (Z i).1 (Z i).2) 4 len (fun i hi' => rfl)
    refine ⟨_, (List.range len).map D, hcs, _, (List.range len).map Z, by rw [hlm]; exact hrd, by simp, fun i p d hu hl' => ?_, by rw [hlm]; unfold reachBytes at hb; omega⟩
    have hil : i < len := by have := (List.getElem?_eq_some_iff.1 hu).1; simpa using this
    rw [List.getElem?_map, List.getElem?_range hil] at hu hl'
    simp only [Option.map_some, Option.some.injEq] at hu hl'
    rw [← hu, ← hl']
    exact ⟨(hD i (by omega)).2, hat i hil⟩
theorem Trd.head {n : Nat} {cs : List Value} {x : DataW H × List MemPlace} (h : Trd enc W ps n 27 cs x) : ∃ ver prev merkle t b k, cs = headCells ver prev merkle t b k ∧ HeadOk ver prev merkle t b k := by
  obtain ⟨m, hl, hf⟩ := h.fields Tryd.underlying27
  rw [cells_head] at hl
  obtain ⟨y0, h0⟩ : ∃ y, Trd enc W ps m 21 ((cs.drop 0).take (Tryd.prog.cellsOf 21)) y := hf 0 _ rfl
  obtain ⟨y1, h1⟩ : ∃ y, Trd enc W ps m 24 ((cs.drop 1).take (Tryd.prog.cellsOf 24)) y := hf 1 _ rfl
  obtain ⟨y2, h2⟩ : ∃ y, Trd enc W ps m 24 ((cs.drop 33).take (Tryd.prog.cellsOf 24)) y := hf 2 _ rfl
  obtain ⟨y3, h3⟩ : ∃ y, Trd enc W ps m 25 ((cs.drop 65).take (Tryd.prog.cellsOf 25)) y := hf 3 _ rfl
  obtain ⟨y4, h4⟩ : ∃ y, Trd enc W ps m 25 ((cs.drop 66).take (Tryd.prog.cellsOf 25)) y := hf 4 _ rfl
  obtain ⟨y5, h5⟩ : ∃ y, Trd enc W ps m 25 ((cs.drop 67).take (Tryd.prog.cellsOf 25)) y := hf 5 _ rfl
  rw [cells_i32] at h0; rw [cells_hash] at h1 h2; rw [cells_u32] at h3 h4 h5
  obtain ⟨ver, e0, hv⟩ := h0.int Tryd.underlying21
  obtain ⟨prev, e1, hp1, hp2⟩ := h1.hash
  obtain ⟨mk, e2, hm1, hm2⟩ := h2.hash
  obtain ⟨t, e3, ht⟩ := h3.int Tryd.underlying25
  obtain ⟨b, e4, hb⟩ := h4.int Tryd.underlying25
  obtain ⟨k, e5, hk⟩ := h5.int Tryd.underlying25
  have b0 := bounds_i32 hv
  have b3 := bounds_u32 ht
  have b4 := bounds_u32 hb
  have b5 := bounds_u32 hk
  refine ⟨ver, prev, mk, t, b, k, ?_, ⟨⟨by omega, by omega⟩, hp1, hp2, hm1, hm2, ⟨by omega, by omega⟩, ⟨by omega, by omega⟩, ⟨by omega, by omega⟩⟩⟩
  have f0 : cs = cs.drop 0 := (List.drop_zero).symm
  have f1 : cs.drop 1 = (cs.drop 1).take 32 ++ cs.drop 33 := by have := (List.take_append_drop 32 (cs.drop 1)).symm; rwa [List.drop_drop] at this
  have f2 : cs.drop 33 = (cs.drop 33).take 32 ++ cs.drop 65 := by have := (List.take_append_drop 32 (cs.drop 33)).symm; rwa [List.drop_drop] at this
  have f9 : cs.drop 68 = [] := List.drop_eq_nil_of_le (by omega)
  rw [f0, split1 cs 0, f1, f2, split1 cs 65, split1 cs 66, split1 cs 67, e0, e1, e2, e3, e4, e5, f9]
  simp [headCells]
theorem Trd.block {n : Nat} {cs : List Value} {x : DataW H × List MemPlace} (h : Trd enc W ps n 30 cs x) (hfz : W.noneFrozen ps) :
    ∃ ver prev merkle t b k tv l, cs = headCells ver prev merkle t b k ++ [tv] ∧ HeadOk ver prev merkle t b k ∧ RTxs AnyB AnyB AnyB W tv l := by
  obtain ⟨m, hl, hf⟩ := h.fields Tryd.underlying30
  rw [cells_blk] at hl
  obtain ⟨y0, h0⟩ : ∃ y, Trd enc W ps m 27 ((cs.drop 0).take (Tryd.prog.cellsOf 27)) y := hf 0 _ rfl
  obtain ⟨y1, h1⟩ : ∃ y, Trd enc W ps m 28 ((cs.drop 68).take (Tryd.prog.cellsOf 28)) y := hf 1 _ rfl
  rw [cells_head] at h0; rw [cells_txs] at h1
  obtain ⟨ver, prev, mk, t, b, k, e0, hok⟩ := h0.head
  obtain ⟨tv, l, e1, hr⟩ := h1.txs hfz
  refine ⟨ver, prev, mk, t, b, k, tv, l, ?_, hok, hr⟩
  rw [List.drop_zero] at e0
  have f0 : cs = cs.take 68 ++ cs.drop 68 := (List.take_append_drop 68 cs).symm
  have f2 : (cs.drop 68).take 1 = cs.drop 68 := List.take_of_length_le (by simp; omega)
  rw [f2] at e1
  rw [f0, e0, e1]
end
end Go.Proofs.YtclhjlkgmeofcaaDoor
