/- From what a row says of an argument to what the walks ask: a slice of bytes, a slice of ints. | From what a row says of an argument to what the walks ask: an array of bytes; a slice of bytes cut short. No condition. | Both AddKey. No condition. | The reference's AddKey. No condition. | The program's AddPublic. No condition. | The reference's AddPublic. No condition. | strongboxlaw05.CurvePublics: the walk. No condition. | strongboxlaw05.CurveAdds: the walk. No condition. | strongboxlaw05.CurveAgrees: the walk. No condition. -/
import Derived.Test.YtajipagpdphejaaGA3
import Derived.Test.YtajipagpdphejaaRows
import Derived.ProofKit
import Derived.OpenShut
import Derived.Test.YtajipagpdphejaaGE1
import Derived.WideKeyArr2
import Derived.ChangeMaps5
import Derived.Test.YtajipagpdphejaaGB7
namespace Go.Proofs.Ytajipagpdphejaa
set_option linter.unusedVariables false
set_option linter.unusedSimpArgs false
open Go Go.RowKit Go.ChangeShapes Go.WideShapes Go.ChangeAt

theorem own : ownKnob Try.prog.godebug = none := by kernel_rfl
theorem laidOut : laidOutB Try.prog = true := by kernel_rfl
theorem cellsU8 : Try.prog.cellsOf 5 = 1 := by kernel_rfl
theorem rd_arg {k : IntKind} {W : World} {a : Addr} {len cap : Nat} {zs : List Int} {p : List MemPlace} (hl : len ≤ cap) (hm : cap ≤ maxLen) (hz : zs.length = cap) (hcell : ∀ i, i < zs.length → W.cell? (a.add i) = some (.int k (zs.getD i 0)))
    (hfz : W.noneFrozen p) (hp : ∀ x ∈ MemPlace.row a zs.length, x ∈ p) : Rd W 1 (.slice (some a) len cap) len ((zs.take len).map (Value.int k)) := by
  refine ⟨by simp; omega, some a, cap, rfl, hl, hm, fun e => (by cases e), fun ad e hn => ?_⟩
  cases e
  obtain ⟨b, off, spot⟩ := a
  have hspot : spot = none := by simpa [Addr.add] using World.cell?_spot (hcell 0 (by omega))
  subst hspot
  have hadd : ∀ i, (⟨b, off, none⟩ : Addr).add i = ⟨b, off + i, none⟩ := fun i => by unfold Addr.add; split <;> simp_all
  have hb : b < W.heap.size := by
    have := hcell 0 (by omega)
    rw [hadd] at this
    exact World.block_lt_of_cell? W _ this
  refine ⟨b, off, rfl, hb, fun j v hv => ?_⟩
  have hj : j < len := by
    have := (List.getElem?_eq_some_iff.1 hv).1
    simp at this; omega
  have hc := hcell j (by omega)
  rw [hadd] at hc
  refine ⟨?_, hfz b (off + j) (hp _ (MemPlace.mem_row.2 ⟨j, by omega, rfl⟩))⟩
  rw [hc]
  have hj2 : j < zs.length := by omega
  simp [hj, hj2] at hv
  rw [← hv]
  simp [List.getD, hj2]
theorem rd_nil (W : World) (k : IntKind) : Rd W 1 (.slice none 0 0) 0 (([] : List Int).map (Value.int k)) :=
  ⟨by simp, none, 0, rfl, Nat.le_refl _, Nat.zero_le _, fun _ => ⟨rfl, rfl⟩, fun ad e _ => (by cases e)⟩
set_option maxRecDepth 100000 in
/-- a slice of bytes that came in -/
theorem bytes_arg {H : Type} {enc : TypeId × Value → H} {W : World} {base : Nat} {v : Value} {d : DataW H} {p ps : List MemPlace} (hv : Value.okWide Try.prog W .any base 23 v) (h : DataW.Trod enc Try.prog W 0 (fun _ => true) true 23 v d p)
    (hfz : W.noneFrozen ps) (hp : ∀ x ∈ p, x ∈ ps) : ∃ a len cap, ∃ zs : List Int, v = .slice a len cap ∧ Rd W 1 v len (zs.map (Value.int .u8)) ∧ ∀ x ∈ zs, 0 ≤ x ∧ x < 256 := by
  obtain ⟨a0, len, cap, rfl⟩ := okWide_slice Try.underlying23 hv
  obtain ⟨fuel, hf⟩ := h
  rcases open_ints Try.underlying23 Try.underlying5 cellsU8 hf with ⟨hcs, hx⟩ | ⟨a, len', cap', zs, hcs, _, hl, hm, hz, hx, hcell, hwz⟩
  · simp [Value.cells] at hcs
    obtain ⟨rfl, rfl, rfl⟩ := hcs
    exact ⟨none, 0, 0, [], rfl, rd_nil W .u8, fun x hx => by simp at hx⟩
  · simp [Value.cells] at hcs
    obtain ⟨rfl, rfl, rfl⟩ := hcs
    simp only [Prod.mk.injEq] at hx
    obtain ⟨_, rfl⟩ := hx
    simp only [if_true] at hz
    refine ⟨some a, len, cap, zs.take len, rfl, rd_arg hl hm hz hcell hfz hp, fun x hx => ?_⟩
    have := bounds_u8 (hwz x (List.mem_of_mem_take hx))
    omega
end Go.Proofs.Ytajipagpdphejaa
namespace Go.Proofs.Ytajipagpdphejaa
set_option linter.unusedVariables false
set_option linter.unusedSimpArgs false
open Go Go.RowKit Go.ChangeShapes Go.WideShapes Go.ChangeAt Go.WideMaps Go.ChangeMaps

theorem someTypes : ∃ m, Try.prog.types.size = m + 1 := ⟨Try.prog.types.size - 1, by have : 0 < Try.prog.types.size := of_decide_eq_true (by kernel_rfl); omega⟩
theorem mapM_some {α β : Type} (f : α → Option β) : ∀ (L : List α) (xs : List β), L.mapM f = some xs → ∀ i ∈ L, ∃ y, f i = some y
  | [], _, _, i, hi => by simp at hi
  | a :: L, xs, h, i, hi => by
    rw [List.mapM_cons] at h
    simp only [bind, Option.bind_eq_some_iff, pure, Option.some.injEq] at h
    obtain ⟨y, hy, ys, hys, rfl⟩ := h
    rcases List.mem_cons.1 hi with rfl | hi
    · exact ⟨y, hy⟩
    · exact mapM_some f L ys hys i hi
set_option maxRecDepth 100000 in
/-- an array of bytes that came in -/
theorem arr_arg {t : TypeId} {k : Nat} (hA : ArrKey Try.prog t 5 k) {H : Type} {enc : TypeId × Value → H} {W : World} {base : Nat} {v : Value} {d : DataW H} {p : List MemPlace} (hv : Value.okWide Try.prog W .any base t v) (h : DataW.Trod enc Try.prog W 0 (fun _ => true) true t v d p) :
    ∃ zs : List Int, v = .agg (zs.map (Value.int .u8)).toArray ∧ zs.length = k ∧ Bytes zs ∧ p = [] := by
  obtain ⟨xs, rfl, hn⟩ := okWide_arr hA hv
  obtain ⟨_, _, hp, _⟩ := open_arr hA Try.underlying5 someTypes hn h
  obtain ⟨fuel, hf⟩ := h
  cases fuel with
  | zero => simp [DataW.trod] at hf
  | succ m =>
    rw [DataW.trod_step] at hf
    unfold DataW.trodStep at hf
    simp only [hA.hu, Value.cells] at hf
    rw [if_pos (by rw [hA.size]; simpa using hn)] at hf
    simp only [Option.map_eq_some_iff] at hf
    obtain ⟨ys, hy, _⟩ := hf
    have hall : ∀ i, i < k → ∃ a, xs.toList[i]? = some (Value.int .u8 a) ∧ 0 ≤ a ∧ a < 256 := fun i hi => by
      obtain ⟨y, hy2⟩ := mapM_some _ _ _ hy i (List.mem_range.2 hi)
      obtain ⟨a, ea, _, wa⟩ := DataW.trod_int Try.underlying5 hy2
      rw [hA.one, Nat.mul_one] at ea
      have h0 : ((xs.toList.drop i).take 1)[0]? = some (Value.int .u8 a) := by rw [ea]; rfl
      rw [List.getElem?_take] at h0
      simp at h0
      have hb := bounds_u8 wa
      exact ⟨a, by simpa using h0, by omega, by omega⟩
    refine ⟨xs.toList.map fun v => match v with | .int _ x => x | _ => 0, ?_, by simpa using hn, ?_, hp⟩
    · congr 1
      apply Array.ext'
      apply List.ext_getElem?
      intro i
      by_cases hi : i < k
      · obtain ⟨a, ha, _⟩ := hall i hi
        rw [ha]
        simp only [List.map_map, List.getElem?_map, ha, Option.map_some, Function.comp]
      · rw [List.getElem?_eq_none (by simp; omega), List.getElem?_eq_none (by simp; omega)]
    · intro x hx
      obtain ⟨v, hv2, rfl⟩ := List.mem_map.1 hx
      obtain ⟨i, hi, e⟩ := List.getElem_of_mem hv2
      obtain ⟨a, ha, h1, h2⟩ := hall i (by simpa [hn] using hi)
      have : xs.toList[i]? = some v := by rw [List.getElem?_eq_getElem hi, e]
      rw [this] at ha
      cases ha
      exact ⟨h1, h2⟩
theorem spare_rd {W : World} {q N : Nat} {zs : List Int} (hr : Row W q 0 ((spareL zs N).map (Value.int .u8))) (hl : q < W.heap.size) (hz : N = zs.length) (hN : N ≤ 100) : Rd W 1 (.slice (some ⟨q, 0, none⟩) N (N + 9)) N (zs.map (Value.int .u8)) :=
  Rd.of_row (by
    have := hr.take N
    rw [← List.map_take, spareL, List.take_append_of_le_length (by omega), List.take_of_length_le (by omega)] at this
    exact this) (by simp; omega) hl (by omega) (by unfold maxLen; omega)
theorem rd_cut {W : World} {a : Option Addr} {n cap : Nat} {l : List Int} (h : Rd W 1 (.slice a n cap) n (l.map (Value.int .u8))) (m : Nat) (hm : m ≤ n) : Rd W 1 (.slice a m cap) m ((l.take m).map (Value.int .u8)) := by
  have hl : l.length = n := by have := h.1; simpa using this
  obtain ⟨_, a', cap', e, h2, h3, h4, h5⟩ := h
  cases e
  refine ⟨by simp; omega, a, cap, rfl, by omega, h3, fun e => by have := h4 e; omega, fun ad e hn => ?_⟩
  obtain ⟨g, off, e2, hg, hr⟩ := h5 ad e (by omega)
  exact ⟨g, off, e2, hg, by rw [List.map_take]; exact hr.take m⟩
/-- a slice of bytes, cut where it is longer than m -/
theorem rd_cases {W : World} {a : Option Addr} {n0 cap : Nat} {l0 : List Int} (h : Rd W 1 (.slice a n0 cap) n0 (l0.map (Value.int .u8))) (hb : Bytes l0) (m : Nat) : ∃ (l : List Int) (N : Nat), N = l.length ∧ Rd W 1 (.slice a N cap) N (l.map (Value.int .u8)) ∧ Bytes l ∧ N ≤ m ∧ ((m < n0 ∧ N = m) ∨ (¬ m < n0 ∧ n0 = N)) := by
  have hl0 : l0.length = n0 := by have := h.1; simpa using this
  by_cases hl : m < n0
  · exact ⟨l0.take m, m, by simp; omega, rd_cut h m (by omega), fun x hx => hb x (List.mem_of_mem_take hx), Nat.le_refl _, .inl ⟨hl, rfl⟩⟩
  · exact ⟨l0, n0, hl0.symm, h, hb, by omega, .inr ⟨hl, rfl⟩⟩
theorem rd_bounds {W : World} {a : Option Addr} {n cap : Nat} {xs : List Value} (h : Rd W 1 (.slice a n cap) n xs) : n ≤ maxLen ∧ n ≤ cap ∧ cap ≤ maxLen := by
  obtain ⟨_, a', c', e, h2, h3, _⟩ := h
  cases e
  exact ⟨by omega, h2, h3⟩
end Go.Proofs.Ytajipagpdphejaa
namespace Go.Proofs.Ytajipagpdphejaa
set_option linter.unusedVariables false
set_option linter.unusedSimpArgs false
open Go Go.RowKit Cv

def rz8 : Array Value := #[.int .u32 0, .int .u32 0, .int .u32 0, .int .u32 0, .int .u32 0, .int .u32 0, .int .u32 0, .int .u32 0]
theorem rz8_eq : ((words8 0).map (Value.int .u32)).toArray = rz8 := by simp [rz8, words8, List.range_succ]
def zeros12 : List Value := [.int .u64 0, .int .u64 0, .int .u64 0, .int .u64 0, .int .u64 0, .int .u64 0, .int .u64 0, .int .u64 0, .int .u64 0, .int .u64 0, .int .u64 0, .int .u64 0]
def zeros24 : List Value := [.int .u32 0, .int .u32 0, .int .u32 0, .int .u32 0, .int .u32 0, .int .u32 0, .int .u32 0, .int .u32 0, .int .u32 0, .int .u32 0, .int .u32 0, .int .u32 0, .int .u32 0, .int .u32 0, .int .u32 0, .int .u32 0, .int .u32 0, .int .u32 0, .int .u32 0, .int .u32 0, .int .u32 0, .int .u32 0, .int .u32 0, .int .u32 0]
theorem alloc_cpt {o : Oper} (hg : o.guard = none) (ho : o.op = .alloc 74) : AllocsAs Try.prog o zeros12 := ⟨hg, 74, fun a w => by
  unfold execOp
  simp only [ho]
  go_simp
  exact ⟨rfl, rfl⟩⟩
theorem alloc_rpt {o : Oper} (hg : o.guard = none) (ho : o.op = .alloc 39) : AllocsAs Try.prog o zeros24 := ⟨hg, 39, fun a w => by
  unfold execOp
  simp only [ho]
  go_simp
  exact ⟨rfl, rfl⟩⟩
theorem nv_toNat {t : Int} (h0 : 0 ≤ t) (h : t < NV) : t.toNat < 2 ^ 256 ∧ t.toNat < nVn ∧ ((t.toNat : Nat) : Int) = t := by
  have := nv_eq; have := n_lt
  exact ⟨by omega, by omega, by omega⟩
end Go.Proofs.Ytajipagpdphejaa
