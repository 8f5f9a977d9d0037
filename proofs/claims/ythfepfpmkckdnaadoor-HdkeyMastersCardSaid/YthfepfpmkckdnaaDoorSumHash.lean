/- hash.Sum's Hash: the digest of all that has come, that of SHA-256; the Sum stays as it was. -/
import Derived.Test.YthfepfpmkckdnaaDoorSumAdd
import Derived.Deep.RegionHeld3
namespace Go.Proofs.YthfepfpmkckdnaaDoor
set_option linter.unusedVariables false
set_option linter.unusedSimpArgs false
open Go Go.RowKit

theorem wp_store_row {P : Program} {w : World} {o : Oper} {a : Act} {K : Act → World → Prop} {Q : Exit → Act → World → Prop} (T : TypeId) (x y : Operand) (ho : o.op = .store T x y)
    (g off : Nat) (hx : a.eval x = .pointer (some ⟨g, off, none⟩)) (olds cs : List Value) (hy : a.eval y = .agg cs.toArray) (hg : Row w g off olds) (hl : cs.length = olds.length)
    (hi : (P.info? T).map (·.size) = some cs.length) (h1 : ∀ v ∈ cs, v.oneCell' = true)
    (h : ∀ w', Row w' g off cs → Chg (· = g) w w' → K (a.put o.dst undef) w') : o.wp P a w K Q := by
  unfold Oper.wp execOp
  simp only [ho, hx, hy, Instr.storeAt, Instr.sureAddr, Sem.run_bind, Sem.run_pure, Result.andThen_ok, run_storeVar_row w g off T olds cs hg hl hi h1]
  exact h _ (hg.whole hl) (setCells_chg _ _ _ _)

/-- the bytes of words, the greatest first -/
def outB (ws : List Int) : List Int := ws.flatMap fun x => [x / 16777216 % 256, x / 65536 % 256, x / 256 % 256, x % 256]
/-- SHA-256 -/
def sha256 (l : List Int) : List Int := outB (run256 iv256 (l ++ tail64 l.length) ((l ++ tail64 l.length).length / 64)).list
theorem sumAt_new {w : World} {b o : Nat} {wv wv' : Value} {l : List Int} (h : SumAt w b o wv l) (st : St) (bg : Bool) (hst : bg = true ∧ st = run256 iv256 l (l.length / 64) ∨ bg = false ∧ l = []) (hok : st.ok) {W : World} {b' : Nat}
    (hr : Row W b' 0 (st.list.map (Value.int .u32) ++ [wv', .int .u64 l.length, .bool bg])) (hb : Buf W 1 wv' (l.length % 64) ((l.drop (64 * (l.length / 64))).map (Value.int .u8))) (hne : wv'.ownBlock ≠ some b') : SumAt W b' 0 wv' l :=
  ⟨h.bytes, h.small, ⟨st, bg, hok, hst, hr⟩, hb, hne⟩
theorem tail64_bytes (n : Nat) : Bytes (tail64 n) := by
  intro x hx
  simp only [tail64, List.cons_append, List.mem_cons, List.mem_append, List.mem_replicate] at hx
  rcases hx with rfl | ⟨_, rfl⟩ | hx
  · exact ⟨by omega, by omega⟩
  · exact ⟨by omega, by omega⟩
  · exact be8_bytes _ x hx
theorem tail64_length (n : Nat) : (tail64 n).length = 9 + fill64 n := by simp [tail64, be8]; omega
theorem fill64_le (n : Nat) : fill64 n ≤ 63 := by unfold fill64; omega

/-- the eleven cells of a Sum -/
def SumCells (W : World) (b o : Nat) (s : St) (wv : Value) (n : Nat) (bg : Bool) : Prop :=
  W.cell? ⟨b, o, none⟩ = some (.int .u32 s.a) ∧ W.cell? ⟨b, o + 1, none⟩ = some (.int .u32 s.b) ∧ W.cell? ⟨b, o + 2, none⟩ = some (.int .u32 s.c) ∧ W.cell? ⟨b, o + 3, none⟩ = some (.int .u32 s.d) ∧
  W.cell? ⟨b, o + 4, none⟩ = some (.int .u32 s.e) ∧ W.cell? ⟨b, o + 5, none⟩ = some (.int .u32 s.f) ∧ W.cell? ⟨b, o + 6, none⟩ = some (.int .u32 s.g) ∧ W.cell? ⟨b, o + 7, none⟩ = some (.int .u32 s.h) ∧
  W.cell? ⟨b, o + 8, none⟩ = some wv ∧ W.cell? ⟨b, o + 9, none⟩ = some (.int .u64 n) ∧ W.cell? ⟨b, o + 10, none⟩ = some (.bool bg)
theorem sum_cells {W : World} {b o : Nat} {s : St} {wv : Value} {n : Nat} {bg : Bool} (h : Row W b o (s.list.map (Value.int .u32) ++ [wv, .int .u64 n, .bool bg])) : SumCells W b o s wv n bg :=
  ⟨(h 0 _ rfl).1, (h 1 _ rfl).1, (h 2 _ rfl).1, (h 3 _ rfl).1, (h 4 _ rfl).1, (h 5 _ rfl).1, (h 6 _ rfl).1, (h 7 _ rfl).1, (h 8 _ rfl).1, (h 9 _ rfl).1, (h 10 _ rfl).1⟩
def zeroSum : List Value := [.int .u32 0, .int .u32 0, .int .u32 0, .int .u32 0, .int .u32 0, .int .u32 0, .int .u32 0, .int .u32 0, .slice none 0 0, .int .u64 0, .bool false]
theorem fresh11 {W e : World} {p T : Nat} (h : Keeps (W.alloc (.cells #[.int .u32 0, .int .u32 0, .int .u32 0, .int .u32 0, .int .u32 0, .int .u32 0, .int .u32 0, .int .u32 0, .slice none 0 0, .int .u64 0, .bool false] T)).drew e) (hp : p = W.heap.size) : Row e p 0 zeroSum := by
  have r0 : Row (W.alloc (.cells #[.int .u32 0, .int .u32 0, .int .u32 0, .int .u32 0, .int .u32 0, .int .u32 0, .int .u32 0, .int .u32 0, .slice none 0 0, .int .u64 0, .bool false] T)) W.heap.size 0 zeroSum := Row.new zeroSum _ T (by simp [zeroSum])
  have r1 := r0.drew
  rw [hp]; exact r1.keeps h

theorem sumOne {s : St} {a : Option Addr} {n m : Nat} {k : Int} {bg : Bool} : ∀ v ∈ s.list.map (Value.int .u32) ++ [Value.slice a n m, .int .u64 k, .bool bg], v.oneCell' = true := by
  intro v hv
  simp only [St.list, List.map_cons, List.map_nil, List.cons_append, List.nil_append, List.mem_cons, List.not_mem_nil, or_false] at hv
  rcases hv with rfl | rfl | rfl | rfl | rfl | rfl | rfl | rfl | rfl | rfl | rfl <;> rfl
theorem keeps_drew {w W : World} (h : Keeps w W) : Keeps w W.drew := h.trans ((Qt.drewN W 1).below _)
theorem keeps_alloc {w W : World} (h : Keeps w W) (o : Obj) : Keeps w (W.alloc o) := Below.alloc h h.size o
theorem keeps_chg {w W W' : World} {p : Nat} (h : Keeps w W) (c : Chg (· = p) W W') (hp : w.heap.size ≤ p) : Keeps w W' := Below.trans h (Chg.below c h.size (fun k hk e => by omega))
theorem held_of {w W : World} {b o : Nat} {s : St} {wv : Value} {n : Nat} {bg : Bool} (h : Row w b o (s.list.map (Value.int .u32) ++ [wv, .int .u64 n, .bool bg])) (k : Keeps w W) :
    W.cell? ⟨b, o, none⟩ = some (.int .u32 s.a) ∧ W.cell? ⟨b, o + 1, none⟩ = some (.int .u32 s.b) ∧ W.cell? ⟨b, o + 2, none⟩ = some (.int .u32 s.c) ∧ W.cell? ⟨b, o + 3, none⟩ = some (.int .u32 s.d) ∧
    W.cell? ⟨b, o + 4, none⟩ = some (.int .u32 s.e) ∧ W.cell? ⟨b, o + 5, none⟩ = some (.int .u32 s.f) ∧ W.cell? ⟨b, o + 6, none⟩ = some (.int .u32 s.g) ∧ W.cell? ⟨b, o + 7, none⟩ = some (.int .u32 s.h) ∧
    W.cell? ⟨b, o + 8, none⟩ = some wv ∧ W.cell? ⟨b, o + 9, none⟩ = some (.int .u64 n) ∧ W.cell? ⟨b, o + 10, none⟩ = some (.bool bg) ∧ Keeps w W :=
  have r := h.keeps k
  ⟨(r 0 _ rfl).1, (r 1 _ rfl).1, (r 2 _ rfl).1, (r 3 _ rfl).1, (r 4 _ rfl).1, (r 5 _ rfl).1, (r 6 _ rfl).1, (r 7 _ rfl).1, (r 8 _ rfl).1, (r 9 _ rfl).1, (r 10 _ rfl).1, k⟩

theorem SumAt.chg {S : Nat → Prop} {w w' : World} {b o : Nat} {wv : Value} {l : List Int} (h : SumAt w b o wv l) (hc : Chg S w w') (hb : ¬ S b) (hs : ∀ g, wv.ownBlock = some g → ¬ S g) : SumAt w' b o wv l := by
  obtain ⟨h1, h2, ⟨st, bg, h3, h4, h5⟩, h6, h7⟩ := h
  exact ⟨h1, h2, ⟨st, bg, h3, h4, h5.chg hc hb⟩, h6.chg hc hs, h7⟩
theorem SumAt.keeps {w w' : World} {b o : Nat} {wv : Value} {l : List Int} (h : SumAt w b o wv l) (hc : Keeps w w') : SumAt w' b o wv l :=
  h.chg (hc.chg (fun _ => False)) (fun h => h) (fun _ _ h => h)
/-- the copy of the Sum stands in a block of its own -/
structure HashMid (w W : World) (p : Nat) (v : Value) (l : List Int) : Prop where
  keeps : Keeps w W
  new : w.heap.size < p
  sum : SumAt W p 0 v l
  out : Row W w.heap.size 0 (List.replicate 32 (Value.int .u8 0))
  own : ∀ g, v.ownBlock = some g → w.heap.size < g

/-- the copy has taken the tail in -/
structure HashOut (w W : World) (p : Nat) (l : List Int) (s : St) : Prop where
  keeps : Keeps w W
  new : w.heap.size < p
  ok : s.ok
  val : outB s.list = sha256 l
  cells : Row W p 0 (s.list.map (Value.int .u32))
  out : Row W w.heap.size 0 (List.replicate 32 (Value.int .u8 0))
theorem HashMid.done {w W6 W7 W8 : World} {p : Nat} {v : Value} {l : List Int} (h : HashMid w W6 p v l) (hk : Keeps W6 W7) (ha : AddPost W7 W8 p 0 v (l ++ tail64 l.length)) : ∃ s, HashOut w W8 p l s := by
  obtain ⟨wv', ⟨_, _, ⟨s, bg, hok, hst, hrow⟩, _, _⟩, hc, _⟩ := ha
  have hst2 : s = run256 iv256 (l ++ tail64 l.length) ((l ++ tail64 l.length).length / 64) := by
    rcases hst with ⟨_, h⟩ | ⟨_, h⟩
    · exact h
    · have h2 := congrArg List.length h
      rw [List.length_append, tail64_length] at h2
      simp at h2
  have hw7 : Keeps w W7 := h.keeps.trans hk
  have hwp : ¬ (w.heap.size = p ∨ v.ownBlock = some w.heap.size) := by
    rintro (e | e)
    · have := h.new; omega
    · have := h.own _ e; omega
  refine ⟨s, ⟨Below.trans hw7 (hc.below hw7.size ?_), h.new, hok, by rw [hst2]; rfl, ?_, (h.out.keeps hk).chg hc hwp⟩⟩
  · rintro k hk2 (e | e)
    · have := h.new; omega
    · have := h.own _ e; omega
  · have := hrow.take 8
    simpa [St.list] using this

/-- the bytes that i rounds have written -/
def outK (s : St) (i : Nat) : List Int := outB (s.list.take i) ++ List.replicate (32 - 4 * i) 0
theorem outK_zero (s : St) : outK s 0 = List.replicate 32 0 := rfl
theorem outK_full (s : St) : outK s 8 = outB s.list := by simp [outK, St.list]
theorem outK_length (s : St) (i : Nat) (hi : i ≤ 8) : (outK s i).length = 32 := by
  rcases i with _ | _ | _ | _ | _ | _ | _ | _ | _ | i
  all_goals first | rfl | omega
theorem outK_step (s : St) (i : Nat) (hi : i < 8) : ((((outK s i).set (4 * i) (s.list.getD i 0 / 16777216 % 256)).set (4 * i + 1) (s.list.getD i 0 / 65536 % 256)).set (4 * i + 2) (s.list.getD i 0 / 256 % 256)).set (4 * i + 3) (s.list.getD i 0 % 256) = outK s (i + 1) := by
  rcases i with _ | _ | _ | _ | _ | _ | _ | _ | i
  all_goals first | rfl | omega

theorem list_ok {s : St} (h : s.ok) (i : Nat) : W32 (s.list.getD i 0) := by
  obtain ⟨h0, h1, h2, h3, h4, h5, h6, h7⟩ := h
  rcases i with _ | _ | _ | _ | _ | _ | _ | _ | i
  all_goals first | exact h0 | exact h1 | exact h2 | exact h3 | exact h4 | exact h5 | exact h6 | exact h7 | exact ⟨by simp [St.list], by simp [St.list]⟩

theorem rd_tail {W : World} {q n : Nat} (h : Row W q 0 ((tail64 n).map (Value.int .u8))) (hq : q < W.heap.size) : Rd W 1 (.slice (some ⟨q, 0, none⟩) (9 + fill64 n) (9 + fill64 n)) (9 + fill64 n) ((tail64 n).map (Value.int .u8)) :=
  ⟨by simp [tail64_length], _, _, rfl, Nat.le_refl _, by have := fill64_le n; unfold maxLen; omega, fun e => (by cases e), fun ad e _ => ⟨q, 0, (Option.some.inj e).symm, hq, h⟩⟩

end Go.Proofs.YthfepfpmkckdnaaDoor
