/- hash.Sum's Hash: the digest of all that has come, that of SHA-256; the Sum stays as it was. -/
import Derived.Test.YtlofddoojkeakaaDoorGC9
import Derived.Deep.RegionHeld3
namespace Go.Proofs.YtlofddoojkeakaaDoor
set_option linter.unusedVariables false
set_option linter.unusedSimpArgs false
open Go Go.RowKit

theorem wp_store_row {P : Program} {w : World} {o : Oper} {a : Act} {K : Act → World → Prop} {Q : Exit → Act → World → Prop} (T : TypeId) (x y : Operand) (ho : o.op = .store T x y)
    (g off : Nat) (hx : a.eval x = .pointer (some ⟨g, off, none⟩)) (olds cs : List Value) (hy : a.eval y = .agg cs.toArray) (hg : Row w g off olds) (hl : cs.length = olds.length)
    (hi : (P.info? T).map (·.size) = some cs.length) (h1 : ∀ v ∈ cs, v.oneCell' = true)
    (h : ∀ w', Row w' g off cs → Chg (· = g) w w' → K (a.put o.dst undef) w') : o.wp P a w K Q := by
  unfold Oper.wp execOp
  simp only [ho, hx, hy, Instr.storeAt, Instr.sureAddr, Sem.run_bind, Sem.run_pure, Result.andThen_ok, run_storeVar_row w g off T olds cs hg hl hi h1]
  exact h _ (hg.whole hl) (setCells_chg _ _ _ _)

/-- the bytes of words, the greatest first -/
def outB (ws : List Int) : List Int := ws.flatMap fun x => [x / 16777216 % 256, x / 65536 % 256, x / 256 % 256, x % 256]
/-- SHA-256 -/
def sha256 (l : List Int) : List Int := outB (run256 iv256 (l ++ tail64 l.length) ((l ++ tail64 l.length).length / 64)).list
theorem sumAt_new {w : World} {b o : Nat} {wv wv' : Value} {l : List Int} (h : SumAt w b o wv l) (st : St) (bg : Bool) (hst : bg = true ∧ st = run256 iv256 l (l.length / 64) ∨ bg = false ∧ l = []) (hok : st.ok) {W : World} {b' : Nat}
    (hr : Row W b' 0 (st.list.map (Value.int .u32) ++ [wv', .int .u64 l.length, .bool bg])) (hb : Buf W 1 wv' (l.length % 64) ((l.drop (64 * (l.length / 64))).map (Value.int .u8))) (hne : wv'.ownBlock ≠ some b') : SumAt W b' 0 wv' l :=
  ⟨h.bytes, h.small, ⟨st, bg, hok, hst, hr⟩, hb, hne⟩
theorem tail64_bytes (n : Nat) : Bytes (tail64 n) := by
  intro x hx
  simp only [tail64, List.cons_append, List.mem_cons, List.mem_append, List.mem_replicate] at hx
  rcases hx with rfl | ⟨_, rfl⟩ | hx
  · exact ⟨by omega, by omega⟩
  · exact ⟨by omega, by omega⟩
  · exact be8_bytes _ x hx
theorem tail64_length (n : Nat) : (tail64 n).length = 9 + fill64 n := by simp [tail64, be8]; omega
theorem fill64_le (n : Nat) : fill64 n ≤ 63 := by unfold fill64; omega

/-- the eleven cells of a Sum -/
def SumCells (W : World) (b o : Nat) (s : St) (wv : Value) (n : Nat) (bg : Bool) : Prop :=
  W.cell? ⟨b, o, none⟩ = some (.int .u32 s.a) ∧ W.cell? ⟨b, o + 1, none⟩ = some (.int .u32 s.b) ∧ W.cell? ⟨b, o + 2, none⟩ = some (.int .u32 s.c) ∧ W.cell? ⟨b, o + 3, none⟩ = some (.int .u32 s.d) ∧
  W.cell? ⟨b, o + 4, none⟩ = some (.int .u32 s.e) ∧ W.cell? ⟨b, o + 5, none⟩ = some (.int .u32 s.f) ∧ W.cell? ⟨b, o + 6, none⟩ = some (.int .u32 s.g) ∧ W.cell? ⟨b, o + 7, none⟩ = some (.int .u32 s.h) ∧
  W.cell? ⟨b, o + 8, none⟩ = some wv ∧ W.cell? ⟨b, o + 9, none⟩ = some (.int .u64 n) ∧ W.cell? ⟨b, o + 10, none⟩ = some (.bool bg)
theorem sum_cells {W : World} {b o : Nat} {s : St} {wv : Value} {n : Nat} {bg : Bool} (h : Row W b o (s.list.map (Value.int .u32) ++ [wv, .int .u64 n, .bool bg])) : SumCells W b o s wv n bg :=
  ⟨(h 0 _ rfl).1, (h 1 _ rfl).1, (h 2 _ rfl).1, (h 3 _ rfl).1, (h 4 _ rfl).1, (h 5 _ rfl).1, (h 6 _ rfl).1, (h 7 _ rfl).1, (h 8 _ rfl).1, (h 9 _ rfl).1, (h 10 _ rfl).1⟩
def zeroSum : List Value := [.int .u32 0, .int .u32 0, .int .u32 0, .int .u32 0, .int .u32 0, .int .u32 0, .int .u32 0, .int .u32 0, .slice none 0 0, .int .u64 0, .bool false]
theorem fresh11 {W e : World} {p T : Nat} (h : Keeps (W.alloc (.cells #[.int .u32 0, .int .u32 0, .int .u32 0, .int .u32 0, .int .u32 0, .int .u32 0, .int .u32 0, .int .u32 0, .slice none 0 0, .int .u64 0, .bool false] T)).drew e) (hp : p = W.heap.size) : Row e p 0 zeroSum := by
  have r0 : Row (W.alloc (.cells #[.int .u32 0, .int .u32 0, .int .u32 0, .int .u32 0, .int .u32 0, .int .u32 0, .int .u32 0, .int .u32 0, .slice none 0 0, .int .u64 0, .bool false] T)) W.heap.size 0 zeroSum := Row.new zeroSum _ T (by simp [zeroSum])
  have r1 := r0.drew
  rw [hp]; exact r1.keeps h

theorem sumOne {s : St} {a : Option Addr} {n m : Nat} {k : Int} {bg : Bool} : ∀ v ∈ s.list.map (Value.int .u32) ++ [Value.slice a n m, .int .u64 k, .bool bg], v.oneCell' = true := by
  intro v hv
  simp only [St.list, List.map_cons, List.map_nil, List.cons_append, List.nil_append, List.mem_cons, List.not_mem_nil, or_false] at hv
  rcases hv with rfl | rfl | rfl | rfl | rfl | rfl | rfl | rfl | rfl | rfl | rfl <;> rfl
theorem keeps_drew {w W : World} (h : Keeps w W) : Keeps w W.drew := h.trans ((Qt.drewN W 1).below _)
theorem keeps_alloc {w W : World} (h : Keeps w W) (o : Obj) : Keeps w (W.alloc o) := Below.alloc h h.size o
theorem keeps_chg {w W W' : World} {p : Nat} (h : Keeps w W) (c : Chg (· = p) W W') (hp : w.heap.size ≤ p) : Keeps w W' := Below.trans h (Chg.below c h.size (fun k hk e => by omega))
theorem held_of {w W : World} {b o : Nat} {s : St} {wv : Value} {n : Nat} {bg : Bool} (h : Row w b o (s.list.map (Value.int .u32) ++ [wv, .int .u64 n, .bool bg])) (k : Keeps w W) :
    W.cell? ⟨b, o, none⟩ = some (.int .u32 s.a) ∧ W.cell? ⟨b, o + 1, none⟩ = some (.int .u32 s.b) ∧ W.cell? ⟨b, o + 2, none⟩ = some (.int .u32 s.c) ∧ W.cell? ⟨b, o + 3, none⟩ = some (.int .u32 s.d) ∧
    W.cell? ⟨b, o + 4, none⟩ = some (.int .u32 s.e) ∧ W.cell? ⟨b, o + 5, none⟩ = some (.int .u32 s.f) ∧ W.cell? ⟨b, o + 6, none⟩ = some (.int .u32 s.g) ∧ W.cell? ⟨b, o + 7, none⟩ = some (.int .u32 s.h) ∧
    W.cell? ⟨b, o + 8, none⟩ = some wv ∧ W.cell? ⟨b, o + 9, none⟩ = some (.int .u64 n) ∧ W.cell? ⟨b, o + 10, none⟩ = some (.bool bg) ∧ Keeps w W :=
  have r := h.keeps k
  ⟨(r 0 _ rfl).1, (r 1 _ rfl).1, (r 2 _ rfl).1, (r 3 _ rfl).1, (r 4 _ rfl).1, (r 5 _ rfl).1, (r 6 _ rfl).1, (r 7 _ rfl).1, (r 8 _ rfl).1, (r 9 _ rfl).1, (r 10 _ rfl).1, k⟩

theorem SumAt.chg {S : Nat → Prop} {w w' : World} {b o : Nat} {wv : Value} {l : List Int} (h : SumAt w b o wv l) (hc : Chg S w w') (hb : ¬ S b) (hs : ∀ g, wv.ownBlock = some g → ¬ S g) : SumAt w' b o wv l := by
  obtain ⟨h1, h2, ⟨st, bg, h3, h4, h5⟩, h6, h7⟩ := h
  exact ⟨h1, h2, ⟨st, bg, h3, h4, h5.chg hc hb⟩, h6.chg hc hs, h7⟩
theorem SumAt.keeps {w w' : World} {b o : Nat} {wv : Value} {l : List Int} (h : SumAt w b o wv l) (hc : Keeps w w') : SumAt w' b o wv l :=
  h.chg (hc.chg (fun _ => False)) (fun h => h) (fun _ _ h => h)
/-- the copy of the Sum stands in a block of its own -/
structure HashMid (w W : World) (p : Nat) (v : Value) (l : List Int) : Prop where
  keeps : Keeps w W
  new : w.heap.size < p
  sum : SumAt W p 0 v l
  out : Row W w.heap.size 0 (List.replicate 32 (Value.int .u8 0))
  own : ∀ g, v.ownBlock = some g → w.heap.size < g

/-- the copy has taken the tail in -/
structure HashOut (w W : World) (p : Nat) (l : List Int) (s : St) : Prop where
  keeps : Keeps w W
  new : w.heap.size < p
  ok : s.ok
  val : outB s.list = sha256 l
  cells : Row W p 0 (s.list.map (Value.int .u32))
  out : Row W w.heap.size 0 (List.replicate 32 (Value.int .u8 0))
theorem HashMid.done {w W6 W7 W8 : World} {p : Nat} {v : Value} {l : List Int} (h : HashMid w W6 p v l) (hk : Keeps W6 W7) (ha : AddPost W7 W8 p 0 v (l ++ tail64 l.length)) : ∃ s, HashOut w W8 p l s := by
  obtain ⟨wv', ⟨_, _, ⟨s, bg, hok, hst, hrow⟩, _, _⟩, hc, _⟩ := ha
  have hst2 : s = run256 iv256 (l ++ tail64 l.length) ((l ++ tail64 l.length).length / 64) := by
    rcases hst with ⟨_, h⟩ | ⟨_, h⟩
    · exact h
    · have h2 := congrArg List.length h
      rw [List.length_append, tail64_length] at h2
      simp at h2
  have hw7 : Keeps w W7 := h.keeps.trans hk
  have hwp : ¬ (w.heap.size = p ∨ v.ownBlock = some w.heap.size) := by
    rintro (e | e)
    · have := h.new; omega
    · have := h.own _ e; omega
  refine ⟨s, ⟨Below.trans hw7 (hc.below hw7.size ?_), h.new, hok, by rw [hst2]; rfl, ?_, (h.out.keeps hk).chg hc hwp⟩⟩
  · rintro k hk2 (e | e)
    · have := h.new; omega
    · have := h.own _ e; omega
  · have := hrow.take 8
    simpa [St.list] using this

/-- the bytes that i rounds have written -/
def outK (s : St) (i : Nat) : List Int := outB (s.list.take i) ++ List.replicate (32 - 4 * i) 0
theorem outK_full (s : St) : outK s 8 = outB s.list := by simp [outK, St.list]
theorem outK_length (s : St) (i : Nat) (hi : i ≤ 8) : (outK s i).length = 32 := by
  rcases i with _ | _ | _ | _ | _ | _ | _ | _ | _ | i
  all_goals first | rfl | omega
theorem outK_step (s : St) (i : Nat) (hi : i < 8) : ((((outK s i).set (4 * i) (s.list.getD i 0 / 16777216 % 256)).set (4 * i + 1) (s.list.getD i 0 / 65536 % 256)).set (4 * i + 2) (s.list.getD i 0 / 256 % 256)).set (4 * i + 3) (s.list.getD i 0 % 256) = outK s (i + 1) := by
  rcases i with _ | _ | _ | _ | _ | _ | _ | _ | i
  all_goals first | rfl | omega

theorem list_ok {s : St} (h : s.ok) (i : Nat) : W32 (s.list.getD i 0) := by
  obtain ⟨h0, h1, h2, h3, h4, h5, h6, h7⟩ := h
  rcases i with _ | _ | _ | _ | _ | _ | _ | _ | i
  all_goals first | exact h0 | exact h1 | exact h2 | exact h3 | exact h4 | exact h5 | exact h6 | exact h7 | exact ⟨by simp [St.list], by simp [St.list]⟩

theorem rd_tail {W : World} {q n : Nat} (h : Row W q 0 ((tail64 n).map (Value.int .u8))) (hq : q < W.heap.size) : Rd W 1 (.slice (some ⟨q, 0, none⟩) (9 + fill64 n) (9 + fill64 n)) (9 + fill64 n) ((tail64 n).map (Value.int .u8)) :=
  ⟨by simp [tail64_length], _, _, rfl, Nat.le_refl _, by have := fill64_le n; unfold maxLen; omega, fun e => (by cases e), fun ad e _ => ⟨q, 0, (Option.some.inj e).symm, hq, h⟩⟩

set_option maxHeartbeats 1600000 in
set_option maxRecDepth 100000 in
theorem sum_hash (b o : Nat) (wv : Value) (l : List Int) (w : World) (hs : SumAt w b o wv l) (hsm : l.length < 576460752303423488) :
    Calls Tryd.prog 59 #[.pointer (some ⟨b, o, none⟩)] w fun e w' => e = .returned (.agg ((sha256 l).map (Value.int .u8)).toArray) ∧ Keeps w w' := by
  have HS := Lib.hid hs
  obtain ⟨hby, hlen, ⟨st, bg, hok, hst, hrow⟩, hbuf, hap⟩ := hs
  obtain ⟨wa, wc, rfl, _⟩ := hbuf.any
  have hcl := clone_any (.slice wa (l.length % 64) wc) (l.length % 64) (l.drop (64 * (l.length / 64)))
  have hbb : b < w.heap.size := hrow.lt (by simp)
  have HR := Lib.hid hrow; have HB := Lib.hid hbuf; have HST := Lib.hid hst; have HOK := Lib.hid hok; have HCL := Lib.hid hcl
  clear hrow hbuf hst hok hcl hby hap
  go_enter Tryd.func59, Tryd.ntmps59
  go_upto_region 1 with (fail)
  refine wp_gen (fun W => Keeps w W ∧ w.heap.size < W.heap.size ∧ Row W w.heap.size 0 (List.replicate 32 (Value.int .u8 0))) ⟨(Keeps.refl _).alloc (Nat.le_refl _) _, by show _ < (w.heap.push _).size; rw [Array.size_push]; omega, Row.new _ _ _ rfl⟩ ?_
  intro w1 ⟨hk1, hlt1, hr1⟩
  have HK1 := Lib.hid hk1; have HR1 := Lib.hid hr1
  have hc := sum_cells (HR.out.keeps hk1)
  clear hk1 hr1
  unfold SumCells at hc
  obtain ⟨c0, c1, c2, c3, c4, c5, c6, c7, c8, c9, c10⟩ := hc
  refine wp_region_held_drew (S := (fun W => W.cell? ⟨b, o, none⟩ = some (.int .u32 st.a) ∧ W.cell? ⟨b, o + 1, none⟩ = some (.int .u32 st.b) ∧ W.cell? ⟨b, o + 2, none⟩ = some (.int .u32 st.c) ∧ W.cell? ⟨b, o + 3, none⟩ = some (.int .u32 st.d) ∧ W.cell? ⟨b, o + 4, none⟩ = some (.int .u32 st.e) ∧ W.cell? ⟨b, o + 5, none⟩ = some (.int .u32 st.f) ∧ W.cell? ⟨b, o + 6, none⟩ = some (.int .u32 st.g) ∧ W.cell? ⟨b, o + 7, none⟩ = some (.int .u32 st.h) ∧ W.cell? ⟨b, o + 8, none⟩ = some (.slice wa (l.length % 64) wc) ∧ W.cell? ⟨b, o + 9, none⟩ = some (.int .u64 l.length) ∧ W.cell? ⟨b, o + 10, none⟩ = some (.bool bg) ∧ Keeps w W)) (by kernel_rfl) ?_ (fun hHeld => ?_)
  focus ((try dsimp only); (refine held_of HR.out ?_; go_split_ands; first | exact keeps_drew HK1.out | exact keeps_alloc (by assumption) _ | exact keeps_alloc (keeps_drew HK1.out) _ | exact keeps_drew (keeps_alloc HK1.out _) | exact keeps_chg (by assumption) HC6.out (Nat.le_of_lt hlt1) | exact keeps_chg (by assumption) HC6.out (Nat.le_trans (Nat.le_of_lt hlt1) HK5.out.size) | exact keeps_chg (by assumption) HC6.out (by assumption) | exact Keeps.trans (by assumption) HK5.out))
  refine wpAnyH_take (i := 0) (oi := ?_) (v := ?_) ?_ ?_ ?_ ?_ ?_ (Or.inl ⟨?_, ?_⟩) ?_ ?_
  rotate_left 2
  focus (simp only [List.getElem?_toArray, List.getElem?_cons_succ, List.getElem?_cons_zero]; exact rfl)
  iterate 3 focus kernel_rfl
  focus (exact fun _ _ _ h => h)
  focus rfl
  focus ((intro w hSw; (try dsimp only at hSw); go_simp) <;> with_reducible rfl)
  focus assumption
  try simp only [Act.put, List.setIfInBounds_toArray, List.set_cons_zero, List.set_cons_succ]
  refine wpAnyH_take (i := 1) (oi := ?_) (v := ?_) ?_ ?_ ?_ ?_ ?_ (Or.inl ⟨?_, ?_⟩) ?_ ?_
  rotate_left 2
  focus (simp only [List.getElem?_toArray, List.getElem?_cons_succ, List.getElem?_cons_zero]; exact rfl)
  iterate 3 focus kernel_rfl
  focus (exact fun _ _ _ h => h)
  focus rfl
  focus ((intro w hSw; (try dsimp only at hSw); go_simp) <;> with_reducible rfl)
  focus assumption
  try simp only [Act.put, List.setIfInBounds_toArray, List.set_cons_zero, List.set_cons_succ]
  refine wpAnyH_take (i := 2) (oi := ?_) (v := ?_) ?_ ?_ ?_ ?_ ?_ (Or.inl ⟨?_, ?_⟩) ?_ ?_
  rotate_left 2
  focus (simp only [List.getElem?_toArray, List.getElem?_cons_succ, List.getElem?_cons_zero]; exact rfl)
  iterate 3 focus kernel_rfl
  focus (exact fun _ _ _ h => h)
  focus rfl
  focus ((intro w hSw; (try dsimp only at hSw); go_simp) <;> with_reducible rfl)
  focus assumption
  try simp only [Act.put, List.setIfInBounds_toArray, List.set_cons_zero, List.set_cons_succ]
  refine wpAnyH_take (i := 3) (oi := ?_) (v := ?_) ?_ ?_ ?_ ?_ ?_ (Or.inl ⟨?_, ?_⟩) ?_ ?_
  rotate_left 2
  focus (simp only [List.getElem?_toArray, List.getElem?_cons_succ, List.getElem?_cons_zero]; exact rfl)
  iterate 3 focus kernel_rfl
  focus (exact fun _ _ _ h => h)
  focus rfl
  focus ((intro w hSw; (try dsimp only at hSw); go_simp) <;> with_reducible rfl)
  focus assumption
  try simp only [Act.put, List.setIfInBounds_toArray, List.set_cons_zero, List.set_cons_succ]
  refine wpAnyH_take (i := 4) (oi := ?_) (v := ?_) ?_ ?_ ?_ ?_ ?_ (Or.inl ⟨?_, ?_⟩) ?_ ?_
  rotate_left 2
  focus (simp only [List.getElem?_toArray, List.getElem?_cons_succ, List.getElem?_cons_zero]; exact rfl)
  iterate 3 focus kernel_rfl
  focus (exact fun _ _ _ h => h)
  focus rfl
  focus ((intro w hSw; (try dsimp only at hSw); go_simp) <;> with_reducible rfl)
  focus assumption
  try simp only [Act.put, List.setIfInBounds_toArray, List.set_cons_zero, List.set_cons_succ]
  refine wpAnyH_take (i := 5) (oi := ?_) (v := ?_) ?_ ?_ ?_ ?_ ?_ (Or.inl ⟨?_, ?_⟩) ?_ ?_
  rotate_left 2
  focus (simp only [List.getElem?_toArray, List.getElem?_cons_succ, List.getElem?_cons_zero]; exact rfl)
  iterate 3 focus kernel_rfl
  focus (exact fun _ _ _ h => h)
  focus rfl
  focus ((intro w hSw; (try dsimp only at hSw); go_simp) <;> with_reducible rfl)
  focus assumption
  try simp only [Act.put, List.setIfInBounds_toArray, List.set_cons_zero, List.set_cons_succ]
  refine wpAnyH_take (i := 6) (oi := ?_) (v := ?_) ?_ ?_ ?_ ?_ ?_ (Or.inl ⟨?_, ?_⟩) ?_ ?_
  rotate_left 2
  focus (simp only [List.getElem?_toArray, List.getElem?_cons_succ, List.getElem?_cons_zero]; exact rfl)
  iterate 3 focus kernel_rfl
  focus (exact fun _ _ _ h => h)
  focus rfl
  focus ((intro w hSw; (try dsimp only at hSw); go_simp) <;> with_reducible rfl)
  focus assumption
  try simp only [Act.put, List.setIfInBounds_toArray, List.set_cons_zero, List.set_cons_succ]
  refine wpAnyH_take (i := 7) (oi := ?_) (v := ?_) ?_ ?_ ?_ ?_ ?_ (Or.inl ⟨?_, ?_⟩) ?_ ?_
  rotate_left 2
  focus (simp only [List.getElem?_toArray, List.getElem?_cons_succ, List.getElem?_cons_zero]; exact rfl)
  iterate 3 focus kernel_rfl
  focus (exact fun _ _ _ h => h)
  focus rfl
  focus ((intro w hSw; (try dsimp only at hSw); go_simp) <;> with_reducible rfl)
  focus assumption
  try simp only [Act.put, List.setIfInBounds_toArray, List.set_cons_zero, List.set_cons_succ]
  refine wpAnyH_take (i := 9) (oi := ?_) (v := ?_) ?_ ?_ ?_ ?_ ?_ (Or.inl ⟨?_, ?_⟩) ?_ ?_
  rotate_left 2
  focus (simp only [List.getElem?_toArray, List.getElem?_cons_succ, List.getElem?_cons_zero]; exact rfl)
  iterate 3 focus kernel_rfl
  focus (exact fun _ _ _ h => h)
  focus rfl
  focus ((intro w hSw; (try dsimp only at hSw); go_simp) <;> with_reducible rfl)
  focus assumption
  try simp only [Act.put, List.setIfInBounds_toArray, List.set_cons_zero, List.set_cons_succ]
  refine wpAnyH_take (i := 10) (oi := ?_) (v := ?_) ?_ ?_ ?_ ?_ ?_ (Or.inl ⟨?_, ?_⟩) ?_ ?_
  rotate_left 2
  focus (simp only [List.getElem?_toArray, List.getElem?_cons_succ, List.getElem?_cons_zero]; exact rfl)
  iterate 3 focus kernel_rfl
  focus (exact fun _ _ _ h => h)
  focus rfl
  focus ((intro w hSw; (try dsimp only at hSw); go_simp) <;> with_reducible rfl)
  focus assumption
  try simp only [Act.put, List.setIfInBounds_toArray, List.set_cons_zero, List.set_cons_succ]
  refine wpAnyH_take (i := 11) (oi := ?_) (v := ?_) ?_ ?_ ?_ ?_ ?_ (Or.inl ⟨?_, ?_⟩) ?_ ?_
  rotate_left 2
  focus (simp only [List.getElem?_toArray, List.getElem?_cons_succ, List.getElem?_cons_zero]; exact rfl)
  iterate 3 focus kernel_rfl
  focus (exact fun _ _ _ h => h)
  focus rfl
  focus ((intro w hSw; (try dsimp only at hSw); go_simp) <;> with_reducible rfl)
  focus assumption
  try simp only [Act.put, List.setIfInBounds_toArray, List.set_cons_zero, List.set_cons_succ]
  refine wpAnyH_take (i := 12) (oi := ?_) (v := ?_) ?_ ?_ ?_ ?_ ?_ (Or.inl ⟨?_, ?_⟩) ?_ ?_
  rotate_left 2
  focus (simp only [List.getElem?_toArray, List.getElem?_cons_succ, List.getElem?_cons_zero]; exact rfl)
  iterate 3 focus kernel_rfl
  focus (exact fun _ _ _ h => h)
  focus rfl
  focus ((intro w hSw; (try dsimp only at hSw); go_simp) <;> with_reducible rfl)
  focus assumption
  try simp only [Act.put, List.setIfInBounds_toArray, List.set_cons_zero, List.set_cons_succ]
  refine wpAnyH_take (i := 13) (oi := ?_) (v := ?_) ?_ ?_ ?_ ?_ ?_ (Or.inl ⟨?_, ?_⟩) ?_ ?_
  rotate_left 2
  focus (simp only [List.getElem?_toArray, List.getElem?_cons_succ, List.getElem?_cons_zero]; exact rfl)
  iterate 3 focus kernel_rfl
  focus (exact fun _ _ _ h => h)
  focus rfl
  focus ((intro w hSw; (try dsimp only at hSw); go_simp) <;> with_reducible rfl)
  focus assumption
  try simp only [Act.put, List.setIfInBounds_toArray, List.set_cons_zero, List.set_cons_succ]
  refine wpAnyH_take (i := 14) (oi := ?_) (v := ?_) ?_ ?_ ?_ ?_ ?_ (Or.inl ⟨?_, ?_⟩) ?_ ?_
  rotate_left 2
  focus (simp only [List.getElem?_toArray, List.getElem?_cons_succ, List.getElem?_cons_zero]; exact rfl)
  iterate 3 focus kernel_rfl
  focus (exact fun _ _ _ h => h)
  focus rfl
  focus ((intro w hSw; (try dsimp only at hSw); go_simp) <;> with_reducible rfl)
  focus assumption
  try simp only [Act.put, List.setIfInBounds_toArray, List.set_cons_zero, List.set_cons_succ]
  refine wpAnyH_take (i := 15) (oi := ?_) (v := ?_) ?_ ?_ ?_ ?_ ?_ (Or.inl ⟨?_, ?_⟩) ?_ ?_
  rotate_left 2
  focus (simp only [List.getElem?_toArray, List.getElem?_cons_succ, List.getElem?_cons_zero]; exact rfl)
  iterate 3 focus kernel_rfl
  focus (exact fun _ _ _ h => h)
  focus rfl
  focus ((intro w hSw; (try dsimp only at hSw); go_simp) <;> with_reducible rfl)
  focus assumption
  try simp only [Act.put, List.setIfInBounds_toArray, List.set_cons_zero, List.set_cons_succ]
  refine wpAnyH_take (i := 16) (oi := ?_) (v := ?_) ?_ ?_ ?_ ?_ ?_ (Or.inl ⟨?_, ?_⟩) ?_ ?_
  rotate_left 2
  focus (simp only [List.getElem?_toArray, List.getElem?_cons_succ, List.getElem?_cons_zero]; exact rfl)
  iterate 3 focus kernel_rfl
  focus (exact fun _ _ _ h => h)
  focus rfl
  focus ((intro w hSw; (try dsimp only at hSw); go_simp) <;> with_reducible rfl)
  focus assumption
  try simp only [Act.put, List.setIfInBounds_toArray, List.set_cons_zero, List.set_cons_succ]
  refine wpAnyH_ready (rs := [8, 18]) (by kernel_rfl) (by simp) ?_
  refine AllReadyH.cons (o := ?_) ?_ (fun K hK => ?_) ?_
  rotate_left 1
  focus (simp only [List.getElem?_toArray, List.getElem?_cons_succ, List.getElem?_cons_zero]; exact rfl)
  rw [if_pos (by rfl)]
  go_simp
  go_at_call 46; refine (HCL.out _ (HB.out.rd.chg (Keeps.chg (by go_split_ands; assumption) (fun _ => False)) (fun _ _ h => h)) (by omega)).mono ?_; rintro e W5 ⟨v', rfl, hk5, hb5, hn5⟩; obtain ⟨va, vc, rfl, hv2⟩ := hb5.any; clear hv2; have HN5 := Lib.hid hn5; have HB5 := Lib.hid hb5; have HK5 := Lib.hid hk5; clear hn5 hb5; first | (have hff := fresh11 (p := w1.heap.size) hk5 rfl; have HF := Lib.hid hff; clear hff hk5) | clear hk5
  refine hK.out _ _ ?_ ?_
  focus ((try dsimp only); (refine held_of HR.out ?_; go_split_ands; first | exact keeps_drew HK1.out | exact keeps_alloc (by assumption) _ | exact keeps_alloc (keeps_drew HK1.out) _ | exact keeps_drew (keeps_alloc HK1.out _) | exact keeps_chg (by assumption) HC6.out (Nat.le_of_lt hlt1) | exact keeps_chg (by assumption) HC6.out (Nat.le_trans (Nat.le_of_lt hlt1) HK5.out.size) | exact keeps_chg (by assumption) HC6.out (by assumption) | exact Keeps.trans (by assumption) HK5.out))
  clear hK K hHeld
  intro hHeld
  try simp only [Act.put, List.setIfInBounds_toArray, List.set_cons_zero, List.set_cons_succ]
  refine wpAnyH_take (i := 17) (oi := ?_) (v := ?_) ?_ ?_ ?_ ?_ ?_ (Or.inl ⟨?_, ?_⟩) ?_ ?_
  rotate_left 2
  focus (simp only [List.getElem?_toArray, List.getElem?_cons_succ, List.getElem?_cons_zero]; exact rfl)
  iterate 3 focus kernel_rfl
  focus (exact fun _ _ _ h => h)
  focus rfl
  focus ((intro w hSw; (try dsimp only at hSw); go_simp) <;> with_reducible rfl)
  focus assumption
  try simp only [Act.put, List.setIfInBounds_toArray, List.set_cons_zero, List.set_cons_succ]
  refine wpAnyH_ready (rs := [18]) (by kernel_rfl) (by simp) ?_
  refine AllReadyH.cons (o := ?_) ?_ (fun K hK => ?_) ?_
  rotate_left 1
  focus (simp only [List.getElem?_toArray, List.getElem?_cons_succ, List.getElem?_cons_zero]; exact rfl)
  rw [if_pos (by rfl)]
  go_simp
  refine hK.out _ _ ?_ ?_
  focus ((try dsimp only); (refine held_of HR.out ?_; go_split_ands; first | exact keeps_drew HK1.out | exact keeps_alloc (by assumption) _ | exact keeps_alloc (keeps_drew HK1.out) _ | exact keeps_drew (keeps_alloc HK1.out _) | exact keeps_chg (by assumption) HC6.out (Nat.le_of_lt hlt1) | exact keeps_chg (by assumption) HC6.out (Nat.le_trans (Nat.le_of_lt hlt1) HK5.out.size) | exact keeps_chg (by assumption) HC6.out (by assumption) | exact Keeps.trans (by assumption) HK5.out))
  clear hK K hHeld
  intro hHeld
  try simp only [Act.put, List.setIfInBounds_toArray, List.set_cons_zero, List.set_cons_succ]
  refine wpAnyH_ready (rs := [19]) (by kernel_rfl) (by simp) ?_
  refine AllReadyH.cons (o := ?_) ?_ (fun K hK => ?_) ?_
  rotate_left 1
  focus (simp only [List.getElem?_toArray, List.getElem?_cons_succ, List.getElem?_cons_zero]; exact rfl)
  rw [if_pos (by rfl)]
  refine wp_store_row 118 (.tmp 3) (.tmp 24) rfl _ 0 rfl zeroSum (st.list.map (Value.int .u32) ++ [.slice va (l.length % 64) vc, .int .u64 l.length, .bool bg]) rfl (by first | exact HF.out | exact Row.new zeroSum _ _ rfl) rfl (by kernel_rfl) sumOne ?_; intro W6 hr6 hc6; have HR6 := Lib.hid hr6; have HC6 := Lib.hid hc6; clear hr6 hc6
  refine hK.out _ _ ?_ ?_
  focus ((try dsimp only); (refine held_of HR.out ?_; go_split_ands; first | exact keeps_drew HK1.out | exact keeps_alloc (by assumption) _ | exact keeps_alloc (keeps_drew HK1.out) _ | exact keeps_drew (keeps_alloc HK1.out _) | exact keeps_chg (by assumption) HC6.out (Nat.le_of_lt hlt1) | exact keeps_chg (by assumption) HC6.out (Nat.le_trans (Nat.le_of_lt hlt1) HK5.out.size) | exact keeps_chg (by assumption) HC6.out (by assumption) | exact Keeps.trans (by assumption) HK5.out))
  clear hK K hHeld
  intro hHeld
  try simp only [Act.put, List.setIfInBounds_toArray, List.set_cons_zero, List.set_cons_succ]
  refine wpAnyH_done (by kernel_rfl) ?_ _
  rotate_left
  exact AllReadyH.nil
  exact AllReadyH.nil
  refine AllReadyH.cons (o := ?_) ?_ (fun K hK => ?_) ?_
  rotate_left 1
  focus (simp only [List.getElem?_toArray, List.getElem?_cons_succ, List.getElem?_cons_zero]; exact rfl)
  rw [if_pos (by rfl)]
  go_simp
  refine hK.out _ _ ?_ ?_
  focus ((try dsimp only); (refine held_of HR.out ?_; go_split_ands; first | exact keeps_drew HK1.out | exact keeps_alloc (by assumption) _ | exact keeps_alloc (keeps_drew HK1.out) _ | exact keeps_drew (keeps_alloc HK1.out _) | exact keeps_chg (by assumption) HC6.out (Nat.le_of_lt hlt1) | exact keeps_chg (by assumption) HC6.out (Nat.le_trans (Nat.le_of_lt hlt1) HK5.out.size) | exact keeps_chg (by assumption) HC6.out (by assumption) | exact Keeps.trans (by assumption) HK5.out))
  clear hK K hHeld
  intro hHeld
  try simp only [Act.put, List.setIfInBounds_toArray, List.set_cons_zero, List.set_cons_succ]
  refine wpAnyH_ready (rs := [8]) (by kernel_rfl) (by simp) ?_
  refine AllReadyH.cons (o := ?_) ?_ (fun K hK => ?_) ?_
  rotate_left 1
  focus (simp only [List.getElem?_toArray, List.getElem?_cons_succ, List.getElem?_cons_zero]; exact rfl)
  rw [if_pos (by rfl)]
  go_simp
  go_at_call 46; refine (HCL.out _ (HB.out.rd.chg (Keeps.chg (by go_split_ands; assumption) (fun _ => False)) (fun _ _ h => h)) (by omega)).mono ?_; rintro e W5 ⟨v', rfl, hk5, hb5, hn5⟩; obtain ⟨va, vc, rfl, hv2⟩ := hb5.any; clear hv2; have HN5 := Lib.hid hn5; have HB5 := Lib.hid hb5; have HK5 := Lib.hid hk5; clear hn5 hb5; first | (have hff := fresh11 (p := w1.heap.size) hk5 rfl; have HF := Lib.hid hff; clear hff hk5) | clear hk5
  refine hK.out _ _ ?_ ?_
  focus ((try dsimp only); (refine held_of HR.out ?_; go_split_ands; first | exact keeps_drew HK1.out | exact keeps_alloc (by assumption) _ | exact keeps_alloc (keeps_drew HK1.out) _ | exact keeps_drew (keeps_alloc HK1.out _) | exact keeps_chg (by assumption) HC6.out (Nat.le_of_lt hlt1) | exact keeps_chg (by assumption) HC6.out (Nat.le_trans (Nat.le_of_lt hlt1) HK5.out.size) | exact keeps_chg (by assumption) HC6.out (by assumption) | exact Keeps.trans (by assumption) HK5.out))
  clear hK K hHeld
  intro hHeld
  try simp only [Act.put, List.setIfInBounds_toArray, List.set_cons_zero, List.set_cons_succ]
  refine wpAnyH_take (i := 17) (oi := ?_) (v := ?_) ?_ ?_ ?_ ?_ ?_ (Or.inl ⟨?_, ?_⟩) ?_ ?_
  rotate_left 2
  focus (simp only [List.getElem?_toArray, List.getElem?_cons_succ, List.getElem?_cons_zero]; exact rfl)
  iterate 3 focus kernel_rfl
  focus (exact fun _ _ _ h => h)
  focus rfl
  focus ((intro w hSw; (try dsimp only at hSw); go_simp) <;> with_reducible rfl)
  focus assumption
  try simp only [Act.put, List.setIfInBounds_toArray, List.set_cons_zero, List.set_cons_succ]
  refine wpAnyH_ready (rs := [19]) (by kernel_rfl) (by simp) ?_
  refine AllReadyH.cons (o := ?_) ?_ (fun K hK => ?_) ?_
  rotate_left 1
  focus (simp only [List.getElem?_toArray, List.getElem?_cons_succ, List.getElem?_cons_zero]; exact rfl)
  rw [if_pos (by rfl)]
  refine wp_store_row 118 (.tmp 3) (.tmp 24) rfl _ 0 rfl zeroSum (st.list.map (Value.int .u32) ++ [.slice va (l.length % 64) vc, .int .u64 l.length, .bool bg]) rfl (by first | exact HF.out | exact Row.new zeroSum _ _ rfl) rfl (by kernel_rfl) sumOne ?_; intro W6 hr6 hc6; have HR6 := Lib.hid hr6; have HC6 := Lib.hid hc6; clear hr6 hc6
  refine hK.out _ _ ?_ ?_
  focus ((try dsimp only); (refine held_of HR.out ?_; go_split_ands; first | exact keeps_drew HK1.out | exact keeps_alloc (by assumption) _ | exact keeps_alloc (keeps_drew HK1.out) _ | exact keeps_drew (keeps_alloc HK1.out _) | exact keeps_chg (by assumption) HC6.out (Nat.le_of_lt hlt1) | exact keeps_chg (by assumption) HC6.out (Nat.le_trans (Nat.le_of_lt hlt1) HK5.out.size) | exact keeps_chg (by assumption) HC6.out (by assumption) | exact Keeps.trans (by assumption) HK5.out))
  clear hK K hHeld
  intro hHeld
  try simp only [Act.put, List.setIfInBounds_toArray, List.set_cons_zero, List.set_cons_succ]
  refine wpAnyH_done (by kernel_rfl) ?_ _
  rotate_left
  exact AllReadyH.nil
  exact AllReadyH.nil
  exact AllReadyH.nil
  focus
    have hb6 : Buf W6 1 (.slice va (l.length % 64) vc) (l.length % 64) ((l.drop (64 * (l.length / 64))).map (Value.int .u8)) := (HB5.out.chg ((keeps_alloc (Keeps.refl _) _).chg (fun _ => False)) (fun _ _ h => h)).chg HC6.out (fun g hg e => by have := HB5.out.lt hg; omega)
    have hkk : Keeps w W6 := keeps_chg (keeps_alloc (HK1.out.trans ((keeps_drew (Keeps.refl _)).trans HK5.out)) _) HC6.out (Nat.le_trans (Nat.le_of_lt hlt1) HK5.out.size)
    have hp1 : w1.heap.size ≤ W5.heap.size := HK5.out.size
    have hm : HashMid w W6 W5.heap.size (.slice va (l.length % 64) vc) l := ⟨hkk, by omega, sumAt_new HS.out st bg HST.out HOK.out HR6.out hb6 (fun e => by have := HB5.out.lt e; omega), (((HR1.out.drew.keeps HK5.out).alloc _).chg HC6.out (by omega)), fun g hg => Nat.lt_of_lt_of_le hlt1 (HN5.out g hg)⟩
    obtain ⟨p, hp⟩ : ∃ p, p = W5.heap.size := ⟨_, rfl⟩
    rw [← hp] at hm ⊢
    have HM := Lib.hid hm
    clear hm hb6 hkk hp1 hp HR6 HC6 HK5 HB5 HN5
  rotate_left
  focus
    have hsz : w1.heap.size < W5.heap.size := Nat.lt_of_lt_of_le (by show _ < (w1.heap.push _).size; rw [Array.size_push]; omega) HK5.out.size
    have hng : ∀ g, (Value.slice va (l.length % 64) vc).ownBlock = some g → w1.heap.size < g := fun g hg => Nat.lt_of_lt_of_le (by show _ < (w1.heap.push _).size; rw [Array.size_push]; omega) (HN5.out g hg)
    have hb6 : Buf W6 1 (.slice va (l.length % 64) vc) (l.length % 64) ((l.drop (64 * (l.length / 64))).map (Value.int .u8)) := HB5.out.chg HC6.out (fun g hg e => by have := hng g hg; omega)
    have hk5 : Keeps w W5 := (keeps_drew (keeps_alloc HK1.out _)).trans HK5.out
    have hkk : Keeps w W6 := keeps_chg hk5 HC6.out (Nat.le_of_lt hlt1)
    have hm : HashMid w W6 w1.heap.size (.slice va (l.length % 64) vc) l := ⟨hkk, by omega, sumAt_new HS.out st bg HST.out HOK.out HR6.out hb6 (fun e => by have := hng _ e; omega), (((HR1.out.alloc _).drew.keeps HK5.out).chg HC6.out (by omega)), fun g hg => Nat.lt_trans hlt1 (hng g hg)⟩
    obtain ⟨p, hp⟩ : ∃ p, p = w1.heap.size := ⟨_, rfl⟩
    rw [← hp] at hm ⊢
    have HM := Lib.hid hm
    clear hm hb6 hkk hsz hng hk5 hp HR6 HC6 HK5 HB5 HN5 HF
  all_goals
    have hm := HM.out
    have hpw : p < W6.heap.size := by
      obtain ⟨_, _, ⟨_, _, _, _, hr⟩, _⟩ := hm.sum
      exact hr.lt (by simp)
    have d9 : W6.cell? ⟨p, 9, none⟩ = some (.int .u64 l.length) := by
      obtain ⟨_, _, ⟨_, _, _, _, hr⟩, _⟩ := hm.sum
      have := (hr 9 _ rfl).1
      rwa [Nat.zero_add] at this
    have d9' : W6.cell? ⟨b, o + 9, none⟩ = some (.int .u64 l.length) := (((HR.out).keeps hm.keeps) 9 _ rfl).1
    clear hm
    go_upto_region 3 with (first | (go_at_call 47; refine (tail_any l.length (by omega) _).mono ?_; rintro e W7 ⟨rfl, hk7, hl7, hr7⟩; have HK7 := Lib.hid hk7; have HR7 := Lib.hid hr7; clear hk7 hr7) | (go_at_call 58; refine (sum_add p 0 _ l _ _ (tail64 l.length) _ (HM.out.sum.keeps HK7.out) (rd_tail HR7.out hl7) (tail64_bytes _) (by have := fill64_le l.length; omega) (by have := fill64_le l.length; omega) (fun _ e => absurd (Option.some.inj e) (Nat.ne_of_gt hpw))).mono ?_; rintro e W8 ⟨rfl, hA⟩; have HA := Lib.hid hA; clear hA))
    obtain ⟨s, hs8⟩ := HM.out.done HK7.out HA.out
    have HO := Lib.hid hs8
    clear hs8 HM HK7 HA HR7 hl7 d9 d9' hpw
    go_upto_region 4 with (fail)
    refine wp_gen (fun W => HashOut w W p l s ∧ W8.heap.size < W.heap.size ∧ Row W W8.heap.size 0 ((outK s 0).map (Value.int .u8))) ⟨⟨keeps_alloc HO.out.keeps _, HO.out.new, HO.out.ok, HO.out.val, HO.out.cells.alloc _, HO.out.out.alloc _⟩, by show _ < (W8.heap.push _).size; rw [Array.size_push]; omega, Row.new _ _ _ rfl⟩ ?_
    intro W9 ⟨ho9, hl9, hr9⟩
    have hpq : p < W8.heap.size := HO.out.cells.lt (by simp [St.list])
    obtain ⟨q, hq⟩ : ∃ q, q = W8.heap.size := ⟨_, rfl⟩
    rw [← hq] at hl9 hr9 hpq ⊢
    have HO9 := Lib.hid ho9; have HR9 := Lib.hid hr9
    clear ho9 hr9 HO hq
    go_wp2_with (refine wpList_load_at rfl 116 (.tmp 31) rfl p 0 rfl _ _ HO9.out.cells Tryd.underlying116 rfl (by simpa [St.list] using sz_st8) ?_)
    go_loopw [33] (fun c wr => ∃ i : Nat, i ≤ 8 ∧ c = .int .i64 i ∧ Chg (· = q) W9 wr ∧ Row wr q 0 ((outK s i).map (Value.int .u8))) (fun c _ => (8 - intOf c).toNat)
    case atStart => exact ⟨0, by omega, rfl, Chg.refl _ _, HR9.out⟩
    case round =>
      obtain ⟨i, hi, rfl, hch, hr⟩ := hrel
      by_cases hlt : i < 8
      · have hix : ∀ W : World, (Instr.index 116 (.agg (s.list.map (Value.int .u32)).toArray) (.int .i64 (i : Int))).run Tryd.prog W = .ok (.int .u32 (s.list.getD i 0)) W := fun W => run_index_ints W _ _ 8 _ s.list i Tryd.underlying116 Tryd.underlying23 (by kernel_rfl) rfl hlt
        have hlen32 := outK_length s i hi
        have e0 := hr.int0 (4 * i) (by omega)
        have e1 := hr.int0 (4 * i + 1) (by omega)
        have e2 := hr.int0 (4 * i + 2) (by omega)
        have e3 := hr.int0 (4 * i + 3) (by omega)
        have g0 := hr.free0 (4 * i) (by simp; omega)
        have g1 := hr.free0 (4 * i + 1) (by simp; omega)
        have g2 := hr.free0 (4 * i + 2) (by simp; omega)
        have g3 := hr.free0 (4 * i + 3) (by simp; omega)
        have hx : W32 (s.list.getD i 0) := list_ok HO9.out.ok i
        have HST8 := Lib.hid (outK_step s i hlt)
        have HCH := Lib.hid hch
        clear hch
        generalize s.list.getD i 0 = x at *
        obtain ⟨hx0, hx1⟩ := hx
        have hset := (((hr.setInt0 (4 * i) (by omega) (x / 16777216 % 256)).setInt0 (4 * i + 1) (by simp; omega) (x / 65536 % 256)).setInt0 (4 * i + 2) (by simp; omega) (x / 256 % 256)).setInt0 (4 * i + 3) (by simp; omega) (x % 256)
        rw [HST8.out, show x / 16777216 % 256 = x / 16777216 by omega] at hset
        have HSET := Lib.hid hset
        clear hr hset
        go_wp2
        go_roundw
        case rel => exact ⟨i + 1, by omega, by go_num, (((HCH.out.setCell (.inr rfl) _).setCell (.inr rfl) _).setCell (.inr rfl) _).setCell (.inr rfl) _, HSET.out⟩
        case measure => simp [intOf]; omega
      · obtain rfl : i = 8 := by omega
        rw [outK_full, HO9.out.val] at hr
        have HRR := Lib.hid hr; have HCH := Lib.hid hch
        have HOW := Lib.hid (HO9.out.out.chg hch (fun e => by have := HO9.out.new; omega))
        have h32 : (sha256 l).length = 32 := by rw [← HO9.out.val, ← outK_full]; exact outK_length s 8 (by omega)
        have Z32 : Hid ((Tryd.prog.info? 80).map (·.size) = some ((sha256 l).map (Value.int .u8)).length) := by
          rw [List.length_map, h32]; exact Lib.hid (by kernel_rfl)
        have HKW := Lib.hid (Below.trans HO9.out.keeps (hch.below HO9.out.keeps.size (fun k hk e => by have := HO9.out.new; omega)))
        clear hr hch
        go_wp2_with (first | (refine wpList_load_at rfl 80 (.tmp 4) rfl q 0 rfl _ _ HRR.out Tryd.underlying80 rfl Z32.out ?_) | (refine wpList_store_row rfl 80 (.tmp 2) (.tmp 64) rfl _ 0 rfl _ _ rfl HOW.out (by simp [h32]) Z32.out (int_oneCell _) ?_; intro W10 hr10 hc10; have HR10 := Lib.hid hr10; have HC10 := Lib.hid hc10; clear hr10 hc10))
        exact bodyPost_ret (v := .agg ((sha256 l).map (Value.int .u8)).toArray) (results_cell_at (p := 2) (ty := 80) rfl _ _ w.heap.size 0 _ _ rfl HR10.out Tryd.underlying80 rfl Z32.out) rfl ⟨rfl, Below.trans HKW.out (HC10.out.below HKW.out.size (fun k hk e => by omega))⟩
end Go.Proofs.YtlofddoojkeakaaDoor
