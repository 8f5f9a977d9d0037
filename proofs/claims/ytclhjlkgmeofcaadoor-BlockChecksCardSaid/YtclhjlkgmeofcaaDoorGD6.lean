/- The root over names, in plain Lean; rows of digests in memory. No condition. | strongboxref10.Merkle; slices.Clone at digests; both Root. | The new coins of a height, in the code and in the reference. | strongboxlaw10.awake: it says yes. -/
import Derived.Test.YtclhjlkgmeofcaaDoorGD1
import Derived.Test.YtclhjlkgmeofcaaDoorGA1
import Derived.Test.YtclhjlkgmeofcaaDoorGD2
import Derived.Test.YtclhjlkgmeofcaaDoorGB3
import Derived.Test.YtclhjlkgmeofcaaDoorGC2
import Derived.Test.YtclhjlkgmeofcaaDoorGD3
import Derived.Test.YtclhjlkgmeofcaaDoorGC3
namespace Go.Proofs.YtclhjlkgmeofcaaDoor
set_option linter.unusedVariables false
set_option linter.unusedSimpArgs false
open Go Go.RowKit

def dsha (l : List Int) : List Int := sha256 (sha256 l)
theorem dsha_length (l : List Int) : (dsha l).length = 32 := sha_length _
theorem dsha_bytes (l : List Int) : Bytes (dsha l) := sha_bytes _
/-- the k-th pair's digest -/
def pairD (l : List (List Int)) (k : Nat) : List Int := dsha (l.getD (2 * k) [] ++ l.getD (min (2 * k + 1) (l.length - 1)) [])
def upD (l : List (List Int)) : List (List Int) := (List.range ((l.length + 1) / 2)).map (pairD l)
theorem upD_length (l : List (List Int)) : (upD l).length = (l.length + 1) / 2 := by simp [upD]
def zeroH : List Int := List.replicate 32 0
def merkN : Nat → List (List Int) → List Int
  | 0, l => l.headD zeroH
  | n + 1, l => if l.length ≤ 1 then l.headD zeroH else merkN n (upD l)
theorem merkN_small (n : Nat) (l : List (List Int)) (h : l.length ≤ 1) : merkN n l = l.headD zeroH := by
  cases n with
  | zero => rfl
  | succ n => rw [merkN, if_pos h]
theorem merkN_eq : ∀ (n m : Nat) (l : List (List Int)), l.length ≤ n → l.length ≤ m → merkN n l = merkN m l
  | 0, m, l, h, _ => by rw [merkN_small 0 l (by omega), merkN_small m l (by omega)]
  | n + 1, 0, l, _, h => by rw [merkN_small _ l (by omega), merkN_small 0 l (by omega)]
  | n + 1, m + 1, l, h1, h2 => by
    by_cases h : l.length ≤ 1
    · rw [merkN_small _ l h, merkN_small _ l h]
    · rw [merkN, merkN, if_neg h, if_neg h]
      exact merkN_eq n m (upD l) (by rw [upD_length]; omega) (by rw [upD_length]; omega)
def merkD (l : List (List Int)) : List Int := merkN l.length l
theorem merkD_small (l : List (List Int)) (h : l.length ≤ 1) : merkD l = l.headD zeroH := merkN_small _ l h
theorem merkD_up (l : List (List Int)) (h : ¬ l.length ≤ 1) : merkD l = merkD (upD l) := by
  unfold merkD
  have e : l.length = (l.length - 1) + 1 := by omega
  rw [e, merkN, if_neg h]
  exact merkN_eq _ _ _ (by rw [upD_length]; omega) (Nat.le_refl _)
def HsOk (l : List (List Int)) : Prop := ∀ h ∈ l, h.length = 32 ∧ Bytes h
theorem HsOk.getD {l : List (List Int)} (h : HsOk l) {i : Nat} (hi : i < l.length) : (l.getD i []).length = 32 ∧ Bytes (l.getD i []) := by
  have : l.getD i [] = l[i] := by simp [List.getD, hi]
  rw [this]; exact h _ (List.getElem_mem hi)
theorem HsOk.snoc {l : List (List Int)} (h : HsOk l) {x : List Int} (hl : x.length = 32) (hb : Bytes x) : HsOk (l ++ [x]) := fun y hy => by
  rcases List.mem_append.1 hy with hy | hy
  · exact h y hy
  · simp at hy; rw [hy]; exact ⟨hl, hb⟩
theorem HsOk.take {l : List (List Int)} (h : HsOk l) (n : Nat) : HsOk (l.take n) := fun y hy => h y (List.mem_of_mem_take hy)
theorem upD_ok (l : List (List Int)) : HsOk (upD l) := fun y hy => by
  unfold upD at hy
  obtain ⟨k, _, rfl⟩ := List.mem_map.1 hy
  exact ⟨dsha_length _, dsha_bytes _⟩
theorem zeroH_ok : zeroH.length = 32 ∧ Bytes zeroH := ⟨rfl, by unfold Bytes Byte zeroH; decide⟩
theorem merkN_ok : ∀ (n : Nat) (l : List (List Int)), HsOk l → (merkN n l).length = 32 ∧ Bytes (merkN n l)
  | 0, l, h => by
    cases l with
    | nil => exact zeroH_ok
    | cons a r => exact h a (by simp)
  | n + 1, l, h => by
    by_cases hl : l.length ≤ 1
    · rw [merkN_small _ l hl]
      cases l with
      | nil => exact zeroH_ok
      | cons a r => exact h a (by simp)
    · rw [merkN, if_neg hl]
      exact merkN_ok n _ (upD_ok l)
theorem merkD_ok (l : List (List Int)) (h : HsOk l) : (merkD l).length = 32 ∧ Bytes (merkD l) := merkN_ok _ l h
/-- the cells of a row of digests -/
def hCells (l : List (List Int)) : List Value := l.flatMap (fun h => h.map (Value.int .u8))
theorem hCells_length : ∀ {l : List (List Int)}, HsOk l → (hCells l).length = l.length * 32
  | [], _ => rfl
  | a :: r, h => by
    have e : hCells (a :: r) = a.map (Value.int .u8) ++ hCells r := rfl
    rw [e, List.length_append, hCells_length (l := r) (fun y hy => h y (by simp [hy])), List.length_map, (h a (by simp)).1, List.length_cons]
    omega
theorem hCells_app (a b : List (List Int)) : hCells (a ++ b) = hCells a ++ hCells b := by simp [hCells]
theorem hCells_one : ∀ (l : List (List Int)), ∀ u ∈ hCells l, u.oneCell' = true := fun l u hu => by
  unfold hCells at hu
  obtain ⟨h, _, hm⟩ := List.mem_flatMap.1 hu
  obtain ⟨x, _, rfl⟩ := List.mem_map.1 hm
  rfl
theorem hCells_at : ∀ {l : List (List Int)}, HsOk l → ∀ {i : Nat}, i < l.length → ((hCells l).drop (i * 32)).take 32 = (l.getD i []).map (Value.int .u8)
  | a :: r, h, 0, _ => by
    have e : hCells (a :: r) = a.map (Value.int .u8) ++ hCells r := rfl
    have hl := (h a (by simp)).1
    rw [e, Nat.zero_mul, List.drop_zero, List.take_append_of_le_length (by simp [hl]), List.take_of_length_le (by simp [hl])]
    rfl
  | a :: r, h, i + 1, hi => by
    have e : hCells (a :: r) = a.map (Value.int .u8) ++ hCells r := rfl
    have hl := (h a (by simp)).1
    have hi' : i < r.length := by simpa using hi
    rw [e, show (i + 1) * 32 = 32 + i * 32 by omega, ← List.drop_drop, List.drop_left' (by simp [hl]), hCells_at (l := r) (fun y hy => h y (by simp [hy])) hi']
    rfl
theorem hCells_take {l : List (List Int)} (h : HsOk l) (n : Nat) (hn : n ≤ l.length) : (hCells l).take (n * 32) = hCells (l.take n) := by
  have e : hCells l = hCells (l.take n) ++ hCells (l.drop n) := by rw [← hCells_app, List.take_append_drop]
  have h2 := hCells_length (h.take n)
  rw [e, List.take_append_of_le_length (by rw [h2]; simp; omega), List.take_of_length_le (by rw [h2, List.length_take]; omega)]
/-- a slice of digests that may be read -/
structure RH (w : World) (v : Value) (l : List (List Int)) : Prop where
  rd : Rd w 32 v l.length (hCells l)
  ok : HsOk l
  small : l.length * 32 ≤ 140737488355328
theorem RH.keeps {w w' : World} {v : Value} {l : List (List Int)} (h : RH w v l) (hk : Keeps w w') : RH w' v l := ⟨h.rd.keeps hk, h.ok, h.small⟩
theorem RH.any {w : World} {v : Value} {l : List (List Int)} (h : RH w v l) : ∃ a cap, v = .slice a l.length cap ∧ l.length ≤ cap ∧ cap ≤ maxLen := by
  obtain ⟨_, a, cap, h1, h2, h3, _⟩ := h.rd
  exact ⟨a, cap, h1, h2, h3⟩
theorem RH.at {w : World} {a : Option Addr} {n cap : Nat} {l : List (List Int)} (h : RH w (.slice a n cap) l) {i : Nat} (hi : i < l.length) :
    ∃ g off, a = some ⟨g, off, none⟩ ∧ g < w.heap.size ∧ Row w g (off + i * 32) ((l.getD i []).map (Value.int .u8)) := by
  obtain ⟨h0, a', cap', e, h2, h3, h4, h5⟩ := h.rd
  cases e
  cases a with
  | none => have := h4 rfl; omega
  | some ad =>
    obtain ⟨g, off, rfl, hg, hr⟩ := h5 _ rfl (by omega)
    refine ⟨g, off, rfl, hg, ?_⟩
    rw [← hCells_at h.ok hi]
    exact (hr.drop (i * 32)).take 32
theorem RH.take {w : World} {a : Option Addr} {n cap : Nat} {l : List (List Int)} (h : RH w (.slice a n cap) l) (m : Nat) (hm : m ≤ l.length) : RH w (.slice a m cap) (l.take m) := by
  obtain ⟨h0, a', cap', e, h2, h3, h4, h5⟩ := h.rd
  cases e
  have hl : (l.take m).length = m := by simp; omega
  refine ⟨⟨by rw [hCells_length (h.ok.take m)], a, cap, by rw [hl], by omega, h3, fun e => by have := h4 e; omega, fun ad e hn => ?_⟩, h.ok.take m, by rw [hl]; have := h.small; omega⟩
  obtain ⟨g, off, e2, hg, hr⟩ := h5 ad e (by omega)
  exact ⟨g, off, e2, hg, by rw [← hCells_take h.ok m hm]; exact hr.take _⟩
/-- a list of digests of one's own -/
structure OwnH (w W : World) (v : Value) (l : List (List Int)) : Prop where
  keeps : Keeps w W
  buf : Buf W 32 v l.length (hCells l)
  new : ∀ g, v.ownBlock = some g → w.heap.size ≤ g
  ok : HsOk l
theorem OwnH.nil (w : World) : OwnH w w (.slice none 0 0) [] := ⟨Keeps.refl _, Buf.nil _ _, fun g h => by simp [Value.ownBlock] at h, fun y hy => by cases hy⟩
theorem OwnH.step {w W W' : World} {v : Value} {l : List (List Int)} (h : OwnH w W v l) (hk : Keeps W W') : OwnH w W' v l := ⟨h.keeps.trans hk, h.buf.keeps hk, h.new, h.ok⟩
theorem OwnH.any {w W : World} {v : Value} {l : List (List Int)} (h : OwnH w W v l) : ∃ a cap, v = .slice a l.length cap := by
  obtain ⟨a, cap, h1, _⟩ := h.buf.any
  exact ⟨a, cap, h1⟩
theorem OwnH.rh {w W : World} {v : Value} {l : List (List Int)} (h : OwnH w W v l) (hs : l.length * 32 ≤ 140737488355328) : RH W v l := ⟨h.buf.rd, h.ok, hs⟩
theorem OwnH.after {w W W1 w2 : World} {v v' : Value} {l : List (List Int)} {x : List Int} (h : OwnH w W v l) (hk : Keeps W W1) (hl : x.length = 32) (hx : Bytes x) (hb : Buf w2 32 v' (l.length + 1) (hCells l ++ x.map (Value.int .u8)))
    (hc : Chg (fun k => v.ownBlock = some k) W1 w2) (hs : SameOrNew W1 v v') : OwnH w w2 v' (l ++ [x]) := by
  have hk1 := h.keeps.trans hk
  refine ⟨Below.trans hk1 (hc.below hk1.size (fun k hk2 e => by have := h.new k e; omega)), ?_, ?_, h.ok.snoc hl hx⟩
  · rw [hCells_app, List.length_append]
    have e : hCells [x] = x.map (Value.int .u8) := by simp [hCells]
    rw [e]; exact hb
  · intro g hg
    rcases hs with e | ⟨g', e1, e2⟩
    · exact h.new g (by rw [← e]; exact hg)
    · rw [hg] at e1; cases e1; exact Nat.le_trans hk1.size e2
end Go.Proofs.YtclhjlkgmeofcaaDoor
namespace Go.Proofs.YtclhjlkgmeofcaaDoor
set_option linter.unusedVariables false
set_option linter.unusedSimpArgs false
open Go Go.RowKit

theorem h32_info : (Tryd.prog.info? 23).map (fun i => (i.size, i.bytes)) = some (32, 32) := by kernel_rfl
theorem h32_zero : ((Tryd.prog.info? 23).bind (fun i => i.zero.map (·.cells.size))) = some 32 := by kernel_rfl
theorem hash_info : (Tryd.prog.info? 24).map (fun i => (i.size, i.bytes)) = some (32, 32) := by kernel_rfl
theorem hash_zero : ((Tryd.prog.info? 24).bind (fun i => i.zero.map (·.cells.size))) = some 32 := by kernel_rfl
theorem sz_32 (l : List Int) (h : l.length = 32) : (Tryd.prog.info? 23).map (·.size) = some (l.map (Value.int .u8)).length := by rw [List.length_map, h]; kernel_rfl
theorem sz_h (l : List Int) (h : l.length = 32) : (Tryd.prog.info? 24).map (·.size) = some (l.map (Value.int .u8)).length := by rw [List.length_map, h]; kernel_rfl
/-- one digest more, in a slice of arrays of bytes -/
theorem ownh_append1 {w W W1 : World} {ops : Array Oper} {rest : List Oper} {o : Oper} {a : Act} {Q : Exit → Act → World → Prop} (hgd : o.guard = none) (s x : Operand)
    (ho : o.op = .call { callee := .builtin .append, args := #[s, x], argTypes := #[33, 33] }) {v : Value} {n : Nat} {l : List (List Int)} (hO : OwnH w W v l) (hn : l.length = n) (hk : Keeps W W1) (hv : a.eval s = v)
    {h : List Int} (hl : h.length = 32) (hb : Bytes h) (c : Nat) (TT : TypeId) (cells : Array Value) (hcells : cells = (h.map (Value.int .u8)).toArray) (hx : a.eval x = .slice (some ⟨W1.heap.size, 0, none⟩) 1 c) (hs : (n + 1) * 32 ≤ 140737488355328)
    (K : ∀ v' w', OwnH w w' v' (l ++ [h]) → wpList Tryd.prog ops Q rest (a.put o.dst v') w') : wpList Tryd.prog ops Q (o :: rest) a (W1.alloc (.cells cells TT)) := by
  subst hcells hn
  obtain ⟨i0, z0, hi, hz0, hz1, hz2, hz3⟩ := info2_any h32_info h32_zero
  have hk2 : Keeps W1 (W1.alloc (.cells (h.map (Value.int .u8)).toArray TT)) := keeps_alloc (Keeps.refl _) _
  refine wpList_append_buf hgd s x 33 33 ho 23 i0 z0 32 32 Tryd.underlying33 hi hz0 hz1 hz2 hz3 (by decide) v l.length (hCells l) hv (hO.buf.keeps (hk.trans hk2)) _ hx 1 (h.map (Value.int .u8))
    (Src.row Tryd.underlying33 (by simp [hl]) (Row.new (h.map (Value.int .u8)) _ TT rfl) (int_oneCell h)) (by unfold maxLen; omega) hs
    (fun v' w' hb' hc hs' _ => K v' w' (hO.after (hk.trans hk2) hl hb hb' hc hs'))
theorem ownh_append1' {w W W1 : World} {ops : Array Oper} {rest : List Oper} {o : Oper} {a : Act} {Q : Exit → Act → World → Prop} (hgd : o.guard = none) (s x : Operand)
    (ho : o.op = .call { callee := .builtin .append, args := #[s, x], argTypes := #[22, 22] }) {v : Value} {n : Nat} {l : List (List Int)} (hO : OwnH w W v l) (hn : l.length = n) (hk : Keeps W W1) (hv : a.eval s = v)
    {h : List Int} (hl : h.length = 32) (hb : Bytes h) (c : Nat) (TT : TypeId) (cells : Array Value) (hcells : cells = (h.map (Value.int .u8)).toArray) (hx : a.eval x = .slice (some ⟨W1.heap.size, 0, none⟩) 1 c) (hs : (n + 1) * 32 ≤ 140737488355328)
    (K : ∀ v' w', OwnH w w' v' (l ++ [h]) → wpList Tryd.prog ops Q rest (a.put o.dst v') w') : wpList Tryd.prog ops Q (o :: rest) a (W1.alloc (.cells cells TT)) := by
  subst hcells hn
  obtain ⟨i0, z0, hi, hz0, hz1, hz2, hz3⟩ := info2_any hash_info hash_zero
  have hk2 : Keeps W1 (W1.alloc (.cells (h.map (Value.int .u8)).toArray TT)) := keeps_alloc (Keeps.refl _) _
  refine wpList_append_buf hgd s x 22 22 ho 24 i0 z0 32 32 Tryd.underlying22 hi hz0 hz1 hz2 hz3 (by decide) v l.length (hCells l) hv (hO.buf.keeps (hk.trans hk2)) _ hx 1 (h.map (Value.int .u8))
    (Src.row Tryd.underlying22 (by simp [hl]) (Row.new (h.map (Value.int .u8)) _ TT rfl) (int_oneCell h)) (by unfold maxLen; omega) hs
    (fun v' w' hb' hc hs' _ => K v' w' (hO.after (hk.trans hk2) hl hb hb' hc hs'))
theorem upD_take (l : List (List Int)) (k : Nat) (h : k < (l.length + 1) / 2) : (upD l).take (k + 1) = (upD l).take k ++ [pairD l k] := by
  have hk : (upD l)[k]? = some (pairD l k) := by unfold upD; simp [h]
  rw [List.take_add_one, hk]; rfl
theorem upD_full (l : List (List Int)) (k : Nat) (h : (l.length + 1) / 2 ≤ k) : (upD l).take k = upD l := List.take_of_length_le (by rw [upD_length]; exact h)
end Go.Proofs.YtclhjlkgmeofcaaDoor
namespace Go.Proofs.YtclhjlkgmeofcaaDoor
set_option linter.unusedVariables false
set_option linter.unusedSimpArgs false
open Go Go.RowKit

set_option maxRecDepth 100000 in
set_option maxHeartbeats 1000000 in
theorem subsidy_any (h : Int) (h0 : -9223372036854775808 ≤ h) (h1 : h < 9223372036854775808) (w : World) :
    Calls Tryd.prog 25 #[.int .i64 h] w fun e w' => e = .returned (.int .i64 (subsidy h)) ∧ w = w' := by
  have hs1 : h < 0 → subsidy h = 0 := fun hh => if_pos hh
  have hs2 := subsidy_late h
  have hs3 : ¬ h < 0 → subsidy h = 5000000000 / 2 ^ (h / 150).toNat := fun hh => if_neg hh
  generalize subsidy h = S at *
  have HS1 := Lib.hid hs1; have HS2 := Lib.hid hs2; have HS3 := Lib.hid hs3
  clear hs1 hs2 hs3
  by_cases hn : h < 0
  · have hS := HS1.out hn
    have HS := Lib.hid hS
    clear hS
    go_enter Tryd.func25, Tryd.ntmps25
    go_wp2
    go_ret
    exact ⟨ret_int HS.out.symm, rfl⟩
  · obtain ⟨k, hk⟩ : ∃ k : Nat, h / 150 = k := ⟨(h / 150).toNat, by omega⟩
    have ht : h.tdiv 150 = k := by rw [Int.tdiv_eq_ediv_of_nonneg (by omega), hk]
    have h150 : h = 150 * k + h % 150 := by omega
    by_cases hb : 64 ≤ k
    · have hS := HS2.out (by omega)
      have HS := Lib.hid hS
      have hkb : (k : Int) < 9223372036854775808 := by omega
      have hkl : (64 : Int) ≤ k := by omega
      generalize (k : Int) = z at *
      clear hS h150 hk hb
      go_enter Tryd.func25, Tryd.ntmps25
      go_wp2
      go_ret
      exact ⟨ret_int HS.out.symm, rfl⟩
    · have hS := HS3.out hn
      rw [hk, Int.toNat_natCast] at hS
      have HS := Lib.hid hS
      clear hS hk h150
      go_enter Tryd.func25, Tryd.ntmps25
      go_wp2
      go_ret
      exact ⟨ret_int HS.out.symm, rfl⟩
end Go.Proofs.YtclhjlkgmeofcaaDoor
namespace Go.Proofs.YtclhjlkgmeofcaaDoor
set_option linter.unusedVariables false
set_option linter.unusedSimpArgs false
open Go Go.RowKit

/-- a guarded load of a whole array -/
theorem nm_wpList_load_on {P : Program} {ops : Array Oper} {rest : List Oper} {o : Oper} {a : Act} {w : World} {Q : Exit → Act → World → Prop} (hw : Region.wanted o (yielded ops a.tmps) = true) (ty : TypeId) (x : Operand) (ho : o.op = .load ty x)
    (g off : Nat) (hx : a.eval x = .pointer (some ⟨g, off, none⟩)) (cs : List Value) (d : TypeDesc) (hg : Row w g off cs)
    (hu : P.underlying ty = some d) (hd : (match d with | .struct _ | .array _ _ => true | _ => false) = true) (hi : (P.info? ty).map (·.size) = some cs.length)
    (h : wpList P ops Q rest (a.put o.dst (.agg cs.toArray)) w) : wpList P ops Q (o :: rest) a w :=
  BigFrame.wpList_want hw fun _ hK => by
    unfold Oper.wp execOp
    simp only [ho, hx, Instr.loadAt, Instr.sureAddr, Sem.run_bind, Sem.run_pure, Result.andThen_ok, run_loadVar_at w g off ty cs d hg hu hd hi]
    exact hK _ _ h
/-- a guarded build of a value of noughts -/
theorem wpList_zero_on {P : Program} {ops : Array Oper} {rest : List Oper} {o : Oper} {a : Act} {w : World} {Q : Exit → Act → World → Prop} (hw : Region.wanted o (yielded ops a.tmps) = true) (ty : TypeId) (ho : o.op = .build ty #[])
    (z : Value) (hz : (execOp a.eval o).run P w = .ok (.value z) w)
    (h : wpList P ops Q rest (a.put o.dst z) w) : wpList P ops Q (o :: rest) a w :=
  BigFrame.wpList_want hw fun _ hK => by
    unfold Oper.wp
    rw [hz]
    exact hK _ _ h
def awkB : List Int := [0, 0, 0, 0, 255, 255, 0, 0, 0, 0, 0, 0, 0, 0, 0, 0, 0, 0, 0, 0, 0, 0, 0, 0, 0, 0, 0, 0, 0, 0, 0, 0]
theorem awk_target : tgtRes 486604799 = awkB := by decide +kernel
theorem awk_err : tgtErr 486604799 = 0 := by decide +kernel
theorem awk_bits : bitsOf awkB = 486604799 := by decide +kernel
theorem awk_coins : subsidy 300 = 1250000000 := by decide +kernel
theorem awk_bytes : Bytes awkB := by unfold Bytes Byte; decide +kernel
def head0 : List Value := headCells 0 (List.replicate 32 0) (List.replicate 32 0) 0 0 0
set_option maxRecDepth 100000 in
set_option maxHeartbeats 2000000 in
theorem awake_any (w : World) : Calls Tryd.prog 6 #[] w fun e w' => e = .returned (.bool true) ∧ Keeps w w' := by
  have hT : ∀ W, Calls Tryd.prog 23 #[.int .u32 486604799] W fun e w' => e = .returned (.tuple #[.agg (awkB.map (Value.int .u8)).toArray, .int .i64 0]) ∧ Keeps W w' := fun W => by
    have := target_any 486604799 (by decide) (by decide) W
    rwa [awk_target, awk_err] at this
  have hB : ∀ W, Calls Tryd.prog 24 #[.agg (awkB.map (Value.int .u8)).toArray] W fun e w' => e = .returned (.int .u32 486604799) ∧ Keeps W w' := fun W => by
    have := bits_any awkB awk_bytes rfl W
    rwa [awk_bits] at this
  have hS : ∀ W, Calls Tryd.prog 25 #[.int .i64 300] W fun e w' => e = .returned (.int .i64 1250000000) ∧ W = w' := fun W => by
    have := subsidy_any 300 (by decide) (by decide) W
    rwa [awk_coins] at this
  have hH : ∀ W, Calls Tryd.prog 26 #[.agg head0.toArray] W fun e w' => ∃ a c, e = .returned (.slice a 80 c) ∧ Keeps W w' := fun W => by
    refine (encodeHeader_any 0 (List.replicate 32 0) (List.replicate 32 0) 0 0 0 (by decide) (by decide) (by unfold nm_U32; decide) (by unfold nm_U32; decide) (by unfold nm_U32; decide) W).mono ?_
    rintro e w' ⟨v, rfl, hO⟩
    obtain ⟨a, c, rfl⟩ := hO.any
    exact ⟨a, c, rfl, hO.keeps⟩
  have hl9 : awkB.length = 32 := rfl
  have b4 : awkB.getD 4 0 = 255 := rfl
  have b6 : awkB.getD 6 0 = 0 := rfl
  have HT := Lib.hid hT; have HB := Lib.hid hB; have HS := Lib.hid hS; have HH := Lib.hid hH; have B4 := Lib.hid b4; have B6 := Lib.hid b6
  clear hT hB hS hH b4 b6
  generalize awkB = L at *
  go_enter Tryd.func6, Tryd.ntmps6
  go_upto_region 2 with (first | (go_at_call 23; refine (HT.out _).mono ?_; rintro e W2 ⟨rfl, hk2⟩; have HK2 := Lib.hid hk2; clear hk2) | (refine wpList_store_row rfl 57 (.tmp 1) (.tmp 5) rfl _ 0 rfl (List.replicate 32 (Value.int .u8 0)) (L.map (Value.int .u8)) rfl (Row.new _ _ _ rfl) (by simp [hl9]) (sz_n32 L hl9) (int_oneCell _) ?_; intro W3 hr3 hc3; have HR3 := Lib.hid hr3; have HC3 := Lib.hid hc3; clear hr3 hc3))
  have hk3 : Keeps w W3 := nm_keeps_chg (nm_keeps_alloc HK2.out _) HC3.out HK2.out.size
  have HK3 := Lib.hid hk3
  generalize W2.heap.size = p at *
  have c4 := HR3.out.int0 4 (by omega)
  have c6 := HR3.out.int0 6 (by omega)
  rw [B4.out] at c4
  rw [B6.out] at c6
  clear hk3 HK2 HC3
  have HZ0 : ∀ (W : World) (a : Act) (o : Oper), o.op = .build 27 #[] → (execOp a.eval o).run Tryd.prog W = .ok (.value (.agg head0.toArray)) W := fun W a o ho => by
    unfold execOp; rw [ho]; kernel_rfl
  generalize head0 = H0 at *
  have HZ := Lib.hid HZ0
  clear HZ0
  go_wp2_with (first | (refine nm_wpList_load_on (by kernel_rfl) 57 (.tmp 1) rfl p 0 rfl (L.map (Value.int .u8)) _ HR3.out Tryd.underlying57 rfl (sz_n32 L hl9) ?_) | (refine wpList_zero_on (by kernel_rfl) 27 rfl _ (HZ.out _ _ _ rfl) ?_) | (go_at_call 24; refine (HB.out _).mono ?_; rintro e W4 ⟨rfl, hk4⟩; have HK4 := Lib.hid hk4; clear hk4) | (go_at_call 25; refine (HS.out _).mono ?_; rintro e W5 ⟨rfl, rfl⟩) | (go_at_call 26; refine (HH.out _).mono ?_; rintro e W6 ⟨a6, c6', rfl, hk6⟩; have HK6 := Lib.hid hk6; clear hk6))
  go_ret
  exact ⟨rfl, (HK3.out.trans HK4.out).trans HK6.out⟩
end Go.Proofs.YtclhjlkgmeofcaaDoor
