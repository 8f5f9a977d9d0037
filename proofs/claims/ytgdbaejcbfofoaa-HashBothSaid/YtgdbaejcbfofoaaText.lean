/- hash.Text: the digest's bytes from the last on, two small hexadecimal digits each. -/
import Derived.Test.YtgdbaejcbfofoaaBack
import Derived.Test.YtgdbaejcbfofoaaSumHash
namespace Go.Proofs.Ytgdbaejcbfofoaa
set_option linter.unusedVariables false
set_option linter.unusedSimpArgs false
open Go Go.RowKit Go.Shelf

/-- a small hexadecimal digit -/
def dig (k : Int) : Int := if k < 10 then 48 + k else 87 + k
def digU (k : Int) : UInt8 := UInt8.ofNat (dig k).toNat
def digits16 : ByteArray := ⟨#[48, 49, 50, 51, 52, 53, 54, 55, 56, 57, 97, 98, 99, 100, 101, 102]⟩
theorem digU_nat (k : Int) (h0 : 0 ≤ k) (h1 : k < 16) : ((digU k).toNat : Int) = dig k := by
  obtain ⟨m, rfl⟩ := Int.eq_ofNat_of_zero_le h0
  have hm : m < 16 := by omega
  have : ∀ m : Fin 16, ((digU (m.val : Int)).toNat : Int) = dig (m.val : Int) := by decide
  exact this ⟨m, hm⟩
theorem run_digits (W : World) (k : Int) (h0 : 0 ≤ k) (h1 : k < 16) : (Instr.index 9 (.string digits16) (.int .u8 k)).run Try.prog W = .ok (.int .u8 (dig k)) W := by
  obtain ⟨m, rfl⟩ := Int.eq_ofNat_of_zero_le h0
  have hm : m < 16 := by omega
  have hc : m = 0 ∨ m = 1 ∨ m = 2 ∨ m = 3 ∨ m = 4 ∨ m = 5 ∨ m = 6 ∨ m = 7 ∨ m = 8 ∨ m = 9 ∨ m = 10 ∨ m = 11 ∨ m = 12 ∨ m = 13 ∨ m = 14 ∨ m = 15 := by omega
  rcases hc with rfl | rfl | rfl | rfl | rfl | rfl | rfl | rfl | rfl | rfl | rfl | rfl | rfl | rfl | rfl | rfl <;> simp [Instr.index, run_underlying Try.underlying9, go_sem, digits16, dig, asIntOf] <;> rfl
/-- the two digits of a byte, and those of what has come -/
def twoU (x : Nat × B8) : List UInt8 := [digU (x.2.1 / 16), digU (x.2.1 % 16)]
def textU (pre : List (Nat × B8)) : List UInt8 := pre.flatMap twoU
theorem textU_snoc (pre : List (Nat × B8)) (x : Nat × B8) : Lib.byteCells (textU (pre ++ [x])) = (Lib.byteCells (textU pre) ++ [.int .u8 (dig (x.2.1 / 16))]) ++ [.int .u8 (dig (x.2.1 % 16))] := by
  have hx := x.2.2
  simp only [textU, List.flatMap_append, List.flatMap_cons, List.flatMap_nil, List.append_nil, Lib.byteCells, List.map_append, twoU, List.map_cons, List.map_nil]
  rw [digU_nat _ (by omega) (by omega), digU_nat _ (by omega) (by omega)]
  simp
theorem textU_length (pre : List (Nat × B8)) : (textU pre).length = 2 * pre.length := by
  induction pre with
  | nil => rfl
  | cons a r ih => simp only [textU, List.flatMap_cons, List.length_append, List.length_cons] at *; rw [ih]; simp [twoU]; omega

/-- a builder stands behind the turn of a block that is no cells -/
theorem builder_kept {T e : TypeId} {B b : Nat} {p : Value} {bs : List Value} {W W' : World} {row : Option Nat} (h : Lib.BuilderAt T e B b p bs W) (hg : W.grownBy W' row) (hr : ∀ r, row = some r → ∃ o : Obj, W.heap[r]? = some o ∧ o.isCells = false) : Lib.BuilderAt T e B b p bs W' := by
  obtain ⟨hB, v, hb, hown, hne⟩ := h
  refine ⟨hB, v, ?_, hown.kept hg ?_, hne⟩
  · rw [hg.block b (Array.getElem?_eq_some_iff.1 hb).1 (fun e => by obtain ⟨o, ho, hc⟩ := hr b e.symm; rw [hb] at ho; cases ho; cases hc)]
    exact hb
  · rcases hown.2 with ⟨rfl, _⟩ | ⟨g, cap, cur, rfl, _, hgb, _⟩
    · exact .inl rfl
    · refine .inr fun e' => ?_
      obtain ⟨o, ho, hc⟩ := hr g (by simpa [Value.ownBlock] using e'.symm)
      rw [hgb] at ho; cases ho; cases hc
theorem isBuilder_kept {T e : TypeId} {B b : Nat} {bs : List Value} {W W' : World} {row : Option Nat} (h : Lib.IsBuilder T e B b bs W) (hg : W.grownBy W' row) (hr : ∀ r, row = some r → ∃ o : Obj, W.heap[r]? = some o ∧ o.isCells = false) : Lib.IsBuilder T e B b bs W' :=
  h.elim (fun h => .inl (builder_kept h hg hr)) (fun h => .inr (builder_kept h hg hr))
theorem keepsFrom_others {e : TypeId} {b B : Nat} {W W' : World} (h : Lib.OthersKept e (some b) W W') (hs : W.heap.size ≤ W'.heap.size) (hb : ∀ o, W.heap[b]? = some o → o.isCells = true) : KeepsFrom B W W' :=
  ⟨hs, fun k o _ hk ho => h k o hk (fun e2 => by cases e2; rw [hb o hk] at ho; cases ho) (fun c fz e2 => by subst e2; cases ho)⟩
theorem builder_cells {T e : TypeId} {B b : Nat} {p : Value} {bs : List Value} {W : World} (h : Lib.BuilderAt T e B b p bs W) : ∀ o, W.heap[b]? = some o → o.isCells = true := by
  obtain ⟨_, v, hb, _⟩ := h
  intro o ho
  rw [hb] at ho; cases ho; rfl
def byteAt {zs : List Int} (h : Bytes zs) (j : Nat) : B8 := ⟨zs.getD j 0, h.getD j⟩
/-- the text of a digest -/
def textB (zs : List Int) : List UInt8 := (List.range zs.length).flatMap fun j => [digU (zs.getD (zs.length - 1 - j) 0 / 16), digU (zs.getD (zs.length - 1 - j) 0 % 16)]
theorem textU_down {zs : List Int} (h : Bytes zs) : textU (down (fun j => (j, byteAt h j)) zs.length zs.length) = textB zs := by
  simp only [textU, down, textB, List.flatMap_map]
  rfl
theorem box_kept {W W' : World} {row : Option Nat} {k : Nat} {cs : Array Value} {T : TypeId} {fz : Nat × Nat} (h : W.heap[k]? = some (.cells cs T fz)) (hg : W.grownBy W' row) (hr : ∀ r, row = some r → ∃ o : Obj, W.heap[r]? = some o ∧ o.isCells = false) : W'.heap[k]? = some (.cells cs T fz) := by
  rw [hg.block k (Array.getElem?_eq_some_iff.1 h).1 (fun e => by obtain ⟨o, ho, hc⟩ := hr k e.symm; rw [h] at ho; cases ho; cases hc)]
  exact h
/-- what has happened to the builder since W -/
def Wrote (b : Nat) (W W' : World) : Prop := Below b W W' ∧ Lib.OthersKept 5 (some b) W W' ∧ W.heap.size ≤ W'.heap.size
theorem Wrote.refl (b : Nat) (W : World) : Wrote b W W := ⟨Below.refl _ _, Lib.OthersKept.refl _ _ _, Nat.le_refl _⟩
theorem Wrote.trans {b : Nat} {A B C : World} (h : Wrote b A B) (k : Wrote b B C) : Wrote b A C := ⟨h.1.trans k.1, h.2.1.trans k.2.1, Nat.le_trans h.2.2 k.2.2⟩
set_option maxRecDepth 100000 in
set_option maxHeartbeats 4000000 in
theorem text_any (zs : List Int) (hz : Bytes zs) (hl : zs.length = 32) (w : World) : Calls Try.prog 21 #[.agg (zs.map (Value.int .u8)).toArray] w fun e w' => e = .returned (.string ⟨(textB zs).toArray⟩) ∧ Keeps w w' := by
  have HZ := Lib.hid hz; have HL := Lib.hid hl
  have Z32 : ((Try.prog.info? 37).map (·.size)) = some 32 := by kernel_rfl
  refine (callsIn_wide (n := 3)).1 ?_
  refine callsIn_of_wp_marks Try.func21 rfl trivial ?_ rfl
  simp only [Try.ntmps21, List.size_toArray, List.length_cons, List.length_nil, Nat.reduceAdd, Nat.reduceSub, Array.replicate_succ, Array.replicate_zero, List.push_toArray, List.append_toArray, List.nil_append, List.cons_append]
  gi_wp2_with (refine ⟨trivial, ?_⟩; gi_at_call 64; refine (back_in Fence.wide _ trivial rfl _ _ _ _).mono ?_; rintro e w' ⟨rfl, rfl⟩)
  obtain ⟨W0, hW0⟩ : ∃ W0, ((w.alloc (.cells (zs.map (Value.int .u8)).toArray 37)).alloc (.cells #[.pointer none, .slice none 0 0] 90)).alloc (.cells #[.slice (some ⟨w.heap.size, 0, none⟩) 32 32] 22) = W0 := ⟨_, rfl⟩
  have hsz : W0.heap.size = w.heap.size + 3 := by rw [← hW0]; simp
  have hk0 : Below w.heap.size w W0 := by rw [← hW0]; exact keeps_alloc (keeps_alloc (keeps_alloc (Keeps.refl w) _) _) _
  have hbox : W0.heap[w.heap.size + 2]? = some (.cells #[.slice (some ⟨w.heap.size, 0, none⟩) 32 32] 22 (0, 0)) := by
    rw [← hW0]
    have := World.alloc_heap_new ((w.alloc (.cells (zs.map (Value.int .u8)).toArray 37)).alloc (.cells #[.pointer none, .slice none 0 0] 90)) (.cells #[.slice (some ⟨w.heap.size, 0, none⟩) 32 32] 22)
    rwa [World.size_alloc, World.size_alloc] at this
  have hbx : W0.cell? ⟨w.heap.size + 2, 0, none⟩ = some (.slice (some ⟨w.heap.size, 0, none⟩) 32 32) := by simp [World.cell?, hbox]
  have hrow : Row W0 w.heap.size 0 (zs.map (Value.int .u8)) := by rw [← hW0]; exact ((Row.new _ _ _ rfl).alloc _).alloc _
  have hcs : ∀ j, j < 32 → W0.cell? ⟨w.heap.size, 0 + j, none⟩ = some (.int .u8 (byteAt hz j).1) := fun j hj => hrow.int j (by rw [hl]; exact hj)
  have hbd : Lib.IsBuilder 90 5 (w.heap.size + 1) (w.heap.size + 1) (Lib.byteCells (textU [])) W0 := by
    have h0 := Lib.fresh_isBuilder 90 5 (w.alloc (.cells (zs.map (Value.int .u8)).toArray 37))
    rw [World.size_alloc] at h0
    rw [← hW0]
    exact isBuilder_kept h0 (World.grownBy_alloc _ _ none) (by simp)
  rw [hW0]
  clear hW0 hrow
  refine wpIn_rangeFunc_ownG rfl (by omega) (gf := 117) (lb := #[.pointer (some ⟨w.heap.size + 1 + 1, 0, none⟩)]) rfl trivial (enters_of Try.func117 (by kernel_rfl) rfl)
    (back_stops Fence.wide _ trivial rfl (by omega) (w.heap.size + 2) (w.heap.size + 1) w.heap.size 0 32 32 (byteAt hz) (by omega) (by omega) W0 (by omega) hbx (by omega) hcs) KpT.t (KpT.b (by omega) (by omega)) (Below.refl _ _) (fun _ => rfl)
    (fun pre W => (Lib.IsBuilder 90 5 (w.heap.size + 1) (w.heap.size + 1) (Lib.byteCells (textU pre)) W ∧ W.heap[w.heap.size + 2]? = some (.cells #[.slice (some ⟨w.heap.size, 0, none⟩) 32 32] 22 (0, 0))) ∧ Below w.heap.size w W)
    (fun _ _ _ => False)
    (OwnFrom.and (Go.Own.from (fun s A B row hs hg hr => ⟨isBuilder_kept hs.1 hg hr, box_kept hs.2 hg hr⟩) _) (ownFrom_below (Nat.le_refl _) (by omega)))
    (fun _ _ _ _ _ hs _ _ => hs)
    ⟨⟨hbd, hbox⟩, hk0⟩
    (fun x => { tmps := #[.agg (zs.map (Value.int .u8)).toArray, .pointer (some ⟨w.heap.size, 0, none⟩), .string ⟨#[]⟩, .pointer (some ⟨w.heap.size + 1, 0, none⟩), undef, .int .u8 x.2.1, .slice (some ⟨w.heap.size, 0, none⟩) 32 32,
      .func (.func 117) #[] #[.pointer (some ⟨w.heap.size + 1 + 1, 0, none⟩)], .int .i64 (x.1 : Int), .int .u8 x.2.1, undef, undef, undef, undef, undef, undef, undef, undef, undef], defers := [] }) ?assign ?body ?done ?stop
  case assign =>
    intro l x W K hK
    have hsem := @Oper.semAt_some
    gi_wp2
    exact hK
  case body =>
    rintro l pre ⟨i, c, hc0, hc1⟩ W ⟨⟨hb, hx⟩, hB⟩ hlen
    have hd1 := fun W => run_digits W (c / 16) (by omega) (by omega)
    have hd2 := fun W => run_digits W (c % 16) (by omega) (by omega)
    simp only [digits16] at hd1 hd2
    have hsn := textU_snoc pre (i, ⟨c, hc0, hc1⟩)
    have HSN := Lib.hid hsn; have HX := Lib.hid hx; have HBB := Lib.hid hB
    have HB := Lib.hid hb; have HC := Lib.hid (Wrote.refl (w.heap.size + 1) W)
    have HLN := Lib.hid (show (Lib.byteCells (textU pre)).length ≤ 64 by rw [Lib.byteCells_length, textU_length]; omega)
    have hWs : w.heap.size + 2 < W.heap.size := (Array.getElem?_eq_some_iff.1 hx).1
    have hbc : ∀ o, W.heap[w.heap.size + 1]? = some o → o.isCells = true := hb.elim builder_cells builder_cells
    have HBC := Lib.hid hbc
    clear hsn hx hB hb hbc
    have hsem := @Oper.semAt_some
    dsimp only at hd1 hd2 ⊢
    gi_wp2_with (refine ⟨trivial, ?_⟩; gi_at_call 65; refine (CallsIn.inRound l (callsIn_wide.2 (writeByte_any _ _ _ _ _ HB.out (by have := HLN.out; simp; omega) (by have := HC.out.2.2; omega)))).mono ?_; rintro e w2 ⟨rfl, hb2, hbl, hok, hs2⟩; clear HB; have HB := Lib.hid (show Lib.IsBuilder _ _ _ _ _ _ from Or.inr hb2); have HC2 := Lib.hid (HC.out.trans ⟨hbl, hok, hs2⟩); clear HC; have HC := HC2; clear HC2 hb2 hbl hok hs2)
    have hx2 := HC.out.2.1 _ _ HX.out (by simp) (fun c fz e => by injection e with _ h _; exact absurd h (by decide))
    exact ⟨keepsFrom_others HC.out.2.1 HC.out.2.2 HBC.out, ⟨HC.out.1, HX.out.trans hx2.symm⟩, ⟨⟨by rw [HSN.out]; exact HB.out, hx2⟩, HBB.out.trans (HC.out.1.mono (by omega))⟩⟩
  case done =>
    rintro D ys W hD hys ⟨⟨hb, hx⟩, hB⟩ hK
    have hxl : w.heap.size + 2 < W.heap.size := (Array.getElem?_eq_some_iff.1 hx).1
    have hys2 : textU ys = textB zs := by rw [hys, ← hl, textU_down hz]
    rw [hys2] at hb
    have HB := Lib.hid (Lib.IsBuilderF.of hb); have HK := Lib.hid hK; have HBB := Lib.hid hB
    clear hb hx hB hK hys
    gi_wp2_with (refine ⟨trivial, ?_⟩; gi_at_call 66; refine (callsIn_wide.2 (Try.Builder_String_any_k (w.heap.size + 1) (w.heap.size + 1) (textB zs) _ HB.out (by omega))).mono ?_; rintro e w2 ⟨rfl, hbf, hbl, hok⟩; have HBL := Lib.hid hbl; have HOK := Lib.hid hok; clear hbf hbl hok)
    have hK2 : w2.heap[D]? = some (.deferred (some [])) := HOK.out _ _ HK.out (by simp; omega) (fun c fz e => by cases e)
    refine ⟨by simp, .inl ⟨_, _, rfl, run_takeDeferred hK2, ?_⟩⟩
    exact ⟨_, results_tmp rfl _ _ _, rfl, (HBB.out.trans (HBL.out.mono (by omega))).trans (belowK_b (w := w) (Nat.le_refl _) w2 D _ _ (by omega) hK2 rfl rfl)⟩
  case stop =>
    rintro D c pre W _ _ h _
    exact h.elim
end Go.Proofs.Ytgdbaejcbfofoaa
