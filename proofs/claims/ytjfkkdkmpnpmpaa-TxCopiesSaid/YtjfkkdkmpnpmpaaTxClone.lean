/- tx.Clone. -/
import Derived.Test.YtjfkkdkmpnpmpaaTxCloneT
import Derived.Test.YtjfkkdkmpnpmpaaGate
namespace Go.Proofs.Ytjfkkdkmpnpmpaa
set_option linter.unusedVariables false
set_option linter.unusedSimpArgs false
open Go Go.RowKit

theorem RInsX.low {B : Nat} {S T R : Nat → Prop} {W : World} {v : Value} {l : List InD} (h : RInsX S T R W v l) (hs : ∀ g, S g → g < B) (ht : ∀ g, T g → g < B) : ∃ cs ps, RIns (Low B) (Low B) AnyB W v l cs ps := by
  obtain ⟨cs, ps, h⟩ := h
  exact ⟨cs, ps, h.rd, h.plen, fun i p d hp hd => ⟨(h.each i p d hp hd).1.mono hs ht, (h.each i p d hp hd).2⟩, h.small, fun _ _ => trivial⟩
theorem seg_cells {cs : List Value} {l : List InD} {ps : List (Value × Value)} (hl : cs.length = l.length * 36) (hp : ps.length = l.length) (h : ∀ (k : Nat) (p : Value × Value) (d : InD), ps[k]? = some p → l[k]? = some d → (cs.drop (k * 36)).take 36 = inCells d p.1 p.2 ∧ p.1.oneCell' = true ∧ p.2.oneCell' = true) : ∀ u ∈ cs, u.oneCell' = true := by
  intro u hu
  obtain ⟨j, hj, e⟩ := List.getElem_of_mem hu
  have hk : j / 36 < l.length := by omega
  obtain ⟨h1, h2, h3⟩ := h (j / 36) _ _ (List.getElem?_eq_getElem (by omega)) (List.getElem?_eq_getElem hk)
  have hm : u ∈ (cs.drop (j / 36 * 36)).take 36 := by
    refine List.mem_iff_getElem?.2 ⟨j % 36, ?_⟩
    rw [List.getElem?_take, if_pos (Nat.mod_lt _ (by omega)), List.getElem?_drop, show j / 36 * 36 + j % 36 = j by omega, List.getElem?_eq_getElem hj, e]
  rw [h1] at hm
  exact inCells_one _ _ _ h2 h3 u hm
theorem seg_cells2 {cs : List Value} {l : List OutD} {ps : List Value} (hl : cs.length = l.length * 2) (hp : ps.length = l.length) (h : ∀ (k : Nat) (p : Value) (d : OutD), ps[k]? = some p → l[k]? = some d → (cs.drop (k * 2)).take 2 = outCells d p ∧ p.oneCell' = true) : ∀ u ∈ cs, u.oneCell' = true := by
  intro u hu
  obtain ⟨j, hj, e⟩ := List.getElem_of_mem hu
  have hk : j / 2 < l.length := by omega
  obtain ⟨h1, h2⟩ := h (j / 2) _ _ (List.getElem?_eq_getElem (by omega)) (List.getElem?_eq_getElem hk)
  have hm : u ∈ (cs.drop (j / 2 * 2)).take 2 := by
    refine List.mem_iff_getElem?.2 ⟨j % 2, ?_⟩
    rw [List.getElem?_take, if_pos (Nat.mod_lt _ (by omega)), List.getElem?_drop, show j / 2 * 2 + j % 2 = j by omega, List.getElem?_eq_getElem hj, e]
  rw [h1] at hm
  exact outCells_one _ _ h2 u hm
theorem RL.one {S T : Nat → Prop} {w : World} {v : Value} {ls : List (List Int)} {vs : List Value} (h : RL S T w v ls vs) : ∀ u ∈ vs, u.oneCell' = true := by
  intro u hu
  obtain ⟨j, hj, e⟩ := List.getElem_of_mem hu
  have hl := h.len
  exact (h.each j u _ (by rw [List.getElem?_eq_getElem hj, e]) (List.getElem?_eq_getElem (by omega))).one
theorem CloSt.rowAt {w W : World} {p : Nat} {d : TxD} {S T : Nat → Prop} {vo : Value} {i m : Nat} {cs : List Value} {ps : List (Value × Value)} {cs2 ps2 : List Value} {g off n cap : Nat} (h : CloSt w p d S T W (.slice (some ⟨g, off, none⟩) n cap) vo i m cs ps cs2 ps2) {k : Nat} {x : InD} (hd : d.ins[k]? = some x) {q : Value × Value} (hq : ps[k]? = some q) : Row W g (off + k * 36) (inCells x q.1 q.2) := by
  obtain ⟨g', off', q', e, _, hq', hr⟩ := h.g.at hd
  cases e
  rw [hq] at hq'
  cases hq'
  exact hr
/-- behind the two stores into an entry -/
theorem clo_two {w wr W6 W7 : World} {p : Nat} {d : TxD} {S T : Nat → Prop} {vo : Value} {i : Nat} {cs : List Value} {ps : List (Value × Value)} {cs2 ps2 : List Value} {g off n cap : Nat} {x : InD} {sv wv v6 v7 : Value} {vs : List Value}
    (h : CloSt w p d S T wr (.slice (some ⟨g, off, none⟩) n cap) vo i i cs ps cs2 ps2) (hd : d.ins[i]? = some x) (hq : ps[i]? = some (sv, wv)) (hin : RIn (Low w.heap.size) (Low w.heap.size) wr sv wv x) (hvs : RL (Low w.heap.size) (Low w.heap.size) wr wv x.wit vs)
    (h6 : Own wr W6 v6 x.script.length x.script) (h7 : Keeps W6 W7) (hb : Buf W7 1 v7 x.wit.length vs) (hn : ∀ g, v7.ownBlock = some g → W6.heap.size ≤ g) :
    ∃ S' T' cs' ps' , CloSt w p d S' T' ((W7.setCell ⟨g, off + i * 36 + 33, none⟩ v6).setCell ⟨g, off + i * 36 + 35, none⟩ v7) (.slice (some ⟨g, off, none⟩) n cap) vo i (i + 1) cs' ps' cs2 ps2 ∧ ps'[i]? = some (v6, v7) ∧
      Half S' T' w.heap.size ((W7.setCell ⟨g, off + i * 36 + 33, none⟩ v6).setCell ⟨g, off + i * 36 + 35, none⟩ v7) 0 v6 v7 x vs ∧ (∀ (k : Nat) (r : Value × Value), k < i → ps'[k]? = some r → ∀ b, v7.ownBlock = some b → r.2.ownBlock ≠ some b) := by
  have hl := hin.ok.hashLen
  have hk06 := h6.keeps
  have hk := hk06.trans h7
  have h6s := hk06.size; have h7s := h7.size
  have hgn := h.new g rfl
  have hpi : i < ps.length := (List.getElem?_eq_some_iff.1 hq).1
  have s1 := h.grow hk (S1 := fun b => wr.heap.size ≤ b ∧ b < W6.heap.size) (T1 := fun b => W6.heap.size ≤ b ∧ b < W7.heap.size ∧ v7.ownBlock = some b) (fun b hb => by rcases hb with hb | hb <;> omega) (fun b h1 h2 => by omega)
  have c1 : (inCells x sv wv).set 33 v6 = inCells x v6 wv := inCells_set33 x sv wv v6 x.script hl
  have c2 : (inCells x v6 wv).set 35 v7 = inCells x v6 v7 := inCells_set35 x v6 wv v7 x.wit hl
  have s2 := s1.put (by omega) hd hq 33 (by omega) v6 (v6, wv) c1
  have s3 := s2.put (by omega) hd (q := (v6, wv)) (by rw [List.getElem?_set_self hpi]) 35 (by omega) v7 (v6, v7) c2
  have x1 := Chg.cell (W := W7) g (off + i * 36 + 33) v6
  have x2 := x1.trans (Chg.cell (W := W7.setCell ⟨g, off + i * 36 + 33, none⟩ v6) g (off + i * 36 + 35) v7)
  refine ⟨_, _, _, _, s3, by rw [List.getElem?_set_self (by simpa using hpi)], ⟨hin.ok, ?_, ⟨hb.rd.chg x2 (fun b e e2 => by have := hn b e; omega), fun m u l hu hlm => ?_, hvs.small, fun b e => .inr ⟨hn b e, hb.lt e, e⟩⟩, fun m u l hm => by omega⟩, ?_⟩
  · exact (((h6.rb hin.script.bytes hin.script.small).keeps h7).chg x2 (fun b hb e => by omega)).mono (fun b hb => .inr hb)
  · exact (((hvs.each m u l hu hlm).keeps hk).chg x2 (fun b (hb : b < _) e => by omega)).mono (fun b hb => .inr hb)
  · intro k r hk hr b e e2
    rw [List.getElem?_set_ne (by omega), List.getElem?_set_ne (by omega)] at hr
    have hkl : k < d.ins.length := by
      have := (List.getElem?_eq_some_iff.1 hd).1
      omega
    have h1 := (h.e.done k r _ hk hr (List.getElem?_eq_getElem hkl)).wit.foot b e2
    have h2 := h.e.fresh b (.inr h1)
    have h3 := hn b e
    omega
/-- behind the store of an item -/
theorem clo_item {w wr W2 : World} {p : Nat} {d : TxD} {S T : Nat → Prop} {v vo : Value} {i j : Nat} {cs : List Value} {ps : List (Value × Value)} {cs2 ps2 : List Value} {x : InD} {v6 u : Value} {vs : List Value} {gw ow n7 c7 : Nat}
    (h : CloSt w p d S T wr v vo i (i + 1) cs ps cs2 ps2) (hq : ps[i]? = some (v6, .slice (some ⟨gw, ow, none⟩) n7 c7)) (hh : Half S T w.heap.size wr j v6 (.slice (some ⟨gw, ow, none⟩) n7 c7) x vs)
    (ha : ∀ (k : Nat) (r : Value × Value), k < i → ps[k]? = some r → ∀ b, (Value.slice (some ⟨gw, ow, none⟩) n7 c7).ownBlock = some b → r.2.ownBlock ≠ some b) (hj : j < x.wit.length) (L : List Int) (hLL : L = x.wit.getD j []) (hl : L.length ≤ 140737488355328) (hby : Bytes L)
    (h2 : Own wr W2 u L.length L) :
    ∃ S' T' vs', CloSt w p d S' T' (W2.setCell ⟨gw, ow + j, none⟩ u) v vo i (i + 1) cs ps cs2 ps2 ∧ Half S' T' w.heap.size (W2.setCell ⟨gw, ow + j, none⟩ u) (j + 1) v6 (.slice (some ⟨gw, ow, none⟩) n7 c7) x vs' := by
  subst hLL
  have hT : T gw := hh.wit.foot gw rfl
  have hf := h.e.fresh gw (.inr hT)
  have s1 := h.grow h2.keeps (S1 := fun b => wr.heap.size ≤ b ∧ b < W2.heap.size) (T1 := NoneB) (fun b hb => by rcases hb with hb | hb; exact hb; exact hb.elim) (fun b h1 h2 => h2)
  have hh1 := ((hh.keeps h2.keeps).mono (S' := fun b => S b ∨ (wr.heap.size ≤ b ∧ b < W2.heap.size)) (T' := fun b => T b ∨ NoneB b) (fun _ => .inl) (fun _ => .inl))
  refine ⟨_, _, _, s1.item u (.inl hT) (fun k q hk hq e => ha k q hk hq gw rfl e), hh1.put hj u ((h2.rb hby hl).mono (fun _ => .inr)) (fun b hb e => ?_) (by omega)⟩
  rcases hb with hb | hb
  · exact h.e.disj b hb (by rw [e]; exact hT)
  · omega
set_option maxRecDepth 100000 in
set_option maxHeartbeats 8000000 in
theorem clone_any (S0 T0 R0 : Nat → Prop) (d : TxD) (iv ov : Value) (w : World) (h : RTx S0 T0 R0 w iv ov d) (hS0 : ∀ g, S0 g → g < w.heap.size) (hT0 : ∀ g, T0 g → g < w.heap.size) :
    Calls Try.prog 17 #[.agg #[.int .i32 d.ver, iv, ov, .int .u32 d.lock]] w fun e w' => ∃ iv' ov', e = .returned (.agg #[.int .i32 d.ver, iv', ov', .int .u32 d.lock]) ∧ Keeps w w' ∧ ∃ S' T', OwnTx S' T' w.heap.size w' iv' ov' d := by
  obtain ⟨hver, hlock, hin, hout⟩ := h
  obtain ⟨ia, ic, rfl, -⟩ := hin.any
  obtain ⟨oa, oc, rfl, -⟩ := hout.any
  have hins : d.ins.length * 96 ≤ 140737488355328 := by obtain ⟨_, _, h⟩ := hin; exact h.small
  have hons : d.outs.length * 32 ≤ 140737488355328 := by obtain ⟨_, _, h⟩ := hout; exact h.small
  obtain ⟨cs, ps, hri⟩ := hin.low hS0 hT0
  obtain ⟨cs2, ps2, hro⟩ := hout.mono (S' := Low w.heap.size) (R' := AnyB) hS0 (fun _ _ => trivial)
  have h1in := seg_cells hri.rd.1 hri.plen (fun k p x a b => ⟨(hri.each k p x a b).2, (hri.each k p x a b).1.script.one, (hri.each k p x a b).1.wit.one⟩)
  have h1out := seg_cells2 hro.rd.1 hro.plen (fun k p x a b => ⟨(hro.each k p x a b).2.2, (hro.each k p x a b).1.one⟩)
  have HRI := Lib.hid hri; have HRO := Lib.hid hro; have H1I := Lib.hid h1in; have H1O := Lib.hid h1out
  clear hin hout hri hro h1in h1out
  go_enter Try.func17, Try.ntmps17
  go_upto_region 1 with (fail)
  refine wp_rows2 (fun W0 hk hr1 hr2 hsz => ?_)
  simp only at hr1 hr2
  obtain ⟨p, hp⟩ : ∃ p, p = w.heap.size := ⟨_, rfl⟩
  rw [← hp] at hr1 hr2 hsz ⊢
  have HP := Lib.hid hp; have HSZ := Lib.hid hsz
  have HK := Lib.hid hk; have HR1 := Lib.hid hr1; have HR2 := Lib.hid hr2
  have hce : ∀ W, Keeps W0 W → W.cell? ⟨p, 1, none⟩ = some (.slice ia d.ins.length ic) ∧ W.cell? ⟨p, 2, none⟩ = some (.slice oa d.outs.length oc) := fun W hk => by
    obtain ⟨_, h1, h2, _⟩ := (hr1.keeps hk).cell4
    exact ⟨h1, h2⟩
  have HCE := Lib.hid hce
  clear hk hr1 hr2 hp hsz hce
  refine wp_region_head (S := fun W => Hid ((fun W => Keeps W0 W ∧ W.cell? ⟨p, 1, none⟩ = some (.slice ia d.ins.length ic) ∧ W.cell? ⟨p, 2, none⟩ = some (.slice oa d.outs.length oc)) W)) 7 (by kernel_rfl) (by kernel_rfl) ?_ (fun hHeld => ?_)
  focus exact Lib.hid ⟨keeps_drew (Keeps.refl _), HCE.out _ (keeps_drew (Keeps.refl _))⟩
  refine wpAnyHL_take (i := 0) (oi := ?_) (v := ?_) ?_ ?_ ?_ ?_ ?_ ?_ ?_ ?_ ?_ (Or.inl ⟨?_, ?_⟩) ?_ ?_
  rotate_left 2
  focus (simp only [List.getElem?_toArray, List.getElem?_cons_succ, List.getElem?_cons_zero]; exact rfl)
  focus kernel_rfl
  focus kernel_rfl
  focus kernel_rfl
  focus kernel_rfl
  focus kernel_rfl
  focus kernel_rfl
  focus kernel_rfl
  focus (exact fun _ _ _ h => h)
  focus rfl
  focus ((intro wSw hSw; (have hSw := hSw.out); (try dsimp only at hSw); go_simp) <;> with_reducible rfl)
  focus assumption
  try simp only [Act.put, List.setIfInBounds_toArray, List.set_cons_zero, List.set_cons_succ]
  refine wpAnyHL_take (i := 1) (oi := ?_) (v := ?_) ?_ ?_ ?_ ?_ ?_ ?_ ?_ ?_ ?_ (Or.inl ⟨?_, ?_⟩) ?_ ?_
  rotate_left 2
  focus (simp only [List.getElem?_toArray, List.getElem?_cons_succ, List.getElem?_cons_zero]; exact rfl)
  focus kernel_rfl
  focus kernel_rfl
  focus kernel_rfl
  focus kernel_rfl
  focus kernel_rfl
  focus kernel_rfl
  focus kernel_rfl
  focus (exact fun _ _ _ h => h)
  focus rfl
  focus ((intro wSw hSw; (have hSw := hSw.out); (try dsimp only at hSw); go_simp) <;> with_reducible rfl)
  focus assumption
  try simp only [Act.put, List.setIfInBounds_toArray, List.set_cons_zero, List.set_cons_succ]
  refine wpAnyHL_take (i := 3) (oi := ?_) (v := ?_) ?_ ?_ ?_ ?_ ?_ ?_ ?_ ?_ ?_ (Or.inl ⟨?_, ?_⟩) ?_ ?_
  rotate_left 2
  focus (simp only [List.getElem?_toArray, List.getElem?_cons_succ, List.getElem?_cons_zero]; exact rfl)
  focus kernel_rfl
  focus kernel_rfl
  focus kernel_rfl
  focus kernel_rfl
  focus kernel_rfl
  focus kernel_rfl
  focus kernel_rfl
  focus (exact fun _ _ _ h => h)
  focus rfl
  focus ((intro wSw hSw; (have hSw := hSw.out); (try dsimp only at hSw); go_simp) <;> with_reducible rfl)
  focus assumption
  try simp only [Act.put, List.setIfInBounds_toArray, List.set_cons_zero, List.set_cons_succ]
  refine wpAnyHL_take (i := 4) (oi := ?_) (v := ?_) ?_ ?_ ?_ ?_ ?_ ?_ ?_ ?_ ?_ (Or.inl ⟨?_, ?_⟩) ?_ ?_
  rotate_left 2
  focus (simp only [List.getElem?_toArray, List.getElem?_cons_succ, List.getElem?_cons_zero]; exact rfl)
  focus kernel_rfl
  focus kernel_rfl
  focus kernel_rfl
  focus kernel_rfl
  focus kernel_rfl
  focus kernel_rfl
  focus kernel_rfl
  focus (exact fun _ _ _ h => h)
  focus rfl
  focus ((intro wSw hSw; (have hSw := hSw.out); (try dsimp only at hSw); go_simp) <;> with_reducible rfl)
  focus assumption
  try simp only [Act.put, List.setIfInBounds_toArray, List.set_cons_zero, List.set_cons_succ]
  refine wpAnyHL_one (i := 2) (o := ?_) (by kernel_rfl) (by kernel_rfl) ?_ ?_
  rotate_left 1
  focus (simp only [List.getElem?_toArray, List.getElem?_cons_succ, List.getElem?_cons_zero]; exact rfl)
  go_wp2_with (go_at_call 44; refine (sclIn_any _ _ cs _ (HRI.out.rd.keeps (HK.out.trans hHeld.out.1)) H1I.out hins).mono ?_; rintro e W2 ⟨v2, rfl, hk2, hb2, hn2⟩; obtain ⟨a2, c2, rfl, -⟩ := hb2.any; have HK2 := Lib.hid hk2; have HB2 := Lib.hid hb2; have HN2 := Lib.hid hn2; clear hk2 hb2 hn2)
  try dsimp only [StepQ]
  refine ⟨?_, fun hHeld => ?_⟩
  focus (exact Lib.hid (⟨hHeld.out.1.trans HK2.out, HCE.out _ (hHeld.out.1.trans HK2.out)⟩))
  try simp only [Act.put, List.setIfInBounds_toArray, List.set_cons_zero, List.set_cons_succ]
  refine wpAnyHL_take (i := 6) (oi := ?_) (v := ?_) ?_ ?_ ?_ ?_ ?_ ?_ ?_ ?_ ?_ (Or.inl ⟨?_, ?_⟩) ?_ ?_
  rotate_left 2
  focus (simp only [List.getElem?_toArray, List.getElem?_cons_succ, List.getElem?_cons_zero]; exact rfl)
  focus kernel_rfl
  focus kernel_rfl
  focus kernel_rfl
  focus kernel_rfl
  focus kernel_rfl
  focus kernel_rfl
  focus kernel_rfl
  focus (exact fun _ _ _ h => h)
  focus rfl
  focus ((intro wSw hSw; (have hSw := hSw.out); (try dsimp only at hSw); go_simp) <;> with_reducible rfl)
  focus assumption
  try simp only [Act.put, List.setIfInBounds_toArray, List.set_cons_zero, List.set_cons_succ]
  refine wpAnyHL_one (i := 5) (o := ?_) (by kernel_rfl) (by kernel_rfl) ?_ ?_
  rotate_left 1
  focus (simp only [List.getElem?_toArray, List.getElem?_cons_succ, List.getElem?_cons_zero]; exact rfl)
  go_wp2_with (go_at_call 45; refine (sclOut_any _ _ cs2 _ (HRO.out.rd.keeps (HK.out.trans hHeld.out.1)) H1O.out hons).mono ?_; rintro e W3 ⟨v3, rfl, hk3, hb3, hn3⟩; obtain ⟨a3, c3, rfl, -⟩ := hb3.any; have HK3 := Lib.hid hk3; have HB3 := Lib.hid hb3; have HN3 := Lib.hid hn3; clear hk3 hb3 hn3)
  try dsimp only [StepQ]
  refine ⟨?_, fun hHeld => ?_⟩
  focus (exact Lib.hid (⟨hHeld.out.1.trans HK3.out, HCE.out _ (hHeld.out.1.trans HK3.out)⟩))
  try simp only [Act.put, List.setIfInBounds_toArray, List.set_cons_zero, List.set_cons_succ]
  refine wpAnyHL_done (by kernel_rfl) ?_
  try simp only [List.drop_succ_cons, List.drop_zero]
  have HK03 := Lib.hid hHeld.out.1
  obtain ⟨b1, b2⟩ := HCE.out _ HK03.out
  have f1 := ((HR1.out.keeps HK03.out) 1 _ rfl).2
  have f2 := ((HR1.out.keeps HK03.out) 2 _ rfl).2
  simp only [Nat.zero_add] at f1 f2
  go_upto_region 2 with (fail)
  have hst : CloSt w p d NoneB NoneB ((W3.setCell ⟨p, 1, none⟩ (.slice a2 d.ins.length c2)).setCell ⟨p, 2, none⟩ (.slice a3 d.outs.length c3)) (.slice a2 d.ins.length c2) (.slice a3 d.outs.length c3) 0 0 cs ps cs2 ps2 := by
    have hpe := HP.out; have hsz := HSZ.out
    have x1 := Chg.cell (W := W3) p 1 (.slice a2 d.ins.length c2)
    have x2 := Chg.cell (W := W3.setCell ⟨p, 1, none⟩ (.slice a2 d.ins.length c2)) p 2 (.slice a3 d.outs.length c3)
    have x12 := x1.trans x2
    have k2s := HK2.out.size; have k3s := HK3.out.size; have h0s : W0.drew.heap.size = W0.heap.size := rfl
    have r1 := ((HR1.out.keeps HK03.out).set 1 (by simp) (.slice a2 d.ins.length c2)).set 2 (by simp) (.slice a3 d.outs.length c3)
    have n2 : ∀ g, (Value.slice a2 d.ins.length c2).ownBlock = some g → W0.heap.size ≤ g ∧ g < W2.heap.size := fun g e => ⟨by have := HN2.out g e; omega, HB2.out.lt e⟩
    have n3 : ∀ g, (Value.slice a3 d.outs.length c3).ownBlock = some g → W2.heap.size ≤ g ∧ g < W3.heap.size := fun g e => ⟨HN3.out g e, HB3.out.lt e⟩
    have kl : Keeps w W3 := HK.out.trans HK03.out
    have hsz3 : ((W3.setCell ⟨p, 1, none⟩ (.slice a2 d.ins.length c2)).setCell ⟨p, 2, none⟩ (.slice a3 d.outs.length c3)).heap.size = W3.heap.size := by simp
    refine ⟨keeps_chg kl x12 (by omega), by simpa using r1, ((HR2.out.keeps HK03.out).chg x12 (by omega)), ⟨(HB2.out.rd.keeps HK3.out).chg x12 (fun g e e2 => by have := n2 g e; omega), HRI.out.plen, fun k q x a b => (HRI.out.each k q x a b).2⟩, ⟨fun k q x hk => by omega, fun k q x _ a b => ((HRI.out.each k q x a b).1.keeps kl).chg x12 (fun g (hg : g < _) e => by omega) (fun g (hg : g < _) e => by omega), fun a b q r ha => by omega, fun g hg => hg.elim (fun h => h.elim) (fun h => h.elim), fun g hg => hg.elim⟩, fun g e => ⟨by have := n2 g e; omega, by have := n2 g e; rw [hsz3]; omega, fun h => h.elim, fun h => h.elim⟩, ⟨HB3.out.rd.chg x12 (fun g e e2 => by have := n3 g e; omega), HRO.out.plen, fun k q x a b => (HRO.out.each k q x a b).2, fun k q x hk => by omega, fun k q x _ a b => ((HRO.out.each k q x a b).1.keeps kl).chg x12 (fun g (hg : g < _) e => by omega), fun g hg => hg.elim⟩, fun g e => ⟨by have := n3 g e; omega, by have := n3 g e; rw [hsz3]; omega, fun h => h.elim, fun h => h.elim, fun e2 => by have h1 := n3 g e; have h2 := n2 g e2; omega⟩, hpe⟩
  have HST := Lib.hid hst
  clear hst b1 b2 f1 f2 HB2 HB3 HN2 HN3 HK2 HK3 HK03 HCE HR1 HR2 HK HRI HRO H1I H1O HSZ
  generalize (W3.setCell ⟨p, 1, none⟩ (.slice a2 d.ins.length c2)).setCell ⟨p, 2, none⟩ (.slice a3 d.outs.length c3) = WA at *
  obtain ⟨_, b1, b2, _⟩ := HST.out.row.cell4
  go_wp2
  go_loopw [18] (fun c wr => ∃ i : Nat, i ≤ d.ins.length ∧ c = .int .i64 i ∧ ∃ S T cs ps, Hid (CloSt w p d S T wr (.slice a2 d.ins.length c2) (.slice a3 d.outs.length c3) i i cs ps cs2 ps2)) (fun c _ => (d.ins.length - intOf c).toNat)
  case atStart => exact ⟨0, by omega, rfl, _, _, _, _, HST⟩
  case round =>
    obtain ⟨i, hi, rfl, S, T, cs, ps, HSR⟩ := hrel
    clear b1 b2
    by_cases hlt : i < d.ins.length
    · obtain ⟨x, hdx⟩ : ∃ x, d.ins[i]? = some x := ⟨_, List.getElem?_eq_getElem hlt⟩
      obtain ⟨g, off, ⟨sv, wv⟩, e2, hg, hpi, hrow⟩ := HSR.out.g.at hdx
      subst e2
      have hrin := HSR.out.e.todo i _ x (Nat.le_refl _) hpi hdx
      have HDX := Lib.hid hdx; have HPI := Lib.hid hpi; have HRIN := Lib.hid hrin; have HROW := Lib.hid hrow
      simp only at HRIN HROW
      obtain ⟨sa, sc, rfl, -⟩ := HRIN.out.script.any
      obtain ⟨wa, wc, rfl, -⟩ := HRIN.out.wit.any
      obtain ⟨_, b1, _, _⟩ := HSR.out.row.cell4
      clear hdx hpi hrin hrow
      have hat : ∀ W, Keeps wr W → W.cell? ⟨g, off + i * 36 + 33, none⟩ = some (.slice sa x.script.length sc) ∧ W.cell? ⟨g, off + i * 36 + 35, none⟩ = some (.slice wa x.wit.length wc) ∧ W.frozen? ⟨g, off + i * 36 + 33, none⟩ = false ∧ W.frozen? ⟨g, off + i * 36 + 35, none⟩ = false := fun W hk => by
        obtain ⟨_, h1, _, h2⟩ := at_index (HROW.out.keeps hk) HRIN.out.ok.hashLen
        obtain ⟨f1, f2, _⟩ := at_free (HROW.out.keeps hk) HRIN.out.ok.hashLen
        exact ⟨h1, h2, f1, f2⟩
      have HAT := Lib.hid hat
      clear hat HROW
      go_upto_region 6 with (fail)
      clear b1
      refine wp_region_head (S := fun W => Hid ((fun W => W.cell? ⟨g, off + i * 36 + 35, none⟩ = some (.slice wa x.wit.length wc)) W)) 15 (by kernel_rfl) (by kernel_rfl) ?_ (fun hHeld => ?_)
      focus exact Lib.hid (HAT.out _ (keeps_drew (Keeps.refl _))).2.1
      refine wpAnyHL_take (i := 0) (oi := ?_) (v := ?_) ?_ ?_ ?_ ?_ ?_ ?_ ?_ ?_ ?_ (Or.inl ⟨?_, ?_⟩) ?_ ?_
      rotate_left 2
      focus (simp only [List.getElem?_toArray, List.getElem?_cons_succ, List.getElem?_cons_zero]; exact rfl)
      focus kernel_rfl
      focus kernel_rfl
      focus kernel_rfl
      focus kernel_rfl
      focus kernel_rfl
      focus kernel_rfl
      focus kernel_rfl
      focus (exact fun _ _ _ h => h)
      focus rfl
      focus ((intro wSw hSw; (have hSw := hSw.out); (try dsimp only at hSw); go_simp) <;> with_reducible rfl)
      focus assumption
      try simp only [Act.put, List.setIfInBounds_toArray, List.set_cons_zero, List.set_cons_succ]
      refine wpAnyHL_take (i := 1) (oi := ?_) (v := ?_) ?_ ?_ ?_ ?_ ?_ ?_ ?_ ?_ ?_ (Or.inl ⟨?_, ?_⟩) ?_ ?_
      rotate_left 2
      focus (simp only [List.getElem?_toArray, List.getElem?_cons_succ, List.getElem?_cons_zero]; exact rfl)
      focus kernel_rfl
      focus kernel_rfl
      focus kernel_rfl
      focus kernel_rfl
      focus kernel_rfl
      focus kernel_rfl
      focus kernel_rfl
      focus (exact fun _ _ _ h => h)
      focus rfl
      focus ((intro wSw hSw; (have hSw := hSw.out); (try dsimp only at hSw); go_simp) <;> with_reducible rfl)
      focus assumption
      try simp only [Act.put, List.setIfInBounds_toArray, List.set_cons_zero, List.set_cons_succ]
      refine wpAnyHL_take (i := 2) (oi := ?_) (v := ?_) ?_ ?_ ?_ ?_ ?_ ?_ ?_ ?_ ?_ (Or.inl ⟨?_, ?_⟩) ?_ ?_
      rotate_left 2
      focus (simp only [List.getElem?_toArray, List.getElem?_cons_succ, List.getElem?_cons_zero]; exact rfl)
      focus kernel_rfl
      focus kernel_rfl
      focus kernel_rfl
      focus kernel_rfl
      focus kernel_rfl
      focus kernel_rfl
      focus kernel_rfl
      focus (exact fun _ _ _ h => h)
      focus rfl
      focus ((intro wSw hSw; (have hSw := hSw.out); (try dsimp only at hSw); go_simp) <;> with_reducible rfl)
      focus assumption
      try simp only [Act.put, List.setIfInBounds_toArray, List.set_cons_zero, List.set_cons_succ]
      refine wpAnyHL_take (i := 3) (oi := ?_) (v := ?_) ?_ ?_ ?_ ?_ ?_ ?_ ?_ ?_ ?_ (Or.inl ⟨?_, ?_⟩) ?_ ?_
      rotate_left 2
      focus (simp only [List.getElem?_toArray, List.getElem?_cons_succ, List.getElem?_cons_zero]; exact rfl)
      focus kernel_rfl
      focus kernel_rfl
      focus kernel_rfl
      focus kernel_rfl
      focus kernel_rfl
      focus kernel_rfl
      focus kernel_rfl
      focus (exact fun _ _ _ h => h)
      focus rfl
      focus ((intro wSw hSw; (have hSw := hSw.out); (try dsimp only at hSw); go_simp) <;> with_reducible rfl)
      focus assumption
      try simp only [Act.put, List.setIfInBounds_toArray, List.set_cons_zero, List.set_cons_succ]
      refine wpAnyHL_take (i := 4) (oi := ?_) (v := ?_) ?_ ?_ ?_ ?_ ?_ ?_ ?_ ?_ ?_ (Or.inl ⟨?_, ?_⟩) ?_ ?_
      rotate_left 2
      focus (simp only [List.getElem?_toArray, List.getElem?_cons_succ, List.getElem?_cons_zero]; exact rfl)
      focus kernel_rfl
      focus kernel_rfl
      focus kernel_rfl
      focus kernel_rfl
      focus kernel_rfl
      focus kernel_rfl
      focus kernel_rfl
      focus (exact fun _ _ _ h => h)
      focus rfl
      focus ((intro wSw hSw; (have hSw := hSw.out); (try dsimp only at hSw); go_simp) <;> with_reducible rfl)
      focus assumption
      try simp only [Act.put, List.setIfInBounds_toArray, List.set_cons_zero, List.set_cons_succ]
      refine wpAnyHL_take (i := 7) (oi := ?_) (v := ?_) ?_ ?_ ?_ ?_ ?_ ?_ ?_ ?_ ?_ (Or.inl ⟨?_, ?_⟩) ?_ ?_
      rotate_left 2
      focus (simp only [List.getElem?_toArray, List.getElem?_cons_succ, List.getElem?_cons_zero]; exact rfl)
      focus kernel_rfl
      focus kernel_rfl
      focus kernel_rfl
      focus kernel_rfl
      focus kernel_rfl
      focus kernel_rfl
      focus kernel_rfl
      focus (exact fun _ _ _ h => h)
      focus rfl
      focus ((intro wSw hSw; (have hSw := hSw.out); (try dsimp only at hSw); go_simp) <;> with_reducible rfl)
      focus assumption
      try simp only [Act.put, List.setIfInBounds_toArray, List.set_cons_zero, List.set_cons_succ]
      refine wpAnyHL_take (i := 8) (oi := ?_) (v := ?_) ?_ ?_ ?_ ?_ ?_ ?_ ?_ ?_ ?_ (Or.inl ⟨?_, ?_⟩) ?_ ?_
      rotate_left 2
      focus (simp only [List.getElem?_toArray, List.getElem?_cons_succ, List.getElem?_cons_zero]; exact rfl)
      focus kernel_rfl
      focus kernel_rfl
      focus kernel_rfl
      focus kernel_rfl
      focus kernel_rfl
      focus kernel_rfl
      focus kernel_rfl
      focus (exact fun _ _ _ h => h)
      focus rfl
      focus ((intro wSw hSw; (have hSw := hSw.out); (try dsimp only at hSw); go_simp) <;> with_reducible rfl)
      focus assumption
      try simp only [Act.put, List.setIfInBounds_toArray, List.set_cons_zero, List.set_cons_succ]
      refine wpAnyHL_take (i := 9) (oi := ?_) (v := ?_) ?_ ?_ ?_ ?_ ?_ ?_ ?_ ?_ ?_ (Or.inl ⟨?_, ?_⟩) ?_ ?_
      rotate_left 2
      focus (simp only [List.getElem?_toArray, List.getElem?_cons_succ, List.getElem?_cons_zero]; exact rfl)
      focus kernel_rfl
      focus kernel_rfl
      focus kernel_rfl
      focus kernel_rfl
      focus kernel_rfl
      focus kernel_rfl
      focus kernel_rfl
      focus (exact fun _ _ _ h => h)
      focus rfl
      focus ((intro wSw hSw; (have hSw := hSw.out); (try dsimp only at hSw); go_simp) <;> with_reducible rfl)
      focus assumption
      try simp only [Act.put, List.setIfInBounds_toArray, List.set_cons_zero, List.set_cons_succ]
      refine wpAnyHL_take (i := 10) (oi := ?_) (v := ?_) ?_ ?_ ?_ ?_ ?_ ?_ ?_ ?_ ?_ (Or.inl ⟨?_, ?_⟩) ?_ ?_
      rotate_left 2
      focus (simp only [List.getElem?_toArray, List.getElem?_cons_succ, List.getElem?_cons_zero]; exact rfl)
      focus kernel_rfl
      focus kernel_rfl
      focus kernel_rfl
      focus kernel_rfl
      focus kernel_rfl
      focus kernel_rfl
      focus kernel_rfl
      focus (exact fun _ _ _ h => h)
      focus rfl
      focus ((intro wSw hSw; (have hSw := hSw.out); (try dsimp only at hSw); go_simp) <;> with_reducible rfl)
      focus assumption
      try simp only [Act.put, List.setIfInBounds_toArray, List.set_cons_zero, List.set_cons_succ]
      refine wpAnyHL_one (i := 5) (o := ?_) (by kernel_rfl) (by kernel_rfl) ?_ ?_
      rotate_left 1
      focus (simp only [List.getElem?_toArray, List.getElem?_cons_succ, List.getElem?_cons_zero]; exact rfl)
      have c33 := (HAT.out _ (keeps_drew (Keeps.refl _))).1
      go_wp2
      try dsimp only [StepQ]
      refine ⟨?_, fun hHeld => ?_⟩
      focus (exact Lib.hid (hHeld.out))
      try simp only [Act.put, List.setIfInBounds_toArray, List.set_cons_zero, List.set_cons_succ]
      refine wpAnyHL_one (i := 6) (o := ?_) (by kernel_rfl) (by kernel_rfl) ?_ ?_
      rotate_left 1
      focus (simp only [List.getElem?_toArray, List.getElem?_cons_succ, List.getElem?_cons_zero]; exact rfl)
      clear c33
      go_wp2_with (go_at_call 46; refine (bclone_any _ _ x.script _ (HRIN.out.script.keeps (keeps_drew (Keeps.refl _))).rd HRIN.out.script.small).mono ?_; rintro e W6 ⟨v6, rfl, hO6⟩; obtain ⟨a6, c6, rfl⟩ := hO6.any; have HO6 := Lib.hid hO6; clear hO6)
      try dsimp only [StepQ]
      refine ⟨?_, fun hHeld => ?_⟩
      focus (exact Lib.hid ((HAT.out _ ((keeps_drew (Keeps.refl _)).trans HO6.out.keeps)).2.1))
      try simp only [Act.put, List.setIfInBounds_toArray, List.set_cons_zero, List.set_cons_succ]
      refine wpAnyHL_one (i := 11) (o := ?_) (by kernel_rfl) (by kernel_rfl) ?_ ?_
      rotate_left 1
      focus (simp only [List.getElem?_toArray, List.getElem?_cons_succ, List.getElem?_cons_zero]; exact rfl)
      obtain ⟨vs, hwl⟩ := HRIN.out.wit
      have HWL := Lib.hid hwl
      clear hwl
      go_wp2_with (go_at_call 47; refine (sclB_any _ _ vs _ (HWL.out.rd.keeps ((keeps_drew (Keeps.refl _)).trans HO6.out.keeps)) HWL.out.one HWL.out.small).mono ?_; rintro e W7 ⟨v7, rfl, hk7, hb7, hn7⟩; obtain ⟨a7, c7, rfl, -⟩ := hb7.any; have HK7 := Lib.hid hk7; have HB7 := Lib.hid hb7; have HN7 := Lib.hid hn7; clear hk7 hb7 hn7)
      try dsimp only [StepQ]
      refine ⟨?_, fun hHeld => ?_⟩
      focus (exact Lib.hid ((HAT.out _ (((keeps_drew (Keeps.refl _)).trans HO6.out.keeps).trans HK7.out)).2.1))
      try simp only [Act.put, List.setIfInBounds_toArray, List.set_cons_zero, List.set_cons_succ]
      refine wpAnyHL_one (i := 12) (o := ?_) (by kernel_rfl) (by kernel_rfl) ?_ ?_
      rotate_left 1
      focus (simp only [List.getElem?_toArray, List.getElem?_cons_succ, List.getElem?_cons_zero]; exact rfl)
      go_wp2
      try dsimp only [StepQ]
      refine ⟨?_, fun hHeld => ?_⟩
      focus (exact Lib.hid (hHeld.out))
      try simp only [Act.put, List.setIfInBounds_toArray, List.set_cons_zero, List.set_cons_succ]
      refine wpAnyHL_one (i := 13) (o := ?_) (by kernel_rfl) (by kernel_rfl) ?_ ?_
      rotate_left 1
      focus (simp only [List.getElem?_toArray, List.getElem?_cons_succ, List.getElem?_cons_zero]; exact rfl)
      go_wp2
      try dsimp only [StepQ]
      refine ⟨?_, fun hHeld => ?_⟩
      focus (exact Lib.hid (hHeld.out))
      try simp only [Act.put, List.setIfInBounds_toArray, List.set_cons_zero, List.set_cons_succ]
      have HKA := Lib.hid (((keeps_drew (Keeps.refl wr)).trans HO6.out.keeps).trans HK7.out)
      refine wpAnyHL_one (i := 14) (o := ?_) (by kernel_rfl) (by kernel_rfl) ?_ ?_
      rotate_left 1
      focus (simp only [List.getElem?_toArray, List.getElem?_cons_succ, List.getElem?_cons_zero]; exact rfl)
      obtain ⟨d1, d2, d3, d4⟩ := HAT.out _ HKA.out
      clear d2 d4
      go_wp2
      try dsimp only [StepQ]
      refine ⟨?_, fun hHeld => ?_⟩
      focus (exact Lib.hid ((by rw [World.cell?_setCell_other _ _ _ _ (by simp)]; exact (HAT.out _ HKA.out).2.1)))
      try simp only [Act.put, List.setIfInBounds_toArray, List.set_cons_zero, List.set_cons_succ]
      refine wpAnyHL_done (by kernel_rfl) ?_
      try simp only [List.drop_succ_cons, List.drop_zero]
      have d5 := hHeld.out
      have d6 : (W7.setCell ⟨g, off + i * 36 + 33, none⟩ (.slice a6 x.script.length c6)).frozen? ⟨g, off + i * 36 + 35, none⟩ = false := by rw [World.frozen?_setCell]; exact (HAT.out _ HKA.out).2.2.2
      clear d1 d3
      go_upto_region 7 with (fail)
      clear d5 d6
      have hown6 : Own wr W6 (.slice a6 x.script.length c6) x.script.length x.script := ⟨(keeps_drew (Keeps.refl wr)).trans HO6.out.keeps, HO6.out.buf, HO6.out.new⟩
      obtain ⟨S1, T1, cs1, ps1, hs1, hp1, hh1, ha1⟩ := clo_two HSR.out HDX.out HPI.out HRIN.out HWL.out hown6 HK7.out HB7.out HN7.out
      have HS1 := Lib.hid hs1; have HP1 := Lib.hid hp1; have HH1 := Lib.hid hh1; have HA1 := Lib.hid ha1
      clear hown6 hs1 hp1 hh1 ha1 HAT HSR HRIN HWL HO6 HK7 HB7 HN7 HPI HKA hHeld
      generalize (W7.setCell ⟨g, off + i * 36 + 33, none⟩ (.slice a6 x.script.length c6)).setCell ⟨g, off + i * 36 + 35, none⟩ (.slice a7 x.wit.length c7) = WB at *
      have hwit : x.wit.length * 24 ≤ 140737488355328 := HH1.out.wit.small
      obtain ⟨-, -, -, c35⟩ := at_index (HS1.out.rowAt HDX.out HP1.out) HH1.out.ok.hashLen
      go_wp2
      go_loopw [46] (fun c wr => ∃ j : Nat, j ≤ x.wit.length ∧ c = .int .i64 j ∧ ∃ S T vs, Hid (CloSt w p d S T wr (.slice (some ⟨g, off, none⟩) d.ins.length c2) (.slice a3 d.outs.length c3) i (i + 1) cs1 ps1 cs2 ps2) ∧ Hid (Half S T w.heap.size wr j (.slice a6 x.script.length c6) (.slice a7 x.wit.length c7) x vs)) (fun c _ => (x.wit.length - intOf c).toNat)
      case atStart => exact ⟨0, by omega, rfl, _, _, _, HS1, HH1⟩
      case round =>
        obtain ⟨j, hj, rfl, S, T, vs, HSJ, HHJ⟩ := hrel
        clear c35
        by_cases hltj : j < x.wit.length
        · obtain ⟨gw, ow, u, e7, hgw, hcell, hfroz, hvj, hrb⟩ := HHJ.out.wit.at j hltj
          subst e7
          obtain ⟨L, hL⟩ : ∃ L, L = x.wit.getD j [] := ⟨_, rfl⟩
          rw [← hL] at hrb
          have HLL := Lib.hid hL
          clear hL
          obtain ⟨ua, uc, rfl, -⟩ := hrb.any
          have HRB := Lib.hid hrb
          have hat : ∀ W, Keeps wr W → W.cell? ⟨g, off + i * 36 + 35, none⟩ = some (.slice (some ⟨gw, ow, none⟩) x.wit.length c7) ∧ W.cell? ⟨gw, ow + j, none⟩ = some (.slice ua L.length uc) ∧ W.frozen? ⟨gw, ow + j, none⟩ = false := fun W hk => by
            obtain ⟨_, _, _, h1⟩ := at_index ((HSJ.out.rowAt HDX.out HP1.out).keeps hk) HH1.out.ok.hashLen
            exact ⟨h1, (hk.cell (p := ⟨gw, ow + j, none⟩) hgw).trans hcell, (hk.frozen (p := ⟨gw, ow + j, none⟩) hgw).trans hfroz⟩
          have HAT := Lib.hid hat
          clear hat hcell hfroz hrb
          go_upto_region 10 with (fail)
          refine wp_region_head (S := fun W => Hid ((fun W => W.cell? ⟨g, off + i * 36 + 35, none⟩ = some (.slice (some ⟨gw, ow, none⟩) x.wit.length c7) ∧ W.cell? ⟨gw, ow + j, none⟩ = some (.slice ua L.length uc)) W)) 13 (by kernel_rfl) (by kernel_rfl) ?_ (fun hHeld => ?_)
          focus exact Lib.hid ⟨(HAT.out _ (keeps_drew (Keeps.refl _))).1, (HAT.out _ (keeps_drew (Keeps.refl _))).2.1⟩
          refine wpAnyHL_take (i := 0) (oi := ?_) (v := ?_) ?_ ?_ ?_ ?_ ?_ ?_ ?_ ?_ ?_ (Or.inl ⟨?_, ?_⟩) ?_ ?_
          rotate_left 2
          focus (simp only [List.getElem?_toArray, List.getElem?_cons_succ, List.getElem?_cons_zero]; exact rfl)
          focus kernel_rfl
          focus kernel_rfl
          focus kernel_rfl
          focus kernel_rfl
          focus kernel_rfl
          focus kernel_rfl
          focus kernel_rfl
          focus (exact fun _ _ _ h => h)
          focus rfl
          focus ((intro wSw hSw; (have hSw := hSw.out); (try dsimp only at hSw); go_simp) <;> with_reducible rfl)
          focus assumption
          try simp only [Act.put, List.setIfInBounds_toArray, List.set_cons_zero, List.set_cons_succ]
          refine wpAnyHL_take (i := 1) (oi := ?_) (v := ?_) ?_ ?_ ?_ ?_ ?_ ?_ ?_ ?_ ?_ (Or.inl ⟨?_, ?_⟩) ?_ ?_
          rotate_left 2
          focus (simp only [List.getElem?_toArray, List.getElem?_cons_succ, List.getElem?_cons_zero]; exact rfl)
          focus kernel_rfl
          focus kernel_rfl
          focus kernel_rfl
          focus kernel_rfl
          focus kernel_rfl
          focus kernel_rfl
          focus kernel_rfl
          focus (exact fun _ _ _ h => h)
          focus rfl
          focus ((intro wSw hSw; (have hSw := hSw.out); (try dsimp only at hSw); go_simp) <;> with_reducible rfl)
          focus assumption
          try simp only [Act.put, List.setIfInBounds_toArray, List.set_cons_zero, List.set_cons_succ]
          refine wpAnyHL_take (i := 2) (oi := ?_) (v := ?_) ?_ ?_ ?_ ?_ ?_ ?_ ?_ ?_ ?_ (Or.inl ⟨?_, ?_⟩) ?_ ?_
          rotate_left 2
          focus (simp only [List.getElem?_toArray, List.getElem?_cons_succ, List.getElem?_cons_zero]; exact rfl)
          focus kernel_rfl
          focus kernel_rfl
          focus kernel_rfl
          focus kernel_rfl
          focus kernel_rfl
          focus kernel_rfl
          focus kernel_rfl
          focus (exact fun _ _ _ h => h)
          focus rfl
          focus ((intro wSw hSw; (have hSw := hSw.out); (try dsimp only at hSw); go_simp) <;> with_reducible rfl)
          focus assumption
          try simp only [Act.put, List.setIfInBounds_toArray, List.set_cons_zero, List.set_cons_succ]
          refine wpAnyHL_take (i := 3) (oi := ?_) (v := ?_) ?_ ?_ ?_ ?_ ?_ ?_ ?_ ?_ ?_ (Or.inl ⟨?_, ?_⟩) ?_ ?_
          rotate_left 2
          focus (simp only [List.getElem?_toArray, List.getElem?_cons_succ, List.getElem?_cons_zero]; exact rfl)
          focus kernel_rfl
          focus kernel_rfl
          focus kernel_rfl
          focus kernel_rfl
          focus kernel_rfl
          focus kernel_rfl
          focus kernel_rfl
          focus (exact fun _ _ _ h => h)
          focus rfl
          focus ((intro wSw hSw; (have hSw := hSw.out); (try dsimp only at hSw); go_simp) <;> with_reducible rfl)
          focus assumption
          try simp only [Act.put, List.setIfInBounds_toArray, List.set_cons_zero, List.set_cons_succ]
          refine wpAnyHL_take (i := 4) (oi := ?_) (v := ?_) ?_ ?_ ?_ ?_ ?_ ?_ ?_ ?_ ?_ (Or.inl ⟨?_, ?_⟩) ?_ ?_
          rotate_left 2
          focus (simp only [List.getElem?_toArray, List.getElem?_cons_succ, List.getElem?_cons_zero]; exact rfl)
          focus kernel_rfl
          focus kernel_rfl
          focus kernel_rfl
          focus kernel_rfl
          focus kernel_rfl
          focus kernel_rfl
          focus kernel_rfl
          focus (exact fun _ _ _ h => h)
          focus rfl
          focus ((intro wSw hSw; (have hSw := hSw.out); (try dsimp only at hSw); go_simp) <;> with_reducible rfl)
          focus assumption
          try simp only [Act.put, List.setIfInBounds_toArray, List.set_cons_zero, List.set_cons_succ]
          refine wpAnyHL_take (i := 5) (oi := ?_) (v := ?_) ?_ ?_ ?_ ?_ ?_ ?_ ?_ ?_ ?_ (Or.inl ⟨?_, ?_⟩) ?_ ?_
          rotate_left 2
          focus (simp only [List.getElem?_toArray, List.getElem?_cons_succ, List.getElem?_cons_zero]; exact rfl)
          focus kernel_rfl
          focus kernel_rfl
          focus kernel_rfl
          focus kernel_rfl
          focus kernel_rfl
          focus kernel_rfl
          focus kernel_rfl
          focus (exact fun _ _ _ h => h)
          focus rfl
          focus ((intro wSw hSw; (have hSw := hSw.out); (try dsimp only at hSw); go_simp) <;> with_reducible rfl)
          focus assumption
          try simp only [Act.put, List.setIfInBounds_toArray, List.set_cons_zero, List.set_cons_succ]
          refine wpAnyHL_take (i := 6) (oi := ?_) (v := ?_) ?_ ?_ ?_ ?_ ?_ ?_ ?_ ?_ ?_ (Or.inl ⟨?_, ?_⟩) ?_ ?_
          rotate_left 2
          focus (simp only [List.getElem?_toArray, List.getElem?_cons_succ, List.getElem?_cons_zero]; exact rfl)
          focus kernel_rfl
          focus kernel_rfl
          focus kernel_rfl
          focus kernel_rfl
          focus kernel_rfl
          focus kernel_rfl
          focus kernel_rfl
          focus (exact fun _ _ _ h => h)
          focus rfl
          focus ((intro wSw hSw; (have hSw := hSw.out); (try dsimp only at hSw); go_simp) <;> with_reducible rfl)
          focus assumption
          try simp only [Act.put, List.setIfInBounds_toArray, List.set_cons_zero, List.set_cons_succ]
          refine wpAnyHL_take (i := 7) (oi := ?_) (v := ?_) ?_ ?_ ?_ ?_ ?_ ?_ ?_ ?_ ?_ (Or.inl ⟨?_, ?_⟩) ?_ ?_
          rotate_left 2
          focus (simp only [List.getElem?_toArray, List.getElem?_cons_succ, List.getElem?_cons_zero]; exact rfl)
          focus kernel_rfl
          focus kernel_rfl
          focus kernel_rfl
          focus kernel_rfl
          focus kernel_rfl
          focus kernel_rfl
          focus kernel_rfl
          focus (exact fun _ _ _ h => h)
          focus rfl
          focus ((intro wSw hSw; (have hSw := hSw.out); (try dsimp only at hSw); go_simp) <;> with_reducible rfl)
          focus assumption
          try simp only [Act.put, List.setIfInBounds_toArray, List.set_cons_zero, List.set_cons_succ]
          refine wpAnyHL_take (i := 8) (oi := ?_) (v := ?_) ?_ ?_ ?_ ?_ ?_ ?_ ?_ ?_ ?_ (Or.inl ⟨?_, ?_⟩) ?_ ?_
          rotate_left 2
          focus (simp only [List.getElem?_toArray, List.getElem?_cons_succ, List.getElem?_cons_zero]; exact rfl)
          focus kernel_rfl
          focus kernel_rfl
          focus kernel_rfl
          focus kernel_rfl
          focus kernel_rfl
          focus kernel_rfl
          focus kernel_rfl
          focus (exact fun _ _ _ h => h)
          focus rfl
          focus ((intro wSw hSw; (have hSw := hSw.out); (try dsimp only at hSw); go_simp) <;> with_reducible rfl)
          focus assumption
          try simp only [Act.put, List.setIfInBounds_toArray, List.set_cons_zero, List.set_cons_succ]
          refine wpAnyHL_take (i := 9) (oi := ?_) (v := ?_) ?_ ?_ ?_ ?_ ?_ ?_ ?_ ?_ ?_ (Or.inl ⟨?_, ?_⟩) ?_ ?_
          rotate_left 2
          focus (simp only [List.getElem?_toArray, List.getElem?_cons_succ, List.getElem?_cons_zero]; exact rfl)
          focus kernel_rfl
          focus kernel_rfl
          focus kernel_rfl
          focus kernel_rfl
          focus kernel_rfl
          focus kernel_rfl
          focus kernel_rfl
          focus (exact fun _ _ _ h => h)
          focus rfl
          focus ((intro wSw hSw; (have hSw := hSw.out); (try dsimp only at hSw); go_simp) <;> with_reducible rfl)
          focus assumption
          try simp only [Act.put, List.setIfInBounds_toArray, List.set_cons_zero, List.set_cons_succ]
          refine wpAnyHL_take (i := 10) (oi := ?_) (v := ?_) ?_ ?_ ?_ ?_ ?_ ?_ ?_ ?_ ?_ (Or.inl ⟨?_, ?_⟩) ?_ ?_
          rotate_left 2
          focus (simp only [List.getElem?_toArray, List.getElem?_cons_succ, List.getElem?_cons_zero]; exact rfl)
          focus kernel_rfl
          focus kernel_rfl
          focus kernel_rfl
          focus kernel_rfl
          focus kernel_rfl
          focus kernel_rfl
          focus kernel_rfl
          focus (exact fun _ _ _ h => h)
          focus rfl
          focus ((intro wSw hSw; (have hSw := hSw.out); (try dsimp only at hSw); go_simp) <;> with_reducible rfl)
          focus assumption
          try simp only [Act.put, List.setIfInBounds_toArray, List.set_cons_zero, List.set_cons_succ]
          refine wpAnyHL_take (i := 11) (oi := ?_) (v := ?_) ?_ ?_ ?_ ?_ ?_ ?_ ?_ ?_ ?_ (Or.inl ⟨?_, ?_⟩) ?_ ?_
          rotate_left 2
          focus (simp only [List.getElem?_toArray, List.getElem?_cons_succ, List.getElem?_cons_zero]; exact rfl)
          focus kernel_rfl
          focus kernel_rfl
          focus kernel_rfl
          focus kernel_rfl
          focus kernel_rfl
          focus kernel_rfl
          focus kernel_rfl
          focus (exact fun _ _ _ h => h)
          focus rfl
          focus ((intro wSw hSw; (have hSw := hSw.out); (try dsimp only at hSw); go_simp) <;> with_reducible rfl)
          focus assumption
          try simp only [Act.put, List.setIfInBounds_toArray, List.set_cons_zero, List.set_cons_succ]
          refine wpAnyHL_one (i := 12) (o := ?_) (by kernel_rfl) (by kernel_rfl) ?_ ?_
          rotate_left 1
          focus (simp only [List.getElem?_toArray, List.getElem?_cons_succ, List.getElem?_cons_zero]; exact rfl)
          go_wp2_with (go_at_call 46; refine (bclone_any _ _ L _ (HRB.out.keeps (keeps_drew (Keeps.refl _))).rd HRB.out.small).mono ?_; rintro e W2 ⟨v9, rfl, hO9⟩; obtain ⟨a9, c9, rfl⟩ := hO9.any; have HO9 := Lib.hid hO9; clear hO9)
          have HKB := Lib.hid ((keeps_drew (Keeps.refl wr)).trans HO9.out.keeps)
          try dsimp only [StepQ]
          refine ⟨?_, fun hHeld => ?_⟩
          focus (exact Lib.hid (⟨(HAT.out _ HKB.out).1, (HAT.out _ HKB.out).2.1⟩))
          try simp only [Act.put, List.setIfInBounds_toArray, List.set_cons_zero, List.set_cons_succ]
          refine wpAnyHL_done (by kernel_rfl) ?_
          try simp only [List.drop_succ_cons, List.drop_zero]
          obtain ⟨-, k1, k2⟩ := HAT.out _ HKB.out
          go_wp2
          clear k1 k2
          have hown9 : Own wr W2 (.slice a9 L.length c9) L.length L := ⟨HKB.out, HO9.out.buf, HO9.out.new⟩
          obtain ⟨S3, T3, vs3, hs3, hh3⟩ := clo_item HSJ.out HP1.out HHJ.out HA1.out hltj L HLL.out HRB.out.small HRB.out.bytes hown9
          have HS3 := Lib.hid hs3; have HH3 := Lib.hid hh3
          clear hs3 hh3 hown9
          go_roundw
          case rel => exact ⟨j + 1, by omega, by go_num, _, _, _, HS3, HH3⟩
          case measure => simp [intOf]; omega
        · obtain rfl : j = x.wit.length := by omega
          have hcl := HSJ.out.close HP1.out HDX.out HHJ.out.full HA1.out
          have HCL := Lib.hid hcl
          clear hcl HSJ HHJ HS1 HH1 HP1 HA1
          go_wp2
          go_roundw
          case rel => exact ⟨i + 1, by omega, by go_num, _, _, _, _, HCL⟩
          case measure => simp [intOf]; omega
    · obtain rfl : i = d.ins.length := by omega
      have hso := HSR.out.outs hins
      have HSO := Lib.hid hso
      obtain ⟨_, _, b2, _⟩ := hso.row.cell4
      clear hso HSR
      generalize wr = wA at *
      go_wp2
      go_loopw [68] (fun c wr => ∃ j : Nat, j ≤ d.outs.length ∧ c = .int .i64 j ∧ ∃ S2 cs2 ps2, Hid (CloSu w p d S T S2 wr (.slice a2 d.ins.length c2) (.slice a3 d.outs.length c3) j cs2 ps2)) (fun c _ => (d.outs.length - intOf c).toNat)
      case atStart => exact ⟨0, by omega, rfl, _, _, _, HSO⟩
      case round =>
        obtain ⟨j, hj, rfl, S2, cs2, ps2, HSJ⟩ := hrel
        clear b2
        by_cases hltj : j < d.outs.length
        · obtain ⟨x, hdx⟩ : ∃ x, d.outs[j]? = some x := ⟨_, List.getElem?_eq_getElem hltj⟩
          obtain ⟨g, off, sv, e2, hg, hpi, hrow, hrb⟩ := HSJ.out.o.at hdx
          subst e2
          obtain ⟨sa, sc, rfl, -⟩ := hrb.any
          have HDX := Lib.hid hdx; have HRB := Lib.hid hrb
          have hat : ∀ W, Keeps wr W → W.cell? ⟨p, 2, none⟩ = some (.slice (some ⟨g, off, none⟩) d.outs.length c3) ∧ W.cell? ⟨g, off + j * 2 + 1, none⟩ = some (.slice sa x.script.length sc) ∧ W.frozen? ⟨g, off + j * 2 + 1, none⟩ = false := fun W hk => by
            obtain ⟨_, _, h1, _⟩ := (HSJ.out.row.keeps hk).cell4
            have h2 := (hrow.keeps hk) 1 _ rfl
            exact ⟨h1, h2.1, h2.2⟩
          have HAT := Lib.hid hat
          clear hat hdx hpi hrow hrb
          go_upto_region 16 with (fail)
          refine wp_region_head (S := fun W => Hid ((fun W => W.cell? ⟨p, 2, none⟩ = some (.slice (some ⟨g, off, none⟩) d.outs.length c3) ∧ W.cell? ⟨g, off + j * 2 + 1, none⟩ = some (.slice sa x.script.length sc)) W)) 10 (by kernel_rfl) (by kernel_rfl) ?_ (fun hHeld => ?_)
          focus exact Lib.hid ⟨(HAT.out _ (keeps_drew (Keeps.refl _))).1, (HAT.out _ (keeps_drew (Keeps.refl _))).2.1⟩
          refine wpAnyHL_take (i := 0) (oi := ?_) (v := ?_) ?_ ?_ ?_ ?_ ?_ ?_ ?_ ?_ ?_ (Or.inl ⟨?_, ?_⟩) ?_ ?_
          rotate_left 2
          focus (simp only [List.getElem?_toArray, List.getElem?_cons_succ, List.getElem?_cons_zero]; exact rfl)
          focus kernel_rfl
          focus kernel_rfl
          focus kernel_rfl
          focus kernel_rfl
          focus kernel_rfl
          focus kernel_rfl
          focus kernel_rfl
          focus (exact fun _ _ _ h => h)
          focus rfl
          focus ((intro wSw hSw; (have hSw := hSw.out); (try dsimp only at hSw); go_simp) <;> with_reducible rfl)
          focus assumption
          try simp only [Act.put, List.setIfInBounds_toArray, List.set_cons_zero, List.set_cons_succ]
          refine wpAnyHL_take (i := 1) (oi := ?_) (v := ?_) ?_ ?_ ?_ ?_ ?_ ?_ ?_ ?_ ?_ (Or.inl ⟨?_, ?_⟩) ?_ ?_
          rotate_left 2
          focus (simp only [List.getElem?_toArray, List.getElem?_cons_succ, List.getElem?_cons_zero]; exact rfl)
          focus kernel_rfl
          focus kernel_rfl
          focus kernel_rfl
          focus kernel_rfl
          focus kernel_rfl
          focus kernel_rfl
          focus kernel_rfl
          focus (exact fun _ _ _ h => h)
          focus rfl
          focus ((intro wSw hSw; (have hSw := hSw.out); (try dsimp only at hSw); go_simp) <;> with_reducible rfl)
          focus assumption
          try simp only [Act.put, List.setIfInBounds_toArray, List.set_cons_zero, List.set_cons_succ]
          refine wpAnyHL_take (i := 2) (oi := ?_) (v := ?_) ?_ ?_ ?_ ?_ ?_ ?_ ?_ ?_ ?_ (Or.inl ⟨?_, ?_⟩) ?_ ?_
          rotate_left 2
          focus (simp only [List.getElem?_toArray, List.getElem?_cons_succ, List.getElem?_cons_zero]; exact rfl)
          focus kernel_rfl
          focus kernel_rfl
          focus kernel_rfl
          focus kernel_rfl
          focus kernel_rfl
          focus kernel_rfl
          focus kernel_rfl
          focus (exact fun _ _ _ h => h)
          focus rfl
          focus ((intro wSw hSw; (have hSw := hSw.out); (try dsimp only at hSw); go_simp) <;> with_reducible rfl)
          focus assumption
          try simp only [Act.put, List.setIfInBounds_toArray, List.set_cons_zero, List.set_cons_succ]
          refine wpAnyHL_take (i := 3) (oi := ?_) (v := ?_) ?_ ?_ ?_ ?_ ?_ ?_ ?_ ?_ ?_ (Or.inl ⟨?_, ?_⟩) ?_ ?_
          rotate_left 2
          focus (simp only [List.getElem?_toArray, List.getElem?_cons_succ, List.getElem?_cons_zero]; exact rfl)
          focus kernel_rfl
          focus kernel_rfl
          focus kernel_rfl
          focus kernel_rfl
          focus kernel_rfl
          focus kernel_rfl
          focus kernel_rfl
          focus (exact fun _ _ _ h => h)
          focus rfl
          focus ((intro wSw hSw; (have hSw := hSw.out); (try dsimp only at hSw); go_simp) <;> with_reducible rfl)
          focus assumption
          try simp only [Act.put, List.setIfInBounds_toArray, List.set_cons_zero, List.set_cons_succ]
          refine wpAnyHL_take (i := 4) (oi := ?_) (v := ?_) ?_ ?_ ?_ ?_ ?_ ?_ ?_ ?_ ?_ (Or.inl ⟨?_, ?_⟩) ?_ ?_
          rotate_left 2
          focus (simp only [List.getElem?_toArray, List.getElem?_cons_succ, List.getElem?_cons_zero]; exact rfl)
          focus kernel_rfl
          focus kernel_rfl
          focus kernel_rfl
          focus kernel_rfl
          focus kernel_rfl
          focus kernel_rfl
          focus kernel_rfl
          focus (exact fun _ _ _ h => h)
          focus rfl
          focus ((intro wSw hSw; (have hSw := hSw.out); (try dsimp only at hSw); go_simp) <;> with_reducible rfl)
          focus assumption
          try simp only [Act.put, List.setIfInBounds_toArray, List.set_cons_zero, List.set_cons_succ]
          refine wpAnyHL_take (i := 5) (oi := ?_) (v := ?_) ?_ ?_ ?_ ?_ ?_ ?_ ?_ ?_ ?_ (Or.inl ⟨?_, ?_⟩) ?_ ?_
          rotate_left 2
          focus (simp only [List.getElem?_toArray, List.getElem?_cons_succ, List.getElem?_cons_zero]; exact rfl)
          focus kernel_rfl
          focus kernel_rfl
          focus kernel_rfl
          focus kernel_rfl
          focus kernel_rfl
          focus kernel_rfl
          focus kernel_rfl
          focus (exact fun _ _ _ h => h)
          focus rfl
          focus ((intro wSw hSw; (have hSw := hSw.out); (try dsimp only at hSw); go_simp) <;> with_reducible rfl)
          focus assumption
          try simp only [Act.put, List.setIfInBounds_toArray, List.set_cons_zero, List.set_cons_succ]
          refine wpAnyHL_take (i := 6) (oi := ?_) (v := ?_) ?_ ?_ ?_ ?_ ?_ ?_ ?_ ?_ ?_ (Or.inl ⟨?_, ?_⟩) ?_ ?_
          rotate_left 2
          focus (simp only [List.getElem?_toArray, List.getElem?_cons_succ, List.getElem?_cons_zero]; exact rfl)
          focus kernel_rfl
          focus kernel_rfl
          focus kernel_rfl
          focus kernel_rfl
          focus kernel_rfl
          focus kernel_rfl
          focus kernel_rfl
          focus (exact fun _ _ _ h => h)
          focus rfl
          focus ((intro wSw hSw; (have hSw := hSw.out); (try dsimp only at hSw); go_simp) <;> with_reducible rfl)
          focus assumption
          try simp only [Act.put, List.setIfInBounds_toArray, List.set_cons_zero, List.set_cons_succ]
          refine wpAnyHL_take (i := 7) (oi := ?_) (v := ?_) ?_ ?_ ?_ ?_ ?_ ?_ ?_ ?_ ?_ (Or.inl ⟨?_, ?_⟩) ?_ ?_
          rotate_left 2
          focus (simp only [List.getElem?_toArray, List.getElem?_cons_succ, List.getElem?_cons_zero]; exact rfl)
          focus kernel_rfl
          focus kernel_rfl
          focus kernel_rfl
          focus kernel_rfl
          focus kernel_rfl
          focus kernel_rfl
          focus kernel_rfl
          focus (exact fun _ _ _ h => h)
          focus rfl
          focus ((intro wSw hSw; (have hSw := hSw.out); (try dsimp only at hSw); go_simp) <;> with_reducible rfl)
          focus assumption
          try simp only [Act.put, List.setIfInBounds_toArray, List.set_cons_zero, List.set_cons_succ]
          refine wpAnyHL_take (i := 8) (oi := ?_) (v := ?_) ?_ ?_ ?_ ?_ ?_ ?_ ?_ ?_ ?_ (Or.inl ⟨?_, ?_⟩) ?_ ?_
          rotate_left 2
          focus (simp only [List.getElem?_toArray, List.getElem?_cons_succ, List.getElem?_cons_zero]; exact rfl)
          focus kernel_rfl
          focus kernel_rfl
          focus kernel_rfl
          focus kernel_rfl
          focus kernel_rfl
          focus kernel_rfl
          focus kernel_rfl
          focus (exact fun _ _ _ h => h)
          focus rfl
          focus ((intro wSw hSw; (have hSw := hSw.out); (try dsimp only at hSw); go_simp) <;> with_reducible rfl)
          focus assumption
          try simp only [Act.put, List.setIfInBounds_toArray, List.set_cons_zero, List.set_cons_succ]
          refine wpAnyHL_one (i := 9) (o := ?_) (by kernel_rfl) (by kernel_rfl) ?_ ?_
          rotate_left 1
          focus (simp only [List.getElem?_toArray, List.getElem?_cons_succ, List.getElem?_cons_zero]; exact rfl)
          go_wp2_with (go_at_call 46; refine (bclone_any _ _ x.script _ (HRB.out.keeps (keeps_drew (Keeps.refl _))).rd HRB.out.small).mono ?_; rintro e W2 ⟨v9, rfl, hO9⟩; obtain ⟨a9, c9, rfl⟩ := hO9.any; have HO9 := Lib.hid hO9; clear hO9)
          have HKB := Lib.hid ((keeps_drew (Keeps.refl wr)).trans HO9.out.keeps)
          try dsimp only [StepQ]
          refine ⟨?_, fun hHeld => ?_⟩
          focus (exact Lib.hid (⟨(HAT.out _ HKB.out).1, (HAT.out _ HKB.out).2.1⟩))
          try simp only [Act.put, List.setIfInBounds_toArray, List.set_cons_zero, List.set_cons_succ]
          refine wpAnyHL_done (by kernel_rfl) ?_
          try simp only [List.drop_succ_cons, List.drop_zero]
          obtain ⟨-, k1, k2⟩ := HAT.out _ HKB.out
          go_wp2
          clear k1 k2
          have hpu := HSJ.out.put HKB.out HDX.out (.slice a9 x.script.length c9) (HO9.out.rb HRB.out.bytes HRB.out.small) (fun b hb => hb)
          have HPU := Lib.hid hpu
          clear hpu
          go_roundw
          case rel => exact ⟨j + 1, by omega, by go_num, _, _, _, HPU⟩
          case measure => simp [intOf]; omega
        · obtain rfl : j = d.outs.length := by omega
          have HFIN := Lib.hid (HSJ.out.own hons hver hlock)
          have HRW := Lib.hid HSJ.out.row; have HRW2 := Lib.hid HSJ.out.row2; have HKF := Lib.hid HSJ.out.keeps
          clear HSJ HSO
          go_wp2_with (first | ((with_reducible refine gate_load 26 (.tmp 1) ?_); refine wpList_load_at rfl 26 (.tmp 1) rfl p 0 rfl _ _ HRW.out Try.underlying26 rfl (sz_tx _ _ _ _) ?_) | ((with_reducible refine gate_store 26 (.tmp 2) (.tmp 84) ?_); refine wpList_store_row rfl 26 (.tmp 2) (.tmp 84) rfl (p + 1) 0 rfl _ [.int .i32 d.ver, .slice a2 d.ins.length c2, .slice a3 d.outs.length c3, .int .u32 d.lock] rfl HRW2.out rfl (sz_tx _ _ _ _) (four_one _ _ _ _ _ _ _ _) ?_; intro W9 hr9 hc9; have HR9 := Lib.hid hr9; have HC9 := Lib.hid hc9; clear hr9 hc9))
          refine bodyPost_ret (results_cell_at rfl _ _ (p + 1) 0 _ _ (by simp only [Act.put, List.setIfInBounds_toArray, List.set_cons_zero, List.set_cons_succ]; rfl) HR9.out Try.underlying26 rfl (sz_tx _ _ _ _)) rfl ?_
          have hpp := HP.out
          exact ⟨_, _, rfl, keeps_chg HKF.out HC9.out (by omega), _, _, (HFIN.out.chg HC9.out (fun g e => .inl (by omega))).low (by omega)⟩
end Go.Proofs.Ytjfkkdkmpnpmpaa
