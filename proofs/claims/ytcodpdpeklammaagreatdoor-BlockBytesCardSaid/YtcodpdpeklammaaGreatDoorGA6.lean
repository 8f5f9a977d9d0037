/- The reference's Copy of a transaction. -/
import Derived.Test.YtcodpdpeklammaaGreatDoorGA5
namespace Go.Proofs.YtcodpdpeklammaaGreatDoor
set_option linter.unusedVariables false
set_option linter.unusedSimpArgs false
open Go Go.RowKit

theorem sz_tx (a b c d : Value) : (Tryz.prog.info? 46).map (·.size) = some [a, b, c, d].length := by kernel_rfl
theorem sz_point (d : InD) (h : d.hash.length = 32) : (Tryz.prog.info? 97).map (·.size) = some (pointCells d).length := by rw [pointCells_length d h]; kernel_rfl
theorem four_one {k k' : IntKind} (x y : Int) (a b : Option Addr) (n m c d : Nat) : ∀ u ∈ [Value.int k x, .slice a n c, .slice b m d, .int k' y], u.oneCell' = true := by
  intro u hu
  simp only [List.mem_cons, List.not_mem_nil, or_false] at hu
  rcases hu with rfl | rfl | rfl | rfl <;> rfl
theorem Row.cell4 {w : World} {b : Nat} {x y z u : Value} (h : Row w b 0 [x, y, z, u]) : w.cell? ⟨b, 0, none⟩ = some x ∧ w.cell? ⟨b, 1, none⟩ = some y ∧ w.cell? ⟨b, 2, none⟩ = some z ∧ w.cell? ⟨b, 3, none⟩ = some u := by
  refine ⟨?_, ?_, ?_, ?_⟩
  · have := (h 0 _ rfl).1; simpa using this
  · have := (h 1 _ rfl).1; simpa using this
  · have := (h 2 _ rfl).1; simpa using this
  · have := (h 3 _ rfl).1; simpa using this
theorem built_inCells (di : InD) (a b : Option Addr) (n m c e : Nat) (h : di.hash.length = 32) : Tryz.prog.built 100 [(0, .agg (pointCells di).toArray), (1, .slice a n c), (2, .int .u32 di.seq), (3, .slice b m e)] = some (inCells di (.slice a n c) (.slice b m e)).toArray := by
  rw [inCells_point]; exact built_in (pointCells di) a b n m c e di.seq (pointCells_length di h)
theorem chg_then {X Y : Nat → Prop} {a b c : World} (h : Chg X a b) (k : Chg Y b c) (hy : ∀ g, Y g → a.heap.size ≤ g ∨ X g) : Chg X a c :=
  ⟨k.os.trans h.os, k.tape.trans h.tape, k.output.trans h.output, Nat.le_trans h.size k.size, fun i hi hx => (k.block i (Nat.lt_of_lt_of_le hi h.size) (fun hyi => by rcases hy i hyi with e | e; omega; exact hx e)).trans (h.block i hi hx)⟩
/-- a transaction of one's own: S: bytes, T: lists of items; all lie in blocks from base on, apart from one another -/
structure OwnTx (S T : Nat → Prop) (base : Nat) (W : World) (iv ov : Value) (d : TxD) : Prop where
  ver : I32 d.ver
  lock : U32 d.lock
  ins : RInsA S T (fun g => iv.ownBlock = some g) W iv d.ins
  outs : ROutsX S (fun g => ov.ownBlock = some g) W ov d.outs
  fresh : ∀ g, S g ∨ T g ∨ iv.ownBlock = some g ∨ ov.ownBlock = some g → base ≤ g ∧ g < W.heap.size
  st : ∀ g, S g → ¬ T g
  iapart : ∀ g, S g ∨ T g → iv.ownBlock ≠ some g
  oapart : ∀ g, S g ∨ T g → ov.ownBlock ≠ some g
  io : ∀ g, iv.ownBlock = some g → ov.ownBlock ≠ some g
theorem OwnTx.chg {S T X : Nat → Prop} {base : Nat} {W W' : World} {iv ov : Value} {d : TxD} (h : OwnTx S T base W iv ov d) (hc : Chg X W W') (hx : ∀ g, X g → g < base ∨ W.heap.size ≤ g) : OwnTx S T base W' iv ov d :=
  have hn : ∀ g, S g ∨ T g ∨ iv.ownBlock = some g ∨ ov.ownBlock = some g → ¬ X g := fun g hg hxg => by have h1 := h.fresh g hg; have := hx g hxg; omega
  ⟨h.ver, h.lock, h.ins.chg hc (fun g hg => hn g (.inl hg)) (fun g hg => hn g (.inr (.inl hg))) (fun g hg => hn g (.inr (.inr (.inl hg)))), h.outs.chg hc (fun g hg => hn g (.inl hg)) (fun g hg => hn g (.inr (.inr (.inr hg)))),
    fun g hg => ⟨(h.fresh g hg).1, Nat.lt_of_lt_of_le (h.fresh g hg).2 hc.size⟩, h.st, h.iapart, h.oapart, h.io⟩
theorem OwnTx.low {S T : Nat → Prop} {base b : Nat} {W : World} {iv ov : Value} {d : TxD} (h : OwnTx S T base W iv ov d) (hb : b ≤ base) : OwnTx S T b W iv ov d :=
  ⟨h.ver, h.lock, h.ins, h.outs, fun g hg => ⟨Nat.le_trans hb (h.fresh g hg).1, (h.fresh g hg).2⟩, h.st, h.iapart, h.oapart, h.io⟩
theorem OwnTx.keeps {S T : Nat → Prop} {base : Nat} {W W' : World} {iv ov : Value} {d : TxD} (h : OwnTx S T base W iv ov d) (hk : Keeps W W') : OwnTx S T base W' iv ov d := h.chg (hk.chg (fun _ => False)) (fun _ h => h.elim)
theorem OwnTx.rtx {S T : Nat → Prop} {base : Nat} {W : World} {iv ov : Value} {d : TxD} (h : OwnTx S T base W iv ov d) : RTx AnyB AnyB AnyB W iv ov d := ⟨h.ver, h.lock, h.ins.x.mono (fun _ _ => trivial) (fun _ _ => trivial) (fun _ _ => trivial), h.outs.mono (fun _ _ => trivial) (fun _ _ => trivial)⟩
theorem wp_rows3 {P : Program} {c : Code} {Q : Exit → Act → World → Prop} {a : Act} {w : World} {A B C : Array Value} {T U V : TypeId}
    (h : ∀ W, Keeps w W → Row W w.heap.size 0 A.toList → Row W (w.heap.size + 1) 0 B.toList → Row W (w.heap.size + 1 + 1) 0 C.toList → W.heap.size = w.heap.size + 3 → Code.wp P c Q a W) :
    Code.wp P c Q a (((w.alloc (.cells A T)).alloc (.cells B U)).alloc (.cells C V)) := by
  have h0 := Row.new (w := w) A.toList A T (by simp)
  have h1 := Row.new (w := w.alloc (.cells A T)) B.toList B U (by simp)
  have h2 := Row.new (w := (w.alloc (.cells A T)).alloc (.cells B U)) C.toList C V (by simp)
  refine h _ (keeps_alloc (keeps_alloc (keeps_alloc (Keeps.refl w) _) _) _) ((h0.alloc _).alloc _) ?_ ?_ (by simp)
  · have := h1.alloc (.cells C V); simpa using this
  · simpa using h2
set_option maxRecDepth 100000 in
set_option maxHeartbeats 2000000 in
theorem rtcopy_any (S T R : Nat → Prop) (d : TxD) (iv ov : Value) (w : World) (h : RTx S T R w iv ov d) :
    Calls Tryz.prog 49 #[.agg #[.int .i32 d.ver, iv, ov, .int .u32 d.lock]] w fun e w' => ∃ iv' ov', e = .returned (.agg #[.int .i32 d.ver, iv', ov', .int .u32 d.lock]) ∧ Keeps w w' ∧ ∃ S' T', OwnTx S' T' w.heap.size w' iv' ov' d := by
  obtain ⟨hver, hlock, hin, hout⟩ := h
  have HI := Lib.hid hin; have HO := Lib.hid hout
  obtain ⟨ia, ic, rfl, _, hicm, hinil⟩ := hin.any
  obtain ⟨oa, oc, rfl, _, hocm, honil⟩ := hout.any
  have hins : d.ins.length * 96 ≤ 140737488355328 := by obtain ⟨_, _, h⟩ := hin; exact h.small
  have hons : d.outs.length * 32 ≤ 140737488355328 := by obtain ⟨_, _, h⟩ := hout; exact h.small
  clear hin hout
  go_enter Tryz.func49, Tryz.ntmps49
  go_upto_region 2 with (fail)
  refine wp_rows3 (fun W0 hk hr1 hr2 hr3 hsz => ?_)
  simp only at hr1 hr2 hr3
  obtain ⟨p, hp⟩ : ∃ p, p = w.heap.size := ⟨_, rfl⟩
  rw [← hp] at hr1 hr2 hr3 hsz ⊢
  have HP := Lib.hid hp; have HSZ := Lib.hid hsz
  have HK := Lib.hid hk; have HR1 := Lib.hid hr1; have HR2 := Lib.hid hr2; have HR3 := Lib.hid hr3
  clear hk hr1 hr2 hr3 hp hsz
  go_wp2
  go_loopw [4] (fun c wr => ∃ i : Nat, i ≤ d.ins.length ∧ c = .int .i64 i ∧ ∃ S1 T1 v cs ps, Chg (· = p + 1 + 1) W0 wr ∧ Row wr (p + 1 + 1) 0 [.int .i32 d.ver, v, .slice none 0 0, .int .u32 d.lock] ∧ OwnI S1 T1 W0.heap.size wr v (d.ins.take i) cs ps) (fun c _ => (d.ins.length - intOf c).toNat)
  case atStart => exact ⟨0, by omega, rfl, _, _, _, _, _, Chg.refl _ _, HR3.out, OwnI.nil _ _⟩
  case round =>
    obtain ⟨i, hi, rfl, S1, T1, v, cs, ps, hch, hro, hown⟩ := hrel
    have hkw : Keeps w wr := keeps_chg HK.out hch (by have := HP.out; omega)
    obtain ⟨b0, b1, b2, b3⟩ := (HR1.out.chg hch (by omega)).cell4
    by_cases hlt : i < d.ins.length
    · obtain ⟨g, off, sv, wv, di, rfl, hg, hdi, hrow, hrin⟩ := (HI.out.keeps hkw).at i hlt
      have HCH := Lib.hid hch; have HRO := Lib.hid hro; have HOWN := Lib.hid hown; have HROW := Lib.hid hrow; have HRIN := Lib.hid hrin; have HKW := Lib.hid hkw
      clear hch hro hown hrow hrin hkw
      have hil : (d.ins.take i).length = i := by simp; omega
      have hhl := HRIN.out.ok.hashLen
      obtain ⟨sa, sc, rfl, _⟩ := HRIN.out.script.any
      obtain ⟨wa, wc, rfl, _⟩ := HRIN.out.wit.any
      have hins2 : (i + 1) * 96 ≤ 140737488355328 := by omega
      have HHL := Lib.hid hhl; have HIL := Lib.hid hil
      clear hhl hil
      go_upto_region 6 with (first | (refine wpList_load_at rfl 100 (.tmp 22) rfl g (off + i * 36) rfl _ _ HROW.out Tryz.underlying100 rfl (sz_in _ _ _ HHL.out) ?_) | (refine wpList_store_row rfl 100 (.tmp 5) (.tmp 23) rfl _ 0 rfl zeroIn (inCells di _ _) rfl (Row.new _ _ _ rfl) (by rw [inCells_length _ _ _ HHL.out]; rfl) (sz_in _ _ _ HHL.out) (inCells_one _ _ _ rfl rfl) ?_; intro W5 hr5 hc5; have HR5 := Lib.hid hr5; have HC5 := Lib.hid hc5; clear hr5 hc5))
      have hk5 : Keeps wr W5 := keeps_chg (keeps_alloc (Keeps.refl _) _) HC5.out (Nat.le_refl _)
      have hro5 : ∀ W, Keeps W5 W → W.cell? ⟨p + 1 + 1, 1, none⟩ = some v ∧ W.cell? ⟨wr.heap.size, 33, none⟩ = some (.slice sa di.script.length sc) ∧ W.cell? ⟨wr.heap.size, 34, none⟩ = some (.int .u32 di.seq) ∧ W.cell? ⟨wr.heap.size, 35, none⟩ = some (.slice wa di.wit.length wc) := fun W hk => by
        obtain ⟨_, h1, _, _⟩ := ((HRO.out.keeps hk5).keeps hk).cell4
        obtain ⟨_, h2, h3, h4⟩ := at_index (HR5.out.keeps hk) HHL.out
        simp only [Nat.zero_add] at h2 h3 h4
        exact ⟨h1, h2, h3, h4⟩
      have hrp : ∀ W, Keeps W5 W → Row W wr.heap.size 0 (pointCells di) := fun W hk => by
        have := (HR5.out.keeps hk).take 33
        rw [inCells_point, List.take_append_of_le_length (by rw [pointCells_length _ HHL.out]; exact Nat.le_refl _), List.take_of_length_le (by rw [pointCells_length _ HHL.out]; exact Nat.le_refl _)] at this
        exact this
      have hq5 : wr.heap.size < W5.heap.size := HR5.out.lt (by unfold inCells; simp)
      have HK5 := Lib.hid hk5; have HS5 := Lib.hid hro5; have HRP := Lib.hid hrp
      clear hk5 hro5 hrp HC5
      obtain ⟨q, hq⟩ : ∃ q, q = wr.heap.size := ⟨_, rfl⟩
      rw [← hq] at HR5 HS5 HRP hq5 ⊢
      have HQ := Lib.hid hq; have HQ5 := Lib.hid hq5
      clear hq hq5
      refine wp_region_head (S := fun W => Hid ((fun W => Keeps W5 W ∧ W.cell? ⟨p + 1 + 1, 1, none⟩ = some v ∧ W.cell? ⟨q, 33, none⟩ = some (.slice sa di.script.length sc) ∧ W.cell? ⟨q, 34, none⟩ = some (.int .u32 di.seq) ∧ W.cell? ⟨q, 35, none⟩ = some (.slice wa di.wit.length wc)) W)) 14 (by kernel_rfl) (by kernel_rfl) ?_ (fun hHeld => ?_)
      focus exact Lib.hid ⟨keeps_drew (Keeps.refl _), HS5.out _ (keeps_drew (Keeps.refl _))⟩
      refine wpAnyHL_take (i := 0) (oi := ?_) (v := ?_) ?_ ?_ ?_ ?_ ?_ ?_ ?_ ?_ ?_ (Or.inl ⟨?_, ?_⟩) ?_ ?_
      rotate_left 2
      focus (simp only [List.getElem?_toArray, List.getElem?_cons_succ, List.getElem?_cons_zero]; exact rfl)
      iterate 7 focus kernel_rfl
      focus (exact fun _ _ _ h => h)
      focus rfl
      focus ((intro wSw hSw; (have hSw := hSw.out); (try dsimp only at hSw); go_simp) <;> with_reducible rfl)
      focus assumption
      try simp only [Act.put, List.setIfInBounds_toArray, List.set_cons_zero, List.set_cons_succ]
      refine wpAnyHL_take (i := 1) (oi := ?_) (v := ?_) ?_ ?_ ?_ ?_ ?_ ?_ ?_ ?_ ?_ (Or.inl ⟨?_, ?_⟩) ?_ ?_
      rotate_left 2
      focus (simp only [List.getElem?_toArray, List.getElem?_cons_succ, List.getElem?_cons_zero]; exact rfl)
      iterate 7 focus kernel_rfl
      focus (exact fun _ _ _ h => h)
      focus rfl
      focus ((intro wSw hSw; (have hSw := hSw.out); (try dsimp only at hSw); go_simp) <;> with_reducible rfl)
      focus assumption
      try simp only [Act.put, List.setIfInBounds_toArray, List.set_cons_zero, List.set_cons_succ]
      refine wpAnyHL_take (i := 2) (oi := ?_) (v := ?_) ?_ ?_ ?_ ?_ ?_ ?_ ?_ ?_ ?_ (Or.inl ⟨?_, ?_⟩) ?_ ?_
      rotate_left 2
      focus (simp only [List.getElem?_toArray, List.getElem?_cons_succ, List.getElem?_cons_zero]; exact rfl)
      iterate 7 focus kernel_rfl
      focus (exact fun _ _ _ h => h)
      focus rfl
      focus ((intro wSw hSw; (have hSw := hSw.out); (try dsimp only at hSw); go_simp) <;> with_reducible rfl)
      focus assumption
      try simp only [Act.put, List.setIfInBounds_toArray, List.set_cons_zero, List.set_cons_succ]
      refine wpAnyHL_take (i := 3) (oi := ?_) (v := ?_) ?_ ?_ ?_ ?_ ?_ ?_ ?_ ?_ ?_ (Or.inl ⟨?_, ?_⟩) ?_ ?_
      rotate_left 2
      focus (simp only [List.getElem?_toArray, List.getElem?_cons_succ, List.getElem?_cons_zero]; exact rfl)
      iterate 7 focus kernel_rfl
      focus (exact fun _ _ _ h => h)
      focus rfl
      focus (intro wSw hSw; (have hSw := hSw.out); (refine run_load_row 97 (.tmp 26) ?_ q 0 ?_ (pointCells di) _ (HRP.out _ hSw.1) Tryz.underlying97 rfl (sz_point _ HHL.out)) <;> rfl)
      focus assumption
      try simp only [Act.put, List.setIfInBounds_toArray, List.set_cons_zero, List.set_cons_succ]
      refine wpAnyHL_take (i := 4) (oi := ?_) (v := ?_) ?_ ?_ ?_ ?_ ?_ ?_ ?_ ?_ ?_ (Or.inl ⟨?_, ?_⟩) ?_ ?_
      rotate_left 2
      focus (simp only [List.getElem?_toArray, List.getElem?_cons_succ, List.getElem?_cons_zero]; exact rfl)
      iterate 7 focus kernel_rfl
      focus (exact fun _ _ _ h => h)
      focus rfl
      focus ((intro wSw hSw; (have hSw := hSw.out); (try dsimp only at hSw); go_simp) <;> with_reducible rfl)
      focus assumption
      try simp only [Act.put, List.setIfInBounds_toArray, List.set_cons_zero, List.set_cons_succ]
      refine wpAnyHL_take (i := 5) (oi := ?_) (v := ?_) ?_ ?_ ?_ ?_ ?_ ?_ ?_ ?_ ?_ (Or.inl ⟨?_, ?_⟩) ?_ ?_
      rotate_left 2
      focus (simp only [List.getElem?_toArray, List.getElem?_cons_succ, List.getElem?_cons_zero]; exact rfl)
      iterate 7 focus kernel_rfl
      focus (exact fun _ _ _ h => h)
      focus rfl
      focus ((intro wSw hSw; (have hSw := hSw.out); (try dsimp only at hSw); go_simp) <;> with_reducible rfl)
      focus assumption
      try simp only [Act.put, List.setIfInBounds_toArray, List.set_cons_zero, List.set_cons_succ]
      refine wpAnyHL_take (i := 7) (oi := ?_) (v := ?_) ?_ ?_ ?_ ?_ ?_ ?_ ?_ ?_ ?_ (Or.inl ⟨?_, ?_⟩) ?_ ?_
      rotate_left 2
      focus (simp only [List.getElem?_toArray, List.getElem?_cons_succ, List.getElem?_cons_zero]; exact rfl)
      iterate 7 focus kernel_rfl
      focus (exact fun _ _ _ h => h)
      focus rfl
      focus ((intro wSw hSw; (have hSw := hSw.out); (try dsimp only at hSw); go_simp) <;> with_reducible rfl)
      focus assumption
      try simp only [Act.put, List.setIfInBounds_toArray, List.set_cons_zero, List.set_cons_succ]
      refine wpAnyHL_take (i := 8) (oi := ?_) (v := ?_) ?_ ?_ ?_ ?_ ?_ ?_ ?_ ?_ ?_ (Or.inl ⟨?_, ?_⟩) ?_ ?_
      rotate_left 2
      focus (simp only [List.getElem?_toArray, List.getElem?_cons_succ, List.getElem?_cons_zero]; exact rfl)
      iterate 7 focus kernel_rfl
      focus (exact fun _ _ _ h => h)
      focus rfl
      focus ((intro wSw hSw; (have hSw := hSw.out); (try dsimp only at hSw); go_simp) <;> with_reducible rfl)
      focus assumption
      try simp only [Act.put, List.setIfInBounds_toArray, List.set_cons_zero, List.set_cons_succ]
      refine wpAnyHL_take (i := 9) (oi := ?_) (v := ?_) ?_ ?_ ?_ ?_ ?_ ?_ ?_ ?_ ?_ (Or.inl ⟨?_, ?_⟩) ?_ ?_
      rotate_left 2
      focus (simp only [List.getElem?_toArray, List.getElem?_cons_succ, List.getElem?_cons_zero]; exact rfl)
      iterate 7 focus kernel_rfl
      focus (exact fun _ _ _ h => h)
      focus rfl
      focus ((intro wSw hSw; (have hSw := hSw.out); (try dsimp only at hSw); go_simp) <;> with_reducible rfl)
      focus assumption
      try simp only [Act.put, List.setIfInBounds_toArray, List.set_cons_zero, List.set_cons_succ]
      refine wpAnyHL_take (i := 10) (oi := ?_) (v := ?_) ?_ ?_ ?_ ?_ ?_ ?_ ?_ ?_ ?_ (Or.inl ⟨?_, ?_⟩) ?_ ?_
      rotate_left 2
      focus (simp only [List.getElem?_toArray, List.getElem?_cons_succ, List.getElem?_cons_zero]; exact rfl)
      iterate 7 focus kernel_rfl
      focus (exact fun _ _ _ h => h)
      focus rfl
      focus ((intro wSw hSw; (have hSw := hSw.out); (try dsimp only at hSw); go_simp) <;> with_reducible rfl)
      focus assumption
      try simp only [Act.put, List.setIfInBounds_toArray, List.set_cons_zero, List.set_cons_succ]
      refine wpAnyHL_one (i := 6) (o := ?_) (by kernel_rfl) (by kernel_rfl) ?_ ?_
      rotate_left 1
      focus (simp only [List.getElem?_toArray, List.getElem?_cons_succ, List.getElem?_cons_zero]; exact rfl)
      go_wp2_with (go_at_call 81; refine (rcopy_any _ di.script HRIN.out.script.small _ (HRIN.out.script.keeps (HK5.out.trans hHeld.out.1)).rd).mono ?_; rintro e W6 ⟨v6, rfl, hO6⟩; obtain ⟨a6, c6, rfl⟩ := hO6.any; have HO6 := Lib.hid hO6; clear hO6)
      try dsimp only [StepQ]
      refine ⟨?_, fun hHeld => ?_⟩
      focus (exact Lib.hid (⟨hHeld.out.1.trans HO6.out.keeps, HS5.out _ (hHeld.out.1.trans HO6.out.keeps)⟩))
      try simp only [Act.put, List.setIfInBounds_toArray, List.set_cons_zero, List.set_cons_succ]
      have HK6 := Lib.hid hHeld.out.1
      refine wpAnyHL_one (i := 11) (o := ?_) (by kernel_rfl) (by kernel_rfl) ?_ ?_
      rotate_left 1
      focus (simp only [List.getElem?_toArray, List.getElem?_cons_succ, List.getElem?_cons_zero]; exact rfl)
      go_wp2_with (go_at_call 82; refine (rcopies_any S T _ di.wit _ (HRIN.out.wit.keeps (HK5.out.trans hHeld.out.1))).mono ?_; rintro e W7 ⟨v7, vs7, rfl, hO7⟩; obtain ⟨a7, c7, rfl⟩ := hO7.any; have HO7 := Lib.hid hO7; clear hO7)
      try dsimp only [StepQ]
      refine ⟨?_, fun hHeld => ?_⟩
      focus (exact Lib.hid (⟨hHeld.out.1.trans HO7.out.keeps, HS5.out _ (hHeld.out.1.trans HO7.out.keeps)⟩))
      try simp only [Act.put, List.setIfInBounds_toArray, List.set_cons_zero, List.set_cons_succ]
      refine wpAnyHL_one (i := 12) (o := ?_) (by kernel_rfl) (by kernel_rfl) ?_ ?_
      rotate_left 1
      focus (simp only [List.getElem?_toArray, List.getElem?_cons_succ, List.getElem?_cons_zero]; exact rfl)
      refine wpList_build_at rfl 100 _ rfl [(0, .agg (pointCells di).toArray), (1, .slice a6 di.script.length c6), (2, .int .u32 di.seq), (3, .slice a7 di.wit.length c7)] ?_ _ (built_inCells di _ _ _ _ _ _ HHL.out) ?_
      focus (simp only [List.map_toArray, List.map_cons, List.map_nil]; rfl)
      dsimp only [wpList, Act.put]
      try dsimp only [StepQ]
      refine ⟨?_, fun hHeld => ?_⟩
      focus (exact Lib.hid (hHeld.out))
      try simp only [Act.put, List.setIfInBounds_toArray, List.set_cons_zero, List.set_cons_succ]
      refine wpAnyHL_one (i := 13) (o := ?_) (by kernel_rfl) (by kernel_rfl) ?_ ?_
      rotate_left 1
      focus (simp only [List.getElem?_toArray, List.getElem?_cons_succ, List.getElem?_cons_zero]; exact rfl)
      go_wp2_with (refine wpList_buildSlice1 rfl 43 100 _ rfl 36 96 Tryz.underlying43 in_info in_zero (by decide) (inCells di _ _) rfl (inCells_length _ _ _ HHL.out) ?_)
      try dsimp only [StepQ]
      refine ⟨?_, fun hHeld => ?_⟩
      focus (exact Lib.hid (⟨keeps_alloc hHeld.out.1 _, HS5.out _ (keeps_alloc hHeld.out.1 _)⟩))
      try simp only [Act.put, List.setIfInBounds_toArray, List.set_cons_zero, List.set_cons_succ]
      refine wpAnyHL_done (by kernel_rfl) ?_
      try simp only [List.drop_succ_cons, List.drop_zero]
      have hrin9 : RIn (fun g => W5.drew.heap.size ≤ g ∧ g < W7.heap.size ∧ (Value.slice a7 di.wit.length c7).ownBlock ≠ some g) (fun g => W6.heap.size ≤ g ∧ g < W7.heap.size ∧ (Value.slice a7 di.wit.length c7).ownBlock = some g) W7 (.slice a6 di.script.length c6) (.slice a7 di.wit.length c7) di := by
        have h6 : W5.drew.heap.size ≤ W6.heap.size := HO6.out.keeps.size
        have h7 : W6.heap.size ≤ W7.heap.size := HO7.out.keeps.size
        refine ⟨HRIN.out.ok, ((HO6.out.rb HRIN.out.script.bytes HRIN.out.script.small).keeps HO7.out.keeps).mono (fun g hg => ⟨hg.1, Nat.lt_of_lt_of_le hg.2 h7, fun e => ?_⟩), ⟨vs7, (HO7.out.rl (by have := HRIN.out.wit; obtain ⟨_, h⟩ := this; exact h.small)).mono (fun g hg => ⟨Nat.le_trans h6 hg.1, hg.2⟩) (fun g hg => hg)⟩⟩
        have := HO7.out.new g e
        omega
      have HRIN9 := Lib.hid hrin9
      have hk67 : Keeps W5.drew W7 := HO6.out.keeps.trans HO7.out.keeps
      have HK67 := Lib.hid hk67
      have hod : OwnI S1 T1 W0.heap.size W5.drew v (d.ins.take i) cs ps := HOWN.out.keeps (keeps_drew HK5.out)
      have HOD := Lib.hid hod
      have hb0 : W0.heap.size ≤ W5.drew.heap.size := by have h1 := HCH.out.size; have h2 := HK5.out.size; exact Nat.le_trans h1 h2
      have hrow7 : Row W7 (p + 1 + 1) 0 [.int .i32 d.ver, v, .slice none 0 0, .int .u32 d.lock] := ((HRO.out.keeps HK5.out).drew).keeps hk67
      have hvn : ∀ g, v.ownBlock = some g → p + 3 ≤ g := fun g e => by have := HOWN.out.new g e; have h2 := HSZ.out; omega
      have HROW7 := Lib.hid hrow7; have HVN := Lib.hid hvn
      obtain ⟨va, vc, rfl⟩ := HOWN.out.any
      clear hrin9 hk67 hod hrow7 hvn
      go_wp2_with (refine owni_append1 rfl _ _ rfl HOD.out hb0 HK67.out HRIN9.out (fun g hg => by rcases hg with hg | hg; exact ⟨hg.1, hg.2.1⟩; exact ⟨Nat.le_trans HO6.out.keeps.size hg.1, hg.2.1⟩) (fun g hg ht => hg.2.2 ht.2.2) rfl 1 _ _ rfl rfl (by rw [HIL.out]; exact hins2) ?_; intro v9 w9 hO9 hC9 hS9; obtain ⟨b9, f9⟩ := ((HROW7.out.alloc _).chg hC9 (fun e => by have := HVN.out _ e; omega)) 1 _ rfl; simp only [Nat.zero_add] at b9 f9; obtain ⟨a9, c9, rfl⟩ := hO9.any; have HO9 := Lib.hid hO9; have HC9 := Lib.hid hC9; clear hO9 hC9 hS9)
      have hl1 : (d.ins.take i ++ [di]).length = i + 1 := by rw [List.length_append, HIL.out]; rfl
      have htk : d.ins.take i ++ [di] = d.ins.take (i + 1) := by rw [List.take_add_one, hdi]; rfl
      have h9 := HO9.out
      rw [hl1, htk] at h9
      have k1 : Chg (· = p + 1 + 1) W0 (W7.alloc (.cells (inCells di (.slice a6 di.script.length c6) (.slice a7 di.wit.length c7)).toArray 100)) := HCH.out.trans ((keeps_alloc ((keeps_drew HK5.out).trans HK67.out) _).chg _)
      have k2 := (chg_then k1 HC9.out (fun g e => .inl (by have h1 := HVN.out g e; have h2 := HSZ.out; omega))).setCell (p := ⟨p + 1 + 1, 1, none⟩) (.inr rfl) (.slice a9 (i + 1) c9)
      have k3 : Row w9 (p + 1 + 1) 0 _ := (HROW7.out.alloc _).chg HC9.out (fun e => by have := HVN.out _ e; omega)
      have k4 := k3.set 1 (by simp) (.slice a9 (i + 1) c9)
      rw [Nat.zero_add] at k4
      have k5 := h9.chg ((Chg.refl (· = p + 1 + 1) w9).setCell (p := ⟨p + 1 + 1, 1, none⟩) (.inr rfl) (.slice a9 (i + 1) c9)) (fun g e => .inl (by have := HSZ.out; omega))
      have K2 := Lib.hid k2; have K4 := Lib.hid k4; have K5 := Lib.hid k5
      clear h9 k1 k2 k3 k4 k5
      go_roundw
      case rel => exact ⟨i + 1, by omega, by go_num, _, _, _, _, _, K2.out, K4.out, K5.out⟩
      case measure => simp [intOf]; omega
    · obtain rfl : i = d.ins.length := by omega
      rw [List.take_length] at hown
      have HCH := Lib.hid hch; have HRO := Lib.hid hro; have HOWN := Lib.hid hown; have HKW := Lib.hid hkw
      obtain ⟨va, vc, rfl⟩ := hown.any
      clear hch hro hown hkw
      generalize wr = wA at *
      go_wp2
      go_loopw [6] (fun c wr2 => ∃ j : Nat, j ≤ d.outs.length ∧ c = .int .i64 j ∧ ∃ S2 v2 cs2 ps2, Chg (· = p + 1 + 1) wA wr2 ∧ Row wr2 (p + 1 + 1) 0 [.int .i32 d.ver, .slice va d.ins.length vc, v2, .int .u32 d.lock] ∧ OwnO S2 wA.heap.size wr2 v2 (d.outs.take j) cs2 ps2) (fun c _ => (d.outs.length - intOf c).toNat)
      case atStart => exact ⟨0, by omega, rfl, _, _, _, _, Chg.refl _ _, HRO.out, OwnO.nil _ _⟩
      case round =>
        obtain ⟨j, hj, rfl, S2, v2, cs2, ps2, hch, hro, hown⟩ := hrel
        have hk2 : Keeps w wr := keeps_chg HKW.out hch (by have := HP.out; omega)
        obtain ⟨b0, b1, b2, b3⟩ := ((HR1.out.chg HCH.out (by omega)).chg hch (by omega)).cell4
        have hps : p + 3 ≤ wA.heap.size := by have h1 := HCH.out.size; have h2 := HSZ.out; omega
        by_cases hlt : j < d.outs.length
        · obtain ⟨g, off, sv, di, rfl, hg, hdi, hrow, hrb, hi64⟩ := (HO.out.keeps hk2).at j hlt
          obtain ⟨c1, c2⟩ := at_value hrow
          obtain ⟨sa, sc, rfl, _⟩ := hrb.any
          have hil : (d.outs.take j).length = j := by simp; omega
          have hons2 : (j + 1) * 32 ≤ 140737488355328 := by omega
          have HCH2 := Lib.hid hch; have HRO2 := Lib.hid hro; have HOWN2 := Lib.hid hown; have HRB := Lib.hid hrb; have HK2 := Lib.hid hk2; have HIL := Lib.hid hil; have HPS := Lib.hid hps
          have hfacts : ∀ W, Keeps wr W → W.cell? ⟨p + 1 + 1, 2, none⟩ = some v2 ∧ W.cell? ⟨p, 2, none⟩ = some (.slice (some ⟨g, off, none⟩) d.outs.length oc) ∧ W.cell? ⟨g, off + j * 2, none⟩ = some (.int .i64 di.value) ∧ W.cell? ⟨g, off + j * 2 + 1, none⟩ = some (.slice sa di.script.length sc) := fun W hk => by
            obtain ⟨_, _, h1, _⟩ := (hro.keeps hk).cell4
            obtain ⟨_, _, h2, _⟩ := (((HR1.out.chg HCH.out (by omega)).chg hch (by omega)).keeps hk).cell4
            obtain ⟨h3, h4⟩ := at_value (hrow.keeps hk)
            exact ⟨h1, h2, h3, h4⟩
          have HF := Lib.hid hfacts
          clear hch hro hown hrow hrb hk2 hil hfacts c1 c2 hps b0 b1 b3
          go_upto_region 10 with (fail)
          refine wp_region_head (S := fun W => Hid ((fun W => Keeps wr W ∧ W.cell? ⟨p + 1 + 1, 2, none⟩ = some v2 ∧ W.cell? ⟨p, 2, none⟩ = some (.slice (some ⟨g, off, none⟩) d.outs.length oc) ∧ W.cell? ⟨g, off + j * 2, none⟩ = some (.int .i64 di.value) ∧ W.cell? ⟨g, off + j * 2 + 1, none⟩ = some (.slice sa di.script.length sc)) W)) 17 (by kernel_rfl) (by kernel_rfl) ?_ (fun hHeld => ?_)
          focus exact Lib.hid ⟨keeps_drew (Keeps.refl _), HF.out _ (keeps_drew (Keeps.refl _))⟩
          refine wpAnyHL_take (i := 0) (oi := ?_) (v := ?_) ?_ ?_ ?_ ?_ ?_ ?_ ?_ ?_ ?_ (Or.inl ⟨?_, ?_⟩) ?_ ?_
          rotate_left 2
          focus (simp only [List.getElem?_toArray, List.getElem?_cons_succ, List.getElem?_cons_zero]; exact rfl)
          iterate 7 focus kernel_rfl
          focus (exact fun _ _ _ h => h)
          focus rfl
          focus ((intro wSw hSw; (have hSw := hSw.out); (try dsimp only at hSw); go_simp) <;> with_reducible rfl)
          focus assumption
          try simp only [Act.put, List.setIfInBounds_toArray, List.set_cons_zero, List.set_cons_succ]
          refine wpAnyHL_take (i := 1) (oi := ?_) (v := ?_) ?_ ?_ ?_ ?_ ?_ ?_ ?_ ?_ ?_ (Or.inl ⟨?_, ?_⟩) ?_ ?_
          rotate_left 2
          focus (simp only [List.getElem?_toArray, List.getElem?_cons_succ, List.getElem?_cons_zero]; exact rfl)
          iterate 7 focus kernel_rfl
          focus (exact fun _ _ _ h => h)
          focus rfl
          focus ((intro wSw hSw; (have hSw := hSw.out); (try dsimp only at hSw); go_simp) <;> with_reducible rfl)
          focus assumption
          try simp only [Act.put, List.setIfInBounds_toArray, List.set_cons_zero, List.set_cons_succ]
          refine wpAnyHL_take (i := 2) (oi := ?_) (v := ?_) ?_ ?_ ?_ ?_ ?_ ?_ ?_ ?_ ?_ (Or.inl ⟨?_, ?_⟩) ?_ ?_
          rotate_left 2
          focus (simp only [List.getElem?_toArray, List.getElem?_cons_succ, List.getElem?_cons_zero]; exact rfl)
          iterate 7 focus kernel_rfl
          focus (exact fun _ _ _ h => h)
          focus rfl
          focus ((intro wSw hSw; (have hSw := hSw.out); (try dsimp only at hSw); go_simp) <;> with_reducible rfl)
          focus assumption
          try simp only [Act.put, List.setIfInBounds_toArray, List.set_cons_zero, List.set_cons_succ]
          refine wpAnyHL_take (i := 3) (oi := ?_) (v := ?_) ?_ ?_ ?_ ?_ ?_ ?_ ?_ ?_ ?_ (Or.inl ⟨?_, ?_⟩) ?_ ?_
          rotate_left 2
          focus (simp only [List.getElem?_toArray, List.getElem?_cons_succ, List.getElem?_cons_zero]; exact rfl)
          iterate 7 focus kernel_rfl
          focus (exact fun _ _ _ h => h)
          focus rfl
          focus ((intro wSw hSw; (have hSw := hSw.out); (try dsimp only at hSw); go_simp) <;> with_reducible rfl)
          focus assumption
          try simp only [Act.put, List.setIfInBounds_toArray, List.set_cons_zero, List.set_cons_succ]
          refine wpAnyHL_take (i := 4) (oi := ?_) (v := ?_) ?_ ?_ ?_ ?_ ?_ ?_ ?_ ?_ ?_ (Or.inl ⟨?_, ?_⟩) ?_ ?_
          rotate_left 2
          focus (simp only [List.getElem?_toArray, List.getElem?_cons_succ, List.getElem?_cons_zero]; exact rfl)
          iterate 7 focus kernel_rfl
          focus (exact fun _ _ _ h => h)
          focus rfl
          focus ((intro wSw hSw; (have hSw := hSw.out); (try dsimp only at hSw); go_simp) <;> with_reducible rfl)
          focus assumption
          try simp only [Act.put, List.setIfInBounds_toArray, List.set_cons_zero, List.set_cons_succ]
          refine wpAnyHL_take (i := 5) (oi := ?_) (v := ?_) ?_ ?_ ?_ ?_ ?_ ?_ ?_ ?_ ?_ (Or.inl ⟨?_, ?_⟩) ?_ ?_
          rotate_left 2
          focus (simp only [List.getElem?_toArray, List.getElem?_cons_succ, List.getElem?_cons_zero]; exact rfl)
          iterate 7 focus kernel_rfl
          focus (exact fun _ _ _ h => h)
          focus rfl
          focus ((intro wSw hSw; (have hSw := hSw.out); (try dsimp only at hSw); go_simp) <;> with_reducible rfl)
          focus assumption
          try simp only [Act.put, List.setIfInBounds_toArray, List.set_cons_zero, List.set_cons_succ]
          refine wpAnyHL_take (i := 6) (oi := ?_) (v := ?_) ?_ ?_ ?_ ?_ ?_ ?_ ?_ ?_ ?_ (Or.inl ⟨?_, ?_⟩) ?_ ?_
          rotate_left 2
          focus (simp only [List.getElem?_toArray, List.getElem?_cons_succ, List.getElem?_cons_zero]; exact rfl)
          iterate 7 focus kernel_rfl
          focus (exact fun _ _ _ h => h)
          focus rfl
          focus ((intro wSw hSw; (have hSw := hSw.out); (try dsimp only at hSw); go_simp) <;> with_reducible rfl)
          focus assumption
          try simp only [Act.put, List.setIfInBounds_toArray, List.set_cons_zero, List.set_cons_succ]
          refine wpAnyHL_take (i := 7) (oi := ?_) (v := ?_) ?_ ?_ ?_ ?_ ?_ ?_ ?_ ?_ ?_ (Or.inl ⟨?_, ?_⟩) ?_ ?_
          rotate_left 2
          focus (simp only [List.getElem?_toArray, List.getElem?_cons_succ, List.getElem?_cons_zero]; exact rfl)
          iterate 7 focus kernel_rfl
          focus (exact fun _ _ _ h => h)
          focus rfl
          focus ((intro wSw hSw; (have hSw := hSw.out); (try dsimp only at hSw); go_simp) <;> with_reducible rfl)
          focus assumption
          try simp only [Act.put, List.setIfInBounds_toArray, List.set_cons_zero, List.set_cons_succ]
          refine wpAnyHL_take (i := 8) (oi := ?_) (v := ?_) ?_ ?_ ?_ ?_ ?_ ?_ ?_ ?_ ?_ (Or.inl ⟨?_, ?_⟩) ?_ ?_
          rotate_left 2
          focus (simp only [List.getElem?_toArray, List.getElem?_cons_succ, List.getElem?_cons_zero]; exact rfl)
          iterate 7 focus kernel_rfl
          focus (exact fun _ _ _ h => h)
          focus rfl
          focus ((intro wSw hSw; (have hSw := hSw.out); (try dsimp only at hSw); go_simp) <;> with_reducible rfl)
          focus assumption
          try simp only [Act.put, List.setIfInBounds_toArray, List.set_cons_zero, List.set_cons_succ]
          refine wpAnyHL_take (i := 9) (oi := ?_) (v := ?_) ?_ ?_ ?_ ?_ ?_ ?_ ?_ ?_ ?_ (Or.inl ⟨?_, ?_⟩) ?_ ?_
          rotate_left 2
          focus (simp only [List.getElem?_toArray, List.getElem?_cons_succ, List.getElem?_cons_zero]; exact rfl)
          iterate 7 focus kernel_rfl
          focus (exact fun _ _ _ h => h)
          focus rfl
          focus ((intro wSw hSw; (have hSw := hSw.out); (try dsimp only at hSw); go_simp) <;> with_reducible rfl)
          focus assumption
          try simp only [Act.put, List.setIfInBounds_toArray, List.set_cons_zero, List.set_cons_succ]
          refine wpAnyHL_take (i := 10) (oi := ?_) (v := ?_) ?_ ?_ ?_ ?_ ?_ ?_ ?_ ?_ ?_ (Or.inl ⟨?_, ?_⟩) ?_ ?_
          rotate_left 2
          focus (simp only [List.getElem?_toArray, List.getElem?_cons_succ, List.getElem?_cons_zero]; exact rfl)
          iterate 7 focus kernel_rfl
          focus (exact fun _ _ _ h => h)
          focus rfl
          focus ((intro wSw hSw; (have hSw := hSw.out); (try dsimp only at hSw); go_simp) <;> with_reducible rfl)
          focus assumption
          try simp only [Act.put, List.setIfInBounds_toArray, List.set_cons_zero, List.set_cons_succ]
          refine wpAnyHL_take (i := 11) (oi := ?_) (v := ?_) ?_ ?_ ?_ ?_ ?_ ?_ ?_ ?_ ?_ (Or.inl ⟨?_, ?_⟩) ?_ ?_
          rotate_left 2
          focus (simp only [List.getElem?_toArray, List.getElem?_cons_succ, List.getElem?_cons_zero]; exact rfl)
          iterate 7 focus kernel_rfl
          focus (exact fun _ _ _ h => h)
          focus rfl
          focus ((intro wSw hSw; (have hSw := hSw.out); (try dsimp only at hSw); go_simp) <;> with_reducible rfl)
          focus assumption
          try simp only [Act.put, List.setIfInBounds_toArray, List.set_cons_zero, List.set_cons_succ]
          refine wpAnyHL_take (i := 12) (oi := ?_) (v := ?_) ?_ ?_ ?_ ?_ ?_ ?_ ?_ ?_ ?_ (Or.inl ⟨?_, ?_⟩) ?_ ?_
          rotate_left 2
          focus (simp only [List.getElem?_toArray, List.getElem?_cons_succ, List.getElem?_cons_zero]; exact rfl)
          iterate 7 focus kernel_rfl
          focus (exact fun _ _ _ h => h)
          focus rfl
          focus ((intro wSw hSw; (have hSw := hSw.out); (try dsimp only at hSw); go_simp) <;> with_reducible rfl)
          focus assumption
          try simp only [Act.put, List.setIfInBounds_toArray, List.set_cons_zero, List.set_cons_succ]
          refine wpAnyHL_take (i := 13) (oi := ?_) (v := ?_) ?_ ?_ ?_ ?_ ?_ ?_ ?_ ?_ ?_ (Or.inl ⟨?_, ?_⟩) ?_ ?_
          rotate_left 2
          focus (simp only [List.getElem?_toArray, List.getElem?_cons_succ, List.getElem?_cons_zero]; exact rfl)
          iterate 7 focus kernel_rfl
          focus (exact fun _ _ _ h => h)
          focus rfl
          focus ((intro wSw hSw; (have hSw := hSw.out); (try dsimp only at hSw); go_simp) <;> with_reducible rfl)
          focus assumption
          try simp only [Act.put, List.setIfInBounds_toArray, List.set_cons_zero, List.set_cons_succ]
          refine wpAnyHL_one (i := 14) (o := ?_) (by kernel_rfl) (by kernel_rfl) ?_ ?_
          rotate_left 1
          focus (simp only [List.getElem?_toArray, List.getElem?_cons_succ, List.getElem?_cons_zero]; exact rfl)
          go_wp2_with (go_at_call 81; refine (rcopy_any _ di.script HRB.out.small _ (HRB.out.keeps hHeld.out.1).rd).mono ?_; rintro e W6 ⟨v6, rfl, hO6⟩; obtain ⟨a6, c6, rfl⟩ := hO6.any; have HO6 := Lib.hid hO6; clear hO6)
          try dsimp only [StepQ]
          refine ⟨?_, fun hHeld => ?_⟩
          focus (exact Lib.hid (⟨hHeld.out.1.trans HO6.out.keeps, HF.out _ (hHeld.out.1.trans HO6.out.keeps)⟩))
          try simp only [Act.put, List.setIfInBounds_toArray, List.set_cons_zero, List.set_cons_succ]
          refine wpAnyHL_one (i := 15) (o := ?_) (by kernel_rfl) (by kernel_rfl) ?_ ?_
          rotate_left 1
          focus (simp only [List.getElem?_toArray, List.getElem?_cons_succ, List.getElem?_cons_zero]; exact rfl)
          go_wp2
          try dsimp only [StepQ]
          refine ⟨?_, fun hHeld => ?_⟩
          focus (exact Lib.hid (hHeld.out))
          try simp only [Act.put, List.setIfInBounds_toArray, List.set_cons_zero, List.set_cons_succ]
          refine wpAnyHL_one (i := 16) (o := ?_) (by kernel_rfl) (by kernel_rfl) ?_ ?_
          rotate_left 1
          focus (simp only [List.getElem?_toArray, List.getElem?_cons_succ, List.getElem?_cons_zero]; exact rfl)
          go_wp2
          try dsimp only [StepQ]
          refine ⟨?_, fun hHeld => ?_⟩
          focus (exact Lib.hid (⟨keeps_alloc hHeld.out.1 _, HF.out _ (keeps_alloc hHeld.out.1 _)⟩))
          try simp only [Act.put, List.setIfInBounds_toArray, List.set_cons_zero, List.set_cons_succ]
          refine wpAnyHL_done (by kernel_rfl) ?_
          try simp only [List.drop_succ_cons, List.drop_zero]
          have k0 : Keeps wr.drew W6 := HO6.out.keeps
          have hod : OwnO S2 wA.heap.size wr.drew v2 (d.outs.take j) cs2 ps2 := HOWN2.out.keeps (keeps_drew (Keeps.refl _))
          have hrb9 : RB (fun g => wr.drew.heap.size ≤ g ∧ g < W6.heap.size) W6 (.slice a6 di.script.length c6) di.script := HO6.out.rb HRB.out.bytes HRB.out.small
          have hrow6 : Row W6 (p + 1 + 1) 0 _ := (HRO2.out.drew).keeps k0
          have hvn : ∀ g, (v2).ownBlock = some g → wA.heap.size ≤ g := fun g e => HOWN2.out.new g e
          have hbb : wA.heap.size ≤ wr.drew.heap.size := HCH2.out.size
          have HOD := Lib.hid hod; have HRB9 := Lib.hid hrb9; have HROW6 := Lib.hid hrow6; have HVN := Lib.hid hvn; have HK06 := Lib.hid k0
          clear hod hrb9 hrow6 hvn k0
          obtain ⟨v2a, v2c, rfl⟩ := HOWN2.out.any
          go_wp2_with (refine owno_append1 (d := di) rfl _ _ rfl HOD.out hbb HK06.out HRB9.out hi64 (fun g hg => hg) rfl 1 _ _ rfl rfl (by rw [HIL.out]; exact hons2) ?_; intro v9 w9 hO9 hC9 hS9; obtain ⟨b9, f9⟩ := ((HROW6.out.alloc _).chg hC9 (fun e => by have h1 := HVN.out _ e; have h2 := HPS.out; omega)) 2 _ rfl; simp only [Nat.zero_add] at b9 f9; obtain ⟨a9, c9, rfl⟩ := hO9.any; have HO9 := Lib.hid hO9; have HC9 := Lib.hid hC9; clear hO9 hC9 hS9)
          have hl1 : (d.outs.take j ++ [di]).length = j + 1 := by rw [List.length_append, HIL.out]; rfl
          have htk : d.outs.take j ++ [di] = d.outs.take (j + 1) := by rw [List.take_add_one, hdi]; rfl
          have h9 := HO9.out
          rw [hl1, htk] at h9
          have k1 : Chg (· = p + 1 + 1) wA (W6.alloc (.cells #[.int .i64 di.value, .slice a6 di.script.length c6] 102)) := HCH2.out.trans ((keeps_alloc ((keeps_drew (Keeps.refl _)).trans HK06.out) _).chg _)
          have k2 := (chg_then k1 HC9.out (fun g e => .inl (HVN.out g e))).setCell (p := ⟨p + 1 + 1, 2, none⟩) (.inr rfl) (.slice a9 (j + 1) c9)
          have k3 : Row w9 (p + 1 + 1) 0 _ := (HROW6.out.alloc _).chg HC9.out (fun e => by have h1 := HVN.out _ e; have h2 := HPS.out; omega)
          have k4 := k3.set 2 (by simp) (.slice a9 (j + 1) c9)
          rw [Nat.zero_add] at k4
          have k5 := h9.chg ((Chg.refl (· = p + 1 + 1) w9).setCell (p := ⟨p + 1 + 1, 2, none⟩) (.inr rfl) (.slice a9 (j + 1) c9)) (fun g e => .inl (by have := HPS.out; omega))
          have K2 := Lib.hid k2; have K4 := Lib.hid k4; have K5 := Lib.hid k5
          clear h9 k1 k2 k3 k4 k5
          go_roundw
          case rel => exact ⟨j + 1, by omega, by go_num, _, _, _, _, K2.out, K4.out, K5.out⟩
          case measure => simp [intOf]; omega
        · obtain rfl : j = d.outs.length := by omega
          rw [List.take_length] at hown
          have hi2 := HOWN.out.chg hch (fun g e => .inl (by have := HSZ.out; omega))
          have hr2 := (HR2.out.chg HCH.out (by omega)).chg hch (by omega)
          have hoi := HOWN.out
          have hp1 : ∀ g, (Value.slice va d.ins.length vc).ownBlock = some g → W0.heap.size ≤ g ∧ g < wA.heap.size := fun g e => ⟨HOWN.out.new g e, HOWN.out.buf.lt e⟩
          have hp2 : ∀ g, v2.ownBlock = some g → wA.heap.size ≤ g ∧ g < wr.heap.size := fun g e => ⟨hown.new g e, hown.buf.lt e⟩
          have hcs := HCH.out.size
          have hcs2 := hch.size
          have hsz := HSZ.out
          have hpp := HP.out
          have hfin : OwnTx (fun g => S1 g ∨ S2 g) T1 (w.heap.size + 3) wr (.slice va d.ins.length vc) v2 d := by
            refine ⟨hver, hlock, (hi2.insA hins).mono (fun _ => .inl) (fun _ h => h) (fun _ h => h), (hown.outs hons).mono (fun _ => .inr) (fun _ h => h), ?_, ?_, ?_, ?_, ?_⟩
            · intro g hg
              rcases hg with (hg | hg) | hg | hg | hg
              · have := hi2.fresh g (.inl hg); omega
              · have := hown.fresh g hg; omega
              · have := hi2.fresh g (.inr hg); omega
              · have := hp1 g hg; omega
              · have := hp2 g hg; omega
            · intro g hg ht
              rcases hg with hg | hg
              · exact hi2.disj g hg ht
              · have h1 := hown.fresh g hg; have h2 := hoi.fresh g (.inr ht); omega
            · intro g hg e
              have h3 := hp1 g e
              rcases hg with (hg | hg) | hg
              · exact (hi2.fresh g (.inl hg)).2.2 e
              · have h1 := hown.fresh g hg; omega
              · exact (hi2.fresh g (.inr hg)).2.2 e
            · intro g hg e
              have h3 := hp2 g e
              rcases hg with (hg | hg) | hg
              · have h1 := hoi.fresh g (.inl hg); omega
              · exact (hown.fresh g hg).2.2 e
              · have h1 := hoi.fresh g (.inr hg); omega
            · intro g e e2
              have h3 := hp2 g e2; have h4 := hp1 g e; omega
          obtain ⟨v2a, v2c, rfl⟩ := hown.any
          have hkf : Keeps w wr := keeps_chg HKW.out hch (by omega)
          have HFIN := Lib.hid hfin; have HRO2 := Lib.hid hro; have HR2' := Lib.hid hr2; have HKF := Lib.hid hkf
          clear hch hro hown hi2 hr2 hoi hp1 hp2 hcs hcs2 hsz hpp hfin hkf
          go_wp2_with (first | (refine wpList_load_at rfl 46 (.tmp 3) rfl (p + 1 + 1) 0 rfl _ _ HRO2.out Tryz.underlying46 rfl (sz_tx _ _ _ _) ?_) | (refine wpList_store_row rfl 46 (.tmp 2) (.tmp 66) rfl (p + 1) 0 rfl _ [.int .i32 d.ver, .slice va d.ins.length vc, .slice v2a d.outs.length v2c, .int .u32 d.lock] rfl HR2'.out rfl (sz_tx _ _ _ _) (four_one _ _ _ _ _ _ _ _) ?_; intro W9 hr9 hc9; have HR9 := Lib.hid hr9; have HC9 := Lib.hid hc9; clear hr9 hc9))
          refine bodyPost_ret (results_cell_at rfl _ _ (p + 1) 0 _ _ (by simp only [Act.put, List.setIfInBounds_toArray, List.set_cons_zero, List.set_cons_succ]; rfl) HR9.out Tryz.underlying46 rfl (sz_tx _ _ _ _)) rfl ?_
          exact ⟨_, _, rfl, keeps_chg HKF.out HC9.out (by have := HP.out; omega), _, _, (HFIN.out.chg HC9.out (fun g e => .inl (by have := HP.out; omega))).low (by omega)⟩
end Go.Proofs.YtcodpdpeklammaaGreatDoor
