/- tx.Decode. | The reference's Decode: the links between what is read and the reading in plain Lean; what it holds. -/
import Derived.Test.YtcodpdpeklammaaGreatDoorGC2
import Derived.Test.YtcodpdpeklammaaGreatDoorGB1
namespace Go.Proofs.YtcodpdpeklammaaGreatDoor
set_option linter.unusedVariables false
set_option linter.unusedSimpArgs false
open Go Go.RowKit
def recT (c : Int) : List PanicEntry := [{ v := .iface 123 (.int .i64 c), recovered := true }]
set_option maxRecDepth 100000 in
set_option maxHeartbeats 1000000 in
theorem catchT (p : Nat) (c : Int) (a d : Value) (x y : Option Addr) (n1 n2 n3 n4 : Nat) (ob : Int) (w : World) (hp : Row w p 0 [a, .slice x n1 n2, .slice y n3 n4, d]) (h1 : Row w (p + 1) 0 [.int .i64 ob]) :
    CallsD Tryz.prog 69 #[.pointer (some ⟨p, 0, none⟩), .pointer (some ⟨p + 1, 0, none⟩)] (.panicking (stopT c)) w fun e u' w' =>
      e = .returned (.tuple #[]) ∧ u' = .panicking (recT c) ∧ Row w' p 0 [.int .i32 0, .slice none 0 0, .slice none 0 0, .int .u32 0] ∧ Row w' (p + 1) 0 [.int .i64 c] ∧ Chg (fun k => k = p ∨ k = p + 1) w w' := by
  have HP := Lib.hid hp; have H1 := Lib.hid h1
  have d1 := (h1 0 _ rfl).1
  have e1 := (h1 0 _ rfl).2
  simp only [Nat.zero_add] at d1 e1
  clear hp h1
  refine callsD_of_wpS Tryz.func69 rfl fun c₀ cs hu => ?_
  apply wpS_seq
  apply wpS_region
  simp [wpOpsS, go_sem, recoverD, hu, stopT, Tryz.ntmps69, Exit.thenS]
  refine wpS_of_wp ?_
  simp only [Act.put, List.setIfInBounds_toArray, List.set_cons_zero, List.set_cons_succ, Array.replicate_succ, Array.replicate_zero, List.push_toArray, List.append_toArray, List.nil_append, List.cons_append]
  go_wp2
  rw [run_assert_ok _ _ _ (k := .i64) (by kernel_rfl)]
  simp only [Result.andThen]
  rw [Oper.upon_value]
  clear d1 e1
  go_wp2_with (refine wpList_store_row rfl 46 (.tmp 0) (.tmp 11) rfl p 0 rfl _ [.int .i32 0, .slice none 0 0, .slice none 0 0, .int .u32 0] rfl HP.out rfl (sz_tx _ _ _ _) (four_one _ _ _ _ _ _ _ _) ?_; intro W2 hr2 hc2; have HR2 := Lib.hid hr2; have HC2 := Lib.hid hc2; have hx := (H1.out.chg hc2 (by omega)) 0 _ rfl; obtain ⟨d1, e1⟩ := hx; simp only [Nat.zero_add] at d1 e1; clear hr2 hc2)
  simp [bodyPostS, results, Tryz.results69, recT]
  have hc2 : Chg (· = p) w W2 := HC2.out
  refine ⟨HR2.out.other (by show p ≠ p + 1; omega) _, ?_, (hc2.mono (T := fun k => k = p ∨ k = p + 1) (fun k _ e => Or.inl e)).setCell (p := ⟨p + 1, 0, none⟩) (.inr (.inr rfl)) _⟩
  have := (H1.out.chg HC2.out (by omega)).set 0 (by simp) (.int .i64 c)
  simpa using this
set_option maxRecDepth 100000 in
set_option maxHeartbeats 1000000 in
theorem idleT (a b : Value) (w : World) :
    CallsD Tryz.prog 69 #[a, b] .returning w fun e u' w' => e = .returned (.tuple #[]) ∧ u' = .returning ∧ w' = w := by
  refine callsD_of_wpS Tryz.func69 rfl fun c₀ cs hu => ?_
  apply wpS_seq
  apply wpS_region
  simp [wpOpsS, go_sem, recoverD, hu, Tryz.ntmps69, Exit.thenS]
  refine wpS_of_wp ?_
  simp only [Act.put, List.setIfInBounds_toArray, List.set_cons_zero, List.set_cons_succ, Array.replicate_succ, Array.replicate_zero, List.push_toArray, List.append_toArray, List.nil_append, List.cons_append]
  go_wp2
  cases c₀
  simp_all [bodyPostS, results, Tryz.results69]
theorem Keeps.trans' {X : Nat → Prop} {w W W' : World} (h : Keeps w W) (hc : Chg X W W') (hx : ∀ k, X k → w.heap.size ≤ k) : Keeps w W' :=
  ⟨hc.os.trans h.os, hc.tape.trans h.tape, hc.output.trans h.output, Nat.le_trans h.size hc.size, fun k hk => (hc.block k (Nat.lt_of_lt_of_le hk h.size) (fun e => by have := hx k e; omega)).trans (h.block k hk)⟩
theorem results_cell2 {P : Program} {fn : Func} {p p2 : Tmp} {ty ty2 : TypeId} (h : fn.results = #[.cell p ty, .cell p2 ty2]) (tmps : Array Value) (w : World) (g off g2 o2 : Nat) (cs : List Value) (d : TypeDesc) (v2 : Value)
    (hp : tmps.getD p undef = .pointer (some ⟨g, off, none⟩)) (hp2 : tmps.getD p2 undef = .pointer (some ⟨g2, o2, none⟩)) (hg : Row w g off cs)
    (hu : P.underlying ty = some d) (hd : (match d with | .struct _ | .array _ _ => true | _ => false) = true) (hi : (P.info? ty).map (·.size) = some cs.length) (hl2 : (loadVar ty2 ⟨g2, o2, none⟩).run P w = .ok v2 w) :
    (results fn tmps).run P w = .ok (.tuple #[.agg cs.toArray, v2]) w := by
  have hp' : tmps[p]?.getD undef = .pointer (some ⟨g, off, none⟩) := by simpa using hp
  have hp2' : tmps[p2]?.getD undef = .pointer (some ⟨g2, o2, none⟩) := by simpa using hp2
  simp [results, h, hp', hp2', asAddr, run_loadVar_at w g off ty cs d hg hu hd hi, hl2]
theorem errno_load (w : World) (g : Nat) (c : Int) (h : Row w g 0 [.int .i64 c]) : (loadVar 35 ⟨g, 0, none⟩).run Tryz.prog w = .ok (.int .i64 c) w := by
  have c0 := (h 0 _ rfl).1
  simp only [Nat.zero_add] at c0
  have hu : Tryz.prog.underlying 35 = some (.int .i64) := by kernel_rfl
  simp [loadVar, isAgg, run_underlying hu, go_sem, c0]
/-- what Decode does -/
def DecP (l : List Int) (w : World) (r : Ending) (W : World) : Prop :=
  Keeps w W ∧ ((∃ d iv ov, decTx l = .ok d ∧ r = .returned (.tuple #[.agg #[.int .i32 d.ver, iv, ov, .int .u32 d.lock], .int .i64 0]) ∧ I32 d.ver ∧ U32 d.lock ∧ GotI w.heap.size W.heap.size W iv d.ins ∧ GotO w.heap.size W.heap.size W ov d.outs) ∨
    (∃ c, decTx l = .error c ∧ r = .returned (.tuple #[.agg #[.int .i32 0, .slice none 0 0, .slice none 0 0, .int .u32 0], .int .i64 c])))
theorem dec_big {l : List Int} (h : 100000 < l.length) : decTx l = .error 2 := by unfold decTx; rw [if_pos h]
theorem dec_ok {l r : List Int} {d : TxD} (h : ¬ 100000 < l.length) (hd : rdTx l = .ok (d, r)) : decTx l = .ok d := by unfold decTx; rw [if_neg h, hd]
theorem dec_err {l : List Int} {c : Int} (h : ¬ 100000 < l.length) (hd : rdTx l = .error c) : decTx l = .error c := by unfold decTx; rw [if_neg h, hd]
set_option maxRecDepth 100000 in
set_option maxHeartbeats 2000000 in
theorem decode_any (v : Value) (l : List Int) (w : World) (hr : Rd w 1 v l.length (l.map (Value.int .u8))) (hn : l.length ≤ 140737488355328) (hb : Bytes l) :
    Calls Tryz.prog 39 #[v] w (DecP l w) := by
  have hmf : ∀ (fn : Fn) (first cap : Array Value) (w : World), (Instr.makeFunc fn first cap).run Tryz.prog w = .ok (.func fn first cap) w := fun _ _ _ _ => rfl
  obtain ⟨ad, cap, rfl⟩ : ∃ a c, v = .slice a l.length c := by obtain ⟨_, a, c, e, _⟩ := hr; exact ⟨a, c, e⟩
  have HR := Lib.hid hr; have HBY := Lib.hid hb
  clear hr hb
  by_cases hbig : 100000 < l.length
  · have hb2 : (100000 : Int) < (l.length : Int) := by omega
    go_enter_defers Tryz.func39, Tryz.ntmps39
    go_wp2
    have h0 := (Row.new (w := w) [.int .i32 0, .slice none 0 0, .slice none 0 0, .int .u32 0] _ 46 rfl).alloc (.cells #[.int .i64 2] 35)
    have h1 := Row.new (w := w.alloc (.cells #[.int .i32 0, .slice none 0 0, .slice none 0 0, .int .u32 0] 46)) [.int .i64 2] _ 35 rfl
    have hs : (w.alloc (.cells #[.int .i32 0, .slice none 0 0, .slice none 0 0, .int .u32 0] 46)).heap.size = w.heap.size + 1 := by simp
    rw [hs] at h1
    simp only [bodyPostD, Leaves]
    refine ⟨_, results_cell2 (p := 2) (p2 := 3) rfl _ _ w.heap.size 0 (w.heap.size + 1) 0 _ _ _ rfl rfl h0 Tryz.underlying46 rfl (sz_tx _ _ _ _) (errno_load _ _ _ h1), ?_⟩
    exact ⟨keeps_alloc (keeps_alloc (Keeps.refl w) _) _, .inr ⟨2, dec_big hbig, rfl⟩⟩
  · have hb2 : ¬ (100000 : Int) < (l.length : Int) := by omega
    go_enter_defers Tryz.func39, Tryz.ntmps39
    go_upto_region 4 with (fail)
    have hk0 : Keeps w ((w.alloc (.cells #[.int .i32 0, .slice none 0 0, .slice none 0 0, .int .u32 0] 46)).alloc (.cells #[.int .i64 0] 35)) := keeps_alloc (keeps_alloc (Keeps.refl w) _) _
    have h0 : Row ((w.alloc (.cells #[.int .i32 0, .slice none 0 0, .slice none 0 0, .int .u32 0] 46)).alloc (.cells #[.int .i64 0] 35)) w.heap.size 0 [.int .i32 0, .slice none 0 0, .slice none 0 0, .int .u32 0] := (Row.new (w := w) _ _ 46 rfl).alloc _
    have h1 : Row ((w.alloc (.cells #[.int .i32 0, .slice none 0 0, .slice none 0 0, .int .u32 0] 46)).alloc (.cells #[.int .i64 0] 35)) (w.heap.size + 1) 0 [.int .i64 0] := by
      have h1 := Row.new (w := w.alloc (.cells #[.int .i32 0, .slice none 0 0, .slice none 0 0, .int .u32 0] 46)) [.int .i64 0] _ 35 rfl
      have hs : (w.alloc (.cells #[.int .i32 0, .slice none 0 0, .slice none 0 0, .int .u32 0] 46)).heap.size = w.heap.size + 1 := by simp
      rw [hs] at h1
      exact h1
    have hsz : ((w.alloc (.cells #[.int .i32 0, .slice none 0 0, .slice none 0 0, .int .u32 0] 46)).alloc (.cells #[.int .i64 0] 35)).heap.size = w.heap.size + 2 := by simp
    have HK0 := Lib.hid hk0; have H0 := Lib.hid h0; have H1 := Lib.hid h1; have HSZ := Lib.hid hsz
    clear hk0 h0 h1 hsz hb2
    generalize (w.alloc (.cells #[.int .i32 0, .slice none 0 0, .slice none 0 0, .int .u32 0] 46)).alloc (.cells #[.int .i64 0] 35) = W0 at *
    obtain ⟨p, hp⟩ : ∃ p, p = w.heap.size := ⟨_, rfl⟩
    rw [← hp] at H0 H1 HSZ ⊢
    have HP := Lib.hid hp
    clear hp
    go_wp2_with (first
      | (go_at_call 27; refine (rdr_open_any _ l W0 (HR.out.keeps HK0.out) hn HBY.out).mono ?_; rintro r W1 ⟨g, v1, rfl, hg1, hg2, hra, hk1⟩; have HRA := Lib.hid hra; have HK1 := Lib.hid hk1; have HG := Lib.hid (And.intro hg1 hg2); clear hra hk1 hg1 hg2)
      | (go_at_call 70; refine (tx_t (B := W1.heap.size) g v1 l W1 HRA.out (Nat.le_refl _) HG.out.2).mono ?_; rintro r W2 ⟨hc2, hcs⟩; have HC2 := Lib.hid hc2; clear hc2; rcases hcs with ⟨d, iv, ov, l', hp2, rfl, hv, hlk, hgi, hgo⟩ | ⟨c, hp2, rfl⟩; obtain ⟨ia, ic, rfl, -⟩ := hgi.any; obtain ⟨oa, oc, rfl, -⟩ := hgo.any; have HROW := Lib.hid ((H0.out.keeps HK1.out).chg HC2.out (by have := HG.out.1; have := HSZ.out; omega)); have HER := Lib.hid ((H1.out.keeps HK1.out).chg HC2.out (by have := HG.out.1; have := HSZ.out; omega)); have HGI := Lib.hid hgi; have HGO := Lib.hid hgo; clear hgi hgo)
      | (refine wpList_store_row rfl 46 (.tmp 2) (.tmp 12) rfl p 0 rfl _ [.int .i32 d.ver, .slice ia d.ins.length ic, .slice oa d.outs.length oc, .int .u32 d.lock] rfl HROW.out rfl (sz_tx _ _ _ _) (four_one _ _ _ _ _ _ _ _) ?_; intro W3 hr3 hc3; have HR3 := Lib.hid hr3; have HC3 := Lib.hid hc3; have hx := (HER.out.chg hc3 (by omega)) 0 _ rfl; obtain ⟨d1, e1⟩ := hx; simp only [Nat.zero_add] at d1 e1; clear hr3 hc3))
    focus
      have hhg := HG.out
      have hsz := HSZ.out
      have hpw := HP.out
      have hk1 := HK1.out.size
      have hc2s := HC2.out.size
      have hc3 : Chg (· = p) W2 W3 := HC3.out
      have hx4 : Chg (· = p + 1) W3 (W3.setCell ⟨p + 1, 0, none⟩ (.int .i64 0)) := Chg.cell (p + 1) 0 _
      have hkk : Keeps w (W3.setCell ⟨p + 1, 0, none⟩ (.int .i64 0)) := keeps_chg (keeps_chg (keeps_chg (HK0.out.trans HK1.out) HC2.out (by omega)) hc3 (by omega)) hx4 (by omega)
      have hr4 : Row (W3.setCell ⟨p + 1, 0, none⟩ (.int .i64 0)) p 0 [.int .i32 d.ver, .slice ia d.ins.length ic, .slice oa d.outs.length oc, .int .u32 d.lock] := HR3.out.other (by show p ≠ p + 1; omega) _
      have he4 : Row (W3.setCell ⟨p + 1, 0, none⟩ (.int .i64 0)) (p + 1) 0 [.int .i64 0] := by
        have := (HER.out.chg hc3 (by omega)).set 0 (by simp) (.int .i64 0)
        simpa using this
      have hs3 := hc3.size
      have hs4 := hx4.size
      refine leaves_cons (f := 69) (args := #[.pointer (some ⟨p, 0, none⟩), .pointer (some ⟨p + 1, 0, none⟩)]) (by simp) (by simp [go_sem]) ?_
      refine (idleT _ _ _).mono ?_
      rintro r u' w'' ⟨rfl, rfl, rfl⟩
      simp only [Leaves, settle]
      refine ⟨_, results_cell2 (p := 2) (p2 := 3) rfl _ _ p 0 (p + 1) 0 _ _ _ rfl rfl hr4 Tryz.underlying46 rfl (sz_tx _ _ _ _) (errno_load _ _ _ he4), ?_⟩
      refine ⟨hkk, .inl ⟨d, _, _, dec_ok hbig hp2, rfl, hv, hlk, ?_, ?_⟩⟩
      · exact (((HGI.out.chg hc3 (fun k e => .inl (by omega))).chg hx4 (fun k e => .inl (by omega))).up (by omega) (Nat.le_refl _)).low (by omega)
      · exact (((HGO.out.chg hc3 (fun k e => .inl (by omega))).chg hx4 (fun k e => .inl (by omega))).up (by omega) (Nat.le_refl _)).low (by omega)
    focus
      have hhg := HG.out
      have hsz := HSZ.out
      have hpw := HP.out
      have hk1 := HK1.out.size
      have hr2 := (H0.out.keeps HK1.out).chg HC2.out (show ¬ p = g by omega)
      have he2 := (H1.out.keeps HK1.out).chg HC2.out (show ¬ p + 1 = g by omega)
      refine leaves_cons (f := 69) (args := #[.pointer (some ⟨p, 0, none⟩), .pointer (some ⟨p + 1, 0, none⟩)]) (by simp) (by simp [go_sem]) ?_
      refine (catchT p c _ _ _ _ _ _ _ _ _ W2 hr2 he2).mono ?_
      rintro r u' w'' ⟨rfl, rfl, hr3, he3, hc3⟩
      simp only [Leaves, settle, recT]
      refine ⟨_, results_cell2 (p := 2) (p2 := 3) rfl _ _ p 0 (p + 1) 0 _ _ _ rfl rfl hr3 Tryz.underlying46 rfl (sz_tx _ _ _ _) (errno_load _ _ _ he3), ?_⟩
      have hs2 := HC2.out.size
      refine ⟨(keeps_chg (HK0.out.trans HK1.out) HC2.out (by omega)).trans' hc3 (fun k hk => by omega), .inr ⟨c, dec_err hbig hp2, rfl⟩⟩
/-- an error's number is never 0 -/
theorem rdMany_err {α : Type} {p : Rdr α} (hp : ∀ (l : List Int) (c : Int), p l = .error c → c ≠ 0) : ∀ (n : Nat) (l : List Int) (c : Int), rdMany p n l = .error c → c ≠ 0
  | 0, l, c, h => by cases h
  | n + 1, l, c, h => by
    cases h1 : rdMany p n l with
    | error e => rw [rdMany, rdBind_err h1] at h; cases h; exact rdMany_err hp n l _ h1
    | ok x =>
      obtain ⟨xs, r⟩ := x
      rw [rdMany, rdBind_ok h1] at h
      cases h2 : p r with
      | error e => rw [rdBind_err h2] at h; cases h; exact hp _ _ h2
      | ok y => obtain ⟨a, r2⟩ := y; rw [rdBind_ok h2] at h; cases h
theorem rdBind_errs {α β : Type} {p : Rdr α} {f : α → Rdr β} {l : List Int} {c : Int} (h : rdBind p f l = .error c) (hp : p l = .error c → c ≠ 0) (hf : ∀ a r, p l = .ok (a, r) → f a r = .error c → c ≠ 0) : c ≠ 0 := by
  cases h1 : p l with
  | error e => rw [rdBind_err h1] at h; cases h; exact hp h1
  | ok x => obtain ⟨a, r⟩ := x; rw [rdBind_ok h1] at h; exact hf a r h1 h
theorem rdCount_errs {l : List Int} {c : Int} (h : rdCount l = .error c) : c ≠ 0 := by
  unfold rdCount at h
  refine rdBind_errs h rdSize_err (fun a r _ hf => ?_)
  split at hf
  · cases hf; decide
  · cases hf
theorem rdIn_errs {l : List Int} {c : Int} (h : rdIn l = .error c) : c ≠ 0 := by
  unfold rdIn at h
  exact rdBind_errs h rdTake_err (fun _ _ _ h => rdBind_errs h rdNum_err (fun _ _ _ h => rdBind_errs h rdList_err (fun _ _ _ h => rdBind_errs h rdNum_err (fun _ _ _ h => by cases h))))
theorem rdOut_errs {l : List Int} {c : Int} (h : rdOut l = .error c) : c ≠ 0 := by
  unfold rdOut at h
  exact rdBind_errs h rdNum_err (fun _ _ _ h => rdBind_errs h rdList_err (fun _ _ _ h => by cases h))
theorem rdWits_errs (ins : List InD) : ∀ (i : Nat) (l : List Int) (c : Int), rdWits ins i l = .error c → c ≠ 0
  | 0, l, c, h => by cases h
  | i + 1, l, c, h => by
    unfold rdWits at h
    refine rdBind_errs h (fun h => rdWits_errs ins i l c h) (fun _ _ _ h => rdBind_errs h (fun h => ?_) (fun _ _ _ h => by cases h))
    unfold rdWit at h
    exact rdBind_errs h rdCount_errs (fun _ _ _ h => rdBind_errs h (fun h => rdMany_err (fun _ _ h => rdList_err h) _ _ _ h) (fun _ _ _ h => by cases h))
theorem rdEnd_errs {v : Int} {s : Bool} {ins : List InD} {outs : List OutD} {l : List Int} {c : Int} (h : rdEnd v s ins outs l = .error c) : c ≠ 0 := by
  unfold rdEnd at h
  refine rdBind_errs h rdNum_err (fun _ _ _ h => ?_)
  split at h
  · cases h; decide
  · cases h
theorem rdRest_errs {v : Int} {s : Bool} {n : Nat} {l : List Int} {c : Int} (h : rdRest v s n l = .error c) : c ≠ 0 := by
  rw [rdRest_eq] at h
  refine rdBind_errs h (fun h => rdMany_err (fun _ _ h => rdIn_errs h) _ _ _ h) (fun ins _ _ h => ?_)
  unfold rdRest2 at h
  refine rdBind_errs h rdCount_errs (fun _ _ _ h => rdBind_errs h (fun h => rdMany_err (fun _ _ h => rdOut_errs h) _ _ _ h) (fun outs _ _ h => ?_))
  unfold rdRest3 at h
  refine rdBind_errs h (fun h => ?_) (fun _ _ _ h => rdEnd_errs h)
  cases s
  · cases h
  · exact rdWits_errs _ _ _ _ h
theorem rdTx_errs {l : List Int} {c : Int} (h : rdTx l = .error c) : c ≠ 0 := by
  unfold rdTx at h
  refine rdBind_errs h rdNum_err (fun _ _ _ h => rdBind_errs h rdCount_errs (fun n _ _ h => ?_))
  split at h
  · refine rdBind_errs h rdNum_err (fun f _ _ h => ?_)
    split at h
    · cases h; decide
    · exact rdBind_errs h rdCount_errs (fun _ _ _ h => rdRest_errs h)
  · exact rdRest_errs h
theorem decTx_errs {l : List Int} {c : Int} (h : decTx l = .error c) : c ≠ 0 := by
  unfold decTx at h
  split at h
  · cases h; decide
  · cases hd : rdTx l with
    | error e => rw [hd] at h; cases h; exact rdTx_errs hd
    | ok x => obtain ⟨d, r⟩ := x; rw [hd] at h; cases h
theorem RfR.bind {α β : Type} {p : Rdr α} {f : α → Rdr β} {e e1 e2 : Int} {l l1 l2 : List Int} {x : α} {y : β} (h : RfR p e l x e1 l1) (h2 : RfR (f x) e1 l1 y e2 l2) : RfR (rdBind p f) e l y e2 l2 := by
  rcases h with ⟨a, b⟩ | ⟨a, b, c⟩ | ⟨a, b, c⟩
  · rcases h2 with ⟨d, g⟩ | ⟨d, g, _⟩ | ⟨d, g, _⟩
    · exact .inl ⟨a, by rw [g, b]⟩
    · exact absurd (b.symm.trans d) a
    · exact absurd (b.symm.trans d) a
  · subst b
    rcases h2 with ⟨d, g⟩ | ⟨d, g, k⟩ | ⟨d, g, k⟩
    · exact absurd rfl d
    · exact .inr (.inl ⟨a, g, by rw [rdBind_ok c]; exact k⟩)
    · exact .inr (.inr ⟨a, g, by rw [rdBind_ok c]; exact k⟩)
  · rcases h2 with ⟨d, g⟩ | ⟨d, g, k⟩ | ⟨d, g, k⟩
    · exact .inr (.inr ⟨a, by rw [g]; exact b, by rw [g]; exact rdBind_err c⟩)
    · exact absurd d b
    · exact absurd d b
theorem RfR.ret {α : Type} {e : Int} {l : List Int} {x : α} : RfR (rdOk x) e l x e l := by
  by_cases h : e = 0
  · exact .inr (.inl ⟨h, h, rfl⟩)
  · exact .inl ⟨h, rfl⟩
theorem in_read {e e1 e2 e3 e4 : Int} {l l1 l2 l3 l4 h s : List Int} {x q : Int} (a : RfR (rdTake 32) e l h e1 l1) (b : RfR (rdNum 4) e1 l1 x e2 l2) (c : RfR (rdList 100000) e2 l2 s e3 l3) (d : RfR (rdNum 4) e3 l3 q e4 l4) : RfR rdIn e l ⟨h, x, s, q, []⟩ e4 l4 := by
  unfold rdIn; exact a.bind (b.bind (c.bind (d.bind RfR.ret)))
theorem out_read {e e1 e2 : Int} {l l1 l2 s : List Int} {x : Int} (a : RfR (rdNum 8) e l x e1 l1) (b : RfR (rdList 100000) e1 l1 s e2 l2) : RfR rdOut e l ⟨toI64 x, s⟩ e2 l2 := by
  unfold rdOut; exact a.bind (b.bind RfR.ret)
theorem cnt_read {l l' : List Int} {x : Int} (h : rdCountI l = .ok (x, l')) (h0 : 0 ≤ x) : rdCount l = .ok (x.toNat, l') ∧ x ≤ 25000 := by
  obtain ⟨y, r1, h1, h2⟩ := rdBind_inv h
  split at h2
  · cases h2
  · injection h2 with h2
    obtain ⟨rfl, rfl⟩ := Prod.mk.inj h2
    exact ⟨by unfold rdCount; rw [rdBind_ok h1, if_neg (by assumption)]; rfl, by omega⟩
theorem cnt_err {l : List Int} {c : Int} (h : rdCountI l = .error c) : rdCount l = .error c := by
  unfold rdCountI at h
  cases hs : rdSize l with
  | error d => rw [rdBind_err hs] at h; cases h; exact count_err hs
  | ok p =>
    obtain ⟨y, r⟩ := p
    rw [rdBind_ok hs] at h
    split at h
    · cases h; exact count_big hs (by assumption)
    · cases h
theorem wrap_count {x : Int} (h0 : 0 ≤ x) (h1 : x ≤ 25000) : IntKind.i64.wrap x = (x.toNat : Int) := by rw [IntKind.wrap_i64]; omega
/-! links: where no error has been met, the rest of the reading; else the answer -/
def LinkA (l : List Int) (second : Bool) (ver : Int) (n : Int) (r : List Int) (e : Int) : Prop := (e = 0 ∧ ∃ m : Nat, n = m ∧ m ≤ 25000 ∧ rdTx l = rdRest ver second m r) ∨ (e ≠ 0 ∧ rdTx l = .error e)
def LinkB (l : List Int) (second : Bool) (ver : Int) (n : Int) (i : Nat) (xs : List InD) (r : List Int) (e : Int) : Prop := (e = 0 ∧ ∃ (m : Nat) (l1 : List Int), n = m ∧ m ≤ 25000 ∧ i ≤ m ∧ rdTx l = rdRest ver second m l1 ∧ rdMany rdIn i l1 = .ok (xs, r)) ∨ (e ≠ 0 ∧ rdTx l = .error e)
def LinkC (l : List Int) (second : Bool) (ver : Int) (ins : List InD) (r : List Int) (e : Int) : Prop := (e = 0 ∧ rdTx l = rdRest2 ver second ins r) ∨ (e ≠ 0 ∧ rdTx l = .error e)
def LinkD (l : List Int) (second : Bool) (ver : Int) (ins : List InD) (n : Int) (i : Nat) (outs : List OutD) (r : List Int) (e : Int) : Prop := (e = 0 ∧ ∃ (m : Nat) (l1 l2 : List Int), n = m ∧ m ≤ 25000 ∧ i ≤ m ∧ rdTx l = rdRest2 ver second ins l1 ∧ rdCount l1 = .ok (m, l2) ∧ rdMany rdOut i l2 = .ok (outs, r)) ∨ (e ≠ 0 ∧ rdTx l = .error e)
def LinkF (l : List Int) (second : Bool) (ver : Int) (ins : List InD) (outs : List OutD) (r : List Int) (e : Int) : Prop := (e = 0 ∧ rdTx l = rdRest3 ver second ins outs r) ∨ (e ≠ 0 ∧ rdTx l = .error e)
def LinkG (l : List Int) (ver : Int) (ins : List InD) (outs : List OutD) (i : Nat) (done : List InD) (r : List Int) (e : Int) : Prop := (e = 0 ∧ ∃ l3, rdTx l = rdRest3 ver true ins outs l3 ∧ rdWits ins i l3 = .ok (done, r)) ∨ (e ≠ 0 ∧ rdTx l = .error e)
def LinkW (l : List Int) (ver : Int) (ins : List InD) (outs : List OutD) (i : Nat) (done : List InD) (n : Int) (j : Nat) (ws : List (List Int)) (r : List Int) (e : Int) : Prop := (e = 0 ∧ ∃ (l3 l4 l5 : List Int) (m : Nat), n = m ∧ m ≤ 25000 ∧ j ≤ m ∧ rdTx l = rdRest3 ver true ins outs l3 ∧ rdWits ins i l3 = .ok (done, l4) ∧ rdCount l4 = .ok (m, l5) ∧ rdMany (rdList 100000) j l5 = .ok (ws, r)) ∨ (e ≠ 0 ∧ rdTx l = .error e)
def LinkH (l : List Int) (second : Bool) (ver : Int) (ins2 : List InD) (outs : List OutD) (r : List Int) (e : Int) : Prop := (e = 0 ∧ rdTx l = rdEnd ver second ins2 outs r) ∨ (e ≠ 0 ∧ rdTx l = .error e)
theorem LinkA.start {l : List Int} {second : Bool} {ver n : Int} {r : List Int} {e : Int} (h : LinkA l second ver n r e) : LinkB l second ver n 0 [] r e := by
  rcases h with ⟨he, m, hn, hm, ht⟩ | h
  · exact .inl ⟨he, m, r, hn, hm, Nat.zero_le _, ht, rfl⟩
  · exact .inr h
theorem LinkB.step {l : List Int} {second : Bool} {ver n : Int} {i : Nat} {xs : List InD} {r r2 : List Int} {d : InD} {e2 : Int} (h : LinkB l second ver n i xs r 0) (hi : (i : Int) < n) (hr : RfR rdIn 0 r d e2 r2) : LinkB l second ver n (i + 1) (xs ++ [d]) r2 e2 := by
  rcases h with ⟨_, m, l1, hn, hm, him, ht, hx⟩ | ⟨h, _⟩
  · rcases hr with ⟨a, _⟩ | ⟨_, b, c⟩ | ⟨_, b, c⟩
    · exact absurd rfl a
    · exact .inl ⟨b, m, l1, hn, hm, by omega, ht, rdMany_next hx c⟩
    · exact .inr ⟨b, by rw [ht]; exact rest_e1 (rdMany_stop (rdMany_fail hx c) m (by omega))⟩
  · exact absurd rfl h
theorem LinkB.done {l : List Int} {second : Bool} {ver n : Int} {i : Nat} {xs : List InD} {r : List Int} {e : Int} (h : LinkB l second ver n i xs r e) (hi : e = 0 → ¬ (i : Int) < n) : LinkC l second ver xs r e := by
  rcases h with ⟨he, m, l1, hn, hm, him, ht, hx⟩ | h
  · have : i = m := by have := hi he; omega
    subst this
    exact .inl ⟨he, by rw [ht]; exact rest_ok1 hx⟩
  · exact .inr h
theorem LinkC.count {l : List Int} {second : Bool} {ver : Int} {ins : List InD} {r r2 : List Int} {e e2 x : Int} (h : LinkC l second ver ins r e) (hr : RfR rdCountI e r x e2 r2) (h0 : 0 ≤ x) : LinkD l second ver ins (IntKind.i64.wrap x) 0 [] r2 e2 := by
  rcases h with ⟨he, ht⟩ | ⟨he, ht⟩
  · rcases hr with ⟨a, _⟩ | ⟨_, b, c⟩ | ⟨_, b, c⟩
    · exact absurd he a
    · obtain ⟨c1, c2⟩ := cnt_read c h0
      exact .inl ⟨b, x.toNat, r, r2, wrap_count h0 c2, by omega, Nat.zero_le _, ht, c1, rfl⟩
    · exact .inr ⟨b, by rw [ht]; exact rest_e2 (cnt_err c)⟩
  · rcases hr with ⟨_, a⟩ | ⟨a, _⟩ | ⟨a, _⟩
    · exact .inr ⟨by rw [a]; exact he, by rw [a]; exact ht⟩
    · exact absurd a he
    · exact absurd a he
theorem LinkD.step {l : List Int} {second : Bool} {ver : Int} {ins : List InD} {n : Int} {i : Nat} {outs : List OutD} {r r2 : List Int} {d : OutD} {e2 : Int} (h : LinkD l second ver ins n i outs r 0) (hi : (i : Int) < n) (hr : RfR rdOut 0 r d e2 r2) : LinkD l second ver ins n (i + 1) (outs ++ [d]) r2 e2 := by
  rcases h with ⟨_, m, l1, l2, hn, hm, him, ht, hc, hx⟩ | ⟨h, _⟩
  · rcases hr with ⟨a, _⟩ | ⟨_, b, c⟩ | ⟨_, b, c⟩
    · exact absurd rfl a
    · exact .inl ⟨b, m, l1, l2, hn, hm, by omega, ht, hc, rdMany_next hx c⟩
    · exact .inr ⟨b, by rw [ht]; exact rest_e3 hc (rdMany_stop (rdMany_fail hx c) m (by omega))⟩
  · exact absurd rfl h
theorem LinkD.done {l : List Int} {second : Bool} {ver : Int} {ins : List InD} {n : Int} {i : Nat} {outs : List OutD} {r : List Int} {e : Int} (h : LinkD l second ver ins n i outs r e) (hi : e = 0 → ¬ (i : Int) < n) : LinkF l second ver ins outs r e := by
  rcases h with ⟨he, m, l1, l2, hn, hm, him, ht, hc, hx⟩ | h
  · have : i = m := by have := hi he; omega
    subst this
    exact .inl ⟨he, by rw [ht]; exact rest_ok2 hc hx⟩
  · exact .inr h
theorem LinkF.plain {l : List Int} {ver : Int} {ins : List InD} {outs : List OutD} {r : List Int} {e : Int} (h : LinkF l false ver ins outs r e) : LinkH l false ver ins outs r e := by
  rcases h with ⟨he, ht⟩ | h
  · exact .inl ⟨he, ht.trans rest_plain⟩
  · exact .inr h
theorem LinkF.start {l : List Int} {ver : Int} {ins : List InD} {outs : List OutD} {r : List Int} {e : Int} (h : LinkF l true ver ins outs r e) : LinkG l ver ins outs 0 [] r e := by
  rcases h with ⟨he, ht⟩ | h
  · exact .inl ⟨he, r, ht, rfl⟩
  · exact .inr h
theorem LinkG.count {l : List Int} {ver : Int} {ins : List InD} {outs : List OutD} {i : Nat} {done : List InD} {r r2 : List Int} {e e2 x : Int} (h : LinkG l ver ins outs i done r e) (hi : i < ins.length) (hr : RfR rdCountI e r x e2 r2) (h0 : 0 ≤ x) : LinkW l ver ins outs i done (IntKind.i64.wrap x) 0 [] r2 e2 := by
  rcases h with ⟨he, l3, ht, hw⟩ | ⟨he, ht⟩
  · rcases hr with ⟨a, _⟩ | ⟨_, b, c⟩ | ⟨_, b, c⟩
    · exact absurd he a
    · obtain ⟨c1, c2⟩ := cnt_read c h0
      exact .inl ⟨b, l3, r, r2, x.toNat, wrap_count h0 c2, by omega, Nat.zero_le _, ht, hw, c1, rfl⟩
    · exact .inr ⟨b, by rw [ht]; exact rest_e4 (rdWits_stop (rdWits_fail1 hw (cnt_err c)) _ (by omega))⟩
  · rcases hr with ⟨_, a⟩ | ⟨a, _⟩ | ⟨a, _⟩
    · exact .inr ⟨by rw [a]; exact he, by rw [a]; exact ht⟩
    · exact absurd a he
    · exact absurd a he
theorem LinkW.step {l : List Int} {ver : Int} {ins : List InD} {outs : List OutD} {i : Nat} {done : List InD} {n : Int} {j : Nat} {ws : List (List Int)} {r r2 x : List Int} {e2 : Int} (h : LinkW l ver ins outs i done n j ws r 0) (hi : i < ins.length) (hj : (j : Int) < n) (hr : RfR (rdList 100000) 0 r x e2 r2) : LinkW l ver ins outs i done n (j + 1) (ws ++ [x]) r2 e2 := by
  rcases h with ⟨_, l3, l4, l5, m, hn, hm, hjm, ht, hw, hc, hx⟩ | ⟨h, _⟩
  · rcases hr with ⟨a, _⟩ | ⟨_, b, c⟩ | ⟨_, b, c⟩
    · exact absurd rfl a
    · exact .inl ⟨b, l3, l4, l5, m, hn, hm, by omega, ht, hw, hc, rdMany_next hx c⟩
    · exact .inr ⟨b, by rw [ht]; exact rest_e4 (rdWits_stop (rdWits_fail2 hw hc (rdMany_stop (rdMany_fail hx c) m (by omega))) _ (by omega))⟩
  · exact absurd rfl h
theorem LinkW.done {l : List Int} {ver : Int} {ins : List InD} {outs : List OutD} {i : Nat} {done : List InD} {n : Int} {j : Nat} {ws : List (List Int)} {r : List Int} {e : Int} {d : InD} (h : LinkW l ver ins outs i done n j ws r e) (hd : ins[i]? = some d) (hj : e = 0 → ¬ (j : Int) < n) : LinkG l ver ins outs (i + 1) (done ++ [{ d with wit := ws }]) r e := by
  rcases h with ⟨he, l3, l4, l5, m, hn, hm, hjm, ht, hw, hc, hx⟩ | h
  · have : j = m := by have := hj he; omega
    subst this
    exact .inl ⟨he, l3, ht, rdWits_next hw hd hc hx⟩
  · exact .inr h
theorem LinkG.done {l : List Int} {ver : Int} {ins : List InD} {outs : List OutD} {done : List InD} {r : List Int} {e : Int} (h : LinkG l ver ins outs ins.length done r e) : LinkH l true ver done outs r e := by
  rcases h with ⟨he, l3, ht, hw⟩ | h
  · exact .inl ⟨he, ht.trans (rest_ok4 hw)⟩
  · exact .inr h
theorem LinkH.read {l : List Int} {second : Bool} {ver : Int} {ins2 : List InD} {outs : List OutD} {r r2 : List Int} {e e2 x : Int} (h : LinkH l second ver ins2 outs r e) (hr : RfR (rdNum 4) e r x e2 r2) :
    (e2 = 0 ∧ rdNum 4 r = .ok (x, r2) ∧ rdTx l = rdEnd ver second ins2 outs r) ∨ (e2 ≠ 0 ∧ rdTx l = .error e2) := by
  rcases h with ⟨he, ht⟩ | ⟨he, ht⟩
  · rcases hr with ⟨a, _⟩ | ⟨_, b, c⟩ | ⟨_, b, c⟩
    · exact absurd he a
    · exact .inl ⟨b, c, ht⟩
    · exact .inr ⟨b, by rw [ht]; exact end_e1 c⟩
  · rcases hr with ⟨_, a⟩ | ⟨a, _⟩ | ⟨a, _⟩
    · exact .inr ⟨by rw [a]; exact he, by rw [a]; exact ht⟩
    · exact absurd a he
    · exact absurd a he
end Go.Proofs.YtcodpdpeklammaaGreatDoor
