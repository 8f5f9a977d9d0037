/- tx.Decode. -/
import Derived.Test.YtcodpdpeklammaaGD7
namespace Go.Proofs.Ytcodpdpeklammaa
set_option linter.unusedVariables false
set_option linter.unusedSimpArgs false
open Go Go.RowKit
def recT (c : Int) : List PanicEntry := [{ v := .iface 63 (.int .i64 c), recovered := true }]
set_option maxRecDepth 100000 in
set_option maxHeartbeats 1000000 in
theorem catchT (p : Nat) (c : Int) (a d : Value) (x y : Option Addr) (n1 n2 n3 n4 : Nat) (ob : Int) (w : World) (hp : Row w p 0 [a, .slice x n1 n2, .slice y n3 n4, d]) (h1 : Row w (p + 1) 0 [.int .i64 ob]) :
    CallsD Try.prog 31 #[.pointer (some ⟨p, 0, none⟩), .pointer (some ⟨p + 1, 0, none⟩)] (.panicking (stopT c)) w fun e u' w' =>
      e = .returned (.tuple #[]) ∧ u' = .panicking (recT c) ∧ Row w' p 0 [.int .i32 0, .slice none 0 0, .slice none 0 0, .int .u32 0] ∧ Row w' (p + 1) 0 [.int .i64 c] ∧ Chg (fun k => k = p ∨ k = p + 1) w w' := by
  have HP := Lib.hid hp; have H1 := Lib.hid h1
  have d1 := (h1 0 _ rfl).1
  have e1 := (h1 0 _ rfl).2
  simp only [Nat.zero_add] at d1 e1
  clear hp h1
  refine callsD_of_wpS Try.func31 rfl fun c₀ cs hu => ?_
  apply wpS_seq
  apply wpS_region
  simp [wpOpsS, go_sem, recoverD, hu, stopT, Try.ntmps31, Exit.thenS]
  refine wpS_of_wp ?_
  simp only [Act.put, List.setIfInBounds_toArray, List.set_cons_zero, List.set_cons_succ, Array.replicate_succ, Array.replicate_zero, List.push_toArray, List.append_toArray, List.nil_append, List.cons_append]
  go_wp2
  rw [run_assert_ok _ _ _ (k := .i64) (by kernel_rfl)]
  simp only [Result.andThen]
  rw [Oper.upon_value]
  clear d1 e1
  go_wp2_with (refine wpList_store_row rfl 26 (.tmp 0) (.tmp 11) rfl p 0 rfl _ [.int .i32 0, .slice none 0 0, .slice none 0 0, .int .u32 0] rfl HP.out rfl (sz_tx _ _ _ _) (four_one _ _ _ _ _ _ _ _) ?_; intro W2 hr2 hc2; have HR2 := Lib.hid hr2; have HC2 := Lib.hid hc2; have hx := (H1.out.chg hc2 (by omega)) 0 _ rfl; obtain ⟨d1, e1⟩ := hx; simp only [Nat.zero_add] at d1 e1; clear hr2 hc2)
  simp [bodyPostS, results, Try.results31, recT]
  have hc2 : Chg (· = p) w W2 := HC2.out
  refine ⟨HR2.out.other (by show p ≠ p + 1; omega) _, ?_, (hc2.mono (T := fun k => k = p ∨ k = p + 1) (fun k _ e => Or.inl e)).setCell (p := ⟨p + 1, 0, none⟩) (.inr (.inr rfl)) _⟩
  have := (H1.out.chg HC2.out (by omega)).set 0 (by simp) (.int .i64 c)
  simpa using this
set_option maxRecDepth 100000 in
set_option maxHeartbeats 1000000 in
theorem idleT (a b : Value) (w : World) :
    CallsD Try.prog 31 #[a, b] .returning w fun e u' w' => e = .returned (.tuple #[]) ∧ u' = .returning ∧ w' = w := by
  refine callsD_of_wpS Try.func31 rfl fun c₀ cs hu => ?_
  apply wpS_seq
  apply wpS_region
  simp [wpOpsS, go_sem, recoverD, hu, Try.ntmps31, Exit.thenS]
  refine wpS_of_wp ?_
  simp only [Act.put, List.setIfInBounds_toArray, List.set_cons_zero, List.set_cons_succ, Array.replicate_succ, Array.replicate_zero, List.push_toArray, List.append_toArray, List.nil_append, List.cons_append]
  go_wp2
  cases c₀
  simp_all [bodyPostS, results, Try.results31]
theorem Keeps.trans' {X : Nat → Prop} {w W W' : World} (h : Keeps w W) (hc : Chg X W W') (hx : ∀ k, X k → w.heap.size ≤ k) : Keeps w W' :=
  ⟨hc.os.trans h.os, hc.tape.trans h.tape, hc.output.trans h.output, Nat.le_trans h.size hc.size, fun k hk => (hc.block k (Nat.lt_of_lt_of_le hk h.size) (fun e => by have := hx k e; omega)).trans (h.block k hk)⟩
theorem results_cell2 {P : Program} {fn : Func} {p p2 : Tmp} {ty ty2 : TypeId} (h : fn.results = #[.cell p ty, .cell p2 ty2]) (tmps : Array Value) (w : World) (g off g2 o2 : Nat) (cs : List Value) (d : TypeDesc) (v2 : Value)
    (hp : tmps.getD p undef = .pointer (some ⟨g, off, none⟩)) (hp2 : tmps.getD p2 undef = .pointer (some ⟨g2, o2, none⟩)) (hg : Row w g off cs)
    (hu : P.underlying ty = some d) (hd : (match d with | .struct _ | .array _ _ => true | _ => false) = true) (hi : (P.info? ty).map (·.size) = some cs.length) (hl2 : (loadVar ty2 ⟨g2, o2, none⟩).run P w = .ok v2 w) :
    (results fn tmps).run P w = .ok (.tuple #[.agg cs.toArray, v2]) w := by
  have hp' : tmps[p]?.getD undef = .pointer (some ⟨g, off, none⟩) := by simpa using hp
  have hp2' : tmps[p2]?.getD undef = .pointer (some ⟨g2, o2, none⟩) := by simpa using hp2
  simp [results, h, hp', hp2', asAddr, run_loadVar_at w g off ty cs d hg hu hd hi, hl2]
theorem errno_load (w : World) (g : Nat) (c : Int) (h : Row w g 0 [.int .i64 c]) : (loadVar 32 ⟨g, 0, none⟩).run Try.prog w = .ok (.int .i64 c) w := by
  have c0 := (h 0 _ rfl).1
  simp only [Nat.zero_add] at c0
  have hu : Try.prog.underlying 32 = some (.int .i64) := by kernel_rfl
  simp [loadVar, isAgg, run_underlying hu, go_sem, c0]
/-- what Decode does -/
def DecP (l : List Int) (w : World) (r : Ending) (W : World) : Prop :=
  Keeps w W ∧ ((∃ d iv ov, decTx l = .ok d ∧ r = .returned (.tuple #[.agg #[.int .i32 d.ver, iv, ov, .int .u32 d.lock], .int .i64 0]) ∧ I32 d.ver ∧ U32 d.lock ∧ GotI w.heap.size W.heap.size W iv d.ins ∧ GotO w.heap.size W.heap.size W ov d.outs) ∨
    (∃ c, decTx l = .error c ∧ r = .returned (.tuple #[.agg #[.int .i32 0, .slice none 0 0, .slice none 0 0, .int .u32 0], .int .i64 c])))
theorem dec_big {l : List Int} (h : 100000 < l.length) : decTx l = .error 2 := by unfold decTx; rw [if_pos h]
theorem dec_ok {l r : List Int} {d : TxD} (h : ¬ 100000 < l.length) (hd : rdTx l = .ok (d, r)) : decTx l = .ok d := by unfold decTx; rw [if_neg h, hd]
theorem dec_err {l : List Int} {c : Int} (h : ¬ 100000 < l.length) (hd : rdTx l = .error c) : decTx l = .error c := by unfold decTx; rw [if_neg h, hd]
set_option maxRecDepth 100000 in
set_option maxHeartbeats 2000000 in
theorem decode_any (v : Value) (l : List Int) (w : World) (hr : Rd w 1 v l.length (l.map (Value.int .u8))) (hn : l.length ≤ 140737488355328) (hb : Bytes l) :
    Calls Try.prog 9 #[v] w (DecP l w) := by
  have hmf : ∀ (fn : Fn) (first cap : Array Value) (w : World), (Instr.makeFunc fn first cap).run Try.prog w = .ok (.func fn first cap) w := fun _ _ _ _ => rfl
  obtain ⟨ad, cap, rfl⟩ : ∃ a c, v = .slice a l.length c := by obtain ⟨_, a, c, e, _⟩ := hr; exact ⟨a, c, e⟩
  have HR := Lib.hid hr; have HBY := Lib.hid hb
  clear hr hb
  by_cases hbig : 100000 < l.length
  · have hb2 : (100000 : Int) < (l.length : Int) := by omega
    go_enter_defers Try.func9, Try.ntmps9
    go_wp2
    have h0 := (Row.new (w := w) [.int .i32 0, .slice none 0 0, .slice none 0 0, .int .u32 0] _ 26 rfl).alloc (.cells #[.int .i64 2] 32)
    have h1 := Row.new (w := w.alloc (.cells #[.int .i32 0, .slice none 0 0, .slice none 0 0, .int .u32 0] 26)) [.int .i64 2] _ 32 rfl
    have hs : (w.alloc (.cells #[.int .i32 0, .slice none 0 0, .slice none 0 0, .int .u32 0] 26)).heap.size = w.heap.size + 1 := by simp
    rw [hs] at h1
    simp only [bodyPostD, Leaves]
    refine ⟨_, results_cell2 (p := 2) (p2 := 3) rfl _ _ w.heap.size 0 (w.heap.size + 1) 0 _ _ _ rfl rfl h0 Try.underlying26 rfl (sz_tx _ _ _ _) (errno_load _ _ _ h1), ?_⟩
    exact ⟨keeps_alloc (keeps_alloc (Keeps.refl w) _) _, .inr ⟨2, dec_big hbig, rfl⟩⟩
  · have hb2 : ¬ (100000 : Int) < (l.length : Int) := by omega
    go_enter_defers Try.func9, Try.ntmps9
    go_upto_region 4 with (fail)
    have hk0 : Keeps w ((w.alloc (.cells #[.int .i32 0, .slice none 0 0, .slice none 0 0, .int .u32 0] 26)).alloc (.cells #[.int .i64 0] 32)) := keeps_alloc (keeps_alloc (Keeps.refl w) _) _
    have h0 : Row ((w.alloc (.cells #[.int .i32 0, .slice none 0 0, .slice none 0 0, .int .u32 0] 26)).alloc (.cells #[.int .i64 0] 32)) w.heap.size 0 [.int .i32 0, .slice none 0 0, .slice none 0 0, .int .u32 0] := (Row.new (w := w) _ _ 26 rfl).alloc _
    have h1 : Row ((w.alloc (.cells #[.int .i32 0, .slice none 0 0, .slice none 0 0, .int .u32 0] 26)).alloc (.cells #[.int .i64 0] 32)) (w.heap.size + 1) 0 [.int .i64 0] := by
      have h1 := Row.new (w := w.alloc (.cells #[.int .i32 0, .slice none 0 0, .slice none 0 0, .int .u32 0] 26)) [.int .i64 0] _ 32 rfl
      have hs : (w.alloc (.cells #[.int .i32 0, .slice none 0 0, .slice none 0 0, .int .u32 0] 26)).heap.size = w.heap.size + 1 := by simp
      rw [hs] at h1
      exact h1
    have hsz : ((w.alloc (.cells #[.int .i32 0, .slice none 0 0, .slice none 0 0, .int .u32 0] 26)).alloc (.cells #[.int .i64 0] 32)).heap.size = w.heap.size + 2 := by simp
    have HK0 := Lib.hid hk0; have H0 := Lib.hid h0; have H1 := Lib.hid h1; have HSZ := Lib.hid hsz
    clear hk0 h0 h1 hsz hb2
    generalize (w.alloc (.cells #[.int .i32 0, .slice none 0 0, .slice none 0 0, .int .u32 0] 26)).alloc (.cells #[.int .i64 0] 32) = W0 at *
    obtain ⟨p, hp⟩ : ∃ p, p = w.heap.size := ⟨_, rfl⟩
    rw [← hp] at H0 H1 HSZ ⊢
    have HP := Lib.hid hp
    clear hp
    go_wp2_with (first
      | (go_at_call 32; refine (rdr_open_any _ l W0 (HR.out.keeps HK0.out) hn HBY.out).mono ?_; rintro r W1 ⟨g, v1, rfl, hg1, hg2, hra, hk1⟩; have HRA := Lib.hid hra; have HK1 := Lib.hid hk1; have HG := Lib.hid (And.intro hg1 hg2); clear hra hk1 hg1 hg2)
      | (go_at_call 33; refine (tx_t (B := W1.heap.size) g v1 l W1 HRA.out (Nat.le_refl _) HG.out.2).mono ?_; rintro r W2 ⟨hc2, hcs⟩; have HC2 := Lib.hid hc2; clear hc2; rcases hcs with ⟨d, iv, ov, l', hp2, rfl, hv, hlk, hgi, hgo⟩ | ⟨c, hp2, rfl⟩; obtain ⟨ia, ic, rfl, -⟩ := hgi.any; obtain ⟨oa, oc, rfl, -⟩ := hgo.any; have HROW := Lib.hid ((H0.out.keeps HK1.out).chg HC2.out (by have := HG.out.1; have := HSZ.out; omega)); have HER := Lib.hid ((H1.out.keeps HK1.out).chg HC2.out (by have := HG.out.1; have := HSZ.out; omega)); have HGI := Lib.hid hgi; have HGO := Lib.hid hgo; clear hgi hgo)
      | (refine wpList_store_row rfl 26 (.tmp 2) (.tmp 12) rfl p 0 rfl _ [.int .i32 d.ver, .slice ia d.ins.length ic, .slice oa d.outs.length oc, .int .u32 d.lock] rfl HROW.out rfl (sz_tx _ _ _ _) (four_one _ _ _ _ _ _ _ _) ?_; intro W3 hr3 hc3; have HR3 := Lib.hid hr3; have HC3 := Lib.hid hc3; have hx := (HER.out.chg hc3 (by omega)) 0 _ rfl; obtain ⟨d1, e1⟩ := hx; simp only [Nat.zero_add] at d1 e1; clear hr3 hc3))
    focus
      have hhg := HG.out
      have hsz := HSZ.out
      have hpw := HP.out
      have hk1 := HK1.out.size
      have hc2s := HC2.out.size
      have hc3 : Chg (· = p) W2 W3 := HC3.out
      have hx4 : Chg (· = p + 1) W3 (W3.setCell ⟨p + 1, 0, none⟩ (.int .i64 0)) := Chg.cell (p + 1) 0 _
      have hkk : Keeps w (W3.setCell ⟨p + 1, 0, none⟩ (.int .i64 0)) := keeps_chg (keeps_chg (keeps_chg (HK0.out.trans HK1.out) HC2.out (by omega)) hc3 (by omega)) hx4 (by omega)
      have hr4 : Row (W3.setCell ⟨p + 1, 0, none⟩ (.int .i64 0)) p 0 [.int .i32 d.ver, .slice ia d.ins.length ic, .slice oa d.outs.length oc, .int .u32 d.lock] := HR3.out.other (by show p ≠ p + 1; omega) _
      have he4 : Row (W3.setCell ⟨p + 1, 0, none⟩ (.int .i64 0)) (p + 1) 0 [.int .i64 0] := by
        have := (HER.out.chg hc3 (by omega)).set 0 (by simp) (.int .i64 0)
        simpa using this
      have hs3 := hc3.size
      have hs4 := hx4.size
      refine leaves_cons (f := 31) (args := #[.pointer (some ⟨p, 0, none⟩), .pointer (some ⟨p + 1, 0, none⟩)]) (by simp) (by simp [go_sem]) ?_
      refine (idleT _ _ _).mono ?_
      rintro r u' w'' ⟨rfl, rfl, rfl⟩
      simp only [Leaves, settle]
      refine ⟨_, results_cell2 (p := 2) (p2 := 3) rfl _ _ p 0 (p + 1) 0 _ _ _ rfl rfl hr4 Try.underlying26 rfl (sz_tx _ _ _ _) (errno_load _ _ _ he4), ?_⟩
      refine ⟨hkk, .inl ⟨d, _, _, dec_ok hbig hp2, rfl, hv, hlk, ?_, ?_⟩⟩
      · exact (((HGI.out.chg hc3 (fun k e => .inl (by omega))).chg hx4 (fun k e => .inl (by omega))).up (by omega) (Nat.le_refl _)).low (by omega)
      · exact (((HGO.out.chg hc3 (fun k e => .inl (by omega))).chg hx4 (fun k e => .inl (by omega))).up (by omega) (Nat.le_refl _)).low (by omega)
    focus
      have hhg := HG.out
      have hsz := HSZ.out
      have hpw := HP.out
      have hk1 := HK1.out.size
      have hr2 := (H0.out.keeps HK1.out).chg HC2.out (show ¬ p = g by omega)
      have he2 := (H1.out.keeps HK1.out).chg HC2.out (show ¬ p + 1 = g by omega)
      refine leaves_cons (f := 31) (args := #[.pointer (some ⟨p, 0, none⟩), .pointer (some ⟨p + 1, 0, none⟩)]) (by simp) (by simp [go_sem]) ?_
      refine (catchT p c _ _ _ _ _ _ _ _ _ W2 hr2 he2).mono ?_
      rintro r u' w'' ⟨rfl, rfl, hr3, he3, hc3⟩
      simp only [Leaves, settle, recT]
      refine ⟨_, results_cell2 (p := 2) (p2 := 3) rfl _ _ p 0 (p + 1) 0 _ _ _ rfl rfl hr3 Try.underlying26 rfl (sz_tx _ _ _ _) (errno_load _ _ _ he3), ?_⟩
      have hs2 := HC2.out.size
      refine ⟨(keeps_chg (HK0.out.trans HK1.out) HC2.out (by omega)).trans' hc3 (fun k hk => by omega), .inr ⟨c, dec_err hbig hp2, rfl⟩⟩
/-- an error's number is never 0 -/
theorem rdMany_err {α : Type} {p : Rdr α} (hp : ∀ (l : List Int) (c : Int), p l = .error c → c ≠ 0) : ∀ (n : Nat) (l : List Int) (c : Int), rdMany p n l = .error c → c ≠ 0
  | 0, l, c, h => by cases h
  | n + 1, l, c, h => by
    cases h1 : rdMany p n l with
    | error e => rw [rdMany, rdBind_err h1] at h; cases h; exact rdMany_err hp n l _ h1
    | ok x =>
      obtain ⟨xs, r⟩ := x
      rw [rdMany, rdBind_ok h1] at h
      cases h2 : p r with
      | error e => rw [rdBind_err h2] at h; cases h; exact hp _ _ h2
      | ok y => obtain ⟨a, r2⟩ := y; rw [rdBind_ok h2] at h; cases h
theorem rdBind_errs {α β : Type} {p : Rdr α} {f : α → Rdr β} {l : List Int} {c : Int} (h : rdBind p f l = .error c) (hp : p l = .error c → c ≠ 0) (hf : ∀ a r, p l = .ok (a, r) → f a r = .error c → c ≠ 0) : c ≠ 0 := by
  cases h1 : p l with
  | error e => rw [rdBind_err h1] at h; cases h; exact hp h1
  | ok x => obtain ⟨a, r⟩ := x; rw [rdBind_ok h1] at h; exact hf a r h1 h
theorem rdCount_errs {l : List Int} {c : Int} (h : rdCount l = .error c) : c ≠ 0 := by
  unfold rdCount at h
  refine rdBind_errs h rdSize_err (fun a r _ hf => ?_)
  split at hf
  · cases hf; decide
  · cases hf
theorem rdIn_errs {l : List Int} {c : Int} (h : rdIn l = .error c) : c ≠ 0 := by
  unfold rdIn at h
  exact rdBind_errs h rdTake_err (fun _ _ _ h => rdBind_errs h rdNum_err (fun _ _ _ h => rdBind_errs h rdList_err (fun _ _ _ h => rdBind_errs h rdNum_err (fun _ _ _ h => by cases h))))
theorem rdOut_errs {l : List Int} {c : Int} (h : rdOut l = .error c) : c ≠ 0 := by
  unfold rdOut at h
  exact rdBind_errs h rdNum_err (fun _ _ _ h => rdBind_errs h rdList_err (fun _ _ _ h => by cases h))
theorem rdWits_errs (ins : List InD) : ∀ (i : Nat) (l : List Int) (c : Int), rdWits ins i l = .error c → c ≠ 0
  | 0, l, c, h => by cases h
  | i + 1, l, c, h => by
    unfold rdWits at h
    refine rdBind_errs h (fun h => rdWits_errs ins i l c h) (fun _ _ _ h => rdBind_errs h (fun h => ?_) (fun _ _ _ h => by cases h))
    unfold rdWit at h
    exact rdBind_errs h rdCount_errs (fun _ _ _ h => rdBind_errs h (fun h => rdMany_err (fun _ _ h => rdList_err h) _ _ _ h) (fun _ _ _ h => by cases h))
theorem rdEnd_errs {v : Int} {s : Bool} {ins : List InD} {outs : List OutD} {l : List Int} {c : Int} (h : rdEnd v s ins outs l = .error c) : c ≠ 0 := by
  unfold rdEnd at h
  refine rdBind_errs h rdNum_err (fun _ _ _ h => ?_)
  split at h
  · cases h; decide
  · cases h
theorem rdRest_errs {v : Int} {s : Bool} {n : Nat} {l : List Int} {c : Int} (h : rdRest v s n l = .error c) : c ≠ 0 := by
  rw [rdRest_eq] at h
  refine rdBind_errs h (fun h => rdMany_err (fun _ _ h => rdIn_errs h) _ _ _ h) (fun ins _ _ h => ?_)
  unfold rdRest2 at h
  refine rdBind_errs h rdCount_errs (fun _ _ _ h => rdBind_errs h (fun h => rdMany_err (fun _ _ h => rdOut_errs h) _ _ _ h) (fun outs _ _ h => ?_))
  unfold rdRest3 at h
  refine rdBind_errs h (fun h => ?_) (fun _ _ _ h => rdEnd_errs h)
  cases s
  · cases h
  · exact rdWits_errs _ _ _ _ h
theorem rdTx_errs {l : List Int} {c : Int} (h : rdTx l = .error c) : c ≠ 0 := by
  unfold rdTx at h
  refine rdBind_errs h rdNum_err (fun _ _ _ h => rdBind_errs h rdCount_errs (fun n _ _ h => ?_))
  split at h
  · refine rdBind_errs h rdNum_err (fun f _ _ h => ?_)
    split at h
    · cases h; decide
    · exact rdBind_errs h rdCount_errs (fun _ _ _ h => rdRest_errs h)
  · exact rdRest_errs h
theorem decTx_errs {l : List Int} {c : Int} (h : decTx l = .error c) : c ≠ 0 := by
  unfold decTx at h
  split at h
  · cases h; decide
  · cases hd : rdTx l with
    | error e => rw [hd] at h; cases h; exact rdTx_errs hd
    | ok x => obtain ⟨d, r⟩ := x; rw [hd] at h; cases h
end Go.Proofs.Ytcodpdpeklammaa
