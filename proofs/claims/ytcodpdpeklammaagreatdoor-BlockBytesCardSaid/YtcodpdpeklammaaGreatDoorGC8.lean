/-  -/
import Derived.Test.YtcodpdpeklammaaGreatDoorGC6
/- The reference's Decode: the walk. (Printed by gref09.py.) -/
namespace Go.Proofs.YtcodpdpeklammaaGreatDoor
set_option linter.unusedVariables false
set_option linter.unusedSimpArgs false
open Go Go.RowKit
/-- what the reference's Decode does -/
def NewB (w W : World) : Nat → Prop := fun k => w.heap.size ≤ k ∧ k < W.heap.size
theorem got_new {m b1 n1 b2 n2 : Nat} {W : World} {iv ov : Value} {d : TxD} (h1 : m ≤ b1) (h2 : m ≤ b2) (hv : I32 d.ver) (hl : U32 d.lock) (hi : GotI b1 n1 W iv d.ins) (ho : GotO b2 n2 W ov d.outs) : RTx (fun k => m ≤ k ∧ k < W.heap.size) (fun k => m ≤ k ∧ k < W.heap.size) (fun k => m ≤ k ∧ k < W.heap.size) W iv ov d := by
  have hn1 : n1 ≤ W.heap.size := by obtain ⟨_, _, _, _, h⟩ := hi; exact h
  have hn2 : n2 ≤ W.heap.size := ho.2
  have m1 : ∀ k, b1 ≤ k ∧ k < n1 → m ≤ k ∧ k < W.heap.size := fun k h => by omega
  have m2 : ∀ k, b2 ≤ k ∧ k < n2 → m ≤ k ∧ k < W.heap.size := fun k h => by omega
  exact ⟨hv, hl, hi.ins.mono m1 m1 m1, ho.1.mono m2 m2⟩
def RDecN (l : List Int) (w : World) (r : Ending) (W : World) : Prop :=
  Keeps w W ∧ ((∃ d iv ov, decTx l = .ok d ∧ r = .returned (.tuple #[.agg #[.int .i32 d.ver, iv, ov, .int .u32 d.lock], .int .i64 0]) ∧ RTx (NewB w W) (NewB w W) (NewB w W) W iv ov d) ∨
    (∃ c, decTx l = .error c ∧ r = .returned (.tuple #[.agg #[.int .i32 0, .slice none 0 0, .slice none 0 0, .int .u32 0], .int .i64 c])))
theorem results_cell_tmp {P : Program} {fn : Func} {t p : Tmp} {ty : TypeId} (h : fn.results = #[.cell p ty, .tmp t]) (tmps : Array Value) (w : World) (g off : Nat) (v : Value) (cs : List Value) (d : TypeDesc)
    (ht : tmps.getD t undef = v) (hp : tmps.getD p undef = .pointer (some ⟨g, off, none⟩)) (hg : Row w g off cs)
    (hu : P.underlying ty = some d) (hd : (match d with | .struct _ | .array _ _ => true | _ => false) = true) (hi : (P.info? ty).map (·.size) = some cs.length) :
    (results fn tmps).run P w = .ok (.tuple #[.agg cs.toArray, v]) w := by
  have hp' : tmps[p]?.getD undef = .pointer (some ⟨g, off, none⟩) := by simpa using hp
  have ht' : tmps[t]?.getD undef = v := by simpa using ht
  simp [results, h, hp', ht', asAddr, run_loadVar_at w g off ty cs d hg hu hd hi]
/-- where the loop over the inputs stands -/
def InLoop (p : Nat) (l : List Int) (bv : Value) (second : Bool) (ver n : Int) (w W : World) (i : Nat) : Prop :=
  i ≤ 25000 ∧ ∃ (k : Nat) (e : Int) (xs : List InD) (iv : Value) (S T : Nat → Prop) (cs : List Value) (ps : List (Value × Value)), Keeps w W ∧ k ≤ l.length ∧ DSt p W bv k e (.int .i32 ver) iv (.slice none 0 0) (.int .u32 0) ∧ OwnI S T (p + 3) W iv xs cs ps ∧ xs.length = i ∧ (∀ q ∈ ps, q.2 = .slice none 0 0) ∧ (∀ d ∈ xs, d.wit = []) ∧ LinkB l second ver n i xs (l.drop k) e
theorem LinkB.step2 {l : List Int} {second : Bool} {ver n : Int} {i : Nat} {xs : List InD} {r r2 : List Int} {d dF : InD} {e2 : Int} (h : LinkB l second ver n i xs r 0) (hi : (i : Int) < n) (hr : RfR rdIn 0 r d e2 r2) (hd : e2 = 0 → dF = d) : LinkB l second ver n (i + 1) (xs ++ [dF]) r2 e2 := by
  rcases h.step hi hr with ⟨he, h⟩ | h
  · rw [hd he]; exact .inl ⟨he, h⟩
  · exact .inr h
theorem in_same {l : List Int} (hb : Bytes l) {k k13 k15 k17 k18 : Nat} {hh sc : List Int} {x15 x18 e13 e15 e17 : Int} (h13 : RfR (rdTake 32) 0 (l.drop k) hh e13 (l.drop k13)) (h15 : RfR (rdNum 4) e13 (l.drop k13) x15 e15 (l.drop k15)) (h17 : RfR (rdList 100000) e15 (l.drop k15) sc e17 (l.drop k17)) (h18 : RfR (rdNum 4) e17 (l.drop k17) x18 0 (l.drop k18)) :
    hh.length = 32 ∧ x15 % 4294967296 = x15 ∧ x18 % 4294967296 = x18 := by
  obtain ⟨rfl, a⟩ := h18.zero
  obtain ⟨rfl, b⟩ := h17.zero
  obtain ⟨rfl, c⟩ := h15.zero
  obtain ⟨_, d⟩ := h13.zero
  obtain ⟨a1, a2, _⟩ := rdNum_inv (bytes_drop hb _) a
  obtain ⟨c1, c2, _⟩ := rdNum_inv (bytes_drop hb _) c
  simp only [Int.reducePow] at a2 c2
  obtain ⟨d1, rfl, _⟩ := rdTake_inv d
  exact ⟨by simp at d1 ⊢; omega, Int.emod_eq_of_lt c1 c2, Int.emod_eq_of_lt a1 a2⟩
theorem LinkD.step2 {l : List Int} {second : Bool} {ver : Int} {ins : List InD} {n : Int} {i : Nat} {outs : List OutD} {r r2 : List Int} {d dF : OutD} {e2 : Int} (h : LinkD l second ver ins n i outs r 0) (hi : (i : Int) < n) (hr : RfR rdOut 0 r d e2 r2) (hd : e2 = 0 → dF = d) : LinkD l second ver ins n (i + 1) (outs ++ [dF]) r2 e2 := by
  rcases h.step hi hr with ⟨he, h⟩ | h
  · rw [hd he]; exact .inl ⟨he, h⟩
  · exact .inr h
theorem out_same {l : List Int} (hb : Bytes l) {k k33 k35 : Nat} {sc : List Int} {x33 e33 : Int} (h33 : RfR (rdNum 8) 0 (l.drop k) x33 e33 (l.drop k33)) (h35 : RfR (rdList 100000) e33 (l.drop k33) sc 0 (l.drop k35)) : wrap64 x33 = toI64 x33 := by
  obtain ⟨rfl, a⟩ := h35.zero
  obtain ⟨_, b⟩ := h33.zero
  obtain ⟨b1, b2, _⟩ := rdNum_inv (bytes_drop hb _) b
  simp only [Int.reducePow] at b2
  unfold wrap64 toI64
  split <;> omega
/-- where the loop over the outputs stands -/
def OutLoop (p NI NO : Nat) (l : List Int) (bv : Value) (second : Bool) (ver : Int) (xs : List InD) (iv : Value) (ci : List Value) (pi : List (Value × Value)) (n : Int) (w W : World) (i : Nat) : Prop :=
  i ≤ 25000 ∧ NO ≤ W.heap.size ∧ WitI (p + 3) NI W iv xs 0 (.slice none 0 0) ci pi ∧ ∃ (k : Nat) (e : Int) (outs : List OutD) (ov : Value) (S : Nat → Prop) (cs : List Value) (ps : List Value), Keeps w W ∧ k ≤ l.length ∧ DSt p W bv k e (.int .i32 ver) iv ov (.int .u32 0) ∧ OwnO S NO W ov outs cs ps ∧ outs.length = i ∧ LinkD l second ver xs n i outs (l.drop k) e
/-- where the loop over the witnesses stands -/
def WitLoop (p NO NOO : Nat) (l : List Int) (bv : Value) (second : Bool) (ver : Int) (xs : List InD) (outs : List OutD) (iv ov : Value) (w W : World) (i : Nat) : Prop :=
  i ≤ xs.length ∧ GotO NO NOO W ov outs ∧ ∃ (ci : List Value) (pi : List (Value × Value)) (k : Nat) (e : Int) (done : List InD), Keeps w W ∧ k ≤ l.length ∧ DSt p W bv k e (.int .i32 ver) iv ov (.int .u32 0) ∧ WitI (p + 3) W.heap.size W iv (done ++ xs.drop i) i (.slice none 0 0) ci pi ∧ done.length = i ∧ ((second = true ∧ LinkG l ver xs outs i done (l.drop k) e) ∨ (second = false ∧ i = 0 ∧ LinkF l false ver xs outs (l.drop k) e))
/-- where the loop over the items of one witness stands -/
def ItemLoop (p NO NOO NR : Nat) (l : List Int) (bv : Value) (ver : Int) (xs : List InD) (outs : List OutD) (iv ov : Value) (done : List InD) (n : Int) (w W : World) (i j : Nat) : Prop :=
  j ≤ 25000 ∧ NR ≤ W.heap.size ∧ GotO NO NOO W ov outs ∧ ∃ (ci : List Value) (pi : List (Value × Value)) (k : Nat) (e : Int) (ws : List (List Int)) (v : Value) (vs : List Value), Keeps w W ∧ k ≤ l.length ∧ DSt p W bv k e (.int .i32 ver) iv ov (.int .u32 0) ∧ WitI (p + 3) NR W iv (done ++ xs.drop i) i v ci pi ∧ OwnLL NR W v ws vs ∧ ws.length = j ∧ LinkW l ver xs outs i done n j ws (l.drop k) e
theorem row2_free {w : World} {b : Nat} {x y : Value} (h : Row w b 0 [x, y]) : (w.cell? ⟨b, 0, none⟩ = some x ∧ w.frozen? ⟨b, 0, none⟩ = false) ∧ (w.cell? ⟨b, 1, none⟩ = some y ∧ w.frozen? ⟨b, 1, none⟩ = false) := by
  refine ⟨?_, ?_⟩
  · have := h 0 _ rfl; simpa using this
  · have := h 1 _ rfl; simpa using this
theorem first_read {l l1 l2 : List Int} {x1 y2 e1 e2 : Int} (a : RfR (rdNum 4) 0 l x1 e1 l1) (b : RfR rdCountI e1 l1 y2 e2 l2) (h0 : 0 ≤ y2) :
    (e2 ≠ 0 ∧ rdTx l = .error e2) ∨ (e2 = 0 ∧ e1 = 0 ∧ rdNum 4 l = .ok (x1, l1) ∧ rdCount l1 = .ok (y2.toNat, l2) ∧ y2 ≤ 25000) := by
  rcases a with ⟨a, _⟩ | ⟨_, a1, a2⟩ | ⟨_, a1, a2⟩
  · exact absurd rfl a
  · rcases b with ⟨b, _⟩ | ⟨_, b1, b2⟩ | ⟨_, b1, b2⟩
    · exact absurd a1 b
    · obtain ⟨c1, c2⟩ := cnt_read b2 h0
      exact .inr ⟨b1, a1, a2, c1, c2⟩
    · exact .inl ⟨b1, tx_e2 a2 (cnt_err b2)⟩
  · rcases b with ⟨_, b⟩ | ⟨b, _⟩ | ⟨b, _⟩
    · exact .inl ⟨by rw [b]; exact a1, by rw [b]; exact tx_e1 a2⟩
    · exact absurd b a1
    · exact absurd b a1
theorem err_on {α : Type} {l r r2 : List Int} {e e2 : Int} {second : Bool} {ver n : Int} {p : Rdr α} {x : α} (he : e ≠ 0) (h : rdTx l = .error e) (hr : RfR p e r x e2 r2) : LinkA l second ver n r2 e2 := by
  rcases hr with ⟨_, a⟩ | ⟨a, _⟩ | ⟨a, _⟩
  · exact .inr ⟨by rw [a]; exact he, by rw [a]; exact h⟩
  · exact absurd a he
  · exact absurd a he
theorem second_read {l l1 l2 l3 l4 : List Int} {x1 y e : Int} (h1 : rdNum 4 l = .ok (x1, l1)) (h2 : rdCount l1 = .ok (0, l2)) (h3 : rdNum 1 l2 = .ok (1, l3)) (h4 : RfR rdCountI 0 l3 y e l4) (h0 : 0 ≤ y) : LinkA l true (toI32 x1) (IntKind.i64.wrap y) l4 e := by
  rcases h4 with ⟨a, _⟩ | ⟨_, b, c⟩ | ⟨_, b, c⟩
  · exact absurd rfl a
  · obtain ⟨c1, c2⟩ := cnt_read c h0
    exact .inl ⟨b, y.toNat, wrap_count h0 c2, by omega, tx_second h1 h2 h3 c1⟩
  · exact .inr ⟨b, tx_e5 h1 h2 h3 (cnt_err c)⟩
set_option maxRecDepth 100000 in
set_option maxHeartbeats 8000000 in
theorem rdecode_new (S : Nat → Prop) (bv : Value) (l : List Int) (w : World) (hb : RB S w bv l) :
    Calls Tryz.prog 43 #[bv] w (RDecN l w) := by
  have HB := Lib.hid hb
  obtain ⟨a, cap, rfl, hlc, hcm, hnil⟩ := hb.any
  have hsm := hb.small
  have HSM := Lib.hid hsm
  clear hb hlc hcm hnil hsm
  by_cases hbig : 100000 < l.length
  focus
    have hb2 : (100000 : Int) < (l.length : Int) := by omega
    go_enter Tryz.func43, Tryz.ntmps43
    go_wp2
    have h0 : Row (w.alloc (.cells #[.int .i32 0, .slice none 0 0, .slice none 0 0, .int .u32 0] 46)) w.heap.size 0 [.int .i32 0, .slice none 0 0, .slice none 0 0, .int .u32 0] := Row.new _ _ _ rfl
    refine bodyPost_ret (results_cell_tmp (t := 3) (p := 2) rfl _ _ w.heap.size 0 _ _ _ rfl rfl h0 Tryz.underlying46 rfl (sz_tx _ _ _ _)) rfl ?_
    exact ⟨keeps_alloc (Keeps.refl w) _, .inr ⟨2, dec_big hbig, rfl⟩⟩
  have hb2 : ¬ (100000 : Int) < (l.length : Int) := by omega
  have HBIG := Lib.hid hbig
  go_enter Tryz.func43, Tryz.ntmps43
  go_upto_region 5 with (fail)
  clear hb2 hbig
  refine wp_rows3 (fun W0 hk hr1 hr2 hr3 hsz => ?_)
  simp only at hr1 hr2 hr3
  obtain ⟨p, hp⟩ : ∃ p, p = w.heap.size := ⟨_, rfl⟩
  rw [← hp] at hr1 hr2 hr3 hsz ⊢
  have HP := Lib.hid hp
  have HD0 := Lib.hid (show DSt p W0 (.slice a l.length cap) 0 0 (.int .i32 0) (.slice none 0 0) (.slice none 0 0) (.int .u32 0) from ⟨hr1, hr2, hr3, by omega⟩)
  have HK0 := Lib.hid hk
  clear hk hr1 hr2 hr3 hp hsz
  go_upto_region 7 with (first
    | ((with_reducible refine gate_load 81 (.tmp 4) ?_); refine wpList_load_at rfl 81 (.tmp 4) rfl (p + 1) 0 rfl _ _ HD0.out.loc Tryz.underlying81 rfl (sz_inv _ _ _) ?_)
    | (go_at_call 72; refine (rnum_any S (.slice a l.length cap) l 0 0 4 (by omega) W0 (HB.out.keeps HK0.out) (Nat.zero_le _)).mono ?_; intro r WA1 hpst; obtain ⟨hk1, x1, val, k1, e1, rfl, hkl, hrr, rfl, x0, x9⟩ := hpst; have HKA1 := Lib.hid hk1; have HL1 := Lib.hid hkl; have HR1 := Lib.hid hrr; have HX1 := Lib.hid (And.intro x0 x9); clear x0 x9; have HDA1 := Lib.hid (HD0.out.keeps hk1); clear hk1 hkl hrr; unfold inV)
    | ((with_reducible refine gate_store 81 (.tmp 4) (.tmp 28) ?_); refine wpList_store_row rfl 81 (.tmp 4) (.tmp 28) rfl (p + 1) 0 rfl _ [.slice a l.length cap, .int .i64 k1, .int .i64 e1] rfl HDA1.out.loc rfl (sz_inv _ _ _) (three_one _ _ _ _ _) ?_; intro W1 hr2 hc2; have HD1 := Lib.hid (HDA1.out.go hc2 hr2); have HS1 := Lib.hid hc2; have HC1 := Lib.hid ((DX.keeps (p := p) HKA1.out).trans (DX.one hc2)); clear hr2 hc2))
  have HK1 := Lib.hid (DX.kept HK0.out HC1.out HP.out)
  obtain ⟨⟨t0, t1, t2, t3⟩, g0, g1, g2, g3⟩ := HD1.out.tcells
  obtain ⟨⟨c0, c1, c2⟩, f2⟩ := HD1.out.cells
  have hm1 : IntKind.u32.wrap x1 = x1 % 4294967296 := by rw [IntKind.wrap_u32]
  go_upto_region 9 with (fail)
  generalize hver : wrap32 (x1 % 4294967296) = ver
  have HV := Lib.hid (show (e1 = 0 → ver = toI32 x1) ∧ I32 ver by
    constructor
    · intro he
      subst he
      obtain ⟨-, hn⟩ := HR1.out.zero
      have hx := (rdNum_inv (bytes_drop HB.out.bytes _) hn)
      have h0 := hx.1
      have h1 := hx.2.1
      simp only [Int.reducePow] at h1
      rw [← hver]
      unfold wrap32 toI32
      split <;> omega
    · rw [← hver]
      unfold wrap32 I32
      omega)
  clear hver hm1
  clear t0 t1 t2 t3 g0 g1 g2 g3 c0 c1 c2 f2
  have hdn := HD1.out.put 0 (by omega) (.int .i32 ver) rfl
  have hcn : Chg (DX p) W1 (W1.setCell ⟨p + 1 + 1, 0, none⟩ (.int .i32 ver)) := DX.two (Chg.cell (p + 1 + 1) 0 _)
  have HD2 := Lib.hid hdn; have HC2 := Lib.hid hcn
  have HK2 := Lib.hid (DX.kept HK1.out hcn HP.out)
  clear hdn hcn
  generalize W1.setCell ⟨p + 1 + 1, 0, none⟩ (.int .i32 ver) = W2 at *
  go_upto_region 10 with (first
    | ((with_reducible refine gate_load 81 (.tmp 4) ?_); refine wpList_load_at rfl 81 (.tmp 4) rfl (p + 1) 0 rfl _ _ HD2.out.loc Tryz.underlying81 rfl (sz_inv _ _ _) ?_)
    | (go_at_call 74; refine (rcount_any S (.slice a l.length cap) l k1 e1 W2 (HB.out.keeps HK2.out) HL1.out).mono ?_; intro r WA3 hpst; obtain ⟨hk1, y3, val, k3, e3, rfl, hkl, hrr, rfl, x0, x9⟩ := hpst; have HKA3 := Lib.hid hk1; have HL3 := Lib.hid hkl; have HR3 := Lib.hid hrr; have HX3 := Lib.hid (And.intro x0 x9); clear x0 x9; generalize hnv : IntKind.i64.wrap y3 = n3; have HN3 := Lib.hid hnv; clear hnv; have HDA3 := Lib.hid (HD2.out.keeps hk1); clear hk1 hkl hrr; unfold inV)
    | ((with_reducible refine gate_store 81 (.tmp 4) (.tmp 37) ?_); refine wpList_store_row rfl 81 (.tmp 4) (.tmp 37) rfl (p + 1) 0 rfl _ [.slice a l.length cap, .int .i64 k3, .int .i64 e3] rfl HDA3.out.loc rfl (sz_inv _ _ _) (three_one _ _ _ _ _) ?_; intro W3 hr2 hc2; have HD3 := Lib.hid (HDA3.out.go hc2 hr2); have HS3 := Lib.hid hc2; have HC3 := Lib.hid ((DX.keeps (p := p) HKA3.out).trans (DX.one hc2)); clear hr2 hc2))
  have HK3 := Lib.hid (DX.kept HK2.out HC3.out HP.out)
  have hfirst := first_read (by have := HR1.out; rwa [List.drop_zero] at this) HR3.out HX3.out.1
  have HF := Lib.hid hfirst
  clear hfirst
  rename_i K1 hK1
  refine wp_join2 [8, 38, 39, 40, 41, 42, 43, 44] (fun us W => W3 = W ∧ ∃ second : Bool, us.getD 0 undef = .bool second ∧ (second = true → e3 = 0 ∧ y3 = 0) ∧ (second = false → e3 = 0 → y3 ≠ 0)) hK1 (fun key0 => ?_) ?_
  focus
    have key := fun u1 u2 u3 u4 u5 u6 u7 u8 w' => key0 [u1, u2, u3, u4, u5, u6, u7, u8] w' rfl
    clear key0 hK1
    simp only [putAll, Act.put, List.setIfInBounds_toArray, List.set_cons_zero, List.set_cons_succ] at key
    have KEY := Lib.hid key
    clear key
    obtain ⟨⟨t0, t1, t2, t3⟩, g0, g1, g2, g3⟩ := HD3.out.tcells
    obtain ⟨⟨c0, c1, c2⟩, f2⟩ := HD3.out.cells
    by_cases he3 : e3 = 0
    focus
      have hy : n3 = y3 := by
        rcases HF.out with ⟨h, _⟩ | ⟨_, _, _, _, h⟩
        · exact absurd he3 h
        · rw [← HN3.out, IntKind.wrap_i64]; have := HX3.out.1; omega
      subst he3
      have HYN := Lib.hid hy
      by_cases hn0 : n3 = 0
      focus
        subst hn0
        clear hy
        go_wp2
        refine KEY.out _ _ _ _ _ _ _ _ _ ?_
        exact ⟨rfl, true, rfl, (fun _ => by first | exact ⟨trivial, HYN.out.symm⟩ | exact ⟨rfl, HYN.out.symm⟩ | exact HYN.out.symm), by simp⟩
      focus
        have HN0 := Lib.hid hn0
        clear hy
        go_wp2
        refine KEY.out _ _ _ _ _ _ _ _ _ ?_
        exact ⟨rfl, false, by show Value.bool (n3 == 0) = _; simp [HN0.out], by simp, fun _ _ h => HN0.out (HYN.out.trans h)⟩
    focus
      have HE3 := Lib.hid he3
      go_wp2
      refine KEY.out _ _ _ _ _ _ _ _ _ ?_
      exact ⟨rfl, false, rfl, (fun h => by cases h), fun _ h => absurd h HE3.out⟩
  intro us W3' hl hj
  match us, hl with
  | [u1, u2, u3, u4, u5, u6, u7, u8], _ =>
  obtain ⟨rfl, second, hu, hs1, hs2⟩ := hj
  obtain rfl : u1 = .bool second := hu
  simp only [putAll, Act.put, List.setIfInBounds_toArray, List.set_cons_zero, List.set_cons_succ]
  have HS1 := Lib.hid hs1; have HS2 := Lib.hid hs2
  clear hs1 hs2 hl hK1 K1
  go_upto_region 11 with (fail)
  rename_i K1 hK1 K0 hK0
  refine wp_join2 [6, 7, 45, 46, 47, 48, 49, 50, 51, 52, 53, 54, 55, 56, 57, 58, 59, 60, 61, 62, 63] (fun us W => ∃ (n : Int) (k : Nat) (e : Int), us.getD 1 undef = .int .i64 n ∧ Keeps w W ∧ k ≤ l.length ∧ DSt p W (.slice a l.length cap) k e (.int .i32 ver) (.slice none 0 0) (.slice none 0 0) (.int .u32 0) ∧ LinkA l second ver n (l.drop k) e) hK1 (fun key0 => ?_) ?_
  focus
    have key := fun x1_ x2_ x3_ x4_ x5_ x6_ x7_ x8_ x9_ x10_ x11_ x12_ x13_ x14_ x15_ x16_ x17_ x18_ x19_ x20_ x21_ w' => key0 [x1_, x2_, x3_, x4_, x5_, x6_, x7_, x8_, x9_, x10_, x11_, x12_, x13_, x14_, x15_, x16_, x17_, x18_, x19_, x20_, x21_] w' rfl
    clear key0 hK1
    simp only [putAll, Act.put, List.setIfInBounds_toArray, List.set_cons_zero, List.set_cons_succ] at key
    have KEY := Lib.hid key
    clear key
    cases second
    focus
      go_wp2
      refine KEY.out _ _ _ _ _ _ _ _ _ _ _ _ _ _ _ _ _ _ _ _ _ _ ?_
      refine ⟨n3, k3, e3, rfl, HK3.out, HL3.out, HD3.out, ?_⟩
      rcases HF.out with ⟨h1, h2⟩ | ⟨h1, h2, h3, h4, h5⟩
      · exact .inr ⟨h1, h2⟩
      · have hy := HS2.out (by simp) h1
        have h0 := HX3.out.1
        refine .inl ⟨h1, y3.toNat, by rw [← HN3.out]; exact wrap_count h0 h5, by omega, ?_⟩
        rw [HV.out.1 h2]
        exact tx_plain h3 h4 (by omega)
    focus
      have hse := HS1.out (by simp)
      obtain ⟨h1, h2⟩ := hse
      subst h1 h2
      have hf2 : e1 = 0 ∧ rdNum 4 l = .ok (x1, l.drop k1) ∧ rdCount (l.drop k1) = .ok (0, l.drop k3) := by
        rcases HF.out with ⟨h1, _⟩ | ⟨_, h2, h3, h4, _⟩
        · exact absurd rfl h1
        · exact ⟨h2, h3, h4⟩
      have HF2 := Lib.hid hf2
      clear hf2
      go_upto_region 13 with (first
        | ((with_reducible refine gate_load 81 (.tmp 4) ?_); refine wpList_load_at rfl 81 (.tmp 4) rfl (p + 1) 0 rfl _ _ HD3.out.loc Tryz.underlying81 rfl (sz_inv _ _ _) ?_)
        | (go_at_call 72; refine (rnum_any S (.slice a l.length cap) l k3 0 1 (by omega) W3 (HB.out.keeps HK3.out) HL3.out).mono ?_; intro r WA4 hpst; obtain ⟨hk1, x4, val, k4, e4, rfl, hkl, hrr, rfl, x0, x9⟩ := hpst; have HKA4 := Lib.hid hk1; have HL4 := Lib.hid hkl; have HR4 := Lib.hid hrr; have HX4 := Lib.hid (And.intro x0 x9); clear x0 x9; have HDA4 := Lib.hid (HD3.out.keeps hk1); clear hk1 hkl hrr; unfold inV)
        | ((with_reducible refine gate_store 81 (.tmp 4) (.tmp 50) ?_); refine wpList_store_row rfl 81 (.tmp 4) (.tmp 50) rfl (p + 1) 0 rfl _ [.slice a l.length cap, .int .i64 k4, .int .i64 e4] rfl HDA4.out.loc rfl (sz_inv _ _ _) (three_one _ _ _ _ _) ?_; intro W4 hr2 hc2; have HD4 := Lib.hid (HDA4.out.go hc2 hr2); have HS4 := Lib.hid hc2; have HC4 := Lib.hid ((DX.keeps (p := p) HKA4.out).trans (DX.one hc2)); clear hr2 hc2))
      have HK4 := Lib.hid (DX.kept HK3.out HC4.out HP.out)
      by_cases he4 : e4 = 0
      focus
        subst he4
        have HN4 := Lib.hid (HR4.out.zero).2
        by_cases hx4 : x4 = 1
        focus
          subst hx4
          obtain ⟨⟨t0, t1, t2, t3⟩, g0, g1, g2, g3⟩ := HD4.out.tcells
          obtain ⟨⟨c0, c1, c2⟩, f2⟩ := HD4.out.cells
          go_upto_region 15 with (fail)
          clear t0 t1 t2 t3 g0 g1 g2 g3 c0 c1 c2 f2
          go_wp2_with (first
            | ((with_reducible refine gate_load 81 (.tmp 4) ?_); refine wpList_load_at rfl 81 (.tmp 4) rfl (p + 1) 0 rfl _ _ HD4.out.loc Tryz.underlying81 rfl (sz_inv _ _ _) ?_)
            | (go_at_call 74; refine (rcount_any S (.slice a l.length cap) l k4 0 W4 (HB.out.keeps HK4.out) HL4.out).mono ?_; intro r WA5 hpst; obtain ⟨hk1, y5, val, k5, e5, rfl, hkl, hrr, rfl, x0, x9⟩ := hpst; have HKA5 := Lib.hid hk1; have HL5 := Lib.hid hkl; have HR5 := Lib.hid hrr; have HX5 := Lib.hid (And.intro x0 x9); clear x0 x9; generalize hnv : IntKind.i64.wrap y5 = n5; have HN5 := Lib.hid hnv; clear hnv;  have HDA5 := Lib.hid (HD4.out.keeps hk1); clear hk1 hkl hrr; unfold inV)
            | ((with_reducible refine gate_store 81 (.tmp 4) (.tmp 63) ?_); refine wpList_store_row rfl 81 (.tmp 4) (.tmp 63) rfl (p + 1) 0 rfl _ [.slice a l.length cap, .int .i64 k5, .int .i64 e5] rfl HDA5.out.loc rfl (sz_inv _ _ _) (three_one _ _ _ _ _) ?_; intro W5 hr2 hc2; have HD5 := Lib.hid (HDA5.out.go hc2 hr2); have HS5 := Lib.hid hc2; have HC5 := Lib.hid ((DX.keeps (p := p) HKA5.out).trans (DX.one hc2)); clear hr2 hc2))
          have HK5 := Lib.hid (DX.kept HK4.out HC5.out HP.out)
          refine KEY.out _ _ _ _ _ _ _ _ _ _ _ _ _ _ _ _ _ _ _ _ _ _ ?_
          refine ⟨n5, k5, e5, rfl, HK5.out, HL5.out, HD5.out, ?_⟩
          rw [HV.out.1 HF2.out.1, ← HN5.out]
          exact second_read HF2.out.2.1 HF2.out.2.2 HN4.out HR5.out HX5.out.1
        focus
          have HNE := Lib.hid hx4
          obtain ⟨⟨t0, t1, t2, t3⟩, g0, g1, g2, g3⟩ := HD4.out.tcells
          obtain ⟨⟨c0, c1, c2⟩, f2⟩ := HD4.out.cells
          go_upto_region 15 with (fail)
          clear hx4
          clear t0 t1 t2 t3 g0 g1 g2 g3 c0 c1 c2 f2
          have hd9 : DSt p (W4.setCell ⟨p + 1, 2, none⟩ (.int .i64 3)) (.slice a l.length cap) k4 3 (.int .i32 ver) (.slice none 0 0) (.slice none 0 0) (.int .u32 0) := by
            refine HD4.out.go (Chg.cell (p + 1) 2 _) ?_
            have := HD4.out.loc.set 2 (by simp) (.int .i64 3)
            simpa using this
          have HD9 := Lib.hid hd9
          have HK9 := Lib.hid (DX.kept HK4.out (DX.one (Chg.cell (p + 1) 2 (.int .i64 3))) HP.out)
          clear hd9
          generalize W4.setCell ⟨p + 1, 2, none⟩ (.int .i64 3) = W9 at *
          go_wp2_with (first
            | ((with_reducible refine gate_load 81 (.tmp 4) ?_); refine wpList_load_at rfl 81 (.tmp 4) rfl (p + 1) 0 rfl _ _ HD9.out.loc Tryz.underlying81 rfl (sz_inv _ _ _) ?_)
            | (go_at_call 74; refine (rcount_any S (.slice a l.length cap) l k4 3 W9 (HB.out.keeps HK9.out) HL4.out).mono ?_; intro r WA5 hpst; obtain ⟨hk1, y5, val, k5, e5, rfl, hkl, hrr, rfl, x0, x9⟩ := hpst; have HKA5 := Lib.hid hk1; have HL5 := Lib.hid hkl; have HR5 := Lib.hid hrr; have HX5 := Lib.hid (And.intro x0 x9); clear x0 x9; generalize hnv : IntKind.i64.wrap y5 = n5; have HN5 := Lib.hid hnv; clear hnv;  have HDA5 := Lib.hid (HD9.out.keeps hk1); clear hk1 hkl hrr; unfold inV)
            | ((with_reducible refine gate_store 81 (.tmp 4) (.tmp 63) ?_); refine wpList_store_row rfl 81 (.tmp 4) (.tmp 63) rfl (p + 1) 0 rfl _ [.slice a l.length cap, .int .i64 k5, .int .i64 e5] rfl HDA5.out.loc rfl (sz_inv _ _ _) (three_one _ _ _ _ _) ?_; intro W5 hr2 hc2; have HD5 := Lib.hid (HDA5.out.go hc2 hr2); have HS5 := Lib.hid hc2; have HC5 := Lib.hid ((DX.keeps (p := p) HKA5.out).trans (DX.one hc2)); clear hr2 hc2))
          have HK5 := Lib.hid (DX.kept HK9.out HC5.out HP.out)
          refine KEY.out _ _ _ _ _ _ _ _ _ _ _ _ _ _ _ _ _ _ _ _ _ _ ?_
          refine ⟨n5, k5, e5, rfl, HK5.out, HL5.out, HD5.out, ?_⟩
          exact err_on (by decide) (tx_e4 HF2.out.2.1 HF2.out.2.2 HN4.out HNE.out) HR5.out
      focus
        have HE4 := Lib.hid he4
        have hx := tx_e3 HF2.out.2.1 HF2.out.2.2 (by
          rcases HR4.out with ⟨h, _⟩ | ⟨_, h, _⟩ | ⟨_, _, h⟩
          · exact absurd rfl h
          · exact absurd h he4
          · exact h)
        have HX := Lib.hid hx
        clear hx
        obtain ⟨⟨t0, t1, t2, t3⟩, g0, g1, g2, g3⟩ := HD4.out.tcells
        obtain ⟨⟨c0, c1, c2⟩, f2⟩ := HD4.out.cells
        go_upto_region 15 with (fail)
        clear he4
        clear t0 t1 t2 t3 g0 g1 g2 g3 c0 c1 c2 f2
        go_wp2_with (first
          | ((with_reducible refine gate_load 81 (.tmp 4) ?_); refine wpList_load_at rfl 81 (.tmp 4) rfl (p + 1) 0 rfl _ _ HD4.out.loc Tryz.underlying81 rfl (sz_inv _ _ _) ?_)
          | (go_at_call 74; refine (rcount_any S (.slice a l.length cap) l k4 e4 W4 (HB.out.keeps HK4.out) HL4.out).mono ?_; intro r WA5 hpst; obtain ⟨hk1, y5, val, k5, e5, rfl, hkl, hrr, rfl, x0, x9⟩ := hpst; have HKA5 := Lib.hid hk1; have HL5 := Lib.hid hkl; have HR5 := Lib.hid hrr; have HX5 := Lib.hid (And.intro x0 x9); clear x0 x9; generalize hnv : IntKind.i64.wrap y5 = n5; have HN5 := Lib.hid hnv; clear hnv;  have HDA5 := Lib.hid (HD4.out.keeps hk1); clear hk1 hkl hrr; unfold inV)
          | ((with_reducible refine gate_store 81 (.tmp 4) (.tmp 63) ?_); refine wpList_store_row rfl 81 (.tmp 4) (.tmp 63) rfl (p + 1) 0 rfl _ [.slice a l.length cap, .int .i64 k5, .int .i64 e5] rfl HDA5.out.loc rfl (sz_inv _ _ _) (three_one _ _ _ _ _) ?_; intro W5 hr2 hc2; have HD5 := Lib.hid (HDA5.out.go hc2 hr2); have HS5 := Lib.hid hc2; have HC5 := Lib.hid ((DX.keeps (p := p) HKA5.out).trans (DX.one hc2)); clear hr2 hc2))
        have HK5 := Lib.hid (DX.kept HK4.out HC5.out HP.out)
        refine KEY.out _ _ _ _ _ _ _ _ _ _ _ _ _ _ _ _ _ _ _ _ _ _ ?_
        refine ⟨n5, k5, e5, rfl, HK5.out, HL5.out, HD5.out, ?_⟩
        exact err_on HE4.out HX.out HR5.out
  intro us W10 hl hj
  match us, hl with
  | [x1_, x2_, x3_, x4_, x5_, x6_, x7_, x8_, x9_, x10_, x11_, x12_, x13_, x14_, x15_, x16_, x17_, x18_, x19_, x20_, x21_], _ =>
  obtain ⟨n, k10, e10, hu, hk10, hkl10, hd10, hlk10⟩ := hj
  obtain rfl : x2_ = .int .i64 n := hu
  simp only [putAll, Act.put, List.setIfInBounds_toArray, List.set_cons_zero, List.set_cons_succ]
  have HK10 := Lib.hid hk10; have HL10 := Lib.hid hkl10; have HD10 := Lib.hid hd10; have HLK10 := Lib.hid hlk10; have HI32 := Lib.hid HV.out.2
  clear hk10 hkl10 hd10 hlk10 hl hK1 K1 hK0 K0 HS1 HS2 HF HV HD0 HK0 HR1 HL1 HX1 HD1 HK1 HC1 HDA1 HKA1 HD2 HC2 HK2 HR3 HL3 HX3 HN3 HD3 HK3 HC3 HDA3 HKA3
  go_wp2
  go_loopw [9] (fun c wr => ∃ i : Nat, c = .int .i64 i ∧ InLoop p l (.slice a l.length cap) second ver n w wr i) (fun c _ => (25001 - intOf c).toNat)
  case atStart => exact ⟨0, rfl, Nat.zero_le _, k10, e10, [], .slice none 0 0, _, _, _, _, HK10.out, HL10.out, HD10.out, OwnI.nil _ _, rfl, fun q h => (by cases h), fun d h => (by cases h), HLK10.out.start⟩
  case round =>
    obtain ⟨i, rfl, hi, k, e, xs, iv, S1, T1, cs, ps, hk, hkl, hd, hown, hxl, hps, hwt, hlk⟩ := hrel
    obtain ⟨ia, ic, rfl⟩ := hown.any
    have HK11 := Lib.hid hk; have HL11 := Lib.hid hkl; have HD11 := Lib.hid hd; have HOWN := Lib.hid hown; have HXL := Lib.hid hxl; have HPS := Lib.hid hps; have HWT := Lib.hid hwt; have HLK := Lib.hid hlk
    clear hk hkl hd hown hxl hps hwt hlk HK10 HL10 HD10 HLK10
    go_upto_region 17 with (fail)
    rename_i KG hKG
    refine wp_join2 [64, 65, 66, 67, 68, 69, 70, 71] (fun us W => wr = W ∧ ∃ bt : Bool, us.getD 7 undef = .bool bt ∧ (bt = true → e = 0 ∧ (i : Int) < n) ∧ (bt = false → e = 0 → ¬ (i : Int) < n)) hKG (fun key0 => ?_) ?_
    focus
      have key := fun vA1 vA2 vA3 vA4 vA5 vA6 vA7 vA8 w' => key0 [vA1, vA2, vA3, vA4, vA5, vA6, vA7, vA8] w' rfl
      clear key0 hKG
      simp only [putAll, Act.put, List.setIfInBounds_toArray, List.set_cons_zero, List.set_cons_succ] at key
      have KEY := Lib.hid key
      clear key
      obtain ⟨⟨c0, c1, c2⟩, f2⟩ := HD11.out.cells
      by_cases hlt : (i : Int) < n
      focus
        by_cases he : e = 0
        focus
          have HE := Lib.hid he; have HLT := Lib.hid hlt
          go_wp2
          refine KEY.out _ _ _ _ _ _ _ _ _ ?_
          exact ⟨rfl, true, by show Value.bool _ = _; first | rfl | simp [HE.out], fun _ => ⟨HE.out, HLT.out⟩, fun h => by simp at h⟩
        focus
          have HE := Lib.hid he
          go_wp2
          refine KEY.out _ _ _ _ _ _ _ _ _ ?_
          exact ⟨rfl, false, by show Value.bool _ = _; first | rfl | simp [HE.out], fun h => by simp at h, fun _ h => absurd h HE.out⟩
      focus
        have HLT := Lib.hid hlt
        go_wp2
        refine KEY.out _ _ _ _ _ _ _ _ _ ?_
        exact ⟨rfl, false, by show Value.bool _ = _; first | rfl | simp, fun h => by simp at h, fun _ _ => HLT.out⟩
    intro us WG hl hj
    match us, hl with
    | [vA1, vA2, vA3, vA4, vA5, vA6, vA7, vA8], _ =>
    obtain ⟨rfl, bA, hu, hb1, hb2⟩ := hj
    obtain rfl : vA8 = .bool bA := hu
    simp only [putAll, Act.put, List.setIfInBounds_toArray, List.set_cons_zero, List.set_cons_succ]
    have HG1A := Lib.hid hb1; have HG2A := Lib.hid hb2
    clear hb1 hb2 hl hKG KG
    cases bA
    rotate_left
    focus
      obtain ⟨he, hlt⟩ := HG1A.out (by simp)
      subst he
      have HLT := Lib.hid hlt
      clear hlt
      go_upto_region 21 with (fail)
      generalize wr = wA at *
      refine wp_rows1r (fun W12 hk12 hr12 hsz12 => ?_)
      simp only at hr12
      obtain ⟨q, hq⟩ : ∃ q, q = wA.heap.size := ⟨_, rfl⟩
      rw [← hq] at hr12 hsz12 ⊢
      have HQ := Lib.hid hq
      have HQP := Lib.hid (show p + 3 ≤ q by have := HD11.out.lt; omega)
      have HQR12 := Lib.hid (show Row W12 q 0 zeroIn from hr12)
      have HD12 := Lib.hid (HD11.out.keeps hk12); have HK12 := Lib.hid (HK11.out.trans hk12); have HKA12 := Lib.hid hk12; have HL12 := Lib.hid HL11.out; have HSZ12 := Lib.hid hsz12
      clear hq hr12 hk12 hsz12
      go_upto_region 22 with (first
        | ((with_reducible refine gate_load 81 (.tmp 4) ?_); refine wpList_load_at rfl 81 (.tmp 4) rfl (p + 1) 0 rfl _ _ HD12.out.loc Tryz.underlying81 rfl (sz_inv _ _ _) ?_)
        | (go_at_call 73; refine (rraw_any S (.slice a l.length cap) l k 0 32 (by omega) W12 (HB.out.keeps HK12.out) HL12.out).mono ?_; intro r WA13 hpst; obtain ⟨hk1, hh, val, k13, e13, rfl, hkl, hrr, henc⟩ := hpst; have HKA13 := Lib.hid hk1; have HL13 := Lib.hid hkl; have HR13 := Lib.hid hrr; have HE13 := Lib.hid henc; obtain ⟨av, cv, rfl⟩ := henc.1.any; clear henc; have HDA13 := Lib.hid (HD12.out.keeps hk1); clear hk1 hkl hrr; unfold inV)
        | ((with_reducible refine gate_store 81 (.tmp 4) (.tmp 78) ?_); refine wpList_store_row rfl 81 (.tmp 4) (.tmp 78) rfl (p + 1) 0 rfl _ [.slice a l.length cap, .int .i64 k13, .int .i64 e13] rfl HDA13.out.loc rfl (sz_inv _ _ _) (three_one _ _ _ _ _) ?_; intro W13 hr2 hc2; have HD13 := Lib.hid (HDA13.out.go hc2 hr2); have HS13 := Lib.hid hc2; have HC13 := Lib.hid ((DX.keeps (p := p) HKA13.out).trans (DX.one hc2)); clear hr2 hc2))
      have HK13 := Lib.hid (DX.kept HK12.out HC13.out HP.out)
      have hqn : ¬ DX p q := fun h => by have := h.low; have := HQP.out; omega
      have hqr13 : Row W13 q 0 zeroIn := HQR12.out.chg HC13.out hqn
      have hrd13 : Rd W13 1 (.slice av hh.length cv) hh.length (hh.map (Value.int .u8)) := (HE13.out.1.rd).chg HS13.out (fun g hg e => by have h1 := HE13.out.1.new g hg; have h2 := HSZ12.out; have h3 := HQP.out; have h4 : g = p + 1 := e; omega)
      have hvq : ∀ g, Value.ownBlock (.slice av hh.length cv) = some g → ¬ g = q := fun g hg e => by have h1 := HE13.out.1.new g hg; have h2 := HSZ12.out; omega
      have HQN := Lib.hid hqn; have HRD13 := Lib.hid hrd13; have HVQ := Lib.hid hvq
      have HHL := Lib.hid HE13.out.2.1
      rw [zeroIn_eq, hashAt_nil hh] at hqr13
      have HQR13 := Lib.hid hqr13
      clear hqn hqr13 hrd13 hvq
      have hh32 := HHL.out
      go_wp2
      go_loopw [12] (fun c wr => ∃ j : Nat, c = .int .i64 j ∧ j ≤ hh.length ∧ Row wr q 0 (inCells ⟨hashAt hh j, 0, [], 0, []⟩ (.slice none 0 0) (.slice none 0 0)) ∧ Chg (· = q) W13 wr) (fun c _ => (hh.length - intOf c).toNat)
      case atStart => exact ⟨0, rfl, Nat.zero_le _, HQR13.out, Chg.refl _ _⟩
      case round =>
        obtain ⟨j, rfl, hj, hqr, hcq⟩ := hrel
        have HQR := Lib.hid hqr; have HCQ := Lib.hid hcq
        have hlen : (hashAt hh j).length = 32 := hashAt_len hj hh32
        have HLENJ := Lib.hid hlen
        clear hqr hcq hlen
        by_cases hjl : j < hh.length
        focus
          obtain ⟨h0, av', cv', e0, h2, h3, h4, h5⟩ := HRD13.out.chg HCQ.out (fun g hg => HVQ.out g hg)
          cases e0
          cases av with
          | none => have := (h4 rfl).1; omega
          | some ad =>
            obtain ⟨gh, oh, rfl, hgh, hrow⟩ := h5 ad rfl (by omega)
            have hc1 := (hrow j (.int .u8 (hh.getD j 0)) (by simp [List.getD, hjl])).1
            obtain ⟨uq, hc2, hf2⟩ := row_get HQR.out j (by rw [inCells_length _ _ _ HLENJ.out]; omega)
            have hj32 : (j : Int) < 32 := by omega
            have hjh : (j : Int) < hh.length := by omega
            have HJL := Lib.hid hjl
            clear h0 h2 h3 h4 h5 hrow hjl
            generalize hgd : hh.getD j 0 = bj at *
            have HGD := Lib.hid hgd
            clear hgd
            go_wp2
            go_roundw
            case rel =>
              have hset := HQR.out.set j (by rw [inCells_length _ _ _ HLENJ.out]; omega) (.int .u8 bj)
              rw [Nat.zero_add, inCells_setH _ _ _ _ _ HLENJ.out (by omega)] at hset
              simp only at hset
              rw [← HGD.out, hashAt_set HJL.out hh32] at hset
              refine ⟨j + 1, by go_num, HJL.out, ?_, HCQ.out.trans (Chg.cell q j _)⟩
              rw [← HGD.out]
              exact hset
            case measure => simp [intOf]; omega
        focus
          obtain rfl : j = hh.length := by omega
          have hd14 := HD13.out.far HCQ.out (fun g hg => by have := HQP.out; have h : g = q := hg; omega)
          have HD14 := Lib.hid hd14
          have HK14 := Lib.hid (XQ.kept HK13.out (XQ.own (p := p) HCQ.out) HP.out HQP.out)
          have HCA14 := Lib.hid (((XQ.keeps (p := p) (q := q) HKA12.out).trans (XQ.low HC13.out)).trans (XQ.own HCQ.out))
          have HHS := Lib.hid (hashAt_len (Nat.le_refl hh.length) hh32)
          have HQ14 := Lib.hid HQR.out
          clear hd14 hjl hj HQR HCQ HLENJ HQR13 HRD13
          generalize hhs : hashAt hh hh.length = hs at *
          have HHSE := Lib.hid hhs
          clear hhs
          generalize wr = W14 at *
          go_upto_region 27 with (first
            | ((with_reducible refine gate_load 81 (.tmp 4) ?_); refine wpList_load_at rfl 81 (.tmp 4) rfl (p + 1) 0 rfl _ _ HD14.out.loc Tryz.underlying81 rfl (sz_inv _ _ _) ?_)
            | (go_at_call 72; refine (rnum_any S (.slice a l.length cap) l k13 e13 4 (by omega) W14 (HB.out.keeps HK14.out) HL13.out).mono ?_; intro r WA15 hpst; obtain ⟨hk1, x15, val, k15, e15, rfl, hkl, hrr, rfl, x0, x9⟩ := hpst; have HKA15 := Lib.hid hk1; have HL15 := Lib.hid hkl; have HR15 := Lib.hid hrr; have HX15 := Lib.hid (And.intro x0 x9); clear x0 x9; have HDA15 := Lib.hid (HD14.out.keeps hk1); clear hk1 hkl hrr; unfold inV)
            | ((with_reducible refine gate_store 81 (.tmp 4) (.tmp 97) ?_); refine wpList_store_row rfl 81 (.tmp 4) (.tmp 97) rfl (p + 1) 0 rfl _ [.slice a l.length cap, .int .i64 k15, .int .i64 e15] rfl HDA15.out.loc rfl (sz_inv _ _ _) (three_one _ _ _ _ _) ?_; intro W15 hr2 hc2; have HD15 := Lib.hid (HDA15.out.go hc2 hr2); have HS15 := Lib.hid hc2; have HC15 := Lib.hid ((DX.keeps (p := p) HKA15.out).trans (DX.one hc2)); clear hr2 hc2))
          have HK15 := Lib.hid (DX.kept HK14.out HC15.out HP.out)
          have HQ15 := Lib.hid (HQ14.out.chg HC15.out HQN.out)
          have HCA15 := Lib.hid (HCA14.out.trans (XQ.low HC15.out))
          obtain ⟨⟨z32, y32⟩, -⟩ := row_free HQ15.out HHS.out
          have hm15 : IntKind.u32.wrap x15 = x15 % 4294967296 := by rw [IntKind.wrap_u32]
          go_upto_region 28 with (fail)
          clear z32 y32 hm15
          have hqn := HQ15.out.set 32 (by rw [inCells_length _ _ _ HHS.out]; omega) (.int .u32 (x15 % 4294967296))
          rw [Nat.zero_add, inCells_set32 _ _ _ _ HHS.out] at hqn
          have HQ16 := Lib.hid hqn
          have HD16 := Lib.hid (HD15.out.far (Chg.cell q 32 (.int .u32 (x15 % 4294967296))) (fun g hg => by have := HQP.out; have h : g = q := hg; omega))
          have HK16 := Lib.hid (XQ.kept HK15.out (XQ.own (p := p) (Chg.cell q 32 (.int .u32 (x15 % 4294967296)))) HP.out HQP.out)
          have HCA16 := Lib.hid (HCA15.out.trans (XQ.own (Chg.cell q 32 (.int .u32 (x15 % 4294967296)))))
          have HL16 := Lib.hid HL15.out
          clear hqn
          generalize W15.setCell ⟨q, 32, none⟩ (.int .u32 (x15 % 4294967296)) = W16 at *
          have HS16 := Lib.hid (show q < W16.heap.size from HQ16.out.lt (by unfold inCells; simp))
          simp only at HQ16
          go_upto_region 29 with (first
            | ((with_reducible refine gate_load 81 (.tmp 4) ?_); refine wpList_load_at rfl 81 (.tmp 4) rfl (p + 1) 0 rfl _ _ HD16.out.loc Tryz.underlying81 rfl (sz_inv _ _ _) ?_)
            | (go_at_call 42; refine (rlist_any S (.slice a l.length cap) l k15 e15 100000 W16 (HB.out.keeps HK16.out) HL16.out).mono ?_; intro r WA17 hpst; obtain ⟨hk1, sc, val, k17, e17, rfl, hkl, hrr, henc⟩ := hpst; obtain ⟨a17, c17, rfl⟩ := henc.1.any; have HKA17 := Lib.hid hk1; have HL17 := Lib.hid hkl; have HR17 := Lib.hid hrr; have HE17 := Lib.hid henc; obtain ⟨-, ⟨z33, y33⟩, -⟩ := row_free (HQ16.out.keeps hk1) HHS.out; have HDA17 := Lib.hid ((HD16.out.keeps hk1).far (Chg.cell q 33 (.slice a17 sc.length c17)) (fun b hb => by have := HQP.out; omega)); clear hk1 hkl hrr henc; unfold inV)
            | ((with_reducible refine gate_store 81 (.tmp 4) (.tmp 106) ?_); refine wpList_store_row rfl 81 (.tmp 4) (.tmp 106) rfl (p + 1) 0 rfl _ [.slice a l.length cap, .int .i64 k17, .int .i64 e17] rfl HDA17.out.loc rfl (sz_inv _ _ _) (three_one _ _ _ _ _) ?_; intro W17 hr2 hc2; have HD17 := Lib.hid (HDA17.out.go hc2 hr2); have HS17 := Lib.hid hc2; have HC17 := Lib.hid (((XQ.keeps (p := p) (q := q) HKA17.out).trans (XQ.own (Chg.cell q 33 (.slice a17 sc.length c17)))).trans (XQ.low (DX.one hc2))); clear hr2 hc2))
          have HK17 := Lib.hid (XQ.kept HK16.out HC17.out HP.out HQP.out)
          clear z33 y33
          have hqn := ((HQ16.out.keeps HKA17.out).set 33 (by rw [inCells_length _ _ _ HHS.out]; omega) (.slice a17 sc.length c17))
          rw [Nat.zero_add, inCells_set33 _ _ _ _ sc HHS.out] at hqn
          simp only at hqn
          have HQ17 := Lib.hid (hqn.chg HS17.out (by have := HQP.out; omega))
          have hrb : RB (fun b => W16.heap.size ≤ b ∧ b < WA17.heap.size) WA17 (.slice a17 sc.length c17) sc := HE17.out.1.rb HE17.out.2.2 (by have := HE17.out.2.1; omega)
          have HRB17 := Lib.hid ((hrb.chg (Chg.cell q 33 (.slice a17 sc.length c17)) (fun b hb e => by have := HS16.out; have := hb.1; omega)).chg HS17.out (fun b hb e => by have h1 := hb.1; have h2 := HS16.out; have h3 := HQP.out; have h4 : b = p + 1 := e; omega))
          have HCA17 := Lib.hid (HCA16.out.trans HC17.out)
          clear hqn hrb
          go_upto_region 30 with (first
            | ((with_reducible refine gate_load 81 (.tmp 4) ?_); refine wpList_load_at rfl 81 (.tmp 4) rfl (p + 1) 0 rfl _ _ HD17.out.loc Tryz.underlying81 rfl (sz_inv _ _ _) ?_)
            | (go_at_call 72; refine (rnum_any S (.slice a l.length cap) l k17 e17 4 (by omega) W17 (HB.out.keeps HK17.out) HL17.out).mono ?_; intro r WA18 hpst; obtain ⟨hk1, x18, val, k18, e18, rfl, hkl, hrr, rfl, x0, x9⟩ := hpst; have HKA18 := Lib.hid hk1; have HL18 := Lib.hid hkl; have HR18 := Lib.hid hrr; have HX18 := Lib.hid (And.intro x0 x9); clear x0 x9; have HDA18 := Lib.hid (HD17.out.keeps hk1); clear hk1 hkl hrr; unfold inV)
            | ((with_reducible refine gate_store 81 (.tmp 4) (.tmp 112) ?_); refine wpList_store_row rfl 81 (.tmp 4) (.tmp 112) rfl (p + 1) 0 rfl _ [.slice a l.length cap, .int .i64 k18, .int .i64 e18] rfl HDA18.out.loc rfl (sz_inv _ _ _) (three_one _ _ _ _ _) ?_; intro W18 hr2 hc2; have HD18 := Lib.hid (HDA18.out.go hc2 hr2); have HS18 := Lib.hid hc2; have HC18 := Lib.hid ((DX.keeps (p := p) HKA18.out).trans (DX.one hc2)); clear hr2 hc2))
          have HK18 := Lib.hid (DX.kept HK17.out HC18.out HP.out)
          have HQ18 := Lib.hid (HQ17.out.chg HC18.out HQN.out)
          have HCA18 := Lib.hid (HCA17.out.trans (XQ.low HC18.out))
          have HRB18 := Lib.hid (HRB17.out.chg HC18.out (fun b hb e => by have h1 := hb.1; have h2 := HS16.out; have h3 := HQP.out; have h4 := e.low; omega))
          obtain ⟨-, -, ⟨z34, y34⟩, -⟩ := row_free HQ18.out HHS.out
          have hm18 : IntKind.u32.wrap x18 = x18 % 4294967296 := by rw [IntKind.wrap_u32]
          go_upto_region 31 with (fail)
          clear z34 y34 hm18
          have hqn := HQ18.out.set 34 (by rw [inCells_length _ _ _ HHS.out]; omega) (.int .u32 (x18 % 4294967296))
          rw [Nat.zero_add, inCells_set34 _ _ _ _ HHS.out] at hqn
          have HQ19 := Lib.hid hqn
          have HD19 := Lib.hid (HD18.out.far (Chg.cell q 34 (.int .u32 (x18 % 4294967296))) (fun g hg => by have := HQP.out; have h : g = q := hg; omega))
          have HK19 := Lib.hid (XQ.kept HK18.out (XQ.own (p := p) (Chg.cell q 34 (.int .u32 (x18 % 4294967296)))) HP.out HQP.out)
          have HCA19 := Lib.hid (HCA18.out.trans (XQ.own (Chg.cell q 34 (.int .u32 (x18 % 4294967296)))))
          have HL19 := Lib.hid HL18.out
          clear hqn
          have HRB19 := Lib.hid (HRB18.out.chg (Chg.cell q 34 (.int .u32 (x18 % 4294967296))) (fun b hb e => by have h1 := hb.1; have h2 := HS16.out; have h4 : b = q := e; omega))
          have hsz19 : WA17.heap.size ≤ (W18.setCell ⟨q, 34, none⟩ (.int .u32 (x18 % 4294967296))).heap.size := by
            have h1 := HS17.out.size
            have h2 := HC18.out.size
            simp at h1 ⊢
            omega
          have HSZ19 := Lib.hid hsz19
          have HSA19 := Lib.hid (show q < W16.heap.size ∧ W16.heap.size ≤ WA17.heap.size from ⟨HS16.out, HKA17.out.size⟩)
          clear hsz19
          generalize W18.setCell ⟨q, 34, none⟩ (.int .u32 (x18 % 4294967296)) = W19 at *
          simp only at HQ19
          have hrin : RIn (fun b => W16.heap.size ≤ b ∧ b < WA17.heap.size) NoneB W19 (.slice a17 sc.length c17) (.slice none 0 0) ⟨hs, x15 % 4294967296, sc, x18 % 4294967296, []⟩ :=
            ⟨⟨HHS.out, by rw [← HHSE.out]; exact hashAt_bytes HE13.out.2.2 _, ⟨by show 0 ≤ x15 % 4294967296; omega, by show x15 % 4294967296 < 4294967296; omega⟩, ⟨by show 0 ≤ x18 % 4294967296; omega, by show x18 % 4294967296 < 4294967296; omega⟩⟩, HRB19.out, (nil_rll _).mono (fun _ h => h.elim) (fun _ h => h)⟩
          have HRIN := Lib.hid hrin
          clear hrin
          obtain ⟨dF, hdF⟩ : ∃ dF : InD, dF = ⟨hs, x15 % 4294967296, sc, x18 % 4294967296, []⟩ := ⟨_, rfl⟩
          rw [← hdF] at HRIN HQ19
          have HLEN19 := Lib.hid (inCells_length dF (.slice a17 sc.length c17) (.slice none 0 0) (by rw [hdF]; exact HHS.out))
          have HDF := Lib.hid hdF
          clear hdF
          have hnb : ∀ b, Value.ownBlock (.slice ia xs.length ic) = some b → p + 3 ≤ b := fun b hb => HOWN.out.new b hb
          have HNB := Lib.hid hnb
          clear hnb
          obtain ⟨⟨t0, t1, t2, t3⟩, g0, g1, g2, g3⟩ := HD19.out.tcells
          go_upto_region 18 with (first
            | ((with_reducible refine gate_load 100 (.tmp 10) ?_); refine wpList_load_at rfl 100 (.tmp 10) rfl q 0 rfl _ _ HQ19.out Tryz.underlying100 rfl (by rw [HLEN19.out]; kernel_rfl) ?_)
            | ((with_reducible refine gate_bs _ _ _ ?_); refine wpList_buildSlice1 rfl 43 100 _ rfl 36 96 Tryz.underlying43 in_info in_zero (by decide) (inCells dF _ _) rfl HLEN19.out ?_)
            | ((with_reducible refine gate_app _ _ ?_); refine owni_append2 (X := XQ p q) rfl _ _ rfl HOWN.out HD11.out.lt HCA19.out (fun k hk => by have hq := HQ.out; rcases hk with hk | hk; exact .inl hk.low.2; exact .inr (by omega)) HRIN.out (fun b hb => by have h1 := HSA19.out; have h2 := HSZ19.out; have h3 := HQ.out; rcases hb with hb | hb; exact ⟨by omega, by omega⟩; exact hb.elim) (fun b _ h => h.elim) rfl 1 _ _ rfl rfl (by rw [HXL.out]; omega) ?_; intro v9 w9 hO9 hC9 hS9; obtain ⟨a9, c9, rfl⟩ := hO9.any; have HO9 := Lib.hid hO9; have HC9 := Lib.hid hC9; have HDB := Lib.hid ((HD19.out.keeps (keeps_alloc (Keeps.refl _) _)).far hC9 (fun b hb => HNB.out b hb)); obtain ⟨⟨t0', t1', t2', t3'⟩, g0', g1', g2', g3'⟩ := HDB.out.tcells; clear hO9 hC9 hS9))
          clear t0 t1 t2 t3 g0 g1 g2 g3 t0' t1' t2' t3' g0' g1' g2' g3'
          have HD20 := Lib.hid (HDB.out.put 1 (by omega) (.slice a9 (xs.length + 1) c9) rfl)
          have HK20 := Lib.hid (DX.kept (((HK19.out.trans (keeps_alloc (Keeps.refl _) _)).trans' HC9.out (fun b hb => by have h1 := HNB.out b hb; have h2 := HP.out; omega))) (DX.two (Chg.cell (p + 1 + 1) 1 (.slice a9 (xs.length + 1) c9))) HP.out)
          have ho9 := HO9.out
          rw [show (xs ++ [dF]).length = xs.length + 1 by simp] at ho9
          have HO20 := Lib.hid (ho9.chg (Chg.cell (p + 1 + 1) 1 (.slice a9 (xs.length + 1) c9)) (fun b hb => .inl (by have h : b = p + 1 + 1 := hb; omega)))
          clear ho9
          generalize w9.setCell ⟨p + 1 + 1, 1, none⟩ (.slice a9 (xs.length + 1) c9) = W20 at *
          have him : i + 1 ≤ 25000 := by
            rcases HLK.out with ⟨_, m, _, hnm, hm, _⟩ | ⟨h, _⟩
            · have := HLT.out; omega
            · exact absurd rfl h
          have HIM := Lib.hid him
          go_wp2
          go_roundw
          case rel =>
            have hlast : LinkB l second ver n (i + 1) (xs ++ [dF]) (l.drop k18) e18 := by
              refine HLK.out.step2 HLT.out (in_read HR13.out HR15.out HR17.out HR18.out) (fun he => ?_)
              subst he
              obtain ⟨s1, s2, s3⟩ := in_same HB.out.bytes HR13.out HR15.out HR17.out HR18.out
              rw [HDF.out, s2, s3, ← HHSE.out, hashAt_all s1]
            refine ⟨i + 1, by go_num, HIM.out, k18, e18, xs ++ [dF], _, _, _, _, _, HK20.out, HL18.out, HD20.out, HO20.out, by simp [HXL.out], ?_, ?_, hlast⟩
            · intro q2 hq2
              rcases List.mem_append.1 hq2 with hq2 | hq2
              · exact HPS.out q2 hq2
              · simp at hq2; rw [hq2]
            · intro d2 hd2
              rcases List.mem_append.1 hd2 with hd2 | hd2
              · exact HWT.out d2 hd2
              · simp at hd2; rw [hd2, HDF.out]
          case measure => show (25001 - ((i : Int) + 1)).toNat < (25001 - (i : Int)).toNat; have := HIM.out; omega
    have HLC := Lib.hid (HLK.out.done (HG2A.out (by simp)))
    generalize wr = W21 at *
    go_upto_region 32 with (fail)
    have hnn : xs.length ≤ 25000 := by rw [HXL.out]; exact hi
    have hwi := WitI.start HOWN.out (by omega) HPS.out HWT.out
    have HWI := Lib.hid hwi; have HNN := Lib.hid hnn
    have HNI := Lib.hid (show p + 3 ≤ W21.heap.size from HD11.out.lt)
    clear hwi hnn HOWN HLK
    go_upto_region 33 with (first
      | ((with_reducible refine gate_load 81 (.tmp 4) ?_); refine wpList_load_at rfl 81 (.tmp 4) rfl (p + 1) 0 rfl _ _ HD11.out.loc Tryz.underlying81 rfl (sz_inv _ _ _) ?_)
      | (go_at_call 74; refine (rcount_any S (.slice a l.length cap) l k e W21 (HB.out.keeps HK11.out) HL11.out).mono ?_; intro r WA22 hpst; obtain ⟨hk1, y22, val, k22, e22, rfl, hkl, hrr, rfl, x0, x9⟩ := hpst; have HKA22 := Lib.hid hk1; have HL22 := Lib.hid hkl; have HR22 := Lib.hid hrr; have HX22 := Lib.hid (And.intro x0 x9); clear x0 x9; generalize hnv : IntKind.i64.wrap y22 = n22; have HN22 := Lib.hid hnv; clear hnv; have HDA22 := Lib.hid (HD11.out.keeps hk1); clear hk1 hkl hrr; unfold inV)
      | ((with_reducible refine gate_store 81 (.tmp 4) (.tmp 126) ?_); refine wpList_store_row rfl 81 (.tmp 4) (.tmp 126) rfl (p + 1) 0 rfl _ [.slice a l.length cap, .int .i64 k22, .int .i64 e22] rfl HDA22.out.loc rfl (sz_inv _ _ _) (three_one _ _ _ _ _) ?_; intro W22 hr2 hc2; have HD22 := Lib.hid (HDA22.out.go hc2 hr2); have HS22 := Lib.hid hc2; have HC22 := Lib.hid ((DX.keeps (p := p) HKA22.out).trans (DX.one hc2)); clear hr2 hc2))
    have HK22 := Lib.hid (DX.kept HK11.out HC22.out HP.out)
    have HLD := Lib.hid (show LinkD l second ver xs n22 0 [] (l.drop k22) e22 by rw [← HN22.out]; exact HLC.out.count HR22.out HX22.out.1)
    have HWI22 := Lib.hid (HWI.out.chg HC22.out (fun b hb => .inl hb.low.2))
    have HNO := Lib.hid (show W21.heap.size ≤ W22.heap.size from HC22.out.size)
    generalize W21.heap.size = NI at *
    obtain ⟨NO, hNO⟩ : ∃ NO, NO = W22.heap.size := ⟨_, rfl⟩
    rw [← hNO] at HNO
    have HNOE := Lib.hid hNO
    clear hNO HWI
    obtain ⟨iv, hiv⟩ : ∃ iv, iv = Value.slice ia xs.length ic := ⟨_, rfl⟩
    rw [← hiv] at HWI22 HD22
    have HIV := Lib.hid hiv
    clear hiv
    go_wp2
    go_loopw [13] (fun c wr => ∃ i : Nat, c = .int .i64 i ∧ OutLoop p NI NO l (.slice a l.length cap) second ver xs iv cs ps n22 w wr i) (fun c _ => (25001 - intOf c).toNat)
    case atStart => exact ⟨0, rfl, Nat.zero_le _, by rw [HNOE.out]; exact Nat.le_refl _, HWI22.out, k22, e22, [], .slice none 0 0, _, _, _, HK22.out, HL22.out, HD22.out, OwnO.nil _ _, rfl, HLD.out⟩
    case round =>
      obtain ⟨i2, rfl, hi2, hno2, hwi2, k2, e2, outs, ov, S2, co, po, hk2, hkl2, hd2, hown2, hol2, hlk2⟩ := hrel
      obtain ⟨oa, oc, rfl⟩ := hown2.any
      have HWI2 := Lib.hid hwi2; have HK31 := Lib.hid hk2; have HL31 := Lib.hid hkl2; have HD31 := Lib.hid hd2; have HOWN2 := Lib.hid hown2; have HOL := Lib.hid hol2; have HLK2 := Lib.hid hlk2; have HNO2 := Lib.hid hno2
      clear hwi2 hk2 hkl2 hd2 hown2 hol2 hlk2 hno2 HWI22 HK22 HL22 HD22 HLD
      go_upto_region 34 with (fail)
      rename_i KG hKG
      refine wp_join2 [127, 128, 129, 130, 131, 132, 133, 134] (fun us W => wr = W ∧ ∃ bt : Bool, us.getD 7 undef = .bool bt ∧ (bt = true → e2 = 0 ∧ (i2 : Int) < n22) ∧ (bt = false → e2 = 0 → ¬ (i2 : Int) < n22)) hKG (fun key0 => ?_) ?_
      focus
        have key := fun vB1 vB2 vB3 vB4 vB5 vB6 vB7 vB8 w' => key0 [vB1, vB2, vB3, vB4, vB5, vB6, vB7, vB8] w' rfl
        clear key0 hKG
        simp only [putAll, Act.put, List.setIfInBounds_toArray, List.set_cons_zero, List.set_cons_succ] at key
        have KEY := Lib.hid key
        clear key
        obtain ⟨⟨c0, c1, c2⟩, f2⟩ := HD31.out.cells
        by_cases hlt : (i2 : Int) < n22
        focus
          by_cases he : e2 = 0
          focus
            have HE := Lib.hid he; have HLT := Lib.hid hlt
            go_wp2
            refine KEY.out _ _ _ _ _ _ _ _ _ ?_
            exact ⟨rfl, true, by show Value.bool _ = _; first | rfl | simp [HE.out], fun _ => ⟨HE.out, HLT.out⟩, fun h => by simp at h⟩
          focus
            have HE := Lib.hid he
            go_wp2
            refine KEY.out _ _ _ _ _ _ _ _ _ ?_
            exact ⟨rfl, false, by show Value.bool _ = _; first | rfl | simp [HE.out], fun h => by simp at h, fun _ h => absurd h HE.out⟩
        focus
          have HLT := Lib.hid hlt
          go_wp2
          refine KEY.out _ _ _ _ _ _ _ _ _ ?_
          exact ⟨rfl, false, by show Value.bool _ = _; first | rfl | simp, fun h => by simp at h, fun _ _ => HLT.out⟩
      intro us WG hl hj
      match us, hl with
      | [vB1, vB2, vB3, vB4, vB5, vB6, vB7, vB8], _ =>
      obtain ⟨rfl, bB, hu, hb1, hb2⟩ := hj
      obtain rfl : vB8 = .bool bB := hu
      simp only [putAll, Act.put, List.setIfInBounds_toArray, List.set_cons_zero, List.set_cons_succ]
      have HG1B := Lib.hid hb1; have HG2B := Lib.hid hb2
      clear hb1 hb2 hl hKG KG
      cases bB
      rotate_left
      focus
        obtain ⟨he, hlt⟩ := HG1B.out (by simp)
        subst he
        have HLT2 := Lib.hid hlt
        clear hlt
        go_upto_region 37 with (fail)
        generalize wr = wB at *
        refine wp_rows1r (fun W32 hk32 hr32 hsz32 => ?_)
        simp only at hr32
        obtain ⟨q, hq⟩ : ∃ q, q = wB.heap.size := ⟨_, rfl⟩
        rw [← hq] at hr32 hsz32 ⊢
        have HQ := Lib.hid hq
        have HQP := Lib.hid (show p + 3 ≤ q by have := HD31.out.lt; omega)
        have HQR32 := Lib.hid (show Row W32 q 0 [.int .i64 0, .slice none 0 0] from hr32)
        have HD32 := Lib.hid (HD31.out.keeps hk32); have HK32 := Lib.hid (HK31.out.trans hk32); have HKA32 := Lib.hid hk32; have HL32 := Lib.hid HL31.out; have HSZ32 := Lib.hid hsz32
        clear hq hr32 hk32 hsz32
        go_upto_region 38 with (first
          | ((with_reducible refine gate_load 81 (.tmp 4) ?_); refine wpList_load_at rfl 81 (.tmp 4) rfl (p + 1) 0 rfl _ _ HD32.out.loc Tryz.underlying81 rfl (sz_inv _ _ _) ?_)
          | (go_at_call 72; refine (rnum_any S (.slice a l.length cap) l k2 0 8 (by omega) W32 (HB.out.keeps HK32.out) HL32.out).mono ?_; intro r WA33 hpst; obtain ⟨hk1, x33, val, k33, e33, rfl, hkl, hrr, rfl, x0, x9⟩ := hpst; have HKA33 := Lib.hid hk1; have HL33 := Lib.hid hkl; have HR33 := Lib.hid hrr; have HX33 := Lib.hid (And.intro x0 x9); clear x0 x9; have HDA33 := Lib.hid (HD32.out.keeps hk1); clear hk1 hkl hrr; unfold inV)
          | ((with_reducible refine gate_store 81 (.tmp 4) (.tmp 141) ?_); refine wpList_store_row rfl 81 (.tmp 4) (.tmp 141) rfl (p + 1) 0 rfl _ [.slice a l.length cap, .int .i64 k33, .int .i64 e33] rfl HDA33.out.loc rfl (sz_inv _ _ _) (three_one _ _ _ _ _) ?_; intro W33 hr2 hc2; have HD33 := Lib.hid (HDA33.out.go hc2 hr2); have HS33 := Lib.hid hc2; have HC33 := Lib.hid ((DX.keeps (p := p) HKA33.out).trans (DX.one hc2)); clear hr2 hc2))
        have HK33 := Lib.hid (DX.kept HK32.out HC33.out HP.out)
        have hqn : ¬ DX p q := fun h => by have := h.low; have := HQP.out; omega
        have HQN := Lib.hid hqn
        have HQ33 := Lib.hid (HQR32.out.chg HC33.out hqn)
        have HCA33 := Lib.hid ((XQ.keeps (p := p) (q := q) HKA32.out).trans (XQ.low HC33.out))
        clear hqn
        obtain ⟨⟨z0, y0⟩, -⟩ := row2_free HQ33.out
        go_upto_region 39 with (fail)
        clear z0 y0
        generalize hv33 : wrap64 x33 = v33
        have HV33 := Lib.hid hv33
        have HI33 := Lib.hid (show I64 v33 by rw [← hv33]; unfold wrap64 I64; omega)
        clear hv33
        have hqn := HQ33.out.set 0 (by simp) (.int .i64 v33)
        rw [Nat.zero_add] at hqn
        have HQ34 := Lib.hid (show Row (W33.setCell ⟨q, 0, none⟩ (.int .i64 v33)) q 0 [.int .i64 v33, .slice none 0 0] from hqn)
        have HD34 := Lib.hid (HD33.out.far (Chg.cell q 0 (.int .i64 v33)) (fun g hg => by have := HQP.out; have h : g = q := hg; omega))
        have HK34 := Lib.hid (XQ.kept HK33.out (XQ.own (p := p) (Chg.cell q 0 (.int .i64 v33))) HP.out HQP.out)
        have HCA34 := Lib.hid (HCA33.out.trans (XQ.own (Chg.cell q 0 (.int .i64 v33))))
        have HL34 := Lib.hid HL33.out
        clear hqn
        generalize W33.setCell ⟨q, 0, none⟩ (.int .i64 v33) = W34 at *
        have HS34 := Lib.hid (show q < W34.heap.size from HQ34.out.lt (by simp))
        go_upto_region 40 with (first
          | ((with_reducible refine gate_load 81 (.tmp 4) ?_); refine wpList_load_at rfl 81 (.tmp 4) rfl (p + 1) 0 rfl _ _ HD34.out.loc Tryz.underlying81 rfl (sz_inv _ _ _) ?_)
          | (go_at_call 42; refine (rlist_any S (.slice a l.length cap) l k33 e33 100000 W34 (HB.out.keeps HK34.out) HL34.out).mono ?_; intro r WA35 hpst; obtain ⟨hk1, sc, val, k35, e35, rfl, hkl, hrr, henc⟩ := hpst; obtain ⟨a35, c35, rfl⟩ := henc.1.any; have HKA35 := Lib.hid hk1; have HL35 := Lib.hid hkl; have HR35 := Lib.hid hrr; have HE35 := Lib.hid henc; obtain ⟨-, ⟨z1, y1⟩⟩ := row2_free (HQ34.out.keeps hk1); have HDA35 := Lib.hid ((HD34.out.keeps hk1).far (Chg.cell q 1 (.slice a35 sc.length c35)) (fun b hb => by have := HQP.out; omega)); clear hk1 hkl hrr henc; unfold inV)
          | ((with_reducible refine gate_store 81 (.tmp 4) (.tmp 149) ?_); refine wpList_store_row rfl 81 (.tmp 4) (.tmp 149) rfl (p + 1) 0 rfl _ [.slice a l.length cap, .int .i64 k35, .int .i64 e35] rfl HDA35.out.loc rfl (sz_inv _ _ _) (three_one _ _ _ _ _) ?_; intro W35 hr2 hc2; have HD35 := Lib.hid (HDA35.out.go hc2 hr2); have HS35 := Lib.hid hc2; have HC35 := Lib.hid (((XQ.keeps (p := p) (q := q) HKA35.out).trans (XQ.own (Chg.cell q 1 (.slice a35 sc.length c35)))).trans (XQ.low (DX.one hc2))); clear hr2 hc2))
        have HK35 := Lib.hid (XQ.kept HK34.out HC35.out HP.out HQP.out)
        clear z1 y1
        have hqn := ((HQ34.out.keeps HKA35.out).set 1 (by simp) (.slice a35 sc.length c35))
        rw [Nat.zero_add] at hqn
        have HQ35 := Lib.hid ((show Row (WA35.setCell ⟨q, 1, none⟩ (.slice a35 sc.length c35)) q 0 (outCells ⟨v33, sc⟩ (.slice a35 sc.length c35)) from hqn).chg HS35.out (by have := HQP.out; omega))
        have hrb : RB (fun b => W34.heap.size ≤ b ∧ b < WA35.heap.size) WA35 (.slice a35 sc.length c35) sc := HE35.out.1.rb HE35.out.2.2 (by have := HE35.out.2.1; omega)
        have HRB35 := Lib.hid ((hrb.chg (Chg.cell q 1 (.slice a35 sc.length c35)) (fun b hb e => by have := HS34.out; have := hb.1; omega)).chg HS35.out (fun b hb e => by have h1 := hb.1; have h2 := HS34.out; have h3 := HQP.out; have h4 : b = p + 1 := e; omega))
        have HCA35 := Lib.hid (HCA34.out.trans HC35.out)
        have HSA35 := Lib.hid (show q < W34.heap.size ∧ W34.heap.size ≤ WA35.heap.size ∧ WA35.heap.size ≤ W35.heap.size from ⟨HS34.out, HKA35.out.size, by have := HS35.out.size; simpa using this⟩)
        clear hqn hrb
        have hnb : ∀ b, Value.ownBlock (.slice oa outs.length oc) = some b → NO ≤ b := fun b hb => HOWN2.out.new b hb
        have HNB := Lib.hid hnb
        have HNP := Lib.hid (show p + 3 ≤ NO by have := HNI.out; have := HNO.out; omega)
        clear hnb
        obtain ⟨dO, hdO⟩ : ∃ dO : OutD, dO = ⟨v33, sc⟩ := ⟨_, rfl⟩
        rw [← hdO] at HQ35
        have HDO := Lib.hid hdO
        have HRBO := Lib.hid (show RB (fun b => W34.heap.size ≤ b ∧ b < WA35.heap.size) W35 (.slice a35 sc.length c35) dO.script by rw [hdO]; exact HRB35.out)
        have HI33O := Lib.hid (show I64 dO.value by rw [hdO]; exact HI33.out)
        clear hdO
        obtain ⟨⟨t0, t1, t2, t3⟩, g0, g1, g2, g3⟩ := HD35.out.tcells
        go_upto_region 35 with (first
          | ((with_reducible refine gate_load 102 (.tmp 14) ?_); refine wpList_load_at rfl 102 (.tmp 14) rfl q 0 rfl _ _ HQ35.out Tryz.underlying102 rfl (sz_out _ _) ?_)
          | ((with_reducible refine gate_bs _ _ _ ?_); refine wpList_buildSlice1 rfl 44 102 _ rfl 2 32 Tryz.underlying44 out_info out_zero (by decide) (outCells dO _) rfl rfl ?_)
          | ((with_reducible refine gate_app _ _ ?_); refine owno_append2 (X := XQ p q) rfl _ _ rfl HOWN2.out HNO2.out HCA35.out (fun k hk => by have hq := HQ.out; have hp := HNP.out; rcases hk with hk | hk; exact .inl (by have := hk.low; omega); exact .inr (by omega)) HRBO.out HI33O.out (fun b hb => by have h1 := HSA35.out; have h2 := HSZ32.out; have h3 := HQ.out; exact ⟨by omega, by omega⟩) rfl 1 _ _ rfl rfl (by rw [HOL.out]; omega) ?_; intro v9 w9 hO9 hC9 hS9; obtain ⟨a9, c9, rfl⟩ := hO9.any; have HO9 := Lib.hid hO9; have HC9 := Lib.hid hC9; have HDB := Lib.hid ((HD35.out.keeps (keeps_alloc (Keeps.refl _) _)).far hC9 (fun b hb => by have := HNB.out b hb; have := HNP.out; omega)); obtain ⟨⟨t0', t1', t2', t3'⟩, g0', g1', g2', g3'⟩ := HDB.out.tcells; clear hO9 hC9 hS9))
        clear t0 t1 t2 t3 g0 g1 g2 g3 t0' t1' t2' t3' g0' g1' g2' g3'
        have HD40 := Lib.hid (HDB.out.put 2 (by omega) (.slice a9 (outs.length + 1) c9) rfl)
        have hc9 := HC9.out
        have HK40 := Lib.hid (DX.kept (((HK35.out.trans (keeps_alloc (Keeps.refl _) _)).trans' HC9.out (fun b hb => by have h1 := HNB.out b hb; have h2 := HP.out; have h3 := HNP.out; omega))) (DX.two (Chg.cell (p + 1 + 1) 2 (.slice a9 (outs.length + 1) c9))) HP.out)
        have ho9 := HO9.out
        rw [show (outs ++ [dO]).length = outs.length + 1 by simp] at ho9
        have HO40 := Lib.hid (ho9.chg (Chg.cell (p + 1 + 1) 2 (.slice a9 (outs.length + 1) c9)) (fun b hb => .inl (by have h : b = p + 1 + 1 := hb; have := HNP.out; omega)))
        have hwi40 : WitI (p + 3) NI (w9.setCell ⟨p + 1 + 1, 2, none⟩ (.slice a9 (outs.length + 1) c9)) iv xs 0 (.slice none 0 0) cs ps := by
          have hni := HNO.out
          have hnp := HNI.out
          have hno := HNO2.out
          have hqq := HQ.out
          have h1 := HWI2.out.chg HCA35.out (fun b hb => by rcases hb with hb | hb; exact .inl hb.low.2; exact .inr (by omega))
          have h2 := (h1.chg ((keeps_alloc (Keeps.refl W35) _).chg (fun _ => False)) (fun b hb => hb.elim)).chg hc9 (fun b hb => .inr (by have := HNB.out b hb; omega))
          exact h2.chg (Chg.cell (p + 1 + 1) 2 _) (fun b hb => .inl (by have h : b = p + 1 + 1 := hb; omega))
        have HWI40 := Lib.hid hwi40
        have hno40 : NO ≤ (w9.setCell ⟨p + 1 + 1, 2, none⟩ (.slice a9 (outs.length + 1) c9)).heap.size := by
          have h1 := hc9.size
          have h2 := HCA35.out.size
          have h3 := HNO2.out
          simp at h1 ⊢
          omega
        have HNO40 := Lib.hid hno40
        clear ho9 hc9 hwi40 hno40
        generalize w9.setCell ⟨p + 1 + 1, 2, none⟩ (.slice a9 (outs.length + 1) c9) = W40 at *
        have him : i2 + 1 ≤ 25000 := by
          rcases HLK2.out with ⟨_, m, _, _, hnm, hm, _⟩ | ⟨h, _⟩
          · have := HLT2.out; omega
          · exact absurd rfl h
        have HIM := Lib.hid him
        go_wp2
        go_roundw
        case rel =>
          have hlast : LinkD l second ver xs n22 (i2 + 1) (outs ++ [dO]) (l.drop k35) e35 := by
            refine HLK2.out.step2 HLT2.out (out_read HR33.out HR35.out) (fun he => ?_)
            subst he
            rw [HDO.out, ← HV33.out, out_same HB.out.bytes HR33.out HR35.out]
          exact ⟨i2 + 1, by go_num, HIM.out, HNO40.out, HWI40.out, k35, e35, outs ++ [dO], _, _, _, _, HK40.out, HL35.out, HD40.out, HO40.out, by simp [HOL.out], hlast⟩
        case measure => show (25001 - ((i2 : Int) + 1)).toNat < (25001 - (i2 : Int)).toNat; have := HIM.out; omega
      have HLF := Lib.hid (HLK2.out.done (HG2B.out (by simp)))
      have hgo := HOWN2.out.got (by rw [HOL.out]; omega)
      have HGO := Lib.hid hgo
      have hol := HOL.out
      have HOL3 := Lib.hid (show outs.length ≤ 25000 by omega)
      clear hgo hol HLK2 HOWN2
      generalize wr = W41 at *
      rw [HIV.out] at HWI2 HD31
      go_upto_region 41 with (fail)
      have HNN3 := HNN.out
      go_wp2
      go_loopw [15] (fun c wr => ∃ i : Nat, c = .int .i64 i ∧ WitLoop p NO W41.heap.size l (.slice a l.length cap) second ver xs outs (.slice ia xs.length ic) (.slice oa outs.length oc) w wr i) (fun c _ => (25001 - intOf c).toNat)
      case atStart => exact ⟨0, rfl, Nat.zero_le _, HGO.out, _, _, k2, e2, [], HK31.out, HL31.out, HD31.out, HWI2.out.up (by have h1 := HNO.out; have h2 := HNO2.out; omega) (Nat.le_refl _), rfl, by have := HLF.out; cases second; exact .inr ⟨rfl, rfl, this⟩; exact .inl ⟨rfl, this.start⟩⟩
      case round =>
        obtain ⟨i3, rfl, hi3, hgo3, ci, pi3, k4, e4', done, hk3, hkl3, hd3, hwi3, hdl3, hlk3⟩ := hrel
        have HGO3 := Lib.hid hgo3; have HK41 := Lib.hid hk3; have HL41 := Lib.hid hkl3; have HD41 := Lib.hid hd3; have HWI3 := Lib.hid hwi3; have HDL3 := Lib.hid hdl3; have HLK3 := Lib.hid hlk3
        have HNO3 := Lib.hid (show p + 3 ≤ NO by have := HNI.out; have := HNO.out; omega)
        have HIVB := Lib.hid (show ∀ b, Value.ownBlock (.slice ia xs.length ic) = some b → b < NO from fun b hb => by have h1 := (HWI2.out.own b hb).2; have h2 := HNO.out; omega)
        clear hgo3 hk3 hkl3 hd3 hwi3 hdl3 hlk3 HK31 HL31 HD31 HLF HGO
        generalize hNOO : W41.heap.size = NOO at *
        clear hNOO
        go_upto_region 42 with (fail)
        rename_i KG hKG
        refine wp_join2 [157, 158, 159, 160, 161, 162, 163, 164] (fun us W => wr = W ∧ ∃ bt : Bool, us.getD 7 undef = .bool bt ∧ (bt = true → second = true ∧ i3 < xs.length) ∧ (bt = false → second = true → ¬ i3 < xs.length)) hKG (fun key0 => ?_) ?_
        focus
          have key := fun s1 s2 s3 s4 s5 s6 s7 s8 w' => key0 [s1, s2, s3, s4, s5, s6, s7, s8] w' rfl
          clear key0 hKG
          simp only [putAll, Act.put, List.setIfInBounds_toArray, List.set_cons_zero, List.set_cons_succ] at key
          have KEY := Lib.hid key
          clear key
          obtain ⟨⟨t0, t1, t2, t3⟩, g0, g1, g2, g3⟩ := HD41.out.tcells
          by_cases hlt : i3 < xs.length
          focus
            have hlt2 : (i3 : Int) < xs.length := by omega
            have HLT := Lib.hid hlt
            cases second
            focus
              go_wp2
              refine KEY.out _ _ _ _ _ _ _ _ _ ?_
              exact ⟨rfl, false, rfl, fun h => (by simp at h), fun _ h => (by simp at h)⟩
            focus
              go_wp2
              refine KEY.out _ _ _ _ _ _ _ _ _ ?_
              exact ⟨rfl, true, rfl, fun _ => ⟨by first | rfl | trivial, HLT.out⟩, fun h => (by simp at h)⟩
          focus
            have hlt2 : ¬ (i3 : Int) < xs.length := by omega
            have HLT := Lib.hid hlt
            clear hlt
            go_wp2
            refine KEY.out _ _ _ _ _ _ _ _ _ ?_
            exact ⟨rfl, false, rfl, fun h => (by simp at h), fun _ _ => HLT.out⟩
        intro us WG hl hj
        match us, hl with
        | [s1, s2, s3, s4, s5, s6, s7, s8], _ =>
        obtain ⟨rfl, bC, hu, hb1, hb2⟩ := hj
        obtain rfl : s8 = .bool bC := hu
        simp only [putAll, Act.put, List.setIfInBounds_toArray, List.set_cons_zero, List.set_cons_succ]
        have HG1C := Lib.hid hb1; have HG2C := Lib.hid hb2
        clear hb1 hb2 hl hKG KG
        cases bC
        rotate_left
        focus
          obtain ⟨hsec, hlt3⟩ := HG1C.out (by simp)
          subst hsec
          have hlkg : LinkG l ver xs outs i3 done (l.drop k4) e4' := by
            rcases HLK3.out with ⟨_, h⟩ | ⟨h, _⟩
            · exact h
            · cases h
          have HLKG := Lib.hid hlkg; have HLT3 := Lib.hid hlt3
          clear hlkg hlt3
          go_upto_region 44 with (fail)
          generalize wr = wC at *
          go_upto_region 45 with (first
            | ((with_reducible refine gate_load 81 (.tmp 4) ?_); refine wpList_load_at rfl 81 (.tmp 4) rfl (p + 1) 0 rfl _ _ HD41.out.loc Tryz.underlying81 rfl (sz_inv _ _ _) ?_)
            | (go_at_call 74; refine (rcount_any S (.slice a l.length cap) l k4 e4' wC (HB.out.keeps HK41.out) HL41.out).mono ?_; intro r WA44 hpst; obtain ⟨hk1, y44, val, k44, e44, rfl, hkl, hrr, rfl, x0, x9⟩ := hpst; have HKA44 := Lib.hid hk1; have HL44 := Lib.hid hkl; have HR44 := Lib.hid hrr; have HX44 := Lib.hid (And.intro x0 x9); clear x0 x9; generalize hnv : IntKind.i64.wrap y44 = n44; have HN44 := Lib.hid hnv; clear hnv; have HDA44 := Lib.hid (HD41.out.keeps hk1); clear hk1 hkl hrr; unfold inV)
            | ((with_reducible refine gate_store 81 (.tmp 4) (.tmp 171) ?_); refine wpList_store_row rfl 81 (.tmp 4) (.tmp 171) rfl (p + 1) 0 rfl _ [.slice a l.length cap, .int .i64 k44, .int .i64 e44] rfl HDA44.out.loc rfl (sz_inv _ _ _) (three_one _ _ _ _ _) ?_; intro W44 hr2 hc2; have HD44 := Lib.hid (HDA44.out.go hc2 hr2); have HS44 := Lib.hid hc2; have HC44 := Lib.hid ((DX.keeps (p := p) HKA44.out).trans (DX.one hc2)); clear hr2 hc2))
          have HK44 := Lib.hid (DX.kept HK41.out HC44.out HP.out)
          have HLW := Lib.hid (show LinkW l ver xs outs i3 done n44 0 [] (l.drop k44) e44 by rw [← HN44.out]; exact HLKG.out.count HLT3.out HR44.out HX44.out.1)
          have HWI44 := Lib.hid (HWI3.out.chg HC44.out (fun b hb => .inl hb.low.2))
          have HGO44 := Lib.hid (HGO3.out.chg HC44.out (fun b hb => .inl (by have := hb.low; have := HNO3.out; omega)))
          have HNR := Lib.hid (show NOO ≤ wC.heap.size from HGO3.out.2)
          have HNR2 := Lib.hid (show wC.heap.size ≤ W44.heap.size from HC44.out.size)
          generalize wC.heap.size = NR at *
          go_wp2
          go_loopw [16] (fun c wr => ∃ j : Nat, c = .int .i64 j ∧ ItemLoop p NO NOO NR l (.slice a l.length cap) ver xs outs (.slice ia xs.length ic) (.slice oa outs.length oc) done n44 w wr i3 j) (fun c _ => (25001 - intOf c).toNat)
          case atStart => exact ⟨0, rfl, Nat.zero_le _, HNR2.out, HGO44.out, _, _, k44, e44, [], .slice none 0 0, [], HK44.out, HL44.out, HD44.out, HWI44.out, OwnLL.nil _ _, rfl, HLW.out⟩
          case round =>
            obtain ⟨j, rfl, hj, hnr5, hgo5, ci5, pi5, k5', e5', ws, v5, vs5, hk5, hkl5, hd5, hwi5, hown5, hwl5, hlw5⟩ := hrel
            obtain ⟨va, vc, rfl⟩ := hown5.any
            have HNR5 := Lib.hid hnr5; have HGO5 := Lib.hid hgo5; have HK45 := Lib.hid hk5; have HL45 := Lib.hid hkl5; have HD45 := Lib.hid hd5; have HWI5 := Lib.hid hwi5; have HOWN5 := Lib.hid hown5; have HWL5 := Lib.hid hwl5; have HLW5 := Lib.hid hlw5
            clear hnr5 hgo5 hk5 hkl5 hd5 hwi5 hown5 hwl5 hlw5 HWI44 HGO44 HD44 HK44 HL44 HLW
            go_upto_region 46 with (fail)
            rename_i KG hKG
            refine wp_join2 [172, 173, 174, 175, 176, 177, 178, 179] (fun us W => wr = W ∧ ∃ bt : Bool, us.getD 7 undef = .bool bt ∧ (bt = true → e5' = 0 ∧ (j : Int) < n44) ∧ (bt = false → e5' = 0 → ¬ (j : Int) < n44)) hKG (fun key0 => ?_) ?_
            focus
              have key := fun vD1 vD2 vD3 vD4 vD5 vD6 vD7 vD8 w' => key0 [vD1, vD2, vD3, vD4, vD5, vD6, vD7, vD8] w' rfl
              clear key0 hKG
              simp only [putAll, Act.put, List.setIfInBounds_toArray, List.set_cons_zero, List.set_cons_succ] at key
              have KEY := Lib.hid key
              clear key
              obtain ⟨⟨c0, c1, c2⟩, f2⟩ := HD45.out.cells
              by_cases hlt : (j : Int) < n44
              focus
                by_cases he : e5' = 0
                focus
                  have HE := Lib.hid he; have HLT := Lib.hid hlt
                  go_wp2
                  refine KEY.out _ _ _ _ _ _ _ _ _ ?_
                  exact ⟨rfl, true, by show Value.bool _ = _; first | rfl | simp [HE.out], fun _ => ⟨HE.out, HLT.out⟩, fun h => by simp at h⟩
                focus
                  have HE := Lib.hid he
                  go_wp2
                  refine KEY.out _ _ _ _ _ _ _ _ _ ?_
                  exact ⟨rfl, false, by show Value.bool _ = _; first | rfl | simp [HE.out], fun h => by simp at h, fun _ h => absurd h HE.out⟩
              focus
                have HLT := Lib.hid hlt
                go_wp2
                refine KEY.out _ _ _ _ _ _ _ _ _ ?_
                exact ⟨rfl, false, by show Value.bool _ = _; first | rfl | simp, fun h => by simp at h, fun _ _ => HLT.out⟩
            intro us WG hl hj
            match us, hl with
            | [vD1, vD2, vD3, vD4, vD5, vD6, vD7, vD8], _ =>
            obtain ⟨rfl, bD, hu, hb1, hb2⟩ := hj
            obtain rfl : vD8 = .bool bD := hu
            simp only [putAll, Act.put, List.setIfInBounds_toArray, List.set_cons_zero, List.set_cons_succ]
            have HG1D := Lib.hid hb1; have HG2D := Lib.hid hb2
            clear hb1 hb2 hl hKG KG
            cases bD
            rotate_left
            focus
              obtain ⟨he, hlt⟩ := HG1D.out (by simp)
              subst he
              have HLT5 := Lib.hid hlt
              clear hlt
              go_upto_region 49 with (fail)
              generalize wr = wD at *
              go_upto_region 50 with (first
                | ((with_reducible refine gate_load 81 (.tmp 4) ?_); refine wpList_load_at rfl 81 (.tmp 4) rfl (p + 1) 0 rfl _ _ HD45.out.loc Tryz.underlying81 rfl (sz_inv _ _ _) ?_)
                | (go_at_call 42; refine (rlist_any S (.slice a l.length cap) l k5' 0 100000 wD (HB.out.keeps HK45.out) HL45.out).mono ?_; intro r WA49 hpst; obtain ⟨hk1, it, val, k49, e49, rfl, hkl, hrr, henc⟩ := hpst; have HKA49 := Lib.hid hk1; have HL49 := Lib.hid hkl; have HR49 := Lib.hid hrr; have HE49 := Lib.hid henc; obtain ⟨a49, c49, rfl⟩ := henc.1.any; clear henc; have HDA49 := Lib.hid (HD45.out.keeps hk1); clear hk1 hkl hrr; unfold inV)
                | ((with_reducible refine gate_store 81 (.tmp 4) (.tmp 186) ?_); refine wpList_store_row rfl 81 (.tmp 4) (.tmp 186) rfl (p + 1) 0 rfl _ [.slice a l.length cap, .int .i64 k49, .int .i64 e49] rfl HDA49.out.loc rfl (sz_inv _ _ _) (three_one _ _ _ _ _) ?_; intro W49 hr2 hc2; have HD49 := Lib.hid (HDA49.out.go hc2 hr2); have HS49 := Lib.hid hc2; have HC49 := Lib.hid ((DX.keeps (p := p) HKA49.out).trans (DX.one hc2)); clear hr2 hc2))
              have HK49 := Lib.hid (DX.kept HK45.out HC49.out HP.out)
              have hdl := HDL3.out
              have hlen5 : i3 < (done ++ xs.drop i3).length := by have := HLT3.out; simp; omega
              have HWI49 := Lib.hid (HWI5.out.chg HC49.out (fun b hb => .inl hb.low.2))
              have hrb : RB (fun b => wD.heap.size ≤ b ∧ b < WA49.heap.size) WA49 (.slice a49 it.length c49) it := HE49.out.1.rb HE49.out.2.2 (by have := HE49.out.2.1; omega)
              have hs49 : WA49.heap.size ≤ W49.heap.size := HS49.out.size
              have HRB49 := Lib.hid ((hrb.chg HS49.out (fun b hb e => by have h1 := hb.1; have h2 := HD45.out.lt; have h4 : b = p + 1 := e; omega)).mono (T := fun b => wD.heap.size ≤ b ∧ b < W49.heap.size) (fun b hb => ⟨hb.1, by omega⟩))
              obtain ⟨gi, off, di, rfl, hb0, hb1, hdi, hcell, hfree⟩ := HWI49.out.at hlen5
              have hgno : gi < NO := HIVB.out gi rfl
              have HGI := Lib.hid (And.intro hb0 (And.intro hb1 hgno))
              have hrow35 : Row W49 gi (off + i3 * 36 + 35) [.slice va ws.length vc] := fun m u hu => by
                match m, hu with
                | 0, hu => cases hu; exact ⟨hcell, hfree⟩
                | m + 1, hu => simp at hu
              have HROW35 := Lib.hid hrow35
              have HS := Lib.hid (fun W (hk : Keeps W49 W) => (show W.cell? ⟨p + 1 + 1, 1, none⟩ = some (.slice (some ⟨gi, off, none⟩) xs.length ic) ∧ W.cell? ⟨gi, off + i3 * 36 + 35, none⟩ = some (.slice va ws.length vc) from ⟨(HD49.out.keeps hk).tcells.1.2.1, ((hrow35.keeps hk) 0 _ rfl).1⟩))
              have hlt3i : (i3 : Int) < xs.length := by have := HLT3.out; omega
              have hlt3n := HLT3.out
              have hi3b : (i3 : Int) ≤ 25000 := by have := HNN.out; omega
              clear hdl hlen5 hrb hs49 hb0 hb1 hdi hcell hfree hrow35 hgno
              refine wp_region_head (S := fun W => Hid ((fun W => W.cell? ⟨p + 1 + 1, 1, none⟩ = some (.slice (some ⟨gi, off, none⟩) xs.length ic) ∧ W.cell? ⟨gi, off + i3 * 36 + 35, none⟩ = some (.slice va ws.length vc)) W)) 12 (by kernel_rfl) (by kernel_rfl) ?_ (fun hHeld => ?_)
              focus exact Lib.hid (HS.out _ (keeps_drew (Keeps.refl _)))
              refine wpAnyHL_take (i := 0) (oi := ?_) (v := ?_) ?_ ?_ ?_ ?_ ?_ ?_ ?_ ?_ ?_ (Or.inl ⟨?_, ?_⟩) ?_ ?_
              rotate_left 2
              focus (simp only [List.getElem?_toArray, List.getElem?_cons_succ, List.getElem?_cons_zero]; exact rfl)
              iterate 7 focus kernel_rfl
              focus (exact fun _ _ _ h => h)
              focus rfl
              focus ((intro wSw hSw; (have hSw := hSw.out); (try dsimp only at hSw); go_simp) <;> with_reducible rfl)
              focus assumption
              try simp only [Act.put, List.setIfInBounds_toArray, List.set_cons_zero, List.set_cons_succ]
              refine wpAnyHL_take (i := 1) (oi := ?_) (v := ?_) ?_ ?_ ?_ ?_ ?_ ?_ ?_ ?_ ?_ (Or.inl ⟨?_, ?_⟩) ?_ ?_
              rotate_left 2
              focus (simp only [List.getElem?_toArray, List.getElem?_cons_succ, List.getElem?_cons_zero]; exact rfl)
              iterate 7 focus kernel_rfl
              focus (exact fun _ _ _ h => h)
              focus rfl
              focus ((intro wSw hSw; (have hSw := hSw.out); (try dsimp only at hSw); go_simp) <;> with_reducible rfl)
              focus assumption
              try simp only [Act.put, List.setIfInBounds_toArray, List.set_cons_zero, List.set_cons_succ]
              refine wpAnyHL_take (i := 2) (oi := ?_) (v := ?_) ?_ ?_ ?_ ?_ ?_ ?_ ?_ ?_ ?_ (Or.inl ⟨?_, ?_⟩) ?_ ?_
              rotate_left 2
              focus (simp only [List.getElem?_toArray, List.getElem?_cons_succ, List.getElem?_cons_zero]; exact rfl)
              iterate 7 focus kernel_rfl
              focus (exact fun _ _ _ h => h)
              focus rfl
              focus ((intro wSw hSw; (have hSw := hSw.out); (try dsimp only at hSw); go_simp) <;> with_reducible rfl)
              focus assumption
              try simp only [Act.put, List.setIfInBounds_toArray, List.set_cons_zero, List.set_cons_succ]
              refine wpAnyHL_take (i := 3) (oi := ?_) (v := ?_) ?_ ?_ ?_ ?_ ?_ ?_ ?_ ?_ ?_ (Or.inl ⟨?_, ?_⟩) ?_ ?_
              rotate_left 2
              focus (simp only [List.getElem?_toArray, List.getElem?_cons_succ, List.getElem?_cons_zero]; exact rfl)
              iterate 7 focus kernel_rfl
              focus (exact fun _ _ _ h => h)
              focus rfl
              focus ((intro wSw hSw; (have hSw := hSw.out); (try dsimp only at hSw); go_simp) <;> with_reducible rfl)
              focus assumption
              try simp only [Act.put, List.setIfInBounds_toArray, List.set_cons_zero, List.set_cons_succ]
              refine wpAnyHL_take (i := 4) (oi := ?_) (v := ?_) ?_ ?_ ?_ ?_ ?_ ?_ ?_ ?_ ?_ (Or.inl ⟨?_, ?_⟩) ?_ ?_
              rotate_left 2
              focus (simp only [List.getElem?_toArray, List.getElem?_cons_succ, List.getElem?_cons_zero]; exact rfl)
              iterate 7 focus kernel_rfl
              focus (exact fun _ _ _ h => h)
              focus rfl
              focus ((intro wSw hSw; (have hSw := hSw.out); (try dsimp only at hSw); go_simp) <;> with_reducible rfl)
              focus assumption
              try simp only [Act.put, List.setIfInBounds_toArray, List.set_cons_zero, List.set_cons_succ]
              refine wpAnyHL_take (i := 5) (oi := ?_) (v := ?_) ?_ ?_ ?_ ?_ ?_ ?_ ?_ ?_ ?_ (Or.inl ⟨?_, ?_⟩) ?_ ?_
              rotate_left 2
              focus (simp only [List.getElem?_toArray, List.getElem?_cons_succ, List.getElem?_cons_zero]; exact rfl)
              iterate 7 focus kernel_rfl
              focus (exact fun _ _ _ h => h)
              focus rfl
              focus ((intro wSw hSw; (have hSw := hSw.out); (try dsimp only at hSw); go_simp) <;> with_reducible rfl)
              focus assumption
              try simp only [Act.put, List.setIfInBounds_toArray, List.set_cons_zero, List.set_cons_succ]
              refine wpAnyHL_take (i := 6) (oi := ?_) (v := ?_) ?_ ?_ ?_ ?_ ?_ ?_ ?_ ?_ ?_ (Or.inl ⟨?_, ?_⟩) ?_ ?_
              rotate_left 2
              focus (simp only [List.getElem?_toArray, List.getElem?_cons_succ, List.getElem?_cons_zero]; exact rfl)
              iterate 7 focus kernel_rfl
              focus (exact fun _ _ _ h => h)
              focus rfl
              focus ((intro wSw hSw; (have hSw := hSw.out); (try dsimp only at hSw); go_simp) <;> with_reducible rfl)
              focus assumption
              try simp only [Act.put, List.setIfInBounds_toArray, List.set_cons_zero, List.set_cons_succ]
              refine wpAnyHL_take (i := 7) (oi := ?_) (v := ?_) ?_ ?_ ?_ ?_ ?_ ?_ ?_ ?_ ?_ (Or.inl ⟨?_, ?_⟩) ?_ ?_
              rotate_left 2
              focus (simp only [List.getElem?_toArray, List.getElem?_cons_succ, List.getElem?_cons_zero]; exact rfl)
              iterate 7 focus kernel_rfl
              focus (exact fun _ _ _ h => h)
              focus rfl
              focus ((intro wSw hSw; (have hSw := hSw.out); (try dsimp only at hSw); go_simp) <;> with_reducible rfl)
              focus assumption
              try simp only [Act.put, List.setIfInBounds_toArray, List.set_cons_zero, List.set_cons_succ]
              refine wpAnyHL_take (i := 8) (oi := ?_) (v := ?_) ?_ ?_ ?_ ?_ ?_ ?_ ?_ ?_ ?_ (Or.inl ⟨?_, ?_⟩) ?_ ?_
              rotate_left 2
              focus (simp only [List.getElem?_toArray, List.getElem?_cons_succ, List.getElem?_cons_zero]; exact rfl)
              iterate 7 focus kernel_rfl
              focus (exact fun _ _ _ h => h)
              focus rfl
              focus ((intro wSw hSw; (have hSw := hSw.out); (try dsimp only at hSw); go_simp) <;> with_reducible rfl)
              focus assumption
              try simp only [Act.put, List.setIfInBounds_toArray, List.set_cons_zero, List.set_cons_succ]
              refine wpAnyHL_take (i := 9) (oi := ?_) (v := ?_) ?_ ?_ ?_ ?_ ?_ ?_ ?_ ?_ ?_ (Or.inl ⟨?_, ?_⟩) ?_ ?_
              rotate_left 2
              focus (simp only [List.getElem?_toArray, List.getElem?_cons_succ, List.getElem?_cons_zero]; exact rfl)
              iterate 7 focus kernel_rfl
              focus (exact fun _ _ _ h => h)
              focus rfl
              focus ((intro wSw hSw; (have hSw := hSw.out); (try dsimp only at hSw); go_simp) <;> with_reducible rfl)
              focus assumption
              try simp only [Act.put, List.setIfInBounds_toArray, List.set_cons_zero, List.set_cons_succ]
              refine wpAnyHL_one (i := 10) (o := ?_) (by kernel_rfl) (by kernel_rfl) ?_ ?_
              rotate_left 1
              focus (simp only [List.getElem?_toArray, List.getElem?_cons_succ, List.getElem?_cons_zero]; exact rfl)
              go_wp2
              try dsimp only [StepQ]
              refine ⟨?_, fun hHeld => ?_⟩
              focus (exact Lib.hid (HS.out _ (keeps_alloc (keeps_drew (Keeps.refl _)) _)))
              try simp only [Act.put, List.setIfInBounds_toArray, List.set_cons_zero, List.set_cons_succ]
              refine wpAnyHL_one (i := 11) (o := ?_) (by kernel_rfl) (by kernel_rfl) ?_ ?_
              rotate_left 1
              focus (simp only [List.getElem?_toArray, List.getElem?_cons_succ, List.getElem?_cons_zero]; exact rfl)
              go_wp2_with ((with_reducible refine gate_app _ _ ?_); refine ownl_append2 (X := DX p) rfl _ _ rfl HOWN5.out HNR5.out (HC49.out.drew) (fun b hb => .inl (by have h1 := hb.low; have h2 := HNO3.out; have h3 := HNO2.out; have h4 := HNR.out; omega)) (HRB49.out.keeps (keeps_drew (Keeps.refl _))) rfl 1 _ rfl (by rw [HWL5.out]; omega) ?_; intro v9 w9 hO9 hC9; obtain ⟨a9, c9, rfl⟩ := hO9.any; have HO9 := Lib.hid hO9; have HC9 := Lib.hid hC9; clear hO9 hC9)
              have hnew9 : ∀ b, Value.ownBlock (.slice va ws.length vc) = some b → NR ≤ b := fun b hb => HOWN5.out.new b hb
              have hpn : p + 3 ≤ NR := by have h2 := HNO3.out; have h3 := HNO2.out; have h4 := HNR.out; omega
              have hd9 := (HD49.out.keeps (keeps_alloc (keeps_drew (Keeps.refl _)) _)).far HC9.out (fun b hb => by have := hnew9 b hb; omega)
              have hr9 := (HROW35.out.keeps (keeps_alloc (keeps_drew (Keeps.refl _)) _)).chg HC9.out (fun e => by have := hnew9 _ e; have := HGI.out; omega)
              have HD9 := Lib.hid hd9; have HR9 := Lib.hid hr9; have HNEW9 := Lib.hid hnew9; have HPN := Lib.hid hpn
              clear hd9 hr9 hnew9 hpn
              try dsimp only [StepQ]
              refine ⟨?_, fun hHeld => ?_⟩
              focus (exact Lib.hid (⟨HD9.out.tcells.1.2.1, (HR9.out 0 _ rfl).1⟩))
              try simp only [Act.put, List.setIfInBounds_toArray, List.set_cons_zero, List.set_cons_succ]
              refine wpAnyHL_done (by kernel_rfl) ?_
              try simp only [List.drop_succ_cons, List.drop_zero]
              clear hHeld
              obtain ⟨c35, f35⟩ := HR9.out 0 _ rfl
              rw [Nat.add_zero] at c35 f35
              go_upto_region 47 with (fail)
              clear c35 f35
              have hx9 : Chg (· = gi) w9 (w9.setCell ⟨gi, off + i3 * 36 + 35, none⟩ (.slice a9 (ws.length + 1) c9)) := Chg.cell gi _ _
              have ho9 := HO9.out
              rw [show (ws ++ [it]).length = ws.length + 1 by simp] at ho9
              have hg := HGI.out
              have hpn := HPN.out
              have hno2 := HNO2.out
              have hno3 := HNO3.out
              have hnr := HNR.out
              have hwi9 : WitI (p + 3) NR w9 (.slice (some ⟨gi, off, none⟩) xs.length ic) (done ++ xs.drop i3) i3 (.slice va ws.length vc) ci5 pi5 :=
                (HWI49.out.chg ((keeps_alloc (keeps_drew (Keeps.refl W49)) _).chg (fun _ => False)) (fun b hb => hb.elim)).chg HC9.out (fun b hb => .inr (HNEW9.out b hb))
              have hput := hwi9.put (v' := .slice a9 (ws.length + 1) c9) (show i3 < (done ++ xs.drop i3).length by have h1 := HDL3.out; have h2 := HLT3.out; simp; omega)
              obtain ⟨ci6, pi6, hwi6⟩ := hput
              have HWI6 := Lib.hid hwi6
              have HO6 := Lib.hid (ho9.chg hx9 (fun b hb => .inl (by have h : b = gi := hb; omega)))
              have HD6 := Lib.hid (HD9.out.far hx9 (fun b hb => by have h : b = gi := hb; omega))
              have hgo9 := ((HGO5.out.chg HC49.out (fun b hb => .inl (by have := hb.low; omega))).chg ((keeps_alloc (keeps_drew (Keeps.refl W49)) _).chg (fun _ => False)) (fun b hb => hb.elim)).chg HC9.out (fun b hb => .inr (by have := HNEW9.out b hb; omega))
              have HGO6 := Lib.hid (hgo9.chg hx9 (fun b hb => .inl (by have h : b = gi := hb; omega)))
              have hk9 : Keeps w w9 := ((HK49.out.trans (keeps_alloc (keeps_drew (Keeps.refl W49)) _))).trans' HC9.out (fun b hb => by have := HNEW9.out b hb; have := HP.out; omega)
              have HK6 := Lib.hid (hk9.trans' hx9 (fun b hb => by have h : b = gi := hb; have := HP.out; omega))
              have hnr6 : NR ≤ (w9.setCell ⟨gi, off + i3 * 36 + 35, none⟩ (.slice a9 (ws.length + 1) c9)).heap.size := Nat.le_trans (Nat.le_trans hwi9.top (Nat.le_refl _)) hx9.size
              have HNR6 := Lib.hid hnr6
              have hjm : j + 1 ≤ 25000 := by
                rcases HLW5.out with ⟨_, _, _, _, m, hnm, hm, _⟩ | ⟨h, _⟩
                · have := HLT5.out; omega
                · exact absurd rfl h
              have HJM := Lib.hid hjm
              clear hx9 ho9 hg hpn hno2 hno3 hnr hwi9 hwi6 hgo9 hk9 hnr6
              generalize w9.setCell ⟨gi, off + i3 * 36 + 35, none⟩ (.slice a9 (ws.length + 1) c9) = W6 at *
              go_wp2
              go_roundw
              case rel =>
                exact ⟨j + 1, by go_num, HJM.out, HNR6.out, HGO6.out, ci6, pi6, k49, e49, ws ++ [it], _, _, HK6.out, HL49.out, HD6.out, HWI6.out, HO6.out, by simp [HWL5.out], HLW5.out.step HLT3.out HLT5.out HR49.out⟩
              case measure => show (25001 - ((j : Int) + 1)).toNat < (25001 - (j : Int)).toNat; have := HJM.out; omega
            have hdl := HDL3.out
            have hlen5 : i3 < (done ++ xs.drop i3).length := by have := HLT3.out; simp; omega
            obtain ⟨gi, off, di, rfl, hb0, hb1, hdi, hcell, hfree⟩ := HWI5.out.at hlen5
            have hxd : xs[i3]? = some di := by
              have h := hdi
              rw [List.getElem?_append_right (by omega), hdl, Nat.sub_self, List.getElem?_drop, Nat.add_zero] at h
              exact h
            have hrll : RLL (FrN (p + 3) wr.heap.size (.slice (some ⟨gi, off, none⟩) xs.length ic)) (FrN (p + 3) wr.heap.size (.slice (some ⟨gi, off, none⟩) xs.length ic)) wr (.slice va ws.length vc) ws := by
              have hown : ∀ b, NR ≤ b → Value.ownBlock (.slice (some ⟨gi, off, none⟩) xs.length ic) ≠ some b := fun b hb e => by
                have h : gi = b := by simpa [Value.ownBlock] using e
                omega
              exact ⟨vs5, (HOWN5.out.rl (by have := HWL5.out; omega)).mono (fun b hb => ⟨by omega, hb.2.1, hown b hb.1⟩) (fun b hb => ⟨by omega, hb.2.1, hown b hb.1⟩)⟩
            have hclose := HWI5.out.close hdi HNR5.out (Nat.le_refl _) hrll
            rw [set_done hdl HLT3.out] at hclose
            have HCL := Lib.hid hclose
            have HLG5 := Lib.hid (HLW5.out.done hxd (HG2D.out (by simp)))
            clear hdl hlen5 hb0 hb1 hdi hcell hfree hxd hrll hclose
            have hi3b : (i3 : Int) ≤ 25000 := by have := HNN.out; have := HLT3.out; omega
            have hi3c := HLT3.out
            have hi3d := HNN.out
            generalize wr = W7 at *
            go_wp2
            go_roundw
            case rel =>
              exact ⟨i3 + 1, by go_num, hi3c, HGO5.out, ci5, pi5, k5', e5', done ++ [{ di with wit := ws }], HK45.out, HL45.out, HD45.out, HCL.out, by simp [HDL3.out], .inl ⟨rfl, HLG5.out⟩⟩
            case measure => show (25001 - ((i3 : Int) + 1)).toNat < (25001 - (i3 : Int)).toNat; omega
        have hex : ∃ ins2 : List InD, ins2.length = xs.length ∧ GotI (p + 3) wr.heap.size wr (.slice ia xs.length ic) ins2 ∧ LinkH l second ver ins2 outs (l.drop k4) e4' := by
          have hdl := HDL3.out
          have hwi := HWI3.out
          rcases HLK3.out with ⟨hs, hg⟩ | ⟨hs, hi0, hf⟩
          · have hn := HG2C.out (by simp) hs
            have hie : i3 = xs.length := by omega
            rw [hie, List.drop_length, List.append_nil] at hwi
            rw [hie] at hg hdl
            refine ⟨done, hdl, ?_, by rw [hs]; exact hg.done⟩
            rw [← hdl] at hwi ⊢
            exact hwi.all
          · subst hi0
            obtain rfl : done = [] := List.eq_nil_of_length_eq_zero hdl
            rw [List.drop_zero, List.nil_append] at hwi
            exact ⟨xs, rfl, hwi.plain (v := .slice none 0 0) HWT.out, by rw [hs]; exact hf.plain⟩
        obtain ⟨ins2, hil2, hgi2, hlh2⟩ := hex
        have HIL2 := Lib.hid hil2; have HGI2 := Lib.hid hgi2; have HLH2 := Lib.hid hlh2
        clear hil2 hgi2 hlh2 HWI3 HLK3
        generalize wr = W50 at *
        go_upto_region 51 with (fail)
        go_upto_region 52 with (first
          | ((with_reducible refine gate_load 81 (.tmp 4) ?_); refine wpList_load_at rfl 81 (.tmp 4) rfl (p + 1) 0 rfl _ _ HD41.out.loc Tryz.underlying81 rfl (sz_inv _ _ _) ?_)
          | (go_at_call 72; refine (rnum_any S (.slice a l.length cap) l k4 e4' 4 (by omega) W50 (HB.out.keeps HK41.out) HL41.out).mono ?_; intro r WA51 hpst; obtain ⟨hk1, x51, val, k51, e51, rfl, hkl, hrr, rfl, x0, x9⟩ := hpst; have HKA51 := Lib.hid hk1; have HL51 := Lib.hid hkl; have HR51 := Lib.hid hrr; have HX51 := Lib.hid (And.intro x0 x9); clear x0 x9; have HDA51 := Lib.hid (HD41.out.keeps hk1); clear hk1 hkl hrr; unfold inV)
          | ((with_reducible refine gate_store 81 (.tmp 4) (.tmp 205) ?_); refine wpList_store_row rfl 81 (.tmp 4) (.tmp 205) rfl (p + 1) 0 rfl _ [.slice a l.length cap, .int .i64 k51, .int .i64 e51] rfl HDA51.out.loc rfl (sz_inv _ _ _) (three_one _ _ _ _ _) ?_; intro W51 hr2 hc2; have HD51 := Lib.hid (HDA51.out.go hc2 hr2); have HS51 := Lib.hid hc2; have HC51 := Lib.hid ((DX.keeps (p := p) HKA51.out).trans (DX.one hc2)); clear hr2 hc2))
        have HK51 := Lib.hid (DX.kept HK41.out HC51.out HP.out)
        obtain ⟨⟨t0, t1, t2, t3⟩, g0, g1, g2, g3⟩ := HD51.out.tcells
        obtain ⟨⟨c0, c1, c2⟩, f2⟩ := HD51.out.cells
        have hm51 : IntKind.u32.wrap x51 = x51 % 4294967296 := by rw [IntKind.wrap_u32]
        go_upto_region 53 with (fail)
        clear hm51
        obtain ⟨lk, hlk⟩ : ∃ lk, lk = x51 % 4294967296 := ⟨_, rfl⟩
        rw [← hlk]
        have HLKE := Lib.hid hlk
        have HU := Lib.hid (show U32 lk by rw [hlk]; exact ⟨by omega, by omega⟩)
        clear hlk
        clear t0 t1 t2 t3 g0 g1 g2 g3 c0 c1 c2 f2
        have hdn := HD51.out.put 3 (by omega) (.int .u32 lk) rfl
        have hcn : Chg (DX p) W51 (W51.setCell ⟨p + 1 + 1, 3, none⟩ (.int .u32 lk)) := DX.two (Chg.cell (p + 1 + 1) 3 _)
        have HD52 := Lib.hid hdn; have HC52 := Lib.hid hcn
        have HK52 := Lib.hid (DX.kept HK51.out hcn HP.out)
        clear hdn hcn
        generalize W51.setCell ⟨p + 1 + 1, 3, none⟩ (.int .u32 lk) = W52 at *
        have hp3 := HNO3.out
        have HGI52 := Lib.hid ((HGI2.out.chg HC51.out (fun b hb => .inl hb.low.2)).chg HC52.out (fun b hb => .inl hb.low.2))
        have HGO52 := Lib.hid ((HGO3.out.chg HC51.out (fun b hb => .inl (by have := hb.low; omega))).chg HC52.out (fun b hb => .inl (by have := hb.low; omega)))
        have HRTX := Lib.hid (fun W (hk : Keeps W52 W) => (got_rtx (d := ⟨ver, ins2, outs, lk⟩) HI32.out HU.out (HGI52.out.chg (hk.chg (fun _ => False)) (fun _ h => h.elim)) (HGO52.out.chg (hk.chg (fun _ => False)) (fun _ h => h.elim))))
        have HFIN := Lib.hid (HLH2.out.read HR51.out)
        clear hp3
        obtain ⟨⟨c0, c1, c2⟩, f2⟩ := HD52.out.cells
        by_cases he51 : e51 = 0
        rotate_left
        focus
          have HE51 := Lib.hid he51
          go_upto_region 54 with (fail)
          clear he51
          refine wp_region_head (S := fun W => Hid ((fun W => W.cell? ⟨p + 1, 2, none⟩ = some (.int .i64 e51)) W)) 4 (by kernel_rfl) (by kernel_rfl) ?_ (fun hHeld => ?_)
          focus exact Lib.hid HD52.out.cells.1.2.2
          refine wpAnyHL_take (i := 1) (oi := ?_) (v := ?_) ?_ ?_ ?_ ?_ ?_ ?_ ?_ ?_ ?_ (Or.inl ⟨?_, ?_⟩) ?_ ?_
          rotate_left 2
          focus (simp only [List.getElem?_toArray, List.getElem?_cons_succ, List.getElem?_cons_zero]; exact rfl)
          iterate 7 focus kernel_rfl
          focus (exact fun _ _ _ h => h)
          focus rfl
          focus ((intro wSw hSw; (have hSw := hSw.out); (try dsimp only at hSw); go_simp) <;> with_reducible rfl)
          focus assumption
          try simp only [Act.put, List.setIfInBounds_toArray, List.set_cons_zero, List.set_cons_succ]
          refine wpAnyHL_take (i := 2) (oi := ?_) (v := ?_) ?_ ?_ ?_ ?_ ?_ ?_ ?_ ?_ ?_ (Or.inl ⟨?_, ?_⟩) ?_ ?_
          rotate_left 2
          focus (simp only [List.getElem?_toArray, List.getElem?_cons_succ, List.getElem?_cons_zero]; exact rfl)
          iterate 7 focus kernel_rfl
          focus (exact fun _ _ _ h => h)
          focus rfl
          focus ((intro wSw hSw; (have hSw := hSw.out); (try dsimp only at hSw); go_simp) <;> with_reducible rfl)
          focus assumption
          try simp only [Act.put, List.setIfInBounds_toArray, List.set_cons_zero, List.set_cons_succ]
          refine wpAnyHL_one (i := 0) (o := ?_) (by kernel_rfl) (by kernel_rfl) ?_ ?_
          rotate_left 1
          focus (simp only [List.getElem?_toArray, List.getElem?_cons_succ, List.getElem?_cons_zero]; exact rfl)
          go_wp2
          try dsimp only [StepQ]
          refine ⟨?_, fun hHeld => ?_⟩
          focus (exact Lib.hid (hHeld.out))
          try simp only [Act.put, List.setIfInBounds_toArray, List.set_cons_zero, List.set_cons_succ]
          refine wpAnyHL_one (i := 3) (o := ?_) (by kernel_rfl) (by kernel_rfl) ?_ ?_
          rotate_left 1
          focus (simp only [List.getElem?_toArray, List.getElem?_cons_succ, List.getElem?_cons_zero]; exact rfl)
          go_wp2_with ((with_reducible refine gate_store 46 (.tmp 2) (.tmp 212) ?_); refine wpList_store_row rfl 46 (.tmp 2) (.tmp 212) rfl p 0 rfl _ [.int .i32 0, .slice none 0 0, .slice none 0 0, .int .u32 0] rfl HD52.out.res.drew rfl (sz_tx _ _ _ _) (four_one _ _ _ _ _ _ _ _) ?_; intro W60 hr60 hc60; have HR60 := Lib.hid hr60; have HC60 := Lib.hid hc60; clear hr60 hc60)
          try dsimp only [StepQ]
          refine ⟨?_, fun hHeld => ?_⟩
          focus (exact Lib.hid ((show W60.cell? ⟨p + 1, 2, none⟩ = some (.int .i64 e51) by have := ((HD52.out.loc.drew.chg HC60.out (by omega)) 2 _ rfl).1; simpa using this)))
          try simp only [Act.put, List.setIfInBounds_toArray, List.set_cons_zero, List.set_cons_succ]
          refine wpAnyHL_done (by kernel_rfl) ?_
          try simp only [List.drop_succ_cons, List.drop_zero]
          go_wp2
          refine bodyPost_ret (results_cell_tmp (t := 3) (p := 2) rfl _ _ p 0 _ _ _ rfl rfl HR60.out Tryz.underlying46 rfl (sz_tx _ _ _ _)) rfl ?_
          have herr : rdTx l = .error e51 := by
            rcases HFIN.out with ⟨h, _⟩ | ⟨_, h⟩
            · exact absurd h HE51.out
            · exact h
          have hpw := HP.out
          exact ⟨(keeps_drew HK52.out).trans' HC60.out (fun b hb => by have h : b = p := hb; omega), .inr ⟨e51, dec_err HBIG.out herr, rfl⟩⟩
        have hfin : rdNum 4 (l.drop k4) = .ok (lk, l.drop k51) ∧ rdTx l = rdEnd ver second ins2 outs (l.drop k4) := by
          rcases HFIN.out with ⟨_, h1, h2⟩ | ⟨h, _⟩
          · obtain ⟨b1, b2, _⟩ := rdNum_inv (bytes_drop HB.out.bytes _) h1
            simp only [Int.reducePow] at b2
            have : lk = x51 := by rw [HLKE.out]; omega
            rw [this]
            exact ⟨h1, h2⟩
          · exact absurd he51 h
        subst he51
        have HEND := Lib.hid hfin
        clear hfin
        have hlb : (l.length : Int) ≤ 140737488355328 := by have := HSM.out; omega
        have hkb := HL51.out
        cases second
        focus
          by_cases hleft : k51 < l.length
          focus
            have hleft2 : (k51 : Int) < l.length := by omega
            have HLEFT := Lib.hid hleft
            go_wp2_with (first
              | ((with_reducible refine gate_store 46 (.tmp 2) (.tmp 228) ?_); refine wpList_store_row rfl 46 (.tmp 2) (.tmp 228) rfl p 0 rfl _ [.int .i32 0, .slice none 0 0, .slice none 0 0, .int .u32 0] rfl (HD52.out.res.keeps (Keeps.refl _)) rfl (sz_tx _ _ _ _) (four_one _ _ _ _ _ _ _ _) ?_; intro W60 hr60 hc60; have HR60 := Lib.hid hr60; have HC60 := Lib.hid hc60; clear hr60 hc60))
            refine bodyPost_ret (results_cell_tmp (t := 3) (p := 2) rfl _ _ p 0 _ _ _ rfl rfl HR60.out Tryz.underlying46 rfl (sz_tx _ _ _ _)) rfl ?_
            have hpw := HP.out
            exact ⟨(HK52.out.trans (Keeps.refl _)).trans' HC60.out (fun b hb => by have h : b = p := hb; omega), .inr ⟨3, dec_err HBIG.out (HEND.out.2.trans (end_e3 HEND.out.1 (by have := HLEFT.out; simp; omega))), rfl⟩⟩
          focus
            have hleft2 : ¬ (k51 : Int) < l.length := by omega
            have HLEFT := Lib.hid hleft
            clear hleft
            go_wp2_with (first
              | ((with_reducible refine gate_load 46 (.tmp 5) ?_); refine wpList_load_at rfl 46 (.tmp 5) rfl (p + 1 + 1) 0 rfl _ _ (HD52.out.tx.keeps (Keeps.refl _)) Tryz.underlying46 rfl (sz_tx _ _ _ _) ?_)
              | ((with_reducible refine gate_store 46 (.tmp 2) (.tmp 229) ?_); refine wpList_store_row rfl 46 (.tmp 2) (.tmp 229) rfl p 0 rfl _ [.int .i32 ver, .slice ia xs.length ic, .slice oa outs.length oc, .int .u32 lk] rfl (HD52.out.res.keeps (Keeps.refl _)) rfl (sz_tx _ _ _ _) (four_one _ _ _ _ _ _ _ _) ?_; intro W60 hr60 hc60; have HR60 := Lib.hid hr60; have HC60 := Lib.hid hc60; clear hr60 hc60))
            refine bodyPost_ret (results_cell_tmp (t := 3) (p := 2) rfl _ _ p 0 _ _ _ rfl rfl HR60.out Tryz.underlying46 rfl (sz_tx _ _ _ _)) rfl ?_
            have hpw := HP.out
            exact ⟨(HK52.out.trans (Keeps.refl _)).trans' HC60.out (fun b hb => by have h : b = p := hb; omega), .inl ⟨⟨ver, ins2, outs, lk⟩, _, _, dec_ok HBIG.out (HEND.out.2.trans (end_ok HEND.out.1 (fun h => by simp at h) (by have := HLEFT.out; simp; omega))), rfl, got_new (m := w.heap.size) (d := ⟨ver, ins2, outs, lk⟩) (by have := HP.out; omega) (by have := HP.out; have := HNO3.out; omega) HI32.out HU.out ((HGI52.out.chg ((show Keeps W52 _ from (Keeps.refl _)).chg (fun _ => False)) (fun _ h => h.elim)).chg HC60.out (fun b hb => .inl (by have h : b = p := hb; omega))) ((HGO52.out.chg ((show Keeps W52 _ from (Keeps.refl _)).chg (fun _ => False)) (fun _ h => h.elim)).chg HC60.out (fun b hb => .inl (by have h : b = p := hb; have := HNO3.out; omega)))⟩⟩
        focus
          generalize hwd : witnessedD ⟨ver, ins2, outs, lk⟩ = wd
          have HWD := Lib.hid hwd
          clear hwd
          cases wd
          focus
            go_wp2_with (first
              | (go_at_call 58; refine (rwitnessed_any _ _ _ ⟨ver, ins2, outs, lk⟩ _ _ _ (HRTX.out _ (Keeps.refl _))).mono ?_; rintro r W55 ⟨hr55, hk55⟩; rw [HWD.out] at hr55; subst hr55; have HK55 := Lib.hid hk55; obtain ⟨⟨d0, d1, d2⟩, d3⟩ := (HD52.out.keeps hk55).cells; clear hk55)
              | ((with_reducible refine gate_load 46 (.tmp 5) ?_); refine wpList_load_on (by kernel_rfl) 46 (.tmp 5) rfl (p + 1 + 1) 0 rfl _ _ HD52.out.tx Tryz.underlying46 rfl (sz_tx _ _ _ _) ?_)
              | ((with_reducible refine gate_store 46 (.tmp 2) (.tmp 228) ?_); refine wpList_store_row rfl 46 (.tmp 2) (.tmp 228) rfl p 0 rfl _ [.int .i32 0, .slice none 0 0, .slice none 0 0, .int .u32 0] rfl (HD52.out.res.keeps HK55.out) rfl (sz_tx _ _ _ _) (four_one _ _ _ _ _ _ _ _) ?_; intro W60 hr60 hc60; have HR60 := Lib.hid hr60; have HC60 := Lib.hid hc60; clear hr60 hc60))
            refine bodyPost_ret (results_cell_tmp (t := 3) (p := 2) rfl _ _ p 0 _ _ _ rfl rfl HR60.out Tryz.underlying46 rfl (sz_tx _ _ _ _)) rfl ?_
            have hpw := HP.out
            exact ⟨(HK52.out.trans HK55.out).trans' HC60.out (fun b hb => by have h : b = p := hb; omega), .inr ⟨3, dec_err HBIG.out (HEND.out.2.trans (end_e2 HEND.out.1 ⟨rfl, HWD.out⟩)), rfl⟩⟩
          focus
            by_cases hleft : k51 < l.length
            focus
              have hleft2 : (k51 : Int) < l.length := by omega
              have HLEFT := Lib.hid hleft
              go_wp2_with (first
                | (go_at_call 58; refine (rwitnessed_any _ _ _ ⟨ver, ins2, outs, lk⟩ _ _ _ (HRTX.out _ (Keeps.refl _))).mono ?_; rintro r W55 ⟨hr55, hk55⟩; rw [HWD.out] at hr55; subst hr55; have HK55 := Lib.hid hk55; obtain ⟨⟨d0, d1, d2⟩, d3⟩ := (HD52.out.keeps hk55).cells; clear hk55)
                | ((with_reducible refine gate_load 46 (.tmp 5) ?_); refine wpList_load_on (by kernel_rfl) 46 (.tmp 5) rfl (p + 1 + 1) 0 rfl _ _ HD52.out.tx Tryz.underlying46 rfl (sz_tx _ _ _ _) ?_)
                | ((with_reducible refine gate_store 46 (.tmp 2) (.tmp 228) ?_); refine wpList_store_row rfl 46 (.tmp 2) (.tmp 228) rfl p 0 rfl _ [.int .i32 0, .slice none 0 0, .slice none 0 0, .int .u32 0] rfl (HD52.out.res.keeps HK55.out) rfl (sz_tx _ _ _ _) (four_one _ _ _ _ _ _ _ _) ?_; intro W60 hr60 hc60; have HR60 := Lib.hid hr60; have HC60 := Lib.hid hc60; clear hr60 hc60))
              refine bodyPost_ret (results_cell_tmp (t := 3) (p := 2) rfl _ _ p 0 _ _ _ rfl rfl HR60.out Tryz.underlying46 rfl (sz_tx _ _ _ _)) rfl ?_
              have hpw := HP.out
              exact ⟨(HK52.out.trans HK55.out).trans' HC60.out (fun b hb => by have h : b = p := hb; omega), .inr ⟨3, dec_err HBIG.out (HEND.out.2.trans (end_e3 HEND.out.1 (by have := HLEFT.out; simp; omega))), rfl⟩⟩
            focus
              have hleft2 : ¬ (k51 : Int) < l.length := by omega
              have HLEFT := Lib.hid hleft
              clear hleft
              go_wp2_with (first
                | (go_at_call 58; refine (rwitnessed_any _ _ _ ⟨ver, ins2, outs, lk⟩ _ _ _ (HRTX.out _ (Keeps.refl _))).mono ?_; rintro r W55 ⟨hr55, hk55⟩; rw [HWD.out] at hr55; subst hr55; have HK55 := Lib.hid hk55; obtain ⟨⟨d0, d1, d2⟩, d3⟩ := (HD52.out.keeps hk55).cells; clear hk55)
                | ((with_reducible refine gate_load 46 (.tmp 5) ?_); refine wpList_load_on (by kernel_rfl) 46 (.tmp 5) rfl (p + 1 + 1) 0 rfl _ _ HD52.out.tx Tryz.underlying46 rfl (sz_tx _ _ _ _) ?_)
                | ((with_reducible refine gate_load 46 (.tmp 5) ?_); refine wpList_load_at rfl 46 (.tmp 5) rfl (p + 1 + 1) 0 rfl _ _ (HD52.out.tx.keeps HK55.out) Tryz.underlying46 rfl (sz_tx _ _ _ _) ?_)
                | ((with_reducible refine gate_store 46 (.tmp 2) (.tmp 229) ?_); refine wpList_store_row rfl 46 (.tmp 2) (.tmp 229) rfl p 0 rfl _ [.int .i32 ver, .slice ia xs.length ic, .slice oa outs.length oc, .int .u32 lk] rfl (HD52.out.res.keeps HK55.out) rfl (sz_tx _ _ _ _) (four_one _ _ _ _ _ _ _ _) ?_; intro W60 hr60 hc60; have HR60 := Lib.hid hr60; have HC60 := Lib.hid hc60; clear hr60 hc60))
              refine bodyPost_ret (results_cell_tmp (t := 3) (p := 2) rfl _ _ p 0 _ _ _ rfl rfl HR60.out Tryz.underlying46 rfl (sz_tx _ _ _ _)) rfl ?_
              have hpw := HP.out
              exact ⟨(HK52.out.trans HK55.out).trans' HC60.out (fun b hb => by have h : b = p := hb; omega), .inl ⟨⟨ver, ins2, outs, lk⟩, _, _, dec_ok HBIG.out (HEND.out.2.trans (end_ok HEND.out.1 (fun _ => HWD.out) (by have := HLEFT.out; simp; omega))), rfl, got_new (m := w.heap.size) (d := ⟨ver, ins2, outs, lk⟩) (by have := HP.out; omega) (by have := HP.out; have := HNO3.out; omega) HI32.out HU.out ((HGI52.out.chg ((show Keeps W52 _ from HK55.out).chg (fun _ => False)) (fun _ h => h.elim)).chg HC60.out (fun b hb => .inl (by have h : b = p := hb; omega))) ((HGO52.out.chg ((show Keeps W52 _ from HK55.out).chg (fun _ => False)) (fun _ h => h.elim)).chg HC60.out (fun b hb => .inl (by have h : b = p := hb; have := HNO3.out; omega)))⟩⟩
end Go.Proofs.YtcodpdpeklammaaGreatDoor
