/- The reference's Value, Raw. | The reference's Num, List, count. (Printed by gref01.py.) -/
import Derived.Test.YtcodpdpeklammaaGreatDoorGA4
import Derived.Test.YtcodpdpeklammaaGreatDoorGA1
import Derived.Test.YtcodpdpeklammaaGreatDoorGA5
import Derived.Test.YtcodpdpeklammaaGreatDoorGA8
import Derived.Deep.RegionHeld3
namespace Go.Proofs.YtcodpdpeklammaaGreatDoor
set_option linter.unusedVariables false
set_option linter.unusedSimpArgs false
open Go Go.RowKit
theorem leV_drop {l : List Int} {j : Nat} (h : j < l.length) : leV (l.drop j) = l.getD j 0 + 256 * leV (l.drop (j + 1)) := by
  rw [List.drop_eq_getElem_cons h, leV]
  simp [List.getD, h]
theorem leV_small8 {l : List Int} (hb : Bytes l) (hl : l.length ≤ 8) : 0 ≤ leV l ∧ leV l < 18446744073709551616 := by
  have := leV_rng l hb
  have h2 : (256 : Int) ^ l.length ≤ 18446744073709551616 := by
    have h3 : l.length = 0 ∨ l.length = 1 ∨ l.length = 2 ∨ l.length = 3 ∨ l.length = 4 ∨ l.length = 5 ∨ l.length = 6 ∨ l.length = 7 ∨ l.length = 8 := by omega
    rcases h3 with h | h | h | h | h | h | h | h | h <;> rw [h] <;> decide
  exact ⟨this.1, Int.lt_of_lt_of_le this.2 h2⟩
set_option maxRecDepth 100000 in
set_option maxHeartbeats 1000000 in
theorem value_any (v : Value) (l : List Int) (w : World) (hr : Rd w 1 v l.length (l.map (Value.int .u8))) (hb : Bytes l) (hl : l.length ≤ 8) :
    Calls Tryz.prog 71 #[v] w fun r w' => r = .returned (.int .u64 (leV l)) ∧ w' = w := by
  have HB := Lib.hid hb
  have HL := Lib.hid hl
  obtain ⟨h0, a, cap, rfl, h2, h3, h4, h5⟩ := hr
  have hn0 : (l.length : Int) ≤ 8 := by omega
  clear h0 h2 h3 hl
  go_enter Tryz.func71, Tryz.ntmps71
  go_wp2
  go_loopw [3, 4] (fun x c wr => ∃ k : Nat, k ≤ l.length ∧ c = .int .i64 ((k : Int) - 1) ∧ x = .int .u64 (leV (l.drop k)) ∧ wr = w) (fun _ c _ => (intOf c + 1).toNat)
  case atStart => exact ⟨l.length, Nat.le_refl _, by go_num, by simp [leV], rfl⟩
  case round =>
    obtain ⟨k, hk, rfl, rfl, rfl⟩ := hrel
    cases k with
    | zero =>
      have e0 : ((0 : Nat) : Int) - 1 = -1 := rfl
      rw [e0]
      simp only [List.drop_zero]
      go_wp2
      go_ret
      exact ⟨rfl, rfl⟩
    | succ j =>
      have e0 : ((j + 1 : Nat) : Int) - 1 = (j : Int) := by omega
      rw [e0]
      have hd := leV_drop (l := l) (j := j) (by omega)
      have hlow := leV_small8 (l := l.drop (j + 1)) (bytes_drop HB.out _) (by have := HL.out; simp; omega)
      have hcur := leV_small8 (l := l.drop j) (bytes_drop HB.out _) (by have := HL.out; simp; omega)
      have hbyte := HB.out.getD (l := l) j
      unfold Byte at hbyte
      cases a with
      | none => have := (h4 rfl).1; omega
      | some ad =>
        obtain ⟨g, off, rfl, hg, hrow⟩ := h5 ad rfl (by omega)
        have hc := (hrow j (.int .u8 (l.getD j 0)) (by simp [List.getD, show j < l.length by omega])).1
        have HD := Lib.hid hd
        generalize leV (l.drop (j + 1)) = X at *
        generalize l.getD j 0 = b at *
        have hm1 : IntKind.u64.wrap (X * 256) = X * 256 := by rw [IntKind.wrap_u64]; omega
        have hm2 : IntKind.u64.wrap b = b := by rw [IntKind.wrap_u64]; omega
        have hm3 : IntKind.u64.wrap (X * 256 + b) = X * 256 + b := by rw [IntKind.wrap_u64]; omega
        clear hd hcur h4 h5 hrow
        go_wp2
        go_roundw
        case rel => exact ⟨j, by omega, by go_num, by rw [HD.out, Int.add_comm b, Int.mul_comm 256], trivial⟩
        case measure => show ((j : Int) - 1 + 1).toNat < ((j : Int) + 1).toNat; omega
/-- the reference's place in the bytes -/
def inV (bv : Value) (at_ : Nat) (e : Int) : Value := .agg #[bv, .int .i64 at_, .int .i64 e]
/-- a read that goes on from the first error -/
def RfR {α : Type} (p : Rdr α) (e : Int) (l : List Int) (x : α) (e' : Int) (l' : List Int) : Prop :=
  (e ≠ 0 ∧ e' = e) ∨ (e = 0 ∧ e' = 0 ∧ p l = .ok (x, l')) ∨ (e = 0 ∧ e' ≠ 0 ∧ p l = .error e')
/-- what a read of the reference's does -/
def RfP {α : Type} (p : Rdr α) (enc : World → World → α → Value → Prop) (bv : Value) (l : List Int) (k : Nat) (e : Int) (w : World) (r : Ending) (W : World) : Prop :=
  Keeps w W ∧ ∃ x val k' e', r = .returned (.tuple #[val, inV bv k' e']) ∧ k' ≤ l.length ∧ RfR p e (l.drop k) x e' (l.drop k') ∧ enc w W x val
def encO (n : Nat) (w W : World) (x : List Int) (v : Value) : Prop := Own w W v x.length x ∧ x.length ≤ n ∧ Bytes x
theorem three_one (a : Option Addr) (n c : Nat) (x y : Int) : ∀ u ∈ [Value.slice a n c, .int .i64 x, .int .i64 y], u.oneCell' = true := by
  intro u hu
  simp only [List.mem_cons, List.not_mem_nil, or_false] at hu
  rcases hu with rfl | rfl | rfl <;> rfl
theorem sz_inv (a b c : Value) : (Tryz.prog.info? 81).map (·.size) = some [a, b, c].length := by kernel_rfl
theorem results_tmp_cell {P : Program} {fn : Func} {t p : Tmp} {ty : TypeId} (h : fn.results = #[.tmp t, .cell p ty]) (tmps : Array Value) (w : World) (g off : Nat) (v : Value) (cs : List Value) (d : TypeDesc)
    (ht : tmps.getD t undef = v) (hp : tmps.getD p undef = .pointer (some ⟨g, off, none⟩)) (hg : Row w g off cs)
    (hu : P.underlying ty = some d) (hd : (match d with | .struct _ | .array _ _ => true | _ => false) = true) (hi : (P.info? ty).map (·.size) = some cs.length) :
    (results fn tmps).run P w = .ok (.tuple #[v, .agg cs.toArray]) w := by
  have hp' : tmps[p]?.getD undef = .pointer (some ⟨g, off, none⟩) := by simpa using hp
  have ht' : tmps[t]?.getD undef = v := by simpa using ht
  simp [results, h, hp', ht', asAddr, run_loadVar_at w g off ty cs d hg hu hd hi]
theorem Row.cell3 {w : World} {b : Nat} {x y z : Value} (h : Row w b 0 [x, y, z]) : (w.cell? ⟨b, 0, none⟩ = some x ∧ w.cell? ⟨b, 1, none⟩ = some y ∧ w.cell? ⟨b, 2, none⟩ = some z) ∧ w.frozen? ⟨b, 1, none⟩ = false ∧ w.frozen? ⟨b, 2, none⟩ = false := by
  refine ⟨⟨?_, ?_, ?_⟩, ?_, ?_⟩
  · have := (h 0 _ rfl).1; simpa using this
  · have := (h 1 _ rfl).1; simpa using this
  · have := (h 2 _ rfl).1; simpa using this
  · have := (h 1 _ rfl).2; simpa using this
  · have := (h 2 _ rfl).2; simpa using this
theorem Own.chg_old {w W W' : World} {v : Value} {n : Nat} {l : List Int} {X : Nat → Prop} (h : Own w W v n l) (hc : Chg X W W') (hx : ∀ b, w.heap.size ≤ b → ¬ X b) : Buf W' 1 v n (l.map (Value.int .u8)) ∧ ∀ g, v.ownBlock = some g → w.heap.size ≤ g :=
  ⟨h.buf.chg hc (fun b hb => hx b (h.new b hb)), h.new⟩
set_option maxRecDepth 100000 in
set_option maxHeartbeats 1000000 in
theorem rraw_any (S : Nat → Prop) (bv : Value) (l : List Int) (k : Nat) (e : Int) (n : Nat) (hn : n ≤ 140737488355328) (w : World) (hb : RB S w bv l) (hk : k ≤ l.length) :
    Calls Tryz.prog 73 #[inV bv k e, .int .i64 n] w (RfP (rdTake n) (encO n) bv l k e w) := by
  have HB := Lib.hid hb
  have HN := Lib.hid hn; have HK := Lib.hid hk
  obtain ⟨a, cap, rfl, hlc, hcm, hnil⟩ := hb.any
  have hsm := hb.small
  have HSM := Lib.hid hsm
  clear hb
  unfold inV
  go_enter Tryz.func73, Tryz.ntmps73
  go_upto_region 1 with (fail)
  refine wp_rows2 (fun W0 hk0 hr1 hr2 hsz => ?_)
  simp only at hr1 hr2
  obtain ⟨p, hp⟩ : ∃ p, p = w.heap.size := ⟨_, rfl⟩
  rw [← hp] at hr1 hr2 hsz ⊢
  have HP := Lib.hid hp; have HSZ := Lib.hid hsz; have HK0 := Lib.hid hk0; have HR1 := Lib.hid hr1; have HR2 := Lib.hid hr2
  obtain ⟨⟨c0, c1, c2⟩, f1, f2⟩ := hr1.cell3
  clear hk0 hr1 hr2 hp hsz
  by_cases he : e = 0
  focus
    subst he
    by_cases hgt : l.length < k + n
    focus
      have hg2 : (l.length : Int) - (k : Int) < (n : Int) := by omega
      have hlk : (l.length : Int) ≤ 140737488355328 := by omega
      go_upto_region 5 with (fail)
      have hr5 : Row (W0.setCell ⟨p, 2, none⟩ (.int .i64 4)) p 0 [.slice a l.length cap, .int .i64 k, .int .i64 4] := by
        have := HR1.out.set 2 (by simp) (.int .i64 4)
        simpa using this
      have hq5 : Row (W0.setCell ⟨p, 2, none⟩ (.int .i64 4)) (p + 1) 0 [.slice none 0 0, .int .i64 0, .int .i64 0] := HR2.out.other (by show p + 1 ≠ p; omega) _
      have hk5 : Keeps w (W0.setCell ⟨p, 2, none⟩ (.int .i64 4)) := keeps_chg HK0.out (Chg.cell p 2 _) (by have := HP.out; omega)
      have HR5 := Lib.hid hr5; have HQ5 := Lib.hid hq5; have HK5 := Lib.hid hk5
      clear hr5 hq5 hk5 c0 c1 c2 f1 f2 hg2
      generalize W0.setCell ⟨p, 2, none⟩ (.int .i64 4) = W5 at *
      refine wp_region_head (S := fun W => Hid ((fun W => Row W p 0 [.slice a l.length cap, .int .i64 k, .int .i64 4]) W)) 2 (by kernel_rfl) (by kernel_rfl) ?_ (fun hHeld => ?_)
      focus exact Lib.hid HR5.out.drew
      refine wpAnyHL_take (i := 0) (oi := ?_) (v := ?_) ?_ ?_ ?_ ?_ ?_ ?_ ?_ ?_ ?_ (Or.inl ⟨?_, ?_⟩) ?_ ?_
      rotate_left 2
      focus (simp only [List.getElem?_toArray, List.getElem?_cons_succ, List.getElem?_cons_zero]; exact rfl)
      iterate 7 focus kernel_rfl
      focus (exact fun _ _ _ h => h)
      focus rfl
      focus (intro wSw hSw; (have hSw := hSw.out); (refine run_load_row 81 (.tmp 2) ?_ p 0 ?_ _ _ hSw Tryz.underlying81 rfl (sz_inv _ _ _)) <;> rfl)
      focus assumption
      try simp only [Act.put, List.setIfInBounds_toArray, List.set_cons_zero, List.set_cons_succ]
      refine wpAnyHL_take (i := 1) (oi := ?_) (v := ?_) ?_ ?_ ?_ ?_ ?_ ?_ ?_ ?_ ?_ (Or.inl ⟨?_, ?_⟩) ?_ ?_
      rotate_left 2
      focus (simp only [List.getElem?_toArray, List.getElem?_cons_succ, List.getElem?_cons_zero]; exact rfl)
      iterate 7 focus kernel_rfl
      focus (exact fun _ _ _ h => h)
      focus rfl
      focus ((intro wSw hSw; (have hSw := hSw.out); (try dsimp only at hSw); go_simp) <;> with_reducible rfl)
      focus assumption
      try simp only [Act.put, List.setIfInBounds_toArray, List.set_cons_zero, List.set_cons_succ]
      refine wpAnyHL_done (by kernel_rfl) ?_
      try simp only [List.drop_succ_cons, List.drop_zero]
      go_wp2_with (refine wpList_store_row rfl 81 (.tmp 5) (.tmp 20) rfl (p + 1) 0 rfl _ [.slice a l.length cap, .int .i64 k, .int .i64 4] rfl HQ5.out.drew rfl (sz_inv _ _ _) (three_one _ _ _ _ _) ?_; intro W3 hr3 hc3; have HR3 := Lib.hid hr3; have HC3 := Lib.hid hc3; clear hr3 hc3)
      refine bodyPost_ret (results_tmp_cell (t := 4) (p := 5) rfl _ _ (p + 1) 0 _ _ _ rfl rfl HR3.out Tryz.underlying81 rfl (sz_inv _ _ _)) rfl ?_
      have hkk : Keeps w W3 := keeps_chg (keeps_drew HK5.out) HC3.out (by have := HP.out; omega)
      exact ⟨hkk, [], _, k, 4, rfl, HK.out, .inr (.inr ⟨rfl, by decide, by unfold rdTake; rw [if_pos (by simp; omega)]⟩), ⟨⟨hkk, Buf.nil _ _, fun g h => by simp [Value.ownBlock] at h⟩, by simp, fun x hx => by cases hx⟩⟩
    focus
      have hg2 : ¬ (l.length : Int) - (k : Int) < (n : Int) := by omega
      have hlk : (l.length : Int) ≤ 140737488355328 := by omega
      by_cases hn0 : n = 0
      focus
        subst hn0
        go_upto_region 7 with (fail)
        refine wp_region_head (S := fun W => Hid ((fun W => Row W p 0 [.slice a l.length cap, .int .i64 k, .int .i64 0]) W)) 2 (by kernel_rfl) (by kernel_rfl) ?_ (fun hHeld => ?_)
        focus exact Lib.hid HR1.out.drew
        refine wpAnyHL_take (i := 0) (oi := ?_) (v := ?_) ?_ ?_ ?_ ?_ ?_ ?_ ?_ ?_ ?_ (Or.inl ⟨?_, ?_⟩) ?_ ?_
        rotate_left 2
        focus (simp only [List.getElem?_toArray, List.getElem?_cons_succ, List.getElem?_cons_zero]; exact rfl)
        iterate 7 focus kernel_rfl
        focus (exact fun _ _ _ h => h)
        focus rfl
        focus (intro wSw hSw; (have hSw := hSw.out); (refine run_load_row 81 (.tmp 2) ?_ p 0 ?_ _ _ hSw Tryz.underlying81 rfl (sz_inv _ _ _)) <;> rfl)
        focus assumption
        try simp only [Act.put, List.setIfInBounds_toArray, List.set_cons_zero, List.set_cons_succ]
        refine wpAnyHL_take (i := 1) (oi := ?_) (v := ?_) ?_ ?_ ?_ ?_ ?_ ?_ ?_ ?_ ?_ (Or.inl ⟨?_, ?_⟩) ?_ ?_
        rotate_left 2
        focus (simp only [List.getElem?_toArray, List.getElem?_cons_succ, List.getElem?_cons_zero]; exact rfl)
        iterate 7 focus kernel_rfl
        focus (exact fun _ _ _ h => h)
        focus rfl
        focus ((intro wSw hSw; (have hSw := hSw.out); (try dsimp only at hSw); go_simp) <;> with_reducible rfl)
        focus assumption
        try simp only [Act.put, List.setIfInBounds_toArray, List.set_cons_zero, List.set_cons_succ]
        refine wpAnyHL_done (by kernel_rfl) ?_
        try simp only [List.drop_succ_cons, List.drop_zero]
        go_wp2_with (refine wpList_store_row rfl 81 (.tmp 5) (.tmp 23) rfl (p + 1) 0 rfl _ [.slice a l.length cap, .int .i64 k, .int .i64 0] rfl HR2.out.drew rfl (sz_inv _ _ _) (three_one _ _ _ _ _) ?_; intro W3 hr3 hc3; have HR3 := Lib.hid hr3; have HC3 := Lib.hid hc3; clear hr3 hc3)
        refine bodyPost_ret (results_tmp_cell (t := 4) (p := 5) rfl _ _ (p + 1) 0 _ _ _ rfl rfl HR3.out Tryz.underlying81 rfl (sz_inv _ _ _)) rfl ?_
        have hkk : Keeps w W3 := keeps_chg (keeps_drew HK0.out) HC3.out (by have := HP.out; omega)
        exact ⟨hkk, [], _, k, 0, rfl, HK.out, .inr (.inl ⟨rfl, rfl, by unfold rdTake; rw [if_neg (by omega)]; simp⟩), ⟨⟨hkk, Buf.nil _ _, fun g h => by simp [Value.ownBlock] at h⟩, by simp, fun x hx => by cases hx⟩⟩
      focus
        have hn1 : ¬ (n : Int) ≤ 0 := by omega
        have hkn : (k : Int) + n ≤ 140737488355328 := by omega
        obtain ⟨h0, a', cap', e2, h2, h3, h4, h5⟩ := HB.out.rd
        cases e2
        cases a with
        | none => have := (hnil rfl).1; omega
        | some ad =>
          obtain ⟨g, off, rfl, hg, hrow⟩ := h5 ad rfl (by omega)
          have hsub : Rd w 1 (.slice (some ⟨g, off + k, none⟩) n (cap - k)) n (((l.drop k).take n).map (Value.int .u8)) := by
            refine Rd.of_row ?_ (by simp; omega) hg (by omega) (by omega)
            have := (hrow.drop k).take n
            rwa [← List.map_drop, ← List.map_take] at this
          have hnk : k + n - k = n := by omega
          have HNK := Lib.hid hnk
          have HSUB := Lib.hid (show Rd w 1 (.slice (some ⟨g, off + k, none⟩) (k + n - k) (cap - k)) (k + n - k) (((l.drop k).take n).map (Value.int .u8)) by rw [hnk]; exact hsub)
          clear hnk
          clear h0 h2 h3 h4 h5 hrow hsub hnil
          have hpl : p < W0.heap.size := by have := HSZ.out; omega
          have hkc : k < cap := by omega
          have hkc2 : (k : Int) + n ≤ cap := by omega
          go_upto_region 9 with (refine own_append rfl _ _ rfl (Own.made W0 _) (Keeps.refl _) rfl _ rfl _ ((l.drop k).take n) ((HSUB.out.keeps (HK0.out.trans (Own.made W0 _).keeps)).src Tryz.underlying32 (int_oneCell _)) (by omega) ?_; intro v8 w8 hO8 hG8; rw [HNK.out, Nat.zero_add, List.nil_append] at hO8; obtain ⟨a8, c8, rfl⟩ := hO8.any; have HO8 := Lib.hid hO8; obtain ⟨⟨d0, d1, d2⟩, g1, g2⟩ := (HR1.out.keeps hO8.keeps).cell3; clear hO8 hG8)
          go_upto_region 10 with (fail)
          have hr9 : Row (w8.setCell ⟨p, 1, none⟩ (.int .i64 (k + n))) p 0 [.slice (some ⟨g, off, none⟩) l.length cap, .int .i64 (k + n), .int .i64 0] := by
            have := (HR1.out.keeps HO8.out.keeps).set 1 (by simp) (.int .i64 ((k : Int) + n))
            simpa using this
          have hq9 : Row (w8.setCell ⟨p, 1, none⟩ (.int .i64 (k + n))) (p + 1) 0 [.slice none 0 0, .int .i64 0, .int .i64 0] := (HR2.out.keeps HO8.out.keeps).other (by show p + 1 ≠ p; omega) _
          have hx9 : Chg (· = p) w8 (w8.setCell ⟨p, 1, none⟩ (.int .i64 (k + n))) := Chg.cell p 1 _
          have ho9 := Own.chg_old HO8.out hx9 (fun b hb => by omega)
          have hk9 : Keeps w (w8.setCell ⟨p, 1, none⟩ (.int .i64 (k + n))) := keeps_chg (HK0.out.trans HO8.out.keeps) hx9 (by have := HP.out; omega)
          have HR9 := Lib.hid hr9; have HQ9 := Lib.hid hq9; have HK9 := Lib.hid hk9; have HO9 := Lib.hid ho9
          clear hr9 hq9 hk9 ho9 hx9 d0 d1 d2 g1 g2 c0 c1 c2 f1 f2
          generalize w8.setCell ⟨p, 1, none⟩ (.int .i64 (k + n)) = W9 at *
          refine wp_region_head (S := fun W => Hid ((fun W => Row W p 0 [.slice (some ⟨g, off, none⟩) l.length cap, .int .i64 (k + n), .int .i64 0]) W)) 3 (by kernel_rfl) (by kernel_rfl) ?_ (fun hHeld => ?_)
          focus exact Lib.hid HR9.out.drew
          refine wpAnyHL_take (i := 0) (oi := ?_) (v := ?_) ?_ ?_ ?_ ?_ ?_ ?_ ?_ ?_ ?_ (Or.inl ⟨?_, ?_⟩) ?_ ?_
          rotate_left 2
          focus (simp only [List.getElem?_toArray, List.getElem?_cons_succ, List.getElem?_cons_zero]; exact rfl)
          iterate 7 focus kernel_rfl
          focus (exact fun _ _ _ h => h)
          focus rfl
          focus ((intro wSw hSw; (have hSw := hSw.out); (try dsimp only at hSw); go_simp) <;> with_reducible rfl)
          focus assumption
          try simp only [Act.put, List.setIfInBounds_toArray, List.set_cons_zero, List.set_cons_succ]
          refine wpAnyHL_take (i := 1) (oi := ?_) (v := ?_) ?_ ?_ ?_ ?_ ?_ ?_ ?_ ?_ ?_ (Or.inl ⟨?_, ?_⟩) ?_ ?_
          rotate_left 2
          focus (simp only [List.getElem?_toArray, List.getElem?_cons_succ, List.getElem?_cons_zero]; exact rfl)
          iterate 7 focus kernel_rfl
          focus (exact fun _ _ _ h => h)
          focus rfl
          focus (intro wSw hSw; (have hSw := hSw.out); (refine run_load_row 81 (.tmp 2) ?_ p 0 ?_ _ _ hSw Tryz.underlying81 rfl (sz_inv _ _ _)) <;> rfl)
          focus assumption
          try simp only [Act.put, List.setIfInBounds_toArray, List.set_cons_zero, List.set_cons_succ]
          refine wpAnyHL_take (i := 2) (oi := ?_) (v := ?_) ?_ ?_ ?_ ?_ ?_ ?_ ?_ ?_ ?_ (Or.inl ⟨?_, ?_⟩) ?_ ?_
          rotate_left 2
          focus (simp only [List.getElem?_toArray, List.getElem?_cons_succ, List.getElem?_cons_zero]; exact rfl)
          iterate 7 focus kernel_rfl
          focus (exact fun _ _ _ h => h)
          focus rfl
          focus ((intro wSw hSw; (have hSw := hSw.out); (try dsimp only at hSw); go_simp) <;> with_reducible rfl)
          focus assumption
          try simp only [Act.put, List.setIfInBounds_toArray, List.set_cons_zero, List.set_cons_succ]
          refine wpAnyHL_done (by kernel_rfl) ?_
          try simp only [List.drop_succ_cons, List.drop_zero]
          go_wp2_with (refine wpList_store_row rfl 81 (.tmp 5) (.tmp 41) rfl (p + 1) 0 rfl _ [.slice (some ⟨g, off, none⟩) l.length cap, .int .i64 (k + n), .int .i64 0] rfl HQ9.out.drew rfl (sz_inv _ _ _) (three_one _ _ _ _ _) ?_; intro W3 hr3 hc3; have HR3 := Lib.hid hr3; have HC3 := Lib.hid hc3; clear hr3 hc3)
          refine bodyPost_ret (results_tmp_cell (t := 4) (p := 5) rfl _ _ (p + 1) 0 _ _ _ rfl rfl HR3.out Tryz.underlying81 rfl (sz_inv _ _ _)) rfl ?_
          have hc3 : Chg (· = p + 1) W9.drew W3 := HC3.out
          have hkk : Keeps w W3 := keeps_chg (keeps_drew HK9.out) hc3 (by have := HP.out; omega)
          have hlen : ((l.drop k).take n).length = n := by simp; omega
          obtain ⟨hb9, hn9⟩ := HO9.out
          refine ⟨hkk, (l.drop k).take n, _, k + n, 0, rfl, by omega, .inr (.inl ⟨rfl, rfl, by unfold rdTake; rw [if_neg (by simp; omega), List.drop_drop]⟩), ⟨⟨hkk, ?_, fun b hb => by have := hn9 b hb; have := HSZ.out; have := HP.out; omega⟩, by simp; omega, bytes_take (bytes_drop HB.out.bytes _) _⟩⟩
          rw [hlen]
          have hb10 := (hb9.keeps (keeps_drew (Keeps.refl _))).chg hc3 (fun b hb e => by have := hn9 b hb; have := HSZ.out; omega)
          simpa using hb10
  focus
    go_upto_region 2 with (fail)
    refine wp_region_head (S := fun W => Hid ((fun W => Row W p 0 [.slice a l.length cap, .int .i64 k, .int .i64 e]) W)) 2 (by kernel_rfl) (by kernel_rfl) ?_ (fun hHeld => ?_)
    focus exact Lib.hid HR1.out.drew
    refine wpAnyHL_take (i := 0) (oi := ?_) (v := ?_) ?_ ?_ ?_ ?_ ?_ ?_ ?_ ?_ ?_ (Or.inl ⟨?_, ?_⟩) ?_ ?_
    rotate_left 2
    focus (simp only [List.getElem?_toArray, List.getElem?_cons_succ, List.getElem?_cons_zero]; exact rfl)
    iterate 7 focus kernel_rfl
    focus (exact fun _ _ _ h => h)
    focus rfl
    focus (intro wSw hSw; (have hSw := hSw.out); (refine run_load_row 81 (.tmp 2) ?_ p 0 ?_ _ _ hSw Tryz.underlying81 rfl (sz_inv _ _ _)) <;> rfl)
    focus assumption
    try simp only [Act.put, List.setIfInBounds_toArray, List.set_cons_zero, List.set_cons_succ]
    refine wpAnyHL_take (i := 1) (oi := ?_) (v := ?_) ?_ ?_ ?_ ?_ ?_ ?_ ?_ ?_ ?_ (Or.inl ⟨?_, ?_⟩) ?_ ?_
    rotate_left 2
    focus (simp only [List.getElem?_toArray, List.getElem?_cons_succ, List.getElem?_cons_zero]; exact rfl)
    iterate 7 focus kernel_rfl
    focus (exact fun _ _ _ h => h)
    focus rfl
    focus ((intro wSw hSw; (have hSw := hSw.out); (try dsimp only at hSw); go_simp) <;> with_reducible rfl)
    focus assumption
    try simp only [Act.put, List.setIfInBounds_toArray, List.set_cons_zero, List.set_cons_succ]
    refine wpAnyHL_done (by kernel_rfl) ?_
    try simp only [List.drop_succ_cons, List.drop_zero]
    go_wp2_with (refine wpList_store_row rfl 81 (.tmp 5) (.tmp 10) rfl (p + 1) 0 rfl _ [.slice a l.length cap, .int .i64 k, .int .i64 e] rfl HR2.out.drew rfl (sz_inv _ _ _) (three_one _ _ _ _ _) ?_; intro W3 hr3 hc3; have HR3 := Lib.hid hr3; have HC3 := Lib.hid hc3; clear hr3 hc3)
    refine bodyPost_ret (results_tmp_cell (t := 4) (p := 5) rfl _ _ (p + 1) 0 _ _ _ rfl rfl HR3.out Tryz.underlying81 rfl (sz_inv _ _ _)) rfl ?_
    have hkk : Keeps w W3 := keeps_chg (keeps_drew HK0.out) HC3.out (by have := HP.out; omega)
    exact ⟨hkk, [], _, k, e, rfl, HK.out, .inl ⟨he, rfl⟩, ⟨⟨hkk, Buf.nil _ _, fun g h => by simp [Value.ownBlock] at h⟩, by simp, fun x hx => by cases hx⟩⟩
def encN (_ _ : World) (x : Int) (v : Value) : Prop := v = .int .u64 x ∧ 0 ≤ x ∧ x < 18446744073709551616
theorem num_of_take {n : Nat} {e : Int} {l l' : List Int} {xs : List Int} {e' : Int} (h : RfR (rdTake n) e l xs e' l') : RfR (rdNum n) e l (leV xs) e' l' := by
  rcases h with h | ⟨h1, h2, h3⟩ | ⟨h1, h2, h3⟩
  · exact .inl h
  · exact .inr (.inl ⟨h1, h2, by unfold rdNum; rw [rdBind_ok h3]; rfl⟩)
  · exact .inr (.inr ⟨h1, h2, by unfold rdNum; exact rdBind_err h3⟩)
set_option maxRecDepth 100000 in
set_option maxHeartbeats 1000000 in
theorem rnum_any (S : Nat → Prop) (bv : Value) (l : List Int) (k : Nat) (e : Int) (n : Nat) (hn : n ≤ 8) (w : World) (hb : RB S w bv l) (hk : k ≤ l.length) :
    Calls Tryz.prog 72 #[inV bv k e, .int .i64 n] w (RfP (rdNum n) encN bv l k e w) := by
  have HB := Lib.hid hb; have HK := Lib.hid hk
  obtain ⟨a, cap, rfl, hlc, hcm, hnil⟩ := hb.any
  have hsm := hb.small
  have HSM := Lib.hid hsm
  clear hb hlc hcm hnil hsm
  unfold inV
  go_enter Tryz.func72, Tryz.ntmps72
  go_upto_region 1 with (fail)
  refine wp_rows2 (fun W0 hk0 hr1 hr2 hsz => ?_)
  simp only at hr1 hr2
  obtain ⟨p, hp⟩ : ∃ p, p = w.heap.size := ⟨_, rfl⟩
  rw [← hp] at hr1 hr2 hsz ⊢
  have HP := Lib.hid hp; have HSZ := Lib.hid hsz; have HK0 := Lib.hid hk0; have HR1 := Lib.hid hr1; have HR2 := Lib.hid hr2
  clear hk0 hr1 hr2 hp hsz
  go_upto_region 2 with (first
    | (refine wpList_load_at rfl 81 (.tmp 2) rfl p 0 rfl _ _ HR1.out Tryz.underlying81 rfl (sz_inv _ _ _) ?_)
    | (go_at_call 73; refine (rraw_any S (.slice a l.length cap) l k e n (by omega) W0 (HB.out.keeps HK0.out) HK.out).mono ?_; intro r W1 hpst; obtain ⟨hk1, xs, val, k1, e1, rfl, hkl, hrr, henc⟩ := hpst; have HK1 := Lib.hid hk1; have HKL := Lib.hid hkl; have HRR := Lib.hid hrr; have HENC := Lib.hid henc; obtain ⟨av, cv, rfl⟩ := henc.1.any; clear hk1 hkl hrr henc; unfold inV))
  have hr7 : Row (W1.alloc (.cells #[.slice a l.length cap, .int .i64 k1, .int .i64 e1] 81)) W1.heap.size 0 [.slice a l.length cap, .int .i64 k1, .int .i64 e1] := Row.new _ _ _ rfl
  have hk7 : Keeps W1 (W1.alloc (.cells #[.slice a l.length cap, .int .i64 k1, .int .i64 e1] 81)) := keeps_alloc (Keeps.refl _) _
  have hq7 : Row (W1.alloc (.cells #[.slice a l.length cap, .int .i64 k1, .int .i64 e1] 81)) (p + 1) 0 _ := (HR2.out.keeps HK1.out).keeps hk7
  have hpq : p + 1 < W1.heap.size := by have h1 := HSZ.out; have h2 := HK1.out.size; omega
  have HR7 := Lib.hid hr7; have HK7 := Lib.hid ((HK0.out.trans HK1.out).trans hk7); have HQ7 := Lib.hid hq7; have HPQ := Lib.hid hpq
  have HRD := Lib.hid (HENC.out.1.rd.keeps hk7)
  clear hr7 hk7 hq7 hpq
  generalize W1.alloc (.cells #[.slice a l.length cap, .int .i64 k1, .int .i64 e1] 81) = W7 at *
  generalize W1.heap.size = q at *
  refine wp_region_head (S := fun W => Hid ((fun W => Row W q 0 [.slice a l.length cap, .int .i64 k1, .int .i64 e1]) W)) 4 (by kernel_rfl) (by kernel_rfl) ?_ (fun hHeld => ?_)
  focus exact Lib.hid HR7.out.drew
  refine wpAnyHL_take (i := 0) (oi := ?_) (v := ?_) ?_ ?_ ?_ ?_ ?_ ?_ ?_ ?_ ?_ (Or.inl ⟨?_, ?_⟩) ?_ ?_
  rotate_left 2
  focus (simp only [List.getElem?_toArray, List.getElem?_cons_succ, List.getElem?_cons_zero]; exact rfl)
  iterate 7 focus kernel_rfl
  focus (exact fun _ _ _ h => h)
  focus rfl
  focus ((intro wSw hSw; (have hSw := hSw.out); (try dsimp only at hSw); go_simp) <;> with_reducible rfl)
  focus assumption
  try simp only [Act.put, List.setIfInBounds_toArray, List.set_cons_zero, List.set_cons_succ]
  refine wpAnyHL_take (i := 2) (oi := ?_) (v := ?_) ?_ ?_ ?_ ?_ ?_ ?_ ?_ ?_ ?_ (Or.inl ⟨?_, ?_⟩) ?_ ?_
  rotate_left 2
  focus (simp only [List.getElem?_toArray, List.getElem?_cons_succ, List.getElem?_cons_zero]; exact rfl)
  iterate 7 focus kernel_rfl
  focus (exact fun _ _ _ h => h)
  focus rfl
  focus (intro wSw hSw; (have hSw := hSw.out); (refine run_load_row 81 (.tmp 7) ?_ q 0 ?_ _ _ hSw Tryz.underlying81 rfl (sz_inv _ _ _)) <;> rfl)
  focus assumption
  try simp only [Act.put, List.setIfInBounds_toArray, List.set_cons_zero, List.set_cons_succ]
  refine wpAnyHL_one (i := 1) (o := ?_) (by kernel_rfl) (by kernel_rfl) ?_ ?_
  rotate_left 1
  focus (simp only [List.getElem?_toArray, List.getElem?_cons_succ, List.getElem?_cons_zero]; exact rfl)
  go_wp2_with (go_at_call 71; refine (value_any _ xs W7.drew (HRD.out.keeps (keeps_drew (Keeps.refl _))) HENC.out.2.2 (Nat.le_trans HENC.out.2.1 hn)).mono ?_; rintro r W8 ⟨rfl, rfl⟩)
  try dsimp only [StepQ]
  refine ⟨?_, fun hHeld => ?_⟩
  focus (exact Lib.hid (hHeld.out))
  try simp only [Act.put, List.setIfInBounds_toArray, List.set_cons_zero, List.set_cons_succ]
  refine wpAnyHL_take (i := 3) (oi := ?_) (v := ?_) ?_ ?_ ?_ ?_ ?_ ?_ ?_ ?_ ?_ (Or.inl ⟨?_, ?_⟩) ?_ ?_
  rotate_left 2
  focus (simp only [List.getElem?_toArray, List.getElem?_cons_succ, List.getElem?_cons_zero]; exact rfl)
  iterate 7 focus kernel_rfl
  focus (exact fun _ _ _ h => h)
  focus rfl
  focus ((intro wSw hSw; (have hSw := hSw.out); (try dsimp only at hSw); go_simp) <;> with_reducible rfl)
  focus assumption
  try simp only [Act.put, List.setIfInBounds_toArray, List.set_cons_zero, List.set_cons_succ]
  refine wpAnyHL_done (by kernel_rfl) ?_
  try simp only [List.drop_succ_cons, List.drop_zero]
  go_wp2_with (refine wpList_store_row rfl 81 (.tmp 5) (.tmp 16) rfl (p + 1) 0 rfl _ [.slice a l.length cap, .int .i64 k1, .int .i64 e1] rfl HQ7.out.drew rfl (sz_inv _ _ _) (three_one _ _ _ _ _) ?_; intro W3 hr3 hc3; have HR3 := Lib.hid hr3; have HC3 := Lib.hid hc3; clear hr3 hc3)
  refine bodyPost_ret (results_tmp_cell (t := 4) (p := 5) rfl _ _ (p + 1) 0 _ _ _ rfl rfl HR3.out Tryz.underlying81 rfl (sz_inv _ _ _)) rfl ?_
  have hkk : Keeps w W3 := keeps_chg (keeps_drew HK7.out) HC3.out (by have := HP.out; omega)
  exact ⟨hkk, leV xs, _, k1, e1, rfl, HKL.out, num_of_take HRR.out, rfl, (leV_small8 HENC.out.2.2 (Nat.le_trans HENC.out.2.1 hn)).1, (leV_small8 HENC.out.2.2 (Nat.le_trans HENC.out.2.1 hn)).2⟩
end Go.Proofs.YtcodpdpeklammaaGreatDoor
