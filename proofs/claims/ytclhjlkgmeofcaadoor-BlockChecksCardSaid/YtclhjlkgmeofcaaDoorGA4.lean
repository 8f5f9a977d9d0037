/- wire.Writer: one byte, eight bytes, a compact size, a text. -/
import Derived.Test.YtclhjlkgmeofcaaDoorGA3
import Derived.Maps.Own
namespace Go.Proofs.YtclhjlkgmeofcaaDoor
set_option linter.unusedVariables false
set_option linter.unusedSimpArgs false
open Go Go.RowKit

def sizeB (n : Int) : List Int := if n < 253 then [n] else if n < 65536 then 253 :: leB n 2 else if n < 4294967296 then 254 :: leB n 4 else 255 :: leB n 8
def textB (l : List Int) : List Int := sizeB (l.length : Int) ++ l
theorem sizeB_len (n : Int) : (sizeB n).length ≤ 9 := by
  unfold sizeB; split
  · simp
  · split
    · simp [leB_length]
    · split <;> simp [leB_length]
theorem leB_one (x : Int) (h0 : 0 ≤ x) (h1 : x < 256) : leB x 1 = [x] := by
  simp only [leB, List.nil_append, Int.pow_zero, Int.ediv_one]
  rw [Int.emod_eq_of_lt h0 h1]
set_option maxHeartbeats 1000000 in
theorem wu8_any (w0 : World) (g : Nat) (v : Value) (n : Nat) (l : List Int) (x : Int) (h0 : 0 ≤ x) (h1 : x < 256) (hn : n ≤ 70368744177664) (w : World) (h : WrAt w0 w g v n l) :
    Calls Tryd.prog 123 #[.pointer (some ⟨g, 0, none⟩), .int .u8 x] w fun e w' => e = .returned (.tuple #[]) ∧ ∃ v', WrAt w0 w' g v' (n + 1) (l ++ [x]) ∧ WGrown g v w w' v' := by
  have HN := Lib.hid (wnumber_any w0 g v n l x h0 (by omega) 1 (by omega) hn w h)
  have HL := Lib.hid (leB_one x h0 h1)
  clear h
  go_enter Tryd.func123, Tryd.ntmps123
  go_wp2_with (go_at_call 111; refine HN.out.mono ?_; rintro e W5 ⟨rfl, v5, hv5, hg5⟩; have HV := Lib.hid hv5; have HG := Lib.hid hg5; clear hv5 hg5)
  go_end0
  exact ⟨rfl, v5, by rw [← HL.out]; exact HV.out, HG.out⟩
set_option maxHeartbeats 1000000 in
theorem wu64_any (w0 : World) (g : Nat) (v : Value) (n : Nat) (l : List Int) (x : Int) (h0 : 0 ≤ x) (h1 : x < 18446744073709551616) (hn : n ≤ 70368744177664) (w : World) (h : WrAt w0 w g v n l) :
    Calls Tryd.prog 120 #[.pointer (some ⟨g, 0, none⟩), .int .u64 x] w fun e w' => e = .returned (.tuple #[]) ∧ ∃ v', WrAt w0 w' g v' (n + 8) (l ++ leB x 8) ∧ WGrown g v w w' v' := by
  have HN := Lib.hid (wnumber_any w0 g v n l x h0 h1 8 (by omega) hn w h)
  clear h
  go_enter Tryd.func120, Tryd.ntmps120
  go_wp2_with (go_at_call 111; refine HN.out.mono ?_; rintro e W5 ⟨rfl, v5, hv5, hg5⟩; have HV := Lib.hid hv5; have HG := Lib.hid hg5; clear hv5 hg5)
  go_end0
  exact ⟨rfl, v5, HV.out, HG.out⟩
def wideZ (x : Int) : Int := if x < 253 then 0 else if x < 65536 then 2 else if x < 4294967296 then 4 else 8
theorem wide_any (x : Int) (h0 : 0 ≤ x) (h1 : x < 18446744073709551616) (w : World) : Calls Tryd.prog 122 #[.int .u64 x] w fun e w' => e = .returned (.int .i64 (wideZ x)) ∧ w = w' := by
  unfold wideZ
  by_cases h2 : x < 253
  · rw [if_pos h2]
    go_enter Tryd.func122, Tryd.ntmps122
    go_wp2
    go_ret
    exact ⟨rfl, rfl⟩
  · rw [if_neg h2]
    by_cases h3 : x < 65536
    · rw [if_pos h3]
      go_enter Tryd.func122, Tryd.ntmps122
      go_wp2
      go_ret
      exact ⟨rfl, rfl⟩
    · rw [if_neg h3]
      by_cases h4 : x < 4294967296
      · rw [if_pos h4]
        go_enter Tryd.func122, Tryd.ntmps122
        go_wp2
        go_ret
        exact ⟨rfl, rfl⟩
      · rw [if_neg h4]
        go_enter Tryd.func122, Tryd.ntmps122
        go_wp2
        go_ret
        exact ⟨rfl, rfl⟩
set_option maxHeartbeats 1000000 in
theorem wsize_small (w0 : World) (g : Nat) (v : Value) (n : Nat) (l : List Int) (x : Int) (h0 : 0 ≤ x) (h1 : x < 253) (hn : n ≤ 70368744177664) (w : World) (h : WrAt w0 w g v n l) :
    Calls Tryd.prog 87 #[.pointer (some ⟨g, 0, none⟩), .int .u64 x] w fun e w' => e = .returned (.tuple #[]) ∧ ∃ v', WrAt w0 w' g v' (n + 1) (l ++ [x]) ∧ WGrown g v w w' v' := by
  have HN := Lib.hid (wu8_any w0 g v n l x h0 (by omega) hn)
  have HW := Lib.hid (wide_any x h0 (by omega))
  have e0 : wideZ x = 0 := by unfold wideZ; rw [if_pos h1]
  rw [e0] at HW
  have HH := Lib.hid h
  clear h
  go_enter Tryd.func87, Tryd.ntmps87
  go_wp2_with (first | (go_at_call 122; refine (HW.out _).mono ?_; rintro e W4 ⟨rfl, rfl⟩) | (go_at_call 123; refine (HN.out _ HH.out).mono ?_; rintro e W5 ⟨rfl, v5, hv5, hg5⟩; have HV := Lib.hid hv5; have HG := Lib.hid hg5; clear hv5 hg5))
  go_end0
  exact ⟨rfl, v5, HV.out, HG.out⟩
/-- since w a map has been made in block b, of at most n entries; it reads as D -/
structure OMap (k e : TypeId) (w W : World) (b n : Nat) (D : DataW Unit) : Prop where
  keeps : Keeps w W
  own : W.ownsMap Tryd.prog k (plainElem Tryd.prog e) b n D
  new : w.heap.size ≤ b
theorem OMap.made {k e : TypeId} {w W : World} (h : Keeps w W) : OMap k e w (W.alloc (.map #[] 0)) W.heap.size 0 (.map []) := ⟨Below.alloc h h.size _, World.ownsMap_made W _ _ _, h.size⟩
theorem OMap.step {k e : TypeId} {w W W' : World} {b n : Nat} {D : DataW Unit} (h : OMap k e w W b n D) (hk : Keeps W W') : OMap k e w W' b n D :=
  ⟨h.keeps.trans hk, h.own.kept (row := none) ⟨hk.os, hk.tape, hk.output, hk.size, fun i hi _ => hk.block i hi⟩ (by simp), h.new⟩
theorem wpList_makeMap_own {k e : TypeId} {w w0 : World} {ops : Array Oper} {rest : List Oper} {o : Oper} {a : Act} {Q : Exit → Act → World → Prop} (hg : o.guard = none) (t : TypeId) (hop : o.op = Op.makeMap t none) (h0 : Keeps w0 w)
    (hK : ∀ w', OMap k e w0 w' w.heap.size 0 (.map []) → wpList Tryd.prog ops Q rest (a.put o.dst (.map (some w.heap.size))) w') : wpList Tryd.prog ops Q (o :: rest) a w := by
  refine wpList_plain hg fun K' hK' => ?_
  unfold Oper.wp
  simp only [execOp, hop, Option.map, Sem.run_bind, run_makeMap, Result.andThen_ok, Sem.run_pure]
  exact hK' _ _ (hK _ (OMap.made h0))
theorem wpList_insert_own {k e : TypeId} {w w0 : World} {ops : Array Oper} {rest : List Oper} {o : Oper} {a : Act} {Q : Exit → Act → World → Prop} (hg : o.guard = none) (m x v : Operand) (t : TypeId) (hop : o.op = Op.insert t m x v ∨ o.op = Op.mapUpdate t m x v)
    (K : Maps.Keyed Tryd.prog k) (ht : Tryd.prog.underlying t = some (.map k e)) {b n : Nat} {D : DataW Unit} (hown : OMap k e w0 w b n D) (hm : a.eval m = .map (some b)) (hn : n < maxLen) (key val : Value) (kl : Lit) (hx : a.eval x = key) (hv : a.eval v = val) (hkey : keyOf Tryd.prog k key = some kl)
    (d : DataW Unit) (ps : List MemPlace) (hval : plainElem Tryd.prog e val = some (d, ps))
    (hK : ∀ w', OMap k e w0 w' b (n + 1) (D.put kl d) → w.grownBy w' (some b) → wpList Tryd.prog ops Q rest (a.put o.dst undef) w') : wpList Tryd.prog ops Q (o :: rest) a w := by
  refine wpList_plain hg fun K' hK' => ?_
  obtain ⟨w', hrun, r1, r2⟩ := hown.own.update K ht hn hkey hval
  unfold Oper.wp
  rcases hop with hop | hop <;> (
    simp [execOp, hop, hm, hx, hv, hrun, Result.andThen]
    exact hK' _ _ (hK w' ⟨Below.grown hown.keeps r2 hown.keeps.size (fun k hk => by cases hk; exact hown.new), r1, hown.new⟩ r2))
theorem wpList_find_own {k e : TypeId} {q : IntKind} {w w0 : World} {ops : Array Oper} {rest : List Oper} {o : Oper} {a : Act} {Q : Exit → Act → World → Prop} (hg : o.guard = none) (m x : Operand) (t : TypeId) (hop : o.op = Op.lookup t m x false)
    (K : Maps.Keyed Tryd.prog k) (ht : Tryd.prog.underlying t = some (.map k e)) (he : Tryd.prog.underlying e = some (.int q)) {b n : Nat} {D : DataW Unit} (hown : OMap k e w0 w b n D) (hz : (zeroValue e).run Tryd.prog w = .ok (.int q 0) w) (hm : a.eval m = .map (some b)) (key : Value) (kl : Lit) (hx : a.eval x = key) (hkey : keyOf Tryd.prog k key = some kl)
    (c : Int) (hc : D.atKey kl (.lit (.int q 0)) = .lit (.int q c)) (hK : wpList Tryd.prog ops Q rest (a.put o.dst (.int q c)) w) : wpList Tryd.prog ops Q (o :: rest) a w := by
  refine wpList_plain hg fun K' hK' => ?_
  obtain ⟨c', hrun, hat, hwc⟩ := hown.own.lookup_int K ht he hz hkey
  rw [hc] at hat
  cases hat
  unfold Oper.wp
  simp [execOp, hop, hm, hx, hrun, Result.andThen]
  exact hK' _ _ hK
theorem zero_u8 (w : World) : (zeroValue 5).run Tryd.prog w = .ok (.int .u8 0) w := by
  obtain ⟨i0, hi, hz0, hz1, hz2⟩ := info_parts u8_info
  simp [zeroValue, typeInfo, hi, hz0]
theorem marks : (((DataW.map ([] : List (Lit × DataW Unit))).put (.int .i64 2) (.lit (.int .u8 253))).put (.int .i64 4) (.lit (.int .u8 254))).put (.int .i64 8) (.lit (.int .u8 255)) = .map [(.int .i64 2, .lit (.int .u8 253)), (.int .i64 4, .lit (.int .u8 254)), (.int .i64 8, .lit (.int .u8 255))] := by
  simp [DataW.put, DataW.insert, Lit.before, Lit.sameKey]
set_option maxHeartbeats 1000000 in
set_option maxRecDepth 100000 in
theorem wsize_big (w0 : World) (g : Nat) (v : Value) (n : Nat) (l : List Int) (x : Int) (h0 : 0 ≤ x) (h1 : x < 18446744073709551616) (k : Nat) (m : Int) (hk : (k = 2 ∧ m = 253) ∨ (k = 4 ∧ m = 254) ∨ (k = 8 ∧ m = 255)) (e0 : wideZ x = (k : Int)) (hn : n ≤ 70368744177663) (w : World) (h : WrAt w0 w g v n l) :
    Calls Tryd.prog 87 #[.pointer (some ⟨g, 0, none⟩), .int .u64 x] w fun e w' => e = .returned (.tuple #[]) ∧ ∃ v', WrAt w0 w' g v' (n + 1 + k) (l ++ [m] ++ leB x k) ∧ WGrown g v w w' v' := by
  have HN := Lib.hid (wu8_any w0 g v n l m (by omega) (by omega) (by omega))
  have HM := Lib.hid (fun v' => wnumber_any w0 g v' (n + 1) (l ++ [m]) x h0 h1 k (by omega) (by omega))
  have HW := Lib.hid (wide_any x h0 h1)
  rw [e0] at HW
  have HH := Lib.hid h
  have KK := Lib.hid (Maps.int_keyed (P := Tryd.prog) Tryd.underlying3)
  clear h
  generalize leB x k = L at *
  rcases hk with ⟨rfl, rfl⟩ | ⟨rfl, rfl⟩ | ⟨rfl, rfl⟩ <;> (
    go_enter Tryd.func87, Tryd.ntmps87
    go_wp2_with (first | (go_at_call 122; refine (HW.out _).mono ?_; rintro e W4 ⟨rfl, rfl⟩) | (refine wpList_makeMap_own (k := 3) (e := 5) rfl 185 rfl (Keeps.refl w) ?_; intro w1 hm1) | (refine wpList_insert_own rfl _ _ _ 185 (.inl rfl) KK.out Tryd.underlying185 (by assumption) rfl (by unfold maxLen; omega) _ _ _ rfl rfl (Maps.keyOf_int_mk Tryd.underlying3 (by decide)) _ _ (plainElem_int Tryd.underlying5 (by decide)) ?_; clear hm1; intro w1 hm1 _) | (refine wpList_find_own rfl _ _ 185 rfl KK.out Tryd.underlying185 Tryd.underlying5 (by assumption) (zero_u8 _) rfl _ _ rfl (Maps.keyOf_int_mk Tryd.underlying3 (by decide)) _ (by rw [marks]; rfl) ?_) | (go_at_call 123; refine (HN.out _ (HH.out.keeps hm1.keeps)).mono ?_; rintro e W5 ⟨rfl, v5, hv5, hg5⟩; have HV := Lib.hid hv5; have HG := Lib.hid (hg5.keeps hm1.keeps); clear hv5 hg5) | (go_at_call 111; refine (HM.out _ _ HV.out).mono ?_; rintro e W6 ⟨rfl, v6, hv6, hg6⟩; have HV6 := Lib.hid hv6; have HG6 := Lib.hid hg6; clear hv6 hg6))
    go_end0
    exact ⟨rfl, v6, HV6.out, HG.out.trans HG6.out⟩)
theorem wsize_any (w0 : World) (g : Nat) (v : Value) (n : Nat) (l : List Int) (x : Int) (h0 : 0 ≤ x) (h1 : x < 18446744073709551616) (hn : n ≤ 70368744177663) (w : World) (h : WrAt w0 w g v n l) :
    Calls Tryd.prog 87 #[.pointer (some ⟨g, 0, none⟩), .int .u64 x] w fun e w' => e = .returned (.tuple #[]) ∧ ∃ v', WrAt w0 w' g v' (n + (sizeB x).length) (l ++ sizeB x) ∧ WGrown g v w w' v' := by
  unfold sizeB
  by_cases h2 : x < 253
  · rw [if_pos h2]
    exact wsize_small w0 g v n l x h0 h2 (by omega) w h
  · rw [if_neg h2]
    have big : ∀ (k : Nat) (m : Int), ((k = 2 ∧ m = 253) ∨ (k = 4 ∧ m = 254) ∨ (k = 8 ∧ m = 255)) → wideZ x = (k : Int) → Calls Tryd.prog 87 #[.pointer (some ⟨g, 0, none⟩), .int .u64 x] w fun e w' => e = .returned (.tuple #[]) ∧ ∃ v', WrAt w0 w' g v' (n + (m :: leB x k).length) (l ++ m :: leB x k) ∧ WGrown g v w w' v' := fun k m hk e0 => by
      have := wsize_big w0 g v n l x h0 h1 k m hk e0 hn w h
      rw [List.length_cons, leB_length, Nat.add_comm k 1, ← Nat.add_assoc]
      rwa [List.append_assoc, List.singleton_append] at this
    by_cases h3 : x < 65536
    · rw [if_pos h3]
      exact big 2 253 (by simp) (by unfold wideZ; rw [if_neg h2, if_pos h3]; rfl)
    · rw [if_neg h3]
      by_cases h4 : x < 4294967296
      · rw [if_pos h4]
        exact big 4 254 (by simp) (by unfold wideZ; rw [if_neg h2, if_neg h3, if_pos h4]; rfl)
      · rw [if_neg h4]
        exact big 8 255 (by simp) (by unfold wideZ; rw [if_neg h2, if_neg h3, if_neg h4]; rfl)
set_option maxHeartbeats 1000000 in
theorem wbytes_any (w0 : World) (g : Nat) (v : Value) (n : Nat) (l : List Int) (xv : Value) (xs : List Int) (hn : n + xs.length ≤ 70368744177000) (w : World) (h : WrAt w0 w g v n l) (hr : Rd w 1 xv xs.length (xs.map (Value.int .u8))) (hap : ∀ b, xv.ownBlock = some b → b ≠ g ∧ v.ownBlock ≠ some b ∧ b < w.heap.size) :
    Calls Tryd.prog 88 #[.pointer (some ⟨g, 0, none⟩), xv] w fun e w' => e = .returned (.tuple #[]) ∧ ∃ v', WrAt w0 w' g v' (n + (textB xs).length) (l ++ textB xs) ∧ WGrown g v w w' v' := by
  have hS := wsize_any w0 g v n l (xs.length : Int) (by omega) (by omega) (by omega) w h
  have hsl := sizeB_len (xs.length : Int)
  have hR : ∀ (v1 : Value) (w1 : World), WrAt w0 w1 g v1 (n + (sizeB (xs.length : Int)).length) (l ++ sizeB (xs.length : Int)) → WGrown g v w w1 v1 → Calls Tryd.prog 65 #[.pointer (some ⟨g, 0, none⟩), xv] w1 fun e w' => e = .returned (.tuple #[]) ∧ ∃ v', WrAt w0 w' g v' (n + (textB xs).length) (l ++ textB xs) ∧ WGrown g v1 w1 w' v' := fun v1 w1 h1 g1 => by
    have := wraw_any w0 g v1 _ _ xv xs.length xs (by omega) w1 h1 (hr.chg g1.1 (fun b e => by
      obtain ⟨a1, a2, a3⟩ := hap b e
      rintro (e2 | e2)
      · exact a1 e2
      · exact a2 e2))
    unfold textB
    rwa [List.length_append, ← Nat.add_assoc, ← List.append_assoc]
  obtain ⟨xa, xc, rfl⟩ : ∃ a c, xv = .slice a xs.length c := by obtain ⟨_, a, c, e, _⟩ := hr; exact ⟨a, c, e⟩
  have HS := Lib.hid hS; have HR := Lib.hid hR
  clear hS hR hr hap h
  generalize textB xs = TB at *
  generalize sizeB (xs.length : Int) = SB at *
  generalize xs.length = m at *
  go_enter Tryd.func88, Tryd.ntmps88
  go_wp2_with (first | (go_at_call 87; refine HS.out.mono ?_; rintro e W4 ⟨rfl, v4, hv4, hg4⟩; have HV4 := Lib.hid hv4; have HG4 := Lib.hid hg4; clear hv4 hg4) | (go_at_call 65; refine (HR.out _ _ HV4.out HG4.out).mono ?_; rintro e W5 ⟨rfl, v5, hv5, hg5⟩; have HV := Lib.hid hv5; have HG := Lib.hid hg5; clear hv5 hg5))
  go_end0
  exact ⟨rfl, v5, HV.out, HG4.out.trans HG.out⟩
end Go.Proofs.YtclhjlkgmeofcaaDoor
