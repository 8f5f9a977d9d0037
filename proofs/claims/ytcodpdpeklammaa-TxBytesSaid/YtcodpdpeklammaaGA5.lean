/- wire.Writer: one byte, eight bytes, a compact size, a text. | A transaction's bytes, in plain Lean. No condition. | Reading, in plain Lean: numbers, sizes, texts, transactions; what was written is read back. No condition. -/
import Derived.Test.YtcodpdpeklammaaGA4
import Derived.Test.YtcodpdpeklammaaGA2
import Derived.Maps.Own
namespace Go.Proofs.Ytcodpdpeklammaa
set_option linter.unusedVariables false
set_option linter.unusedSimpArgs false
open Go Go.RowKit

def sizeB (n : Int) : List Int := if n < 253 then [n] else if n < 65536 then 253 :: leB n 2 else if n < 4294967296 then 254 :: leB n 4 else 255 :: leB n 8
def textB (l : List Int) : List Int := sizeB (l.length : Int) ++ l
theorem sizeB_len (n : Int) : (sizeB n).length ≤ 9 := by
  unfold sizeB; split
  · simp
  · split
    · simp [leB_length]
    · split <;> simp [leB_length]
theorem leB_one (x : Int) (h0 : 0 ≤ x) (h1 : x < 256) : leB x 1 = [x] := by
  simp only [leB, List.nil_append, Int.pow_zero, Int.ediv_one]
  rw [Int.emod_eq_of_lt h0 h1]
set_option maxHeartbeats 1000000 in
theorem wu8_any (w0 : World) (g : Nat) (v : Value) (n : Nat) (l : List Int) (x : Int) (h0 : 0 ≤ x) (h1 : x < 256) (hn : n ≤ 70368744177664) (w : World) (h : WrAt w0 w g v n l) :
    Calls Try.prog 51 #[.pointer (some ⟨g, 0, none⟩), .int .u8 x] w fun e w' => e = .returned (.tuple #[]) ∧ ∃ v', WrAt w0 w' g v' (n + 1) (l ++ [x]) ∧ WGrown g v w w' v' := by
  have HN := Lib.hid (wnumber_any w0 g v n l x h0 (by omega) 1 (by omega) hn w h)
  have HL := Lib.hid (leB_one x h0 h1)
  clear h
  go_enter Try.func51, Try.ntmps51
  go_wp2_with (go_at_call 49; refine HN.out.mono ?_; rintro e W5 ⟨rfl, v5, hv5, hg5⟩; have HV := Lib.hid hv5; have HG := Lib.hid hg5; clear hv5 hg5)
  go_end0
  exact ⟨rfl, v5, by rw [← HL.out]; exact HV.out, HG.out⟩
set_option maxHeartbeats 1000000 in
theorem wu64_any (w0 : World) (g : Nat) (v : Value) (n : Nat) (l : List Int) (x : Int) (h0 : 0 ≤ x) (h1 : x < 18446744073709551616) (hn : n ≤ 70368744177664) (w : World) (h : WrAt w0 w g v n l) :
    Calls Try.prog 23 #[.pointer (some ⟨g, 0, none⟩), .int .u64 x] w fun e w' => e = .returned (.tuple #[]) ∧ ∃ v', WrAt w0 w' g v' (n + 8) (l ++ leB x 8) ∧ WGrown g v w w' v' := by
  have HN := Lib.hid (wnumber_any w0 g v n l x h0 h1 8 (by omega) hn w h)
  clear h
  go_enter Try.func23, Try.ntmps23
  go_wp2_with (go_at_call 49; refine HN.out.mono ?_; rintro e W5 ⟨rfl, v5, hv5, hg5⟩; have HV := Lib.hid hv5; have HG := Lib.hid hg5; clear hv5 hg5)
  go_end0
  exact ⟨rfl, v5, HV.out, HG.out⟩
def wideZ (x : Int) : Int := if x < 253 then 0 else if x < 65536 then 2 else if x < 4294967296 then 4 else 8
theorem wide_any (x : Int) (h0 : 0 ≤ x) (h1 : x < 18446744073709551616) (w : World) : Calls Try.prog 50 #[.int .u64 x] w fun e w' => e = .returned (.int .i64 (wideZ x)) ∧ w = w' := by
  unfold wideZ
  by_cases h2 : x < 253
  · rw [if_pos h2]
    go_enter Try.func50, Try.ntmps50
    go_wp2
    go_ret
    exact ⟨rfl, rfl⟩
  · rw [if_neg h2]
    by_cases h3 : x < 65536
    · rw [if_pos h3]
      go_enter Try.func50, Try.ntmps50
      go_wp2
      go_ret
      exact ⟨rfl, rfl⟩
    · rw [if_neg h3]
      by_cases h4 : x < 4294967296
      · rw [if_pos h4]
        go_enter Try.func50, Try.ntmps50
        go_wp2
        go_ret
        exact ⟨rfl, rfl⟩
      · rw [if_neg h4]
        go_enter Try.func50, Try.ntmps50
        go_wp2
        go_ret
        exact ⟨rfl, rfl⟩
set_option maxHeartbeats 1000000 in
theorem wsize_small (w0 : World) (g : Nat) (v : Value) (n : Nat) (l : List Int) (x : Int) (h0 : 0 ≤ x) (h1 : x < 253) (hn : n ≤ 70368744177664) (w : World) (h : WrAt w0 w g v n l) :
    Calls Try.prog 21 #[.pointer (some ⟨g, 0, none⟩), .int .u64 x] w fun e w' => e = .returned (.tuple #[]) ∧ ∃ v', WrAt w0 w' g v' (n + 1) (l ++ [x]) ∧ WGrown g v w w' v' := by
  have HN := Lib.hid (wu8_any w0 g v n l x h0 (by omega) hn)
  have HW := Lib.hid (wide_any x h0 (by omega))
  have e0 : wideZ x = 0 := by unfold wideZ; rw [if_pos h1]
  rw [e0] at HW
  have HH := Lib.hid h
  clear h
  go_enter Try.func21, Try.ntmps21
  go_wp2_with (first | (go_at_call 50; refine (HW.out _).mono ?_; rintro e W4 ⟨rfl, rfl⟩) | (go_at_call 51; refine (HN.out _ HH.out).mono ?_; rintro e W5 ⟨rfl, v5, hv5, hg5⟩; have HV := Lib.hid hv5; have HG := Lib.hid hg5; clear hv5 hg5))
  go_end0
  exact ⟨rfl, v5, HV.out, HG.out⟩
/-- since w a map has been made in block b, of at most n entries; it reads as D -/
structure OMap (k e : TypeId) (w W : World) (b n : Nat) (D : DataW Unit) : Prop where
  keeps : Keeps w W
  own : W.ownsMap Try.prog k (plainElem Try.prog e) b n D
  new : w.heap.size ≤ b
theorem OMap.made {k e : TypeId} {w W : World} (h : Keeps w W) : OMap k e w (W.alloc (.map #[] 0)) W.heap.size 0 (.map []) := ⟨Below.alloc h h.size _, World.ownsMap_made W _ _ _, h.size⟩
theorem OMap.step {k e : TypeId} {w W W' : World} {b n : Nat} {D : DataW Unit} (h : OMap k e w W b n D) (hk : Keeps W W') : OMap k e w W' b n D :=
  ⟨h.keeps.trans hk, h.own.kept (row := none) ⟨hk.os, hk.tape, hk.output, hk.size, fun i hi _ => hk.block i hi⟩ (by simp), h.new⟩
theorem wpList_makeMap_own {k e : TypeId} {w w0 : World} {ops : Array Oper} {rest : List Oper} {o : Oper} {a : Act} {Q : Exit → Act → World → Prop} (hg : o.guard = none) (t : TypeId) (hop : o.op = Op.makeMap t none) (h0 : Keeps w0 w)
    (hK : ∀ w', OMap k e w0 w' w.heap.size 0 (.map []) → wpList Try.prog ops Q rest (a.put o.dst (.map (some w.heap.size))) w') : wpList Try.prog ops Q (o :: rest) a w := by
  refine wpList_plain hg fun K' hK' => ?_
  unfold Oper.wp
  simp only [execOp, hop, Option.map, Sem.run_bind, run_makeMap, Result.andThen_ok, Sem.run_pure]
  exact hK' _ _ (hK _ (OMap.made h0))
theorem wpList_insert_own {k e : TypeId} {w w0 : World} {ops : Array Oper} {rest : List Oper} {o : Oper} {a : Act} {Q : Exit → Act → World → Prop} (hg : o.guard = none) (m x v : Operand) (t : TypeId) (hop : o.op = Op.insert t m x v ∨ o.op = Op.mapUpdate t m x v)
    (K : Maps.Keyed Try.prog k) (ht : Try.prog.underlying t = some (.map k e)) {b n : Nat} {D : DataW Unit} (hown : OMap k e w0 w b n D) (hm : a.eval m = .map (some b)) (hn : n < maxLen) (key val : Value) (kl : Lit) (hx : a.eval x = key) (hv : a.eval v = val) (hkey : keyOf Try.prog k key = some kl)
    (d : DataW Unit) (ps : List MemPlace) (hval : plainElem Try.prog e val = some (d, ps))
    (hK : ∀ w', OMap k e w0 w' b (n + 1) (D.put kl d) → w.grownBy w' (some b) → wpList Try.prog ops Q rest (a.put o.dst undef) w') : wpList Try.prog ops Q (o :: rest) a w := by
  refine wpList_plain hg fun K' hK' => ?_
  obtain ⟨w', hrun, r1, r2⟩ := hown.own.update K ht hn hkey hval
  unfold Oper.wp
  rcases hop with hop | hop <;> (
    simp [execOp, hop, hm, hx, hv, hrun, Result.andThen]
    exact hK' _ _ (hK w' ⟨Below.grown hown.keeps r2 hown.keeps.size (fun k hk => by cases hk; exact hown.new), r1, hown.new⟩ r2))
theorem wpList_find_own {k e : TypeId} {q : IntKind} {w w0 : World} {ops : Array Oper} {rest : List Oper} {o : Oper} {a : Act} {Q : Exit → Act → World → Prop} (hg : o.guard = none) (m x : Operand) (t : TypeId) (hop : o.op = Op.lookup t m x false)
    (K : Maps.Keyed Try.prog k) (ht : Try.prog.underlying t = some (.map k e)) (he : Try.prog.underlying e = some (.int q)) {b n : Nat} {D : DataW Unit} (hown : OMap k e w0 w b n D) (hz : (zeroValue e).run Try.prog w = .ok (.int q 0) w) (hm : a.eval m = .map (some b)) (key : Value) (kl : Lit) (hx : a.eval x = key) (hkey : keyOf Try.prog k key = some kl)
    (c : Int) (hc : D.atKey kl (.lit (.int q 0)) = .lit (.int q c)) (hK : wpList Try.prog ops Q rest (a.put o.dst (.int q c)) w) : wpList Try.prog ops Q (o :: rest) a w := by
  refine wpList_plain hg fun K' hK' => ?_
  obtain ⟨c', hrun, hat, hwc⟩ := hown.own.lookup_int K ht he hz hkey
  rw [hc] at hat
  cases hat
  unfold Oper.wp
  simp [execOp, hop, hm, hx, hrun, Result.andThen]
  exact hK' _ _ hK
theorem zero_u8 (w : World) : (zeroValue 5).run Try.prog w = .ok (.int .u8 0) w := by
  obtain ⟨i0, hi, hz0, hz1, hz2⟩ := info_parts u8_info
  simp [zeroValue, typeInfo, hi, hz0]
theorem marks : (((DataW.map ([] : List (Lit × DataW Unit))).put (.int .i64 2) (.lit (.int .u8 253))).put (.int .i64 4) (.lit (.int .u8 254))).put (.int .i64 8) (.lit (.int .u8 255)) = .map [(.int .i64 2, .lit (.int .u8 253)), (.int .i64 4, .lit (.int .u8 254)), (.int .i64 8, .lit (.int .u8 255))] := by
  simp [DataW.put, DataW.insert, Lit.before, Lit.sameKey]
set_option maxHeartbeats 1000000 in
set_option maxRecDepth 100000 in
theorem wsize_big (w0 : World) (g : Nat) (v : Value) (n : Nat) (l : List Int) (x : Int) (h0 : 0 ≤ x) (h1 : x < 18446744073709551616) (k : Nat) (m : Int) (hk : (k = 2 ∧ m = 253) ∨ (k = 4 ∧ m = 254) ∨ (k = 8 ∧ m = 255)) (e0 : wideZ x = (k : Int)) (hn : n ≤ 70368744177663) (w : World) (h : WrAt w0 w g v n l) :
    Calls Try.prog 21 #[.pointer (some ⟨g, 0, none⟩), .int .u64 x] w fun e w' => e = .returned (.tuple #[]) ∧ ∃ v', WrAt w0 w' g v' (n + 1 + k) (l ++ [m] ++ leB x k) ∧ WGrown g v w w' v' := by
  have HN := Lib.hid (wu8_any w0 g v n l m (by omega) (by omega) (by omega))
  have HM := Lib.hid (fun v' => wnumber_any w0 g v' (n + 1) (l ++ [m]) x h0 h1 k (by omega) (by omega))
  have HW := Lib.hid (wide_any x h0 h1)
  rw [e0] at HW
  have HH := Lib.hid h
  have KK := Lib.hid (Maps.int_keyed (P := Try.prog) Try.underlying3)
  clear h
  generalize leB x k = L at *
  rcases hk with ⟨rfl, rfl⟩ | ⟨rfl, rfl⟩ | ⟨rfl, rfl⟩ <;> (
    go_enter Try.func21, Try.ntmps21
    go_wp2_with (first | (go_at_call 50; refine (HW.out _).mono ?_; rintro e W4 ⟨rfl, rfl⟩) | (refine wpList_makeMap_own (k := 3) (e := 5) rfl 93 rfl (Keeps.refl w) ?_; intro w1 hm1) | (refine wpList_insert_own rfl _ _ _ 93 (.inl rfl) KK.out Try.underlying93 (by assumption) rfl (by unfold maxLen; omega) _ _ _ rfl rfl (Maps.keyOf_int_mk Try.underlying3 (by decide)) _ _ (plainElem_int Try.underlying5 (by decide)) ?_; clear hm1; intro w1 hm1 _) | (refine wpList_find_own rfl _ _ 93 rfl KK.out Try.underlying93 Try.underlying5 (by assumption) (zero_u8 _) rfl _ _ rfl (Maps.keyOf_int_mk Try.underlying3 (by decide)) _ (by rw [marks]; rfl) ?_) | (go_at_call 51; refine (HN.out _ (HH.out.keeps hm1.keeps)).mono ?_; rintro e W5 ⟨rfl, v5, hv5, hg5⟩; have HV := Lib.hid hv5; have HG := Lib.hid (hg5.keeps hm1.keeps); clear hv5 hg5) | (go_at_call 49; refine (HM.out _ _ HV.out).mono ?_; rintro e W6 ⟨rfl, v6, hv6, hg6⟩; have HV6 := Lib.hid hv6; have HG6 := Lib.hid hg6; clear hv6 hg6))
    go_end0
    exact ⟨rfl, v6, HV6.out, HG.out.trans HG6.out⟩)
theorem wsize_any (w0 : World) (g : Nat) (v : Value) (n : Nat) (l : List Int) (x : Int) (h0 : 0 ≤ x) (h1 : x < 18446744073709551616) (hn : n ≤ 70368744177663) (w : World) (h : WrAt w0 w g v n l) :
    Calls Try.prog 21 #[.pointer (some ⟨g, 0, none⟩), .int .u64 x] w fun e w' => e = .returned (.tuple #[]) ∧ ∃ v', WrAt w0 w' g v' (n + (sizeB x).length) (l ++ sizeB x) ∧ WGrown g v w w' v' := by
  unfold sizeB
  by_cases h2 : x < 253
  · rw [if_pos h2]
    exact wsize_small w0 g v n l x h0 h2 (by omega) w h
  · rw [if_neg h2]
    have big : ∀ (k : Nat) (m : Int), ((k = 2 ∧ m = 253) ∨ (k = 4 ∧ m = 254) ∨ (k = 8 ∧ m = 255)) → wideZ x = (k : Int) → Calls Try.prog 21 #[.pointer (some ⟨g, 0, none⟩), .int .u64 x] w fun e w' => e = .returned (.tuple #[]) ∧ ∃ v', WrAt w0 w' g v' (n + (m :: leB x k).length) (l ++ m :: leB x k) ∧ WGrown g v w w' v' := fun k m hk e0 => by
      have := wsize_big w0 g v n l x h0 h1 k m hk e0 hn w h
      rw [List.length_cons, leB_length, Nat.add_comm k 1, ← Nat.add_assoc]
      rwa [List.append_assoc, List.singleton_append] at this
    by_cases h3 : x < 65536
    · rw [if_pos h3]
      exact big 2 253 (by simp) (by unfold wideZ; rw [if_neg h2, if_pos h3]; rfl)
    · rw [if_neg h3]
      by_cases h4 : x < 4294967296
      · rw [if_pos h4]
        exact big 4 254 (by simp) (by unfold wideZ; rw [if_neg h2, if_neg h3, if_pos h4]; rfl)
      · rw [if_neg h4]
        exact big 8 255 (by simp) (by unfold wideZ; rw [if_neg h2, if_neg h3, if_neg h4]; rfl)
set_option maxHeartbeats 1000000 in
theorem wbytes_any (w0 : World) (g : Nat) (v : Value) (n : Nat) (l : List Int) (xv : Value) (xs : List Int) (hn : n + xs.length ≤ 70368744177000) (w : World) (h : WrAt w0 w g v n l) (hr : Rd w 1 xv xs.length (xs.map (Value.int .u8))) (hap : ∀ b, xv.ownBlock = some b → b ≠ g ∧ v.ownBlock ≠ some b ∧ b < w.heap.size) :
    Calls Try.prog 22 #[.pointer (some ⟨g, 0, none⟩), xv] w fun e w' => e = .returned (.tuple #[]) ∧ ∃ v', WrAt w0 w' g v' (n + (textB xs).length) (l ++ textB xs) ∧ WGrown g v w w' v' := by
  have hS := wsize_any w0 g v n l (xs.length : Int) (by omega) (by omega) (by omega) w h
  have hsl := sizeB_len (xs.length : Int)
  have hR : ∀ (v1 : Value) (w1 : World), WrAt w0 w1 g v1 (n + (sizeB (xs.length : Int)).length) (l ++ sizeB (xs.length : Int)) → WGrown g v w w1 v1 → Calls Try.prog 20 #[.pointer (some ⟨g, 0, none⟩), xv] w1 fun e w' => e = .returned (.tuple #[]) ∧ ∃ v', WrAt w0 w' g v' (n + (textB xs).length) (l ++ textB xs) ∧ WGrown g v1 w1 w' v' := fun v1 w1 h1 g1 => by
    have := wraw_any w0 g v1 _ _ xv xs.length xs (by omega) w1 h1 (hr.chg g1.1 (fun b e => by
      obtain ⟨a1, a2, a3⟩ := hap b e
      rintro (e2 | e2)
      · exact a1 e2
      · exact a2 e2))
    unfold textB
    rwa [List.length_append, ← Nat.add_assoc, ← List.append_assoc]
  obtain ⟨xa, xc, rfl⟩ : ∃ a c, xv = .slice a xs.length c := by obtain ⟨_, a, c, e, _⟩ := hr; exact ⟨a, c, e⟩
  have HS := Lib.hid hS; have HR := Lib.hid hR
  clear hS hR hr hap h
  generalize textB xs = TB at *
  generalize sizeB (xs.length : Int) = SB at *
  generalize xs.length = m at *
  go_enter Try.func22, Try.ntmps22
  go_wp2_with (first | (go_at_call 21; refine HS.out.mono ?_; rintro e W4 ⟨rfl, v4, hv4, hg4⟩; have HV4 := Lib.hid hv4; have HG4 := Lib.hid hg4; clear hv4 hg4) | (go_at_call 20; refine (HR.out _ _ HV4.out HG4.out).mono ?_; rintro e W5 ⟨rfl, v5, hv5, hg5⟩; have HV := Lib.hid hv5; have HG := Lib.hid hg5; clear hv5 hg5))
  go_end0
  exact ⟨rfl, v5, HV.out, HG4.out.trans HG.out⟩
end Go.Proofs.Ytcodpdpeklammaa
namespace Go.Proofs.Ytcodpdpeklammaa
set_option linter.unusedVariables false
set_option linter.unusedSimpArgs false
open Go Go.RowKit

def witnessedD (d : TxD) : Bool := d.ins.any (fun i => decide (0 < i.wit.length))
def inB (d : InD) : List Int := d.hash ++ leB d.index 4 ++ textB d.script ++ leB d.seq 4
def insB (l : List InD) : List Int := sizeB (l.length : Int) ++ l.flatMap inB
def outB (d : OutD) : List Int := leB (d.value % 18446744073709551616) 8 ++ textB d.script
def outsB (l : List OutD) : List Int := sizeB (l.length : Int) ++ l.flatMap outB
def witB (d : InD) : List Int := sizeB (d.wit.length : Int) ++ d.wit.flatMap textB
def encB (d : TxD) (wit : Bool) : List Int := leB (d.ver % 4294967296) 4 ++ (if wit && witnessedD d then [0, 1] else []) ++ insB d.ins ++ outsB d.outs ++ (if wit && witnessedD d then d.ins.flatMap witB else []) ++ leB d.lock 4
/-- all its parts together are not too long -/
def Fits (d : TxD) : Prop := (insB d.ins).length + (outsB d.outs).length + (d.ins.flatMap witB).length ≤ 1000000000000
theorem take_flat {α : Type} (f : α → List Int) (l : List α) (i : Nat) (x : α) (h : l[i]? = some x) : (l.take (i + 1)).flatMap f = (l.take i).flatMap f ++ f x := by
  rw [List.take_add_one, h]; simp
theorem flat_take_le {α : Type} (f : α → List Int) (l : List α) (i : Nat) : ((l.take i).flatMap f).length ≤ (l.flatMap f).length := by
  conv => rhs; rw [← List.take_append_drop i l]
  rw [List.flatMap_append, List.length_append]
  omega
theorem flat_le {α : Type} (f : α → List Int) (c : Nat) : ∀ (l : List α), (∀ x ∈ l, (f x).length ≤ c) → (l.flatMap f).length ≤ l.length * c
  | [], _ => by simp
  | x :: l, h => by
    rw [List.flatMap_cons, List.length_append, List.length_cons, Nat.add_mul, Nat.one_mul]
    have h1 := h x (by simp)
    have h2 := flat_le f c l (fun y hy => h y (by simp [hy]))
    omega
theorem inB_eq (d : InD) (l : List Int) : l ++ d.hash ++ leB d.index 4 ++ textB d.script ++ leB d.seq 4 = l ++ inB d := by unfold inB; simp only [List.append_assoc]
theorem outB_eq (d : OutD) (l : List Int) : l ++ leB (d.value % 18446744073709551616) 8 ++ textB d.script = l ++ outB d := by unfold outB; simp only [List.append_assoc]
theorem any_false_upto {α : Type} (f : α → Bool) (l : List α) (h : ∀ (i : Nat) (x : α), l[i]? = some x → f x = false) : l.any f = false := by
  rw [List.any_eq_false]
  intro x hx
  obtain ⟨i, hi, e⟩ := List.getElem_of_mem hx
  rw [h i x (by rw [List.getElem?_eq_getElem hi, e])]
  simp
theorem any_true_at {α : Type} (f : α → Bool) (l : List α) (i : Nat) (x : α) (h : l[i]? = some x) (hf : f x = true) : l.any f = true := by
  rw [List.any_eq_true]
  exact ⟨x, List.mem_of_getElem? h, hf⟩
end Go.Proofs.Ytcodpdpeklammaa
namespace Go.Proofs.Ytcodpdpeklammaa
set_option linter.unusedVariables false
set_option linter.unusedSimpArgs false
open Go Go.RowKit

/-- what is read, and what is left; or the error -/
abbrev Rdr (α : Type) := List Int → Except Int (α × List Int)
def rdOk {α : Type} (a : α) : Rdr α := fun r => .ok (a, r)
def rdErr {α : Type} (e : Int) : Rdr α := fun _ => .error e
def rdBind {α β : Type} (p : Rdr α) (f : α → Rdr β) : Rdr β := fun r => match p r with
  | .error e => .error e
  | .ok (a, r1) => f a r1
def rdTake (n : Nat) : Rdr (List Int) := fun r => if r.length < n then .error 4 else .ok (r.take n, r.drop n)
def leV : List Int → Int
  | [] => 0
  | b :: r => b + 256 * leV r
def rdNum (n : Nat) : Rdr Int := rdBind (rdTake n) (fun b => rdOk (leV b))
def markLen (first : Int) : Nat := if first = 253 then 2 else if first = 254 then 4 else 8
def rdSize : Rdr Int := rdBind (rdNum 1) (fun first => if first < 253 then rdOk first else
  rdBind (rdNum (markLen first)) (fun x => if (sizeB x).length ≠ markLen first + 1 then rdErr 3 else if 33554432 < x then rdErr 2 else rdOk x))
def rdList (most : Int) : Rdr (List Int) := rdBind rdSize (fun n => if most < n then rdErr 2 else rdTake n.toNat)
def rdCount : Rdr Nat := rdBind rdSize (fun n => if 25000 < n then rdErr 2 else rdOk n.toNat)
def rdMany {α : Type} (p : Rdr α) : Nat → Rdr (List α)
  | 0 => rdOk []
  | n + 1 => rdBind (rdMany p n) (fun l => rdBind p (fun a => rdOk (l ++ [a])))
def rdIn : Rdr InD := rdBind (rdTake 32) (fun h => rdBind (rdNum 4) (fun x => rdBind (rdList 100000) (fun s => rdBind (rdNum 4) (fun q => rdOk ⟨h, x, s, q, []⟩))))
def toI64 (x : Int) : Int := if x < 9223372036854775808 then x else x - 18446744073709551616
def toI32 (x : Int) : Int := if x < 2147483648 then x else x - 4294967296
def rdOut : Rdr OutD := rdBind (rdNum 8) (fun v => rdBind (rdList 100000) (fun s => rdOk ⟨toI64 v, s⟩))
def rdWit (d : InD) : Rdr InD := rdBind rdCount (fun k => rdBind (rdMany (rdList 100000) k) (fun l => rdOk { d with wit := l }))
/-- the witnesses of the first i inputs -/
def rdWits (l : List InD) : Nat → Rdr (List InD)
  | 0 => rdOk []
  | i + 1 => rdBind (rdWits l i) (fun m => rdBind (rdWit (l.getD i ⟨[], 0, [], 0, []⟩)) (fun d => rdOk (m ++ [d])))
/-- behind the number of inputs -/
def rdRest (ver : Int) (second : Bool) (n : Nat) : Rdr TxD :=
  rdBind (rdMany rdIn n) (fun ins => rdBind rdCount (fun m => rdBind (rdMany rdOut m) (fun outs =>
    rdBind (if second then rdWits ins ins.length else rdOk ins) (fun ins2 => rdBind (rdNum 4) (fun lock =>
      fun r => if (second && !witnessedD ⟨ver, ins2, outs, lock⟩) || decide (0 < r.length) then .error 3 else .ok (⟨ver, ins2, outs, lock⟩, r))))))
def rdTx : Rdr TxD := rdBind (rdNum 4) (fun v => rdBind rdCount (fun n =>
  if n = 0 then rdBind (rdNum 1) (fun f => if f ≠ 1 then rdErr 3 else rdBind rdCount (fun n2 => rdRest (toI32 v) true n2)) else rdRest (toI32 v) false n))
/-- Decode -/
def decTx (b : List Int) : Except Int TxD := if 100000 < b.length then .error 2 else match rdTx b with
  | .error e => .error e
  | .ok (d, _) => .ok d

/-! what was written is read back -/
theorem rdBind_ok {α β : Type} {p : Rdr α} {f : α → Rdr β} {r r1 : List Int} {a : α} (h : p r = .ok (a, r1)) : rdBind p f r = f a r1 := by unfold rdBind; rw [h]
theorem rdBind_err {α β : Type} {p : Rdr α} {f : α → Rdr β} {r : List Int} {e : Int} (h : p r = .error e) : rdBind p f r = .error e := by unfold rdBind; rw [h]
theorem rdTake_app (l r : List Int) (n : Nat) (h : l.length = n) : rdTake n (l ++ r) = .ok (l, r) := by
  unfold rdTake
  rw [if_neg (by rw [List.length_append]; omega), List.take_left' h, List.drop_left' h]
theorem leV_app (a b : List Int) : leV (a ++ b) = leV a + 256 ^ a.length * leV b := by
  induction a with
  | nil => simp [leV]
  | cons x r ih => simp only [List.cons_append, leV, ih, List.length_cons, Int.pow_succ]; grind
theorem leV_leB (v : Int) (h : 0 ≤ v) : ∀ k, leV (leB v k) = v % 256 ^ k
  | 0 => by simp [leB, leV]
  | k + 1 => by
    rw [leB, leV_app, leV_leB v h k, leB_length]
    obtain ⟨n, rfl⟩ := Int.eq_ofNat_of_zero_le h
    have e : ((256 : Int) ^ k) = ((256 ^ k : Nat) : Int) := by simp
    have e2 : ((256 : Int) ^ (k + 1)) = ((256 ^ (k + 1) : Nat) : Int) := by simp
    have := Nat.mod_mul (x := n) (a := 256 ^ k) (b := 256)
    rw [e, e2, Nat.pow_succ]
    simp only [leV, Int.mul_zero, Int.add_zero]
    rw [← Int.natCast_ediv, ← Int.natCast_emod, ← Int.natCast_emod, this]
    rw [show ((n / 256 ^ k : Nat) : Int) % 256 = ((n / 256 ^ k % 256 : Nat) : Int) by simp]
    simp
theorem rdNum_app (x : Int) (k : Nat) (r : List Int) (h0 : 0 ≤ x) (h1 : x < 256 ^ k) : rdNum k (leB x k ++ r) = .ok (x, r) := by
  unfold rdNum
  rw [rdBind_ok (rdTake_app _ _ _ (leB_length _ _)), leV_leB x h0, Int.emod_eq_of_lt h0 h1]
  rfl
theorem rdSize_app (x : Int) (r : List Int) (h0 : 0 ≤ x) (h1 : x ≤ 33554432) : rdSize (sizeB x ++ r) = .ok (x, r) := by
  have one : ∀ (m : Int) (r : List Int), rdNum 1 (m :: r) = .ok (m, r) := fun m r => by
    unfold rdNum
    rw [show m :: r = [m] ++ r from rfl, rdBind_ok (rdTake_app [m] r 1 rfl)]
    simp [rdOk, leV]
  have big : ∀ (m : Int) (k : Nat), 253 ≤ m → markLen m = k → sizeB x = m :: leB x k → x < 256 ^ k → rdSize (sizeB x ++ r) = .ok (x, r) := fun m k hm hk hs hx => by
    unfold rdSize
    rw [hs, List.cons_append, rdBind_ok (one m _), if_neg (by omega), hk, rdBind_ok (rdNum_app x k r h0 hx), hs, if_neg (by rw [List.length_cons, leB_length]; simp), if_neg (by omega)]
    rfl
  by_cases a : x < 253
  · have hs : sizeB x = [x] := by unfold sizeB; rw [if_pos a]
    unfold rdSize
    rw [hs]
    show rdBind _ _ (x :: r) = _
    rw [rdBind_ok (one x r), if_pos a]
    rfl
  · by_cases b : x < 65536
    · exact big 253 2 (by omega) rfl (by unfold sizeB; rw [if_neg a, if_pos b]) (by omega)
    · exact big 254 4 (by omega) rfl (by unfold sizeB; rw [if_neg a, if_neg b, if_pos (by omega)]) (by omega)
theorem rdList_app (most : Int) (l r : List Int) (h1 : (l.length : Int) ≤ most) (h2 : (l.length : Int) ≤ 33554432) : rdList most (textB l ++ r) = .ok (l, r) := by
  unfold rdList textB
  rw [List.append_assoc, rdBind_ok (rdSize_app _ _ (by omega) h2), if_neg (by omega)]
  exact rdTake_app l r _ (by simp)
theorem rdCount_app (n : Nat) (r : List Int) (h : n ≤ 25000) : rdCount (sizeB (n : Int) ++ r) = .ok (n, r) := by
  unfold rdCount
  rw [rdBind_ok (rdSize_app _ _ (by omega) (by omega)), if_neg (by omega)]
  simp [rdOk]
theorem rdMany_app {α : Type} (p : Rdr α) (f : α → List Int) : ∀ (n : Nat) (l : List α) (r : List Int), l.length = n → (∀ x ∈ l, ∀ r, p (f x ++ r) = .ok (x, r)) → rdMany p n (l.flatMap f ++ r) = .ok (l, r)
  | 0, l, r, h, _ => by
    obtain rfl := List.eq_nil_of_length_eq_zero h
    rfl
  | n + 1, l, r, h, hp => by
    have hne : l ≠ [] := by rintro rfl; simp at h
    obtain ⟨m, a, rfl⟩ : ∃ m a, l = m ++ [a] := ⟨l.dropLast, l.getLast hne, (List.dropLast_concat_getLast hne).symm⟩
    have hm : m.length = n := by simpa using h
    rw [rdMany, List.flatMap_append, List.append_assoc, rdBind_ok (rdMany_app p f n m _ hm (fun x hx => hp x (by simp [hx])))]
    have e : [a].flatMap f ++ r = f a ++ r := by simp
    rw [e, rdBind_ok (hp a (by simp) r)]
    rfl
end Go.Proofs.Ytcodpdpeklammaa
