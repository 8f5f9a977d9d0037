/- block.limit, Target: bits as a target. -/
import Derived.Test.YtcodpdpeklammaaDoorGD3
import Derived.Lib.QuietBelow
import Derived.Stop.BytesEq
namespace Go.Proofs.YtcodpdpeklammaaDoor
set_option linter.unusedVariables false
set_option linter.unusedSimpArgs false
open Go Go.RowKit

theorem rgB {f : FuncId} {args : Array Value} {W : World} {p : Regrown} {v : Value} (h : Calls Tryd.prog f args (Go.Sort.grow (redrawn W p.d) p.os) fun e w' => e = .returned v ∧ Keeps (Go.Sort.grow (redrawn W p.d) p.os) w') :
    Calls Tryd.prog f args (Go.Sort.grow (redrawn W p.d) p.os) fun e w'' => e = .returned v ∧ ∃ q : Regrown, w'' = Go.Sort.grow (redrawn W q.d) q.os := Calls.regrown_of h
theorem below_regrownB (W : World) (d : Nat) (os : Array Obj) : Keeps W (Go.Sort.grow (redrawn W d) os) := by
  have := below_regrown W d os
  exact this
theorem u8_run (W : World) : (sizeOf 5).run Tryd.prog W = .ok 1 W := by
  obtain ⟨i0, hi, hz0, hz1, hz2⟩ := info_parts u8_info
  simp [sizeOf, typeInfo, hi, hz1]
theorem toU8_cell (x : Int) (hx : Byte x) : Value.int .u8 x = Extern.Stop.cell (UInt8.ofNat x.toNat) := by
  obtain ⟨h0, h1⟩ := hx
  obtain ⟨n, rfl⟩ := Int.eq_ofNat_of_zero_le h0
  have hn : n < 256 := by omega
  have : ∀ m : Fin 256, ((UInt8.ofNat m.val).toNat : Nat) = m.val := by decide +kernel
  have h2 := this ⟨n, hn⟩
  show Value.int .u8 (n : Int) = Value.int .u8 ((UInt8.ofNat n).toNat : Int)
  rw [h2]
theorem toU8_inj {x y : Int} (hx : Byte x) (hy : Byte y) (h : UInt8.ofNat x.toNat = UInt8.ofNat y.toNat) : x = y := by
  have e1 := toU8_cell x hx
  have e2 := toU8_cell y hy
  rw [h, ← e2] at e1
  injection e1
set_option maxRecDepth 100000 in
/-- whether two arrays of bytes are the same -/
theorem equal_bytes (W : World) (t : TypeId) (n : Nat) (ht : Tryd.prog.underlying t = some (.array n 5)) (a b : List Int) (ha : Bytes a) (hb : Bytes b) (hla : a.length = n) (hlb : b.length = n) :
    (Op.equalIn 10000 t (.agg (a.map (Value.int .u8)).toArray) (.agg (b.map (Value.int .u8)).toArray)).run Tryd.prog W = .ok (decide (a = b)) W := by
  have e : ∀ l : List Int, Bytes l → l.map (Value.int .u8) = (l.map fun x => UInt8.ofNat x.toNat).map Extern.Stop.cell := by
    intro l hl
    rw [List.map_map]
    exact List.map_congr_left fun x hx' => toU8_cell x (hl x hx')
  rw [e a ha, e b hb, run_equalIn_bytes (P := Tryd.prog) W 9998 t 5 n ht Tryd.underlying5 u8_run _ _ (by simp [hla]) (by simp [hlb])]
  congr 1
  by_cases h : a = b
  · subst h; simp
  · rw [decide_eq_false h]
    refine beq_eq_false_iff_ne.2 (fun he => h ?_)
    have hl : a.length = b.length := hla.trans hlb.symm
    clear hla hlb e
    induction a generalizing b with
    | nil => cases b with
      | nil => rfl
      | cons _ _ => simp at hl
    | cons x a ih =>
      cases b with
      | nil => simp at hl
      | cons y b =>
        simp only [List.map_cons, List.cons.injEq] at he
        have hxy := toU8_inj (ha x (by simp)) (hb y (by simp)) he.1
        have := ih b (fun z hz => ha z (by simp [hz])) (fun z hz => hb z (by simp [hz])) (fun hh => h (by rw [hxy, hh])) he.2 (by simpa using hl)
        rw [hxy, this]
theorem quiet_eql {P : Program} {C : World → Prop} {a : Act} {o : Oper} {K : Act → Prop} (t t' : TypeId) (x y : Operand) (ho : o.op = .binOp .eql t x y t') (A B : Array Value) (hx : a.eval x = .agg A) (hy : a.eval y = .agg B) (r : Bool)
    (hE : ∀ W, (Op.equalIn 10000 t (.agg A) (.agg B)).run P W = .ok r W) (hm : P.eqGuardType P.depth t = false) (hk : K (a.put o.dst (.bool r))) : o.quiet P a C K :=
  ⟨.bool r, fun w _ => by
    have h : (execOp a.eval o).run P w = .ok (.value (.bool r)) w := by
      unfold execOp
      simp only [ho, hx, hy]
      simp only [Sem.run_bind, Sem.run_pure, run_eqGuard_agg _ _ _ _ _ _ _ hm, run_eql_struct, hE, Result.andThen_ok]
    unfold Oper.quietAt
    rw [h]
    exact ⟨rfl, rfl⟩, hk⟩
/-- a whole array, or struct, loaded in a region that only reads -/
theorem quiet_load_row {P : Program} {C : World → Prop} {a : Act} {o : Oper} {K : Act → Prop} (ty : TypeId) (x : Operand) (ho : o.op = .load ty x) (g off : Nat) (hx : a.eval x = .pointer (some ⟨g, off, none⟩)) (cs : List Value) (d : TypeDesc) (hg : ∀ W, C W → Row W g off cs)
    (hu : P.underlying ty = some d) (hd : (match d with | .struct _ | .array _ _ => true | _ => false) = true) (hi : (P.info? ty).map (·.size) = some cs.length) (hk : K (a.put o.dst (.agg cs.toArray))) : o.quiet P a C K :=
  ⟨.agg cs.toArray, fun w hw => by
    have h2 : (execOp a.eval o).run P w = .ok (.value (.agg cs.toArray)) w := by
      unfold execOp
      simp only [ho, hx, Instr.loadAt, Instr.sureAddr, Sem.run_bind, Sem.run_pure, Result.andThen_ok, run_loadVar_at w g off ty cs d (hg w hw) hu hd hi]
    unfold Oper.quietAt
    rw [h2]
    exact ⟨rfl, rfl⟩, hk⟩
theorem Row.cls {w : World} {g off : Nat} {vs : List Value} (h : Row w g off vs) : ∀ W, (∃ p : Regrown, W = Go.Sort.grow (redrawn w p.d) p.os) → Row W g off vs := fun W hC => by
  obtain ⟨p, rfl⟩ := hC
  exact h.keeps (below_regrown _ _ _)
theorem nm_wp_rows1 {P : Program} {c : Code} {Q : Exit → Act → World → Prop} {a : Act} {w : World} {A : Array Value} {T : TypeId}
    (h : ∀ W, Keeps w W → Row W w.heap.size 0 A.toList → W.heap.size = w.heap.size + 1 → Code.wp P c Q a W) :
    Code.wp P c Q a (w.alloc (.cells A T)) := by
  have h0 := Row.new (w := w) A.toList A T (by simp)
  exact h _ (nm_keeps_alloc (Keeps.refl w) _) h0 (by simp)
theorem expRes_length (x : Int) : (expRes x).length = 32 := by
  unfold expRes expand
  split
  · exact zero32_length
  · split
    · exact zero32_length
    · exact expB_length ..
theorem nm_zero32_bytes : Bytes nm_zero32 := by
  intro x hx
  obtain ⟨_, rfl⟩ := List.mem_replicate.1 hx
  exact ⟨by omega, by omega⟩
theorem expRes_bytes (x : Int) : Bytes (expRes x) := by
  unfold expRes expand
  split
  · exact nm_zero32_bytes
  · split
    · exact nm_zero32_bytes
    · exact expB_bytes _ _ _
theorem limitB_bytes : Bytes limitB := by unfold Bytes Byte; decide +kernel
theorem limitB_length : limitB.length = 32 := by decide +kernel
set_option maxRecDepth 100000 in
set_option maxHeartbeats 4000000 in
theorem limit_any (w : World) : Calls Tryd.prog 30 #[] w fun e w' => e = .returned (.agg (limitB.map (Value.int .u8)).toArray) ∧ Keeps w w' := by
  have hex : ∀ W, Calls Tryd.prog 28 #[.int .u32 545259519] W fun e w' => e = .returned (.tuple #[.agg (limitB.map (Value.int .u8)).toArray, .bool true]) ∧ Keeps W w' := fun W => by
    have := expand_any 545259519 (by decide) (by decide) W
    unfold expRes at this
    rw [limit_expand] at this
    exact this
  have hl9 := limitB_length
  generalize limitB = L at *
  have HEX := Lib.hid hex
  clear hex
  go_enter Tryd.func30, Tryd.ntmps30
  go_upto_region 1 with (fail)
  refine nm_wp_rows1 (fun W hk hr hs => ?_)
  obtain ⟨p, hp⟩ : ∃ p, p = w.heap.size := ⟨_, rfl⟩
  rw [← hp] at hr hs ⊢
  have hkp : w.heap.size ≤ p := by omega
  obtain ⟨Z, hZ, hrz⟩ : ∃ Z : List Value, Z.length = 32 ∧ Row W p 0 Z := ⟨_, rfl, hr⟩
  have HZ := Lib.hid hrz; have HK := Lib.hid hk
  clear hp hr hrz hk hs
  go_wp2_with (first | (go_at_call 28; refine (HEX.out _).mono ?_; rintro e W5 ⟨rfl, hk5⟩; have HK5 := Lib.hid hk5; clear hk5) | (refine wpList_store_row rfl 45 (.tmp 1) (.tmp 5) rfl _ 0 rfl (List.replicate 32 (Value.int .u8 0)) (L.map (Value.int .u8)) rfl (Row.new _ _ _ rfl) (by simp [hl9]) (sz_n32 L hl9) (int_oneCell _) ?_; intro w8 hr8 hc8; have H8 := Lib.hid hr8; have HC8 := Lib.hid hc8; clear hr8 hc8) | (refine wpList_load_at rfl 45 (.tmp 1) rfl _ 0 rfl (L.map (Value.int .u8)) _ H8.out Tryd.underlying45 rfl (sz_n32 L hl9) ?_) | (refine wpList_store_row rfl 45 (.tmp 0) (.tmp 7) rfl p 0 rfl Z (L.map (Value.int .u8)) rfl (((HZ.out.keeps HK5.out).alloc _).chg HC8.out (by have := HK5.out.size; have := HZ.out.lt (by intro e; rw [e] at hZ; simp at hZ); omega)) (by simp [hl9, hZ]) (sz_n32 L hl9) (int_oneCell _) ?_; intro w9 hr9 hc9; have H9 := Lib.hid hr9; have HC9 := Lib.hid hc9; clear hr9 hc9))
  exact bodyPost_ret (v := .agg (L.map (Value.int .u8)).toArray) (results_cell_at (p := 0) (ty := 45) rfl _ _ p 0 _ _ rfl H9.out Tryd.underlying45 rfl (sz_n32 L hl9)) rfl ⟨rfl, nm_keeps_chg (nm_keeps_chg (nm_keeps_alloc (HK.out.trans HK5.out) _) HC8.out (by have := (HK.out.trans HK5.out).size; omega)) HC9.out hkp⟩
/-- what Target hands back -/
def tgtRes (x : Int) : List Int := (target x).getD nm_zero32
def tgtErr (x : Int) : Int := if (target x).isSome then 0 else 3
theorem target_no (x : Int) (h : (expand x).isSome = false) : tgtRes x = nm_zero32 ∧ tgtErr x = 3 := by
  have : expand x = none := by simpa using h
  unfold tgtRes tgtErr target
  rw [this]
  exact ⟨rfl, rfl⟩
theorem target_bad (x : Int) (h : (expand x).isSome = true) (hb : expRes x = nm_zero32 ∨ be limitB < be (expRes x)) : tgtRes x = nm_zero32 ∧ tgtErr x = 3 := by
  obtain ⟨n, hn⟩ := Option.isSome_iff_exists.1 h
  unfold expRes at hb
  rw [hn] at hb
  have ht : target x = none := by
    unfold target
    rw [hn]
    exact if_pos hb
  unfold tgtRes tgtErr
  rw [ht]
  exact ⟨rfl, rfl⟩
theorem target_good (x : Int) (h : (expand x).isSome = true) (hb : ¬ (expRes x = nm_zero32 ∨ be limitB < be (expRes x))) : tgtRes x = expRes x ∧ tgtErr x = 0 := by
  obtain ⟨n, hn⟩ := Option.isSome_iff_exists.1 h
  have he : expRes x = n := by unfold expRes; rw [hn]; rfl
  rw [he] at hb
  have ht : target x = some n := by
    unfold target
    rw [hn]
    exact if_neg hb
  unfold tgtRes tgtErr
  rw [ht, he]
  exact ⟨rfl, rfl⟩
set_option maxRecDepth 100000 in
set_option maxHeartbeats 4000000 in
theorem target_any (x : Int) (h0 : 0 ≤ x) (h1 : x < 4294967296) (w : World) :
    Calls Tryd.prog 12 #[.int .u32 x] w fun e w' => e = .returned (.tuple #[.agg ((tgtRes x).map (Value.int .u8)).toArray, .int .i64 (tgtErr x)]) ∧ Keeps w w' := by
  have hex := expand_any x h0 h1
  have hl9 := expRes_length x
  have hz9 := zero32_length
  have hxb := expRes_bytes x
  have hno := target_no x
  have hbad := target_bad x
  have hgood := target_good x
  have hcmp := fun W => bcompare_any (expRes x) limitB hxb limitB_bytes hl9 limitB_length W
  have hlim := limit_any
  have hE := fun W => equal_bytes W 45 32 Tryd.underlying45 (expRes x) nm_zero32 hxb nm_zero32_bytes hl9 hz9
  generalize expRes x = R at *
  generalize (expand x).isSome = OK at *
  generalize tgtRes x = TR at *
  generalize tgtErr x = TE at *
  have hcz : (cmpZ (be R) (be limitB) > 0) ↔ (be limitB < be R) := by
    unfold cmpZ
    split
    · omega
    · split <;> omega
  generalize be limitB = LV at *
  generalize hRV : be R = RV at *
  clear hRV
  generalize cmpZ RV LV = CZ at *
  generalize limitB = LB at *
  have HEX := Lib.hid hex; have HXB := Lib.hid hxb; have HNO := Lib.hid hno; have HBAD := Lib.hid hbad; have HGOOD := Lib.hid hgood; have HCMP := Lib.hid hcmp; have HLIM := Lib.hid hlim; have HE := Lib.hid hE; have HCZ := Lib.hid hcz
  clear hex hxb hno hbad hgood hcmp hlim hE hcz
  go_enter Tryd.func12, Tryd.ntmps12
  go_upto_region 1 with (fail)
  refine nm_wp_rows1 (fun W hk hr hs => ?_)
  obtain ⟨p, hp⟩ : ∃ p, p = w.heap.size := ⟨_, rfl⟩
  rw [← hp] at hr hs ⊢
  have hkp : w.heap.size ≤ p := by omega
  have HZ := Lib.hid (show Row W p 0 (nm_zero32.map (Value.int .u8)) from hr); have HK := Lib.hid hk
  clear hp hr hk hs
  go_upto_region 2 with (first | (go_at_call 28; refine (HEX.out _).mono ?_; rintro e W5 ⟨rfl, hk5⟩; have HK5 := Lib.hid hk5; clear hk5) | (refine wpList_store_row rfl 45 (.tmp 4) (.tmp 9) rfl _ 0 rfl (List.replicate 32 (Value.int .u8 0)) (R.map (Value.int .u8)) rfl (Row.new _ _ _ rfl) (by simp [hl9]) (sz_n32 R hl9) (int_oneCell _) ?_; intro w8 hr8 hc8; have H8 := Lib.hid hr8; have HC8 := Lib.hid hc8; clear hr8 hc8))
  have hk8 : Keeps w w8 := nm_keeps_chg (nm_keeps_alloc (HK.out.trans HK5.out) _) HC8.out (by have := (HK.out.trans HK5.out).size; omega)
  have hz8 : Row w8 p 0 (nm_zero32.map (Value.int .u8)) := ((HZ.out.keeps HK5.out).alloc _).chg HC8.out (by have := HK5.out.size; have := HZ.out.lt (by intro e; have := congrArg List.length e; rw [List.length_map, hz9] at this; simp at this); omega)
  obtain ⟨g, hg⟩ : ∃ g, g = W5.heap.size := ⟨_, rfl⟩
  rw [← hg] at H8 HC8 ⊢
  have HK8 := Lib.hid hk8; have HZ8 := Lib.hid hz8
  clear hk8 hz8 hg HC8 HK5 HK HZ
  cases OK
  · obtain ⟨hq1, hq2⟩ := HNO.out rfl
    have HQ1 := Lib.hid hq1; have HQ2 := Lib.hid hq2
    clear hq1 hq2
    refine wp_region_quiet_below (by kernel_rfl) (by kernel_rfl) ?_
    repeat (first | go_big_quiet_skip | (refine BigFrame.wpQuiet_want (by kernel_rfl) (fun K hK => quiet_load_row 45 (.tmp 4) (by with_reducible rfl) g 0 rfl (R.map (Value.int .u8)) _ (H8.out).cls Tryd.underlying45 rfl (sz_n32 R hl9) (hK _ ?_)); simp only [Act.put, List.setIfInBounds_toArray, List.set_cons_zero, List.set_cons_succ]) | (refine BigFrame.wpQuiet_want (by kernel_rfl) (fun K hK => quiet_eql 45 45 (.tmp 14) (.tmp 15) (by with_reducible rfl) _ _ rfl rfl _ (HE.out) (by kernel_rfl) (hK _ ?_)); simp only [Act.put, List.setIfInBounds_toArray, List.set_cons_zero, List.set_cons_succ]) | go_big_quiet_step (first | (go_at_call 30; exact rgB (HLIM.out _)) | (go_at_call 29; exact rgB (HCMP.out _))) | quiet_step (first | (go_at_call 30; exact rgB (HLIM.out _)) | (go_at_call 29; exact rgB (HCMP.out _))))
    refine wpQuiet_nil ?_
    intro _ hw'
    obtain ⟨⟨dq, osq⟩, hw''⟩ := hw'
    subst hw''
    have hkq := below_regrown w8 dq osq
    generalize Go.Sort.grow (redrawn w8 dq) osq = wq at *
    have hz9' := HZ8.out.keeps hkq
    have HZ9 := Lib.hid hz9'
    clear hz9'
    go_wp2_with (refine wpList_store_row rfl 45 (.tmp 2) (.tmp 24) rfl p 0 rfl _ (nm_zero32.map (Value.int .u8)) rfl HZ9.out (by simp) (sz_n32 nm_zero32 hz9) (int_oneCell _) ?_; intro w9 hr9 hc9; have H9 := Lib.hid hr9; have HC9 := Lib.hid hc9; clear hr9 hc9)
    exact bodyPost_ret (v := .tuple #[.agg (nm_zero32.map (Value.int .u8)).toArray, .int .i64 3]) (results_cell_tmpB (p := 2) (t := 3) (ty := 45) rfl _ _ p 0 _ _ _ rfl rfl H9.out Tryd.underlying45 rfl (sz_n32 nm_zero32 hz9)) rfl ⟨by rw [HQ1.out, HQ2.out], nm_keeps_chg (HK8.out.trans hkq) HC9.out hkp⟩
  · by_cases hR : R = nm_zero32
    · obtain ⟨hq1, hq2⟩ := HBAD.out rfl (.inl hR)
      have HQ1 := Lib.hid hq1; have HQ2 := Lib.hid hq2
      clear hq1 hq2
      have hE1 : ∀ W, (Op.equalIn 10000 45 (.agg (R.map (Value.int .u8)).toArray) (.agg (nm_zero32.map (Value.int .u8)).toArray)).run Tryd.prog W = .ok true W := fun W => by
        rw [HE.out W, decide_eq_true hR]
      have HE1 := Lib.hid hE1
      clear hE1
      refine wp_region_quiet_below (by kernel_rfl) (by kernel_rfl) ?_
      repeat (first | go_big_quiet_skip | (refine BigFrame.wpQuiet_want (by kernel_rfl) (fun K hK => quiet_load_row 45 (.tmp 4) (by with_reducible rfl) g 0 rfl (R.map (Value.int .u8)) _ (H8.out).cls Tryd.underlying45 rfl (sz_n32 R hl9) (hK _ ?_)); simp only [Act.put, List.setIfInBounds_toArray, List.set_cons_zero, List.set_cons_succ]) | (refine BigFrame.wpQuiet_want (by kernel_rfl) (fun K hK => quiet_eql 45 45 (.tmp 14) (.tmp 15) (by with_reducible rfl) _ _ rfl rfl _ (HE1.out) (by kernel_rfl) (hK _ ?_)); simp only [Act.put, List.setIfInBounds_toArray, List.set_cons_zero, List.set_cons_succ]) | go_big_quiet_step (first | (go_at_call 30; exact rgB (HLIM.out _)) | (go_at_call 29; exact rgB (HCMP.out _))) | quiet_step (first | (go_at_call 30; exact rgB (HLIM.out _)) | (go_at_call 29; exact rgB (HCMP.out _))))
      refine wpQuiet_nil ?_
      intro _ hw'
      obtain ⟨⟨dq, osq⟩, hw''⟩ := hw'
      subst hw''
      have hkq := below_regrown w8 dq osq
      generalize Go.Sort.grow (redrawn w8 dq) osq = wq at *
      have hz9' := HZ8.out.keeps hkq
      have HZ9 := Lib.hid hz9'
      clear hz9'
      go_wp2_with (refine wpList_store_row rfl 45 (.tmp 2) (.tmp 24) rfl p 0 rfl _ (nm_zero32.map (Value.int .u8)) rfl HZ9.out (by simp) (sz_n32 nm_zero32 hz9) (int_oneCell _) ?_; intro w9 hr9 hc9; have H9 := Lib.hid hr9; have HC9 := Lib.hid hc9; clear hr9 hc9)
      exact bodyPost_ret (v := .tuple #[.agg (nm_zero32.map (Value.int .u8)).toArray, .int .i64 3]) (results_cell_tmpB (p := 2) (t := 3) (ty := 45) rfl _ _ p 0 _ _ _ rfl rfl H9.out Tryd.underlying45 rfl (sz_n32 nm_zero32 hz9)) rfl ⟨by rw [HQ1.out, HQ2.out], nm_keeps_chg (HK8.out.trans hkq) HC9.out hkp⟩
    · have hE1 : ∀ W, (Op.equalIn 10000 45 (.agg (R.map (Value.int .u8)).toArray) (.agg (nm_zero32.map (Value.int .u8)).toArray)).run Tryd.prog W = .ok false W := fun W => by
        rw [HE.out W, decide_eq_false hR]
      have HE1 := Lib.hid hE1
      clear hE1
      by_cases hG : CZ > 0
      · obtain ⟨hq1, hq2⟩ := HBAD.out rfl (.inr (HCZ.out.1 hG))
        have hd : decide (CZ > 0) = true := by simpa using hG
        have HQ1 := Lib.hid hq1; have HQ2 := Lib.hid hq2
        clear hq1 hq2
        refine wp_region_quiet_below (by kernel_rfl) (by kernel_rfl) ?_
        repeat (first | go_big_quiet_skip | (refine BigFrame.wpQuiet_want (by kernel_rfl) (fun K hK => quiet_load_row 45 (.tmp 4) (by with_reducible rfl) g 0 rfl (R.map (Value.int .u8)) _ (H8.out).cls Tryd.underlying45 rfl (sz_n32 R hl9) (hK _ ?_)); simp only [Act.put, List.setIfInBounds_toArray, List.set_cons_zero, List.set_cons_succ]) | (refine BigFrame.wpQuiet_want (by kernel_rfl) (fun K hK => quiet_eql 45 45 (.tmp 14) (.tmp 15) (by with_reducible rfl) _ _ rfl rfl _ (HE1.out) (by kernel_rfl) (hK _ ?_)); simp only [Act.put, List.setIfInBounds_toArray, List.set_cons_zero, List.set_cons_succ]) | go_big_quiet_step (first | (go_at_call 30; exact rgB (HLIM.out _)) | (go_at_call 29; exact rgB (HCMP.out _))) | quiet_step (first | (go_at_call 30; exact rgB (HLIM.out _)) | (go_at_call 29; exact rgB (HCMP.out _))))
        refine wpQuiet_nil ?_
        intro _ hw'
        obtain ⟨⟨dq, osq⟩, hw''⟩ := hw'
        subst hw''
        have hkq := below_regrown w8 dq osq
        generalize Go.Sort.grow (redrawn w8 dq) osq = wq at *
        have hz9' := HZ8.out.keeps hkq
        have HZ9 := Lib.hid hz9'
        clear hz9'
        go_wp2_with (refine wpList_store_row rfl 45 (.tmp 2) (.tmp 24) rfl p 0 rfl _ (nm_zero32.map (Value.int .u8)) rfl HZ9.out (by simp) (sz_n32 nm_zero32 hz9) (int_oneCell _) ?_; intro w9 hr9 hc9; have H9 := Lib.hid hr9; have HC9 := Lib.hid hc9; clear hr9 hc9)
        exact bodyPost_ret (v := .tuple #[.agg (nm_zero32.map (Value.int .u8)).toArray, .int .i64 3]) (results_cell_tmpB (p := 2) (t := 3) (ty := 45) rfl _ _ p 0 _ _ _ rfl rfl H9.out Tryd.underlying45 rfl (sz_n32 nm_zero32 hz9)) rfl ⟨by rw [HQ1.out, HQ2.out], nm_keeps_chg (HK8.out.trans hkq) HC9.out hkp⟩
      · have hd : decide (CZ > 0) = false := by simpa using hG
        obtain ⟨hq1, hq2⟩ := HGOOD.out rfl (fun h => h.elim hR (fun h => hG (HCZ.out.2 h)))
        have HQ1 := Lib.hid hq1; have HQ2 := Lib.hid hq2
        clear hq1 hq2
        refine wp_region_quiet_below (by kernel_rfl) (by kernel_rfl) ?_
        repeat (first | go_big_quiet_skip | (refine BigFrame.wpQuiet_want (by kernel_rfl) (fun K hK => quiet_load_row 45 (.tmp 4) (by with_reducible rfl) g 0 rfl (R.map (Value.int .u8)) _ (H8.out).cls Tryd.underlying45 rfl (sz_n32 R hl9) (hK _ ?_)); simp only [Act.put, List.setIfInBounds_toArray, List.set_cons_zero, List.set_cons_succ]) | (refine BigFrame.wpQuiet_want (by kernel_rfl) (fun K hK => quiet_eql 45 45 (.tmp 14) (.tmp 15) (by with_reducible rfl) _ _ rfl rfl _ (HE1.out) (by kernel_rfl) (hK _ ?_)); simp only [Act.put, List.setIfInBounds_toArray, List.set_cons_zero, List.set_cons_succ]) | go_big_quiet_step (first | (go_at_call 30; exact rgB (HLIM.out _)) | (go_at_call 29; exact rgB (HCMP.out _))) | quiet_step (first | (go_at_call 30; exact rgB (HLIM.out _)) | (go_at_call 29; exact rgB (HCMP.out _))))
        refine wpQuiet_nil ?_
        intro _ hw'
        obtain ⟨⟨dq, osq⟩, hw''⟩ := hw'
        subst hw''
        have hkq := below_regrown w8 dq osq
        generalize Go.Sort.grow (redrawn w8 dq) osq = wq at *
        have hz9' := HZ8.out.keeps hkq
        have hr9' := H8.out.keeps hkq
        have HZ9 := Lib.hid hz9'; have HR9 := Lib.hid hr9'
        clear hz9' hr9'
        go_wp2_with (first | (refine wpList_load_at rfl 45 (.tmp 4) rfl g 0 rfl (R.map (Value.int .u8)) _ HR9.out Tryd.underlying45 rfl (sz_n32 R hl9) ?_) | (refine wpList_store_row rfl 45 (.tmp 2) (.tmp 25) rfl p 0 rfl _ (R.map (Value.int .u8)) rfl HZ9.out (by simp [hl9, hz9]) (sz_n32 R hl9) (int_oneCell _) ?_; intro w9 hr9 hc9; have H9 := Lib.hid hr9; have HC9 := Lib.hid hc9; clear hr9 hc9))
        exact bodyPost_ret (v := .tuple #[.agg (R.map (Value.int .u8)).toArray, .int .i64 0]) (results_cell_tmpB (p := 2) (t := 3) (ty := 45) rfl _ _ p 0 _ _ _ rfl rfl H9.out Tryd.underlying45 rfl (sz_n32 R hl9)) rfl ⟨by rw [HQ1.out, HQ2.out], nm_keeps_chg (HK8.out.trans hkq) HC9.out hkp⟩
end Go.Proofs.YtcodpdpeklammaaDoor
