/- block.limit, Target: bits as a target. | block.EncodeHeader: a head as bytes. | Gates ahead of a walk's arms: each fits one kind of operation by its text alone, so that a law which does not fit fails at once. No condition. | The reference's Decode: its memory. (Printed by gref09.py.) -/
import Derived.Test.YtcodpdpeklammaaGreatDoorGC5
import Derived.Lib.QuietBelow
import Derived.Stop.BytesEq
import Derived.Test.YtcodpdpeklammaaGreatDoorGA3
import Derived.Test.YtcodpdpeklammaaGreatDoorGA0
import Derived.Test.YtcodpdpeklammaaGreatDoorGC3
namespace Go.Proofs.YtcodpdpeklammaaGreatDoor
set_option linter.unusedVariables false
set_option linter.unusedSimpArgs false
open Go Go.RowKit

theorem rgB {f : FuncId} {args : Array Value} {W : World} {p : Regrown} {v : Value} (h : Calls Tryz.prog f args (Go.Sort.grow (redrawn W p.d) p.os) fun e w' => e = .returned v ∧ Keeps (Go.Sort.grow (redrawn W p.d) p.os) w') :
    Calls Tryz.prog f args (Go.Sort.grow (redrawn W p.d) p.os) fun e w'' => e = .returned v ∧ ∃ q : Regrown, w'' = Go.Sort.grow (redrawn W q.d) q.os := Calls.regrown_of h
theorem u8_run (W : World) : (sizeOf 5).run Tryz.prog W = .ok 1 W := by
  obtain ⟨i0, hi, hz0, hz1, hz2⟩ := info_parts u8_info
  simp [sizeOf, typeInfo, hi, hz1]
theorem toU8_cell (x : Int) (hx : Byte x) : Value.int .u8 x = Extern.Stop.cell (UInt8.ofNat x.toNat) := by
  obtain ⟨h0, h1⟩ := hx
  obtain ⟨n, rfl⟩ := Int.eq_ofNat_of_zero_le h0
  have hn : n < 256 := by omega
  have : ∀ m : Fin 256, ((UInt8.ofNat m.val).toNat : Nat) = m.val := by decide +kernel
  have h2 := this ⟨n, hn⟩
  show Value.int .u8 (n : Int) = Value.int .u8 ((UInt8.ofNat n).toNat : Int)
  rw [h2]
theorem toU8_inj {x y : Int} (hx : Byte x) (hy : Byte y) (h : UInt8.ofNat x.toNat = UInt8.ofNat y.toNat) : x = y := by
  have e1 := toU8_cell x hx
  have e2 := toU8_cell y hy
  rw [h, ← e2] at e1
  injection e1
set_option maxRecDepth 100000 in
/-- whether two arrays of bytes are the same -/
theorem equal_bytes (W : World) (t : TypeId) (n : Nat) (ht : Tryz.prog.underlying t = some (.array n 5)) (a b : List Int) (ha : Bytes a) (hb : Bytes b) (hla : a.length = n) (hlb : b.length = n) :
    (Op.equalIn 10000 t (.agg (a.map (Value.int .u8)).toArray) (.agg (b.map (Value.int .u8)).toArray)).run Tryz.prog W = .ok (decide (a = b)) W := by
  have e : ∀ l : List Int, Bytes l → l.map (Value.int .u8) = (l.map fun x => UInt8.ofNat x.toNat).map Extern.Stop.cell := by
    intro l hl
    rw [List.map_map]
    exact List.map_congr_left fun x hx' => toU8_cell x (hl x hx')
  rw [e a ha, e b hb, run_equalIn_bytes (P := Tryz.prog) W 9998 t 5 n ht Tryz.underlying5 u8_run _ _ (by simp [hla]) (by simp [hlb])]
  congr 1
  by_cases h : a = b
  · subst h; simp
  · rw [decide_eq_false h]
    refine beq_eq_false_iff_ne.2 (fun he => h ?_)
    have hl : a.length = b.length := hla.trans hlb.symm
    clear hla hlb e
    induction a generalizing b with
    | nil => cases b with
      | nil => rfl
      | cons _ _ => simp at hl
    | cons x a ih =>
      cases b with
      | nil => simp at hl
      | cons y b =>
        simp only [List.map_cons, List.cons.injEq] at he
        have hxy := toU8_inj (ha x (by simp)) (hb y (by simp)) he.1
        have := ih b (fun z hz => ha z (by simp [hz])) (fun z hz => hb z (by simp [hz])) (fun hh => h (by rw [hxy, hh])) he.2 (by simpa using hl)
        rw [hxy, this]
theorem quiet_eql {P : Program} {C : World → Prop} {a : Act} {o : Oper} {K : Act → Prop} (t t' : TypeId) (x y : Operand) (ho : o.op = .binOp .eql t x y t') (A B : Array Value) (hx : a.eval x = .agg A) (hy : a.eval y = .agg B) (r : Bool)
    (hE : ∀ W, (Op.equalIn 10000 t (.agg A) (.agg B)).run P W = .ok r W) (hm : P.eqGuardType P.depth t = false) (hk : K (a.put o.dst (.bool r))) : o.quiet P a C K :=
  ⟨.bool r, fun w _ => by
    have h : (execOp a.eval o).run P w = .ok (.value (.bool r)) w := by
      unfold execOp
      simp only [ho, hx, hy]
      simp only [Sem.run_bind, Sem.run_pure, run_eqGuard_agg _ _ _ _ _ _ _ hm, run_eql_struct, hE, Result.andThen_ok]
    unfold Oper.quietAt
    rw [h]
    exact ⟨rfl, rfl⟩, hk⟩
/-- a whole array, or struct, loaded in a region that only reads -/
theorem quiet_load_row {P : Program} {C : World → Prop} {a : Act} {o : Oper} {K : Act → Prop} (ty : TypeId) (x : Operand) (ho : o.op = .load ty x) (g off : Nat) (hx : a.eval x = .pointer (some ⟨g, off, none⟩)) (cs : List Value) (d : TypeDesc) (hg : ∀ W, C W → Row W g off cs)
    (hu : P.underlying ty = some d) (hd : (match d with | .struct _ | .array _ _ => true | _ => false) = true) (hi : (P.info? ty).map (·.size) = some cs.length) (hk : K (a.put o.dst (.agg cs.toArray))) : o.quiet P a C K :=
  ⟨.agg cs.toArray, fun w hw => by
    have h2 : (execOp a.eval o).run P w = .ok (.value (.agg cs.toArray)) w := by
      unfold execOp
      simp only [ho, hx, Instr.loadAt, Instr.sureAddr, Sem.run_bind, Sem.run_pure, Result.andThen_ok, run_loadVar_at w g off ty cs d (hg w hw) hu hd hi]
    unfold Oper.quietAt
    rw [h2]
    exact ⟨rfl, rfl⟩, hk⟩
theorem Row.cls {w : World} {g off : Nat} {vs : List Value} (h : Row w g off vs) : ∀ W, (∃ p : Regrown, W = Go.Sort.grow (redrawn w p.d) p.os) → Row W g off vs := fun W hC => by
  obtain ⟨p, rfl⟩ := hC
  exact h.keeps (below_regrown _ _ _)
theorem nm_wp_rows1 {P : Program} {c : Code} {Q : Exit → Act → World → Prop} {a : Act} {w : World} {A : Array Value} {T : TypeId}
    (h : ∀ W, Keeps w W → Row W w.heap.size 0 A.toList → W.heap.size = w.heap.size + 1 → Code.wp P c Q a W) :
    Code.wp P c Q a (w.alloc (.cells A T)) := by
  have h0 := Row.new (w := w) A.toList A T (by simp)
  exact h _ (nm_keeps_alloc (Keeps.refl w) _) h0 (by simp)
theorem expRes_length (x : Int) : (expRes x).length = 32 := by
  unfold expRes expand
  split
  · exact zero32_length
  · split
    · exact zero32_length
    · exact expB_length ..
theorem nm_zero32_bytes : Bytes nm_zero32 := by
  intro x hx
  obtain ⟨_, rfl⟩ := List.mem_replicate.1 hx
  exact ⟨by omega, by omega⟩
theorem expRes_bytes (x : Int) : Bytes (expRes x) := by
  unfold expRes expand
  split
  · exact nm_zero32_bytes
  · split
    · exact nm_zero32_bytes
    · exact expB_bytes _ _ _
theorem limitB_bytes : Bytes limitB := by unfold Bytes Byte; decide +kernel
theorem limitB_length : limitB.length = 32 := by decide +kernel
set_option maxRecDepth 100000 in
set_option maxHeartbeats 4000000 in
theorem limit_any (w : World) : Calls Tryz.prog 47 #[] w fun e w' => e = .returned (.agg (limitB.map (Value.int .u8)).toArray) ∧ Keeps w w' := by
  have hex : ∀ W, Calls Tryz.prog 45 #[.int .u32 545259519] W fun e w' => e = .returned (.tuple #[.agg (limitB.map (Value.int .u8)).toArray, .bool true]) ∧ Keeps W w' := fun W => by
    have := expand_any 545259519 (by decide) (by decide) W
    unfold expRes at this
    rw [limit_expand] at this
    exact this
  have hl9 := limitB_length
  generalize limitB = L at *
  have HEX := Lib.hid hex
  clear hex
  go_enter Tryz.func47, Tryz.ntmps47
  go_upto_region 1 with (fail)
  refine nm_wp_rows1 (fun W hk hr hs => ?_)
  obtain ⟨p, hp⟩ : ∃ p, p = w.heap.size := ⟨_, rfl⟩
  rw [← hp] at hr hs ⊢
  have hkp : w.heap.size ≤ p := by omega
  obtain ⟨Z, hZ, hrz⟩ : ∃ Z : List Value, Z.length = 32 ∧ Row W p 0 Z := ⟨_, rfl, hr⟩
  have HZ := Lib.hid hrz; have HK := Lib.hid hk
  clear hp hr hrz hk hs
  go_wp2_with (first | (go_at_call 45; refine (HEX.out _).mono ?_; rintro e W5 ⟨rfl, hk5⟩; have HK5 := Lib.hid hk5; clear hk5) | (refine wpList_store_row rfl 51 (.tmp 1) (.tmp 5) rfl _ 0 rfl (List.replicate 32 (Value.int .u8 0)) (L.map (Value.int .u8)) rfl (Row.new _ _ _ rfl) (by simp [hl9]) (sz_n32 L hl9) (int_oneCell _) ?_; intro w8 hr8 hc8; have H8 := Lib.hid hr8; have HC8 := Lib.hid hc8; clear hr8 hc8) | (refine wpList_load_at rfl 51 (.tmp 1) rfl _ 0 rfl (L.map (Value.int .u8)) _ H8.out Tryz.underlying51 rfl (sz_n32 L hl9) ?_) | (refine wpList_store_row rfl 51 (.tmp 0) (.tmp 7) rfl p 0 rfl Z (L.map (Value.int .u8)) rfl (((HZ.out.keeps HK5.out).alloc _).chg HC8.out (by have := HK5.out.size; have := HZ.out.lt (by intro e; rw [e] at hZ; simp at hZ); omega)) (by simp [hl9, hZ]) (sz_n32 L hl9) (int_oneCell _) ?_; intro w9 hr9 hc9; have H9 := Lib.hid hr9; have HC9 := Lib.hid hc9; clear hr9 hc9))
  exact bodyPost_ret (v := .agg (L.map (Value.int .u8)).toArray) (results_cell_at (p := 0) (ty := 51) rfl _ _ p 0 _ _ rfl H9.out Tryz.underlying51 rfl (sz_n32 L hl9)) rfl ⟨rfl, nm_keeps_chg (nm_keeps_chg (nm_keeps_alloc (HK.out.trans HK5.out) _) HC8.out (by have := (HK.out.trans HK5.out).size; omega)) HC9.out hkp⟩
/-- what Target hands back -/
def tgtRes (x : Int) : List Int := (target x).getD nm_zero32
def tgtErr (x : Int) : Int := if (target x).isSome then 0 else 3
theorem target_no (x : Int) (h : (expand x).isSome = false) : tgtRes x = nm_zero32 ∧ tgtErr x = 3 := by
  have : expand x = none := by simpa using h
  unfold tgtRes tgtErr target
  rw [this]
  exact ⟨rfl, rfl⟩
theorem target_bad (x : Int) (h : (expand x).isSome = true) (hb : expRes x = nm_zero32 ∨ be limitB < be (expRes x)) : tgtRes x = nm_zero32 ∧ tgtErr x = 3 := by
  obtain ⟨n, hn⟩ := Option.isSome_iff_exists.1 h
  unfold expRes at hb
  rw [hn] at hb
  have ht : target x = none := by
    unfold target
    rw [hn]
    exact if_pos hb
  unfold tgtRes tgtErr
  rw [ht]
  exact ⟨rfl, rfl⟩
theorem target_good (x : Int) (h : (expand x).isSome = true) (hb : ¬ (expRes x = nm_zero32 ∨ be limitB < be (expRes x))) : tgtRes x = expRes x ∧ tgtErr x = 0 := by
  obtain ⟨n, hn⟩ := Option.isSome_iff_exists.1 h
  have he : expRes x = n := by unfold expRes; rw [hn]; rfl
  rw [he] at hb
  have ht : target x = some n := by
    unfold target
    rw [hn]
    exact if_neg hb
  unfold tgtRes tgtErr
  rw [ht, he]
  exact ⟨rfl, rfl⟩
set_option maxRecDepth 100000 in
set_option maxHeartbeats 4000000 in
theorem target_any (x : Int) (h0 : 0 ≤ x) (h1 : x < 4294967296) (w : World) :
    Calls Tryz.prog 17 #[.int .u32 x] w fun e w' => e = .returned (.tuple #[.agg ((tgtRes x).map (Value.int .u8)).toArray, .int .i64 (tgtErr x)]) ∧ Keeps w w' := by
  have hex := expand_any x h0 h1
  have hl9 := expRes_length x
  have hz9 := zero32_length
  have hxb := expRes_bytes x
  have hno := target_no x
  have hbad := target_bad x
  have hgood := target_good x
  have hcmp := fun W => bcompare_any (expRes x) limitB hxb limitB_bytes hl9 limitB_length W
  have hlim := limit_any
  have hE := fun W => equal_bytes W 51 32 Tryz.underlying51 (expRes x) nm_zero32 hxb nm_zero32_bytes hl9 hz9
  generalize expRes x = R at *
  generalize (expand x).isSome = OK at *
  generalize tgtRes x = TR at *
  generalize tgtErr x = TE at *
  have hcz : (cmpZ (be R) (be limitB) > 0) ↔ (be limitB < be R) := by
    unfold cmpZ
    split
    · omega
    · split <;> omega
  generalize be limitB = LV at *
  generalize hRV : be R = RV at *
  clear hRV
  generalize cmpZ RV LV = CZ at *
  generalize limitB = LB at *
  have HEX := Lib.hid hex; have HXB := Lib.hid hxb; have HNO := Lib.hid hno; have HBAD := Lib.hid hbad; have HGOOD := Lib.hid hgood; have HCMP := Lib.hid hcmp; have HLIM := Lib.hid hlim; have HE := Lib.hid hE; have HCZ := Lib.hid hcz
  clear hex hxb hno hbad hgood hcmp hlim hE hcz
  go_enter Tryz.func17, Tryz.ntmps17
  go_upto_region 1 with (fail)
  refine nm_wp_rows1 (fun W hk hr hs => ?_)
  obtain ⟨p, hp⟩ : ∃ p, p = w.heap.size := ⟨_, rfl⟩
  rw [← hp] at hr hs ⊢
  have hkp : w.heap.size ≤ p := by omega
  have HZ := Lib.hid (show Row W p 0 (nm_zero32.map (Value.int .u8)) from hr); have HK := Lib.hid hk
  clear hp hr hk hs
  go_upto_region 2 with (first | (go_at_call 45; refine (HEX.out _).mono ?_; rintro e W5 ⟨rfl, hk5⟩; have HK5 := Lib.hid hk5; clear hk5) | (refine wpList_store_row rfl 51 (.tmp 4) (.tmp 9) rfl _ 0 rfl (List.replicate 32 (Value.int .u8 0)) (R.map (Value.int .u8)) rfl (Row.new _ _ _ rfl) (by simp [hl9]) (sz_n32 R hl9) (int_oneCell _) ?_; intro w8 hr8 hc8; have H8 := Lib.hid hr8; have HC8 := Lib.hid hc8; clear hr8 hc8))
  have hk8 : Keeps w w8 := nm_keeps_chg (nm_keeps_alloc (HK.out.trans HK5.out) _) HC8.out (by have := (HK.out.trans HK5.out).size; omega)
  have hz8 : Row w8 p 0 (nm_zero32.map (Value.int .u8)) := ((HZ.out.keeps HK5.out).alloc _).chg HC8.out (by have := HK5.out.size; have := HZ.out.lt (by intro e; have := congrArg List.length e; rw [List.length_map, hz9] at this; simp at this); omega)
  obtain ⟨g, hg⟩ : ∃ g, g = W5.heap.size := ⟨_, rfl⟩
  rw [← hg] at H8 HC8 ⊢
  have HK8 := Lib.hid hk8; have HZ8 := Lib.hid hz8
  clear hk8 hz8 hg HC8 HK5 HK HZ
  cases OK
  · obtain ⟨hq1, hq2⟩ := HNO.out rfl
    have HQ1 := Lib.hid hq1; have HQ2 := Lib.hid hq2
    clear hq1 hq2
    refine wp_region_quiet_below (by kernel_rfl) (by kernel_rfl) ?_
    repeat (first | go_big_quiet_skip | (refine BigFrame.wpQuiet_want (by kernel_rfl) (fun K hK => quiet_load_row 51 (.tmp 4) (by with_reducible rfl) g 0 rfl (R.map (Value.int .u8)) _ (H8.out).cls Tryz.underlying51 rfl (sz_n32 R hl9) (hK _ ?_)); simp only [Act.put, List.setIfInBounds_toArray, List.set_cons_zero, List.set_cons_succ]) | (refine BigFrame.wpQuiet_want (by kernel_rfl) (fun K hK => quiet_eql 51 51 (.tmp 14) (.tmp 15) (by with_reducible rfl) _ _ rfl rfl _ (HE.out) (by kernel_rfl) (hK _ ?_)); simp only [Act.put, List.setIfInBounds_toArray, List.set_cons_zero, List.set_cons_succ]) | go_big_quiet_step (first | (go_at_call 47; exact rgB (HLIM.out _)) | (go_at_call 46; exact rgB (HCMP.out _))) | quiet_step (first | (go_at_call 47; exact rgB (HLIM.out _)) | (go_at_call 46; exact rgB (HCMP.out _))))
    refine wpQuiet_nil ?_
    intro _ hw'
    obtain ⟨⟨dq, osq⟩, hw''⟩ := hw'
    subst hw''
    have hkq := below_regrown w8 dq osq
    generalize Go.Sort.grow (redrawn w8 dq) osq = wq at *
    have hz9' := HZ8.out.keeps hkq
    have HZ9 := Lib.hid hz9'
    clear hz9'
    go_wp2_with (refine wpList_store_row rfl 51 (.tmp 2) (.tmp 24) rfl p 0 rfl _ (nm_zero32.map (Value.int .u8)) rfl HZ9.out (by simp) (sz_n32 nm_zero32 hz9) (int_oneCell _) ?_; intro w9 hr9 hc9; have H9 := Lib.hid hr9; have HC9 := Lib.hid hc9; clear hr9 hc9)
    exact bodyPost_ret (v := .tuple #[.agg (nm_zero32.map (Value.int .u8)).toArray, .int .i64 3]) (results_cell_tmpB (p := 2) (t := 3) (ty := 51) rfl _ _ p 0 _ _ _ rfl rfl H9.out Tryz.underlying51 rfl (sz_n32 nm_zero32 hz9)) rfl ⟨by rw [HQ1.out, HQ2.out], nm_keeps_chg (HK8.out.trans hkq) HC9.out hkp⟩
  · by_cases hR : R = nm_zero32
    · obtain ⟨hq1, hq2⟩ := HBAD.out rfl (.inl hR)
      have HQ1 := Lib.hid hq1; have HQ2 := Lib.hid hq2
      clear hq1 hq2
      have hE1 : ∀ W, (Op.equalIn 10000 51 (.agg (R.map (Value.int .u8)).toArray) (.agg (nm_zero32.map (Value.int .u8)).toArray)).run Tryz.prog W = .ok true W := fun W => by
        rw [HE.out W, decide_eq_true hR]
      have HE1 := Lib.hid hE1
      clear hE1
      refine wp_region_quiet_below (by kernel_rfl) (by kernel_rfl) ?_
      repeat (first | go_big_quiet_skip | (refine BigFrame.wpQuiet_want (by kernel_rfl) (fun K hK => quiet_load_row 51 (.tmp 4) (by with_reducible rfl) g 0 rfl (R.map (Value.int .u8)) _ (H8.out).cls Tryz.underlying51 rfl (sz_n32 R hl9) (hK _ ?_)); simp only [Act.put, List.setIfInBounds_toArray, List.set_cons_zero, List.set_cons_succ]) | (refine BigFrame.wpQuiet_want (by kernel_rfl) (fun K hK => quiet_eql 51 51 (.tmp 14) (.tmp 15) (by with_reducible rfl) _ _ rfl rfl _ (HE1.out) (by kernel_rfl) (hK _ ?_)); simp only [Act.put, List.setIfInBounds_toArray, List.set_cons_zero, List.set_cons_succ]) | go_big_quiet_step (first | (go_at_call 47; exact rgB (HLIM.out _)) | (go_at_call 46; exact rgB (HCMP.out _))) | quiet_step (first | (go_at_call 47; exact rgB (HLIM.out _)) | (go_at_call 46; exact rgB (HCMP.out _))))
      refine wpQuiet_nil ?_
      intro _ hw'
      obtain ⟨⟨dq, osq⟩, hw''⟩ := hw'
      subst hw''
      have hkq := below_regrown w8 dq osq
      generalize Go.Sort.grow (redrawn w8 dq) osq = wq at *
      have hz9' := HZ8.out.keeps hkq
      have HZ9 := Lib.hid hz9'
      clear hz9'
      go_wp2_with (refine wpList_store_row rfl 51 (.tmp 2) (.tmp 24) rfl p 0 rfl _ (nm_zero32.map (Value.int .u8)) rfl HZ9.out (by simp) (sz_n32 nm_zero32 hz9) (int_oneCell _) ?_; intro w9 hr9 hc9; have H9 := Lib.hid hr9; have HC9 := Lib.hid hc9; clear hr9 hc9)
      exact bodyPost_ret (v := .tuple #[.agg (nm_zero32.map (Value.int .u8)).toArray, .int .i64 3]) (results_cell_tmpB (p := 2) (t := 3) (ty := 51) rfl _ _ p 0 _ _ _ rfl rfl H9.out Tryz.underlying51 rfl (sz_n32 nm_zero32 hz9)) rfl ⟨by rw [HQ1.out, HQ2.out], nm_keeps_chg (HK8.out.trans hkq) HC9.out hkp⟩
    · have hE1 : ∀ W, (Op.equalIn 10000 51 (.agg (R.map (Value.int .u8)).toArray) (.agg (nm_zero32.map (Value.int .u8)).toArray)).run Tryz.prog W = .ok false W := fun W => by
        rw [HE.out W, decide_eq_false hR]
      have HE1 := Lib.hid hE1
      clear hE1
      by_cases hG : CZ > 0
      · obtain ⟨hq1, hq2⟩ := HBAD.out rfl (.inr (HCZ.out.1 hG))
        have hd : decide (CZ > 0) = true := by simpa using hG
        have HQ1 := Lib.hid hq1; have HQ2 := Lib.hid hq2
        clear hq1 hq2
        refine wp_region_quiet_below (by kernel_rfl) (by kernel_rfl) ?_
        repeat (first | go_big_quiet_skip | (refine BigFrame.wpQuiet_want (by kernel_rfl) (fun K hK => quiet_load_row 51 (.tmp 4) (by with_reducible rfl) g 0 rfl (R.map (Value.int .u8)) _ (H8.out).cls Tryz.underlying51 rfl (sz_n32 R hl9) (hK _ ?_)); simp only [Act.put, List.setIfInBounds_toArray, List.set_cons_zero, List.set_cons_succ]) | (refine BigFrame.wpQuiet_want (by kernel_rfl) (fun K hK => quiet_eql 51 51 (.tmp 14) (.tmp 15) (by with_reducible rfl) _ _ rfl rfl _ (HE1.out) (by kernel_rfl) (hK _ ?_)); simp only [Act.put, List.setIfInBounds_toArray, List.set_cons_zero, List.set_cons_succ]) | go_big_quiet_step (first | (go_at_call 47; exact rgB (HLIM.out _)) | (go_at_call 46; exact rgB (HCMP.out _))) | quiet_step (first | (go_at_call 47; exact rgB (HLIM.out _)) | (go_at_call 46; exact rgB (HCMP.out _))))
        refine wpQuiet_nil ?_
        intro _ hw'
        obtain ⟨⟨dq, osq⟩, hw''⟩ := hw'
        subst hw''
        have hkq := below_regrown w8 dq osq
        generalize Go.Sort.grow (redrawn w8 dq) osq = wq at *
        have hz9' := HZ8.out.keeps hkq
        have HZ9 := Lib.hid hz9'
        clear hz9'
        go_wp2_with (refine wpList_store_row rfl 51 (.tmp 2) (.tmp 24) rfl p 0 rfl _ (nm_zero32.map (Value.int .u8)) rfl HZ9.out (by simp) (sz_n32 nm_zero32 hz9) (int_oneCell _) ?_; intro w9 hr9 hc9; have H9 := Lib.hid hr9; have HC9 := Lib.hid hc9; clear hr9 hc9)
        exact bodyPost_ret (v := .tuple #[.agg (nm_zero32.map (Value.int .u8)).toArray, .int .i64 3]) (results_cell_tmpB (p := 2) (t := 3) (ty := 51) rfl _ _ p 0 _ _ _ rfl rfl H9.out Tryz.underlying51 rfl (sz_n32 nm_zero32 hz9)) rfl ⟨by rw [HQ1.out, HQ2.out], nm_keeps_chg (HK8.out.trans hkq) HC9.out hkp⟩
      · have hd : decide (CZ > 0) = false := by simpa using hG
        obtain ⟨hq1, hq2⟩ := HGOOD.out rfl (fun h => h.elim hR (fun h => hG (HCZ.out.2 h)))
        have HQ1 := Lib.hid hq1; have HQ2 := Lib.hid hq2
        clear hq1 hq2
        refine wp_region_quiet_below (by kernel_rfl) (by kernel_rfl) ?_
        repeat (first | go_big_quiet_skip | (refine BigFrame.wpQuiet_want (by kernel_rfl) (fun K hK => quiet_load_row 51 (.tmp 4) (by with_reducible rfl) g 0 rfl (R.map (Value.int .u8)) _ (H8.out).cls Tryz.underlying51 rfl (sz_n32 R hl9) (hK _ ?_)); simp only [Act.put, List.setIfInBounds_toArray, List.set_cons_zero, List.set_cons_succ]) | (refine BigFrame.wpQuiet_want (by kernel_rfl) (fun K hK => quiet_eql 51 51 (.tmp 14) (.tmp 15) (by with_reducible rfl) _ _ rfl rfl _ (HE1.out) (by kernel_rfl) (hK _ ?_)); simp only [Act.put, List.setIfInBounds_toArray, List.set_cons_zero, List.set_cons_succ]) | go_big_quiet_step (first | (go_at_call 47; exact rgB (HLIM.out _)) | (go_at_call 46; exact rgB (HCMP.out _))) | quiet_step (first | (go_at_call 47; exact rgB (HLIM.out _)) | (go_at_call 46; exact rgB (HCMP.out _))))
        refine wpQuiet_nil ?_
        intro _ hw'
        obtain ⟨⟨dq, osq⟩, hw''⟩ := hw'
        subst hw''
        have hkq := below_regrown w8 dq osq
        generalize Go.Sort.grow (redrawn w8 dq) osq = wq at *
        have hz9' := HZ8.out.keeps hkq
        have hr9' := H8.out.keeps hkq
        have HZ9 := Lib.hid hz9'; have HR9 := Lib.hid hr9'
        clear hz9' hr9'
        go_wp2_with (first | (refine wpList_load_at rfl 51 (.tmp 4) rfl g 0 rfl (R.map (Value.int .u8)) _ HR9.out Tryz.underlying51 rfl (sz_n32 R hl9) ?_) | (refine wpList_store_row rfl 51 (.tmp 2) (.tmp 25) rfl p 0 rfl _ (R.map (Value.int .u8)) rfl HZ9.out (by simp [hl9, hz9]) (sz_n32 R hl9) (int_oneCell _) ?_; intro w9 hr9 hc9; have H9 := Lib.hid hr9; have HC9 := Lib.hid hc9; clear hr9 hc9))
        exact bodyPost_ret (v := .tuple #[.agg (R.map (Value.int .u8)).toArray, .int .i64 0]) (results_cell_tmpB (p := 2) (t := 3) (ty := 51) rfl _ _ p 0 _ _ _ rfl rfl H9.out Tryz.underlying51 rfl (sz_n32 R hl9)) rfl ⟨by rw [HQ1.out, HQ2.out], nm_keeps_chg (HK8.out.trans hkq) HC9.out hkp⟩
/-- the cells of a head -/
def headCells (ver : Int) (prev merkle : List Int) (t b n : Int) : List Value :=
  Value.int .i32 ver :: (prev.map (Value.int .u8) ++ (merkle.map (Value.int .u8) ++ [.int .u32 t, .int .u32 b, .int .u32 n]))
theorem headCells_ver (ver : Int) (prev merkle : List Int) (t b n : Int) : (headCells ver prev merkle t b n)[0]? = some (.int .i32 ver) := rfl
theorem headCells_at (ver : Int) (prev merkle : List Int) (t b n : Int) (hp : prev.length = 32) (hm : merkle.length = 32) :
    (headCells ver prev merkle t b n)[65]? = some (.int .u32 t) ∧ (headCells ver prev merkle t b n)[66]? = some (.int .u32 b) ∧ (headCells ver prev merkle t b n)[67]? = some (.int .u32 n) := by
  unfold headCells
  simp only [List.getElem?_cons_succ]
  refine ⟨?_, ?_, ?_⟩ <;> rw [List.getElem?_append_right (by simp [hp]), List.getElem?_append_right (by simp [hp, hm])] <;> simp [hp, hm]
theorem headCells_prev (ver : Int) (prev merkle : List Int) (t b n : Int) (hp : prev.length = 32) : ((headCells ver prev merkle t b n).drop 1).take 32 = prev.map (Value.int .u8) := by
  unfold headCells
  simp [hp]
theorem headCells_merkle (ver : Int) (prev merkle : List Int) (t b n : Int) (hp : prev.length = 32) (hm : merkle.length = 32) : ((headCells ver prev merkle t b n).drop 33).take 32 = merkle.map (Value.int .u8) := by
  unfold headCells
  rw [List.drop_succ_cons, List.drop_append_of_le_length (by simp [hp]), List.drop_eq_nil_of_le (by simp [hp])]
  simp [hm]
/-- a head's bytes -/
def headB (ver : Int) (prev merkle : List Int) (t b n : Int) : List Int := leB (ver % 4294967296) 4 ++ prev ++ merkle ++ leB t 4 ++ leB b 4 ++ leB n 4
def nm_U32 (x : Int) : Prop := 0 ≤ x ∧ x < 4294967296
theorem headB_eq (ver : Int) (prev merkle : List Int) (t b n : Int) : headB ver prev merkle t b n = [] ++ leB (ver % 4294967296) 4 ++ prev ++ merkle ++ leB t 4 ++ leB b 4 ++ leB n 4 := rfl
theorem Own.from' {w W W' : World} {v : Value} {n : Nat} {l : List Int} (h : Own W W' v n l) (hk : Keeps w W) : Own w W' v n l := ⟨hk.trans h.keeps, h.buf, fun g hg => Nat.le_trans hk.size (h.new g hg)⟩
theorem Row.rd {w : World} {g off : Nat} {vs : List Value} (h : Row w g off vs) (i n : Nat) (xs : List Value) (e : (vs.drop i).take n = xs) (hl : xs.length = n) (hn : 0 < n) (hb : n ≤ 100) : Rd w 1 (.slice (some ⟨g, off + i, none⟩) n n) n xs := by
  have h2 := (h.drop i).take n
  rw [e] at h2
  exact Rd.of_row h2 (by omega) (h2.lt (by intro e; rw [e] at hl; simp at hl; omega)) (Nat.le_refl _) (by unfold maxLen; omega)
set_option maxRecDepth 100000 in
set_option maxHeartbeats 4000000 in
theorem encodeHeader_any (ver : Int) (prev merkle : List Int) (t b n : Int) (hp : prev.length = 32) (hm : merkle.length = 32) (ht : nm_U32 t) (hb : nm_U32 b) (hn : nm_U32 n) (w : World) :
    Calls Tryz.prog 7 #[.agg (headCells ver prev merkle t b n).toArray] w fun e w' => ∃ v, e = .returned v ∧ Own w w' v 80 (headB ver prev merkle t b n) := by
  have hc0 := headCells_ver ver prev merkle t b n
  obtain ⟨hc1, hc2, hc3⟩ := headCells_at ver prev merkle t b n hp hm
  have hd1 := headCells_prev ver prev merkle t b n hp
  have hd2 := headCells_merkle ver prev merkle t b n hp hm
  generalize headCells ver prev merkle t b n = H at *
  have HC0 := Lib.hid hc0; have HC1 := Lib.hid hc1; have HC2 := Lib.hid hc2; have HC3 := Lib.hid hc3; have HD1 := Lib.hid hd1; have HD2 := Lib.hid hd2
  clear hc0 hc1 hc2 hc3 hd1 hd2
  have hver : IntKind.u32.wrap ver = ver % 4294967296 := by rw [IntKind.wrap_u32]
  have hv0 : 0 ≤ ver % 4294967296 := by omega
  have hv1 : ver % 4294967296 < 4294967296 := by omega
  have HBE := Lib.hid (headB_eq ver prev merkle t b n)
  generalize headB ver prev merkle t b n = HB at *
  go_enter Tryz.func7, Tryz.ntmps7
  go_upto_region 1 with (fail)
  refine nm_wp_rows1 (fun W hk hr hs => ?_)
  obtain ⟨p, hp'⟩ : ∃ p, p = w.heap.size := ⟨_, rfl⟩
  rw [← hp'] at hr hs ⊢
  have HR := Lib.hid (show Row W p 0 H from hr); have HK := Lib.hid hk; have HS := Lib.hid hs
  clear hr hk hs hp'
  go_upto_region 2 with (fail)
  have hw0 : WrAt W (W.alloc (.cells #[.slice none 0 0] 58)) W.heap.size (.slice none 0 0) 0 [] := ⟨(Own.nil W).step (nm_keeps_alloc (Keeps.refl _) _), Row.new _ _ _ rfl, Nat.le_refl _, by simp [Value.ownBlock]⟩
  obtain ⟨g, hg⟩ : ∃ g, g = W.heap.size := ⟨_, rfl⟩
  rw [← hg] at hw0 ⊢
  generalize W.alloc (.cells #[.slice none 0 0] 58) = W0 at *
  have HW0 := Lib.hid hw0
  have r0 := (HR.out.keeps hw0.own.keeps 0 _ HC0.out).1
  clear hw0 hg
  go_upto_region 3 with (go_at_call 26; refine (wu32_any W g _ _ _ (ver % 4294967296) hv0 hv1 (by omega) _ HW0.out).mono ?_; rintro e W1 ⟨rfl, v1, hv1', hg1⟩; have HW1 := Lib.hid hv1'; clear hv1' hg1)
  have rd1 : Rd W1 1 (.slice (some ⟨p, 1, none⟩) 32 32) 32 (prev.map (Value.int .u8)) := by
    have := (HR.out.keeps HW1.out.own.keeps).rd 1 32 _ HD1.out (by simp [hp]) (by omega) (by omega)
    rwa [Nat.zero_add] at this
  have RD1 := Lib.hid rd1
  clear rd1
  go_upto_region 4 with (go_at_call 21; refine (wraw_any W g _ _ _ _ 32 prev (by omega) _ HW1.out RD1.out).mono ?_; rintro e W2 ⟨rfl, v2, hv2', hg2⟩; have HW2 := Lib.hid hv2'; clear hv2' hg2)
  have rd2 : Rd W2 1 (.slice (some ⟨p, 33, none⟩) 32 32) 32 (merkle.map (Value.int .u8)) := by
    have := (HR.out.keeps HW2.out.own.keeps).rd 33 32 _ HD2.out (by simp [hm]) (by omega) (by omega)
    rwa [Nat.zero_add] at this
  have RD2 := Lib.hid rd2
  clear rd2
  go_upto_region 5 with (go_at_call 21; refine (wraw_any W g _ _ _ _ 32 merkle (by omega) _ HW2.out RD2.out).mono ?_; rintro e W3 ⟨rfl, v3, hv3', hg3⟩; have HW3 := Lib.hid hv3'; clear hv3' hg3)
  have r3 := (HR.out.keeps HW3.out.own.keeps 65 _ HC1.out).1
  rw [Nat.zero_add] at r3
  go_upto_region 6 with (go_at_call 26; refine (wu32_any W g _ _ _ t ht.1 ht.2 (by omega) _ HW3.out).mono ?_; rintro e W4 ⟨rfl, v4, hv4', hg4⟩; have HW4 := Lib.hid hv4'; clear hv4' hg4)
  have r4 := (HR.out.keeps HW4.out.own.keeps 66 _ HC2.out).1
  rw [Nat.zero_add] at r4
  go_upto_region 7 with (go_at_call 26; refine (wu32_any W g _ _ _ b hb.1 hb.2 (by omega) _ HW4.out).mono ?_; rintro e W5 ⟨rfl, v5, hv5', hg5⟩; have HW5 := Lib.hid hv5'; clear hv5' hg5)
  have r5 := (HR.out.keeps HW5.out.own.keeps 67 _ HC3.out).1
  rw [Nat.zero_add] at r5
  go_upto_region 8 with (go_at_call 26; refine (wu32_any W g _ _ _ n hn.1 hn.2 (by omega) _ HW5.out).mono ?_; rintro e W6 ⟨rfl, v6, hv6', hg6⟩; have HW6 := Lib.hid hv6'; clear hv6' hg6)
  go_wp2_with (go_at_call 25; refine (wout_any W g _ _ _ (by omega) _ HW6.out).mono ?_; rintro e W7 ⟨v7, rfl, hv7⟩; have HW7 := Lib.hid hv7; clear hv7)
  go_ret
  refine ⟨_, rfl, ?_⟩
  have hfin := HW7.out.from' (HK.out.trans HW6.out.own.keeps)
  rw [HBE.out]
  exact hfin
section
variable {P : Program} {ops : Array Oper} {rest : List Oper} {a : Act} {w : World} {Q : Exit → Act → World → Prop} {d : Option Tmp} {y : TypeId} {p : String} {af : Array Edge} {gd : Option (Nat × Bool)}
theorem gate_load (t : TypeId) (x : Operand) (h : wpList P ops Q (⟨d, .load t x, y, p, af, gd⟩ :: rest) a w) : wpList P ops Q (⟨d, .load t x, y, p, af, gd⟩ :: rest) a w := h
theorem gate_store (t : TypeId) (x z : Operand) (h : wpList P ops Q (⟨d, .store t x z, y, p, af, gd⟩ :: rest) a w) : wpList P ops Q (⟨d, .store t x z, y, p, af, gd⟩ :: rest) a w := h
theorem gate_bin (b : BinOp) (t t' : TypeId) (x z : Operand) (h : wpList P ops Q (⟨d, .binOp b t x z t', y, p, af, gd⟩ :: rest) a w) : wpList P ops Q (⟨d, .binOp b t x z t', y, p, af, gd⟩ :: rest) a w := h
theorem gate_build (t : TypeId) (xs : Array (Nat × Operand)) (h : wpList P ops Q (⟨d, .build t xs, y, p, af, gd⟩ :: rest) a w) : wpList P ops Q (⟨d, .build t xs, y, p, af, gd⟩ :: rest) a w := h
end
end Go.Proofs.YtcodpdpeklammaaGreatDoor
namespace Go.Proofs.YtcodpdpeklammaaGreatDoor
set_option linter.unusedVariables false
set_option linter.unusedSimpArgs false
open Go Go.RowKit
section
variable {P : Program} {ops : Array Oper} {rest : List Oper} {a : Act} {w : World} {Q : Exit → Act → World → Prop} {d : Option Tmp} {y : TypeId} {p : String} {af : Array Edge} {gd : Option (Nat × Bool)}
theorem gate_bs (t : TypeId) (n : Nat) (xs : Array (Nat × Operand)) (h : wpList P ops Q (⟨d, .buildSlice t n xs, y, p, af, gd⟩ :: rest) a w) : wpList P ops Q (⟨d, .buildSlice t n xs, y, p, af, gd⟩ :: rest) a w := h
theorem gate_app (args : Array Operand) (ts : Array TypeId) (h : wpList P ops Q (⟨d, .call { callee := .builtin .append, args := args, argTypes := ts }, y, p, af, gd⟩ :: rest) a w) : wpList P ops Q (⟨d, .call { callee := .builtin .append, args := args, argTypes := ts }, y, p, af, gd⟩ :: rest) a w := h
end
/-- its blocks: the result, the place, the transaction -/
structure DSt (p : Nat) (W : World) (bv : Value) (k : Nat) (e : Int) (a b c d : Value) : Prop where
  res : Row W p 0 [.int .i32 0, .slice none 0 0, .slice none 0 0, .int .u32 0]
  loc : Row W (p + 1) 0 [bv, .int .i64 k, .int .i64 e]
  tx : Row W (p + 1 + 1) 0 [a, b, c, d]
  lt : p + 3 ≤ W.heap.size
theorem DSt.keeps {p : Nat} {W W' : World} {bv : Value} {k : Nat} {e : Int} {a b c d : Value} (h : DSt p W bv k e a b c d) (hk : Keeps W W') : DSt p W' bv k e a b c d :=
  ⟨h.res.keeps hk, h.loc.keeps hk, h.tx.keeps hk, Nat.le_trans h.lt hk.size⟩
theorem DSt.far {X : Nat → Prop} {p : Nat} {W W' : World} {bv : Value} {k : Nat} {e : Int} {a b c d : Value} (h : DSt p W bv k e a b c d) (hc : Chg X W W') (hx : ∀ g, X g → p + 3 ≤ g) : DSt p W' bv k e a b c d :=
  ⟨h.res.chg hc (fun h => by have := hx _ h; omega), h.loc.chg hc (fun h => by have := hx _ h; omega), h.tx.chg hc (fun h => by have := hx _ h; omega), Nat.le_trans h.lt hc.size⟩
/-- the place written anew -/
theorem DSt.go {p : Nat} {W W' : World} {bv : Value} {k k' : Nat} {e e' : Int} {a b c d : Value} (h : DSt p W bv k e a b c d) (hc : Chg (· = p + 1) W W') (hr : Row W' (p + 1) 0 [bv, .int .i64 k', .int .i64 e']) : DSt p W' bv k' e' a b c d :=
  ⟨h.res.chg hc (by omega), hr, h.tx.chg hc (by omega), Nat.le_trans h.lt hc.size⟩
theorem DSt.put {p : Nat} {W : World} {bv : Value} {k : Nat} {e : Int} {a b c d a' b' c' d' : Value} (h : DSt p W bv k e a b c d) (i : Nat) (hi : i < 4) (u : Value) (hu : [a, b, c, d].set i u = [a', b', c', d']) : DSt p (W.setCell ⟨p + 1 + 1, i, none⟩ u) bv k e a' b' c' d' := by
  refine ⟨h.res.other (by show p ≠ p + 1 + 1; omega) u, h.loc.other (by show p + 1 ≠ p + 1 + 1; omega) u, ?_, by simpa using h.lt⟩
  have := h.tx.set i (by simpa using hi) u
  rwa [Nat.zero_add, hu] at this
theorem DSt.cells {p : Nat} {W : World} {bv : Value} {k : Nat} {e : Int} {a b c d : Value} (h : DSt p W bv k e a b c d) :
    (W.cell? ⟨p + 1, 0, none⟩ = some bv ∧ W.cell? ⟨p + 1, 1, none⟩ = some (.int .i64 k) ∧ W.cell? ⟨p + 1, 2, none⟩ = some (.int .i64 e)) ∧ W.frozen? ⟨p + 1, 2, none⟩ = false := by
  obtain ⟨h1, _, h3⟩ := h.loc.cell3
  exact ⟨h1, h3⟩
theorem DSt.tcells {p : Nat} {W : World} {bv : Value} {k : Nat} {e : Int} {a b c d : Value} (h : DSt p W bv k e a b c d) :
    (W.cell? ⟨p + 1 + 1, 0, none⟩ = some a ∧ W.cell? ⟨p + 1 + 1, 1, none⟩ = some b ∧ W.cell? ⟨p + 1 + 1, 2, none⟩ = some c ∧ W.cell? ⟨p + 1 + 1, 3, none⟩ = some d) ∧ W.frozen? ⟨p + 1 + 1, 0, none⟩ = false ∧ W.frozen? ⟨p + 1 + 1, 1, none⟩ = false ∧ W.frozen? ⟨p + 1 + 1, 2, none⟩ = false ∧ W.frozen? ⟨p + 1 + 1, 3, none⟩ = false := by
  refine ⟨h.tx.cell4, ?_, ?_, ?_, ?_⟩
  · have := (h.tx 0 _ rfl).2; simpa using this
  · have := (h.tx 1 _ rfl).2; simpa using this
  · have := (h.tx 2 _ rfl).2; simpa using this
  · have := (h.tx 3 _ rfl).2; simpa using this
/-- what stands below its own memory -/
def DX (p : Nat) (k : Nat) : Prop := k = p + 1 ∨ k = p + 1 + 1
theorem DX.keeps {p : Nat} {W W' : World} (h : Keeps W W') : Chg (DX p) W W' := h.chg _
theorem DX.one {p : Nat} {W W' : World} (h : Chg (· = p + 1) W W') : Chg (DX p) W W' := h.mono (fun _ _ e => .inl e)
theorem DX.two {p : Nat} {W W' : World} (h : Chg (· = p + 1 + 1) W W') : Chg (DX p) W W' := h.mono (fun _ _ e => .inr e)
theorem DX.low {p k : Nat} (h : DX p k) : p < k ∧ k < p + 3 := by rcases h with h | h <;> omega
theorem DX.kept {p : Nat} {w W W' : World} (h : Keeps w W) (hc : Chg (DX p) W W') (hp : p = w.heap.size) : Keeps w W' := h.trans' hc (fun k hk => by have := hk.low; omega)
/-- and a block of its own -/
def XQ (p q : Nat) (k : Nat) : Prop := DX p k ∨ k = q
theorem XQ.keeps {p q : Nat} {W W' : World} (h : Keeps W W') : Chg (XQ p q) W W' := h.chg _
theorem XQ.low {p q : Nat} {W W' : World} (h : Chg (DX p) W W') : Chg (XQ p q) W W' := h.mono (fun _ _ e => .inl e)
theorem XQ.own {p q : Nat} {W W' : World} (h : Chg (· = q) W W') : Chg (XQ p q) W W' := h.mono (fun _ _ e => .inr e)
theorem XQ.kept {p q : Nat} {w W W' : World} (h : Keeps w W) (hc : Chg (XQ p q) W W') (hp : p = w.heap.size) (hq : p + 3 ≤ q) : Keeps w W' := h.trans' hc (fun k hk => by rcases hk with hk | hk; have := hk.low; omega; omega)
theorem wp_rows1r {P : Program} {c : Code} {Q : Exit → Act → World → Prop} {a : Act} {w : World} {A : Array Value} {T : TypeId}
    (h : ∀ W, Keeps w W → Row W w.heap.size 0 A.toList → W.heap.size = w.heap.size + 1 → Code.wp P c Q a W) : Code.wp P c Q a (w.alloc (.cells A T)) :=
  h _ (keeps_alloc (Keeps.refl w) _) (Row.new A.toList A T (by simp)) (by simp)
theorem row_get {w : World} {b : Nat} {cs : List Value} (h : Row w b 0 cs) (j : Nat) (hj : j < cs.length) : ∃ u, w.cell? ⟨b, j, none⟩ = some u ∧ w.frozen? ⟨b, j, none⟩ = false := by
  have := h j cs[j] (List.getElem?_eq_getElem hj)
  rw [Nat.zero_add] at this
  exact ⟨_, this⟩
/-- the hash as far as it is copied -/
def hashAt (h : List Int) (j : Nat) : List Int := h.take j ++ List.replicate (32 - j) 0
theorem hashAt_zero (h : List Int) : hashAt h 0 = List.replicate 32 0 := by simp [hashAt]
theorem hashAt_len {h : List Int} {j : Nat} (hj : j ≤ h.length) (hl : h.length ≤ 32) : (hashAt h j).length = 32 := by simp [hashAt]; omega
theorem hashAt_set {h : List Int} {j : Nat} (hj : j < h.length) (hl : h.length ≤ 32) : (hashAt h j).set j (h.getD j 0) = hashAt h (j + 1) := by
  unfold hashAt
  have h1 : 32 - j = (32 - (j + 1)) + 1 := by omega
  have h2 : (h.take j).length = j := by simp; omega
  rw [h1, List.replicate_succ, List.set_append_right _ _ (by omega), h2, Nat.sub_self, List.set_cons_zero, List.take_succ_eq_append_getElem hj]
  simp only [List.append_assoc, List.cons_append, List.nil_append, List.getD, List.getElem?_eq_getElem hj, Option.getD_some]
theorem hashAt_all {h : List Int} (hl : h.length = 32) : hashAt h h.length = h := by unfold hashAt; rw [hl]; simp [List.take_of_length_le (show h.length ≤ 32 by omega)]
theorem hashAt_bytes {h : List Int} (hb : Bytes h) (j : Nat) : Bytes (hashAt h j) := by
  intro x hx
  rcases List.mem_append.1 hx with hx | hx
  · exact hb x (List.mem_of_mem_take hx)
  · rw [(List.mem_replicate.1 hx).2]; exact ⟨by omega, by omega⟩
theorem inCells_setH (d : InD) (sv wv : Value) (j : Nat) (b : Int) (h : d.hash.length = 32) (hj : j < 32) : (inCells d sv wv).set j (.int .u8 b) = inCells { d with hash := d.hash.set j b } sv wv := by
  unfold inCells
  rw [List.set_append_left _ _ (by simp [h]; omega), List.map_set]
theorem zeroIn_eq : zeroIn = inCells ⟨hashAt [] 0, 0, [], 0, []⟩ (.slice none 0 0) (.slice none 0 0) := by
  rw [hashAt_zero]; rfl
theorem hashAt_nil (h : List Int) : hashAt [] 0 = hashAt h 0 := by rw [hashAt_zero, hashAt_zero]
/-! a list of inputs whose witnesses are being read: those before i are there; that of i has value v; those behind are nil -/
structure WitI (base N : Nat) (W : World) (iv : Value) (l : List InD) (i : Nat) (v : Value) (cs : List Value) (ps : List (Value × Value)) : Prop where
  rd : Rd W 36 iv l.length cs
  plen : ps.length = l.length
  each : ∀ (m : Nat) (q : Value × Value) (d : InD), ps[m]? = some q → l[m]? = some d → d.Ok ∧ RB (FrN base N iv) W q.1 d.script ∧ (m < i → RLL (FrN base N iv) (FrN base N iv) W q.2 d.wit) ∧ (m = i → q.2 = v) ∧ (i < m → q.2 = .slice none 0 0 ∧ d.wit = []) ∧ (cs.drop (m * 36)).take 36 = inCells d q.1 q.2
  own : ∀ k, iv.ownBlock = some k → base ≤ k ∧ k < N
  top : N ≤ W.heap.size
  small : l.length * 96 ≤ 140737488355328
theorem WitI.chg {X : Nat → Prop} {base N : Nat} {W W' : World} {iv : Value} {l : List InD} {i : Nat} {v : Value} {cs : List Value} {ps : List (Value × Value)} (h : WitI base N W iv l i v cs ps) (hc : Chg X W W') (hx : ∀ k, X k → k < base ∨ N ≤ k) : WitI base N W' iv l i v cs ps := by
  have hS : ∀ g, FrN base N iv g → ¬ X g := fun g hg hxg => by have h1 := hx g hxg; have h2 := hg.1; have h3 := hg.2.1; omega
  refine ⟨h.rd.chg hc (fun g e hxg => by have h1 := hx g hxg; have h2 := h.own g e; omega), h.plen, fun m q d hq hd => ?_, h.own, Nat.le_trans h.top hc.size, h.small⟩
  obtain ⟨a1, a2, a3, a4, a5, a6⟩ := h.each m q d hq hd
  exact ⟨a1, a2.chg hc hS, fun hm => (a3 hm).chg hc hS hS, a4, a5, a6⟩
theorem WitI.up {base N N' : Nat} {W : World} {iv : Value} {l : List InD} {i : Nat} {v : Value} {cs : List Value} {ps : List (Value × Value)} (h : WitI base N W iv l i v cs ps) (hN : N ≤ N') (hT : N' ≤ W.heap.size) : WitI base N' W iv l i v cs ps := by
  have hS : ∀ g, FrN base N iv g → FrN base N' iv g := fun g hg => ⟨hg.1, Nat.lt_of_lt_of_le hg.2.1 hN, hg.2.2⟩
  refine ⟨h.rd, h.plen, fun m q d hq hd => ?_, fun k e => ⟨(h.own k e).1, Nat.lt_of_lt_of_le (h.own k e).2 hN⟩, hT, h.small⟩
  obtain ⟨a1, a2, a3, a4, a5, a6⟩ := h.each m q d hq hd
  exact ⟨a1, a2.mono hS, fun hm => (a3 hm).mono hS hS, a4, a5, a6⟩
/-- the cell of i's list -/
theorem WitI.at {base N : Nat} {W : World} {a : Option Addr} {n cap : Nat} {l : List InD} {i : Nat} {v : Value} {cs : List Value} {ps : List (Value × Value)} (h : WitI base N W (.slice a n cap) l i v cs ps) (hi : i < l.length) :
    ∃ g off d, a = some ⟨g, off, none⟩ ∧ base ≤ g ∧ g < N ∧ l[i]? = some d ∧ (W.cell? ⟨g, off + i * 36 + 35, none⟩ = some v ∧ W.frozen? ⟨g, off + i * 36 + 35, none⟩ = false) := by
  have hp : ps[i]? = some (ps[i]'(by rw [h.plen]; exact hi)) := List.getElem?_eq_getElem (by rw [h.plen]; exact hi)
  have hd : l[i]? = some (l[i]'hi) := List.getElem?_eq_getElem hi
  obtain ⟨a1, _, _, a4, _, a6⟩ := h.each i _ _ hp hd
  obtain ⟨h0, a', cap', e, h2, h3, h4, h5⟩ := h.rd
  cases e
  cases a with
  | none => have := h4 rfl; omega
  | some ad =>
    obtain ⟨g, off, rfl, hg, hr⟩ := h5 _ rfl (by omega)
    have hw := h.own g rfl
    have hrow := (hr.drop (i * 36)).take 36
    rw [a6, a4 rfl] at hrow
    exact ⟨g, off, _, rfl, hw.1, hw.2, hd, at35 hrow a1.hashLen⟩
theorem WitI.put {base N : Nat} {W : World} {g off n cap : Nat} {l : List InD} {i : Nat} {v v' : Value} {cs : List Value} {ps : List (Value × Value)} (h : WitI base N W (.slice (some ⟨g, off, none⟩) n cap) l i v cs ps) (hi : i < l.length) :
    ∃ cs' ps', WitI base N (W.setCell ⟨g, off + i * 36 + 35, none⟩ v') (.slice (some ⟨g, off, none⟩) n cap) l i v' cs' ps' := by
  obtain ⟨p1, hp⟩ : ∃ p1, ps[i]? = some p1 := ⟨_, List.getElem?_eq_getElem (show i < ps.length by rw [h.plen]; exact hi)⟩
  obtain ⟨h0, a', cap', e, h2, h3, h4, h5⟩ := h.rd
  cases e
  obtain ⟨g', off', e2, hg, hr⟩ := h5 _ rfl (by omega)
  cases e2
  have hx : Chg (· = g) W (W.setCell ⟨g, off + i * 36 + 35, none⟩ v') := Chg.cell g _ _
  have hS : ∀ b, FrN base N (.slice (some ⟨g, off, none⟩) l.length cap) b → ¬ b = g := fun b hb e => hb.2.2 (by rw [e]; rfl)
  have hrow2 := hr.set (i * 36 + 35) (by omega) v'
  rw [← Nat.add_assoc] at hrow2
  refine ⟨cs.set (i * 36 + 35) v', ps.set i (p1.1, v'), ⟨by simp [h0], _, cap, rfl, h2, h3, fun e => (by cases e), fun ad e _ => ⟨g, off, (Option.some.inj e).symm, by simpa using hg, hrow2⟩⟩, by simp [h.plen], ?_, h.own, by simpa using h.top, h.small⟩
  intro m q d hq hd
  by_cases hm : m = i
  · subst hm
    rw [List.getElem?_set_self (by rw [h.plen]; exact hi)] at hq
    cases hq
    obtain ⟨a1, a2, _, _, _, a6⟩ := h.each m p1 d hp hd
    refine ⟨a1, a2.chg hx hS, fun h => absurd h (Nat.lt_irrefl _), fun _ => rfl, fun h => absurd h (Nat.lt_irrefl _), ?_⟩
    rw [seg_set _ _ _ _ _ _ (by omega), if_pos rfl, a6]
    exact inCells_set35 d _ _ _ d.wit a1.hashLen
  · rw [List.getElem?_set_ne (Ne.symm hm)] at hq
    obtain ⟨a1, a2, a3, a4, a5, a6⟩ := h.each m q d hq hd
    refine ⟨a1, a2.chg hx hS, fun h => (a3 h).chg hx hS hS, fun h => absurd h hm, a5, ?_⟩
    rw [seg_set _ _ _ _ _ _ (by omega), if_neg hm]
    exact a6
/-- i's list is whole -/
theorem WitI.close {base N N' : Nat} {W : World} {iv : Value} {l : List InD} {i : Nat} {v : Value} {cs : List Value} {ps : List (Value × Value)} {d : InD} {ws : List (List Int)} (h : WitI base N W iv l i v cs ps) (hd : l[i]? = some d) (hN : N ≤ N') (hT : N' ≤ W.heap.size) (hw : RLL (FrN base N' iv) (FrN base N' iv) W v ws) :
    WitI base N' W iv (l.set i { d with wit := ws }) (i + 1) (.slice none 0 0) cs ps := by
  have hil : i < l.length := (List.getElem?_eq_some_iff.1 hd).1
  have h' := h.up hN hT
  refine ⟨by rw [List.length_set]; exact h'.rd, by rw [List.length_set]; exact h'.plen, ?_, h'.own, h'.top, by rw [List.length_set]; exact h'.small⟩
  intro m q dm hq hdm
  by_cases hm : i = m
  · subst hm
    rw [List.getElem?_set_self hil] at hdm
    cases hdm
    obtain ⟨a1, a2, _, a4, _, a6⟩ := h'.each i q d hq hd
    exact ⟨⟨a1.hashLen, a1.hash, a1.index, a1.seq⟩, a2, fun _ => by rw [a4 rfl]; exact hw, fun h => by omega, fun h => by omega, a6⟩
  · rw [List.getElem?_set_ne hm] at hdm
    obtain ⟨a1, a2, a3, a4, a5, a6⟩ := h'.each m q dm hq hdm
    exact ⟨a1, a2, fun h => a3 (by omega), fun h => (a5 (by omega)).1, fun h => a5 (by omega), a6⟩
theorem WitI.all {base N : Nat} {W : World} {iv : Value} {l : List InD} {v : Value} {cs : List Value} {ps : List (Value × Value)} (h : WitI base N W iv l l.length v cs ps) : GotI base N W iv l :=
  ⟨cs, ps, ⟨h.rd, h.plen, fun m q d hq hd => by
    obtain ⟨a1, a2, a3, _, _, a6⟩ := h.each m q d hq hd
    exact ⟨⟨a1, a2, a3 (List.getElem?_eq_some_iff.1 hd).1⟩, a6⟩, h.small, fun g e => e⟩, h.own, h.top⟩
/-- at the start no witness is there -/
theorem WitI.start {S T : Nat → Prop} {base : Nat} {W : World} {iv : Value} {l : List InD} {cs : List Value} {ps : List (Value × Value)} (h : OwnI S T base W iv l cs ps) (hl : l.length * 96 ≤ 140737488355328) (hn : ∀ q ∈ ps, q.2 = .slice none 0 0) (hw : ∀ d ∈ l, d.wit = []) :
    WitI base W.heap.size W iv l 0 (.slice none 0 0) cs ps :=
  ⟨h.buf.rd, h.plen, fun m q d hq hd => by
    obtain ⟨a1, a2⟩ := h.each m q d hq hd
    have hq' := hn q (List.mem_of_getElem? hq)
    exact ⟨a1.ok, a1.script.mono (fun g hg => h.fresh g (.inl hg)), fun h => absurd h (Nat.not_lt_zero _), fun _ => hq', fun _ => ⟨hq', hw d (List.mem_of_getElem? hd)⟩, a2⟩, fun k e => ⟨h.new k e, h.buf.lt e⟩, Nat.le_refl _, hl⟩
theorem WitI.plain {base N : Nat} {W : World} {iv : Value} {l : List InD} {v : Value} {cs : List Value} {ps : List (Value × Value)} (h : WitI base N W iv l 0 (.slice none 0 0) cs ps) (hw : ∀ d ∈ l, d.wit = []) : GotI base N W iv l :=
  ⟨cs, ps, ⟨h.rd, h.plen, fun m q d hq hd => by
    obtain ⟨a1, a2, _, a4, a5, a6⟩ := h.each m q d hq hd
    have hq' : q.2 = .slice none 0 0 := by
      by_cases hm : m = 0
      · exact a4 hm
      · exact (a5 (by omega)).1
    refine ⟨⟨a1, a2, ?_⟩, a6⟩
    rw [hq', hw d (List.mem_of_getElem? hd)]
    exact (nil_rll _).mono (fun _ h => h.elim) (fun _ h => h.elim), h.small, fun g e => e⟩, h.own, h.top⟩
end Go.Proofs.YtcodpdpeklammaaGreatDoor
