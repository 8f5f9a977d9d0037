/- strongboxlaw09.TxChecks: the walk. -/
import Derived.Test.YtjfkkdkmpnpmpaaTxAwake
import Derived.Lib.QuietBelow
namespace Go.Proofs.Ytjfkkdkmpnpmpaa
set_option linter.unusedVariables false
set_option linter.unusedSimpArgs false
open Go Go.RowKit

theorem rgB {f : FuncId} {args : Array Value} {W : World} {p : Regrown} {v : Value} (h : Calls Try.prog f args (Go.Sort.grow (redrawn W p.d) p.os) fun e w' => e = .returned v ∧ Keeps (Go.Sort.grow (redrawn W p.d) p.os) w') :
    Calls Try.prog f args (Go.Sort.grow (redrawn W p.d) p.os) fun e w'' => e = .returned v ∧ ∃ q : Regrown, w'' = Go.Sort.grow (redrawn W q.d) q.os := Calls.regrown_of h
theorem below_regrownB (W : World) (d : Nat) (os : Array Obj) : Keeps W (Go.Sort.grow (redrawn W d) os) := by
  have := below_regrown W d os
  exact this
theorem quiet_eql {P : Program} {C : World → Prop} {a : Act} {o : Oper} {K : Act → Prop} (t t' : TypeId) (x y : Operand) (ho : o.op = .binOp .eql t x y t') (A B : Array Value) (hx : a.eval x = .agg A) (hy : a.eval y = .agg B) (r : Bool)
    (hE : ∀ W, (Op.equalIn 10000 t (.agg A) (.agg B)).run P W = .ok r W) (hm : P.eqGuardType P.depth t = false) (hk : K (a.put o.dst (.bool r))) : o.quiet P a C K :=
  ⟨.bool r, fun w _ => by
    have h : (execOp a.eval o).run P w = .ok (.value (.bool r)) w := by
      unfold execOp
      simp only [ho, hx, hy]
      simp only [Sem.run_bind, Sem.run_pure, run_eqGuard_agg _ _ _ _ _ _ _ hm, run_eql_struct, hE, Result.andThen_ok]
    unfold Oper.quietAt
    rw [h]
    exact ⟨rfl, rfl⟩, hk⟩
/-- a whole array, or struct, loaded in a region that only reads -/
theorem quiet_load_row {P : Program} {C : World → Prop} {a : Act} {o : Oper} {K : Act → Prop} (ty : TypeId) (x : Operand) (ho : o.op = .load ty x) (g off : Nat) (hx : a.eval x = .pointer (some ⟨g, off, none⟩)) (cs : List Value) (d : TypeDesc) (hg : ∀ W, C W → Row W g off cs)
    (hu : P.underlying ty = some d) (hd : (match d with | .struct _ | .array _ _ => true | _ => false) = true) (hi : (P.info? ty).map (·.size) = some cs.length) (hk : K (a.put o.dst (.agg cs.toArray))) : o.quiet P a C K :=
  ⟨.agg cs.toArray, fun w hw => by
    have h2 : (execOp a.eval o).run P w = .ok (.value (.agg cs.toArray)) w := by
      unfold execOp
      simp only [ho, hx, Instr.loadAt, Instr.sureAddr, Sem.run_bind, Sem.run_pure, Result.andThen_ok, run_loadVar_at w g off ty cs d (hg w hw) hu hd hi]
    unfold Oper.quietAt
    rw [h2]
    exact ⟨rfl, rfl⟩, hk⟩
theorem Row.cls {w : World} {g off : Nat} {vs : List Value} (h : Row w g off vs) : ∀ W, (∃ p : Regrown, W = Go.Sort.grow (redrawn w p.d) p.os) → Row W g off vs := fun W hC => by
  obtain ⟨p, rfl⟩ := hC
  exact h.keeps (below_regrown _ _ _)
open Classical in
noncomputable def chkV (d : TxD) : Int := if h : ∃ r, Chk d r then h.choose else 0
theorem chkV_eq {d : TxD} {r : Int} (h : Chk d r) : r = chkV d := by
  have h2 : ∃ r, Chk d r := ⟨r, h⟩
  unfold chkV
  rw [dif_pos h2]
  exact h.fn h2.choose_spec
set_option maxRecDepth 100000 in
set_option maxHeartbeats 4000000 in
theorem checks_any (d : TxD) (iv ov : Value) (hh tt : Int) (hhh : I64 hh) (htt : U32 tt) (w : World) (h : RTx AnyB AnyB AnyB w iv ov d) :
    Calls Try.prog 3 #[.agg #[.int .i32 d.ver, iv, ov, .int .u32 d.lock], .int .i64 hh, .int .u32 tt] w fun e w' => e = .returned (.bool true) ∧ Keeps w w' := by
  have HT := Lib.hid h
  have HH := Lib.hid hhh; have HTT := Lib.hid htt
  have h32 : d.ins.all (fun i => i.hash.length == 32) = true := by
    obtain ⟨cs, ps, hi⟩ := h.ins
    rw [List.all_eq_true]
    intro x hx
    obtain ⟨k, hk, e⟩ := List.getElem_of_mem hx
    have hp : ps[k]? = some (ps[k]'(by rw [hi.plen]; exact hk)) := List.getElem?_eq_getElem _
    have := (hi.each k _ x hp (by rw [List.getElem?_eq_getElem hk, e])).1.ok.hashLen
    simpa using this
  have HFIT := Lib.hid (fits_few d h32)
  obtain ⟨ia, ic, rfl, -⟩ := h.ins.any
  obtain ⟨oa, oc, rfl, -⟩ := h.outs.any
  clear h h32
  have HF := Lib.hid (fun W (hk : Keeps w W) => few_any d _ _ W (HT.out.keeps hk))
  have HAW := Lib.hid awake_any
  have hver : (fewD 10 600 d).ver = d.ver := rfl
  have hlock : (fewD 10 600 d).lock = d.lock := rfl
  obtain ⟨D, hD⟩ : ∃ D, D = fewD 10 600 d := ⟨_, rfl⟩
  rw [← hD] at hver hlock
  rw [← hD] at HFIT
  rw [← hD] at HF
  clear hD
  rw [← hver, ← hlock]
  rw [← hver, ← hlock] at HF
  have HV := Lib.hid hver; have HLK := Lib.hid hlock
  clear hver hlock
  generalize (Value.slice ia d.ins.length ic) = iv0 at *
  generalize (Value.slice oa d.outs.length oc) = ov0 at *
  go_enter Try.func3, Try.ntmps3
  go_upto_region 1 with (fail)
  refine wp_rows1 (fun W0 hk hr1 hs1 => ?_)
  simp only at hr1
  have HK := Lib.hid hk; have HR := Lib.hid hr1
  have hp : w.heap.size < W0.heap.size := by omega
  have HP := Lib.hid hp
  obtain ⟨p, hpe⟩ : ∃ p, p = w.heap.size := ⟨_, rfl⟩
  rw [← hpe] at HR HP ⊢
  have HPE := Lib.hid hpe
  clear hk hr1 hs1 hp hpe
  go_upto_region 4 with (first | (go_at_call 7; refine (HAW.out _).mono ?_; rintro e W2 ⟨rfl, hk2⟩; have HK2 := Lib.hid hk2; clear hk2) | (refine wpList_load_at rfl 26 (.tmp 3) rfl p 0 rfl _ _ (HR.out.keeps HK2.out) Try.underlying26 rfl (sz_tx _ _ _ _) ?_) | (go_at_call 8; refine (HF.out _ (HK.out.trans HK2.out)).mono ?_; rintro e W3 ⟨iv3, ov3, rfl, hk3, S3, T3, ho3⟩; obtain ⟨ia3, ic3, rfl, -⟩ := ho3.rtx.ins.any; obtain ⟨oa3, oc3, rfl, -⟩ := ho3.rtx.outs.any; have HK3 := Lib.hid hk3; have HO3 := Lib.hid ho3; clear hk3 ho3) | (refine wpList_store_row rfl 26 (.tmp 3) (.tmp 10) rfl p 0 rfl _ [.int .i32 D.ver, .slice ia3 _ ic3, .slice oa3 _ oc3, .int .u32 D.lock] rfl ((HR.out.keeps HK2.out).keeps HK3.out) rfl (sz_tx _ _ _ _) (by intro v hv; simp only [List.mem_cons, List.not_mem_nil, or_false] at hv; rcases hv with rfl | rfl | rfl | rfl <;> rfl) ?_; intro W7 hr7 hc7; have HR7 := Lib.hid hr7; have HC7 := Lib.hid hc7; clear hr7 hc7))
  have hp := HP.out; have hpe := HPE.out
  have hsz2 := HK2.out.size; have hsz3 := HK3.out.size; have hszk := HK.out.size
  have hown : OwnTx S3 T3 W2.heap.size W7 _ _ D := HO3.out.chg HC7.out (fun g e => .inl (by rw [e]; omega))
  have hk7 : Keeps w W7 := keeps_chg ((HK.out.trans HK2.out).trans HK3.out) HC7.out (by omega)
  have hrt : RTx S3 T3 AnyB W7 _ _ D := ⟨hown.ver, hown.lock, hown.ins.x.mono (fun _ h => h) (fun _ h => h) (fun _ _ => trivial), hown.outs.mono (fun _ h => h) (fun _ _ => trivial)⟩
  have hS3 : ∀ g, S3 g → g < W7.heap.size := fun g hg => (hown.fresh g (.inl hg)).2
  have HC1 := Lib.hid (fun W (hk : Keeps W7 W) => (check_any S3 T3 AnyB D _ _ HFIT.out W (hrt.keeps hk) (fun g hg => Nat.lt_of_lt_of_le (hS3 g hg) hk.size)).mono (R' := fun e w' => e = .returned (.int .i64 (chkV D)) ∧ Keeps W w') (fun e w' h => by obtain ⟨r, rfl, h1, h2⟩ := h; exact ⟨by rw [chkV_eq h1], h2⟩))
  have HC2 := Lib.hid (fun W (hk : Keeps W7 W) => (rcheck_any S3 T3 AnyB D _ _ HFIT.out W (hrt.keeps hk)).mono (R' := fun e w' => e = .returned (.int .i64 (chkV D)) ∧ Keeps W w') (fun e w' h => by obtain ⟨r, rfl, h1, h2⟩ := h; exact ⟨by rw [chkV_eq h1], h2⟩))
  have HC3 := Lib.hid (fun W (hk : Keeps W7 W) => coinbase_any S3 T3 AnyB D _ _ W (hrt.keeps hk))
  have HC4 := Lib.hid (fun W (hk : Keeps W7 W) => rcoinbase_any S3 T3 AnyB D _ _ W (hrt.keeps hk))
  have HC5 := Lib.hid (fun W (hk : Keeps W7 W) => final_any S3 T3 AnyB D _ _ hh tt HH.out HTT.out W (hrt.keeps hk))
  have HC6 := Lib.hid (fun W (hk : Keeps W7 W) => rfinal_any S3 T3 AnyB D _ _ hh tt HH.out HTT.out W (hrt.keeps hk))
  have HKW := Lib.hid hk7
  clear hown hrt hS3 hk7 HO3 HC7 HK2 HK3 HK HP HPE hp hpe hsz2 hsz3 hszk HF HAW HFIT HT HR HV HLK HH HTT
  generalize chkV D = CV at *
  generalize cbD D = CB at *
  generalize finD D hh tt = FD at *
  generalize D.ins.length = n1 at *
  generalize D.outs.length = n2 at *
  have hsz := fun a b c d => sz_tx a b c d
  refine wp_region_quiet_below (by kernel_rfl) (by kernel_rfl) ?_
  repeat (first | go_big_quiet_skip | (refine BigFrame.wpQuiet_want (by kernel_rfl) (fun K hK => quiet_load_row 26 (.tmp 3) (by with_reducible rfl) p 0 rfl [.int .i32 D.ver, .slice ia3 n1 ic3, .slice oa3 n2 oc3, .int .u32 D.lock] _ (HR7.out).cls Try.underlying26 rfl (sz_tx _ _ _ _) (hK _ ?_)); simp only [Act.put, List.setIfInBounds_toArray, List.set_cons_zero, List.set_cons_succ]) | go_big_quiet_step (first | (go_at_call 9; exact rgB (HC1.out _ (below_regrownB _ _ _))) | (go_at_call 10; exact rgB (HC2.out _ (below_regrownB _ _ _))) | (go_at_call 11; exact rgB (HC3.out _ (below_regrownB _ _ _))) | (go_at_call 12; exact rgB (HC4.out _ (below_regrownB _ _ _))) | (go_at_call 13; exact rgB (HC5.out _ (below_regrownB _ _ _))) | (go_at_call 14; exact rgB (HC6.out _ (below_regrownB _ _ _)))) | quiet_step (first | (go_at_call 9; exact rgB (HC1.out _ (below_regrownB _ _ _))) | (go_at_call 10; exact rgB (HC2.out _ (below_regrownB _ _ _))) | (go_at_call 11; exact rgB (HC3.out _ (below_regrownB _ _ _))) | (go_at_call 12; exact rgB (HC4.out _ (below_regrownB _ _ _))) | (go_at_call 13; exact rgB (HC5.out _ (below_regrownB _ _ _))) | (go_at_call 14; exact rgB (HC6.out _ (below_regrownB _ _ _)))))
  refine wpQuiet_nil ?_
  intro _ hw'
  obtain ⟨⟨dq, osq⟩, hw''⟩ := hw'
  subst hw''
  have hkq := below_regrown W7 dq osq
  generalize Go.Sort.grow (redrawn W7 dq) osq = wq at *
  go_wp2
  go_ret
  exact ⟨by first | rfl | exact ret_bool (by simp), HKW.out.trans hkq⟩
end Go.Proofs.Ytjfkkdkmpnpmpaa
