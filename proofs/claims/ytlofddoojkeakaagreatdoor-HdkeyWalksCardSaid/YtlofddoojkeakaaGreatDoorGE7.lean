/- HdkeySteps and HdkeyWalks: each returns true for every input and leaves its arguments as they were: the rows, and their tied cards. No condition but t. -/
import Derived.Test.YtlofddoojkeakaaGreatDoorGE6
import Derived.LaidMore
import Derived.Stop.Joined
import Derived.Lay
import Derived.Handy
import Derived.Test.YtlofddoojkeakaaGreatDoorCards
import Derived.Test.YtlofddoojkeakaaGreatDoorTie
import Derived.ChangeOld
import Derived.SevenTiedAt
set_option maxRecDepth 100000
set_option linter.unusedVariables false
set_option linter.unusedSimpArgs false
namespace Go.Proofs.YtlofddoojkeakaaGreatDoor.hdkeyStepsDone
open Go Go.RowKit Go.ChangeShapes Go.WideShapes Go.ChangeAt Go.Deep
theorem laid_met(os:Os)(args:Array Value):laidMetH Tryz.prog Rows.hdkeyStepsRow.laid ((World.laidAll Tryz.prog os Rows.hdkeyStepsRow.laid).forCall (fun _ _=>0) ⟨#[],args,[]⟩).memory:=by
 rw[MakeChecks.laidMetH_plain _ _ _ (by kernel_rfl)];exact laidMet_laidAll _ (by kernel_rfl) (by kernel_rfl)
theorem lifted(os:Os)(started:os.Started)(H:Type)(enc:TypeId×Value→H):
 ReturnsInHanded {} Tryz.checked os 3 .any (fun w args=>(Rows.hdkeyStepsSpec.pre enc Tryz.prog Tryz.f3 [] false w args∧laidMetH Tryz.prog Rows.hdkeyStepsRow.laid w)∧sizedMet enc Tryz.prog Tryz.f3 (OpenSpec.ofChange Rows.hdkeyStepsSpec) false w args)
  (Rows.hdkeyStepsSpec.post enc Tryz.prog Tryz.f3 false true false false):=by
 refine returnsInHanded_of_change_and (C:=Tryz.checked) (X:=fun w _=>laidMetH Tryz.prog Rows.hdkeyStepsRow.laid w) (fun _ _ _ hh h=>h.of_heap hh) own started (by kernel_rfl) Tryz.func3
  (ChangeSpec.witness_shaped (enc:=enc) (C:=Tryz.checked) (os:=os) (X:=fun w _=>laidMetH Tryz.prog Rows.hdkeyStepsRow.laid w) false (World.laidAll Tryz.prog os Rows.hdkeyStepsRow.laid) #[.agg K0.cells.toArray,.int .u32 0] 8 (World.laidAll_os _ _ _) (World.shaped_of_ZipB (by kernel_rfl) (by kernel_rfl)) (by kernel_rfl) (by kernel_rfl) (by kernel_rfl) (laid_met os _)) ?_
 intro W base args ds gs before hval0 hW _ hsz0 hL _
 have hval:∀(j:Nat) t v,Tryz.f3.params[j]? =some t→args[j]? =some v→Value.okWide Tryz.prog W .any base t v:=hval0
 have hsz:(DataW.weightsEach Tryz.prog (Tryz.f3.params.toList++Rows.hdkeyStepsSpec.plain.varTypes Tryz.prog) (ds++gs)).all (· ≤reachBytes)=true:=hsz0
 have hW':=hW
 obtain⟨p,q,hA0,hV,rfl,hfz,hnd⟩:=hW
 have hA:DataW.TrodAll enc Tryz.prog W 0 (fun _=>true) true Tryz.f3.params.toList args.toList ds p:=hA0
 rw[Tryz.params3]at hA hval hsz
 obtain⟨v0,Ys,d0,ds0,p0,q0,hargs,rfl,rfl,h0,r0⟩:=trodAll_cons hA
 obtain⟨v1,vs1,d1,ds1,p1,q1,rfl,rfl,rfl,h1,r1⟩:=trodAll_cons r0
 obtain⟨rfl,rfl,rfl⟩:=trodAll_nil r1
 obtain rfl:args= #[v0,v1]:=by cases args;simp_all
 obtain⟨rfl,rfl⟩:=trodVars_none hV
 simp only[List.append_nil]at hW' hfz
 have hlt:∀x∈p0++p1,x.block<W.heap.size:=fun x hx=>hW'.lt x hx
 obtain⟨cs,rfl,hcs⟩:=okWide_struct Tryz.underlying27 (hval 0 27 v0 rfl rfl)
 have I7:∀k∈d0.weights Tryz.prog 27,k≤reachBytes:=fun k hk=>by
  have :=List.all_eq_true.1 hsz k (DataW.weights_mem_each (j:=0) rfl rfl k hk)
  simpa using this
 obtain⟨k,hcells,hk⟩:∃k:KD,cs.toList=k.cells∧k.ok:=by
  obtain⟨fu,hf⟩:=h0
  exact Dr (n:=fu) (x:=(d0,p0)) (ps:=p0++p1) ⟨hf,fun x hx=>List.mem_append_left _ hx,I7⟩
 obtain rfl:cs=k.cells.toArray:=by rw[←Array.toArray_toList (xs:=cs),hcells]
 obtain⟨tt,rfl⟩:=okWide_int Tryz.underlying23 (hval 1 23 v1 rfl rfl)
 have ht0:0≤tt∧tt<4294967296:=by
  obtain⟨fu,hf⟩:=h1
  obtain⟨z,e,_,hw⟩:=DataW.trod_int Tryz.underlying23 hf
  simp[Value.cells]at e
  subst e
  have :=bounds_u32 hw
  omega
 refine(E5 k hk tt ht0.1 ht0.2 W).mono fun e W' ⟨he,bel⟩=> ?_
 subst he
 exact⟨_,rfl,_,_,_,[],_,[],hW',trodAll_mk1 (shut_bool Tryz.underlying4 _),
  (trodAll_cons_mk (Below.trod laidOut (by kernel_rfl) (of_decide_eq_true (by kernel_rfl)) h0 bel (fun x hx=>hlt x (List.mem_append_left _ hx))) (trodAll_cons_mk (Below.trod laidOut (by kernel_rfl) (of_decide_eq_true (by kernel_rfl)) h1 bel (fun x hx=>hlt x (List.mem_append_right _ hx))) trodAll_mk0)),rfl,bel.frame _,fun h=>by cases h⟩
theorem row_holds:Rows.HdkeyStepsSaid:=
 OpenClaim.holds_of_wide 3 Tryz.f3 rfl rfl rfl rfl rfl rfl rfl ⟨rfl,rfl,rfl,rfl,rfl⟩ rfl rfl rfl rfl rfl (by kernel_rfl) Tryz.func3 (by kernel_rfl)
  (of_decide_eq_true (by kernel_rfl)) (by unfold Func.isWrapper;first |(rw[if_pos (by decide+kernel)];kernel_rfl)|(rw[if_neg (by decide+kernel)];exact⟨rfl,rfl⟩))
  (fun os started H enc _=>lifted os started H enc)
theorem card_holds:Rows.HdkeyStepsCardSaid:=
 Claim7.holds_tied_plain_at .later [] [.data,.data,.data] true Rows.hdkeyStepsCard.stood.harness false
  row_holds (fun _ h=>by cases h) (by kernel_rfl) (fun _ h=>by cases h) hdkeySteps_row_tie rfl ⟨rfl,rfl⟩ (by kernel_rfl) rfl
  (fun f fn hf hfn=>by
   obtain rfl:f=3:=Option.some.inj ((show Tryz.prog.funcNamed Rows.hdkeyStepsRow.func=some 3 by kernel_rfl).symm.trans hf) |>.symm
   obtain rfl:fn=Tryz.f3:=(Option.some.inj (Tryz.func3.symm.trans hfn)).symm
   exact⟨by kernel_rfl,fun j t ht=>by
    rw[Tryz.params3]at ht
    have hm:t∈[27,23]:=by simpa using Array.mem_of_getElem? ht
    have hall:([27,23].all fun u=> !Tryz.prog.wantsStandIn u)=true:=by kernel_rfl
    exact(show Tryz.prog.wantsStandIn t=false by simpa using List.all_eq_true.1 hall t hm)⟩)
  (by kernel_rfl)
#print axioms card_holds
end Go.Proofs.YtlofddoojkeakaaGreatDoor.hdkeyStepsDone
namespace Go.Proofs.YtlofddoojkeakaaGreatDoor.hdkeyWalksDone
open Go Go.RowKit Go.ChangeShapes Go.WideShapes Go.ChangeAt Go.Deep
theorem laid_met(os:Os)(args:Array Value):laidMetH Tryz.prog Rows.hdkeyWalksRow.laid ((World.laidAll Tryz.prog os Rows.hdkeyWalksRow.laid).forCall (fun _ _=>0) ⟨#[],args,[]⟩).memory:=by
 rw[MakeChecks.laidMetH_plain _ _ _ (by kernel_rfl)];exact laidMet_laidAll _ (by kernel_rfl) (by kernel_rfl)
theorem lifted(os:Os)(started:os.Started)(H:Type)(enc:TypeId×Value→H):
 ReturnsInHanded {} Tryz.checked os 4 .any (fun w args=>(Rows.hdkeyWalksSpec.pre enc Tryz.prog Tryz.f4 [] false w args∧laidMetH Tryz.prog Rows.hdkeyWalksRow.laid w)∧sizedMet enc Tryz.prog Tryz.f4 (OpenSpec.ofChange Rows.hdkeyWalksSpec) false w args)
  (Rows.hdkeyWalksSpec.post enc Tryz.prog Tryz.f4 false true false false):=by
 refine returnsInHanded_of_change_and (C:=Tryz.checked) (X:=fun w _=>laidMetH Tryz.prog Rows.hdkeyWalksRow.laid w) (fun _ _ _ hh h=>h.of_heap hh) own started (by kernel_rfl) Tryz.func4
  (ChangeSpec.witness_shaped (enc:=enc) (C:=Tryz.checked) (os:=os) (X:=fun w _=>laidMetH Tryz.prog Rows.hdkeyWalksRow.laid w) false (World.laidAll Tryz.prog os Rows.hdkeyWalksRow.laid) #[.agg K0.cells.toArray,.slice none 0 0] 8 (World.laidAll_os _ _ _) (World.shaped_of_ZipB (by kernel_rfl) (by kernel_rfl)) (by kernel_rfl) (by kernel_rfl) (by kernel_rfl) (laid_met os _)) ?_
 intro W base args ds gs before hval0 hW _ hsz0 hL _
 have hval:∀(j:Nat) t v,Tryz.f4.params[j]? =some t→args[j]? =some v→Value.okWide Tryz.prog W .any base t v:=hval0
 have hsz:(DataW.weightsEach Tryz.prog (Tryz.f4.params.toList++Rows.hdkeyWalksSpec.plain.varTypes Tryz.prog) (ds++gs)).all (· ≤reachBytes)=true:=hsz0
 have hW':=hW
 obtain⟨p,q,hA0,hV,rfl,hfz,hnd⟩:=hW
 have hA:DataW.TrodAll enc Tryz.prog W 0 (fun _=>true) true Tryz.f4.params.toList args.toList ds p:=hA0
 rw[Tryz.params4]at hA hval hsz
 obtain⟨v0,Ys,d0,ds0,p0,q0,hargs,rfl,rfl,h0,r0⟩:=trodAll_cons hA
 obtain⟨v1,vs1,d1,ds1,p1,q1,rfl,rfl,rfl,h1,r1⟩:=trodAll_cons r0
 obtain⟨rfl,rfl,rfl⟩:=trodAll_nil r1
 obtain rfl:args= #[v0,v1]:=by cases args;simp_all
 obtain⟨rfl,rfl⟩:=trodVars_none hV
 simp only[List.append_nil]at hW' hfz
 have hlt:∀x∈p0++p1,x.block<W.heap.size:=fun x hx=>hW'.lt x hx
 obtain⟨cs,rfl,hcs⟩:=okWide_struct Tryz.underlying27 (hval 0 27 v0 rfl rfl)
 have I7:∀k∈d0.weights Tryz.prog 27,k≤reachBytes:=fun k hk=>by
  have :=List.all_eq_true.1 hsz k (DataW.weights_mem_each (j:=0) rfl rfl k hk)
  simpa using this
 obtain⟨k,hcells,hk⟩:∃k:KD,cs.toList=k.cells∧k.ok:=by
  obtain⟨fu,hf⟩:=h0
  exact Dr (n:=fu) (x:=(d0,p0)) (ps:=p0++p1) ⟨hf,fun x hx=>List.mem_append_left _ hx,I7⟩
 obtain rfl:cs=k.cells.toArray:=by rw[←Array.toArray_toList (xs:=cs),hcells]
 obtain⟨a,len,cap,zs,rfl,hrd,hzs⟩:=I6 (hval 1 46 v1 rfl rfl) h1 hfz (fun x hx=>List.mem_append_right _ hx)
 refine(E6 k hk a len cap zs W hrd hzs).mono fun e W' ⟨he,bel⟩=> ?_
 subst he
 exact⟨_,rfl,_,_,_,[],_,[],hW',trodAll_mk1 (shut_bool Tryz.underlying4 _),
  (trodAll_cons_mk (Below.trod laidOut (by kernel_rfl) (of_decide_eq_true (by kernel_rfl)) h0 bel (fun x hx=>hlt x (List.mem_append_left _ hx))) (trodAll_cons_mk (Below.trod laidOut (by kernel_rfl) (of_decide_eq_true (by kernel_rfl)) h1 bel (fun x hx=>hlt x (List.mem_append_right _ hx))) trodAll_mk0)),rfl,bel.frame _,fun h=>by cases h⟩
theorem row_holds:Rows.HdkeyWalksSaid:=
 OpenClaim.holds_of_wide 4 Tryz.f4 rfl rfl rfl rfl rfl rfl rfl ⟨rfl,rfl,rfl,rfl,rfl⟩ rfl rfl rfl rfl rfl (by kernel_rfl) Tryz.func4 (by kernel_rfl)
  (of_decide_eq_true (by kernel_rfl)) (by unfold Func.isWrapper;first |(rw[if_pos (by decide+kernel)];kernel_rfl)|(rw[if_neg (by decide+kernel)];exact⟨rfl,rfl⟩))
  (fun os started H enc _=>lifted os started H enc)
theorem card_holds:Rows.HdkeyWalksCardSaid:=
 Claim7.holds_tied_plain_at .later [] [.data,.data,.data] true Rows.hdkeyWalksCard.stood.harness false
  row_holds (fun _ h=>by cases h) (by kernel_rfl) (fun _ h=>by cases h) hdkeyWalks_row_tie rfl ⟨rfl,rfl⟩ (by kernel_rfl) rfl
  (fun f fn hf hfn=>by
   obtain rfl:f=4:=Option.some.inj ((show Tryz.prog.funcNamed Rows.hdkeyWalksRow.func=some 4 by kernel_rfl).symm.trans hf) |>.symm
   obtain rfl:fn=Tryz.f4:=(Option.some.inj (Tryz.func4.symm.trans hfn)).symm
   exact⟨by kernel_rfl,fun j t ht=>by
    rw[Tryz.params4]at ht
    have hm:t∈[27,46]:=by simpa using Array.mem_of_getElem? ht
    have hall:([27,46].all fun u=> !Tryz.prog.wantsStandIn u)=true:=by kernel_rfl
    exact(show Tryz.prog.wantsStandIn t=false by simpa using List.all_eq_true.1 hall t hm)⟩)
  (by kernel_rfl)
#print axioms card_holds
end Go.Proofs.YtlofddoojkeakaaGreatDoor.hdkeyWalksDone
