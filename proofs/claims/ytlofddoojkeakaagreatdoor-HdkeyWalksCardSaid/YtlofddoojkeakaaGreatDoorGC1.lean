/- curve's group: lift, over letters. -/
import Derived.Test.YtlofddoojkeakaaGreatDoorGC0
set_option maxRecDepth 100000
set_option maxHeartbeats 8000000
set_option linter.unusedVariables false
set_option linter.unusedSimpArgs false
namespace Go.Proofs.YtlofddoojkeakaaGreatDoor
open Go Go.RowKit Cv
theorem qv{P:Program}{ops:Array Oper}{rest:List Oper}{o:Oper}{a:Act}{w:World}{Q:Exit→Act→World→Prop}(hw:Region.wanted o (yielded ops a.tmps)=true)(t t':TypeId)(x y:Operand)(ho:o.op= .binOp .neq t x y t')(A B:Array Value)(hx:a.eval x= .agg A)(hy:a.eval y= .agg B)(r:Bool)
 (hE:∀W,(Op.equalIn 10000 t (.agg A) (.agg B)).run P W= .ok r W) (hm:P.eqGuardType P.depth t=false) (h:wpList P ops Q rest (a.put o.dst (.bool (!r))) w):wpList P ops Q (o::rest) a w:=
 BigFrame.wpList_want hw fun _ hK=>by
  unfold Oper.wp
  rw[gx t t' x y ho A B hx hy r hE hm]
  exact hK _ _ h
theorem zi(gg:Nat)(X C1 C2 S SV MM RO R1 R2 Y YY ONE:List Int)(od:Int)(lX:X.length=4)(lS:S.length=4)(Tf:SV.length=4)(Pu:MM.length=4)(CX:RO.length=4)(lY:Y.length=4)(w:World)(Fk:Row w gg 0 (MM.map (Value.int .u64)))
 (G7:Tryz.prog.built 95 [(0,.int .u64 7)]=some (SV.map (Value.int .u64)).toArray) (hB1:Tryz.prog.built 95 [(0,.int .u64 1)]=some (ONE.map (Value.int .u64)).toArray)
 (G8:∀W,Keeps w W→Calls Tryz.prog 92 #[.pointer (some ⟨gg,0,none⟩),.agg (X.map (Value.int .u64)).toArray,.agg (X.map (Value.int .u64)).toArray] W fun e w' =>e= .returned (.agg (C1.map (Value.int .u64)).toArray)∧Keeps W w')
 (hC2:∀W,Keeps w W→Calls Tryz.prog 92 #[.pointer (some ⟨gg,0,none⟩),.agg (C1.map (Value.int .u64)).toArray,.agg (X.map (Value.int .u64)).toArray] W fun e w' =>e= .returned (.agg (C2.map (Value.int .u64)).toArray)∧Keeps W w')
 (G9:∀W,Keeps w W→Calls Tryz.prog 49 #[.pointer (some ⟨gg,0,none⟩),.agg (C2.map (Value.int .u64)).toArray,.agg (SV.map (Value.int .u64)).toArray] W fun e w' =>e= .returned (.agg (S.map (Value.int .u64)).toArray)∧Keeps W w')
 (cy:Int) (K6:∀W,Calls Tryz.prog 89 #[.agg (MM.map (Value.int .u64)).toArray,.agg (ONE.map (Value.int .u64)).toArray] W fun e w' =>e= .returned (.tuple #[.agg (RO.map (Value.int .u64)).toArray,.int .u64 cy])∧Keeps W w')
 (hH1:∀W,Calls Tryz.prog 122 #[.agg (RO.map (Value.int .u64)).toArray,.int .u64 0] W fun e w' =>e= .returned (.agg (R1.map (Value.int .u64)).toArray)∧Keeps W w')
 (hH2:∀W,Calls Tryz.prog 122 #[.agg (R1.map (Value.int .u64)).toArray,.int .u64 0] W fun e w' =>e= .returned (.agg (R2.map (Value.int .u64)).toArray)∧Keeps W w')
 (Ha:∀W,Keeps w W→Calls Tryz.prog 121 #[.pointer (some ⟨gg,0,none⟩),.agg (S.map (Value.int .u64)).toArray,.agg (R2.map (Value.int .u64)).toArray] W fun e w' =>e= .returned (.agg (Y.map (Value.int .u64)).toArray)∧Keeps W w')
 (Hb:∀W,Keeps w W→Calls Tryz.prog 92 #[.pointer (some ⟨gg,0,none⟩),.agg (Y.map (Value.int .u64)).toArray,.agg (Y.map (Value.int .u64)).toArray] W fun e w' =>e= .returned (.agg (YY.map (Value.int .u64)).toArray)∧Keeps W w')
 (hE:∀W,(Op.equalIn 10000 95 (.agg (YY.map (Value.int .u64)).toArray) (.agg (S.map (Value.int .u64)).toArray)).run Tryz.prog W= .ok false W):
 Calls Tryz.prog 91 #[.pointer (some ⟨gg,0,none⟩),.agg (X.map (Value.int .u64)).toArray,.int .u64 od] w fun e w' =>e= .returned (.tuple #[.agg ((List.replicate 12 (0:Int)).map (Value.int .u64)).toArray,.bool false])∧Keeps w w':=by
 have bV:=ae Fk;have JL:=ae G7;have HB1:=ae hB1;have dT:=ae G8;have HC2:=ae hC2;have fT:=ae G9;have kX:=ae K6
 have Pv:=ae (fun W (_:Keeps w W)=>hH1 W);have Pw:=ae (fun W (_:Keeps w W)=>hH2 W);have K7:=ae Ha;have Je:=ae Hb;have HE:=ae hE
 clear Fk G7 hB1 G8 hC2 G9 K6 hH1 hH2 Ha Hb hE
 go_enter Tryz.func91,Tryz.ntmps91
 go_upto_region 1 with(fail)
 refine bu (fun W hk hra hrb hs=> ?_)
 obtain⟨p,hp⟩:∃p,p=w.heap.size:=⟨_,rfl⟩
 rw[←hp]at hra hrb hs⊢
 have hkp:w.heap.size≤p:=by omega
 obtain⟨Zr,du,hrz⟩:∃Zr:List Value,Zr.length=12∧Row W (p+1) 0 Zr:=⟨_,rfl,hrb⟩
 have bB:=ae (show Row W p 0 (X.map (Value.int .u64))from hra)
 have aA:=ae hk;have ap:=ae hrz
 clear hp hra hrb hrz hk hs
 go_upto_region 2 with(fail)
 refine au 11 [10] [0,1,2,3,4,5,6,7,8,9] (fun _=>aL) (by kernel_rfl) (by kernel_rfl) (by intro i hi;simp only[List.mem_cons,List.not_mem_nil,or_false]at hi;(first |(rcases hi with rfl|rfl)|subst hi)<;>exact⟨_,rfl,cq rfl rfl⟩) ?_
 iterate 3 refine kp (h:= ?_)
 refine kl (fun wS hS=>(bB.o.keeps hS)) lX (h:= ?_)
 refine kl (fun wS hS=>(bB.o.keeps hS)) lX (h:= ?_)
 refine kc (hc:=by exact fun wS hS=>dT.o wS (aA.o.trans hS)) (h:= ?_)
 refine kl (fun wS hS=>(bB.o.keeps hS)) lX (h:= ?_)
 refine kc (hc:=by exact fun wS hS=>HC2.o wS (aA.o.trans hS)) (h:= ?_)
 refine kp (hx:=by intro wS hS;(refine cR 95 [(0,.const (.int .u64 7))] ?_ _ ?_ _ JL.o)<;>rfl) (h:= ?_)
 refine kc (hc:=by exact fun wS hS=>fT.o wS (aA.o.trans hS)) (h:= ?_)
 refine aI ?_
 intro GG V1 hk1 hG
 obtain⟨iu,iH,hd10⟩:=hG 10 (by simp)
 clear hd10
 simp only[aZ,br,ct,kD,kG,kP,Option.bind_some]
 generalize GG 10=g1 at *
 clear hG
 have lI:=ae iH;have jZ:=ae (show _≤_ from iu)
 clear iH iu
 have aH:=ae hk1;clear hk1
 go_upto_region 3 with(first |(refine ws (g:=_) (olds:=aL) lI.o lS rfl (h:= ?_);intro W2 hr2 hc2;have eu:=ae hr2;have dT:=ae hc2;clear hr2 hc2))
 have HN:=eu;have HB:=jZ
 have aq:=ae (ag aH.o dT.o HB.o)
 have gD:=Nat.lt_of_lt_of_le (ap.o.lt (by intro e;rw[e]at du;cases du)) HB.o
 have bB:=ae (bB.o.keeps aq.o)
 have ap:=ae (ap.o.keeps aq.o)
 have aA:=ae (aA.o.trans aq.o)
 have gQ:=HN
 go_upto_region 4 with(first |(refine wl (bV.o.keeps aA.o) Pu (h:= ?_))|(refine aW (by kernel_rfl) 95 _ rfl _ ?_ _ HB1.o ?_;focus(simp only[List.map_toArray,List.map_cons,List.map_nil];rfl))|(go_at_call 89;refine(kX.o _).mono ?_;rintro e V1 ⟨rfl,hk1⟩;have aH:=ae hk1;clear hk1)|(refine ws (g:=V1.heap.size) (olds:=aL) (Row.new _ _ _ rfl) CX rfl (h:= ?_);intro W2 hr2 hc2;have HN:=ae hr2;have HB:=ae (show _≤_ from aH.o.size);have aq:=ae (ag (ah aH.o _) hc2 aH.o.size);clear hr2 hc2))
 generalize V1.heap.size=g2 at *
 have zj:=Nat.lt_of_lt_of_le (gQ.o.lt (aM lS)) HB.o
 have bB:=ae (bB.o.keeps aq.o)
 have ap:=ae (ap.o.keeps aq.o)
 have gQ:=ae (gQ.o.keeps aq.o)
 have aA:=ae (aA.o.trans aq.o)
 have kB:=HN
 refine au 7 [6] [0,1,2,3,4,5] (fun _=>aL) (by kernel_rfl) (by kernel_rfl) (by intro i hi;simp only[List.mem_cons,List.not_mem_nil,or_false]at hi;(first |(rcases hi with rfl|rfl)|subst hi)<;>exact⟨_,rfl,cq rfl rfl⟩) ?_
 refine kp (h:= ?_)
 refine kl (fun wS hS=>(gQ.o.keeps hS)) lS (h:= ?_)
 refine kl (fun wS hS=>(kB.o.keeps hS)) CX (h:= ?_)
 refine kc (hc:=by exact fun wS hS=>Pv.o wS (aA.o.trans hS)) (h:= ?_)
 refine kc (hc:=by exact fun wS hS=>Pw.o wS (aA.o.trans hS)) (h:= ?_)
 refine kc (hc:=by exact fun wS hS=>K7.o wS (aA.o.trans hS)) (h:= ?_)
 refine aI ?_
 intro GG V1 hk1 hG
 obtain⟨ha6,vC,hd6⟩:=hG 6 (by simp)
 clear hd6
 simp only[aZ,br,ct,kD,kG,kP,Option.bind_some]
 generalize GG 6=g3 at *
 clear hG
 have Ea:=ae vC;have Px:=ae (show _≤_ from ha6)
 clear vC ha6
 have aH:=ae hk1;clear hk1
 go_upto_region 5 with(first |(refine ws (g:=_) (olds:=aL) Ea.o lY rfl (h:= ?_);intro W2 hr2 hc2;have eu:=ae hr2;have dT:=ae hc2;clear hr2 hc2))
 have HN:=eu;have HB:=Px
 have aq:=ae (ag aH.o dT.o HB.o)
 have vD:=Nat.lt_of_lt_of_le (kB.o.lt (aM CX)) HB.o
 have bB:=ae (bB.o.keeps aq.o)
 have ap:=ae (ap.o.keeps aq.o)
 have gQ:=ae (gQ.o.keeps aq.o)
 have kB:=ae (kB.o.keeps aq.o)
 have aA:=ae (aA.o.trans aq.o)
 have cE:=HN
 refine au 5 [] [0,1,2,3,4] (fun _=>aL) (by kernel_rfl) (by kernel_rfl) (by intro i hi;cases hi) ?_
 refine kp (h:= ?_)
 refine kl (fun wS hS=>(cE.o.keeps hS)) lY (h:= ?_)
 refine kl (fun wS hS=>(cE.o.keeps hS)) lY (h:= ?_)
 refine kc (hc:=by exact fun wS hS=>Je.o wS (aA.o.trans hS)) (h:= ?_)
 refine kl (fun wS hS=>(gQ.o.keeps hS)) lS (h:= ?_)
 refine aI ?_
 intro GG V1 hk1 hG
 clear hG
 simp only[aZ,br,ct,kD,kG,kP,Option.bind_some]
 have aH:=ae hk1;clear hk1
 have bB:=ae (bB.o.keeps aH.o)
 have ap:=ae (ap.o.keeps aH.o)
 have gQ:=ae (gQ.o.keeps aH.o)
 have kB:=ae (kB.o.keeps aH.o)
 have cE:=ae (cE.o.keeps aH.o)
 have aA:=ae (aA.o.trans aH.o)
 go_wp2_with (first |(refine qv (by kernel_rfl) 95 95 (.tmp 44) (.tmp 45) rfl _ _ rfl rfl false HE.o (by kernel_rfl) ?_)|(refine wpList_store_row rfl 107 (.tmp 6) (.tmp 47) rfl _ 0 rfl Zr ((List.replicate 12 (0:Int)).map (Value.int .u64)) rfl ap.o (by rw[du];rfl) cI (ai _) ?_;intro W2 hr2 hc2;have HN:=ae hr2;have HC:=ae hc2;clear hr2 hc2))
 exact bodyPost_ret (al (p:=6) (t:=7) (ty:=107) rfl _ _ (p+1) 0 _ _ _ rfl rfl HN.o Tryz.underlying107 rfl cI) rfl ⟨rfl,ag aA.o HC.o (by omega)⟩
theorem zk(gg:Nat)(X C1 C2 S SV MM RO R1 R2 Y YY ONE:List Int)(od:Int)(RT:List Int)(qm:RT=X++Y++ONE)(uF:ONE.length=4)(hy0:0≤Y.getD 0 0∧Y.getD 0 0<18446744073709551616)(hpar:Y.getD 0 0%2=od)(lX:X.length=4)(lS:S.length=4)(Tf:SV.length=4)(Pu:MM.length=4)(CX:RO.length=4)(lY:Y.length=4)(w:World)(Fk:Row w gg 0 (MM.map (Value.int .u64)))
 (G7:Tryz.prog.built 95 [(0,.int .u64 7)]=some (SV.map (Value.int .u64)).toArray) (hB1:Tryz.prog.built 95 [(0,.int .u64 1)]=some (ONE.map (Value.int .u64)).toArray)
 (G8:∀W,Keeps w W→Calls Tryz.prog 92 #[.pointer (some ⟨gg,0,none⟩),.agg (X.map (Value.int .u64)).toArray,.agg (X.map (Value.int .u64)).toArray] W fun e w' =>e= .returned (.agg (C1.map (Value.int .u64)).toArray)∧Keeps W w')
 (hC2:∀W,Keeps w W→Calls Tryz.prog 92 #[.pointer (some ⟨gg,0,none⟩),.agg (C1.map (Value.int .u64)).toArray,.agg (X.map (Value.int .u64)).toArray] W fun e w' =>e= .returned (.agg (C2.map (Value.int .u64)).toArray)∧Keeps W w')
 (G9:∀W,Keeps w W→Calls Tryz.prog 49 #[.pointer (some ⟨gg,0,none⟩),.agg (C2.map (Value.int .u64)).toArray,.agg (SV.map (Value.int .u64)).toArray] W fun e w' =>e= .returned (.agg (S.map (Value.int .u64)).toArray)∧Keeps W w')
 (cy:Int) (K6:∀W,Calls Tryz.prog 89 #[.agg (MM.map (Value.int .u64)).toArray,.agg (ONE.map (Value.int .u64)).toArray] W fun e w' =>e= .returned (.tuple #[.agg (RO.map (Value.int .u64)).toArray,.int .u64 cy])∧Keeps W w')
 (hH1:∀W,Calls Tryz.prog 122 #[.agg (RO.map (Value.int .u64)).toArray,.int .u64 0] W fun e w' =>e= .returned (.agg (R1.map (Value.int .u64)).toArray)∧Keeps W w')
 (hH2:∀W,Calls Tryz.prog 122 #[.agg (R1.map (Value.int .u64)).toArray,.int .u64 0] W fun e w' =>e= .returned (.agg (R2.map (Value.int .u64)).toArray)∧Keeps W w')
 (Ha:∀W,Keeps w W→Calls Tryz.prog 121 #[.pointer (some ⟨gg,0,none⟩),.agg (S.map (Value.int .u64)).toArray,.agg (R2.map (Value.int .u64)).toArray] W fun e w' =>e= .returned (.agg (Y.map (Value.int .u64)).toArray)∧Keeps W w')
 (Hb:∀W,Keeps w W→Calls Tryz.prog 92 #[.pointer (some ⟨gg,0,none⟩),.agg (Y.map (Value.int .u64)).toArray,.agg (Y.map (Value.int .u64)).toArray] W fun e w' =>e= .returned (.agg (YY.map (Value.int .u64)).toArray)∧Keeps W w')
 (hE:∀W,(Op.equalIn 10000 95 (.agg (YY.map (Value.int .u64)).toArray) (.agg (S.map (Value.int .u64)).toArray)).run Tryz.prog W= .ok true W):
 Calls Tryz.prog 91 #[.pointer (some ⟨gg,0,none⟩),.agg (X.map (Value.int .u64)).toArray,.int .u64 od] w fun e w' =>e= .returned (.tuple #[.agg (RT.map (Value.int .u64)).toArray,.bool true])∧Keeps w w':=by
 have qp:=nj lX lY uF
 rw[←qm]at qp
 have DY:=ae qp
 have ro:RT.length=12:=by rw[qm];exact lf lX lY uF
 clear qp qm
 have bV:=ae Fk;have JL:=ae G7;have HB1:=ae hB1;have dT:=ae G8;have HC2:=ae hC2;have fT:=ae G9;have kX:=ae K6
 have Pv:=ae (fun W (_:Keeps w W)=>hH1 W);have Pw:=ae (fun W (_:Keeps w W)=>hH2 W);have K7:=ae Ha;have Je:=ae Hb;have HE:=ae hE
 clear Fk G7 hB1 G8 hC2 G9 K6 hH1 hH2 Ha Hb hE
 go_enter Tryz.func91,Tryz.ntmps91
 go_upto_region 1 with(fail)
 refine bu (fun W hk hra hrb hs=> ?_)
 obtain⟨p,hp⟩:∃p,p=w.heap.size:=⟨_,rfl⟩
 rw[←hp]at hra hrb hs⊢
 have hkp:w.heap.size≤p:=by omega
 obtain⟨Zr,du,hrz⟩:∃Zr:List Value,Zr.length=12∧Row W (p+1) 0 Zr:=⟨_,rfl,hrb⟩
 have bB:=ae (show Row W p 0 (X.map (Value.int .u64))from hra)
 have aA:=ae hk;have ap:=ae hrz
 clear hp hra hrb hrz hk hs
 go_upto_region 2 with(fail)
 refine au 11 [10] [0,1,2,3,4,5,6,7,8,9] (fun _=>aL) (by kernel_rfl) (by kernel_rfl) (by intro i hi;simp only[List.mem_cons,List.not_mem_nil,or_false]at hi;(first |(rcases hi with rfl|rfl)|subst hi)<;>exact⟨_,rfl,cq rfl rfl⟩) ?_
 iterate 3 refine kp (h:= ?_)
 refine kl (fun wS hS=>(bB.o.keeps hS)) lX (h:= ?_)
 refine kl (fun wS hS=>(bB.o.keeps hS)) lX (h:= ?_)
 refine kc (hc:=by exact fun wS hS=>dT.o wS (aA.o.trans hS)) (h:= ?_)
 refine kl (fun wS hS=>(bB.o.keeps hS)) lX (h:= ?_)
 refine kc (hc:=by exact fun wS hS=>HC2.o wS (aA.o.trans hS)) (h:= ?_)
 refine kp (hx:=by intro wS hS;(refine cR 95 [(0,.const (.int .u64 7))] ?_ _ ?_ _ JL.o)<;>rfl) (h:= ?_)
 refine kc (hc:=by exact fun wS hS=>fT.o wS (aA.o.trans hS)) (h:= ?_)
 refine aI ?_
 intro GG V1 hk1 hG
 obtain⟨iu,iH,hd10⟩:=hG 10 (by simp)
 clear hd10
 simp only[aZ,br,ct,kD,kG,kP,Option.bind_some]
 generalize GG 10=g1 at *
 clear hG
 have lI:=ae iH;have jZ:=ae (show _≤_ from iu)
 clear iH iu
 have aH:=ae hk1;clear hk1
 go_upto_region 3 with(first |(refine ws (g:=_) (olds:=aL) lI.o lS rfl (h:= ?_);intro W2 hr2 hc2;have eu:=ae hr2;have dT:=ae hc2;clear hr2 hc2))
 have HN:=eu;have HB:=jZ
 have aq:=ae (ag aH.o dT.o HB.o)
 have gD:=Nat.lt_of_lt_of_le (ap.o.lt (by intro e;rw[e]at du;cases du)) HB.o
 have bB:=ae (bB.o.keeps aq.o)
 have ap:=ae (ap.o.keeps aq.o)
 have aA:=ae (aA.o.trans aq.o)
 have gQ:=HN
 go_upto_region 4 with(first |(refine wl (bV.o.keeps aA.o) Pu (h:= ?_))|(refine aW (by kernel_rfl) 95 _ rfl _ ?_ _ HB1.o ?_;focus(simp only[List.map_toArray,List.map_cons,List.map_nil];rfl))|(go_at_call 89;refine(kX.o _).mono ?_;rintro e V1 ⟨rfl,hk1⟩;have aH:=ae hk1;clear hk1)|(refine ws (g:=V1.heap.size) (olds:=aL) (Row.new _ _ _ rfl) CX rfl (h:= ?_);intro W2 hr2 hc2;have HN:=ae hr2;have HB:=ae (show _≤_ from aH.o.size);have aq:=ae (ag (ah aH.o _) hc2 aH.o.size);clear hr2 hc2))
 generalize V1.heap.size=g2 at *
 have zj:=Nat.lt_of_lt_of_le (gQ.o.lt (aM lS)) HB.o
 have bB:=ae (bB.o.keeps aq.o)
 have ap:=ae (ap.o.keeps aq.o)
 have gQ:=ae (gQ.o.keeps aq.o)
 have aA:=ae (aA.o.trans aq.o)
 have kB:=HN
 refine au 7 [6] [0,1,2,3,4,5] (fun _=>aL) (by kernel_rfl) (by kernel_rfl) (by intro i hi;simp only[List.mem_cons,List.not_mem_nil,or_false]at hi;(first |(rcases hi with rfl|rfl)|subst hi)<;>exact⟨_,rfl,cq rfl rfl⟩) ?_
 refine kp (h:= ?_)
 refine kl (fun wS hS=>(gQ.o.keeps hS)) lS (h:= ?_)
 refine kl (fun wS hS=>(kB.o.keeps hS)) CX (h:= ?_)
 refine kc (hc:=by exact fun wS hS=>Pv.o wS (aA.o.trans hS)) (h:= ?_)
 refine kc (hc:=by exact fun wS hS=>Pw.o wS (aA.o.trans hS)) (h:= ?_)
 refine kc (hc:=by exact fun wS hS=>K7.o wS (aA.o.trans hS)) (h:= ?_)
 refine aI ?_
 intro GG V1 hk1 hG
 obtain⟨ha6,vC,hd6⟩:=hG 6 (by simp)
 clear hd6
 simp only[aZ,br,ct,kD,kG,kP,Option.bind_some]
 generalize GG 6=g3 at *
 clear hG
 have Ea:=ae vC;have Px:=ae (show _≤_ from ha6)
 clear vC ha6
 have aH:=ae hk1;clear hk1
 go_upto_region 5 with(first |(refine ws (g:=_) (olds:=aL) Ea.o lY rfl (h:= ?_);intro W2 hr2 hc2;have eu:=ae hr2;have dT:=ae hc2;clear hr2 hc2))
 have HN:=eu;have HB:=Px
 have aq:=ae (ag aH.o dT.o HB.o)
 have vD:=Nat.lt_of_lt_of_le (kB.o.lt (aM CX)) HB.o
 have bB:=ae (bB.o.keeps aq.o)
 have ap:=ae (ap.o.keeps aq.o)
 have gQ:=ae (gQ.o.keeps aq.o)
 have kB:=ae (kB.o.keeps aq.o)
 have aA:=ae (aA.o.trans aq.o)
 have cE:=HN
 refine au 5 [] [0,1,2,3,4] (fun _=>aL) (by kernel_rfl) (by kernel_rfl) (by intro i hi;cases hi) ?_
 refine kp (h:= ?_)
 refine kl (fun wS hS=>(cE.o.keeps hS)) lY (h:= ?_)
 refine kl (fun wS hS=>(cE.o.keeps hS)) lY (h:= ?_)
 refine kc (hc:=by exact fun wS hS=>Je.o wS (aA.o.trans hS)) (h:= ?_)
 refine kl (fun wS hS=>(gQ.o.keeps hS)) lS (h:= ?_)
 refine aI ?_
 intro GG V1 hk1 hG
 clear hG
 simp only[aZ,br,ct,kD,kG,kP,Option.bind_some]
 have aH:=ae hk1;clear hk1
 have bB:=ae (bB.o.keeps aH.o)
 have ap:=ae (ap.o.keeps aH.o)
 have gQ:=ae (gQ.o.keeps aH.o)
 have kB:=ae (kB.o.keeps aH.o)
 have cE:=ae (cE.o.keeps aH.o)
 have aA:=ae (aA.o.trans aH.o)
 have Yu:=ae hy0
 have c1:=cE.o.aT 0 (by rw[lY];decide)
 generalize Y.getD 0 0=y0 at *
 have hand:bits .and .u64 y0 1=y0%2:=eU hy0.1 hy0.2
 have z1:(y0%2 !=od)=false:=by rw[bne_eq_false_iff_eq];exact hpar
 clear hpar
 go_upto_region 7 with(refine qv (by kernel_rfl) 95 95 (.tmp 44) (.tmp 45) rfl _ _ rfl rfl true HE.o (by kernel_rfl) ?_)
 go_upto_region 9 with(fail)
 go_wp2_with (first |(refine wl bB.o lX (h:= ?_))|(refine wl cE.o lY (h:= ?_))|(refine aW (by kernel_rfl) 107 _ rfl _ ?_ _ DY.o ?_;focus(simp only[List.map_toArray,List.map_cons,List.map_nil];rfl))|(refine aW (by kernel_rfl) 95 _ rfl _ ?_ _ HB1.o ?_;focus(simp only[List.map_toArray,List.map_cons,List.map_nil];rfl))|(refine ws ap.o ro (by rw[du]) (h:= ?_);intro W2 hr2 hc2;have HN:=ae hr2;have HC:=ae hc2;clear hr2 hc2))
 exact bodyPost_ret (al (p:=6) (t:=7) (ty:=107) rfl _ _ (p+1) 0 _ _ _ rfl rfl HN.o Tryz.underlying107 rfl (by rw[aF,ro];exact cI)) rfl ⟨rfl,ag aA.o HC.o (by omega)⟩
theorem zm(gg:Nat)(X C1 C2 S SV MM RO R1 R2 Y YY ONE:List Int)(od:Int)(NY RT:List Int)(qm:RT=X++NY++ONE)(uF:ONE.length=4)(JS:NY.length=4)(hy0:0≤Y.getD 0 0∧Y.getD 0 0<18446744073709551616)(hpar:¬Y.getD 0 0%2=od)(lX:X.length=4)(lS:S.length=4)(Tf:SV.length=4)(Pu:MM.length=4)(CX:RO.length=4)(lY:Y.length=4)(w:World)(Fk:Row w gg 0 (MM.map (Value.int .u64)))
 (G7:Tryz.prog.built 95 [(0,.int .u64 7)]=some (SV.map (Value.int .u64)).toArray) (hB1:Tryz.prog.built 95 [(0,.int .u64 1)]=some (ONE.map (Value.int .u64)).toArray)
 (G8:∀W,Keeps w W→Calls Tryz.prog 92 #[.pointer (some ⟨gg,0,none⟩),.agg (X.map (Value.int .u64)).toArray,.agg (X.map (Value.int .u64)).toArray] W fun e w' =>e= .returned (.agg (C1.map (Value.int .u64)).toArray)∧Keeps W w')
 (hC2:∀W,Keeps w W→Calls Tryz.prog 92 #[.pointer (some ⟨gg,0,none⟩),.agg (C1.map (Value.int .u64)).toArray,.agg (X.map (Value.int .u64)).toArray] W fun e w' =>e= .returned (.agg (C2.map (Value.int .u64)).toArray)∧Keeps W w')
 (G9:∀W,Keeps w W→Calls Tryz.prog 49 #[.pointer (some ⟨gg,0,none⟩),.agg (C2.map (Value.int .u64)).toArray,.agg (SV.map (Value.int .u64)).toArray] W fun e w' =>e= .returned (.agg (S.map (Value.int .u64)).toArray)∧Keeps W w')
 (cy:Int) (K6:∀W,Calls Tryz.prog 89 #[.agg (MM.map (Value.int .u64)).toArray,.agg (ONE.map (Value.int .u64)).toArray] W fun e w' =>e= .returned (.tuple #[.agg (RO.map (Value.int .u64)).toArray,.int .u64 cy])∧Keeps W w')
 (hH1:∀W,Calls Tryz.prog 122 #[.agg (RO.map (Value.int .u64)).toArray,.int .u64 0] W fun e w' =>e= .returned (.agg (R1.map (Value.int .u64)).toArray)∧Keeps W w')
 (hH2:∀W,Calls Tryz.prog 122 #[.agg (R1.map (Value.int .u64)).toArray,.int .u64 0] W fun e w' =>e= .returned (.agg (R2.map (Value.int .u64)).toArray)∧Keeps W w')
 (Ha:∀W,Keeps w W→Calls Tryz.prog 121 #[.pointer (some ⟨gg,0,none⟩),.agg (S.map (Value.int .u64)).toArray,.agg (R2.map (Value.int .u64)).toArray] W fun e w' =>e= .returned (.agg (Y.map (Value.int .u64)).toArray)∧Keeps W w')
 (Hb:∀W,Keeps w W→Calls Tryz.prog 92 #[.pointer (some ⟨gg,0,none⟩),.agg (Y.map (Value.int .u64)).toArray,.agg (Y.map (Value.int .u64)).toArray] W fun e w' =>e= .returned (.agg (YY.map (Value.int .u64)).toArray)∧Keeps W w')
 (hE:∀W,(Op.equalIn 10000 95 (.agg (YY.map (Value.int .u64)).toArray) (.agg (S.map (Value.int .u64)).toArray)).run Tryz.prog W= .ok true W)
 (Py:∀W,Keeps w W→Calls Tryz.prog 123 #[.pointer (some ⟨gg,0,none⟩),.agg (Y.map (Value.int .u64)).toArray] W fun e w' =>e= .returned (.agg (NY.map (Value.int .u64)).toArray)∧Keeps W w'):
 Calls Tryz.prog 91 #[.pointer (some ⟨gg,0,none⟩),.agg (X.map (Value.int .u64)).toArray,.int .u64 od] w fun e w' =>e= .returned (.tuple #[.agg (RT.map (Value.int .u64)).toArray,.bool true])∧Keeps w w':=by
 have qp:=nj lX JS uF
 rw[←qm]at qp
 have DY:=ae qp
 have ro:RT.length=12:=by rw[qm];exact lf lX JS uF
 clear qp qm
 have Tg:=ae Py;clear Py
 have bV:=ae Fk;have JL:=ae G7;have HB1:=ae hB1;have dT:=ae G8;have HC2:=ae hC2;have fT:=ae G9;have kX:=ae K6
 have Pv:=ae (fun W (_:Keeps w W)=>hH1 W);have Pw:=ae (fun W (_:Keeps w W)=>hH2 W);have K7:=ae Ha;have Je:=ae Hb;have HE:=ae hE
 clear Fk G7 hB1 G8 hC2 G9 K6 hH1 hH2 Ha Hb hE
 go_enter Tryz.func91,Tryz.ntmps91
 go_upto_region 1 with(fail)
 refine bu (fun W hk hra hrb hs=> ?_)
 obtain⟨p,hp⟩:∃p,p=w.heap.size:=⟨_,rfl⟩
 rw[←hp]at hra hrb hs⊢
 have hkp:w.heap.size≤p:=by omega
 obtain⟨Zr,du,hrz⟩:∃Zr:List Value,Zr.length=12∧Row W (p+1) 0 Zr:=⟨_,rfl,hrb⟩
 have bB:=ae (show Row W p 0 (X.map (Value.int .u64))from hra)
 have aA:=ae hk;have ap:=ae hrz
 clear hp hra hrb hrz hk hs
 go_upto_region 2 with(fail)
 refine au 11 [10] [0,1,2,3,4,5,6,7,8,9] (fun _=>aL) (by kernel_rfl) (by kernel_rfl) (by intro i hi;simp only[List.mem_cons,List.not_mem_nil,or_false]at hi;(first |(rcases hi with rfl|rfl)|subst hi)<;>exact⟨_,rfl,cq rfl rfl⟩) ?_
 iterate 3 refine kp (h:= ?_)
 refine kl (fun wS hS=>(bB.o.keeps hS)) lX (h:= ?_)
 refine kl (fun wS hS=>(bB.o.keeps hS)) lX (h:= ?_)
 refine kc (hc:=by exact fun wS hS=>dT.o wS (aA.o.trans hS)) (h:= ?_)
 refine kl (fun wS hS=>(bB.o.keeps hS)) lX (h:= ?_)
 refine kc (hc:=by exact fun wS hS=>HC2.o wS (aA.o.trans hS)) (h:= ?_)
 refine kp (hx:=by intro wS hS;(refine cR 95 [(0,.const (.int .u64 7))] ?_ _ ?_ _ JL.o)<;>rfl) (h:= ?_)
 refine kc (hc:=by exact fun wS hS=>fT.o wS (aA.o.trans hS)) (h:= ?_)
 refine aI ?_
 intro GG V1 hk1 hG
 obtain⟨iu,iH,hd10⟩:=hG 10 (by simp)
 clear hd10
 simp only[aZ,br,ct,kD,kG,kP,Option.bind_some]
 generalize GG 10=g1 at *
 clear hG
 have lI:=ae iH;have jZ:=ae (show _≤_ from iu)
 clear iH iu
 have aH:=ae hk1;clear hk1
 go_upto_region 3 with(first |(refine ws (g:=_) (olds:=aL) lI.o lS rfl (h:= ?_);intro W2 hr2 hc2;have eu:=ae hr2;have dT:=ae hc2;clear hr2 hc2))
 have HN:=eu;have HB:=jZ
 have aq:=ae (ag aH.o dT.o HB.o)
 have gD:=Nat.lt_of_lt_of_le (ap.o.lt (by intro e;rw[e]at du;cases du)) HB.o
 have bB:=ae (bB.o.keeps aq.o)
 have ap:=ae (ap.o.keeps aq.o)
 have aA:=ae (aA.o.trans aq.o)
 have gQ:=HN
 go_upto_region 4 with(first |(refine wl (bV.o.keeps aA.o) Pu (h:= ?_))|(refine aW (by kernel_rfl) 95 _ rfl _ ?_ _ HB1.o ?_;focus(simp only[List.map_toArray,List.map_cons,List.map_nil];rfl))|(go_at_call 89;refine(kX.o _).mono ?_;rintro e V1 ⟨rfl,hk1⟩;have aH:=ae hk1;clear hk1)|(refine ws (g:=V1.heap.size) (olds:=aL) (Row.new _ _ _ rfl) CX rfl (h:= ?_);intro W2 hr2 hc2;have HN:=ae hr2;have HB:=ae (show _≤_ from aH.o.size);have aq:=ae (ag (ah aH.o _) hc2 aH.o.size);clear hr2 hc2))
 generalize V1.heap.size=g2 at *
 have zj:=Nat.lt_of_lt_of_le (gQ.o.lt (aM lS)) HB.o
 have bB:=ae (bB.o.keeps aq.o)
 have ap:=ae (ap.o.keeps aq.o)
 have gQ:=ae (gQ.o.keeps aq.o)
 have aA:=ae (aA.o.trans aq.o)
 have kB:=HN
 refine au 7 [6] [0,1,2,3,4,5] (fun _=>aL) (by kernel_rfl) (by kernel_rfl) (by intro i hi;simp only[List.mem_cons,List.not_mem_nil,or_false]at hi;(first |(rcases hi with rfl|rfl)|subst hi)<;>exact⟨_,rfl,cq rfl rfl⟩) ?_
 refine kp (h:= ?_)
 refine kl (fun wS hS=>(gQ.o.keeps hS)) lS (h:= ?_)
 refine kl (fun wS hS=>(kB.o.keeps hS)) CX (h:= ?_)
 refine kc (hc:=by exact fun wS hS=>Pv.o wS (aA.o.trans hS)) (h:= ?_)
 refine kc (hc:=by exact fun wS hS=>Pw.o wS (aA.o.trans hS)) (h:= ?_)
 refine kc (hc:=by exact fun wS hS=>K7.o wS (aA.o.trans hS)) (h:= ?_)
 refine aI ?_
 intro GG V1 hk1 hG
 obtain⟨ha6,vC,hd6⟩:=hG 6 (by simp)
 clear hd6
 simp only[aZ,br,ct,kD,kG,kP,Option.bind_some]
 generalize GG 6=g3 at *
 clear hG
 have Ea:=ae vC;have Px:=ae (show _≤_ from ha6)
 clear vC ha6
 have aH:=ae hk1;clear hk1
 go_upto_region 5 with(first |(refine ws (g:=_) (olds:=aL) Ea.o lY rfl (h:= ?_);intro W2 hr2 hc2;have eu:=ae hr2;have dT:=ae hc2;clear hr2 hc2))
 have HN:=eu;have HB:=Px
 have aq:=ae (ag aH.o dT.o HB.o)
 have vD:=Nat.lt_of_lt_of_le (kB.o.lt (aM CX)) HB.o
 have bB:=ae (bB.o.keeps aq.o)
 have ap:=ae (ap.o.keeps aq.o)
 have gQ:=ae (gQ.o.keeps aq.o)
 have kB:=ae (kB.o.keeps aq.o)
 have aA:=ae (aA.o.trans aq.o)
 have cE:=HN
 refine au 5 [] [0,1,2,3,4] (fun _=>aL) (by kernel_rfl) (by kernel_rfl) (by intro i hi;cases hi) ?_
 refine kp (h:= ?_)
 refine kl (fun wS hS=>(cE.o.keeps hS)) lY (h:= ?_)
 refine kl (fun wS hS=>(cE.o.keeps hS)) lY (h:= ?_)
 refine kc (hc:=by exact fun wS hS=>Je.o wS (aA.o.trans hS)) (h:= ?_)
 refine kl (fun wS hS=>(gQ.o.keeps hS)) lS (h:= ?_)
 refine aI ?_
 intro GG V1 hk1 hG
 clear hG
 simp only[aZ,br,ct,kD,kG,kP,Option.bind_some]
 have aH:=ae hk1;clear hk1
 have bB:=ae (bB.o.keeps aH.o)
 have ap:=ae (ap.o.keeps aH.o)
 have gQ:=ae (gQ.o.keeps aH.o)
 have kB:=ae (kB.o.keeps aH.o)
 have cE:=ae (cE.o.keeps aH.o)
 have aA:=ae (aA.o.trans aH.o)
 have c1:=cE.o.aT 0 (by rw[lY];decide)
 generalize Y.getD 0 0=y0 at *
 have hand:bits .and .u64 y0 1=y0%2:=eU hy0.1 hy0.2
 have z1:(y0%2 !=od)=true:=by rw[bne_iff_ne];exact hpar
 clear hpar
 go_upto_region 7 with(refine qv (by kernel_rfl) 95 95 (.tmp 44) (.tmp 45) rfl _ _ rfl rfl true HE.o (by kernel_rfl) ?_)
 go_upto_region 8 with(fail)
 go_upto_region 9 with(first |(refine wl cE.o lY (h:= ?_))|(go_at_call 123;refine(Tg.o _ aA.o).mono ?_;rintro e V2 ⟨rfl,hk1⟩;have iT:=ae hk1;clear hk1)|(refine ws (cE.o.keeps iT.o) JS (by rw[aF,lY]) (h:= ?_);intro W3 hr2 hc2;have Bt:=ae hr2;have MB:=ae hc2;clear hr2 hc2))
 have bB:=ae ((bB.o.keeps iT.o).aG MB.o (by omega))
 have ap:=ae ((ap.o.keeps iT.o).aG MB.o (by omega))
 have aA:=ae (ag (aA.o.trans iT.o) MB.o (by omega))
 have cE:=Bt
 go_wp2_with (first |(refine wl bB.o lX (h:= ?_))|(refine wl cE.o JS (h:= ?_))|(refine aW (by kernel_rfl) 107 _ rfl _ ?_ _ DY.o ?_;focus(simp only[List.map_toArray,List.map_cons,List.map_nil];rfl))|(refine aW (by kernel_rfl) 95 _ rfl _ ?_ _ HB1.o ?_;focus(simp only[List.map_toArray,List.map_cons,List.map_nil];rfl))|(refine ws ap.o ro (by rw[du]) (h:= ?_);intro W2 hr2 hc2;have HN:=ae hr2;have HC:=ae hc2;clear hr2 hc2))
 exact bodyPost_ret (al (p:=6) (t:=7) (ty:=107) rfl _ _ (p+1) 0 _ _ _ rfl rfl HN.o Tryz.underlying107 rfl (by rw[aF,ro];exact cI)) rfl ⟨rfl,ag aA.o HC.o (by omega)⟩
end Go.Proofs.YtlofddoojkeakaaGreatDoor
