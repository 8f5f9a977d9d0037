/- curve's group: add, every way. -/
import Derived.Test.YtlofddoojkeakaaGreatDoorGB8
set_option maxRecDepth 100000
set_option maxHeartbeats 16000000
set_option linter.unusedVariables false
set_option linter.unusedSimpArgs false
namespace Go.Proofs.YtlofddoojkeakaaGreatDoor
open Go Go.RowKit Cv
theorem xk(gg:Nat)(X Y Z U V T C1 C2 C3 C4 C5 C6 C7 C8 C9 C10 PT PU RT:List Int)(ql:PT=X++Y++Z)(uB:PU=U++V++T)(ro:RT.length=12)(lX:X.length=4)(lY:Y.length=4)(lZ:Z.length=4)(lU:U.length=4)(lV:V.length=4)(lT:T.length=4)(fX:C1.length=4)(lH:C2.length=4)(oI:C3.length=4)(sY:C4.length=4)(Bg:C5.length=4)(uo:C6.length=4)(Ry:C7.length=4)(uC:C8.length=4)(xe:C9.length=4)(qn:C10.length=4)(w:World)
 (kA:∀g W,Row W g 0 (PT.map (Value.int .u64))→Calls Tryz.prog 56 #[.pointer (some ⟨g,0,none⟩)] W fun e w' =>e= .returned (.bool false)∧Keeps W w')
 (mG:∀g W,Row W g 0 (PU.map (Value.int .u64))→Calls Tryz.prog 56 #[.pointer (some ⟨g,0,none⟩)] W fun e w' =>e= .returned (.bool false)∧Keeps W w')
 (yU:∀W,Calls Tryz.prog 50 #[.agg (C9.map (Value.int .u64)).toArray] W fun e w' =>e= .returned (.bool true)∧Keeps W w')
 (G3:∀W,Calls Tryz.prog 50 #[.agg (C10.map (Value.int .u64)).toArray] W fun e w' =>e= .returned (.bool true)∧Keeps W w')
 (Pq:∀W,Keeps w W→Calls Tryz.prog 94 #[.pointer (some ⟨gg,0,none⟩),.agg (PT.map (Value.int .u64)).toArray] W fun e w' =>e= .returned (.agg (RT.map (Value.int .u64)).toArray)∧Keeps W w')
 (h1:∀W,Keeps w W→Calls Tryz.prog 92 #[.pointer (some ⟨gg,0,none⟩),.agg (Z.map (Value.int .u64)).toArray,.agg (Z.map (Value.int .u64)).toArray] W fun e w' =>e= .returned (.agg (C1.map (Value.int .u64)).toArray)∧Keeps W w') (h2:∀W,Keeps w W→Calls Tryz.prog 92 #[.pointer (some ⟨gg,0,none⟩),.agg (T.map (Value.int .u64)).toArray,.agg (T.map (Value.int .u64)).toArray] W fun e w' =>e= .returned (.agg (C2.map (Value.int .u64)).toArray)∧Keeps W w') (h3:∀W,Keeps w W→Calls Tryz.prog 92 #[.pointer (some ⟨gg,0,none⟩),.agg (X.map (Value.int .u64)).toArray,.agg (C2.map (Value.int .u64)).toArray] W fun e w' =>e= .returned (.agg (C3.map (Value.int .u64)).toArray)∧Keeps W w') (h4:∀W,Keeps w W→Calls Tryz.prog 92 #[.pointer (some ⟨gg,0,none⟩),.agg (U.map (Value.int .u64)).toArray,.agg (C1.map (Value.int .u64)).toArray] W fun e w' =>e= .returned (.agg (C4.map (Value.int .u64)).toArray)∧Keeps W w') (h5:∀W,Keeps w W→Calls Tryz.prog 92 #[.pointer (some ⟨gg,0,none⟩),.agg (T.map (Value.int .u64)).toArray,.agg (C2.map (Value.int .u64)).toArray] W fun e w' =>e= .returned (.agg (C5.map (Value.int .u64)).toArray)∧Keeps W w') (h6:∀W,Keeps w W→Calls Tryz.prog 92 #[.pointer (some ⟨gg,0,none⟩),.agg (Y.map (Value.int .u64)).toArray,.agg (C5.map (Value.int .u64)).toArray] W fun e w' =>e= .returned (.agg (C6.map (Value.int .u64)).toArray)∧Keeps W w') (h7:∀W,Keeps w W→Calls Tryz.prog 92 #[.pointer (some ⟨gg,0,none⟩),.agg (Z.map (Value.int .u64)).toArray,.agg (C1.map (Value.int .u64)).toArray] W fun e w' =>e= .returned (.agg (C7.map (Value.int .u64)).toArray)∧Keeps W w') (h8:∀W,Keeps w W→Calls Tryz.prog 92 #[.pointer (some ⟨gg,0,none⟩),.agg (V.map (Value.int .u64)).toArray,.agg (C7.map (Value.int .u64)).toArray] W fun e w' =>e= .returned (.agg (C8.map (Value.int .u64)).toArray)∧Keeps W w') (h9:∀W,Keeps w W→Calls Tryz.prog 93 #[.pointer (some ⟨gg,0,none⟩),.agg (C4.map (Value.int .u64)).toArray,.agg (C3.map (Value.int .u64)).toArray] W fun e w' =>e= .returned (.agg (C9.map (Value.int .u64)).toArray)∧Keeps W w') (h10:∀W,Keeps w W→Calls Tryz.prog 93 #[.pointer (some ⟨gg,0,none⟩),.agg (C8.map (Value.int .u64)).toArray,.agg (C6.map (Value.int .u64)).toArray] W fun e w' =>e= .returned (.agg (C10.map (Value.int .u64)).toArray)∧Keeps W w'):
 Calls Tryz.prog 53 #[.pointer (some ⟨gg,0,none⟩),.agg (PT.map (Value.int .u64)).toArray,.agg (PU.map (Value.int .u64)).toArray] w fun e w' =>e= .returned (.agg (RT.map (Value.int .u64)).toArray)∧Keeps w w':=by
 have dT:=ae h1;clear h1
 have HC2:=ae h2;clear h2
 have fT:=ae h3;clear h3
 have ky:=ae h4;clear h4
 have fY:=ae h5;clear h5
 have gC:=ae h6;clear h6
 have yR:=ae h7;clear h7
 have DX:=ae h8;clear h8
 have bK:=ae h9;clear h9
 have fP:=ae h10;clear h10
 have qq:=ae kA;clear kA
 have sZ:=ae mG;clear mG
 have GH:=ae yU;clear yU
 have Mz:=ae G3;clear G3
 have nF:PT.length=12:=by rw[ql];exact lf lX lY lZ
 have KW:PU.length=12:=by rw[uB];exact lf lU lV lT
 have kV:=ae ql
 have wQ:=ae uB
 clear ql uB
 go_enter Tryz.func53,Tryz.ntmps53
 go_upto_region 1 with(fail)
 refine cU (fun W hk hra hrb hrc hs=> ?_)
 obtain⟨p,hp⟩:∃p,p=w.heap.size:=⟨_,rfl⟩
 rw[←hp]at hra hrb hrc hs⊢
 have hkp:w.heap.size≤p:=by omega
 obtain⟨Zr,du,hrz⟩:∃Zr:List Value,Zr.length=4+4+4∧Row W (p+1+1) 0 Zr:=⟨_,rfl,hrc⟩
 have bj:=ae (show Row W p 0 (PT.map (Value.int .u64))from hra)
 have bH:=ae (show Row W (p+1) 0 (PU.map (Value.int .u64))from hrb)
 have aA:=ae hk;have ap:=ae hrz
 clear hp hra hrb hrc hrz hk hs
 go_upto_region 4 with(go_at_call 56;refine(qq.o p _ bj.o).mono ?_;rintro e V1 ⟨rfl,hk1⟩;have aH:=ae hk1;clear hk1)
 have bj:=ae (bj.o.keeps aH.o)
 have bH:=ae (bH.o.keeps aH.o)
 have ap:=ae (ap.o.keeps aH.o)
 have aA:=ae (aA.o.trans aH.o)
 go_upto_region 6 with(go_at_call 56;refine(sZ.o (p+1) _ bH.o).mono ?_;rintro e V2 ⟨rfl,hk1⟩;have iT:=ae hk1;clear hk1)
 have bj:=ae (bj.o.keeps iT.o)
 have bH:=ae (bH.o.keeps iT.o)
 have ap:=ae (ap.o.keeps iT.o)
 have aA:=ae (aA.o.trans iT.o)
 have bB:=ae (row3 lX lY lZ (by have h:=bj.o;rwa[kV.o]at h)).1
 have cE:=ae (row3 lX lY lZ (by have h:=bj.o;rwa[kV.o]at h)).2.1
 have aV:=ae (row3 lX lY lZ (by have h:=bj.o;rwa[kV.o]at h)).2.2
 have e9:=ae (row3 lU lV lT (by have h:=bH.o;rwa[wQ.o]at h)).1
 have el:=ae (row3 lU lV lT (by have h:=bH.o;rwa[wQ.o]at h)).2.1
 have cV:=ae (row3 lU lV lT (by have h:=bH.o;rwa[wQ.o]at h)).2.2
 refine au 14 [12,13] [0,1,2,3,4,5,6,7,8,9,10,11] (fun _=>aL) (by kernel_rfl) (by kernel_rfl) (by intro i hi;simp only[List.mem_cons,List.not_mem_nil,or_false]at hi;(first |(rcases hi with rfl|rfl)|subst hi)<;>exact⟨_,rfl,cq rfl rfl⟩) ?_
 iterate 2 refine kp (h:= ?_)
 refine kl (fun wS hS=>(aV.o.keeps hS)) lZ (h:= ?_)
 refine kp (h:= ?_)
 refine kl (fun wS hS=>(aV.o.keeps hS)) lZ (h:= ?_)
 refine kc (hc:=by exact fun wS hS=>dT.o wS (aA.o.trans hS)) (h:= ?_)
 iterate 2 refine kp (h:= ?_)
 refine kl (fun wS hS=>(cV.o.keeps hS)) lT (h:= ?_)
 refine kp (h:= ?_)
 refine kl (fun wS hS=>(cV.o.keeps hS)) lT (h:= ?_)
 refine kc (hc:=by exact fun wS hS=>HC2.o wS (aA.o.trans hS)) (h:= ?_)
 refine aI ?_
 intro GG V1 hk1 hG
 obtain⟨yV,yW,yX⟩:=hG 12 (by simp)
 obtain⟨s7,s8,Bk⟩:=hG 13 (by simp)
 have oo:=yX 13 (by simp) (by decide)
 clear yX
 clear Bk
 simp only[aZ,br,ct,kD,kG,kP,Option.bind_some]
 generalize GG 12=g1 at *
 generalize GG 13=g2 at *
 clear hG
 have GI:=ae yW;have yY:=ae (show _≤_ from yV)
 have Bl:=ae s8;have uD:=ae (show _≤_ from s7)
 clear yW yV
 clear s8 s7
 have aH:=ae hk1;clear hk1
 go_upto_region 7 with(first |(refine ws (g:=_) (olds:=aL) GI.o fX rfl (h:= ?_);intro W2 hr2 hc2;have eu:=ae hr2;have dT:=ae hc2;clear hr2 hc2)|(refine ws (g:=_) (olds:=aL) (Bl.o.aG dT.o (by omega)) lH rfl (h:= ?_);intro W3 hr2 hc2;have mH:=ae hr2;have HC2:=ae hc2;clear hr2 hc2))
 have aq:=ae (ag (ag aH.o dT.o yY.o) HC2.o uD.o)
 have eu:=ae (eu.o.aG HC2.o (by omega))
 have gD:=Nat.lt_of_lt_of_le (ap.o.lt (by intro e;rw[e]at du;cases du)) yY.o
 have s9:=Nat.lt_of_lt_of_le (ap.o.lt (by intro e;rw[e]at du;cases du)) uD.o
 have bj:=ae (bj.o.keeps aq.o)
 have bB:=ae (bB.o.keeps aq.o)
 have cE:=ae (cE.o.keeps aq.o)
 have aV:=ae (aV.o.keeps aq.o)
 have bH:=ae (bH.o.keeps aq.o)
 have e9:=ae (e9.o.keeps aq.o)
 have el:=ae (el.o.keeps aq.o)
 have cV:=ae (cV.o.keeps aq.o)
 have ap:=ae (ap.o.keeps aq.o)
 have aA:=ae (aA.o.trans aq.o)
 have cK:=eu
 have cO:=mH
 refine au 12 [10,11] [0,1,2,3,4,5,6,7,8,9] (fun _=>aL) (by kernel_rfl) (by kernel_rfl) (by intro i hi;simp only[List.mem_cons,List.not_mem_nil,or_false]at hi;(first |(rcases hi with rfl|rfl)|subst hi)<;>exact⟨_,rfl,cq rfl rfl⟩) ?_
 iterate 2 refine kp (h:= ?_)
 refine kl (fun wS hS=>(bB.o.keeps hS)) lX (h:= ?_)
 refine kl (fun wS hS=>(cO.o.keeps hS)) lH (h:= ?_)
 refine kc (hc:=by exact fun wS hS=>fT.o wS (aA.o.trans hS)) (h:= ?_)
 iterate 2 refine kp (h:= ?_)
 refine kl (fun wS hS=>(e9.o.keeps hS)) lU (h:= ?_)
 refine kl (fun wS hS=>(cK.o.keeps hS)) fX (h:= ?_)
 refine kc (hc:=by exact fun wS hS=>ky.o wS (aA.o.trans hS)) (h:= ?_)
 refine aI ?_
 intro GG V1 hk1 hG
 obtain⟨iu,iH,hd10⟩:=hG 10 (by simp)
 obtain⟨yZ,y5,hd11⟩:=hG 11 (by simp)
 have oo:=hd10 11 (by simp) (by decide)
 clear hd10
 clear hd11
 simp only[aZ,br,ct,kD,kG,kP,Option.bind_some]
 generalize GG 10=g3 at *
 generalize GG 11=g4 at *
 clear hG
 have lI:=ae iH;have jZ:=ae (show _≤_ from iu)
 have GK:=ae y5;have ta:=ae (show _≤_ from yZ)
 clear iH iu
 clear y5 yZ
 have aH:=ae hk1;clear hk1
 go_upto_region 8 with(first |(refine ws (g:=_) (olds:=aL) lI.o oI rfl (h:= ?_);intro W2 hr2 hc2;have eu:=ae hr2;have dT:=ae hc2;clear hr2 hc2)|(refine ws (g:=_) (olds:=aL) (GK.o.aG dT.o (by omega)) sY rfl (h:= ?_);intro W3 hr2 hc2;have mH:=ae hr2;have HC2:=ae hc2;clear hr2 hc2))
 have aq:=ae (ag (ag aH.o dT.o jZ.o) HC2.o ta.o)
 have eu:=ae (eu.o.aG HC2.o (by omega))
 have vr:=Nat.lt_of_lt_of_le (cK.o.lt (aM fX)) jZ.o
 have qr:=Nat.lt_of_lt_of_le (cO.o.lt (aM lH)) jZ.o
 have vt:=Nat.lt_of_lt_of_le (cK.o.lt (aM fX)) ta.o
 have vu:=Nat.lt_of_lt_of_le (cO.o.lt (aM lH)) ta.o
 have bj:=ae (bj.o.keeps aq.o)
 have bB:=ae (bB.o.keeps aq.o)
 have cE:=ae (cE.o.keeps aq.o)
 have aV:=ae (aV.o.keeps aq.o)
 have bH:=ae (bH.o.keeps aq.o)
 have e9:=ae (e9.o.keeps aq.o)
 have el:=ae (el.o.keeps aq.o)
 have cV:=ae (cV.o.keeps aq.o)
 have ap:=ae (ap.o.keeps aq.o)
 have cK:=ae (cK.o.keeps aq.o)
 have cO:=ae (cO.o.keeps aq.o)
 have aA:=ae (aA.o.trans aq.o)
 have dL:=eu
 have dY:=mH
 refine au 20 [18,19] [0,1,2,3,4,5,6,7,8,9,10,11,12,13,14,15,16,17] (fun _=>aL) (by kernel_rfl) (by kernel_rfl) (by intro i hi;simp only[List.mem_cons,List.not_mem_nil,or_false]at hi;(first |(rcases hi with rfl|rfl)|subst hi)<;>exact⟨_,rfl,cq rfl rfl⟩) ?_
 iterate 2 refine kp (h:= ?_)
 refine kl (fun wS hS=>(cE.o.keeps hS)) lY (h:= ?_)
 iterate 2 refine kp (h:= ?_)
 refine kl (fun wS hS=>(cV.o.keeps hS)) lT (h:= ?_)
 refine kl (fun wS hS=>(cO.o.keeps hS)) lH (h:= ?_)
 refine kc (hc:=by exact fun wS hS=>fY.o wS (aA.o.trans hS)) (h:= ?_)
 refine kc (hc:=by exact fun wS hS=>gC.o wS (aA.o.trans hS)) (h:= ?_)
 iterate 2 refine kp (h:= ?_)
 refine kl (fun wS hS=>(el.o.keeps hS)) lV (h:= ?_)
 iterate 2 refine kp (h:= ?_)
 refine kl (fun wS hS=>(aV.o.keeps hS)) lZ (h:= ?_)
 refine kl (fun wS hS=>(cK.o.keeps hS)) fX (h:= ?_)
 refine kc (hc:=by exact fun wS hS=>yR.o wS (aA.o.trans hS)) (h:= ?_)
 refine kc (hc:=by exact fun wS hS=>DX.o wS (aA.o.trans hS)) (h:= ?_)
 refine aI ?_
 intro GG V1 hk1 hG
 obtain⟨y6,y7,y8⟩:=hG 18 (by simp)
 obtain⟨y9,za,GL⟩:=hG 19 (by simp)
 have oo:=y8 19 (by simp) (by decide)
 clear y8
 clear GL
 simp only[aZ,br,ct,kD,kG,kP,Option.bind_some]
 generalize GG 18=g5 at *
 generalize GG 19=g6 at *
 clear hG
 have GM:=ae y7;have tc:=ae (show _≤_ from y6)
 have GN:=ae za;have td:=ae (show _≤_ from y9)
 clear y7 y6
 clear za y9
 have aH:=ae hk1;clear hk1
 go_upto_region 9 with(first |(refine ws (g:=_) (olds:=aL) GM.o uo rfl (h:= ?_);intro W2 hr2 hc2;have eu:=ae hr2;have dT:=ae hc2;clear hr2 hc2)|(refine ws (g:=_) (olds:=aL) (GN.o.aG dT.o (by omega)) uC rfl (h:= ?_);intro W3 hr2 hc2;have mH:=ae hr2;have HC2:=ae hc2;clear hr2 hc2))
 have aq:=ae (ag (ag aH.o dT.o tc.o) HC2.o td.o)
 have eu:=ae (eu.o.aG HC2.o (by omega))
 have vv:=Nat.lt_of_lt_of_le (dL.o.lt (aM oI)) tc.o
 have qs:=Nat.lt_of_lt_of_le (dY.o.lt (aM sY)) tc.o
 have vw:=Nat.lt_of_lt_of_le (dL.o.lt (aM oI)) td.o
 have vy:=Nat.lt_of_lt_of_le (dY.o.lt (aM sY)) td.o
 have bj:=ae (bj.o.keeps aq.o)
 have bB:=ae (bB.o.keeps aq.o)
 have cE:=ae (cE.o.keeps aq.o)
 have aV:=ae (aV.o.keeps aq.o)
 have bH:=ae (bH.o.keeps aq.o)
 have e9:=ae (e9.o.keeps aq.o)
 have el:=ae (el.o.keeps aq.o)
 have cV:=ae (cV.o.keeps aq.o)
 have ap:=ae (ap.o.keeps aq.o)
 have cK:=ae (cK.o.keeps aq.o)
 have cO:=ae (cO.o.keeps aq.o)
 have dL:=ae (dL.o.keeps aq.o)
 have dY:=ae (dY.o.keeps aq.o)
 have aA:=ae (aA.o.trans aq.o)
 have eO:=eu
 have eH:=mH
 refine au 10 [8,9] [0,1,2,3,4,5,6,7] (fun _=>aL) (by kernel_rfl) (by kernel_rfl) (by intro i hi;simp only[List.mem_cons,List.not_mem_nil,or_false]at hi;(first |(rcases hi with rfl|rfl)|subst hi)<;>exact⟨_,rfl,cq rfl rfl⟩) ?_
 refine kp (h:= ?_)
 refine kl (fun wS hS=>(dY.o.keeps hS)) sY (h:= ?_)
 refine kl (fun wS hS=>(dL.o.keeps hS)) oI (h:= ?_)
 refine kc (hc:=by exact fun wS hS=>bK.o wS (aA.o.trans hS)) (h:= ?_)
 refine kp (h:= ?_)
 refine kl (fun wS hS=>(eH.o.keeps hS)) uC (h:= ?_)
 refine kl (fun wS hS=>(eO.o.keeps hS)) uo (h:= ?_)
 refine kc (hc:=by exact fun wS hS=>fP.o wS (aA.o.trans hS)) (h:= ?_)
 refine aI ?_
 intro GG V1 hk1 hG
 obtain⟨rp,rq,hd8⟩:=hG 8 (by simp)
 obtain⟨GQ,Fh,hd9⟩:=hG 9 (by simp)
 have oo:=hd8 9 (by simp) (by decide)
 clear hd8
 clear hd9
 simp only[aZ,br,ct,kD,kG,kP,Option.bind_some]
 generalize GG 8=g7 at *
 generalize GG 9=g8 at *
 clear hG
 have AF:=ae rq;have CR:=ae (show _≤_ from rp)
 have Mq:=ae Fh;have CS:=ae (show _≤_ from GQ)
 clear rq rp
 clear Fh GQ
 have aH:=ae hk1;clear hk1
 go_upto_region 10 with(first |(refine ws (g:=_) (olds:=aL) AF.o xe rfl (h:= ?_);intro W2 hr2 hc2;have eu:=ae hr2;have dT:=ae hc2;clear hr2 hc2)|(refine ws (g:=_) (olds:=aL) (Mq.o.aG dT.o (by omega)) qn rfl (h:= ?_);intro W3 hr2 hc2;have mH:=ae hr2;have HC2:=ae hc2;clear hr2 hc2))
 have aq:=ae (ag (ag aH.o dT.o CR.o) HC2.o CS.o)
 have eu:=ae (eu.o.aG HC2.o (by omega))
 have vz:=Nat.lt_of_lt_of_le (eO.o.lt (aM uo)) CR.o
 have qt:=Nat.lt_of_lt_of_le (eH.o.lt (aM uC)) CR.o
 have vA:=Nat.lt_of_lt_of_le (eO.o.lt (aM uo)) CS.o
 have vB:=Nat.lt_of_lt_of_le (eH.o.lt (aM uC)) CS.o
 have bj:=ae (bj.o.keeps aq.o)
 have bB:=ae (bB.o.keeps aq.o)
 have cE:=ae (cE.o.keeps aq.o)
 have aV:=ae (aV.o.keeps aq.o)
 have bH:=ae (bH.o.keeps aq.o)
 have e9:=ae (e9.o.keeps aq.o)
 have el:=ae (el.o.keeps aq.o)
 have cV:=ae (cV.o.keeps aq.o)
 have ap:=ae (ap.o.keeps aq.o)
 have cK:=ae (cK.o.keeps aq.o)
 have cO:=ae (cO.o.keeps aq.o)
 have dL:=ae (dL.o.keeps aq.o)
 have dY:=ae (dY.o.keeps aq.o)
 have eO:=ae (eO.o.keeps aq.o)
 have eH:=ae (eH.o.keeps aq.o)
 have aA:=ae (aA.o.trans aq.o)
 have iS:=eu
 have lJ:=mH
 have Pr:=ae Pq;clear Pq
 go_upto_region 11 with(first |(refine wl iS.o xe (h:= ?_))|(go_at_call 50;refine(GH.o _).mono ?_;rintro e V1 ⟨rfl,hk1⟩;have aH:=ae hk1;clear hk1))
 go_upto_region 12 with(first |(refine wl (lJ.o.keeps aH.o) qn (h:= ?_))|(go_at_call 50;refine(Mz.o _).mono ?_;rintro e V2 ⟨rfl,hk1⟩;have iT:=ae hk1;clear hk1))
 have bj:=ae ((bj.o.keeps aH.o).keeps iT.o)
 have ap:=ae ((ap.o.keeps aH.o).keeps iT.o)
 have aA:=ae ((aA.o.trans aH.o).trans iT.o)
 go_wp2_with (first |(refine wl bj.o nF (h:= ?_))|(go_at_call 94;refine(Pr.o _ aA.o).mono ?_;rintro e V3 ⟨rfl,hk1⟩;have Cp:=ae hk1;clear hk1)|(refine ws (ap.o.keeps Cp.o) ro (by rw[du]) (h:= ?_);intro W2 hr2 hc2;have HN:=ae hr2;have HC:=ae hc2;clear hr2 hc2))
 exact bodyPost_ret (ar (p:=6) (ty:=107) rfl _ _ (p+1+1) 0 _ _ rfl HN.o Tryz.underlying107 rfl (by rw[aF,ro];exact cI)) rfl ⟨rfl,ag (aA.o.trans Cp.o) HC.o (by omega)⟩
theorem zf(gg:Nat)(X Y Z U V T C1 C2 C3 C4 C5 C6 C7 C8 C9 C10 PT PU:List Int)(ql:PT=X++Y++Z)(uB:PU=U++V++T)(lX:X.length=4)(lY:Y.length=4)(lZ:Z.length=4)(lU:U.length=4)(lV:V.length=4)(lT:T.length=4)(fX:C1.length=4)(lH:C2.length=4)(oI:C3.length=4)(sY:C4.length=4)(Bg:C5.length=4)(uo:C6.length=4)(Ry:C7.length=4)(uC:C8.length=4)(xe:C9.length=4)(qn:C10.length=4)(w:World)
 (kA:∀g W,Row W g 0 (PT.map (Value.int .u64))→Calls Tryz.prog 56 #[.pointer (some ⟨g,0,none⟩)] W fun e w' =>e= .returned (.bool false)∧Keeps W w')
 (mG:∀g W,Row W g 0 (PU.map (Value.int .u64))→Calls Tryz.prog 56 #[.pointer (some ⟨g,0,none⟩)] W fun e w' =>e= .returned (.bool false)∧Keeps W w')
 (yU:∀W,Calls Tryz.prog 50 #[.agg (C9.map (Value.int .u64)).toArray] W fun e w' =>e= .returned (.bool true)∧Keeps W w')
 (G3:∀W,Calls Tryz.prog 50 #[.agg (C10.map (Value.int .u64)).toArray] W fun e w' =>e= .returned (.bool false)∧Keeps W w')
 (h1:∀W,Keeps w W→Calls Tryz.prog 92 #[.pointer (some ⟨gg,0,none⟩),.agg (Z.map (Value.int .u64)).toArray,.agg (Z.map (Value.int .u64)).toArray] W fun e w' =>e= .returned (.agg (C1.map (Value.int .u64)).toArray)∧Keeps W w') (h2:∀W,Keeps w W→Calls Tryz.prog 92 #[.pointer (some ⟨gg,0,none⟩),.agg (T.map (Value.int .u64)).toArray,.agg (T.map (Value.int .u64)).toArray] W fun e w' =>e= .returned (.agg (C2.map (Value.int .u64)).toArray)∧Keeps W w') (h3:∀W,Keeps w W→Calls Tryz.prog 92 #[.pointer (some ⟨gg,0,none⟩),.agg (X.map (Value.int .u64)).toArray,.agg (C2.map (Value.int .u64)).toArray] W fun e w' =>e= .returned (.agg (C3.map (Value.int .u64)).toArray)∧Keeps W w') (h4:∀W,Keeps w W→Calls Tryz.prog 92 #[.pointer (some ⟨gg,0,none⟩),.agg (U.map (Value.int .u64)).toArray,.agg (C1.map (Value.int .u64)).toArray] W fun e w' =>e= .returned (.agg (C4.map (Value.int .u64)).toArray)∧Keeps W w') (h5:∀W,Keeps w W→Calls Tryz.prog 92 #[.pointer (some ⟨gg,0,none⟩),.agg (T.map (Value.int .u64)).toArray,.agg (C2.map (Value.int .u64)).toArray] W fun e w' =>e= .returned (.agg (C5.map (Value.int .u64)).toArray)∧Keeps W w') (h6:∀W,Keeps w W→Calls Tryz.prog 92 #[.pointer (some ⟨gg,0,none⟩),.agg (Y.map (Value.int .u64)).toArray,.agg (C5.map (Value.int .u64)).toArray] W fun e w' =>e= .returned (.agg (C6.map (Value.int .u64)).toArray)∧Keeps W w') (h7:∀W,Keeps w W→Calls Tryz.prog 92 #[.pointer (some ⟨gg,0,none⟩),.agg (Z.map (Value.int .u64)).toArray,.agg (C1.map (Value.int .u64)).toArray] W fun e w' =>e= .returned (.agg (C7.map (Value.int .u64)).toArray)∧Keeps W w') (h8:∀W,Keeps w W→Calls Tryz.prog 92 #[.pointer (some ⟨gg,0,none⟩),.agg (V.map (Value.int .u64)).toArray,.agg (C7.map (Value.int .u64)).toArray] W fun e w' =>e= .returned (.agg (C8.map (Value.int .u64)).toArray)∧Keeps W w') (h9:∀W,Keeps w W→Calls Tryz.prog 93 #[.pointer (some ⟨gg,0,none⟩),.agg (C4.map (Value.int .u64)).toArray,.agg (C3.map (Value.int .u64)).toArray] W fun e w' =>e= .returned (.agg (C9.map (Value.int .u64)).toArray)∧Keeps W w') (h10:∀W,Keeps w W→Calls Tryz.prog 93 #[.pointer (some ⟨gg,0,none⟩),.agg (C8.map (Value.int .u64)).toArray,.agg (C6.map (Value.int .u64)).toArray] W fun e w' =>e= .returned (.agg (C10.map (Value.int .u64)).toArray)∧Keeps W w'):
 Calls Tryz.prog 53 #[.pointer (some ⟨gg,0,none⟩),.agg (PT.map (Value.int .u64)).toArray,.agg (PU.map (Value.int .u64)).toArray] w fun e w' =>e= .returned (.agg ((List.replicate 12 (0:Int)).map (Value.int .u64)).toArray)∧Keeps w w':=by
 have dT:=ae h1;clear h1
 have HC2:=ae h2;clear h2
 have fT:=ae h3;clear h3
 have ky:=ae h4;clear h4
 have fY:=ae h5;clear h5
 have gC:=ae h6;clear h6
 have yR:=ae h7;clear h7
 have DX:=ae h8;clear h8
 have bK:=ae h9;clear h9
 have fP:=ae h10;clear h10
 have qq:=ae kA;clear kA
 have sZ:=ae mG;clear mG
 have GH:=ae yU;clear yU
 have Mz:=ae G3;clear G3
 have nF:PT.length=12:=by rw[ql];exact lf lX lY lZ
 have KW:PU.length=12:=by rw[uB];exact lf lU lV lT
 have kV:=ae ql
 have wQ:=ae uB
 clear ql uB
 go_enter Tryz.func53,Tryz.ntmps53
 go_upto_region 1 with(fail)
 refine cU (fun W hk hra hrb hrc hs=> ?_)
 obtain⟨p,hp⟩:∃p,p=w.heap.size:=⟨_,rfl⟩
 rw[←hp]at hra hrb hrc hs⊢
 have hkp:w.heap.size≤p:=by omega
 obtain⟨Zr,du,hrz⟩:∃Zr:List Value,Zr.length=4+4+4∧Row W (p+1+1) 0 Zr:=⟨_,rfl,hrc⟩
 have bj:=ae (show Row W p 0 (PT.map (Value.int .u64))from hra)
 have bH:=ae (show Row W (p+1) 0 (PU.map (Value.int .u64))from hrb)
 have aA:=ae hk;have ap:=ae hrz
 clear hp hra hrb hrc hrz hk hs
 go_upto_region 4 with(go_at_call 56;refine(qq.o p _ bj.o).mono ?_;rintro e V1 ⟨rfl,hk1⟩;have aH:=ae hk1;clear hk1)
 have bj:=ae (bj.o.keeps aH.o)
 have bH:=ae (bH.o.keeps aH.o)
 have ap:=ae (ap.o.keeps aH.o)
 have aA:=ae (aA.o.trans aH.o)
 go_upto_region 6 with(go_at_call 56;refine(sZ.o (p+1) _ bH.o).mono ?_;rintro e V2 ⟨rfl,hk1⟩;have iT:=ae hk1;clear hk1)
 have bj:=ae (bj.o.keeps iT.o)
 have bH:=ae (bH.o.keeps iT.o)
 have ap:=ae (ap.o.keeps iT.o)
 have aA:=ae (aA.o.trans iT.o)
 have bB:=ae (row3 lX lY lZ (by have h:=bj.o;rwa[kV.o]at h)).1
 have cE:=ae (row3 lX lY lZ (by have h:=bj.o;rwa[kV.o]at h)).2.1
 have aV:=ae (row3 lX lY lZ (by have h:=bj.o;rwa[kV.o]at h)).2.2
 have e9:=ae (row3 lU lV lT (by have h:=bH.o;rwa[wQ.o]at h)).1
 have el:=ae (row3 lU lV lT (by have h:=bH.o;rwa[wQ.o]at h)).2.1
 have cV:=ae (row3 lU lV lT (by have h:=bH.o;rwa[wQ.o]at h)).2.2
 refine au 14 [12,13] [0,1,2,3,4,5,6,7,8,9,10,11] (fun _=>aL) (by kernel_rfl) (by kernel_rfl) (by intro i hi;simp only[List.mem_cons,List.not_mem_nil,or_false]at hi;(first |(rcases hi with rfl|rfl)|subst hi)<;>exact⟨_,rfl,cq rfl rfl⟩) ?_
 iterate 2 refine kp (h:= ?_)
 refine kl (fun wS hS=>(aV.o.keeps hS)) lZ (h:= ?_)
 refine kp (h:= ?_)
 refine kl (fun wS hS=>(aV.o.keeps hS)) lZ (h:= ?_)
 refine kc (hc:=by exact fun wS hS=>dT.o wS (aA.o.trans hS)) (h:= ?_)
 iterate 2 refine kp (h:= ?_)
 refine kl (fun wS hS=>(cV.o.keeps hS)) lT (h:= ?_)
 refine kp (h:= ?_)
 refine kl (fun wS hS=>(cV.o.keeps hS)) lT (h:= ?_)
 refine kc (hc:=by exact fun wS hS=>HC2.o wS (aA.o.trans hS)) (h:= ?_)
 refine aI ?_
 intro GG V1 hk1 hG
 obtain⟨yV,yW,yX⟩:=hG 12 (by simp)
 obtain⟨s7,s8,Bk⟩:=hG 13 (by simp)
 have oo:=yX 13 (by simp) (by decide)
 clear yX
 clear Bk
 simp only[aZ,br,ct,kD,kG,kP,Option.bind_some]
 generalize GG 12=g1 at *
 generalize GG 13=g2 at *
 clear hG
 have GI:=ae yW;have yY:=ae (show _≤_ from yV)
 have Bl:=ae s8;have uD:=ae (show _≤_ from s7)
 clear yW yV
 clear s8 s7
 have aH:=ae hk1;clear hk1
 go_upto_region 7 with(first |(refine ws (g:=_) (olds:=aL) GI.o fX rfl (h:= ?_);intro W2 hr2 hc2;have eu:=ae hr2;have dT:=ae hc2;clear hr2 hc2)|(refine ws (g:=_) (olds:=aL) (Bl.o.aG dT.o (by omega)) lH rfl (h:= ?_);intro W3 hr2 hc2;have mH:=ae hr2;have HC2:=ae hc2;clear hr2 hc2))
 have aq:=ae (ag (ag aH.o dT.o yY.o) HC2.o uD.o)
 have eu:=ae (eu.o.aG HC2.o (by omega))
 have gD:=Nat.lt_of_lt_of_le (ap.o.lt (by intro e;rw[e]at du;cases du)) yY.o
 have s9:=Nat.lt_of_lt_of_le (ap.o.lt (by intro e;rw[e]at du;cases du)) uD.o
 have bj:=ae (bj.o.keeps aq.o)
 have bB:=ae (bB.o.keeps aq.o)
 have cE:=ae (cE.o.keeps aq.o)
 have aV:=ae (aV.o.keeps aq.o)
 have bH:=ae (bH.o.keeps aq.o)
 have e9:=ae (e9.o.keeps aq.o)
 have el:=ae (el.o.keeps aq.o)
 have cV:=ae (cV.o.keeps aq.o)
 have ap:=ae (ap.o.keeps aq.o)
 have aA:=ae (aA.o.trans aq.o)
 have cK:=eu
 have cO:=mH
 refine au 12 [10,11] [0,1,2,3,4,5,6,7,8,9] (fun _=>aL) (by kernel_rfl) (by kernel_rfl) (by intro i hi;simp only[List.mem_cons,List.not_mem_nil,or_false]at hi;(first |(rcases hi with rfl|rfl)|subst hi)<;>exact⟨_,rfl,cq rfl rfl⟩) ?_
 iterate 2 refine kp (h:= ?_)
 refine kl (fun wS hS=>(bB.o.keeps hS)) lX (h:= ?_)
 refine kl (fun wS hS=>(cO.o.keeps hS)) lH (h:= ?_)
 refine kc (hc:=by exact fun wS hS=>fT.o wS (aA.o.trans hS)) (h:= ?_)
 iterate 2 refine kp (h:= ?_)
 refine kl (fun wS hS=>(e9.o.keeps hS)) lU (h:= ?_)
 refine kl (fun wS hS=>(cK.o.keeps hS)) fX (h:= ?_)
 refine kc (hc:=by exact fun wS hS=>ky.o wS (aA.o.trans hS)) (h:= ?_)
 refine aI ?_
 intro GG V1 hk1 hG
 obtain⟨iu,iH,hd10⟩:=hG 10 (by simp)
 obtain⟨yZ,y5,hd11⟩:=hG 11 (by simp)
 have oo:=hd10 11 (by simp) (by decide)
 clear hd10
 clear hd11
 simp only[aZ,br,ct,kD,kG,kP,Option.bind_some]
 generalize GG 10=g3 at *
 generalize GG 11=g4 at *
 clear hG
 have lI:=ae iH;have jZ:=ae (show _≤_ from iu)
 have GK:=ae y5;have ta:=ae (show _≤_ from yZ)
 clear iH iu
 clear y5 yZ
 have aH:=ae hk1;clear hk1
 go_upto_region 8 with(first |(refine ws (g:=_) (olds:=aL) lI.o oI rfl (h:= ?_);intro W2 hr2 hc2;have eu:=ae hr2;have dT:=ae hc2;clear hr2 hc2)|(refine ws (g:=_) (olds:=aL) (GK.o.aG dT.o (by omega)) sY rfl (h:= ?_);intro W3 hr2 hc2;have mH:=ae hr2;have HC2:=ae hc2;clear hr2 hc2))
 have aq:=ae (ag (ag aH.o dT.o jZ.o) HC2.o ta.o)
 have eu:=ae (eu.o.aG HC2.o (by omega))
 have vr:=Nat.lt_of_lt_of_le (cK.o.lt (aM fX)) jZ.o
 have qr:=Nat.lt_of_lt_of_le (cO.o.lt (aM lH)) jZ.o
 have vt:=Nat.lt_of_lt_of_le (cK.o.lt (aM fX)) ta.o
 have vu:=Nat.lt_of_lt_of_le (cO.o.lt (aM lH)) ta.o
 have bj:=ae (bj.o.keeps aq.o)
 have bB:=ae (bB.o.keeps aq.o)
 have cE:=ae (cE.o.keeps aq.o)
 have aV:=ae (aV.o.keeps aq.o)
 have bH:=ae (bH.o.keeps aq.o)
 have e9:=ae (e9.o.keeps aq.o)
 have el:=ae (el.o.keeps aq.o)
 have cV:=ae (cV.o.keeps aq.o)
 have ap:=ae (ap.o.keeps aq.o)
 have cK:=ae (cK.o.keeps aq.o)
 have cO:=ae (cO.o.keeps aq.o)
 have aA:=ae (aA.o.trans aq.o)
 have dL:=eu
 have dY:=mH
 refine au 20 [18,19] [0,1,2,3,4,5,6,7,8,9,10,11,12,13,14,15,16,17] (fun _=>aL) (by kernel_rfl) (by kernel_rfl) (by intro i hi;simp only[List.mem_cons,List.not_mem_nil,or_false]at hi;(first |(rcases hi with rfl|rfl)|subst hi)<;>exact⟨_,rfl,cq rfl rfl⟩) ?_
 iterate 2 refine kp (h:= ?_)
 refine kl (fun wS hS=>(cE.o.keeps hS)) lY (h:= ?_)
 iterate 2 refine kp (h:= ?_)
 refine kl (fun wS hS=>(cV.o.keeps hS)) lT (h:= ?_)
 refine kl (fun wS hS=>(cO.o.keeps hS)) lH (h:= ?_)
 refine kc (hc:=by exact fun wS hS=>fY.o wS (aA.o.trans hS)) (h:= ?_)
 refine kc (hc:=by exact fun wS hS=>gC.o wS (aA.o.trans hS)) (h:= ?_)
 iterate 2 refine kp (h:= ?_)
 refine kl (fun wS hS=>(el.o.keeps hS)) lV (h:= ?_)
 iterate 2 refine kp (h:= ?_)
 refine kl (fun wS hS=>(aV.o.keeps hS)) lZ (h:= ?_)
 refine kl (fun wS hS=>(cK.o.keeps hS)) fX (h:= ?_)
 refine kc (hc:=by exact fun wS hS=>yR.o wS (aA.o.trans hS)) (h:= ?_)
 refine kc (hc:=by exact fun wS hS=>DX.o wS (aA.o.trans hS)) (h:= ?_)
 refine aI ?_
 intro GG V1 hk1 hG
 obtain⟨y6,y7,y8⟩:=hG 18 (by simp)
 obtain⟨y9,za,GL⟩:=hG 19 (by simp)
 have oo:=y8 19 (by simp) (by decide)
 clear y8
 clear GL
 simp only[aZ,br,ct,kD,kG,kP,Option.bind_some]
 generalize GG 18=g5 at *
 generalize GG 19=g6 at *
 clear hG
 have GM:=ae y7;have tc:=ae (show _≤_ from y6)
 have GN:=ae za;have td:=ae (show _≤_ from y9)
 clear y7 y6
 clear za y9
 have aH:=ae hk1;clear hk1
 go_upto_region 9 with(first |(refine ws (g:=_) (olds:=aL) GM.o uo rfl (h:= ?_);intro W2 hr2 hc2;have eu:=ae hr2;have dT:=ae hc2;clear hr2 hc2)|(refine ws (g:=_) (olds:=aL) (GN.o.aG dT.o (by omega)) uC rfl (h:= ?_);intro W3 hr2 hc2;have mH:=ae hr2;have HC2:=ae hc2;clear hr2 hc2))
 have aq:=ae (ag (ag aH.o dT.o tc.o) HC2.o td.o)
 have eu:=ae (eu.o.aG HC2.o (by omega))
 have vv:=Nat.lt_of_lt_of_le (dL.o.lt (aM oI)) tc.o
 have qs:=Nat.lt_of_lt_of_le (dY.o.lt (aM sY)) tc.o
 have vw:=Nat.lt_of_lt_of_le (dL.o.lt (aM oI)) td.o
 have vy:=Nat.lt_of_lt_of_le (dY.o.lt (aM sY)) td.o
 have bj:=ae (bj.o.keeps aq.o)
 have bB:=ae (bB.o.keeps aq.o)
 have cE:=ae (cE.o.keeps aq.o)
 have aV:=ae (aV.o.keeps aq.o)
 have bH:=ae (bH.o.keeps aq.o)
 have e9:=ae (e9.o.keeps aq.o)
 have el:=ae (el.o.keeps aq.o)
 have cV:=ae (cV.o.keeps aq.o)
 have ap:=ae (ap.o.keeps aq.o)
 have cK:=ae (cK.o.keeps aq.o)
 have cO:=ae (cO.o.keeps aq.o)
 have dL:=ae (dL.o.keeps aq.o)
 have dY:=ae (dY.o.keeps aq.o)
 have aA:=ae (aA.o.trans aq.o)
 have eO:=eu
 have eH:=mH
 refine au 10 [8,9] [0,1,2,3,4,5,6,7] (fun _=>aL) (by kernel_rfl) (by kernel_rfl) (by intro i hi;simp only[List.mem_cons,List.not_mem_nil,or_false]at hi;(first |(rcases hi with rfl|rfl)|subst hi)<;>exact⟨_,rfl,cq rfl rfl⟩) ?_
 refine kp (h:= ?_)
 refine kl (fun wS hS=>(dY.o.keeps hS)) sY (h:= ?_)
 refine kl (fun wS hS=>(dL.o.keeps hS)) oI (h:= ?_)
 refine kc (hc:=by exact fun wS hS=>bK.o wS (aA.o.trans hS)) (h:= ?_)
 refine kp (h:= ?_)
 refine kl (fun wS hS=>(eH.o.keeps hS)) uC (h:= ?_)
 refine kl (fun wS hS=>(eO.o.keeps hS)) uo (h:= ?_)
 refine kc (hc:=by exact fun wS hS=>fP.o wS (aA.o.trans hS)) (h:= ?_)
 refine aI ?_
 intro GG V1 hk1 hG
 obtain⟨rp,rq,hd8⟩:=hG 8 (by simp)
 obtain⟨GQ,Fh,hd9⟩:=hG 9 (by simp)
 have oo:=hd8 9 (by simp) (by decide)
 clear hd8
 clear hd9
 simp only[aZ,br,ct,kD,kG,kP,Option.bind_some]
 generalize GG 8=g7 at *
 generalize GG 9=g8 at *
 clear hG
 have AF:=ae rq;have CR:=ae (show _≤_ from rp)
 have Mq:=ae Fh;have CS:=ae (show _≤_ from GQ)
 clear rq rp
 clear Fh GQ
 have aH:=ae hk1;clear hk1
 go_upto_region 10 with(first |(refine ws (g:=_) (olds:=aL) AF.o xe rfl (h:= ?_);intro W2 hr2 hc2;have eu:=ae hr2;have dT:=ae hc2;clear hr2 hc2)|(refine ws (g:=_) (olds:=aL) (Mq.o.aG dT.o (by omega)) qn rfl (h:= ?_);intro W3 hr2 hc2;have mH:=ae hr2;have HC2:=ae hc2;clear hr2 hc2))
 have aq:=ae (ag (ag aH.o dT.o CR.o) HC2.o CS.o)
 have eu:=ae (eu.o.aG HC2.o (by omega))
 have vz:=Nat.lt_of_lt_of_le (eO.o.lt (aM uo)) CR.o
 have qt:=Nat.lt_of_lt_of_le (eH.o.lt (aM uC)) CR.o
 have vA:=Nat.lt_of_lt_of_le (eO.o.lt (aM uo)) CS.o
 have vB:=Nat.lt_of_lt_of_le (eH.o.lt (aM uC)) CS.o
 have bj:=ae (bj.o.keeps aq.o)
 have bB:=ae (bB.o.keeps aq.o)
 have cE:=ae (cE.o.keeps aq.o)
 have aV:=ae (aV.o.keeps aq.o)
 have bH:=ae (bH.o.keeps aq.o)
 have e9:=ae (e9.o.keeps aq.o)
 have el:=ae (el.o.keeps aq.o)
 have cV:=ae (cV.o.keeps aq.o)
 have ap:=ae (ap.o.keeps aq.o)
 have cK:=ae (cK.o.keeps aq.o)
 have cO:=ae (cO.o.keeps aq.o)
 have dL:=ae (dL.o.keeps aq.o)
 have dY:=ae (dY.o.keeps aq.o)
 have eO:=ae (eO.o.keeps aq.o)
 have eH:=ae (eH.o.keeps aq.o)
 have aA:=ae (aA.o.trans aq.o)
 have iS:=eu
 have lJ:=mH
 go_upto_region 11 with(first |(refine wl iS.o xe (h:= ?_))|(go_at_call 50;refine(GH.o _).mono ?_;rintro e V1 ⟨rfl,hk1⟩;have aH:=ae hk1;clear hk1))
 go_upto_region 13 with(first |(refine wl (lJ.o.keeps aH.o) qn (h:= ?_))|(go_at_call 50;refine(Mz.o _).mono ?_;rintro e V2 ⟨rfl,hk1⟩;have iT:=ae hk1;clear hk1))
 have bj:=ae ((bj.o.keeps aH.o).keeps iT.o)
 have ap:=ae ((ap.o.keeps aH.o).keeps iT.o)
 have aA:=ae ((aA.o.trans aH.o).trans iT.o)
 go_wp2_with (first |(refine wpList_store_row rfl 107 (.tmp 6) (.tmp 82) rfl _ 0 rfl Zr ((List.replicate 12 (0:Int)).map (Value.int .u64)) rfl ap.o (by rw[du];rfl) cI (ai _) ?_;intro W2 hr2 hc2;have HN:=ae hr2;have HC:=ae hc2;clear hr2 hc2))
 exact bodyPost_ret (ar (p:=6) (ty:=107) rfl _ _ (p+1+1) 0 _ _ rfl HN.o Tryz.underlying107 rfl cI) rfl ⟨rfl,ag aA.o HC.o (by omega)⟩
theorem xl(gv:Value)(PT PU:List Int)(nF:PT.length=12)(KW:PU.length=12)(gg:Nat)(hgv:gv= .pointer (some ⟨gg,0,none⟩))(w:World)
 (kA:∀g W,Row W g 0 (PT.map (Value.int .u64))→Calls Tryz.prog 56 #[.pointer (some ⟨g,0,none⟩)] W fun e w' =>e= .returned (.bool true)∧Keeps W w'):
 Calls Tryz.prog 53 #[gv,.agg (PT.map (Value.int .u64)).toArray,.agg (PU.map (Value.int .u64)).toArray] w fun e w' =>e= .returned (.agg (PU.map (Value.int .u64)).toArray)∧Keeps w w':=by
 subst hgv
 have qq:=ae kA;clear kA
 go_enter Tryz.func53,Tryz.ntmps53
 go_upto_region 1 with(fail)
 refine cU (fun W hk hra hrb hrc hs=> ?_)
 obtain⟨p,hp⟩:∃p,p=w.heap.size:=⟨_,rfl⟩
 rw[←hp]at hra hrb hrc hs⊢
 have hkp:w.heap.size≤p:=by omega
 obtain⟨Zr,du,hrz⟩:∃Zr:List Value,Zr.length=12∧Row W (p+1+1) 0 Zr:=⟨_,rfl,hrc⟩
 have bj:=ae (show Row W p 0 (PT.map (Value.int .u64))from hra)
 have bH:=ae (show Row W (p+1) 0 (PU.map (Value.int .u64))from hrb)
 have aA:=ae hk;have ap:=ae hrz
 clear hp hra hrb hrc hrz hk hs
 go_wp2_with (first |(go_at_call 56;refine(qq.o p _ bj.o).mono ?_;rintro e V1 ⟨rfl,hk1⟩;have aH:=ae hk1;clear hk1)|(refine wl (bH.o.keeps aH.o) KW (h:= ?_))|(refine ws (ap.o.keeps aH.o) KW (by rw[du]) (h:= ?_);intro W2 hr2 hc2;have HN:=ae hr2;have HC:=ae hc2;clear hr2 hc2))
 exact bodyPost_ret (ar (p:=6) (ty:=107) rfl _ _ (p+1+1) 0 _ _ rfl HN.o Tryz.underlying107 rfl (by rw[aF,KW];exact cI)) rfl ⟨rfl,ag (aA.o.trans aH.o) HC.o (by omega)⟩
theorem xm(gv:Value)(PT PU:List Int)(nF:PT.length=12)(KW:PU.length=12)(gg:Nat)(hgv:gv= .pointer (some ⟨gg,0,none⟩))(w:World)
 (kA:∀g W,Row W g 0 (PT.map (Value.int .u64))→Calls Tryz.prog 56 #[.pointer (some ⟨g,0,none⟩)] W fun e w' =>e= .returned (.bool false)∧Keeps W w')
 (mG:∀g W,Row W g 0 (PU.map (Value.int .u64))→Calls Tryz.prog 56 #[.pointer (some ⟨g,0,none⟩)] W fun e w' =>e= .returned (.bool true)∧Keeps W w'):
 Calls Tryz.prog 53 #[gv,.agg (PT.map (Value.int .u64)).toArray,.agg (PU.map (Value.int .u64)).toArray] w fun e w' =>e= .returned (.agg (PT.map (Value.int .u64)).toArray)∧Keeps w w':=by
 subst hgv
 have qq:=ae kA;have sZ:=ae mG;clear kA mG
 go_enter Tryz.func53,Tryz.ntmps53
 go_upto_region 1 with(fail)
 refine cU (fun W hk hra hrb hrc hs=> ?_)
 obtain⟨p,hp⟩:∃p,p=w.heap.size:=⟨_,rfl⟩
 rw[←hp]at hra hrb hrc hs⊢
 have hkp:w.heap.size≤p:=by omega
 obtain⟨Zr,du,hrz⟩:∃Zr:List Value,Zr.length=12∧Row W (p+1+1) 0 Zr:=⟨_,rfl,hrc⟩
 have bj:=ae (show Row W p 0 (PT.map (Value.int .u64))from hra)
 have bH:=ae (show Row W (p+1) 0 (PU.map (Value.int .u64))from hrb)
 have aA:=ae hk;have ap:=ae hrz
 clear hp hra hrb hrc hrz hk hs
 go_upto_region 4 with(go_at_call 56;refine(qq.o p _ bj.o).mono ?_;rintro e V1 ⟨rfl,hk1⟩;have aH:=ae hk1;clear hk1)
 have bj:=ae (bj.o.keeps aH.o)
 have bH:=ae (bH.o.keeps aH.o)
 have ap:=ae (ap.o.keeps aH.o)
 have aA:=ae (aA.o.trans aH.o)
 go_wp2_with (first |(go_at_call 56;refine(sZ.o (p+1) _ bH.o).mono ?_;rintro e V2 ⟨rfl,hk1⟩;have iT:=ae hk1;clear hk1)|(refine wl (bj.o.keeps iT.o) nF (h:= ?_))|(refine ws (ap.o.keeps iT.o) nF (by rw[du]) (h:= ?_);intro W2 hr2 hc2;have HN:=ae hr2;have HC:=ae hc2;clear hr2 hc2))
 exact bodyPost_ret (ar (p:=6) (ty:=107) rfl _ _ (p+1+1) 0 _ _ rfl HN.o Tryz.underlying107 rfl (by rw[aF,nF];exact cI)) rfl ⟨rfl,ag (aA.o.trans iT.o) HC.o (by omega)⟩
theorem zg(g:Nat)(a b:J)(h:a.ok)(h':b.ok)(w:World)(hr:Row w g 0 cW):
 Calls Tryz.prog 53 #[.pointer (some ⟨g,0,none⟩),.agg ((iU a).map (Value.int .u64)).toArray,.agg ((iU b).map (Value.int .u64)).toArray] w fun e w' =>e= .returned (.agg ((iU (gO a b)).map (Value.int .u64)).toArray)∧Keeps w w':=by
 by_cases hz:a.z=0
 · have e:gO a b=b:=by unfold gO;rw[if_pos hz]
   rw[e]
   exact xl _ (iU a) (iU b) rfl rfl g rfl w (fun g' W hW=>lh g' a W h.2.2 hz hW)
 by_cases hz':b.z=0
 · have e:gO a b=a:=by unfold gO;rw[if_neg hz,if_pos hz']
   rw[e]
   exact xm _ (iU a) (iU b) rfl rfl g rfl w (fun g' W hW=>ep g' a W h.2.2 hz hW) (fun g' W hW=>lh g' b W h'.2.2 hz' hW)
 have hcase:gO a b=(if fs (fm b.x (fm a.z a.z)) (fm a.x (fm b.z b.z))=0 then(if fs (fm b.y (fm a.z (fm a.z a.z))) (fm a.y (fm b.z (fm b.z b.z)))=0 then lG a else⟨0,0,0⟩)else gO a b):=by
  by_cases hH:fs (fm b.x (fm a.z a.z)) (fm a.x (fm b.z b.z))=0
  ·rw[if_pos hH]
   conv=>lhs;unfold gO
   rw[if_neg hz,if_neg hz']
   dsimp only
   rw[if_pos hH]
  ·rw[if_neg hH]
 by_cases hH:fs (fm b.x (fm a.z a.z)) (fm a.x (fm b.z b.z))=0
 ·rw[if_pos hH]at hcase
  by_cases hRr:fs (fm b.y (fm a.z (fm a.z a.z))) (fm a.y (fm b.z (fm b.z b.z)))=0
  ·rw[if_pos hRr]at hcase
   obtain⟨c1,hc1⟩:∃v,v=fm a.z a.z:=⟨_,rfl⟩
   have Fi:c1<bn:=by rw[hc1];exact bI _ _
   obtain⟨c2,hc2⟩:∃v,v=fm b.z b.z:=⟨_,rfl⟩
   have xh:c2<bn:=by rw[hc2];exact bI _ _
   obtain⟨c3,hc3⟩:∃v,v=fm a.x c2:=⟨_,rfl⟩
   have D0:c3<bn:=by rw[hc3];exact bI _ _
   obtain⟨c4,hc4⟩:∃v,v=fm b.x c1:=⟨_,rfl⟩
   have GU:c4<bn:=by rw[hc4];exact bI _ _
   obtain⟨c5,hc5⟩:∃v,v=fm b.z c2:=⟨_,rfl⟩
   have GV:c5<bn:=by rw[hc5];exact bI _ _
   obtain⟨c6,hc6⟩:∃v,v=fm a.y c5:=⟨_,rfl⟩
   have Fj:c6<bn:=by rw[hc6];exact bI _ _
   obtain⟨c7,po⟩:∃v,v=fm a.z c1:=⟨_,rfl⟩
   have JM:c7<bn:=by rw[po];exact bI _ _
   obtain⟨c8,hc8⟩:∃v,v=fm b.y c7:=⟨_,rfl⟩
   have GY:c8<bn:=by rw[hc8];exact bI _ _
   obtain⟨c9,aJ⟩:∃v,v=fs c4 c3:=⟨_,rfl⟩
   have CW:c9<bn:=by rw[aJ];exact eZ _ _
   obtain⟨c10,eh⟩:∃v,v=fs c8 c6:=⟨_,rfl⟩
   have th:c10<bn:=by rw[eh];exact eZ _ _
   have Td:c9=0:=by rw[aJ,hc4,hc3,hc2,hc1];exact hH
   have MA:c10=0:=by rw[eh,hc8,po,hc6,hc5,hc2,hc1];exact hRr
   rw[hcase]
   exact xk g _ _ _ _ _ _ (nw c1) (nw c2) (nw c3) (nw c4) (nw c5) (nw c6) (nw c7) (nw c8) (nw c9) (nw c10) (iU a) (iU b) (iU (lG a)) rfl rfl rfl (ak _) (ak _) (ak _) (ak _) (ak _) (ak _) (ak _) (ak _) (ak _) (ak _) (ak _) (ak _) (ak _) (ak _) (ak _) (ak _) w (fun g' W hW=>ep g' a W (h.2.2) hz hW) (fun g' W hW=>ep g' b W (h'.2.2) hz' hW) (fun W=>by have :=fd ((c9:Nat):Int) (dx CW) W;rwa[show decide (((c9:Nat):Int)=0)=true from decide_eq_true (by exact_mod_cast Td)]at this) (fun W=>by have :=fd ((c10:Nat):Int) (dx th) W;rwa[show decide (((c10:Nat):Int)=0)=true from decide_eq_true (by exact_mod_cast MA)]at this) (fun W hk=>CV g a h W (hr.keeps hk)) (fun W hk=>by rw[hc1];exact aX g _ _ h.2.2 h.2.2 W (hr.keeps hk)) (fun W hk=>by rw[hc2];exact aX g _ _ h'.2.2 h'.2.2 W (hr.keeps hk)) (fun W hk=>by rw[hc3];exact aX g _ _ h.1 xh W (hr.keeps hk)) (fun W hk=>by rw[hc4];exact aX g _ _ h'.1 Fi W (hr.keeps hk)) (fun W hk=>by rw[hc5];exact aX g _ _ h'.2.2 xh W (hr.keeps hk)) (fun W hk=>by rw[hc6];exact aX g _ _ h.2.1 GV W (hr.keeps hk)) (fun W hk=>by rw[po];exact aX g _ _ h.2.2 Fi W (hr.keeps hk)) (fun W hk=>by rw[hc8];exact aX g _ _ h'.2.1 JM W (hr.keeps hk)) (fun W hk=>by rw[aJ];exact eJ g _ _ GU D0 W (hr.keeps hk)) (fun W hk=>by rw[eh];exact eJ g _ _ GY Fj W (hr.keeps hk))
  ·rw[if_neg hRr]at hcase
   obtain⟨c1,hc1⟩:∃v,v=fm a.z a.z:=⟨_,rfl⟩
   have Fi:c1<bn:=by rw[hc1];exact bI _ _
   obtain⟨c2,hc2⟩:∃v,v=fm b.z b.z:=⟨_,rfl⟩
   have xh:c2<bn:=by rw[hc2];exact bI _ _
   obtain⟨c3,hc3⟩:∃v,v=fm a.x c2:=⟨_,rfl⟩
   have D0:c3<bn:=by rw[hc3];exact bI _ _
   obtain⟨c4,hc4⟩:∃v,v=fm b.x c1:=⟨_,rfl⟩
   have GU:c4<bn:=by rw[hc4];exact bI _ _
   obtain⟨c5,hc5⟩:∃v,v=fm b.z c2:=⟨_,rfl⟩
   have GV:c5<bn:=by rw[hc5];exact bI _ _
   obtain⟨c6,hc6⟩:∃v,v=fm a.y c5:=⟨_,rfl⟩
   have Fj:c6<bn:=by rw[hc6];exact bI _ _
   obtain⟨c7,po⟩:∃v,v=fm a.z c1:=⟨_,rfl⟩
   have JM:c7<bn:=by rw[po];exact bI _ _
   obtain⟨c8,hc8⟩:∃v,v=fm b.y c7:=⟨_,rfl⟩
   have GY:c8<bn:=by rw[hc8];exact bI _ _
   obtain⟨c9,aJ⟩:∃v,v=fs c4 c3:=⟨_,rfl⟩
   have CW:c9<bn:=by rw[aJ];exact eZ _ _
   obtain⟨c10,eh⟩:∃v,v=fs c8 c6:=⟨_,rfl⟩
   have th:c10<bn:=by rw[eh];exact eZ _ _
   have Td:c9=0:=by rw[aJ,hc4,hc3,hc2,hc1];exact hH
   have MA:¬c10=0:=by rw[eh,hc8,po,hc6,hc5,hc2,hc1];exact hRr
   rw[hcase,show iU ⟨0,0,0⟩=List.replicate 12 (0:Int) by decide]
   exact zf g _ _ _ _ _ _ (nw c1) (nw c2) (nw c3) (nw c4) (nw c5) (nw c6) (nw c7) (nw c8) (nw c9) (nw c10) (iU a) (iU b) rfl rfl (ak _) (ak _) (ak _) (ak _) (ak _) (ak _) (ak _) (ak _) (ak _) (ak _) (ak _) (ak _) (ak _) (ak _) (ak _) (ak _) w (fun g' W hW=>ep g' a W (h.2.2) hz hW) (fun g' W hW=>ep g' b W (h'.2.2) hz' hW) (fun W=>by have :=fd ((c9:Nat):Int) (dx CW) W;rwa[show decide (((c9:Nat):Int)=0)=true from decide_eq_true (by exact_mod_cast Td)]at this) (fun W=>by have :=fd ((c10:Nat):Int) (dx th) W;rwa[show decide (((c10:Nat):Int)=0)=false from decide_eq_false (by intro e;exact MA (by exact_mod_cast e))]at this) (fun W hk=>by rw[hc1];exact aX g _ _ h.2.2 h.2.2 W (hr.keeps hk)) (fun W hk=>by rw[hc2];exact aX g _ _ h'.2.2 h'.2.2 W (hr.keeps hk)) (fun W hk=>by rw[hc3];exact aX g _ _ h.1 xh W (hr.keeps hk)) (fun W hk=>by rw[hc4];exact aX g _ _ h'.1 Fi W (hr.keeps hk)) (fun W hk=>by rw[hc5];exact aX g _ _ h'.2.2 xh W (hr.keeps hk)) (fun W hk=>by rw[hc6];exact aX g _ _ h.2.1 GV W (hr.keeps hk)) (fun W hk=>by rw[po];exact aX g _ _ h.2.2 Fi W (hr.keeps hk)) (fun W hk=>by rw[hc8];exact aX g _ _ h'.2.1 JM W (hr.keeps hk)) (fun W hk=>by rw[aJ];exact eJ g _ _ GU D0 W (hr.keeps hk)) (fun W hk=>by rw[eh];exact eJ g _ _ GY Fj W (hr.keeps hk))
 · skip
   obtain⟨c1,hc1⟩:∃v,v=fm a.z a.z:=⟨_,rfl⟩
   have Fi:c1<bn:=by rw[hc1];exact bI _ _
   obtain⟨c2,hc2⟩:∃v,v=fm b.z b.z:=⟨_,rfl⟩
   have xh:c2<bn:=by rw[hc2];exact bI _ _
   obtain⟨c3,hc3⟩:∃v,v=fm a.x c2:=⟨_,rfl⟩
   have D0:c3<bn:=by rw[hc3];exact bI _ _
   obtain⟨c4,hc4⟩:∃v,v=fm b.x c1:=⟨_,rfl⟩
   have GU:c4<bn:=by rw[hc4];exact bI _ _
   obtain⟨c5,hc5⟩:∃v,v=fm b.z c2:=⟨_,rfl⟩
   have GV:c5<bn:=by rw[hc5];exact bI _ _
   obtain⟨c6,hc6⟩:∃v,v=fm a.y c5:=⟨_,rfl⟩
   have Fj:c6<bn:=by rw[hc6];exact bI _ _
   obtain⟨c7,po⟩:∃v,v=fm a.z c1:=⟨_,rfl⟩
   have JM:c7<bn:=by rw[po];exact bI _ _
   obtain⟨c8,hc8⟩:∃v,v=fm b.y c7:=⟨_,rfl⟩
   have GY:c8<bn:=by rw[hc8];exact bI _ _
   obtain⟨c9,aJ⟩:∃v,v=fs c4 c3:=⟨_,rfl⟩
   have CW:c9<bn:=by rw[aJ];exact eZ _ _
   obtain⟨c10,eh⟩:∃v,v=fs c8 c6:=⟨_,rfl⟩
   have th:c10<bn:=by rw[eh];exact eZ _ _
   obtain⟨c11,ti⟩:∃v,v=fm c9 c9:=⟨_,rfl⟩
   have D1:c11<bn:=by rw[ti];exact bI _ _
   obtain⟨c12,hc12⟩:∃v,v=fm c9 c11:=⟨_,rfl⟩
   have xi:c12<bn:=by rw[hc12];exact bI _ _
   obtain⟨c13,hc13⟩:∃v,v=fm c3 c11:=⟨_,rfl⟩
   have Bm:c13<bn:=by rw[hc13];exact bI _ _
   obtain⟨c14,mJ⟩:∃v,v=fm c10 c10:=⟨_,rfl⟩
   have D3:c14<bn:=by rw[mJ];exact bI _ _
   obtain⟨c15,tj⟩:∃v,v=fs c14 c12:=⟨_,rfl⟩
   have D4:c15<bn:=by rw[tj];exact eZ _ _
   obtain⟨c16,hc16⟩:∃v,v=fa c13 c13:=⟨_,rfl⟩
   have D5:c16<bn:=by rw[hc16];exact eb _ _
   obtain⟨c17,hc17⟩:∃v,v=fs c15 c16:=⟨_,rfl⟩
   have GZ:c17<bn:=by rw[hc17];exact eZ _ _
   obtain⟨c18,hc18⟩:∃v,v=fs c13 c17:=⟨_,rfl⟩
   have G0:c18<bn:=by rw[hc18];exact eZ _ _
   obtain⟨c19,hc19⟩:∃v,v=fm c10 c18:=⟨_,rfl⟩
   have G2:c19<bn:=by rw[hc19];exact bI _ _
   obtain⟨c20,tk⟩:∃v,v=fm c6 c12:=⟨_,rfl⟩
   have JN:c20<bn:=by rw[tk];exact bI _ _
   obtain⟨c21,hc21⟩:∃v,v=fs c19 c20:=⟨_,rfl⟩
   have JO:c21<bn:=by rw[hc21];exact eZ _ _
   obtain⟨KZ,hc22⟩:∃v,v=fm a.z b.z:=⟨_,rfl⟩
   have JP:KZ<bn:=by rw[hc22];exact bI _ _
   obtain⟨c23,Bo⟩:∃v,v=fm c9 KZ:=⟨_,rfl⟩
   have Mu:c23<bn:=by rw[Bo];exact bI _ _
   refine GF g _ _ _ _ _ _ (nw c1) (nw c2) (nw c3) (nw c4) (nw c5) (nw c6) (nw c7) (nw c8) (nw c9) (nw c10) (nw c11) (nw c12) (nw c13) (nw c14) (nw c15) (nw c16) (nw c17) (nw c18) (nw c19) (nw c20) (nw c21) (nw KZ) (nw c23) (iU a) (iU b) (iU (gO a b)) rfl rfl ?_ (ak _) (ak _) (ak _) (ak _) (ak _) (ak _) (ak _) (ak _) (ak _) (ak _) (ak _) (ak _) (ak _) (ak _) (ak _) (ak _) (ak _) (ak _) (ak _) (ak _) (ak _) (ak _) (ak _) (ak _) (ak _) (ak _) (ak _) (ak _) (ak _) w (fun g' W hW=>ep g' a W (h.2.2) hz hW) (fun g' W hW=>ep g' b W (h'.2.2) hz' hW) (fun W=>by have :=fd ((c9:Nat):Int) (dx CW) W;rwa[show decide (((c9:Nat):Int)=0)=false from decide_eq_false (by rw[aJ,hc4,hc3,hc2,hc1];intro e;exact hH (by exact_mod_cast e))]at this) (fun W hk=>by rw[hc1];exact aX g _ _ h.2.2 h.2.2 W (hr.keeps hk)) (fun W hk=>by rw[hc2];exact aX g _ _ h'.2.2 h'.2.2 W (hr.keeps hk)) (fun W hk=>by rw[hc3];exact aX g _ _ h.1 xh W (hr.keeps hk)) (fun W hk=>by rw[hc4];exact aX g _ _ h'.1 Fi W (hr.keeps hk)) (fun W hk=>by rw[hc5];exact aX g _ _ h'.2.2 xh W (hr.keeps hk)) (fun W hk=>by rw[hc6];exact aX g _ _ h.2.1 GV W (hr.keeps hk)) (fun W hk=>by rw[po];exact aX g _ _ h.2.2 Fi W (hr.keeps hk)) (fun W hk=>by rw[hc8];exact aX g _ _ h'.2.1 JM W (hr.keeps hk)) (fun W hk=>by rw[aJ];exact eJ g _ _ GU D0 W (hr.keeps hk)) (fun W hk=>by rw[eh];exact eJ g _ _ GY Fj W (hr.keeps hk)) (fun W hk=>by rw[ti];exact aX g _ _ CW CW W (hr.keeps hk)) (fun W hk=>by rw[hc12];exact aX g _ _ CW D1 W (hr.keeps hk)) (fun W hk=>by rw[hc13];exact aX g _ _ D0 D1 W (hr.keeps hk)) (fun W hk=>by rw[mJ];exact aX g _ _ th th W (hr.keeps hk)) (fun W hk=>by rw[tj];exact eJ g _ _ D3 xi W (hr.keeps hk)) (fun W hk=>by rw[hc16];exact eI g _ _ Bm Bm W (hr.keeps hk)) (fun W hk=>by rw[hc17];exact eJ g _ _ D4 D5 W (hr.keeps hk)) (fun W hk=>by rw[hc18];exact eJ g _ _ Bm GZ W (hr.keeps hk)) (fun W hk=>by rw[hc19];exact aX g _ _ th G0 W (hr.keeps hk)) (fun W hk=>by rw[tk];exact aX g _ _ Fj xi W (hr.keeps hk)) (fun W hk=>by rw[hc21];exact eJ g _ _ G2 JN W (hr.keeps hk)) (fun W hk=>by rw[hc22];exact aX g _ _ h.2.2 h'.2.2 W (hr.keeps hk)) (fun W hk=>by rw[Bo];exact aX g _ _ CW JP W (hr.keeps hk))
   subst Bo hc22 hc21 tk hc19 hc18 hc17 hc16 tj mJ hc13 hc12 ti eh aJ hc8 po hc6 hc5 hc4 hc3 hc2 hc1
   unfold gO
   rw[if_neg hz,if_neg hz']
   dsimp only
   rw[if_neg hH]
   rfl
end Go.Proofs.YtlofddoojkeakaaGreatDoor
