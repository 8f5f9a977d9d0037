/- curve's group: double, over letters. -/
import Derived.Test.YtlofddoojkeakaaGreatDoorGB5
set_option maxRecDepth 100000
set_option maxHeartbeats 16000000
set_option linter.unusedVariables false
set_option linter.unusedSimpArgs false
namespace Go.Proofs.YtlofddoojkeakaaGreatDoor
open Go Go.RowKit
theorem GE(gg:Nat)(X Y Z C1 C2 C3 C4 C5 C6 C7 C8 C9 C10 DT Bf C13 Fc Fd Fe Ff Gj Gk Gl Fg PT RT:List Int)(ql:PT=X++Y++Z)(qm:RT=DT++Gl++Fg)(lX:X.length=4)(lY:Y.length=4)(lZ:Z.length=4)(fX:C1.length=4)(lH:C2.length=4)(oI:C3.length=4)(sY:C4.length=4)(Bg:C5.length=4)(uo:C6.length=4)(Ry:C7.length=4)(uC:C8.length=4)(xe:C9.length=4)(qn:C10.length=4)(qo:DT.length=4)(rI:Bf.length=4)(Bh:C13.length=4)(DU:Fc.length=4)(DV:Fd.length=4)(Gm:Fe.length=4)(Bi:Ff.length=4)(Ph:Gj.length=4)(DW:Gk.length=4)(JI:Gl.length=4)(xf:Fg.length=4)(w:World)
 (kA:∀g W,Row W g 0 (PT.map (Value.int .u64))→Calls Tryz.prog 56 #[.pointer (some ⟨g,0,none⟩)] W fun e w' =>e= .returned (.bool false)∧Keeps W w')
 (h1:∀W,Keeps w W→Calls Tryz.prog 92 #[.pointer (some ⟨gg,0,none⟩),.agg (Y.map (Value.int .u64)).toArray,.agg (Y.map (Value.int .u64)).toArray] W fun e w' =>e= .returned (.agg (C1.map (Value.int .u64)).toArray)∧Keeps W w') (h2:∀W,Keeps w W→Calls Tryz.prog 92 #[.pointer (some ⟨gg,0,none⟩),.agg (X.map (Value.int .u64)).toArray,.agg (C1.map (Value.int .u64)).toArray] W fun e w' =>e= .returned (.agg (C2.map (Value.int .u64)).toArray)∧Keeps W w') (h3:∀W,Keeps w W→Calls Tryz.prog 49 #[.pointer (some ⟨gg,0,none⟩),.agg (C2.map (Value.int .u64)).toArray,.agg (C2.map (Value.int .u64)).toArray] W fun e w' =>e= .returned (.agg (C3.map (Value.int .u64)).toArray)∧Keeps W w') (h4:∀W,Keeps w W→Calls Tryz.prog 49 #[.pointer (some ⟨gg,0,none⟩),.agg (C2.map (Value.int .u64)).toArray,.agg (C2.map (Value.int .u64)).toArray] W fun e w' =>e= .returned (.agg (C4.map (Value.int .u64)).toArray)∧Keeps W w') (h5:∀W,Keeps w W→Calls Tryz.prog 49 #[.pointer (some ⟨gg,0,none⟩),.agg (C3.map (Value.int .u64)).toArray,.agg (C4.map (Value.int .u64)).toArray] W fun e w' =>e= .returned (.agg (C5.map (Value.int .u64)).toArray)∧Keeps W w') (h6:∀W,Keeps w W→Calls Tryz.prog 92 #[.pointer (some ⟨gg,0,none⟩),.agg (X.map (Value.int .u64)).toArray,.agg (X.map (Value.int .u64)).toArray] W fun e w' =>e= .returned (.agg (C6.map (Value.int .u64)).toArray)∧Keeps W w') (h7:∀W,Keeps w W→Calls Tryz.prog 49 #[.pointer (some ⟨gg,0,none⟩),.agg (C6.map (Value.int .u64)).toArray,.agg (C6.map (Value.int .u64)).toArray] W fun e w' =>e= .returned (.agg (C7.map (Value.int .u64)).toArray)∧Keeps W w') (h8:∀W,Keeps w W→Calls Tryz.prog 49 #[.pointer (some ⟨gg,0,none⟩),.agg (C7.map (Value.int .u64)).toArray,.agg (C6.map (Value.int .u64)).toArray] W fun e w' =>e= .returned (.agg (C8.map (Value.int .u64)).toArray)∧Keeps W w') (h9:∀W,Keeps w W→Calls Tryz.prog 92 #[.pointer (some ⟨gg,0,none⟩),.agg (C8.map (Value.int .u64)).toArray,.agg (C8.map (Value.int .u64)).toArray] W fun e w' =>e= .returned (.agg (C9.map (Value.int .u64)).toArray)∧Keeps W w') (h10:∀W,Keeps w W→Calls Tryz.prog 49 #[.pointer (some ⟨gg,0,none⟩),.agg (C5.map (Value.int .u64)).toArray,.agg (C5.map (Value.int .u64)).toArray] W fun e w' =>e= .returned (.agg (C10.map (Value.int .u64)).toArray)∧Keeps W w') (h11:∀W,Keeps w W→Calls Tryz.prog 93 #[.pointer (some ⟨gg,0,none⟩),.agg (C9.map (Value.int .u64)).toArray,.agg (C10.map (Value.int .u64)).toArray] W fun e w' =>e= .returned (.agg (DT.map (Value.int .u64)).toArray)∧Keeps W w') (h12:∀W,Keeps w W→Calls Tryz.prog 92 #[.pointer (some ⟨gg,0,none⟩),.agg (C1.map (Value.int .u64)).toArray,.agg (C1.map (Value.int .u64)).toArray] W fun e w' =>e= .returned (.agg (Bf.map (Value.int .u64)).toArray)∧Keeps W w') (h13:∀W,Keeps w W→Calls Tryz.prog 49 #[.pointer (some ⟨gg,0,none⟩),.agg (Bf.map (Value.int .u64)).toArray,.agg (Bf.map (Value.int .u64)).toArray] W fun e w' =>e= .returned (.agg (C13.map (Value.int .u64)).toArray)∧Keeps W w') (KV:∀W,Keeps w W→Calls Tryz.prog 49 #[.pointer (some ⟨gg,0,none⟩),.agg (Bf.map (Value.int .u64)).toArray,.agg (Bf.map (Value.int .u64)).toArray] W fun e w' =>e= .returned (.agg (Fc.map (Value.int .u64)).toArray)∧Keeps W w') (h15:∀W,Keeps w W→Calls Tryz.prog 49 #[.pointer (some ⟨gg,0,none⟩),.agg (C13.map (Value.int .u64)).toArray,.agg (Fc.map (Value.int .u64)).toArray] W fun e w' =>e= .returned (.agg (Fd.map (Value.int .u64)).toArray)∧Keeps W w') (h16:∀W,Keeps w W→Calls Tryz.prog 92 #[.pointer (some ⟨gg,0,none⟩),.agg (Y.map (Value.int .u64)).toArray,.agg (Z.map (Value.int .u64)).toArray] W fun e w' =>e= .returned (.agg (Fe.map (Value.int .u64)).toArray)∧Keeps W w') (h17:∀W,Keeps w W→Calls Tryz.prog 93 #[.pointer (some ⟨gg,0,none⟩),.agg (C5.map (Value.int .u64)).toArray,.agg (DT.map (Value.int .u64)).toArray] W fun e w' =>e= .returned (.agg (Ff.map (Value.int .u64)).toArray)∧Keeps W w') (h18:∀W,Keeps w W→Calls Tryz.prog 92 #[.pointer (some ⟨gg,0,none⟩),.agg (C8.map (Value.int .u64)).toArray,.agg (Ff.map (Value.int .u64)).toArray] W fun e w' =>e= .returned (.agg (Gj.map (Value.int .u64)).toArray)∧Keeps W w') (h19:∀W,Keeps w W→Calls Tryz.prog 49 #[.pointer (some ⟨gg,0,none⟩),.agg (Fd.map (Value.int .u64)).toArray,.agg (Fd.map (Value.int .u64)).toArray] W fun e w' =>e= .returned (.agg (Gk.map (Value.int .u64)).toArray)∧Keeps W w') (h20:∀W,Keeps w W→Calls Tryz.prog 93 #[.pointer (some ⟨gg,0,none⟩),.agg (Gj.map (Value.int .u64)).toArray,.agg (Gk.map (Value.int .u64)).toArray] W fun e w' =>e= .returned (.agg (Gl.map (Value.int .u64)).toArray)∧Keeps W w') (h21:∀W,Keeps w W→Calls Tryz.prog 49 #[.pointer (some ⟨gg,0,none⟩),.agg (Fe.map (Value.int .u64)).toArray,.agg (Fe.map (Value.int .u64)).toArray] W fun e w' =>e= .returned (.agg (Fg.map (Value.int .u64)).toArray)∧Keeps W w'):
 Calls Tryz.prog 94 #[.pointer (some ⟨gg,0,none⟩),.agg (PT.map (Value.int .u64)).toArray] w fun e w' =>e= .returned (.agg (RT.map (Value.int .u64)).toArray)∧Keeps w w':=by
 have dT:=ae h1;clear h1
 have HC2:=ae h2;clear h2
 have fT:=ae h3;clear h3
 have ky:=ae h4;clear h4
 have fY:=ae h5;clear h5
 have gC:=ae h6;clear h6
 have yR:=ae h7;clear h7
 have DX:=ae h8;clear h8
 have bK:=ae h9;clear h9
 have fP:=ae h10;clear h10
 have Gn:=ae h11;clear h11
 have Gp:=ae h12;clear h12
 have Gq:=ae h13;clear h13
 have xg:=ae KV;clear KV
 have Gr:=ae h15;clear h15
 have Gs:=ae h16;clear h16
 have Gt:=ae h17;clear h17
 have Gu:=ae h18;clear h18
 have Gv:=ae h19;clear h19
 have Gw:=ae h20;clear h20
 have Gx:=ae h21;clear h21
 have qq:=ae kA;clear kA
 have nF:PT.length=12:=by rw[ql];exact lf lX lY lZ
 have ro:RT.length=12:=by rw[qm];exact lf qo JI xf
 have qp:=nj qo JI xf
 rw[←qm]at qp
 have DY:=ae qp
 have kV:=ae ql
 clear qp ql qm
 go_enter Tryz.func94,Tryz.ntmps94
 go_upto_region 1 with(fail)
 refine bu (fun W hk hra hrb hs=> ?_)
 obtain⟨p,hp⟩:∃p,p=w.heap.size:=⟨_,rfl⟩
 rw[←hp]at hra hrb hs⊢
 have hkp:w.heap.size≤p:=by omega
 obtain⟨Zr,du,hrz⟩:∃Zr:List Value,Zr.length=4+4+4∧Row W (p+1) 0 Zr:=⟨_,rfl,hrb⟩
 have bj:=ae (show Row W p 0 (PT.map (Value.int .u64))from hra)
 have aA:=ae hk;have ap:=ae hrz
 clear hp hra hrb hrz hk hs
 go_upto_region 4 with(go_at_call 56;refine(qq.o p _ bj.o).mono ?_;rintro e V1 ⟨rfl,hk1⟩;have aH:=ae hk1;clear hk1)
 have bj:=ae (bj.o.keeps aH.o)
 have ap:=ae (ap.o.keeps aH.o)
 have aA:=ae (aA.o.trans aH.o)
 have bB:=ae (row3 lX lY lZ (by have h:=bj.o;rwa[kV.o]at h)).1
 have cE:=ae (row3 lX lY lZ (by have h:=bj.o;rwa[kV.o]at h)).2.1
 have aV:=ae (row3 lX lY lZ (by have h:=bj.o;rwa[kV.o]at h)).2.2
 go_upto_region 5 with(first |(refine wl cE.o lY (h:= ?_))|(refine wl cE.o lY (h:= ?_))|(go_at_call 92;refine(dT.o _ aA.o).mono ?_;rintro e V1 ⟨rfl,hk1⟩;have aH:=ae hk1;clear hk1)|(refine ws (g:=V1.heap.size) (olds:=aL) (Row.new _ _ _ rfl) fX rfl (h:= ?_);intro W2 hr2 hc2;have HN:=ae hr2;have HB:=ae (show _≤_ from(aH.o).size);have aq:=ae (ag (ah (aH.o) _) hc2 (aH.o).size);clear hr2 hc2))
 generalize V1.heap.size=g1 at *
 have gD:=Nat.lt_of_lt_of_le (ap.o.lt (by intro e;rw[e]at du;cases du)) HB.o
 have bj:=ae (bj.o.keeps aq.o)
 have bB:=ae (bB.o.keeps aq.o)
 have cE:=ae (cE.o.keeps aq.o)
 have aV:=ae (aV.o.keeps aq.o)
 have ap:=ae (ap.o.keeps aq.o)
 have aA:=ae (aA.o.trans aq.o)
 have cK:=HN
 go_upto_region 6 with(first |(refine wl bB.o lX (h:= ?_))|(refine wl cK.o fX (h:= ?_))|(go_at_call 92;refine(HC2.o _ aA.o).mono ?_;rintro e V1 ⟨rfl,hk1⟩;have aH:=ae hk1;clear hk1)|(refine ws (g:=V1.heap.size) (olds:=aL) (Row.new _ _ _ rfl) lH rfl (h:= ?_);intro W2 hr2 hc2;have HN:=ae hr2;have HB:=ae (show _≤_ from(aH.o).size);have aq:=ae (ag (ah (aH.o) _) hc2 (aH.o).size);clear hr2 hc2))
 generalize V1.heap.size=g2 at *
 have DZ:=Nat.lt_of_lt_of_le (cK.o.lt (aM fX)) HB.o
 have bj:=ae (bj.o.keeps aq.o)
 have bB:=ae (bB.o.keeps aq.o)
 have cE:=ae (cE.o.keeps aq.o)
 have aV:=ae (aV.o.keeps aq.o)
 have ap:=ae (ap.o.keeps aq.o)
 have cK:=ae (cK.o.keeps aq.o)
 have aA:=ae (aA.o.trans aq.o)
 have cO:=HN
 refine au 10 [] [0,1,2,3,4,5,6,7,8,9] (fun _=>aL) (by kernel_rfl) (by kernel_rfl) (by intro i hi;cases hi) ?_
 iterate 2 refine kp (h:= ?_)
 refine kl (fun wS hS=>(cO.o.keeps hS)) lH (h:= ?_)
 refine kl (fun wS hS=>(cO.o.keeps hS)) lH (h:= ?_)
 refine kc (hc:=by exact fun wS hS=>fT.o wS (aA.o.trans hS)) (h:= ?_)
 refine kp (h:= ?_)
 refine kl (fun wS hS=>(cO.o.keeps hS)) lH (h:= ?_)
 refine kl (fun wS hS=>(cO.o.keeps hS)) lH (h:= ?_)
 refine kc (hc:=by exact fun wS hS=>ky.o wS (aA.o.trans hS)) (h:= ?_)
 refine kc (hc:=by exact fun wS hS=>fY.o wS (aA.o.trans hS)) (h:= ?_)
 refine aI ?_
 intro GG V1 hk1 hG
 simp only[aZ,br,ct,kD,kG,kP,Option.bind_some]
 clear hG
 have aH:=ae hk1;clear hk1
 go_upto_region 7 with(first |(refine ws (cO.o.keeps aH.o) Bg (by rw[aF,lH]) (h:= ?_);intro W2 hr2 hc2;have HN:=ae hr2;have HC:=ae hc2;clear hr2 hc2))
 have bj:=ae (((bj.o.keeps aH.o)).aG HC.o (by omega))
 have bB:=ae (((bB.o.keeps aH.o)).aG HC.o (by omega))
 have cE:=ae (((cE.o.keeps aH.o)).aG HC.o (by omega))
 have aV:=ae (((aV.o.keeps aH.o)).aG HC.o (by omega))
 have ap:=ae (((ap.o.keeps aH.o)).aG HC.o (by omega))
 have cK:=ae (((cK.o.keeps aH.o)).aG HC.o (by omega))
 have aA:=ae (ag ((aA.o.trans aH.o)) HC.o (by omega))
 have cO:=HN
 go_upto_region 8 with(first |(refine wl bB.o lX (h:= ?_))|(refine wl bB.o lX (h:= ?_))|(go_at_call 92;refine(gC.o _ aA.o).mono ?_;rintro e V1 ⟨rfl,hk1⟩;have aH:=ae hk1;clear hk1)|(refine ws (g:=V1.heap.size) (olds:=aL) (Row.new _ _ _ rfl) uo rfl (h:= ?_);intro W2 hr2 hc2;have HN:=ae hr2;have HB:=ae (show _≤_ from(aH.o).size);have aq:=ae (ag (ah (aH.o) _) hc2 (aH.o).size);clear hr2 hc2))
 generalize V1.heap.size=g3 at *
 have qr:=Nat.lt_of_lt_of_le (cO.o.lt (aM Bg)) HB.o
 have bj:=ae (bj.o.keeps aq.o)
 have bB:=ae (bB.o.keeps aq.o)
 have cE:=ae (cE.o.keeps aq.o)
 have aV:=ae (aV.o.keeps aq.o)
 have ap:=ae (ap.o.keeps aq.o)
 have cK:=ae (cK.o.keeps aq.o)
 have cO:=ae (cO.o.keeps aq.o)
 have aA:=ae (aA.o.trans aq.o)
 have dL:=HN
 refine au 8 [7] [0,1,2,3,4,5,6] (fun _=>aL) (by kernel_rfl) (by kernel_rfl) (by intro i hi;simp only[List.mem_cons,List.not_mem_nil,or_false]at hi;(first |(rcases hi with rfl|rfl)|subst hi)<;>exact⟨_,rfl,cq rfl rfl⟩) ?_
 iterate 2 refine kp (h:= ?_)
 refine kl (fun wS hS=>(dL.o.keeps hS)) uo (h:= ?_)
 refine kl (fun wS hS=>(dL.o.keeps hS)) uo (h:= ?_)
 refine kc (hc:=by exact fun wS hS=>yR.o wS (aA.o.trans hS)) (h:= ?_)
 refine kl (fun wS hS=>(dL.o.keeps hS)) uo (h:= ?_)
 refine kc (hc:=by exact fun wS hS=>DX.o wS (aA.o.trans hS)) (h:= ?_)
 refine aI ?_
 intro GG V1 hk1 hG
 obtain⟨US,UT,hd7⟩:=hG 7 (by simp)
 clear hd7
 simp only[aZ,br,ct,kD,kG,kP,Option.bind_some]
 generalize GG 7=g4 at *
 clear hG
 have Ww:=ae UT;have JL:=ae (show _≤_ from US)
 clear UT US
 have aH:=ae hk1;clear hk1
 go_upto_region 9 with(first |(refine ws (g:=_) (olds:=aL) Ww.o uC rfl (h:= ?_);intro W2 hr2 hc2;have eu:=ae hr2;have dT:=ae hc2;clear hr2 hc2))
 have HN:=eu;have HB:=JL
 have aq:=ae (ag aH.o dT.o HB.o)
 have Od:=Nat.lt_of_lt_of_le (dL.o.lt (aM uo)) HB.o
 have bj:=ae (bj.o.keeps aq.o)
 have bB:=ae (bB.o.keeps aq.o)
 have cE:=ae (cE.o.keeps aq.o)
 have aV:=ae (aV.o.keeps aq.o)
 have ap:=ae (ap.o.keeps aq.o)
 have cK:=ae (cK.o.keeps aq.o)
 have cO:=ae (cO.o.keeps aq.o)
 have dL:=ae (dL.o.keeps aq.o)
 have aA:=ae (aA.o.trans aq.o)
 have dY:=HN
 refine au 11 [10] [0,1,2,3,4,5,6,7,8,9] (fun _=>aL) (by kernel_rfl) (by kernel_rfl) (by intro i hi;simp only[List.mem_cons,List.not_mem_nil,or_false]at hi;(first |(rcases hi with rfl|rfl)|subst hi)<;>exact⟨_,rfl,cq rfl rfl⟩) ?_
 iterate 2 refine kp (h:= ?_)
 refine kl (fun wS hS=>(dY.o.keeps hS)) uC (h:= ?_)
 refine kl (fun wS hS=>(dY.o.keeps hS)) uC (h:= ?_)
 refine kc (hc:=by exact fun wS hS=>bK.o wS (aA.o.trans hS)) (h:= ?_)
 refine kp (h:= ?_)
 refine kl (fun wS hS=>(cO.o.keeps hS)) Bg (h:= ?_)
 refine kl (fun wS hS=>(cO.o.keeps hS)) Bg (h:= ?_)
 refine kc (hc:=by exact fun wS hS=>fP.o wS (aA.o.trans hS)) (h:= ?_)
 refine kc (hc:=by exact fun wS hS=>Gn.o wS (aA.o.trans hS)) (h:= ?_)
 refine aI ?_
 intro GG V1 hk1 hG
 obtain⟨iu,iH,hd10⟩:=hG 10 (by simp)
 clear hd10
 simp only[aZ,br,ct,kD,kG,kP,Option.bind_some]
 generalize GG 10=g5 at *
 clear hG
 have lI:=ae iH;have jZ:=ae (show _≤_ from iu)
 clear iH iu
 have aH:=ae hk1;clear hk1
 go_upto_region 10 with(first |(refine ws (g:=_) (olds:=aL) lI.o qo rfl (h:= ?_);intro W2 hr2 hc2;have eu:=ae hr2;have dT:=ae hc2;clear hr2 hc2))
 have HN:=eu;have HB:=jZ
 have aq:=ae (ag aH.o dT.o HB.o)
 have qs:=Nat.lt_of_lt_of_le (dY.o.lt (aM uC)) HB.o
 have bj:=ae (bj.o.keeps aq.o)
 have bB:=ae (bB.o.keeps aq.o)
 have cE:=ae (cE.o.keeps aq.o)
 have aV:=ae (aV.o.keeps aq.o)
 have ap:=ae (ap.o.keeps aq.o)
 have cK:=ae (cK.o.keeps aq.o)
 have cO:=ae (cO.o.keeps aq.o)
 have dL:=ae (dL.o.keeps aq.o)
 have dY:=ae (dY.o.keeps aq.o)
 have aA:=ae (aA.o.trans aq.o)
 have eO:=HN
 go_upto_region 11 with(first |(refine wl cK.o fX (h:= ?_))|(refine wl cK.o fX (h:= ?_))|(go_at_call 92;refine(Gp.o _ aA.o).mono ?_;rintro e V1 ⟨rfl,hk1⟩;have aH:=ae hk1;clear hk1)|(refine ws (g:=V1.heap.size) (olds:=aL) (Row.new _ _ _ rfl) rI rfl (h:= ?_);intro W2 hr2 hc2;have HN:=ae hr2;have HB:=ae (show _≤_ from(aH.o).size);have aq:=ae (ag (ah (aH.o) _) hc2 (aH.o).size);clear hr2 hc2))
 generalize V1.heap.size=g6 at *
 have Oe:=Nat.lt_of_lt_of_le (eO.o.lt (aM qo)) HB.o
 have bj:=ae (bj.o.keeps aq.o)
 have bB:=ae (bB.o.keeps aq.o)
 have cE:=ae (cE.o.keeps aq.o)
 have aV:=ae (aV.o.keeps aq.o)
 have ap:=ae (ap.o.keeps aq.o)
 have cK:=ae (cK.o.keeps aq.o)
 have cO:=ae (cO.o.keeps aq.o)
 have dL:=ae (dL.o.keeps aq.o)
 have dY:=ae (dY.o.keeps aq.o)
 have eO:=ae (eO.o.keeps aq.o)
 have aA:=ae (aA.o.trans aq.o)
 have eH:=HN
 refine au 10 [] [0,1,2,3,4,5,6,7,8,9] (fun _=>aL) (by kernel_rfl) (by kernel_rfl) (by intro i hi;cases hi) ?_
 iterate 2 refine kp (h:= ?_)
 refine kl (fun wS hS=>(eH.o.keeps hS)) rI (h:= ?_)
 refine kl (fun wS hS=>(eH.o.keeps hS)) rI (h:= ?_)
 refine kc (hc:=by exact fun wS hS=>Gq.o wS (aA.o.trans hS)) (h:= ?_)
 refine kp (h:= ?_)
 refine kl (fun wS hS=>(eH.o.keeps hS)) rI (h:= ?_)
 refine kl (fun wS hS=>(eH.o.keeps hS)) rI (h:= ?_)
 refine kc (hc:=by exact fun wS hS=>xg.o wS (aA.o.trans hS)) (h:= ?_)
 refine kc (hc:=by exact fun wS hS=>Gr.o wS (aA.o.trans hS)) (h:= ?_)
 refine aI ?_
 intro GG V1 hk1 hG
 simp only[aZ,br,ct,kD,kG,kP,Option.bind_some]
 clear hG
 have aH:=ae hk1;clear hk1
 go_upto_region 12 with(first |(refine ws (eH.o.keeps aH.o) DV (by rw[aF,rI]) (h:= ?_);intro W2 hr2 hc2;have HN:=ae hr2;have HC:=ae hc2;clear hr2 hc2))
 have bj:=ae (((bj.o.keeps aH.o)).aG HC.o (by omega))
 have bB:=ae (((bB.o.keeps aH.o)).aG HC.o (by omega))
 have cE:=ae (((cE.o.keeps aH.o)).aG HC.o (by omega))
 have aV:=ae (((aV.o.keeps aH.o)).aG HC.o (by omega))
 have ap:=ae (((ap.o.keeps aH.o)).aG HC.o (by omega))
 have cK:=ae (((cK.o.keeps aH.o)).aG HC.o (by omega))
 have cO:=ae (((cO.o.keeps aH.o)).aG HC.o (by omega))
 have dL:=ae (((dL.o.keeps aH.o)).aG HC.o (by omega))
 have dY:=ae (((dY.o.keeps aH.o)).aG HC.o (by omega))
 have eO:=ae (((eO.o.keeps aH.o)).aG HC.o (by omega))
 have aA:=ae (ag ((aA.o.trans aH.o)) HC.o (by omega))
 have eH:=HN
 go_upto_region 13 with(first |(refine wl cE.o lY (h:= ?_))|(refine wl aV.o lZ (h:= ?_))|(go_at_call 92;refine(Gs.o _ aA.o).mono ?_;rintro e V1 ⟨rfl,hk1⟩;have aH:=ae hk1;clear hk1)|(refine ws (g:=V1.heap.size) (olds:=aL) (Row.new _ _ _ rfl) Gm rfl (h:= ?_);intro W2 hr2 hc2;have HN:=ae hr2;have HB:=ae (show _≤_ from(aH.o).size);have aq:=ae (ag (ah (aH.o) _) hc2 (aH.o).size);clear hr2 hc2))
 generalize V1.heap.size=g7 at *
 have qt:=Nat.lt_of_lt_of_le (eH.o.lt (aM DV)) HB.o
 have bj:=ae (bj.o.keeps aq.o)
 have bB:=ae (bB.o.keeps aq.o)
 have cE:=ae (cE.o.keeps aq.o)
 have aV:=ae (aV.o.keeps aq.o)
 have ap:=ae (ap.o.keeps aq.o)
 have cK:=ae (cK.o.keeps aq.o)
 have cO:=ae (cO.o.keeps aq.o)
 have dL:=ae (dL.o.keeps aq.o)
 have dY:=ae (dY.o.keeps aq.o)
 have eO:=ae (eO.o.keeps aq.o)
 have eH:=ae (eH.o.keeps aq.o)
 have aA:=ae (aA.o.trans aq.o)
 have iS:=HN
 refine au 19 [] [0,1,2,3,4,5,6,7,8,9,10,11,12,13,14,15,16,17,18] (fun _=>aL) (by kernel_rfl) (by kernel_rfl) (by intro i hi;cases hi) ?_
 refine kl (fun wS hS=>(eO.o.keeps hS)) qo (h:= ?_)
 iterate 2 refine kp (h:= ?_)
 refine kl (fun wS hS=>(dY.o.keeps hS)) uC (h:= ?_)
 refine kp (h:= ?_)
 refine kl (fun wS hS=>(cO.o.keeps hS)) Bg (h:= ?_)
 refine kl (fun wS hS=>(eO.o.keeps hS)) qo (h:= ?_)
 refine kc (hc:=by exact fun wS hS=>Gt.o wS (aA.o.trans hS)) (h:= ?_)
 refine kc (hc:=by exact fun wS hS=>Gu.o wS (aA.o.trans hS)) (h:= ?_)
 refine kp (h:= ?_)
 refine kl (fun wS hS=>(eH.o.keeps hS)) DV (h:= ?_)
 refine kl (fun wS hS=>(eH.o.keeps hS)) DV (h:= ?_)
 refine kc (hc:=by exact fun wS hS=>Gv.o wS (aA.o.trans hS)) (h:= ?_)
 refine kc (hc:=by exact fun wS hS=>Gw.o wS (aA.o.trans hS)) (h:= ?_)
 refine kp (h:= ?_)
 refine kl (fun wS hS=>(iS.o.keeps hS)) Gm (h:= ?_)
 refine kl (fun wS hS=>(iS.o.keeps hS)) Gm (h:= ?_)
 refine kc (hc:=by exact fun wS hS=>Gx.o wS (aA.o.trans hS)) (h:= ?_)
 refine kp (hx:=by intro wS hS;(refine cR 107 [(0,.tmp 82),(1,.tmp 95),(2,.tmp 99)] ?_ _ ?_ _ DY.o)<;>rfl) (h:= ?_)
 refine aI ?_
 intro GG V1 hk1 hG
 simp only[aZ,br,ct,kD,kG,kP,Option.bind_some]
 clear hG
 have aH:=ae hk1;clear hk1
 go_wp2_with (first |(refine ws (ap.o.keeps aH.o) ro (by rw[du]) (h:= ?_);intro W2 hr2 hc2;have HN:=ae hr2;have HC:=ae hc2;clear hr2 hc2))
 have bj:=ae (((bj.o.keeps aH.o)).aG HC.o (by omega))
 have bB:=ae (((bB.o.keeps aH.o)).aG HC.o (by omega))
 have cE:=ae (((cE.o.keeps aH.o)).aG HC.o (by omega))
 have aV:=ae (((aV.o.keeps aH.o)).aG HC.o (by omega))
 have cK:=ae (((cK.o.keeps aH.o)).aG HC.o (by omega))
 have cO:=ae (((cO.o.keeps aH.o)).aG HC.o (by omega))
 have dL:=ae (((dL.o.keeps aH.o)).aG HC.o (by omega))
 have dY:=ae (((dY.o.keeps aH.o)).aG HC.o (by omega))
 have eO:=ae (((eO.o.keeps aH.o)).aG HC.o (by omega))
 have eH:=ae (((eH.o.keeps aH.o)).aG HC.o (by omega))
 have iS:=ae (((iS.o.keeps aH.o)).aG HC.o (by omega))
 have aA:=ae (ag ((aA.o.trans aH.o)) HC.o (by omega))
 exact bodyPost_ret (ar (p:=4) (ty:=107) rfl _ _ (p+1) 0 _ _ rfl HN.o Tryz.underlying107 rfl (by rw[aF,ro];exact cI)) rfl ⟨rfl,aA.o⟩
theorem GF(gg:Nat)(X Y Z U V T C1 C2 C3 C4 C5 C6 C7 C8 C9 C10 DT Bf C13 Fc Fd Fe Ff Gj Gk Gl Fg KT KU PT PU RT:List Int)(ql:PT=X++Y++Z)(uB:PU=U++V++T)(qm:RT=Ff++Fg++KU)(lX:X.length=4)(lY:Y.length=4)(lZ:Z.length=4)(lU:U.length=4)(lV:V.length=4)(lT:T.length=4)(fX:C1.length=4)(lH:C2.length=4)(oI:C3.length=4)(sY:C4.length=4)(Bg:C5.length=4)(uo:C6.length=4)(Ry:C7.length=4)(uC:C8.length=4)(xe:C9.length=4)(qn:C10.length=4)(qo:DT.length=4)(rI:Bf.length=4)(Bh:C13.length=4)(DU:Fc.length=4)(DV:Fd.length=4)(Gm:Fe.length=4)(Bi:Ff.length=4)(Ph:Gj.length=4)(DW:Gk.length=4)(JI:Gl.length=4)(xf:Fg.length=4)(JJ:KT.length=4)(Bj:KU.length=4)(w:World)
 (kA:∀g W,Row W g 0 (PT.map (Value.int .u64))→Calls Tryz.prog 56 #[.pointer (some ⟨g,0,none⟩)] W fun e w' =>e= .returned (.bool false)∧Keeps W w')
 (mG:∀g W,Row W g 0 (PU.map (Value.int .u64))→Calls Tryz.prog 56 #[.pointer (some ⟨g,0,none⟩)] W fun e w' =>e= .returned (.bool false)∧Keeps W w')
 (yU:∀W,Calls Tryz.prog 50 #[.agg (C9.map (Value.int .u64)).toArray] W fun e w' =>e= .returned (.bool false)∧Keeps W w')
 (h1:∀W,Keeps w W→Calls Tryz.prog 92 #[.pointer (some ⟨gg,0,none⟩),.agg (Z.map (Value.int .u64)).toArray,.agg (Z.map (Value.int .u64)).toArray] W fun e w' =>e= .returned (.agg (C1.map (Value.int .u64)).toArray)∧Keeps W w') (h2:∀W,Keeps w W→Calls Tryz.prog 92 #[.pointer (some ⟨gg,0,none⟩),.agg (T.map (Value.int .u64)).toArray,.agg (T.map (Value.int .u64)).toArray] W fun e w' =>e= .returned (.agg (C2.map (Value.int .u64)).toArray)∧Keeps W w') (h3:∀W,Keeps w W→Calls Tryz.prog 92 #[.pointer (some ⟨gg,0,none⟩),.agg (X.map (Value.int .u64)).toArray,.agg (C2.map (Value.int .u64)).toArray] W fun e w' =>e= .returned (.agg (C3.map (Value.int .u64)).toArray)∧Keeps W w') (h4:∀W,Keeps w W→Calls Tryz.prog 92 #[.pointer (some ⟨gg,0,none⟩),.agg (U.map (Value.int .u64)).toArray,.agg (C1.map (Value.int .u64)).toArray] W fun e w' =>e= .returned (.agg (C4.map (Value.int .u64)).toArray)∧Keeps W w') (h5:∀W,Keeps w W→Calls Tryz.prog 92 #[.pointer (some ⟨gg,0,none⟩),.agg (T.map (Value.int .u64)).toArray,.agg (C2.map (Value.int .u64)).toArray] W fun e w' =>e= .returned (.agg (C5.map (Value.int .u64)).toArray)∧Keeps W w') (h6:∀W,Keeps w W→Calls Tryz.prog 92 #[.pointer (some ⟨gg,0,none⟩),.agg (Y.map (Value.int .u64)).toArray,.agg (C5.map (Value.int .u64)).toArray] W fun e w' =>e= .returned (.agg (C6.map (Value.int .u64)).toArray)∧Keeps W w') (h7:∀W,Keeps w W→Calls Tryz.prog 92 #[.pointer (some ⟨gg,0,none⟩),.agg (Z.map (Value.int .u64)).toArray,.agg (C1.map (Value.int .u64)).toArray] W fun e w' =>e= .returned (.agg (C7.map (Value.int .u64)).toArray)∧Keeps W w') (h8:∀W,Keeps w W→Calls Tryz.prog 92 #[.pointer (some ⟨gg,0,none⟩),.agg (V.map (Value.int .u64)).toArray,.agg (C7.map (Value.int .u64)).toArray] W fun e w' =>e= .returned (.agg (C8.map (Value.int .u64)).toArray)∧Keeps W w') (h9:∀W,Keeps w W→Calls Tryz.prog 93 #[.pointer (some ⟨gg,0,none⟩),.agg (C4.map (Value.int .u64)).toArray,.agg (C3.map (Value.int .u64)).toArray] W fun e w' =>e= .returned (.agg (C9.map (Value.int .u64)).toArray)∧Keeps W w') (h10:∀W,Keeps w W→Calls Tryz.prog 93 #[.pointer (some ⟨gg,0,none⟩),.agg (C8.map (Value.int .u64)).toArray,.agg (C6.map (Value.int .u64)).toArray] W fun e w' =>e= .returned (.agg (C10.map (Value.int .u64)).toArray)∧Keeps W w') (h11:∀W,Keeps w W→Calls Tryz.prog 92 #[.pointer (some ⟨gg,0,none⟩),.agg (C9.map (Value.int .u64)).toArray,.agg (C9.map (Value.int .u64)).toArray] W fun e w' =>e= .returned (.agg (DT.map (Value.int .u64)).toArray)∧Keeps W w') (h12:∀W,Keeps w W→Calls Tryz.prog 92 #[.pointer (some ⟨gg,0,none⟩),.agg (C9.map (Value.int .u64)).toArray,.agg (DT.map (Value.int .u64)).toArray] W fun e w' =>e= .returned (.agg (Bf.map (Value.int .u64)).toArray)∧Keeps W w') (h13:∀W,Keeps w W→Calls Tryz.prog 92 #[.pointer (some ⟨gg,0,none⟩),.agg (C3.map (Value.int .u64)).toArray,.agg (DT.map (Value.int .u64)).toArray] W fun e w' =>e= .returned (.agg (C13.map (Value.int .u64)).toArray)∧Keeps W w') (KV:∀W,Keeps w W→Calls Tryz.prog 92 #[.pointer (some ⟨gg,0,none⟩),.agg (C10.map (Value.int .u64)).toArray,.agg (C10.map (Value.int .u64)).toArray] W fun e w' =>e= .returned (.agg (Fc.map (Value.int .u64)).toArray)∧Keeps W w') (h15:∀W,Keeps w W→Calls Tryz.prog 93 #[.pointer (some ⟨gg,0,none⟩),.agg (Fc.map (Value.int .u64)).toArray,.agg (Bf.map (Value.int .u64)).toArray] W fun e w' =>e= .returned (.agg (Fd.map (Value.int .u64)).toArray)∧Keeps W w') (h16:∀W,Keeps w W→Calls Tryz.prog 49 #[.pointer (some ⟨gg,0,none⟩),.agg (C13.map (Value.int .u64)).toArray,.agg (C13.map (Value.int .u64)).toArray] W fun e w' =>e= .returned (.agg (Fe.map (Value.int .u64)).toArray)∧Keeps W w') (h17:∀W,Keeps w W→Calls Tryz.prog 93 #[.pointer (some ⟨gg,0,none⟩),.agg (Fd.map (Value.int .u64)).toArray,.agg (Fe.map (Value.int .u64)).toArray] W fun e w' =>e= .returned (.agg (Ff.map (Value.int .u64)).toArray)∧Keeps W w') (h18:∀W,Keeps w W→Calls Tryz.prog 93 #[.pointer (some ⟨gg,0,none⟩),.agg (C13.map (Value.int .u64)).toArray,.agg (Ff.map (Value.int .u64)).toArray] W fun e w' =>e= .returned (.agg (Gj.map (Value.int .u64)).toArray)∧Keeps W w') (h19:∀W,Keeps w W→Calls Tryz.prog 92 #[.pointer (some ⟨gg,0,none⟩),.agg (C10.map (Value.int .u64)).toArray,.agg (Gj.map (Value.int .u64)).toArray] W fun e w' =>e= .returned (.agg (Gk.map (Value.int .u64)).toArray)∧Keeps W w') (h20:∀W,Keeps w W→Calls Tryz.prog 92 #[.pointer (some ⟨gg,0,none⟩),.agg (C6.map (Value.int .u64)).toArray,.agg (Bf.map (Value.int .u64)).toArray] W fun e w' =>e= .returned (.agg (Gl.map (Value.int .u64)).toArray)∧Keeps W w') (h21:∀W,Keeps w W→Calls Tryz.prog 93 #[.pointer (some ⟨gg,0,none⟩),.agg (Gk.map (Value.int .u64)).toArray,.agg (Gl.map (Value.int .u64)).toArray] W fun e w' =>e= .returned (.agg (Fg.map (Value.int .u64)).toArray)∧Keeps W w') (h22:∀W,Keeps w W→Calls Tryz.prog 92 #[.pointer (some ⟨gg,0,none⟩),.agg (Z.map (Value.int .u64)).toArray,.agg (T.map (Value.int .u64)).toArray] W fun e w' =>e= .returned (.agg (KT.map (Value.int .u64)).toArray)∧Keeps W w') (h23:∀W,Keeps w W→Calls Tryz.prog 92 #[.pointer (some ⟨gg,0,none⟩),.agg (C9.map (Value.int .u64)).toArray,.agg (KT.map (Value.int .u64)).toArray] W fun e w' =>e= .returned (.agg (KU.map (Value.int .u64)).toArray)∧Keeps W w'):
 Calls Tryz.prog 53 #[.pointer (some ⟨gg,0,none⟩),.agg (PT.map (Value.int .u64)).toArray,.agg (PU.map (Value.int .u64)).toArray] w fun e w' =>e= .returned (.agg (RT.map (Value.int .u64)).toArray)∧Keeps w w':=by
 have dT:=ae h1;clear h1
 have HC2:=ae h2;clear h2
 have fT:=ae h3;clear h3
 have ky:=ae h4;clear h4
 have fY:=ae h5;clear h5
 have gC:=ae h6;clear h6
 have yR:=ae h7;clear h7
 have DX:=ae h8;clear h8
 have bK:=ae h9;clear h9
 have fP:=ae h10;clear h10
 have Gn:=ae h11;clear h11
 have Gp:=ae h12;clear h12
 have Gq:=ae h13;clear h13
 have xg:=ae KV;clear KV
 have Gr:=ae h15;clear h15
 have Gs:=ae h16;clear h16
 have Gt:=ae h17;clear h17
 have Gu:=ae h18;clear h18
 have Gv:=ae h19;clear h19
 have Gw:=ae h20;clear h20
 have Gx:=ae h21;clear h21
 have Mm:=ae h22;clear h22
 have Mn:=ae h23;clear h23
 have qq:=ae kA;clear kA
 have sZ:=ae mG;clear mG
 have GH:=ae yU;clear yU
 have nF:PT.length=12:=by rw[ql];exact lf lX lY lZ
 have KW:PU.length=12:=by rw[uB];exact lf lU lV lT
 have ro:RT.length=12:=by rw[qm];exact lf Bi xf Bj
 have qp:=nj Bi xf Bj
 rw[←qm]at qp
 have DY:=ae qp
 have kV:=ae ql
 have wQ:=ae uB
 clear qp ql uB qm
 go_enter Tryz.func53,Tryz.ntmps53
 go_upto_region 1 with(fail)
 refine cU (fun W hk hra hrb hrc hs=> ?_)
 obtain⟨p,hp⟩:∃p,p=w.heap.size:=⟨_,rfl⟩
 rw[←hp]at hra hrb hrc hs⊢
 have hkp:w.heap.size≤p:=by omega
 obtain⟨Zr,du,hrz⟩:∃Zr:List Value,Zr.length=4+4+4∧Row W (p+1+1) 0 Zr:=⟨_,rfl,hrc⟩
 have bj:=ae (show Row W p 0 (PT.map (Value.int .u64))from hra)
 have bH:=ae (show Row W (p+1) 0 (PU.map (Value.int .u64))from hrb)
 have aA:=ae hk;have ap:=ae hrz
 clear hp hra hrb hrc hrz hk hs
 go_upto_region 4 with(go_at_call 56;refine(qq.o p _ bj.o).mono ?_;rintro e V1 ⟨rfl,hk1⟩;have aH:=ae hk1;clear hk1)
 have bj:=ae (bj.o.keeps aH.o)
 have bH:=ae (bH.o.keeps aH.o)
 have ap:=ae (ap.o.keeps aH.o)
 have aA:=ae (aA.o.trans aH.o)
 go_upto_region 6 with(go_at_call 56;refine(sZ.o (p+1) _ bH.o).mono ?_;rintro e V2 ⟨rfl,hk1⟩;have iT:=ae hk1;clear hk1)
 have bj:=ae (bj.o.keeps iT.o)
 have bH:=ae (bH.o.keeps iT.o)
 have ap:=ae (ap.o.keeps iT.o)
 have aA:=ae (aA.o.trans iT.o)
 have bB:=ae (row3 lX lY lZ (by have h:=bj.o;rwa[kV.o]at h)).1
 have cE:=ae (row3 lX lY lZ (by have h:=bj.o;rwa[kV.o]at h)).2.1
 have aV:=ae (row3 lX lY lZ (by have h:=bj.o;rwa[kV.o]at h)).2.2
 have e9:=ae (row3 lU lV lT (by have h:=bH.o;rwa[wQ.o]at h)).1
 have el:=ae (row3 lU lV lT (by have h:=bH.o;rwa[wQ.o]at h)).2.1
 have cV:=ae (row3 lU lV lT (by have h:=bH.o;rwa[wQ.o]at h)).2.2
 refine au 14 [12,13] [0,1,2,3,4,5,6,7,8,9,10,11] (fun _=>aL) (by kernel_rfl) (by kernel_rfl) (by intro i hi;simp only[List.mem_cons,List.not_mem_nil,or_false]at hi;(first |(rcases hi with rfl|rfl)|subst hi)<;>exact⟨_,rfl,cq rfl rfl⟩) ?_
 iterate 2 refine kp (h:= ?_)
 refine kl (fun wS hS=>(aV.o.keeps hS)) lZ (h:= ?_)
 refine kp (h:= ?_)
 refine kl (fun wS hS=>(aV.o.keeps hS)) lZ (h:= ?_)
 refine kc (hc:=by exact fun wS hS=>dT.o wS (aA.o.trans hS)) (h:= ?_)
 iterate 2 refine kp (h:= ?_)
 refine kl (fun wS hS=>(cV.o.keeps hS)) lT (h:= ?_)
 refine kp (h:= ?_)
 refine kl (fun wS hS=>(cV.o.keeps hS)) lT (h:= ?_)
 refine kc (hc:=by exact fun wS hS=>HC2.o wS (aA.o.trans hS)) (h:= ?_)
 refine aI ?_
 intro GG V1 hk1 hG
 obtain⟨yV,yW,yX⟩:=hG 12 (by simp)
 obtain⟨s7,s8,Bk⟩:=hG 13 (by simp)
 have oo:=yX 13 (by simp) (by decide)
 clear yX
 clear Bk
 simp only[aZ,br,ct,kD,kG,kP,Option.bind_some]
 generalize GG 12=g1 at *
 generalize GG 13=g2 at *
 clear hG
 have GI:=ae yW;have yY:=ae (show _≤_ from yV)
 have Bl:=ae s8;have uD:=ae (show _≤_ from s7)
 clear yW yV
 clear s8 s7
 have aH:=ae hk1;clear hk1
 go_upto_region 7 with(first |(refine ws (g:=_) (olds:=aL) GI.o fX rfl (h:= ?_);intro W2 hr2 hc2;have eu:=ae hr2;have dT:=ae hc2;clear hr2 hc2)|(refine ws (g:=_) (olds:=aL) (Bl.o.aG dT.o (by omega)) lH rfl (h:= ?_);intro W3 hr2 hc2;have mH:=ae hr2;have HC2:=ae hc2;clear hr2 hc2))
 have aq:=ae (ag (ag aH.o dT.o yY.o) HC2.o uD.o)
 have eu:=ae (eu.o.aG HC2.o (by omega))
 have gD:=Nat.lt_of_lt_of_le (ap.o.lt (by intro e;rw[e]at du;cases du)) yY.o
 have s9:=Nat.lt_of_lt_of_le (ap.o.lt (by intro e;rw[e]at du;cases du)) uD.o
 have bj:=ae (bj.o.keeps aq.o)
 have bB:=ae (bB.o.keeps aq.o)
 have cE:=ae (cE.o.keeps aq.o)
 have aV:=ae (aV.o.keeps aq.o)
 have bH:=ae (bH.o.keeps aq.o)
 have e9:=ae (e9.o.keeps aq.o)
 have el:=ae (el.o.keeps aq.o)
 have cV:=ae (cV.o.keeps aq.o)
 have ap:=ae (ap.o.keeps aq.o)
 have aA:=ae (aA.o.trans aq.o)
 have cK:=eu
 have cO:=mH
 refine au 12 [10,11] [0,1,2,3,4,5,6,7,8,9] (fun _=>aL) (by kernel_rfl) (by kernel_rfl) (by intro i hi;simp only[List.mem_cons,List.not_mem_nil,or_false]at hi;(first |(rcases hi with rfl|rfl)|subst hi)<;>exact⟨_,rfl,cq rfl rfl⟩) ?_
 iterate 2 refine kp (h:= ?_)
 refine kl (fun wS hS=>(bB.o.keeps hS)) lX (h:= ?_)
 refine kl (fun wS hS=>(cO.o.keeps hS)) lH (h:= ?_)
 refine kc (hc:=by exact fun wS hS=>fT.o wS (aA.o.trans hS)) (h:= ?_)
 iterate 2 refine kp (h:= ?_)
 refine kl (fun wS hS=>(e9.o.keeps hS)) lU (h:= ?_)
 refine kl (fun wS hS=>(cK.o.keeps hS)) fX (h:= ?_)
 refine kc (hc:=by exact fun wS hS=>ky.o wS (aA.o.trans hS)) (h:= ?_)
 refine aI ?_
 intro GG V1 hk1 hG
 obtain⟨iu,iH,hd10⟩:=hG 10 (by simp)
 obtain⟨yZ,y5,hd11⟩:=hG 11 (by simp)
 have oo:=hd10 11 (by simp) (by decide)
 clear hd10
 clear hd11
 simp only[aZ,br,ct,kD,kG,kP,Option.bind_some]
 generalize GG 10=g3 at *
 generalize GG 11=g4 at *
 clear hG
 have lI:=ae iH;have jZ:=ae (show _≤_ from iu)
 have GK:=ae y5;have ta:=ae (show _≤_ from yZ)
 clear iH iu
 clear y5 yZ
 have aH:=ae hk1;clear hk1
 go_upto_region 8 with(first |(refine ws (g:=_) (olds:=aL) lI.o oI rfl (h:= ?_);intro W2 hr2 hc2;have eu:=ae hr2;have dT:=ae hc2;clear hr2 hc2)|(refine ws (g:=_) (olds:=aL) (GK.o.aG dT.o (by omega)) sY rfl (h:= ?_);intro W3 hr2 hc2;have mH:=ae hr2;have HC2:=ae hc2;clear hr2 hc2))
 have aq:=ae (ag (ag aH.o dT.o jZ.o) HC2.o ta.o)
 have eu:=ae (eu.o.aG HC2.o (by omega))
 have vr:=Nat.lt_of_lt_of_le (cK.o.lt (aM fX)) jZ.o
 have qr:=Nat.lt_of_lt_of_le (cO.o.lt (aM lH)) jZ.o
 have vt:=Nat.lt_of_lt_of_le (cK.o.lt (aM fX)) ta.o
 have vu:=Nat.lt_of_lt_of_le (cO.o.lt (aM lH)) ta.o
 have bj:=ae (bj.o.keeps aq.o)
 have bB:=ae (bB.o.keeps aq.o)
 have cE:=ae (cE.o.keeps aq.o)
 have aV:=ae (aV.o.keeps aq.o)
 have bH:=ae (bH.o.keeps aq.o)
 have e9:=ae (e9.o.keeps aq.o)
 have el:=ae (el.o.keeps aq.o)
 have cV:=ae (cV.o.keeps aq.o)
 have ap:=ae (ap.o.keeps aq.o)
 have cK:=ae (cK.o.keeps aq.o)
 have cO:=ae (cO.o.keeps aq.o)
 have aA:=ae (aA.o.trans aq.o)
 have dL:=eu
 have dY:=mH
 refine au 20 [18,19] [0,1,2,3,4,5,6,7,8,9,10,11,12,13,14,15,16,17] (fun _=>aL) (by kernel_rfl) (by kernel_rfl) (by intro i hi;simp only[List.mem_cons,List.not_mem_nil,or_false]at hi;(first |(rcases hi with rfl|rfl)|subst hi)<;>exact⟨_,rfl,cq rfl rfl⟩) ?_
 iterate 2 refine kp (h:= ?_)
 refine kl (fun wS hS=>(cE.o.keeps hS)) lY (h:= ?_)
 iterate 2 refine kp (h:= ?_)
 refine kl (fun wS hS=>(cV.o.keeps hS)) lT (h:= ?_)
 refine kl (fun wS hS=>(cO.o.keeps hS)) lH (h:= ?_)
 refine kc (hc:=by exact fun wS hS=>fY.o wS (aA.o.trans hS)) (h:= ?_)
 refine kc (hc:=by exact fun wS hS=>gC.o wS (aA.o.trans hS)) (h:= ?_)
 iterate 2 refine kp (h:= ?_)
 refine kl (fun wS hS=>(el.o.keeps hS)) lV (h:= ?_)
 iterate 2 refine kp (h:= ?_)
 refine kl (fun wS hS=>(aV.o.keeps hS)) lZ (h:= ?_)
 refine kl (fun wS hS=>(cK.o.keeps hS)) fX (h:= ?_)
 refine kc (hc:=by exact fun wS hS=>yR.o wS (aA.o.trans hS)) (h:= ?_)
 refine kc (hc:=by exact fun wS hS=>DX.o wS (aA.o.trans hS)) (h:= ?_)
 refine aI ?_
 intro GG V1 hk1 hG
 obtain⟨y6,y7,y8⟩:=hG 18 (by simp)
 obtain⟨y9,za,GL⟩:=hG 19 (by simp)
 have oo:=y8 19 (by simp) (by decide)
 clear y8
 clear GL
 simp only[aZ,br,ct,kD,kG,kP,Option.bind_some]
 generalize GG 18=g5 at *
 generalize GG 19=g6 at *
 clear hG
 have GM:=ae y7;have tc:=ae (show _≤_ from y6)
 have GN:=ae za;have td:=ae (show _≤_ from y9)
 clear y7 y6
 clear za y9
 have aH:=ae hk1;clear hk1
 go_upto_region 9 with(first |(refine ws (g:=_) (olds:=aL) GM.o uo rfl (h:= ?_);intro W2 hr2 hc2;have eu:=ae hr2;have dT:=ae hc2;clear hr2 hc2)|(refine ws (g:=_) (olds:=aL) (GN.o.aG dT.o (by omega)) uC rfl (h:= ?_);intro W3 hr2 hc2;have mH:=ae hr2;have HC2:=ae hc2;clear hr2 hc2))
 have aq:=ae (ag (ag aH.o dT.o tc.o) HC2.o td.o)
 have eu:=ae (eu.o.aG HC2.o (by omega))
 have vv:=Nat.lt_of_lt_of_le (dL.o.lt (aM oI)) tc.o
 have qs:=Nat.lt_of_lt_of_le (dY.o.lt (aM sY)) tc.o
 have vw:=Nat.lt_of_lt_of_le (dL.o.lt (aM oI)) td.o
 have vy:=Nat.lt_of_lt_of_le (dY.o.lt (aM sY)) td.o
 have bj:=ae (bj.o.keeps aq.o)
 have bB:=ae (bB.o.keeps aq.o)
 have cE:=ae (cE.o.keeps aq.o)
 have aV:=ae (aV.o.keeps aq.o)
 have bH:=ae (bH.o.keeps aq.o)
 have e9:=ae (e9.o.keeps aq.o)
 have el:=ae (el.o.keeps aq.o)
 have cV:=ae (cV.o.keeps aq.o)
 have ap:=ae (ap.o.keeps aq.o)
 have cK:=ae (cK.o.keeps aq.o)
 have cO:=ae (cO.o.keeps aq.o)
 have dL:=ae (dL.o.keeps aq.o)
 have dY:=ae (dY.o.keeps aq.o)
 have aA:=ae (aA.o.trans aq.o)
 have eO:=eu
 have eH:=mH
 refine au 10 [8,9] [0,1,2,3,4,5,6,7] (fun _=>aL) (by kernel_rfl) (by kernel_rfl) (by intro i hi;simp only[List.mem_cons,List.not_mem_nil,or_false]at hi;(first |(rcases hi with rfl|rfl)|subst hi)<;>exact⟨_,rfl,cq rfl rfl⟩) ?_
 refine kp (h:= ?_)
 refine kl (fun wS hS=>(dY.o.keeps hS)) sY (h:= ?_)
 refine kl (fun wS hS=>(dL.o.keeps hS)) oI (h:= ?_)
 refine kc (hc:=by exact fun wS hS=>bK.o wS (aA.o.trans hS)) (h:= ?_)
 refine kp (h:= ?_)
 refine kl (fun wS hS=>(eH.o.keeps hS)) uC (h:= ?_)
 refine kl (fun wS hS=>(eO.o.keeps hS)) uo (h:= ?_)
 refine kc (hc:=by exact fun wS hS=>fP.o wS (aA.o.trans hS)) (h:= ?_)
 refine aI ?_
 intro GG V1 hk1 hG
 obtain⟨rp,rq,hd8⟩:=hG 8 (by simp)
 obtain⟨GQ,Fh,hd9⟩:=hG 9 (by simp)
 have oo:=hd8 9 (by simp) (by decide)
 clear hd8
 clear hd9
 simp only[aZ,br,ct,kD,kG,kP,Option.bind_some]
 generalize GG 8=g7 at *
 generalize GG 9=g8 at *
 clear hG
 have AF:=ae rq;have CR:=ae (show _≤_ from rp)
 have Mq:=ae Fh;have CS:=ae (show _≤_ from GQ)
 clear rq rp
 clear Fh GQ
 have aH:=ae hk1;clear hk1
 go_upto_region 10 with(first |(refine ws (g:=_) (olds:=aL) AF.o xe rfl (h:= ?_);intro W2 hr2 hc2;have eu:=ae hr2;have dT:=ae hc2;clear hr2 hc2)|(refine ws (g:=_) (olds:=aL) (Mq.o.aG dT.o (by omega)) qn rfl (h:= ?_);intro W3 hr2 hc2;have mH:=ae hr2;have HC2:=ae hc2;clear hr2 hc2))
 have aq:=ae (ag (ag aH.o dT.o CR.o) HC2.o CS.o)
 have eu:=ae (eu.o.aG HC2.o (by omega))
 have vz:=Nat.lt_of_lt_of_le (eO.o.lt (aM uo)) CR.o
 have qt:=Nat.lt_of_lt_of_le (eH.o.lt (aM uC)) CR.o
 have vA:=Nat.lt_of_lt_of_le (eO.o.lt (aM uo)) CS.o
 have vB:=Nat.lt_of_lt_of_le (eH.o.lt (aM uC)) CS.o
 have bj:=ae (bj.o.keeps aq.o)
 have bB:=ae (bB.o.keeps aq.o)
 have cE:=ae (cE.o.keeps aq.o)
 have aV:=ae (aV.o.keeps aq.o)
 have bH:=ae (bH.o.keeps aq.o)
 have e9:=ae (e9.o.keeps aq.o)
 have el:=ae (el.o.keeps aq.o)
 have cV:=ae (cV.o.keeps aq.o)
 have ap:=ae (ap.o.keeps aq.o)
 have cK:=ae (cK.o.keeps aq.o)
 have cO:=ae (cO.o.keeps aq.o)
 have dL:=ae (dL.o.keeps aq.o)
 have dY:=ae (dY.o.keeps aq.o)
 have eO:=ae (eO.o.keeps aq.o)
 have eH:=ae (eH.o.keeps aq.o)
 have aA:=ae (aA.o.trans aq.o)
 have iS:=eu
 have lJ:=mH
 go_upto_region 14 with(first |(refine wl iS.o xe (h:= ?_))|(go_at_call 50;refine(GH.o _).mono ?_;rintro e V1 ⟨rfl,hk1⟩;have aH:=ae hk1;clear hk1))
 have bj:=ae (bj.o.keeps aH.o)
 have bB:=ae (bB.o.keeps aH.o)
 have cE:=ae (cE.o.keeps aH.o)
 have aV:=ae (aV.o.keeps aH.o)
 have bH:=ae (bH.o.keeps aH.o)
 have e9:=ae (e9.o.keeps aH.o)
 have el:=ae (el.o.keeps aH.o)
 have cV:=ae (cV.o.keeps aH.o)
 have ap:=ae (ap.o.keeps aH.o)
 have cK:=ae (cK.o.keeps aH.o)
 have cO:=ae (cO.o.keeps aH.o)
 have dL:=ae (dL.o.keeps aH.o)
 have dY:=ae (dY.o.keeps aH.o)
 have eO:=ae (eO.o.keeps aH.o)
 have eH:=ae (eH.o.keeps aH.o)
 have iS:=ae (iS.o.keeps aH.o)
 have lJ:=ae (lJ.o.keeps aH.o)
 have aA:=ae (aA.o.trans aH.o)
 go_upto_region 15 with(first |(refine wl iS.o xe (h:= ?_))|(refine wl iS.o xe (h:= ?_))|(go_at_call 92;refine(Gn.o _ aA.o).mono ?_;rintro e V1 ⟨rfl,hk1⟩;have aH:=ae hk1;clear hk1)|(refine ws (g:=V1.heap.size) (olds:=aL) (Row.new _ _ _ rfl) qo rfl (h:= ?_);intro W2 hr2 hc2;have HN:=ae hr2;have HB:=ae (show _≤_ from(aH.o).size);have aq:=ae (ag (ah (aH.o) _) hc2 (aH.o).size);clear hr2 hc2))
 generalize V1.heap.size=g9 at *
 have Og:=Nat.lt_of_lt_of_le (iS.o.lt (aM xe)) HB.o
 have Oh:=Nat.lt_of_lt_of_le (lJ.o.lt (aM qn)) HB.o
 have bj:=ae (bj.o.keeps aq.o)
 have bB:=ae (bB.o.keeps aq.o)
 have cE:=ae (cE.o.keeps aq.o)
 have aV:=ae (aV.o.keeps aq.o)
 have bH:=ae (bH.o.keeps aq.o)
 have e9:=ae (e9.o.keeps aq.o)
 have el:=ae (el.o.keeps aq.o)
 have cV:=ae (cV.o.keeps aq.o)
 have ap:=ae (ap.o.keeps aq.o)
 have cK:=ae (cK.o.keeps aq.o)
 have cO:=ae (cO.o.keeps aq.o)
 have dL:=ae (dL.o.keeps aq.o)
 have dY:=ae (dY.o.keeps aq.o)
 have eO:=ae (eO.o.keeps aq.o)
 have eH:=ae (eH.o.keeps aq.o)
 have iS:=ae (iS.o.keeps aq.o)
 have lJ:=ae (lJ.o.keeps aq.o)
 have aA:=ae (aA.o.trans aq.o)
 have uE:=HN
 refine au 10 [8,9] [0,1,2,3,4,5,6,7] (fun _=>aL) (by kernel_rfl) (by kernel_rfl) (by intro i hi;simp only[List.mem_cons,List.not_mem_nil,or_false]at hi;(first |(rcases hi with rfl|rfl)|subst hi)<;>exact⟨_,rfl,cq rfl rfl⟩) ?_
 refine kp (h:= ?_)
 refine kl (fun wS hS=>(iS.o.keeps hS)) xe (h:= ?_)
 refine kl (fun wS hS=>(uE.o.keeps hS)) qo (h:= ?_)
 refine kc (hc:=by exact fun wS hS=>Gp.o wS (aA.o.trans hS)) (h:= ?_)
 refine kp (h:= ?_)
 refine kl (fun wS hS=>(dL.o.keeps hS)) oI (h:= ?_)
 refine kl (fun wS hS=>(uE.o.keeps hS)) qo (h:= ?_)
 refine kc (hc:=by exact fun wS hS=>Gq.o wS (aA.o.trans hS)) (h:= ?_)
 refine aI ?_
 intro GG V1 hk1 hG
 obtain⟨rp,rq,hd8⟩:=hG 8 (by simp)
 obtain⟨GQ,Fh,hd9⟩:=hG 9 (by simp)
 have oo:=hd8 9 (by simp) (by decide)
 clear hd8
 clear hd9
 simp only[aZ,br,ct,kD,kG,kP,Option.bind_some]
 generalize GG 8=g10 at *
 generalize GG 9=g11 at *
 clear hG
 have AF:=ae rq;have CR:=ae (show _≤_ from rp)
 have Mq:=ae Fh;have CS:=ae (show _≤_ from GQ)
 clear rq rp
 clear Fh GQ
 have aH:=ae hk1;clear hk1
 go_upto_region 16 with(first |(refine ws (g:=_) (olds:=aL) AF.o rI rfl (h:= ?_);intro W2 hr2 hc2;have eu:=ae hr2;have dT:=ae hc2;clear hr2 hc2)|(refine ws (g:=_) (olds:=aL) (Mq.o.aG dT.o (by omega)) Bh rfl (h:= ?_);intro W3 hr2 hc2;have mH:=ae hr2;have HC2:=ae hc2;clear hr2 hc2))
 have aq:=ae (ag (ag aH.o dT.o CR.o) HC2.o CS.o)
 have eu:=ae (eu.o.aG HC2.o (by omega))
 have Mr:=Nat.lt_of_lt_of_le (uE.o.lt (aM qo)) CR.o
 have Ms:=Nat.lt_of_lt_of_le (uE.o.lt (aM qo)) CS.o
 have bj:=ae (bj.o.keeps aq.o)
 have bB:=ae (bB.o.keeps aq.o)
 have cE:=ae (cE.o.keeps aq.o)
 have aV:=ae (aV.o.keeps aq.o)
 have bH:=ae (bH.o.keeps aq.o)
 have e9:=ae (e9.o.keeps aq.o)
 have el:=ae (el.o.keeps aq.o)
 have cV:=ae (cV.o.keeps aq.o)
 have ap:=ae (ap.o.keeps aq.o)
 have cK:=ae (cK.o.keeps aq.o)
 have cO:=ae (cO.o.keeps aq.o)
 have dL:=ae (dL.o.keeps aq.o)
 have dY:=ae (dY.o.keeps aq.o)
 have eO:=ae (eO.o.keeps aq.o)
 have eH:=ae (eH.o.keeps aq.o)
 have iS:=ae (iS.o.keeps aq.o)
 have lJ:=ae (lJ.o.keeps aq.o)
 have uE:=ae (uE.o.keeps aq.o)
 have aA:=ae (aA.o.trans aq.o)
 have tf:=eu
 have rr:=mH
 refine au 14 [13] [0,1,2,3,4,5,6,7,8,9,10,11,12] (fun _=>aL) (by kernel_rfl) (by kernel_rfl) (by intro i hi;simp only[List.mem_cons,List.not_mem_nil,or_false]at hi;(first |(rcases hi with rfl|rfl)|subst hi)<;>exact⟨_,rfl,cq rfl rfl⟩) ?_
 iterate 3 refine kp (h:= ?_)
 refine kl (fun wS hS=>(lJ.o.keeps hS)) qn (h:= ?_)
 refine kl (fun wS hS=>(lJ.o.keeps hS)) qn (h:= ?_)
 refine kc (hc:=by exact fun wS hS=>xg.o wS (aA.o.trans hS)) (h:= ?_)
 refine kl (fun wS hS=>(tf.o.keeps hS)) rI (h:= ?_)
 refine kc (hc:=by exact fun wS hS=>Gr.o wS (aA.o.trans hS)) (h:= ?_)
 refine kp (h:= ?_)
 refine kl (fun wS hS=>(rr.o.keeps hS)) Bh (h:= ?_)
 refine kl (fun wS hS=>(rr.o.keeps hS)) Bh (h:= ?_)
 refine kc (hc:=by exact fun wS hS=>Gs.o wS (aA.o.trans hS)) (h:= ?_)
 refine kc (hc:=by exact fun wS hS=>Gt.o wS (aA.o.trans hS)) (h:= ?_)
 refine aI ?_
 intro GG V1 hk1 hG
 obtain⟨s7,s8,Bk⟩:=hG 13 (by simp)
 clear Bk
 simp only[aZ,br,ct,kD,kG,kP,Option.bind_some]
 generalize GG 13=g12 at *
 clear hG
 have Bl:=ae s8;have uD:=ae (show _≤_ from s7)
 clear s8 s7
 have aH:=ae hk1;clear hk1
 go_upto_region 17 with(first |(refine ws (g:=_) (olds:=aL) Bl.o Bi rfl (h:= ?_);intro W2 hr2 hc2;have eu:=ae hr2;have dT:=ae hc2;clear hr2 hc2))
 have HN:=eu;have HB:=uD
 have aq:=ae (ag aH.o dT.o HB.o)
 have KX:=Nat.lt_of_lt_of_le (tf.o.lt (aM rI)) HB.o
 have KY:=Nat.lt_of_lt_of_le (rr.o.lt (aM Bh)) HB.o
 have bj:=ae (bj.o.keeps aq.o)
 have bB:=ae (bB.o.keeps aq.o)
 have cE:=ae (cE.o.keeps aq.o)
 have aV:=ae (aV.o.keeps aq.o)
 have bH:=ae (bH.o.keeps aq.o)
 have e9:=ae (e9.o.keeps aq.o)
 have el:=ae (el.o.keeps aq.o)
 have cV:=ae (cV.o.keeps aq.o)
 have ap:=ae (ap.o.keeps aq.o)
 have cK:=ae (cK.o.keeps aq.o)
 have cO:=ae (cO.o.keeps aq.o)
 have dL:=ae (dL.o.keeps aq.o)
 have dY:=ae (dY.o.keeps aq.o)
 have eO:=ae (eO.o.keeps aq.o)
 have eH:=ae (eH.o.keeps aq.o)
 have iS:=ae (iS.o.keeps aq.o)
 have lJ:=ae (lJ.o.keeps aq.o)
 have uE:=ae (uE.o.keeps aq.o)
 have tf:=ae (tf.o.keeps aq.o)
 have rr:=ae (rr.o.keeps aq.o)
 have aA:=ae (aA.o.trans aq.o)
 have CT:=HN
 refine au 24 [] [0,1,2,3,4,5,6,7,8,9,10,11,12,13,14,15,16,17,18,19,20,21,22,23] (fun _=>aL) (by kernel_rfl) (by kernel_rfl) (by intro i hi;cases hi) ?_
 refine kl (fun wS hS=>(CT.o.keeps hS)) Bi (h:= ?_)
 iterate 2 refine kp (h:= ?_)
 refine kl (fun wS hS=>(lJ.o.keeps hS)) qn (h:= ?_)
 refine kp (h:= ?_)
 refine kl (fun wS hS=>(rr.o.keeps hS)) Bh (h:= ?_)
 refine kl (fun wS hS=>(CT.o.keeps hS)) Bi (h:= ?_)
 refine kc (hc:=by exact fun wS hS=>Gu.o wS (aA.o.trans hS)) (h:= ?_)
 refine kc (hc:=by exact fun wS hS=>Gv.o wS (aA.o.trans hS)) (h:= ?_)
 refine kp (h:= ?_)
 refine kl (fun wS hS=>(eO.o.keeps hS)) uo (h:= ?_)
 refine kl (fun wS hS=>(tf.o.keeps hS)) rI (h:= ?_)
 refine kc (hc:=by exact fun wS hS=>Gw.o wS (aA.o.trans hS)) (h:= ?_)
 refine kc (hc:=by exact fun wS hS=>Gx.o wS (aA.o.trans hS)) (h:= ?_)
 refine kp (h:= ?_)
 refine kl (fun wS hS=>(iS.o.keeps hS)) xe (h:= ?_)
 iterate 2 refine kp (h:= ?_)
 refine kl (fun wS hS=>(aV.o.keeps hS)) lZ (h:= ?_)
 refine kp (h:= ?_)
 refine kl (fun wS hS=>(cV.o.keeps hS)) lT (h:= ?_)
 refine kc (hc:=by exact fun wS hS=>Mm.o wS (aA.o.trans hS)) (h:= ?_)
 refine kc (hc:=by exact fun wS hS=>Mn.o wS (aA.o.trans hS)) (h:= ?_)
 refine kp (hx:=by intro wS hS;(refine cR 107 [(0,.tmp 108),(1,.tmp 121),(2,.tmp 130)] ?_ _ ?_ _ DY.o)<;>rfl) (h:= ?_)
 refine aI ?_
 intro GG V1 hk1 hG
 simp only[aZ,br,ct,kD,kG,kP,Option.bind_some]
 clear hG
 have aH:=ae hk1;clear hk1
 go_wp2_with (first |(refine ws (ap.o.keeps aH.o) ro (by rw[du]) (h:= ?_);intro W2 hr2 hc2;have HN:=ae hr2;have HC:=ae hc2;clear hr2 hc2))
 have bj:=ae (((bj.o.keeps aH.o)).aG HC.o (by omega))
 have bB:=ae (((bB.o.keeps aH.o)).aG HC.o (by omega))
 have cE:=ae (((cE.o.keeps aH.o)).aG HC.o (by omega))
 have aV:=ae (((aV.o.keeps aH.o)).aG HC.o (by omega))
 have bH:=ae (((bH.o.keeps aH.o)).aG HC.o (by omega))
 have e9:=ae (((e9.o.keeps aH.o)).aG HC.o (by omega))
 have el:=ae (((el.o.keeps aH.o)).aG HC.o (by omega))
 have cV:=ae (((cV.o.keeps aH.o)).aG HC.o (by omega))
 have cK:=ae (((cK.o.keeps aH.o)).aG HC.o (by omega))
 have cO:=ae (((cO.o.keeps aH.o)).aG HC.o (by omega))
 have dL:=ae (((dL.o.keeps aH.o)).aG HC.o (by omega))
 have dY:=ae (((dY.o.keeps aH.o)).aG HC.o (by omega))
 have eO:=ae (((eO.o.keeps aH.o)).aG HC.o (by omega))
 have eH:=ae (((eH.o.keeps aH.o)).aG HC.o (by omega))
 have iS:=ae (((iS.o.keeps aH.o)).aG HC.o (by omega))
 have lJ:=ae (((lJ.o.keeps aH.o)).aG HC.o (by omega))
 have uE:=ae (((uE.o.keeps aH.o)).aG HC.o (by omega))
 have tf:=ae (((tf.o.keeps aH.o)).aG HC.o (by omega))
 have rr:=ae (((rr.o.keeps aH.o)).aG HC.o (by omega))
 have CT:=ae (((CT.o.keeps aH.o)).aG HC.o (by omega))
 have aA:=ae (ag ((aA.o.trans aH.o)) HC.o (by omega))
 exact bodyPost_ret (ar (p:=6) (ty:=107) rfl _ _ (p+1+1) 0 _ _ rfl HN.o Tryz.underlying107 rfl (by rw[aF,ro];exact cI)) rfl ⟨rfl,aA.o⟩
end Go.Proofs.YtlofddoojkeakaaGreatDoor
