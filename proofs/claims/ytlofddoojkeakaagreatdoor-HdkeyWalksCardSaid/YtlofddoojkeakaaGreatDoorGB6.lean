/- The reference's Plus, over letters. -/
import Derived.Test.YtlofddoojkeakaaGreatDoorGB4
import Derived.Test.YtlofddoojkeakaaGreatDoorGB5
set_option maxRecDepth 100000
set_option maxHeartbeats 16000000
set_option linter.unusedVariables false
set_option linter.unusedSimpArgs false
namespace Go.Proofs.YtlofddoojkeakaaGreatDoor
open Go Go.RowKit
theorem DR:(ax 21).length=8:=am 21
theorem DS:Tryz.prog.built 67 [(0,.int .u32 21)]=some ((ax 21).map (Value.int .u32)).toArray:=by kernel_rfl
theorem plus_walk(X Y Z U V T Rv C1 C2 C3 C4 C5 C6 C7 C8 C9 C10 DT Bf C13 Fc Fd Fe Ff Gj Gk Gl Fg KT KU Rw Rx Sp Sq Sr Sv Sw Sx Sy Sz SA PT PU RT:List Int)(ql:PT=X++Y++Z)(uB:PU=U++V++T)(qm:RT=Sr++Sx++SA)(Pg:Tryz.prog.built 67 [(0,.int .u32 21)]=some (Rv.map (Value.int .u32)).toArray)(DR:Rv.length=8)(lX:X.length=8)(lY:Y.length=8)(lZ:Z.length=8)(lU:U.length=8)(lV:V.length=8)(lT:T.length=8)(fX:C1.length=8)(lH:C2.length=8)(oI:C3.length=8)(sY:C4.length=8)(Bg:C5.length=8)(uo:C6.length=8)(Ry:C7.length=8)(uC:C8.length=8)(xe:C9.length=8)(qn:C10.length=8)(qo:DT.length=8)(rI:Bf.length=8)(Bh:C13.length=8)(DU:Fc.length=8)(DV:Fd.length=8)(Gm:Fe.length=8)(Bi:Ff.length=8)(Ph:Gj.length=8)(DW:Gk.length=8)(JI:Gl.length=8)(xf:Fg.length=8)(JJ:KT.length=8)(Bj:KU.length=8)(Mk:Rw.length=8)(Ml:Rx.length=8)(Wq:Sp.length=8)(Wr:Sq.length=8)(JK:Sr.length=8)(Ws:Sv.length=8)(Wt:Sw.length=8)(Pi:Sx.length=8)(Wu:Sy.length=8)(Wv:Sz.length=8)(Pj:SA.length=8)(w:World)
 (h1:∀W,Keeps w W→Calls Tryz.prog 69 #[] W fun e w' =>e= .returned (.agg (C1.map (Value.int .u32)).toArray)∧Keeps W w') (h2:∀W,Keeps w W→Calls Tryz.prog 101 #[.agg (X.map (Value.int .u32)).toArray,.agg (U.map (Value.int .u32)).toArray,.agg (C1.map (Value.int .u32)).toArray] W fun e w' =>e= .returned (.agg (C2.map (Value.int .u32)).toArray)∧Keeps W w') (h3:∀W,Keeps w W→Calls Tryz.prog 101 #[.agg (Y.map (Value.int .u32)).toArray,.agg (V.map (Value.int .u32)).toArray,.agg (C1.map (Value.int .u32)).toArray] W fun e w' =>e= .returned (.agg (C3.map (Value.int .u32)).toArray)∧Keeps W w') (h4:∀W,Keeps w W→Calls Tryz.prog 101 #[.agg (Z.map (Value.int .u32)).toArray,.agg (T.map (Value.int .u32)).toArray,.agg (C1.map (Value.int .u32)).toArray] W fun e w' =>e= .returned (.agg (C4.map (Value.int .u32)).toArray)∧Keeps W w') (h5:∀W,Keeps w W→Calls Tryz.prog 63 #[.agg (X.map (Value.int .u32)).toArray,.agg (Y.map (Value.int .u32)).toArray,.agg (C1.map (Value.int .u32)).toArray] W fun e w' =>e= .returned (.agg (C5.map (Value.int .u32)).toArray)∧Keeps W w') (h6:∀W,Keeps w W→Calls Tryz.prog 63 #[.agg (U.map (Value.int .u32)).toArray,.agg (V.map (Value.int .u32)).toArray,.agg (C1.map (Value.int .u32)).toArray] W fun e w' =>e= .returned (.agg (C6.map (Value.int .u32)).toArray)∧Keeps W w') (h7:∀W,Keeps w W→Calls Tryz.prog 101 #[.agg (C5.map (Value.int .u32)).toArray,.agg (C6.map (Value.int .u32)).toArray,.agg (C1.map (Value.int .u32)).toArray] W fun e w' =>e= .returned (.agg (C7.map (Value.int .u32)).toArray)∧Keeps W w') (h8:∀W,Keeps w W→Calls Tryz.prog 63 #[.agg (C2.map (Value.int .u32)).toArray,.agg (C3.map (Value.int .u32)).toArray,.agg (C1.map (Value.int .u32)).toArray] W fun e w' =>e= .returned (.agg (C8.map (Value.int .u32)).toArray)∧Keeps W w') (h9:∀W,Keeps w W→Calls Tryz.prog 102 #[.agg (C7.map (Value.int .u32)).toArray,.agg (C8.map (Value.int .u32)).toArray,.agg (C1.map (Value.int .u32)).toArray] W fun e w' =>e= .returned (.agg (C9.map (Value.int .u32)).toArray)∧Keeps W w') (h10:∀W,Keeps w W→Calls Tryz.prog 63 #[.agg (Y.map (Value.int .u32)).toArray,.agg (Z.map (Value.int .u32)).toArray,.agg (C1.map (Value.int .u32)).toArray] W fun e w' =>e= .returned (.agg (C10.map (Value.int .u32)).toArray)∧Keeps W w') (h11:∀W,Keeps w W→Calls Tryz.prog 63 #[.agg (V.map (Value.int .u32)).toArray,.agg (T.map (Value.int .u32)).toArray,.agg (C1.map (Value.int .u32)).toArray] W fun e w' =>e= .returned (.agg (DT.map (Value.int .u32)).toArray)∧Keeps W w') (h12:∀W,Keeps w W→Calls Tryz.prog 101 #[.agg (C10.map (Value.int .u32)).toArray,.agg (DT.map (Value.int .u32)).toArray,.agg (C1.map (Value.int .u32)).toArray] W fun e w' =>e= .returned (.agg (Bf.map (Value.int .u32)).toArray)∧Keeps W w') (h13:∀W,Keeps w W→Calls Tryz.prog 63 #[.agg (C3.map (Value.int .u32)).toArray,.agg (C4.map (Value.int .u32)).toArray,.agg (C1.map (Value.int .u32)).toArray] W fun e w' =>e= .returned (.agg (C13.map (Value.int .u32)).toArray)∧Keeps W w') (KV:∀W,Keeps w W→Calls Tryz.prog 102 #[.agg (Bf.map (Value.int .u32)).toArray,.agg (C13.map (Value.int .u32)).toArray,.agg (C1.map (Value.int .u32)).toArray] W fun e w' =>e= .returned (.agg (Fc.map (Value.int .u32)).toArray)∧Keeps W w') (h15:∀W,Keeps w W→Calls Tryz.prog 63 #[.agg (X.map (Value.int .u32)).toArray,.agg (Z.map (Value.int .u32)).toArray,.agg (C1.map (Value.int .u32)).toArray] W fun e w' =>e= .returned (.agg (Fd.map (Value.int .u32)).toArray)∧Keeps W w') (h16:∀W,Keeps w W→Calls Tryz.prog 63 #[.agg (U.map (Value.int .u32)).toArray,.agg (T.map (Value.int .u32)).toArray,.agg (C1.map (Value.int .u32)).toArray] W fun e w' =>e= .returned (.agg (Fe.map (Value.int .u32)).toArray)∧Keeps W w') (h17:∀W,Keeps w W→Calls Tryz.prog 101 #[.agg (Fd.map (Value.int .u32)).toArray,.agg (Fe.map (Value.int .u32)).toArray,.agg (C1.map (Value.int .u32)).toArray] W fun e w' =>e= .returned (.agg (Ff.map (Value.int .u32)).toArray)∧Keeps W w') (h18:∀W,Keeps w W→Calls Tryz.prog 63 #[.agg (C2.map (Value.int .u32)).toArray,.agg (C4.map (Value.int .u32)).toArray,.agg (C1.map (Value.int .u32)).toArray] W fun e w' =>e= .returned (.agg (Gj.map (Value.int .u32)).toArray)∧Keeps W w') (h19:∀W,Keeps w W→Calls Tryz.prog 102 #[.agg (Ff.map (Value.int .u32)).toArray,.agg (Gj.map (Value.int .u32)).toArray,.agg (C1.map (Value.int .u32)).toArray] W fun e w' =>e= .returned (.agg (Gk.map (Value.int .u32)).toArray)∧Keeps W w') (h20:∀W,Keeps w W→Calls Tryz.prog 63 #[.agg (C2.map (Value.int .u32)).toArray,.agg (C2.map (Value.int .u32)).toArray,.agg (C1.map (Value.int .u32)).toArray] W fun e w' =>e= .returned (.agg (Gl.map (Value.int .u32)).toArray)∧Keeps W w') (h21:∀W,Keeps w W→Calls Tryz.prog 63 #[.agg (Gl.map (Value.int .u32)).toArray,.agg (C2.map (Value.int .u32)).toArray,.agg (C1.map (Value.int .u32)).toArray] W fun e w' =>e= .returned (.agg (Fg.map (Value.int .u32)).toArray)∧Keeps W w') (h22:∀W,Keeps w W→Calls Tryz.prog 101 #[.agg (Rv.map (Value.int .u32)).toArray,.agg (C4.map (Value.int .u32)).toArray,.agg (C1.map (Value.int .u32)).toArray] W fun e w' =>e= .returned (.agg (KT.map (Value.int .u32)).toArray)∧Keeps W w') (h23:∀W,Keeps w W→Calls Tryz.prog 63 #[.agg (C3.map (Value.int .u32)).toArray,.agg (KT.map (Value.int .u32)).toArray,.agg (C1.map (Value.int .u32)).toArray] W fun e w' =>e= .returned (.agg (KU.map (Value.int .u32)).toArray)∧Keeps W w') (UL:∀W,Keeps w W→Calls Tryz.prog 102 #[.agg (C3.map (Value.int .u32)).toArray,.agg (KT.map (Value.int .u32)).toArray,.agg (C1.map (Value.int .u32)).toArray] W fun e w' =>e= .returned (.agg (Rw.map (Value.int .u32)).toArray)∧Keeps W w') (UM:∀W,Keeps w W→Calls Tryz.prog 101 #[.agg (Rv.map (Value.int .u32)).toArray,.agg (Gk.map (Value.int .u32)).toArray,.agg (C1.map (Value.int .u32)).toArray] W fun e w' =>e= .returned (.agg (Rx.map (Value.int .u32)).toArray)∧Keeps W w') (UN:∀W,Keeps w W→Calls Tryz.prog 101 #[.agg (C9.map (Value.int .u32)).toArray,.agg (Rw.map (Value.int .u32)).toArray,.agg (C1.map (Value.int .u32)).toArray] W fun e w' =>e= .returned (.agg (Sp.map (Value.int .u32)).toArray)∧Keeps W w') (h27:∀W,Keeps w W→Calls Tryz.prog 101 #[.agg (Fc.map (Value.int .u32)).toArray,.agg (Rx.map (Value.int .u32)).toArray,.agg (C1.map (Value.int .u32)).toArray] W fun e w' =>e= .returned (.agg (Sq.map (Value.int .u32)).toArray)∧Keeps W w') (h28:∀W,Keeps w W→Calls Tryz.prog 102 #[.agg (Sp.map (Value.int .u32)).toArray,.agg (Sq.map (Value.int .u32)).toArray,.agg (C1.map (Value.int .u32)).toArray] W fun e w' =>e= .returned (.agg (Sr.map (Value.int .u32)).toArray)∧Keeps W w') (UO:∀W,Keeps w W→Calls Tryz.prog 101 #[.agg (Rw.map (Value.int .u32)).toArray,.agg (KU.map (Value.int .u32)).toArray,.agg (C1.map (Value.int .u32)).toArray] W fun e w' =>e= .returned (.agg (Sv.map (Value.int .u32)).toArray)∧Keeps W w') (h30:∀W,Keeps w W→Calls Tryz.prog 101 #[.agg (Rx.map (Value.int .u32)).toArray,.agg (Fg.map (Value.int .u32)).toArray,.agg (C1.map (Value.int .u32)).toArray] W fun e w' =>e= .returned (.agg (Sw.map (Value.int .u32)).toArray)∧Keeps W w') (h31:∀W,Keeps w W→Calls Tryz.prog 63 #[.agg (Sv.map (Value.int .u32)).toArray,.agg (Sw.map (Value.int .u32)).toArray,.agg (C1.map (Value.int .u32)).toArray] W fun e w' =>e= .returned (.agg (Sx.map (Value.int .u32)).toArray)∧Keeps W w') (h32:∀W,Keeps w W→Calls Tryz.prog 101 #[.agg (KU.map (Value.int .u32)).toArray,.agg (Fc.map (Value.int .u32)).toArray,.agg (C1.map (Value.int .u32)).toArray] W fun e w' =>e= .returned (.agg (Sy.map (Value.int .u32)).toArray)∧Keeps W w') (UQ:∀W,Keeps w W→Calls Tryz.prog 101 #[.agg (Fg.map (Value.int .u32)).toArray,.agg (C9.map (Value.int .u32)).toArray,.agg (C1.map (Value.int .u32)).toArray] W fun e w' =>e= .returned (.agg (Sz.map (Value.int .u32)).toArray)∧Keeps W w') (UR:∀W,Keeps w W→Calls Tryz.prog 63 #[.agg (Sy.map (Value.int .u32)).toArray,.agg (Sz.map (Value.int .u32)).toArray,.agg (C1.map (Value.int .u32)).toArray] W fun e w' =>e= .returned (.agg (SA.map (Value.int .u32)).toArray)∧Keeps W w'):
 Calls Tryz.prog 65 #[.agg (PT.map (Value.int .u32)).toArray,.agg (PU.map (Value.int .u32)).toArray] w fun e w' =>e= .returned (.agg (RT.map (Value.int .u32)).toArray)∧Keeps w w':=by
 have dT:=ae h1;clear h1
 have HC2:=ae h2;clear h2
 have fT:=ae h3;clear h3
 have ky:=ae h4;clear h4
 have fY:=ae h5;clear h5
 have gC:=ae h6;clear h6
 have yR:=ae h7;clear h7
 have DX:=ae h8;clear h8
 have bK:=ae h9;clear h9
 have fP:=ae h10;clear h10
 have Gn:=ae h11;clear h11
 have Gp:=ae h12;clear h12
 have Gq:=ae h13;clear h13
 have xg:=ae KV;clear KV
 have Gr:=ae h15;clear h15
 have Gs:=ae h16;clear h16
 have Gt:=ae h17;clear h17
 have Gu:=ae h18;clear h18
 have Gv:=ae h19;clear h19
 have Gw:=ae h20;clear h20
 have Gx:=ae h21;clear h21
 have Mm:=ae h22;clear h22
 have Mn:=ae h23;clear h23
 have SE:=ae UL;clear UL
 have SG:=ae UM;clear UM
 have SH:=ae UN;clear UN
 have SI:=ae h27;clear h27
 have SJ:=ae h28;clear h28
 have SL:=ae UO;clear UO
 have SN:=ae h30;clear h30
 have SO:=ae h31;clear h31
 have SP:=ae h32;clear h32
 have SS:=ae UQ;clear UQ
 have SU:=ae UR;clear UR
 have SW:=ae Pg;clear Pg
 have nF:PT.length=24:=by rw[ql];exact lf lX lY lZ
 have KW:PU.length=24:=by rw[uB];exact lf lU lV lT
 have ro:RT.length=24:=by rw[qm];exact lf JK Pi Pj
 have qp:=qk JK Pi Pj
 rw[←qm]at qp
 have DY:=ae qp
 have kV:=ae ql
 have wQ:=ae uB
 clear qp ql uB qm
 go_enter Tryz.func65,Tryz.ntmps65
 go_upto_region 1 with(fail)
 refine cU (fun W hk hra hrb hrc hs=> ?_)
 obtain⟨p,hp⟩:∃p,p=w.heap.size:=⟨_,rfl⟩
 rw[←hp]at hra hrb hrc hs⊢
 have hkp:w.heap.size≤p:=by omega
 obtain⟨Zr,du,hrz⟩:∃Zr:List Value,Zr.length=8+8+8∧Row W (p+1+1) 0 Zr:=⟨_,rfl,hrc⟩
 have bj:=ae (show Row W p 0 (PT.map (Value.int .u32))from hra)
 have bH:=ae (show Row W (p+1) 0 (PU.map (Value.int .u32))from hrb)
 have aA:=ae hk;have ap:=ae hrz
 clear hp hra hrb hrc hrz hk hs
 have bB:=ae (row3 lX lY lZ (by have h:=bj.o;rwa[kV.o]at h)).1
 have cE:=ae (row3 lX lY lZ (by have h:=bj.o;rwa[kV.o]at h)).2.1
 have aV:=ae (row3 lX lY lZ (by have h:=bj.o;rwa[kV.o]at h)).2.2
 have e9:=ae (row3 lU lV lT (by have h:=bH.o;rwa[wQ.o]at h)).1
 have el:=ae (row3 lU lV lT (by have h:=bH.o;rwa[wQ.o]at h)).2.1
 have cV:=ae (row3 lU lV lT (by have h:=bH.o;rwa[wQ.o]at h)).2.2
 go_upto_region 2 with(first |(go_at_call 69;refine(dT.o _ aA.o).mono ?_;rintro e V1 ⟨rfl,hk1⟩;have aH:=ae hk1;clear hk1)|(refine ws (g:=V1.heap.size) (olds:=cD) (Row.new _ _ _ rfl) fX rfl (h:= ?_);intro W2 hr2 hc2;have HN:=ae hr2;have HB:=ae (show _≤_ from(aH.o).size);have aq:=ae (ag (ah (aH.o) _) hc2 (aH.o).size);clear hr2 hc2))
 generalize V1.heap.size=g1 at *
 have gD:=Nat.lt_of_lt_of_le (ap.o.lt (by intro e;rw[e]at du;cases du)) HB.o
 have bj:=ae (bj.o.keeps aq.o)
 have bB:=ae (bB.o.keeps aq.o)
 have cE:=ae (cE.o.keeps aq.o)
 have aV:=ae (aV.o.keeps aq.o)
 have bH:=ae (bH.o.keeps aq.o)
 have e9:=ae (e9.o.keeps aq.o)
 have el:=ae (el.o.keeps aq.o)
 have cV:=ae (cV.o.keeps aq.o)
 have ap:=ae (ap.o.keeps aq.o)
 have aA:=ae (aA.o.trans aq.o)
 have dK:=HN
 have sI:=ae (Keeps.refl W2)
 have Pk:=dK.o.lt (aM fX)
 go_upto_region 3 with(first |(refine aW (by kernel_rfl) 67 _ rfl _ ?_ _ SW.o ?_;focus(simp only[List.map_toArray,List.map_cons,List.map_nil];rfl))|(refine ws (g:=W2.heap.size) (olds:=cD) (Row.new _ _ _ rfl) DR rfl (h:= ?_);intro W3 hr2 hc2;have HN:=ae hr2;have HB:=ae (show _≤_ from(sI.o).size);have aq:=ae (ag (ah (sI.o) _) hc2 (sI.o).size);clear hr2 hc2))
 generalize W2.heap.size=g2 at *
 have bj:=ae (bj.o.keeps aq.o)
 have bB:=ae (bB.o.keeps aq.o)
 have cE:=ae (cE.o.keeps aq.o)
 have aV:=ae (aV.o.keeps aq.o)
 have bH:=ae (bH.o.keeps aq.o)
 have e9:=ae (e9.o.keeps aq.o)
 have el:=ae (el.o.keeps aq.o)
 have cV:=ae (cV.o.keeps aq.o)
 have ap:=ae (ap.o.keeps aq.o)
 have dK:=ae (dK.o.keeps aq.o)
 have aA:=ae (aA.o.trans aq.o)
 have eo:=HN
 go_upto_region 4 with(first |(refine wl bB.o lX (h:= ?_))|(refine wl e9.o lU (h:= ?_))|(refine wl dK.o fX (h:= ?_))|(go_at_call 101;refine(HC2.o _ aA.o).mono ?_;rintro e V1 ⟨rfl,hk1⟩;have aH:=ae hk1;clear hk1)|(refine ws (g:=V1.heap.size) (olds:=cD) (Row.new _ _ _ rfl) lH rfl (h:= ?_);intro W2 hr2 hc2;have HN:=ae hr2;have HB:=ae (show _≤_ from(aH.o).size);have aq:=ae (ag (ah (aH.o) _) hc2 (aH.o).size);clear hr2 hc2))
 generalize V1.heap.size=g3 at *
 have Mp:=Nat.lt_of_lt_of_le (eo.o.lt (aM DR)) HB.o
 have bj:=ae (bj.o.keeps aq.o)
 have bB:=ae (bB.o.keeps aq.o)
 have cE:=ae (cE.o.keeps aq.o)
 have aV:=ae (aV.o.keeps aq.o)
 have bH:=ae (bH.o.keeps aq.o)
 have e9:=ae (e9.o.keeps aq.o)
 have el:=ae (el.o.keeps aq.o)
 have cV:=ae (cV.o.keeps aq.o)
 have ap:=ae (ap.o.keeps aq.o)
 have dK:=ae (dK.o.keeps aq.o)
 have eo:=ae (eo.o.keeps aq.o)
 have aA:=ae (aA.o.trans aq.o)
 have fZ:=HN
 go_upto_region 5 with(first |(refine wl cE.o lY (h:= ?_))|(refine wl el.o lV (h:= ?_))|(refine wl dK.o fX (h:= ?_))|(go_at_call 101;refine(fT.o _ aA.o).mono ?_;rintro e V1 ⟨rfl,hk1⟩;have aH:=ae hk1;clear hk1)|(refine ws (g:=V1.heap.size) (olds:=cD) (Row.new _ _ _ rfl) oI rfl (h:= ?_);intro W2 hr2 hc2;have HN:=ae hr2;have HB:=ae (show _≤_ from(aH.o).size);have aq:=ae (ag (ah (aH.o) _) hc2 (aH.o).size);clear hr2 hc2))
 generalize V1.heap.size=g4 at *
 have NZ:=Nat.lt_of_lt_of_le (fZ.o.lt (aM lH)) HB.o
 have bj:=ae (bj.o.keeps aq.o)
 have bB:=ae (bB.o.keeps aq.o)
 have cE:=ae (cE.o.keeps aq.o)
 have aV:=ae (aV.o.keeps aq.o)
 have bH:=ae (bH.o.keeps aq.o)
 have e9:=ae (e9.o.keeps aq.o)
 have el:=ae (el.o.keeps aq.o)
 have cV:=ae (cV.o.keeps aq.o)
 have ap:=ae (ap.o.keeps aq.o)
 have dK:=ae (dK.o.keeps aq.o)
 have eo:=ae (eo.o.keeps aq.o)
 have fZ:=ae (fZ.o.keeps aq.o)
 have aA:=ae (aA.o.trans aq.o)
 have gV:=HN
 go_upto_region 6 with(first |(refine wl aV.o lZ (h:= ?_))|(refine wl cV.o lT (h:= ?_))|(refine wl dK.o fX (h:= ?_))|(go_at_call 101;refine(ky.o _ aA.o).mono ?_;rintro e V1 ⟨rfl,hk1⟩;have aH:=ae hk1;clear hk1)|(refine ws (g:=V1.heap.size) (olds:=cD) (Row.new _ _ _ rfl) sY rfl (h:= ?_);intro W2 hr2 hc2;have HN:=ae hr2;have HB:=ae (show _≤_ from(aH.o).size);have aq:=ae (ag (ah (aH.o) _) hc2 (aH.o).size);clear hr2 hc2))
 generalize V1.heap.size=g5 at *
 have N0:=Nat.lt_of_lt_of_le (gV.o.lt (aM oI)) HB.o
 have bj:=ae (bj.o.keeps aq.o)
 have bB:=ae (bB.o.keeps aq.o)
 have cE:=ae (cE.o.keeps aq.o)
 have aV:=ae (aV.o.keeps aq.o)
 have bH:=ae (bH.o.keeps aq.o)
 have e9:=ae (e9.o.keeps aq.o)
 have el:=ae (el.o.keeps aq.o)
 have cV:=ae (cV.o.keeps aq.o)
 have ap:=ae (ap.o.keeps aq.o)
 have dK:=ae (dK.o.keeps aq.o)
 have eo:=ae (eo.o.keeps aq.o)
 have fZ:=ae (fZ.o.keeps aq.o)
 have gV:=ae (gV.o.keeps aq.o)
 have aA:=ae (aA.o.trans aq.o)
 have iG:=HN
 refine au 21 [20] [0,1,2,3,4,5,6,7,8,9,10,11,12,13,14,15,16,17,18,19] (fun _=>cD) (by kernel_rfl) (by kernel_rfl) (by intro i hi;simp only[List.mem_cons,List.not_mem_nil,or_false]at hi;(first |(rcases hi with rfl|rfl)|subst hi)<;>exact⟨_,rfl,gB rfl rfl⟩) ?_
 refine kp (h:= ?_)
 refine kl (fun wS hS=>(bB.o.keeps hS)) lX (h:= ?_)
 refine kp (h:= ?_)
 refine kl (fun wS hS=>(cE.o.keeps hS)) lY (h:= ?_)
 refine kl (fun wS hS=>(dK.o.keeps hS)) fX (h:= ?_)
 refine kc (hc:=by exact fun wS hS=>fY.o wS (aA.o.trans hS)) (h:= ?_)
 refine kp (h:= ?_)
 refine kl (fun wS hS=>(e9.o.keeps hS)) lU (h:= ?_)
 refine kp (h:= ?_)
 refine kl (fun wS hS=>(el.o.keeps hS)) lV (h:= ?_)
 refine kl (fun wS hS=>(dK.o.keeps hS)) fX (h:= ?_)
 refine kc (hc:=by exact fun wS hS=>gC.o wS (aA.o.trans hS)) (h:= ?_)
 refine kl (fun wS hS=>(dK.o.keeps hS)) fX (h:= ?_)
 refine kc (hc:=by exact fun wS hS=>yR.o wS (aA.o.trans hS)) (h:= ?_)
 refine kl (fun wS hS=>(fZ.o.keeps hS)) lH (h:= ?_)
 refine kl (fun wS hS=>(gV.o.keeps hS)) oI (h:= ?_)
 refine kl (fun wS hS=>(dK.o.keeps hS)) fX (h:= ?_)
 refine kc (hc:=by exact fun wS hS=>DX.o wS (aA.o.trans hS)) (h:= ?_)
 refine kl (fun wS hS=>(dK.o.keeps hS)) fX (h:= ?_)
 refine kc (hc:=by exact fun wS hS=>bK.o wS (aA.o.trans hS)) (h:= ?_)
 refine aI ?_
 intro GG V1 hk1 hG
 obtain⟨yS,yT,Gy⟩:=hG 20 (by simp)
 clear Gy
 simp only[aZ,br,ct,kD,kG,kP,Option.bind_some]
 generalize GG 20=g6 at *
 clear hG
 have Gz:=ae yT;have GC:=ae (show _≤_ from yS)
 clear yT yS
 have aH:=ae hk1;clear hk1
 go_upto_region 7 with(first |(refine ws (g:=_) (olds:=cD) Gz.o xe rfl (h:= ?_);intro W2 hr2 hc2;have eu:=ae hr2;have dT:=ae hc2;clear hr2 hc2))
 have HN:=eu;have HB:=GC
 have aq:=ae (ag aH.o dT.o HB.o)
 have N9:=Nat.lt_of_lt_of_le (iG.o.lt (aM sY)) HB.o
 have bj:=ae (bj.o.keeps aq.o)
 have bB:=ae (bB.o.keeps aq.o)
 have cE:=ae (cE.o.keeps aq.o)
 have aV:=ae (aV.o.keeps aq.o)
 have bH:=ae (bH.o.keeps aq.o)
 have e9:=ae (e9.o.keeps aq.o)
 have el:=ae (el.o.keeps aq.o)
 have cV:=ae (cV.o.keeps aq.o)
 have ap:=ae (ap.o.keeps aq.o)
 have dK:=ae (dK.o.keeps aq.o)
 have eo:=ae (eo.o.keeps aq.o)
 have fZ:=ae (fZ.o.keeps aq.o)
 have gV:=ae (gV.o.keeps aq.o)
 have iG:=ae (iG.o.keeps aq.o)
 have aA:=ae (aA.o.trans aq.o)
 have jY:=HN
 refine au 21 [20] [0,1,2,3,4,5,6,7,8,9,10,11,12,13,14,15,16,17,18,19] (fun _=>cD) (by kernel_rfl) (by kernel_rfl) (by intro i hi;simp only[List.mem_cons,List.not_mem_nil,or_false]at hi;(first |(rcases hi with rfl|rfl)|subst hi)<;>exact⟨_,rfl,gB rfl rfl⟩) ?_
 refine kp (h:= ?_)
 refine kl (fun wS hS=>(cE.o.keeps hS)) lY (h:= ?_)
 refine kp (h:= ?_)
 refine kl (fun wS hS=>(aV.o.keeps hS)) lZ (h:= ?_)
 refine kl (fun wS hS=>(dK.o.keeps hS)) fX (h:= ?_)
 refine kc (hc:=by exact fun wS hS=>fP.o wS (aA.o.trans hS)) (h:= ?_)
 refine kp (h:= ?_)
 refine kl (fun wS hS=>(el.o.keeps hS)) lV (h:= ?_)
 refine kp (h:= ?_)
 refine kl (fun wS hS=>(cV.o.keeps hS)) lT (h:= ?_)
 refine kl (fun wS hS=>(dK.o.keeps hS)) fX (h:= ?_)
 refine kc (hc:=by exact fun wS hS=>Gn.o wS (aA.o.trans hS)) (h:= ?_)
 refine kl (fun wS hS=>(dK.o.keeps hS)) fX (h:= ?_)
 refine kc (hc:=by exact fun wS hS=>Gp.o wS (aA.o.trans hS)) (h:= ?_)
 refine kl (fun wS hS=>(gV.o.keeps hS)) oI (h:= ?_)
 refine kl (fun wS hS=>(iG.o.keeps hS)) sY (h:= ?_)
 refine kl (fun wS hS=>(dK.o.keeps hS)) fX (h:= ?_)
 refine kc (hc:=by exact fun wS hS=>Gq.o wS (aA.o.trans hS)) (h:= ?_)
 refine kl (fun wS hS=>(dK.o.keeps hS)) fX (h:= ?_)
 refine kc (hc:=by exact fun wS hS=>xg.o wS (aA.o.trans hS)) (h:= ?_)
 refine aI ?_
 intro GG V1 hk1 hG
 obtain⟨yS,yT,Gy⟩:=hG 20 (by simp)
 clear Gy
 simp only[aZ,br,ct,kD,kG,kP,Option.bind_some]
 generalize GG 20=g7 at *
 clear hG
 have Gz:=ae yT;have GC:=ae (show _≤_ from yS)
 clear yT yS
 have aH:=ae hk1;clear hk1
 go_upto_region 8 with(first |(refine ws (g:=_) (olds:=cD) Gz.o DU rfl (h:= ?_);intro W2 hr2 hc2;have eu:=ae hr2;have dT:=ae hc2;clear hr2 hc2))
 have HN:=eu;have HB:=GC
 have aq:=ae (ag aH.o dT.o HB.o)
 have Oa:=Nat.lt_of_lt_of_le (jY.o.lt (aM xe)) HB.o
 have bj:=ae (bj.o.keeps aq.o)
 have bB:=ae (bB.o.keeps aq.o)
 have cE:=ae (cE.o.keeps aq.o)
 have aV:=ae (aV.o.keeps aq.o)
 have bH:=ae (bH.o.keeps aq.o)
 have e9:=ae (e9.o.keeps aq.o)
 have el:=ae (el.o.keeps aq.o)
 have cV:=ae (cV.o.keeps aq.o)
 have ap:=ae (ap.o.keeps aq.o)
 have dK:=ae (dK.o.keeps aq.o)
 have eo:=ae (eo.o.keeps aq.o)
 have fZ:=ae (fZ.o.keeps aq.o)
 have gV:=ae (gV.o.keeps aq.o)
 have iG:=ae (iG.o.keeps aq.o)
 have jY:=ae (jY.o.keeps aq.o)
 have aA:=ae (aA.o.trans aq.o)
 have lg:=HN
 refine au 21 [20] [0,1,2,3,4,5,6,7,8,9,10,11,12,13,14,15,16,17,18,19] (fun _=>cD) (by kernel_rfl) (by kernel_rfl) (by intro i hi;simp only[List.mem_cons,List.not_mem_nil,or_false]at hi;(first |(rcases hi with rfl|rfl)|subst hi)<;>exact⟨_,rfl,gB rfl rfl⟩) ?_
 refine kp (h:= ?_)
 refine kl (fun wS hS=>(bB.o.keeps hS)) lX (h:= ?_)
 refine kp (h:= ?_)
 refine kl (fun wS hS=>(aV.o.keeps hS)) lZ (h:= ?_)
 refine kl (fun wS hS=>(dK.o.keeps hS)) fX (h:= ?_)
 refine kc (hc:=by exact fun wS hS=>Gr.o wS (aA.o.trans hS)) (h:= ?_)
 refine kp (h:= ?_)
 refine kl (fun wS hS=>(e9.o.keeps hS)) lU (h:= ?_)
 refine kp (h:= ?_)
 refine kl (fun wS hS=>(cV.o.keeps hS)) lT (h:= ?_)
 refine kl (fun wS hS=>(dK.o.keeps hS)) fX (h:= ?_)
 refine kc (hc:=by exact fun wS hS=>Gs.o wS (aA.o.trans hS)) (h:= ?_)
 refine kl (fun wS hS=>(dK.o.keeps hS)) fX (h:= ?_)
 refine kc (hc:=by exact fun wS hS=>Gt.o wS (aA.o.trans hS)) (h:= ?_)
 refine kl (fun wS hS=>(fZ.o.keeps hS)) lH (h:= ?_)
 refine kl (fun wS hS=>(iG.o.keeps hS)) sY (h:= ?_)
 refine kl (fun wS hS=>(dK.o.keeps hS)) fX (h:= ?_)
 refine kc (hc:=by exact fun wS hS=>Gu.o wS (aA.o.trans hS)) (h:= ?_)
 refine kl (fun wS hS=>(dK.o.keeps hS)) fX (h:= ?_)
 refine kc (hc:=by exact fun wS hS=>Gv.o wS (aA.o.trans hS)) (h:= ?_)
 refine aI ?_
 intro GG V1 hk1 hG
 obtain⟨yS,yT,Gy⟩:=hG 20 (by simp)
 clear Gy
 simp only[aZ,br,ct,kD,kG,kP,Option.bind_some]
 generalize GG 20=g8 at *
 clear hG
 have Gz:=ae yT;have GC:=ae (show _≤_ from yS)
 clear yT yS
 have aH:=ae hk1;clear hk1
 go_upto_region 9 with(first |(refine ws (g:=_) (olds:=cD) Gz.o DW rfl (h:= ?_);intro W2 hr2 hc2;have eu:=ae hr2;have dT:=ae hc2;clear hr2 hc2))
 have HN:=eu;have HB:=GC
 have aq:=ae (ag aH.o dT.o HB.o)
 have Ob:=Nat.lt_of_lt_of_le (lg.o.lt (aM DU)) HB.o
 have bj:=ae (bj.o.keeps aq.o)
 have bB:=ae (bB.o.keeps aq.o)
 have cE:=ae (cE.o.keeps aq.o)
 have aV:=ae (aV.o.keeps aq.o)
 have bH:=ae (bH.o.keeps aq.o)
 have e9:=ae (e9.o.keeps aq.o)
 have el:=ae (el.o.keeps aq.o)
 have cV:=ae (cV.o.keeps aq.o)
 have ap:=ae (ap.o.keeps aq.o)
 have dK:=ae (dK.o.keeps aq.o)
 have eo:=ae (eo.o.keeps aq.o)
 have fZ:=ae (fZ.o.keeps aq.o)
 have gV:=ae (gV.o.keeps aq.o)
 have iG:=ae (iG.o.keeps aq.o)
 have jY:=ae (jY.o.keeps aq.o)
 have lg:=ae (lg.o.keeps aq.o)
 have aA:=ae (aA.o.trans aq.o)
 have xR:=HN
 refine au 7 [] [0,1,2,3,4,5,6] (fun _=>cD) (by kernel_rfl) (by kernel_rfl) (by intro i hi;cases hi) ?_
 refine kl (fun wS hS=>(fZ.o.keeps hS)) lH (h:= ?_)
 refine kl (fun wS hS=>(fZ.o.keeps hS)) lH (h:= ?_)
 refine kl (fun wS hS=>(dK.o.keeps hS)) fX (h:= ?_)
 refine kc (hc:=by exact fun wS hS=>Gw.o wS (aA.o.trans hS)) (h:= ?_)
 refine kl (fun wS hS=>(fZ.o.keeps hS)) lH (h:= ?_)
 refine kl (fun wS hS=>(dK.o.keeps hS)) fX (h:= ?_)
 refine kc (hc:=by exact fun wS hS=>Gx.o wS (aA.o.trans hS)) (h:= ?_)
 refine aI ?_
 intro GG V1 hk1 hG
 simp only[aZ,br,ct,kD,kG,kP,Option.bind_some]
 clear hG
 have aH:=ae hk1;clear hk1
 go_upto_region 10 with(first |(refine ws (fZ.o.keeps aH.o) xf (by rw[aF,lH]) (h:= ?_);intro W2 hr2 hc2;have HN:=ae hr2;have HC:=ae hc2;clear hr2 hc2))
 have bj:=ae (((bj.o.keeps aH.o)).aG HC.o (by omega))
 have bB:=ae (((bB.o.keeps aH.o)).aG HC.o (by omega))
 have cE:=ae (((cE.o.keeps aH.o)).aG HC.o (by omega))
 have aV:=ae (((aV.o.keeps aH.o)).aG HC.o (by omega))
 have bH:=ae (((bH.o.keeps aH.o)).aG HC.o (by omega))
 have e9:=ae (((e9.o.keeps aH.o)).aG HC.o (by omega))
 have el:=ae (((el.o.keeps aH.o)).aG HC.o (by omega))
 have cV:=ae (((cV.o.keeps aH.o)).aG HC.o (by omega))
 have ap:=ae (((ap.o.keeps aH.o)).aG HC.o (by omega))
 have dK:=ae (((dK.o.keeps aH.o)).aG HC.o (by omega))
 have eo:=ae (((eo.o.keeps aH.o)).aG HC.o (by omega))
 have gV:=ae (((gV.o.keeps aH.o)).aG HC.o (by omega))
 have iG:=ae (((iG.o.keeps aH.o)).aG HC.o (by omega))
 have jY:=ae (((jY.o.keeps aH.o)).aG HC.o (by omega))
 have lg:=ae (((lg.o.keeps aH.o)).aG HC.o (by omega))
 have xR:=ae (((xR.o.keeps aH.o)).aG HC.o (by omega))
 have aA:=ae (ag ((aA.o.trans aH.o)) HC.o (by omega))
 have fZ:=HN
 go_upto_region 11 with(first |(refine wl eo.o DR (h:= ?_))|(refine wl iG.o sY (h:= ?_))|(refine wl dK.o fX (h:= ?_))|(go_at_call 101;refine(Mm.o _ aA.o).mono ?_;rintro e V1 ⟨rfl,hk1⟩;have aH:=ae hk1;clear hk1)|(refine ws (iG.o.keeps aH.o) JJ (by rw[aF,sY]) (h:= ?_);intro W2 hr2 hc2;have HN:=ae hr2;have HC:=ae hc2;clear hr2 hc2))
 have bj:=ae (((bj.o.keeps aH.o)).aG HC.o (by omega))
 have bB:=ae (((bB.o.keeps aH.o)).aG HC.o (by omega))
 have cE:=ae (((cE.o.keeps aH.o)).aG HC.o (by omega))
 have aV:=ae (((aV.o.keeps aH.o)).aG HC.o (by omega))
 have bH:=ae (((bH.o.keeps aH.o)).aG HC.o (by omega))
 have e9:=ae (((e9.o.keeps aH.o)).aG HC.o (by omega))
 have el:=ae (((el.o.keeps aH.o)).aG HC.o (by omega))
 have cV:=ae (((cV.o.keeps aH.o)).aG HC.o (by omega))
 have ap:=ae (((ap.o.keeps aH.o)).aG HC.o (by omega))
 have dK:=ae (((dK.o.keeps aH.o)).aG HC.o (by omega))
 have eo:=ae (((eo.o.keeps aH.o)).aG HC.o (by omega))
 have fZ:=ae (((fZ.o.keeps aH.o)).aG HC.o (by omega))
 have gV:=ae (((gV.o.keeps aH.o)).aG HC.o (by omega))
 have jY:=ae (((jY.o.keeps aH.o)).aG HC.o (by omega))
 have lg:=ae (((lg.o.keeps aH.o)).aG HC.o (by omega))
 have xR:=ae (((xR.o.keeps aH.o)).aG HC.o (by omega))
 have aA:=ae (ag ((aA.o.trans aH.o)) HC.o (by omega))
 have iG:=HN
 go_upto_region 12 with(first |(refine wl gV.o oI (h:= ?_))|(refine wl iG.o JJ (h:= ?_))|(refine wl dK.o fX (h:= ?_))|(go_at_call 63;refine(Mn.o _ aA.o).mono ?_;rintro e V1 ⟨rfl,hk1⟩;have aH:=ae hk1;clear hk1)|(refine ws (g:=V1.heap.size) (olds:=cD) (Row.new _ _ _ rfl) Bj rfl (h:= ?_);intro W2 hr2 hc2;have HN:=ae hr2;have HB:=ae (show _≤_ from(aH.o).size);have aq:=ae (ag (ah (aH.o) _) hc2 (aH.o).size);clear hr2 hc2))
 generalize V1.heap.size=g9 at *
 have Pl:=Nat.lt_of_lt_of_le (xR.o.lt (aM DW)) HB.o
 have bj:=ae (bj.o.keeps aq.o)
 have bB:=ae (bB.o.keeps aq.o)
 have cE:=ae (cE.o.keeps aq.o)
 have aV:=ae (aV.o.keeps aq.o)
 have bH:=ae (bH.o.keeps aq.o)
 have e9:=ae (e9.o.keeps aq.o)
 have el:=ae (el.o.keeps aq.o)
 have cV:=ae (cV.o.keeps aq.o)
 have ap:=ae (ap.o.keeps aq.o)
 have dK:=ae (dK.o.keeps aq.o)
 have eo:=ae (eo.o.keeps aq.o)
 have fZ:=ae (fZ.o.keeps aq.o)
 have gV:=ae (gV.o.keeps aq.o)
 have iG:=ae (iG.o.keeps aq.o)
 have jY:=ae (jY.o.keeps aq.o)
 have lg:=ae (lg.o.keeps aq.o)
 have xR:=ae (xR.o.keeps aq.o)
 have aA:=ae (aA.o.trans aq.o)
 have GD:=HN
 go_upto_region 13 with(first |(refine wl gV.o oI (h:= ?_))|(refine wl iG.o JJ (h:= ?_))|(refine wl dK.o fX (h:= ?_))|(go_at_call 102;refine(SE.o _ aA.o).mono ?_;rintro e V1 ⟨rfl,hk1⟩;have aH:=ae hk1;clear hk1)|(refine ws (gV.o.keeps aH.o) Mk (by rw[aF,oI]) (h:= ?_);intro W2 hr2 hc2;have HN:=ae hr2;have HC:=ae hc2;clear hr2 hc2))
 have bj:=ae (((bj.o.keeps aH.o)).aG HC.o (by omega))
 have bB:=ae (((bB.o.keeps aH.o)).aG HC.o (by omega))
 have cE:=ae (((cE.o.keeps aH.o)).aG HC.o (by omega))
 have aV:=ae (((aV.o.keeps aH.o)).aG HC.o (by omega))
 have bH:=ae (((bH.o.keeps aH.o)).aG HC.o (by omega))
 have e9:=ae (((e9.o.keeps aH.o)).aG HC.o (by omega))
 have el:=ae (((el.o.keeps aH.o)).aG HC.o (by omega))
 have cV:=ae (((cV.o.keeps aH.o)).aG HC.o (by omega))
 have ap:=ae (((ap.o.keeps aH.o)).aG HC.o (by omega))
 have dK:=ae (((dK.o.keeps aH.o)).aG HC.o (by omega))
 have eo:=ae (((eo.o.keeps aH.o)).aG HC.o (by omega))
 have fZ:=ae (((fZ.o.keeps aH.o)).aG HC.o (by omega))
 have iG:=ae (((iG.o.keeps aH.o)).aG HC.o (by omega))
 have jY:=ae (((jY.o.keeps aH.o)).aG HC.o (by omega))
 have lg:=ae (((lg.o.keeps aH.o)).aG HC.o (by omega))
 have xR:=ae (((xR.o.keeps aH.o)).aG HC.o (by omega))
 have GD:=ae (((GD.o.keeps aH.o)).aG HC.o (by omega))
 have aA:=ae (ag ((aA.o.trans aH.o)) HC.o (by omega))
 have gV:=HN
 go_upto_region 14 with(first |(refine wl eo.o DR (h:= ?_))|(refine wl xR.o DW (h:= ?_))|(refine wl dK.o fX (h:= ?_))|(go_at_call 101;refine(SG.o _ aA.o).mono ?_;rintro e V1 ⟨rfl,hk1⟩;have aH:=ae hk1;clear hk1)|(refine ws (xR.o.keeps aH.o) Ml (by rw[aF,DW]) (h:= ?_);intro W2 hr2 hc2;have HN:=ae hr2;have HC:=ae hc2;clear hr2 hc2))
 have bj:=ae (((bj.o.keeps aH.o)).aG HC.o (by omega))
 have bB:=ae (((bB.o.keeps aH.o)).aG HC.o (by omega))
 have cE:=ae (((cE.o.keeps aH.o)).aG HC.o (by omega))
 have aV:=ae (((aV.o.keeps aH.o)).aG HC.o (by omega))
 have bH:=ae (((bH.o.keeps aH.o)).aG HC.o (by omega))
 have e9:=ae (((e9.o.keeps aH.o)).aG HC.o (by omega))
 have el:=ae (((el.o.keeps aH.o)).aG HC.o (by omega))
 have cV:=ae (((cV.o.keeps aH.o)).aG HC.o (by omega))
 have ap:=ae (((ap.o.keeps aH.o)).aG HC.o (by omega))
 have dK:=ae (((dK.o.keeps aH.o)).aG HC.o (by omega))
 have eo:=ae (((eo.o.keeps aH.o)).aG HC.o (by omega))
 have fZ:=ae (((fZ.o.keeps aH.o)).aG HC.o (by omega))
 have gV:=ae (((gV.o.keeps aH.o)).aG HC.o (by omega))
 have iG:=ae (((iG.o.keeps aH.o)).aG HC.o (by omega))
 have jY:=ae (((jY.o.keeps aH.o)).aG HC.o (by omega))
 have lg:=ae (((lg.o.keeps aH.o)).aG HC.o (by omega))
 have GD:=ae (((GD.o.keeps aH.o)).aG HC.o (by omega))
 have aA:=ae (ag ((aA.o.trans aH.o)) HC.o (by omega))
 have xR:=HN
 refine au 11 [10] [0,1,2,3,4,5,6,7,8,9] (fun _=>cD) (by kernel_rfl) (by kernel_rfl) (by intro i hi;simp only[List.mem_cons,List.not_mem_nil,or_false]at hi;(first |(rcases hi with rfl|rfl)|subst hi)<;>exact⟨_,rfl,gB rfl rfl⟩) ?_
 refine kl (fun wS hS=>(jY.o.keeps hS)) xe (h:= ?_)
 refine kl (fun wS hS=>(gV.o.keeps hS)) Mk (h:= ?_)
 refine kl (fun wS hS=>(dK.o.keeps hS)) fX (h:= ?_)
 refine kc (hc:=by exact fun wS hS=>SH.o wS (aA.o.trans hS)) (h:= ?_)
 refine kl (fun wS hS=>(lg.o.keeps hS)) DU (h:= ?_)
 refine kl (fun wS hS=>(xR.o.keeps hS)) Ml (h:= ?_)
 refine kl (fun wS hS=>(dK.o.keeps hS)) fX (h:= ?_)
 refine kc (hc:=by exact fun wS hS=>SI.o wS (aA.o.trans hS)) (h:= ?_)
 refine kl (fun wS hS=>(dK.o.keeps hS)) fX (h:= ?_)
 refine kc (hc:=by exact fun wS hS=>SJ.o wS (aA.o.trans hS)) (h:= ?_)
 refine aI ?_
 intro GG V1 hk1 hG
 obtain⟨iu,iH,hd10⟩:=hG 10 (by simp)
 clear hd10
 simp only[aZ,br,ct,kD,kG,kP,Option.bind_some]
 generalize GG 10=g10 at *
 clear hG
 have lI:=ae iH;have jZ:=ae (show _≤_ from iu)
 clear iH iu
 have aH:=ae hk1;clear hk1
 go_upto_region 15 with(first |(refine ws (g:=_) (olds:=cD) lI.o JK rfl (h:= ?_);intro W2 hr2 hc2;have eu:=ae hr2;have dT:=ae hc2;clear hr2 hc2))
 have HN:=eu;have HB:=jZ
 have aq:=ae (ag aH.o dT.o HB.o)
 have Oc:=Nat.lt_of_lt_of_le (GD.o.lt (aM Bj)) HB.o
 have bj:=ae (bj.o.keeps aq.o)
 have bB:=ae (bB.o.keeps aq.o)
 have cE:=ae (cE.o.keeps aq.o)
 have aV:=ae (aV.o.keeps aq.o)
 have bH:=ae (bH.o.keeps aq.o)
 have e9:=ae (e9.o.keeps aq.o)
 have el:=ae (el.o.keeps aq.o)
 have cV:=ae (cV.o.keeps aq.o)
 have ap:=ae (ap.o.keeps aq.o)
 have dK:=ae (dK.o.keeps aq.o)
 have eo:=ae (eo.o.keeps aq.o)
 have fZ:=ae (fZ.o.keeps aq.o)
 have gV:=ae (gV.o.keeps aq.o)
 have iG:=ae (iG.o.keeps aq.o)
 have jY:=ae (jY.o.keeps aq.o)
 have lg:=ae (lg.o.keeps aq.o)
 have xR:=ae (xR.o.keeps aq.o)
 have GD:=ae (GD.o.keeps aq.o)
 have aA:=ae (aA.o.trans aq.o)
 have SX:=HN
 refine au 22 [] [0,1,2,3,4,5,6,7,8,9,10,11,12,13,14,15,16,17,18,19,20,21] (fun _=>cD) (by kernel_rfl) (by kernel_rfl) (by intro i hi;cases hi) ?_
 refine kl (fun wS hS=>(SX.o.keeps hS)) JK (h:= ?_)
 refine kl (fun wS hS=>(gV.o.keeps hS)) Mk (h:= ?_)
 refine kl (fun wS hS=>(GD.o.keeps hS)) Bj (h:= ?_)
 refine kl (fun wS hS=>(dK.o.keeps hS)) fX (h:= ?_)
 refine kc (hc:=by exact fun wS hS=>SL.o wS (aA.o.trans hS)) (h:= ?_)
 refine kl (fun wS hS=>(xR.o.keeps hS)) Ml (h:= ?_)
 refine kl (fun wS hS=>(fZ.o.keeps hS)) xf (h:= ?_)
 refine kl (fun wS hS=>(dK.o.keeps hS)) fX (h:= ?_)
 refine kc (hc:=by exact fun wS hS=>SN.o wS (aA.o.trans hS)) (h:= ?_)
 refine kl (fun wS hS=>(dK.o.keeps hS)) fX (h:= ?_)
 refine kc (hc:=by exact fun wS hS=>SO.o wS (aA.o.trans hS)) (h:= ?_)
 refine kl (fun wS hS=>(GD.o.keeps hS)) Bj (h:= ?_)
 refine kl (fun wS hS=>(lg.o.keeps hS)) DU (h:= ?_)
 refine kl (fun wS hS=>(dK.o.keeps hS)) fX (h:= ?_)
 refine kc (hc:=by exact fun wS hS=>SP.o wS (aA.o.trans hS)) (h:= ?_)
 refine kl (fun wS hS=>(fZ.o.keeps hS)) xf (h:= ?_)
 refine kl (fun wS hS=>(jY.o.keeps hS)) xe (h:= ?_)
 refine kl (fun wS hS=>(dK.o.keeps hS)) fX (h:= ?_)
 refine kc (hc:=by exact fun wS hS=>SS.o wS (aA.o.trans hS)) (h:= ?_)
 refine kl (fun wS hS=>(dK.o.keeps hS)) fX (h:= ?_)
 refine kc (hc:=by exact fun wS hS=>SU.o wS (aA.o.trans hS)) (h:= ?_)
 refine kp (hx:=by intro wS hS;(refine cR 70 [(0,.tmp 128),(1,.tmp 138),(2,.tmp 148)] ?_ _ ?_ _ DY.o)<;>rfl) (h:= ?_)
 refine aI ?_
 intro GG V1 hk1 hG
 simp only[aZ,br,ct,kD,kG,kP,Option.bind_some]
 clear hG
 have aH:=ae hk1;clear hk1
 go_wp2_with (first |(refine ws (ap.o.keeps aH.o) ro (by rw[du]) (h:= ?_);intro W2 hr2 hc2;have HN:=ae hr2;have HC:=ae hc2;clear hr2 hc2))
 have bj:=ae (((bj.o.keeps aH.o)).aG HC.o (by omega))
 have bB:=ae (((bB.o.keeps aH.o)).aG HC.o (by omega))
 have cE:=ae (((cE.o.keeps aH.o)).aG HC.o (by omega))
 have aV:=ae (((aV.o.keeps aH.o)).aG HC.o (by omega))
 have bH:=ae (((bH.o.keeps aH.o)).aG HC.o (by omega))
 have e9:=ae (((e9.o.keeps aH.o)).aG HC.o (by omega))
 have el:=ae (((el.o.keeps aH.o)).aG HC.o (by omega))
 have cV:=ae (((cV.o.keeps aH.o)).aG HC.o (by omega))
 have dK:=ae (((dK.o.keeps aH.o)).aG HC.o (by omega))
 have eo:=ae (((eo.o.keeps aH.o)).aG HC.o (by omega))
 have fZ:=ae (((fZ.o.keeps aH.o)).aG HC.o (by omega))
 have gV:=ae (((gV.o.keeps aH.o)).aG HC.o (by omega))
 have iG:=ae (((iG.o.keeps aH.o)).aG HC.o (by omega))
 have jY:=ae (((jY.o.keeps aH.o)).aG HC.o (by omega))
 have lg:=ae (((lg.o.keeps aH.o)).aG HC.o (by omega))
 have xR:=ae (((xR.o.keeps aH.o)).aG HC.o (by omega))
 have GD:=ae (((GD.o.keeps aH.o)).aG HC.o (by omega))
 have SX:=ae (((SX.o.keeps aH.o)).aG HC.o (by omega))
 have aA:=ae (ag ((aA.o.trans aH.o)) HC.o (by omega))
 exact bodyPost_ret (ar (p:=4) (ty:=70) rfl _ _ (p+1+1) 0 _ _ rfl HN.o Tryz.underlying70 rfl (by rw[aF,ro];exact dn)) rfl ⟨rfl,aA.o⟩
end Go.Proofs.YtlofddoojkeakaaGreatDoor
