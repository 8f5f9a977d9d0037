/- Both Public, and IsPublic. -/
import Derived.Test.YtlofddoojkeakaaGreatDoorGC4
import Derived.Test.YtlofddoojkeakaaGreatDoorGA2
import Derived.Test.YtlofddoojkeakaaGreatDoorRows
import Derived.ProofKit
import Derived.OpenShut
import Derived.WideKeyArr2
import Derived.ChangeMaps5
import Derived.Test.YtlofddoojkeakaaGreatDoorGB0
set_option maxRecDepth 100000
set_option maxHeartbeats 8000000
set_option linter.unusedVariables false
set_option linter.unusedSimpArgs false
namespace Go.Proofs.YtlofddoojkeakaaGreatDoor
open Go Go.RowKit Cv
def xq(k:Nat):List Int:=Hl (gU (cC k gJ 256)).1 (gU (cC k gJ 256)).2
theorem Db(x y:Nat):(Hl x y).length=33:=by unfold Hl;rw[List.length_cons,fr]
theorem tu(k:Nat):(xq k).length=33:=Db _ _
theorem JW{k:Nat}(hk:k<2^256):Hl (kr (cu k gJ 256)).1 (kr (cu k gJ 256)).2=xq k:=by
 unfold xq
 rw[yM (nh k 256) (yP yO KS hk),yL (dX k ku 256) (xd ku yO Gi hk)]
def bA:List Int:=List.replicate 33 0
def li(x:Int):List Int:=if ey x=true then xq x.toNat else bA
theorem zu(x:Int):(li x).length=33:=by
 unfold li
 split
 ·exact tu _
 · rfl
def zw(x:Int):Int:=if ey x=true then 0 else 1
theorem BA{x:Int}(h:ey x=true):0<x∧x<NV:=by
 unfold ey at h
 rwa[decide_eq_true_eq]at h
theorem Ei(v:Value)(l:List Int)(hb:Bytes l)(w:World)(hv:Rd w 1 v l.length (l.map (Value.int .u8))):
 Calls Tryz.prog 72 #[v] w fun e w' =>e= .returned (.bool (eK l).isSome)∧Keeps w w':=by
 have HU:=ae (fun g W hr hv=>tr g v l hb W hr hv)
 have HV:=ae hv
 have FH:=ae ko
 have AV:=py l
 generalize mL l=X at *
 generalize(eK l).isSome=D at *
 clear hv hb
 go_enter Tryz.func72,Tryz.ntmps72
 go_upto_region 2 with(first |(go_at_call 45;refine(FH.o _).mono ?_;rintro e W1 ⟨g,rfl,hk1,hgg,hrow⟩;have bw:=ae hk1;have bY:=ae hrow;clear hk1 hrow)|(go_at_call 52;refine(HU.o g _ bY.o (HV.o.keeps bw.o)).mono ?_;rintro e W2 ⟨rfl,hk2⟩;have aq:=ae (bw.o.trans hk2);clear hk2)|(refine ws (g:=W2.heap.size) (olds:=((List.replicate 12 (0:Int)).map (Value.int .u64))) (Row.new _ _ _ rfl) AV rfl (h:= ?_);intro W3 hr2 hc2;have bS:=ae (ag (ah aq.o _) hc2 aq.o.size);clear hr2 hc2))
 go_wp2
 go_ret
 exact⟨rfl,bS.o⟩
theorem BB(l:List Int)(hb:Bytes l)(hl:l.length=32)(w:World):
 Calls Tryz.prog 36 #[.agg (l.map (Value.int .u8)).toArray] w fun e w' =>e= .returned (.tuple #[.agg ((li (be l)).map (Value.int .u8)).toArray,.int .i64 (zw (be l))])∧Keeps w w':=by
 have HKEY:=ae (fun g W hr=>sA g l hb hl W hr)
 have FH:=ae ko
 have hwl:=ak (be l)
 have hx:=gp hb hl
 by_cases hkey:ey (be l)=true
 · have h1:=BA hkey
   have PJ:=ae (fun g W hr=>zo g W hr)
   have Hp:=ae (fun g W hr=>times_any g (be l).toNat gJ (by have :=h1.2;have :=GR;have :=JH;omega) ku W hr)
   have hnw:words (be l)=nw (be l).toNat:=by unfold nw;rw[Int.toNat_of_nonneg (by omega)]
   rw[←hnw]at Hp
   have xr:=ae (fun g W hr=>zp g (cC (be l).toNat gJ 256) (dX _ ku 256) W hr)
   have hpl:=tu (be l).toNat
   rw[show Hl (gU (cC (be l).toNat gJ 256)).1 (gU (cC (be l).toNat gJ 256)).2=xq (be l).toNat from rfl]at xr
   have e1:li (be l)=xq (be l).toNat:=by unfold li;rw[if_pos hkey]
   have e2:zw (be l)=0:=by unfold zw;rw[if_pos hkey]
   rw[e1,e2]
   rw[hkey]at HKEY
   generalize xq (be l).toNat=PB at *
   generalize iU (cC (be l).toNat gJ 256)=TM at *
   generalize iU gJ=GJ at *
   generalize words (be l)=X at *
   clear e1 e2 hkey h1 hnw hx
   go_enter Tryz.func36,Tryz.ntmps36
   go_upto_region 1 with(fail)
   refine bu (fun W hk hr hr2 hs=> ?_)
   obtain⟨p,hp⟩:∃p,p=w.heap.size:=⟨_,rfl⟩
   rw[←hp]at hr hr2 hs⊢
   have hkp:w.heap.size≤p:=by omega
   obtain⟨Zr,du,hrz⟩:∃Zr:List Value,Zr.length=33∧Row W (p+1) 0 Zr:=⟨_,rfl,hr2⟩
   have HR:=ae (show Row W p 0 (l.map (Value.int .u8))from hr);have aA:=ae hk;have ap:=ae hrz
   have hps:p+1<W.heap.size:=by omega
   clear hp hk hr hr2 hrz hs
   go_upto_region 2 with(go_at_call 45;refine(FH.o _).mono ?_;rintro e W1 ⟨g,rfl,hk1,hgg,hrow⟩;have bw:=ae hk1;have bY:=ae hrow;clear hk1 hrow)
   have HR:=ae (HR.o.keeps bw.o)
   go_upto_region 3 with(first |(refine wl HR.o hl (h:= ?_))|(go_at_call 46;refine(HKEY.o g _ bY.o).mono ?_;rintro e W2 ⟨rfl,hk2⟩;have aq:=ae hk2;clear hk2)|(refine ws (g:=W2.heap.size) (olds:=aL) (Row.new _ _ _ rfl) hwl rfl (h:= ?_);intro W3 hr2 hc2;have bB:=ae hr2;have bS:=ae (ag (ah aq.o _) hc2 aq.o.size);clear hr2 hc2))
   generalize W2.heap.size=q at *
   have bY:=ae (bY.o.keeps bS.o)
   have jE:=ae (bw.o.trans bS.o)
   have ap:=ae (ap.o.keeps jE.o)
   have aA:=ae (aA.o.trans jE.o)
   go_upto_region 5 with(fail)
   refine au 7 [] [0,1,2,3,4,5,6] (fun _=>[]) (by kernel_rfl) (by kernel_rfl) (by intro i hi;cases hi) ?_
   iterate 2 refine kp (h:= ?_)
   refine kl (fun wS hS=>(bB.o.keeps hS)) hwl (h:= ?_)
   refine kp (h:= ?_)
   refine kc (hc:=by exact fun wS hS=>PJ.o g wS (bY.o.keeps hS)) (h:= ?_)
   refine kc (hc:=by exact fun wS hS=>Hp.o g wS (bY.o.keeps hS)) (h:= ?_)
   refine kc (hc:=by exact fun wS hS=>xr.o g wS (bY.o.keeps hS)) (h:= ?_)
   refine aI ?_
   intro GG V4 hk1 hG
   clear hG
   simp only[aZ,br,ct,kD,kG,kP,Option.bind_some]
   have ap:=ae (ap.o.keeps hk1)
   have aA:=ae (aA.o.trans hk1)
   clear hk1
   go_wp2_with (refine ws ap.o hpl (by rw[du]) (h:= ?_);intro W8 hr2 hc2;have HN:=ae hr2;have HC:=ae hc2;clear hr2 hc2)
   exact bodyPost_ret (al (p:=2) (t:=3) (ty:=25) rfl _ _ (p+1) 0 _ _ _ rfl rfl HN.o Tryz.underlying25 rfl (by rw[aF,hpl];exact bF)) rfl ⟨rfl,ag aA.o HC.o (by omega)⟩
 · have hkey':ey (be l)=false:=by simpa using hkey
   have e1:li (be l)=bA:=by unfold li;rw[if_neg hkey]
   have e2:zw (be l)=1:=by unfold zw;rw[if_neg hkey]
   rw[e1,e2]
   rw[hkey']at HKEY
   generalize words (be l)=X at *
   clear e1 e2 hkey hkey' hx
   go_enter Tryz.func36,Tryz.ntmps36
   go_upto_region 1 with(fail)
   refine bu (fun W hk hr hr2 hs=> ?_)
   obtain⟨p,hp⟩:∃p,p=w.heap.size:=⟨_,rfl⟩
   rw[←hp]at hr hr2 hs⊢
   have hkp:w.heap.size≤p:=by omega
   obtain⟨Zr,du,hrz⟩:∃Zr:List Value,Zr.length=33∧Row W (p+1) 0 Zr:=⟨_,rfl,hr2⟩
   have HR:=ae (show Row W p 0 (l.map (Value.int .u8))from hr);have aA:=ae hk;have ap:=ae hrz
   clear hp hk hr hr2 hrz hs
   go_upto_region 2 with(go_at_call 45;refine(FH.o _).mono ?_;rintro e W1 ⟨g,rfl,hk1,hgg,hrow⟩;have bw:=ae hk1;have bY:=ae hrow;clear hk1 hrow)
   have HR:=ae (HR.o.keeps bw.o)
   go_upto_region 3 with(first |(refine wl HR.o hl (h:= ?_))|(go_at_call 46;refine(HKEY.o g _ bY.o).mono ?_;rintro e W2 ⟨rfl,hk2⟩;have aq:=ae hk2;clear hk2)|(refine ws (g:=W2.heap.size) (olds:=aL) (Row.new _ _ _ rfl) hwl rfl (h:= ?_);intro W3 hr2 hc2;have bS:=ae (ag (ah aq.o _) hc2 aq.o.size);clear hr2 hc2))
   have jE:=ae (bw.o.trans bS.o)
   have ap:=ae (ap.o.keeps jE.o)
   have aA:=ae (aA.o.trans jE.o)
   go_wp2_with (refine wpList_store_row rfl 25 (.tmp 2) (.tmp 16) rfl _ 0 rfl Zr (bA.map (Value.int .u8)) rfl ap.o (by rw[du];rfl) bF (ai _) ?_;intro W8 hr2 hc2;have HN:=ae hr2;have HC:=ae hc2;clear hr2 hc2)
   exact bodyPost_ret (al (p:=2) (t:=3) (ty:=25) rfl _ _ (p+1) 0 _ _ _ rfl rfl HN.o Tryz.underlying25 rfl bF) rfl ⟨rfl,ag aA.o HC.o (by omega)⟩
theorem zx(l:List Int)(hb:Bytes l)(hl:l.length=32)(w:World):
 Calls Tryz.prog 37 #[.agg (l.map (Value.int .u8)).toArray] w fun e w' =>e= .returned (.tuple #[.agg ((li (be l)).map (Value.int .u8)).toArray,.bool (ey (be l))])∧Keeps w w':=by
 have U5:=ae (fun(v:Value) W hr=>jK v l W hr hb hl)
 have hwl:=am (be l)
 have hx:=gp hb hl
 have HKEY:=ae (sy (be l) hx)
 by_cases hkey:ey (be l)=true
 · have h1:=BA hkey
   have hk2:(be l).toNat<2^256:=by have :=h1.2;have :=GR;have :=JH;omega
   have HG:=ae Ho
   have Hp:=ae (fun W=>tn (be l).toNat gJ hk2 ku W)
   have hnw:ax (be l)=dz (be l).toNat:=by unfold dz;rw[Int.toNat_of_nonneg (by omega)]
   rw[←hnw]at Hp
   have xr:=ae (fun W=>vE (cu (be l).toNat gJ 256) (nh _ 256) W)
   have hpl:=tu (be l).toNat
   rw[JW hk2]at xr
   have e1:li (be l)=xq (be l).toNat:=by unfold li;rw[if_pos hkey]
   rw[e1,hkey]
   rw[hkey]at HKEY
   generalize xq (be l).toNat=PB at *
   generalize nk (cu (be l).toNat gJ 256)=TM at *
   generalize nk gJ=GJ at *
   generalize ax (be l)=X at *
   clear e1 hkey h1 hnw hx hk2
   go_enter Tryz.func37,Tryz.ntmps37
   go_upto_region 1 with(fail)
   refine bu (fun W hk hr hr2 hs=> ?_)
   obtain⟨p,hp⟩:∃p,p=w.heap.size:=⟨_,rfl⟩
   rw[←hp]at hr hr2 hs⊢
   have hkp:w.heap.size≤p:=by omega
   obtain⟨Zr,du,hrz⟩:∃Zr:List Value,Zr.length=33∧Row W (p+1) 0 Zr:=⟨_,rfl,hr2⟩
   have HR:=ae (show Row W p 0 (l.map (Value.int .u8))from hr);have aA:=ae hk;have ap:=ae hrz
   have AA:p<W.heap.size:=by omega
   clear hp hk hr hr2 hrz hs
   go_upto_region 2 with(first |(go_at_call 33;refine(U5.o _ _ (Rd.bQ HR.o (by simp[hl]) AA (by omega) (by unfold maxLen;omega))).mono ?_;rintro e W2 ⟨rfl,hk2⟩;have aq:=ae hk2;clear hk2)|(refine ws (g:=W2.heap.size) (olds:=cD) (Row.new _ _ _ rfl) hwl rfl (h:= ?_);intro W3 hr2 hc2;have bB:=ae hr2;have bS:=ae (ag (ah aq.o _) hc2 aq.o.size);clear hr2 hc2))
   generalize W2.heap.size=q at *
   go_upto_region 4 with(first |(refine wl bB.o hwl (h:= ?_))|(go_at_call 32;refine(HKEY.o _).mono ?_;rintro e W4 ⟨rfl,hk2⟩;have gR:=ae hk2;clear hk2))
   have bB:=ae (bB.o.keeps gR.o)
   have jE:=ae (bS.o.trans gR.o)
   have ap:=ae (ap.o.keeps jE.o)
   have aA:=ae (aA.o.trans jE.o)
   refine au 4 [] [0,1,2,3] (fun _=>[]) (by kernel_rfl) (by kernel_rfl) (by intro i hi;cases hi) ?_
   refine kl (fun wS hS=>(bB.o.keeps hS)) hwl (h:= ?_)
   refine kc (hc:=by exact fun wS hS=>HG.o wS) (h:= ?_)
   refine kc (hc:=by exact fun wS hS=>Hp.o wS) (h:= ?_)
   refine kc (hc:=by exact fun wS hS=>xr.o wS) (h:= ?_)
   refine aI ?_
   intro GG V4 hk1 hG
   clear hG
   simp only[aZ,br,ct,kD,kG,kP,Option.bind_some]
   have ap:=ae (ap.o.keeps hk1)
   have aA:=ae (aA.o.trans hk1)
   clear hk1
   go_wp2_with (refine ws ap.o hpl (by rw[du]) (h:= ?_);intro W8 hr2 hc2;have HN:=ae hr2;have HC:=ae hc2;clear hr2 hc2)
   exact bodyPost_ret (al (p:=2) (t:=3) (ty:=25) rfl _ _ (p+1) 0 _ _ _ rfl rfl HN.o Tryz.underlying25 rfl (by rw[aF,hpl];exact bF)) rfl ⟨rfl,ag aA.o HC.o (by omega)⟩
 · have hkey':ey (be l)=false:=by simpa using hkey
   have e1:li (be l)=bA:=by unfold li;rw[if_neg hkey]
   rw[e1,hkey']
   rw[hkey']at HKEY
   generalize ax (be l)=X at *
   clear e1 hkey hkey' hx
   go_enter Tryz.func37,Tryz.ntmps37
   go_upto_region 1 with(fail)
   refine bu (fun W hk hr hr2 hs=> ?_)
   obtain⟨p,hp⟩:∃p,p=w.heap.size:=⟨_,rfl⟩
   rw[←hp]at hr hr2 hs⊢
   have hkp:w.heap.size≤p:=by omega
   obtain⟨Zr,du,hrz⟩:∃Zr:List Value,Zr.length=33∧Row W (p+1) 0 Zr:=⟨_,rfl,hr2⟩
   have HR:=ae (show Row W p 0 (l.map (Value.int .u8))from hr);have aA:=ae hk;have ap:=ae hrz
   have AA:p<W.heap.size:=by omega
   clear hp hk hr hr2 hrz hs
   go_upto_region 2 with(first |(go_at_call 33;refine(U5.o _ _ (Rd.bQ HR.o (by simp[hl]) AA (by omega) (by unfold maxLen;omega))).mono ?_;rintro e W2 ⟨rfl,hk2⟩;have aq:=ae hk2;clear hk2)|(refine ws (g:=W2.heap.size) (olds:=cD) (Row.new _ _ _ rfl) hwl rfl (h:= ?_);intro W3 hr2 hc2;have bB:=ae hr2;have bS:=ae (ag (ah aq.o _) hc2 aq.o.size);clear hr2 hc2))
   generalize W2.heap.size=q at *
   go_upto_region 3 with(first |(refine wl bB.o hwl (h:= ?_))|(go_at_call 32;refine(HKEY.o _).mono ?_;rintro e W4 ⟨rfl,hk2⟩;have gR:=ae hk2;clear hk2))
   have jE:=ae (bS.o.trans gR.o)
   have ap:=ae (ap.o.keeps jE.o)
   have aA:=ae (aA.o.trans jE.o)
   go_wp2_with (refine wpList_store_row rfl 25 (.tmp 2) (.tmp 10) rfl _ 0 rfl Zr (bA.map (Value.int .u8)) rfl ap.o (by rw[du];rfl) bF (ai _) ?_;intro W8 hr2 hc2;have HN:=ae hr2;have HC:=ae hc2;clear hr2 hc2)
   exact bodyPost_ret (al (p:=2) (t:=3) (ty:=25) rfl _ _ (p+1) 0 _ _ _ rfl rfl HN.o Tryz.underlying25 rfl bF) rfl ⟨rfl,ag aA.o HC.o (by omega)⟩
theorem vG(x y:Nat):Bytes (Hl x y):=fun z hz=>by
 unfold Hl at hz
 rcases List.mem_cons.1 hz with rfl|hz
 · have :y%2<2:=Nat.mod_lt _ (by decide)
   exact⟨by omega,by omega⟩
 ·exact uQ _ _ z hz
def rJ:List Int:=List.replicate 32 0
end Go.Proofs.YtlofddoojkeakaaGreatDoor
namespace Go.Proofs.YtlofddoojkeakaaGreatDoor
open Go Go.RowKit
end Go.Proofs.YtlofddoojkeakaaGreatDoor
namespace Go.Proofs.YtlofddoojkeakaaGreatDoor
open Go Go.RowKit Go.ChangeShapes Go.WideShapes Go.ChangeAt
theorem own:ownKnob Tryz.prog.godebug=none:=by kernel_rfl
theorem laidOut:laidOutB Tryz.prog=true:=by kernel_rfl
theorem MH{k:IntKind}{W:World}{a:Addr}{len cap:Nat}{zs:List Int}{p:List MemPlace}(hl:len≤cap)(hm:cap≤maxLen)(hz:zs.length=cap)(hcell:∀i,i<zs.length→W.cell? (a.add i)=some (.int k (zs.getD i 0)))
 (hfz:W.noneFrozen p) (hp:∀x∈MemPlace.row a zs.length,x∈p):Rd W 1 (.slice (some a) len cap) len ((zs.take len).map (Value.int k)):=by
 refine⟨by simp;omega,some a,cap,rfl,hl,hm,fun e=>(by cases e),fun ad e hn=> ?_⟩
 cases e
 obtain⟨b,off,spot⟩:=a
 have hspot:spot=none:=by simpa[Addr.add]using World.cell?_spot (hcell 0 (by omega))
 subst hspot
 have hadd:∀i,(⟨b,off,none⟩:Addr).add i=⟨b,off+i,none⟩:=fun i=>by unfold Addr.add;split<;>simp_all
 have hb:b<W.heap.size:=by
  have :=hcell 0 (by omega)
  rw[hadd]at this
  exact World.block_lt_of_cell? W _ this
 refine⟨b,off,rfl,hb,fun j v hv=> ?_⟩
 have hj:j<len:=by
  have :=(List.getElem?_eq_some_iff.1 hv).1
  simp at this;omega
 have hc:=hcell j (by omega)
 rw[hadd]at hc
 refine⟨?_,hfz b (off+j) (hp _ (MemPlace.mem_row.2 ⟨j,by omega,rfl⟩))⟩
 rw[hc]
 have hj2:j<zs.length:=by omega
 simp[hj,hj2]at hv
 rw[←hv]
 simp[List.getD,hj2]
theorem MI(W:World)(k:IntKind):Rd W 1 (.slice none 0 0) 0 (([]:List Int).map (Value.int k)):=
 ⟨by simp,none,0,rfl,Nat.le_refl _,Nat.zero_le _,fun _=>⟨rfl,rfl⟩,fun ad e _=>(by cases e)⟩
end Go.Proofs.YtlofddoojkeakaaGreatDoor
namespace Go.Proofs.YtlofddoojkeakaaGreatDoor
open Go Go.RowKit Go.ChangeShapes Go.WideShapes Go.ChangeAt Go.WideMaps Go.ChangeMaps
theorem BD(x:Int):Bytes (li x):=by
 unfold li
 split
 ·exact vG _ _
 ·intro y hy
  rw[(List.mem_replicate.1 (show y∈List.replicate 33 0 from hy)).2]
  exact⟨by omega,by omega⟩
end Go.Proofs.YtlofddoojkeakaaGreatDoor
namespace Go.Proofs.YtlofddoojkeakaaGreatDoor
open Go Go.RowKit Cv
def ce:List Int:=List.replicate 32 0
def eL(x t:Int):List Int×Int:=if ey x=true∧t<NV then(if(x+t)%NV=0 then(ce,7)else(toB 32 ((x+t)%NV),0))else(ce,1)
theorem iw(x t:Int):(eL x t).1.length=32:=by
 unfold eL
 split
 · split
   · rfl
   ·exact fr _ _
 · rfl
theorem gb:Bytes ce:=fun y hy=>by
 rw[(List.mem_replicate.1 (show y∈List.replicate 32 0 from hy)).2]
 exact⟨by omega,by omega⟩
theorem zy(x t:Int):Bytes (eL x t).1:=by
 unfold eL
 split
 · split
   ·exact gb
   ·exact uQ _ _
 ·exact gb
theorem ry(x t:Int):(ey x=false∧eL x t=(ce,1))∨(ey x=true∧¬t<NV∧eL x t=(ce,1))∨(ey x=true∧t<NV∧(x+t)%NV=0∧eL x t=(ce,7))∨(ey x=true∧t<NV∧¬(x+t)%NV=0∧eL x t=(toB 32 ((x+t)%NV),0)):=by
 unfold eL
 by_cases h1:ey x=true
 · by_cases h2:t<NV
   · by_cases h3:(x+t)%NV=0
     ·exact .inr (.inr (.inl ⟨h1,h2,h3,by rw[if_pos ⟨h1,h2⟩,if_pos h3]⟩))
     ·exact .inr (.inr (.inr ⟨h1,h2,h3,by rw[if_pos ⟨h1,h2⟩,if_neg h3]⟩))
   ·exact .inr (.inl ⟨h1,h2,by rw[if_neg (fun h=>h2 h.2)]⟩)
 ·exact .inl ⟨by simpa using h1,by rw[if_neg (fun h=>h1 h.1)]⟩
theorem zz(K B X T S BS RES:List Int)(kb lt z:Bool)(er:Int)(lK:K.length=32)(lB:B.length=32)(lX:X.length=4)(lT:T.length=4)(lS:S.length=4)(lR:RES.length=32)(w:World)
 (Hq:∀g W,Row W g 0 cW→Calls Tryz.prog 46 #[.pointer (some ⟨g,0,none⟩),.agg (K.map (Value.int .u8)).toArray] W fun e w' =>e= .returned (.tuple #[.agg (X.map (Value.int .u64)).toArray,.bool kb])∧Keeps W w')
 (Hr:∀v W,Rd W 1 v 32 (B.map (Value.int .u8))→Calls Tryz.prog 47 #[v] W fun e w' =>e= .returned (.agg (T.map (Value.int .u64)).toArray)∧Keeps W w')
 (hBel:∀g W,Row W g 0 cW→Calls Tryz.prog 48 #[.pointer (some ⟨g,7,none⟩),.agg (T.map (Value.int .u64)).toArray] W fun e w' =>e= .returned (.bool lt)∧Keeps W w')
 (hcase:(kb=false∧RES=ce∧er=1)∨(kb=true∧lt=false∧RES=ce∧er=1)∨(kb=true∧lt=true∧
  (∀g W,Row W g 0 cW→Calls Tryz.prog 49 #[.pointer (some ⟨g,7,none⟩),.agg (X.map (Value.int .u64)).toArray,.agg (T.map (Value.int .u64)).toArray] W fun e w' =>e= .returned (.agg (S.map (Value.int .u64)).toArray)∧Keeps W w')∧
  (∀W,Calls Tryz.prog 50 #[.agg (S.map (Value.int .u64)).toArray] W fun e w' =>e= .returned (.bool z)∧Keeps W w')∧
  ((z=true∧RES=ce∧er=7)∨(z=false∧RES=BS∧er=0∧∀W,Calls Tryz.prog 51 #[.agg (S.map (Value.int .u64)).toArray] W fun e w' =>e= .returned (.agg (BS.map (Value.int .u8)).toArray)∧Keeps W w')))):
 Calls Tryz.prog 23 #[.agg (K.map (Value.int .u8)).toArray,.agg (B.map (Value.int .u8)).toArray] w fun e w' =>e= .returned (.tuple #[.agg (RES.map (Value.int .u8)).toArray,.int .i64 er])∧Keeps w w':=by
 have HKEY:=ae Hq;have DB:=ae Hr;have JX:=ae hBel;have iI:=ae hcase;have FH:=ae ko
 clear Hq Hr hBel hcase
 go_enter Tryz.func23,Tryz.ntmps23
 go_upto_region 1 with(fail)
 refine cU (fun W hk hra hrb hrc hs=> ?_)
 obtain⟨p,hp⟩:∃p,p=w.heap.size:=⟨_,rfl⟩
 rw[←hp]at hra hrb hrc hs⊢
 have hkp:w.heap.size≤p:=by omega
 obtain⟨Zr,du,hrz⟩:∃Zr:List Value,Zr.length=32∧Row W (p+1+1) 0 Zr:=⟨_,rfl,hrc⟩
 have Ej:=ae (show Row W p 0 (K.map (Value.int .u8))from hra);have bH:=ae (show Row W (p+1) 0 (B.map (Value.int .u8))from hrb);have aA:=ae hk;have ap:=ae hrz
 have AA:p+1<W.heap.size:=by omega
 clear hp hk hra hrb hrc hrz hs
 go_upto_region 2 with(go_at_call 45;refine(FH.o _).mono ?_;rintro e W1 ⟨g,rfl,hk1,hgg,hrow⟩;have bw:=ae hk1;have bY:=ae hrow;clear hk1 hrow)
 have Ej:=ae (Ej.o.keeps bw.o)
 go_upto_region 3 with(first |((with_reducible refine aQ 24 (.tmp 2) ?_);refine wl Ej.o lK (h:= ?_))|(go_at_call 46;refine(HKEY.o g _ bY.o).mono ?_;rintro e W2 ⟨rfl,hk2⟩;have aq:=ae hk2;clear hk2)|((with_reducible refine aY 95 (.tmp 7) (.tmp 16) ?_);refine ws (g:=W2.heap.size) (olds:=aL) (Row.new _ _ _ rfl) lX rfl (h:= ?_);intro W3 hr2 hc2;have bB:=ae hr2;have bS:=ae (ag (ah aq.o _) hc2 aq.o.size);clear hr2 hc2))
 generalize W2.heap.size=q at *
 have bY:=ae (bY.o.keeps bS.o)
 have jE:=ae (bw.o.trans bS.o)
 have ap:=ae (ap.o.keeps jE.o);have bH:=ae (bH.o.keeps jE.o)
 have aA:=ae (aA.o.trans jE.o)
 have MJ:p+1<W3.heap.size:=Nat.lt_of_lt_of_le AA jE.o.size
 clear jE bS aq bw
 go_upto_region 4 with(first |(go_at_call 47;refine(DB.o _ _ (Rd.bQ bH.o (by simp[lB]) MJ (by omega) (by unfold maxLen;omega))).mono ?_;rintro e W4 ⟨rfl,hk2⟩;have gR:=ae hk2;clear hk2)|((with_reducible refine aY 95 (.tmp 9) (.tmp 19) ?_);refine ws (g:=W4.heap.size) (olds:=aL) (Row.new _ _ _ rfl) lT rfl (h:= ?_);intro W5 hr2 hc2;have cV:=ae hr2;have cG:=ae (ag (ah gR.o _) hc2 gR.o.size);clear hr2 hc2))
 generalize W4.heap.size=r at *
 have bY:=ae (bY.o.keeps cG.o)
 have ap:=ae (ap.o.keeps cG.o);have bB:=ae (bB.o.keeps cG.o)
 have aA:=ae (aA.o.trans cG.o)
 clear cG gR bH Ej
 rcases iI.o with⟨rfl,rfl,rfl⟩|⟨rfl,rfl,rfl,rfl⟩|⟨rfl,rfl,hAdd,zA,hc2⟩
 ·refine au 9 [] [0,1,2,3,4,5,6,7,8] (fun _=>[]) (by kernel_rfl) (by kernel_rfl) (by intro i hi;cases hi) ?_
  iterate 3 refine kp (h:= ?_)
  refine ks (h:= ?_)
  refine ks (h:= ?_)
  refine ks (h:= ?_)
  refine ks (h:= ?_)
  refine ks (h:= ?_)
  refine ks (h:= ?_)
  refine aI ?_
  intro GG V4 hk1 hG
  clear hG
  simp only[aZ,br,ct,kD,kG,kP,Option.bind_some]
  have ap:=ae (ap.o.keeps hk1)
  have aA:=ae (aA.o.trans hk1)
  clear hk1
  go_wp2_with ((with_reducible refine aY 24 (.tmp 4) (.tmp 30) ?_);refine wpList_store_row rfl 24 (.tmp 4) (.tmp 30) rfl _ 0 rfl Zr (ce.map (Value.int .u8)) rfl ap.o (by rw[du];rfl) bo (ai _) ?_;intro W8 hr2 hc2;have HN:=ae hr2;have HC:=ae hc2;clear hr2 hc2)
  exact bodyPost_ret (al (p:=4) (t:=5) (ty:=24) rfl _ _ (p+1+1) 0 _ _ _ rfl rfl HN.o Tryz.underlying24 rfl bo) rfl ⟨rfl,ag aA.o HC.o (by omega)⟩
 ·refine au 9 [] [0,1,2,3,4,5,6,7,8] (fun _=>[]) (by kernel_rfl) (by kernel_rfl) (by intro i hi;cases hi) ?_
  iterate 6 refine kp (h:= ?_)
  refine kl (fun wS hS=>(cV.o.keeps hS)) lT (h:= ?_)
  refine kc (hc:=by exact fun wS hS=>JX.o g wS (bY.o.keeps hS)) (h:= ?_)
  refine kp (h:= ?_)
  refine aI ?_
  intro GG V4 hk1 hG
  clear hG
  simp only[aZ,br,ct,kD,kG,kP,Option.bind_some]
  have ap:=ae (ap.o.keeps hk1)
  have aA:=ae (aA.o.trans hk1)
  clear hk1
  go_wp2_with ((with_reducible refine aY 24 (.tmp 4) (.tmp 30) ?_);refine wpList_store_row rfl 24 (.tmp 4) (.tmp 30) rfl _ 0 rfl Zr (ce.map (Value.int .u8)) rfl ap.o (by rw[du];rfl) bo (ai _) ?_;intro W8 hr2 hc2;have HN:=ae hr2;have HC:=ae hc2;clear hr2 hc2)
  exact bodyPost_ret (al (p:=4) (t:=5) (ty:=24) rfl _ _ (p+1+1) 0 _ _ _ rfl rfl HN.o Tryz.underlying24 rfl bo) rfl ⟨rfl,ag aA.o HC.o (by omega)⟩
 · have Dy:=ae hAdd;have My:=ae zA;have HC2:=ae hc2
   clear hAdd zA hc2 iI
   refine au 9 [] [0,1,2,3,4,5,6,7,8] (fun _=>[]) (by kernel_rfl) (by kernel_rfl) (by intro i hi;cases hi) ?_
   iterate 6 refine kp (h:= ?_)
   refine kl (fun wS hS=>(cV.o.keeps hS)) lT (h:= ?_)
   refine kc (hc:=by exact fun wS hS=>JX.o g wS (bY.o.keeps hS)) (h:= ?_)
   refine kp (h:= ?_)
   refine aI ?_
   intro GG V4 hk1 hG
   clear hG
   simp only[aZ,br,ct,kD,kG,kP,Option.bind_some]
   have ap:=ae (ap.o.keeps hk1);have bY:=ae (bY.o.keeps hk1);have bB:=ae (bB.o.keeps hk1);have cV:=ae (cV.o.keeps hk1)
   have aA:=ae (aA.o.trans hk1)
   clear hk1
   go_upto_region 6 with(fail)
   refine au 7 [6] [0,1,2,3,4,5] (fun _=>aL) (by kernel_rfl) (by kernel_rfl) (by intro i hi;simp only[List.mem_cons,List.not_mem_nil,or_false]at hi;(first |(rcases hi with rfl|rfl)|subst hi)<;>exact⟨_,rfl,cq rfl rfl⟩) ?_
   iterate 3 refine kp (h:= ?_)
   refine kl (fun wS hS=>(bB.o.keeps hS)) lX (h:= ?_)
   refine kl (fun wS hS=>(cV.o.keeps hS)) lT (h:= ?_)
   refine kc (hc:=by exact fun wS hS=>Dy.o g wS (bY.o.keeps hS)) (h:= ?_)
   refine aI ?_
   intro GG V5 hk1 hG
   obtain⟨ha6,vC,hd6⟩:=hG 6 (by simp)
   clear hd6
   simp only[aZ,br,ct,kD,kG,kP,Option.bind_some]
   generalize GG 6=g3 at *
   clear hG
   have Ea:=ae vC
   have aH:=ae hk1;clear hk1 vC
   go_upto_region 7 with((with_reducible refine aY 95 (.tmp 10) (.tmp 36) ?_);refine ws (g:=_) (olds:=aL) Ea.o lS rfl (h:= ?_);intro W6 hr2 hc2;have gQ:=ae hr2;have iY:=ae (ag aH.o hc2 ha6);clear hr2 hc2)
   have ap:=ae (ap.o.keeps iY.o)
   have aA:=ae (aA.o.trans iY.o)
   rcases HC2.o with⟨rfl,rfl,rfl⟩|⟨rfl,rfl,rfl,Hs⟩
   · go_wp2_with (first |((with_reducible refine aQ 95 (.tmp 10) ?_);refine wl gQ.o lS (h:= ?_))|(go_at_call 50;refine(My.o _).mono ?_;rintro e W7 ⟨rfl,hk1⟩;have i8:=ae hk1;clear hk1)|((with_reducible refine aY 24 (.tmp 4) (.tmp 39) ?_);refine wpList_store_row rfl 24 (.tmp 4) (.tmp 39) rfl _ 0 rfl Zr (ce.map (Value.int .u8)) rfl (ap.o.keeps i8.o) (by rw[du];rfl) bo (ai _) ?_;intro W8 hr2 hc2;have HN:=ae hr2;have HC:=ae hc2;clear hr2 hc2))
     exact bodyPost_ret (al (p:=4) (t:=5) (ty:=24) rfl _ _ (p+1+1) 0 _ _ _ rfl rfl HN.o Tryz.underlying24 rfl bo) rfl ⟨rfl,ag (aA.o.trans i8.o) HC.o (by omega)⟩
   · have MK:=ae Hs
     clear Hs HC2
     go_upto_region 9 with(first |((with_reducible refine aQ 95 (.tmp 10) ?_);refine wl gQ.o lS (h:= ?_))|(go_at_call 50;refine(My.o _).mono ?_;rintro e W7 ⟨rfl,hk1⟩;have i8:=ae hk1;clear hk1))
     have ap:=ae (ap.o.keeps i8.o);have gQ:=ae (gQ.o.keeps i8.o)
     have aA:=ae (aA.o.trans i8.o)
     go_wp2_with (first |((with_reducible refine aQ 95 (.tmp 10) ?_);refine wl gQ.o lS (h:= ?_))|(go_at_call 51;refine(MK.o _).mono ?_;rintro e W8 ⟨rfl,hk1⟩;have jM:=ae hk1;clear hk1)|((with_reducible refine aY 24 (.tmp 4) (.tmp 41) ?_);refine ws (ap.o.keeps jM.o) lR (by rw[du]) (h:= ?_);intro W9 hr2 hc2;have HN:=ae hr2;have HC:=ae hc2;clear hr2 hc2))
     exact bodyPost_ret (al (p:=4) (t:=5) (ty:=24) rfl _ _ (p+1+1) 0 _ _ _ rfl rfl HN.o Tryz.underlying24 rfl (by rw[aF,lR];exact bo)) rfl ⟨rfl,ag (aA.o.trans jM.o) HC.o (by omega)⟩
theorem ou(K B:List Int)(hK:Bytes K)(hB:Bytes B)(lK:K.length=32)(lB:B.length=32)(w:World):
 Calls Tryz.prog 23 #[.agg (K.map (Value.int .u8)).toArray,.agg (B.map (Value.int .u8)).toArray] w fun e w' =>e= .returned (.tuple #[.agg ((eL (be K) (be B)).1.map (Value.int .u8)).toArray,.int .i64 (eL (be K) (be B)).2])∧Keeps w w':=by
 have hx:=gp hK lK
 have ht:=gp hB lB
 have hn:0<NV:=by decide
 refine zz K B (words (be K)) (words (be B)) (words ((be K+be B)%NV)) (toB 32 ((be K+be B)%NV)) _ (ey (be K)) (decide (be B<NV)) (decide ((be K+be B)%NV=0)) _ lK lB (ak _) (ak _) (ak _) (iw _ _) w
  (fun g W hr=>sA g K hK lK W hr) (fun v W hr=>gH v B W hr hB lB) (fun g W hr=>jc g 7 NV (be B) ff ht W (km hr)) ?_
 have hA:ey (be K)=true→be B<NV→∀g W,Row W g 0 cW→Calls Tryz.prog 49 #[.pointer (some ⟨g,7,none⟩),.agg ((words (be K)).map (Value.int .u64)).toArray,.agg ((words (be B)).map (Value.int .u64)).toArray] W fun e w' =>e= .returned (.agg ((words ((be K+be B)%NV)).map (Value.int .u64)).toArray)∧Keeps W w':=fun h1 h2 g W hr=>
  add_any g 7 NV (be K) (be B) ff ⟨hx.1,(BA h1).2⟩ ⟨ht.1,h2⟩ W (km hr)
 have hU:cg ((be K+be B)%NV):=⟨Int.emod_nonneg _ (by omega),Int.lt_trans (Int.emod_lt_of_pos _ hn) ff.2⟩
 rcases ry (be K) (be B)with⟨h1,h2⟩|⟨h1,h2,h3⟩|⟨h1,h2,h3,h4⟩|⟨h1,h2,h3,h4⟩
 ·exact .inl ⟨h1,by rw[h2],by rw[h2]⟩
 ·exact .inr (.inl ⟨h1,decide_eq_false h2,by rw[h3],by rw[h3]⟩)
 ·exact .inr (.inr ⟨h1,decide_eq_true h2,hA h1 h2,fun W=>fd _ hU W,.inl ⟨decide_eq_true h3,by rw[h4],by rw[h4]⟩⟩)
 ·exact .inr (.inr ⟨h1,decide_eq_true h2,hA h1 h2,fun W=>fd _ hU W,.inr ⟨decide_eq_false h3,by rw[h4],by rw[h4],fun W=>sQ _ W⟩⟩)
def La:Array Value:= #[.int .u32 0,.int .u32 0,.int .u32 0,.int .u32 0,.int .u32 0,.int .u32 0,.int .u32 0,.int .u32 0]
theorem Ht:((ax 0).map (Value.int .u32)).toArray=La:=by simp[La,ax,List.range_succ]
theorem xt(K B X T NN S BS RES:List Int)(kb lt z:Bool)(er:Int)(lK:K.length=32)(lB:B.length=32)(lX:X.length=8)(lT:T.length=8)(lS:S.length=8)(lR:RES.length=32)(w:World)
 (PL:∀v W,Rd W 1 v 32 (K.map (Value.int .u8))→Calls Tryz.prog 33 #[v] W fun e w' =>e= .returned (.agg (X.map (Value.int .u32)).toArray)∧Keeps W w')
 (PN:∀v W,Rd W 1 v 32 (B.map (Value.int .u8))→Calls Tryz.prog 33 #[v] W fun e w' =>e= .returned (.agg (T.map (Value.int .u32)).toArray)∧Keeps W w')
 (Hq:∀W,Calls Tryz.prog 32 #[.agg (X.map (Value.int .u32)).toArray] W fun e w' =>e= .returned (.bool kb)∧Keeps W w')
 (hN:∀W,Calls Tryz.prog 62 #[] W fun e w' =>e= .returned (.agg (NN.map (Value.int .u32)).toArray)∧Keeps W w')
 (PO:∀W,Calls Tryz.prog 61 #[.agg (T.map (Value.int .u32)).toArray,.agg (NN.map (Value.int .u32)).toArray] W fun e w' =>e= .returned (.bool lt)∧Keeps W w')
 (hcase:(kb=false∧RES=ce∧er=1)∨(kb=true∧lt=false∧RES=ce∧er=1)∨(kb=true∧lt=true∧
  (∀W,Calls Tryz.prog 63 #[.agg (X.map (Value.int .u32)).toArray,.agg (T.map (Value.int .u32)).toArray,.agg (NN.map (Value.int .u32)).toArray] W fun e w' =>e= .returned (.agg (S.map (Value.int .u32)).toArray)∧Keeps W w')∧
  (∀W,(Op.equalIn 10000 67 (.agg (S.map (Value.int .u32)).toArray) (.agg La)).run Tryz.prog W= .ok z W)∧
  ((z=true∧RES=ce∧er=7)∨(z=false∧RES=BS∧er=0∧∀W,Calls Tryz.prog 64 #[.agg (S.map (Value.int .u32)).toArray] W fun e w' =>e= .returned (.agg (BS.map (Value.int .u8)).toArray)∧Keeps W w')))):
 Calls Tryz.prog 29 #[.agg (K.map (Value.int .u8)).toArray,.agg (B.map (Value.int .u8)).toArray] w fun e w' =>e= .returned (.tuple #[.agg (RES.map (Value.int .u8)).toArray,.int .i64 er])∧Keeps w w':=by
 have lL:=ae PL;have Ti:=ae PN;have HKEY:=ae Hq;have PP:=ae hN;have p7:=ae PO;have iI:=ae hcase
 clear PL PN Hq hN PO hcase
 go_enter Tryz.func29,Tryz.ntmps29
 go_upto_region 1 with(fail)
 refine cU (fun W hk hra hrb hrc hs=> ?_)
 obtain⟨p,hp⟩:∃p,p=w.heap.size:=⟨_,rfl⟩
 rw[←hp]at hra hrb hrc hs⊢
 have hkp:w.heap.size≤p:=by omega
 obtain⟨Zr,du,hrz⟩:∃Zr:List Value,Zr.length=32∧Row W (p+1+1) 0 Zr:=⟨_,rfl,hrc⟩
 have Ej:=ae (show Row W p 0 (K.map (Value.int .u8))from hra);have bH:=ae (show Row W (p+1) 0 (B.map (Value.int .u8))from hrb);have aA:=ae hk;have ap:=ae hrz
 have AA:p+1<W.heap.size:=by omega
 clear hp hk hra hrb hrc hrz hs
 go_upto_region 2 with(first |(go_at_call 33;refine(lL.o _ _ (Rd.bQ Ej.o (by simp[lK]) (by omega) (by omega) (by unfold maxLen;omega))).mono ?_;rintro e W2 ⟨rfl,hk2⟩;have aq:=ae hk2;clear hk2)|(refine ws (g:=W2.heap.size) (olds:=cD) (Row.new _ _ _ rfl) lX rfl (h:= ?_);intro W3 hr2 hc2;have bB:=ae hr2;have bS:=ae (ag (ah aq.o _) hc2 aq.o.size);clear hr2 hc2))
 generalize W2.heap.size=q at *
 have ap:=ae (ap.o.keeps bS.o);have bH:=ae (bH.o.keeps bS.o)
 have aA:=ae (aA.o.trans bS.o)
 have MJ:p+1<W3.heap.size:=Nat.lt_of_lt_of_le AA bS.o.size
 clear bS aq
 go_upto_region 3 with(first |(go_at_call 33;refine(Ti.o _ _ (Rd.bQ bH.o (by simp[lB]) MJ (by omega) (by unfold maxLen;omega))).mono ?_;rintro e W4 ⟨rfl,hk2⟩;have gR:=ae hk2;clear hk2)|(refine ws (g:=W4.heap.size) (olds:=cD) (Row.new _ _ _ rfl) lT rfl (h:= ?_);intro W5 hr2 hc2;have cV:=ae hr2;have cG:=ae (ag (ah gR.o _) hc2 gR.o.size);clear hr2 hc2))
 generalize W4.heap.size=r at *
 have ap:=ae (ap.o.keeps cG.o);have bB:=ae (bB.o.keeps cG.o)
 have aA:=ae (aA.o.trans cG.o)
 clear cG gR bH Ej
 rcases iI.o with⟨rfl,rfl,rfl⟩|⟨rfl,rfl,rfl,rfl⟩|⟨rfl,rfl,hAdd,zA,hc2⟩
 ·refine au 8 [] [0,1,2,3,4,5,6,7] (fun _=>[]) (by kernel_rfl) (by kernel_rfl) (by intro i hi;cases hi) ?_
  refine kl (fun wS hS=>(bB.o.keeps hS)) lX (h:= ?_)
  refine kc (hc:=by exact fun wS hS=>HKEY.o wS) (h:= ?_)
  iterate 2 refine kp (h:= ?_)
  refine ks (h:= ?_)
  refine ks (h:= ?_)
  refine ks (h:= ?_)
  refine ks (h:= ?_)
  refine aI ?_
  intro GG V4 hk1 hG
  clear hG
  simp only[aZ,br,ct,kD,kG,kP,Option.bind_some]
  have ap:=ae (ap.o.keeps hk1)
  have aA:=ae (aA.o.trans hk1)
  clear hk1
  go_wp2_with (refine wpList_store_row rfl 24 (.tmp 4) (.tmp 22) rfl _ 0 rfl Zr (ce.map (Value.int .u8)) rfl ap.o (by rw[du];rfl) bo (ai _) ?_;intro W8 hr2 hc2;have HN:=ae hr2;have HC:=ae hc2;clear hr2 hc2)
  exact bodyPost_ret (al (p:=4) (t:=5) (ty:=24) rfl _ _ (p+1+1) 0 _ _ _ rfl rfl HN.o Tryz.underlying24 rfl bo) rfl ⟨rfl,ag aA.o HC.o (by omega)⟩
 ·refine au 8 [] [0,1,2,3,4,5,6,7] (fun _=>[]) (by kernel_rfl) (by kernel_rfl) (by intro i hi;cases hi) ?_
  refine kl (fun wS hS=>(bB.o.keeps hS)) lX (h:= ?_)
  refine kc (hc:=by exact fun wS hS=>HKEY.o wS) (h:= ?_)
  iterate 2 refine kp (h:= ?_)
  refine kl (fun wS hS=>(cV.o.keeps hS)) lT (h:= ?_)
  refine kc (hc:=by exact fun wS hS=>PP.o wS) (h:= ?_)
  refine kc (hc:=by exact fun wS hS=>p7.o wS) (h:= ?_)
  refine kp (h:= ?_)
  refine aI ?_
  intro GG V4 hk1 hG
  clear hG
  simp only[aZ,br,ct,kD,kG,kP,Option.bind_some]
  have ap:=ae (ap.o.keeps hk1)
  have aA:=ae (aA.o.trans hk1)
  clear hk1
  go_wp2_with (refine wpList_store_row rfl 24 (.tmp 4) (.tmp 22) rfl _ 0 rfl Zr (ce.map (Value.int .u8)) rfl ap.o (by rw[du];rfl) bo (ai _) ?_;intro W8 hr2 hc2;have HN:=ae hr2;have HC:=ae hc2;clear hr2 hc2)
  exact bodyPost_ret (al (p:=4) (t:=5) (ty:=24) rfl _ _ (p+1+1) 0 _ _ _ rfl rfl HN.o Tryz.underlying24 rfl bo) rfl ⟨rfl,ag aA.o HC.o (by omega)⟩
 · have Dy:=ae hAdd;have My:=ae zA;have HC2:=ae hc2
   clear hAdd zA hc2 iI
   refine au 8 [] [0,1,2,3,4,5,6,7] (fun _=>[]) (by kernel_rfl) (by kernel_rfl) (by intro i hi;cases hi) ?_
   refine kl (fun wS hS=>(bB.o.keeps hS)) lX (h:= ?_)
   refine kc (hc:=by exact fun wS hS=>HKEY.o wS) (h:= ?_)
   iterate 2 refine kp (h:= ?_)
   refine kl (fun wS hS=>(cV.o.keeps hS)) lT (h:= ?_)
   refine kc (hc:=by exact fun wS hS=>PP.o wS) (h:= ?_)
   refine kc (hc:=by exact fun wS hS=>p7.o wS) (h:= ?_)
   refine kp (h:= ?_)
   refine aI ?_
   intro GG V4 hk1 hG
   clear hG
   simp only[aZ,br,ct,kD,kG,kP,Option.bind_some]
   have ap:=ae (ap.o.keeps hk1);have bB:=ae (bB.o.keeps hk1);have cV:=ae (cV.o.keeps hk1)
   have aA:=ae (aA.o.trans hk1)
   clear hk1
   go_upto_region 5 with(fail)
   refine au 5 [4] [0,1,2,3] (fun _=>cD) (by kernel_rfl) (by kernel_rfl) (by intro i hi;simp only[List.mem_cons,List.not_mem_nil,or_false]at hi;(first |(rcases hi with rfl|rfl)|subst hi)<;>exact⟨_,rfl,gB rfl rfl⟩) ?_
   refine kl (fun wS hS=>(bB.o.keeps hS)) lX (h:= ?_)
   refine kl (fun wS hS=>(cV.o.keeps hS)) lT (h:= ?_)
   refine kc (hc:=by exact fun wS hS=>PP.o wS) (h:= ?_)
   refine kc (hc:=by exact fun wS hS=>Dy.o wS) (h:= ?_)
   refine aI ?_
   intro GG V5 hk1 hG
   obtain⟨ha6,vC,hd6⟩:=hG 4 (by simp)
   clear hd6
   simp only[aZ,br,ct,kD,kG,kP,Option.bind_some]
   generalize GG 4=g3 at *
   clear hG
   have Ea:=ae vC
   have aH:=ae hk1;clear hk1 vC
   go_upto_region 6 with(refine ws (g:=_) (olds:=cD) Ea.o lS rfl (h:= ?_);intro W6 hr2 hc2;have gQ:=ae hr2;have iY:=ae (ag aH.o hc2 ha6);clear hr2 hc2)
   have ap:=ae (ap.o.keeps iY.o)
   have aA:=ae (aA.o.trans iY.o)
   rcases HC2.o with⟨rfl,rfl,rfl⟩|⟨rfl,rfl,rfl,Hs⟩
   · go_wp2_with (first |(refine wl gQ.o lS (h:= ?_))|((with_reducible refine iE .eql 67 67 (.tmp 27) (.tmp 28) ?_);refine kW (by kernel_rfl) 67 67 (.tmp 27) (.tmp 28) rfl _ La rfl rfl true My.o (by kernel_rfl) ?_)|(refine wpList_store_row rfl 24 (.tmp 4) (.tmp 30) rfl _ 0 rfl Zr (ce.map (Value.int .u8)) rfl ap.o (by rw[du];rfl) bo (ai _) ?_;intro W8 hr2 hc2;have HN:=ae hr2;have HC:=ae hc2;clear hr2 hc2))
     exact bodyPost_ret (al (p:=4) (t:=5) (ty:=24) rfl _ _ (p+1+1) 0 _ _ _ rfl rfl HN.o Tryz.underlying24 rfl bo) rfl ⟨rfl,ag aA.o HC.o (by omega)⟩
   · have MK:=ae Hs
     clear Hs HC2
     go_wp2_with (first |(refine wl gQ.o lS (h:= ?_))|((with_reducible refine iE .eql 67 67 (.tmp 27) (.tmp 28) ?_);refine kW (by kernel_rfl) 67 67 (.tmp 27) (.tmp 28) rfl _ La rfl rfl false My.o (by kernel_rfl) ?_)|(go_at_call 64;refine(MK.o _).mono ?_;rintro e W8 ⟨rfl,hk1⟩;have jM:=ae hk1;clear hk1)|(refine ws (ap.o.keeps jM.o) lR (by rw[du]) (h:= ?_);intro W9 hr2 hc2;have HN:=ae hr2;have HC:=ae hc2;clear hr2 hc2))
     exact bodyPost_ret (al (p:=4) (t:=5) (ty:=24) rfl _ _ (p+1+1) 0 _ _ _ rfl rfl HN.o Tryz.underlying24 rfl (by rw[aF,lR];exact bo)) rfl ⟨rfl,ag (aA.o.trans jM.o) HC.o (by omega)⟩
theorem zB(K B:List Int)(hK:Bytes K)(hB:Bytes B)(lK:K.length=32)(lB:B.length=32)(w:World):
 Calls Tryz.prog 29 #[.agg (K.map (Value.int .u8)).toArray,.agg (B.map (Value.int .u8)).toArray] w fun e w' =>e= .returned (.tuple #[.agg ((eL (be K) (be B)).1.map (Value.int .u8)).toArray,.int .i64 (eL (be K) (be B)).2])∧Keeps w w':=by
 have hx:=gp hK lK
 have ht:=gp hB lB
 have hn:0<NV:=by decide
 have hU:cg ((be K+be B)%NV):=⟨Int.emod_nonneg _ (by omega),Int.lt_trans (Int.emod_lt_of_pos _ hn) ff.2⟩
 have hE:=kY ((be K+be B)%NV) 0 hU ⟨by omega,by decide⟩
 rw[Ht]at hE
 refine xt K B (ax (be K)) (ax (be B)) (ax NV) (ax ((be K+be B)%NV)) (toB 32 ((be K+be B)%NV)) _ (ey (be K)) (decide (be B<NV)) (decide ((be K+be B)%NV=0)) _ lK lB (am _) (am _) (am _) (iw _ _) w
  (fun v W hr=>jK v K W hr hK lK) (fun v W hr=>jK v B W hr hB lB) (fun W=>sy _ hx W) (fun W=>sx W) (fun W=>fy _ _ ht ff W) ?_
 have hA:=fun W=>yz NV (be K) (be B) Lu hx ht W
 rcases ry (be K) (be B)with⟨h1,h2⟩|⟨h1,h2,h3⟩|⟨h1,h2,h3,h4⟩|⟨h1,h2,h3,h4⟩
 ·exact .inl ⟨h1,by rw[h2],by rw[h2]⟩
 ·exact .inr (.inl ⟨h1,decide_eq_false h2,by rw[h3],by rw[h3]⟩)
 ·exact .inr (.inr ⟨h1,decide_eq_true h2,hA,hE,.inl ⟨decide_eq_true h3,by rw[h4],by rw[h4]⟩⟩)
 ·exact .inr (.inr ⟨h1,decide_eq_true h2,hA,hE,.inr ⟨decide_eq_false h3,by rw[h4],by rw[h4],fun W=>tp _ W⟩⟩)
end Go.Proofs.YtlofddoojkeakaaGreatDoor
