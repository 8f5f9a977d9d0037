/- curve's group on numbers: lift and the base. -/
import Derived.Test.YtlofddoojkeakaaGreatDoorGC1
import Derived.Test.YtlofddoojkeakaaGreatDoorGA2
import Derived.Test.YtlofddoojkeakaaGreatDoorGC0
import Derived.Test.YtlofddoojkeakaaGreatDoorGB0
set_option maxRecDepth 100000
set_option maxHeartbeats 8000000
set_option linter.unusedVariables false
set_option linter.unusedSimpArgs false
namespace Go.Proofs.YtlofddoojkeakaaGreatDoor
open Go Go.RowKit Cv
def kC(x o:Nat):List Int:=match iF x o with
 |some y=>iU ⟨x,y,1⟩
 |none=>List.replicate 12 0
theorem Eb(x o:Nat):(kC x o).length=12:=by unfold kC;split<;>rfl
theorem Hc(y:Nat):(nw y).getD 0 0%2=((y%2:Nat):Int):=by
 have :(nw y).getD 0 0=(y:Int)%18446744073709551616:=rfl
 rw[this];omega
theorem Hd(g:Nat)(y:Nat)(hy:y<bn)(w:World)(hr:Row w g 0 cW):
 Calls Tryz.prog 123 #[.pointer (some ⟨g,0,none⟩),.agg ((nw y).map (Value.int .u64)).toArray] w fun e w' =>e= .returned (.agg ((nw ((bn -y)%bn)).map (Value.int .u64)).toArray)∧Keeps w w':=by
 have :=Cr g 0 PV y oV (dx hy) w (mx hr)
 have e:(if(y:Int)=0 then 0 else PV -(y:Int))=(((bn -y)%bn:Nat):Int):=by
  rw[nQ]
  split
  · rename_i h
    have :y=0:=by omega
    subst this
    rw[Nat.sub_zero,Nat.mod_self];rfl
  ·rw[Nat.mod_eq_of_lt (by omega)];omega
 rwa[e]at this
theorem He(g:Nat)(x e:Nat)(hx:x<bn)(he:e<2^256)(w:World)(hr:Row w g 0 cW):
 Calls Tryz.prog 121 #[.pointer (some ⟨g,0,none⟩),.agg ((nw x).map (Value.int .u64)).toArray,.agg ((nw e).map (Value.int .u64)).toArray] w fun e' w' =>e' = .returned (.agg ((nw (e7 x e)).map (Value.int .u64)).toArray)∧Keeps w w':=by
 have :=pow_any g 0 bn _ tg x e (Nat.lt_trans hx (by decide)) he w (Mt hr)
 rwa[←ni he]at this
theorem oq:Tryz.prog.built 95 [(0,.int .u64 1)]=some ((nw 1).map (Value.int .u64)).toArray:=DL
theorem mK:Tryz.prog.built 95 [(0,.int .u64 7)]=some ((nw 7).map (Value.int .u64)).toArray:=by kernel_rfl
theorem zn(g:Nat)(x o:Nat)(hx:x<bn)(w:World)(hr:Row w g 0 cW):
 Calls Tryz.prog 91 #[.pointer (some ⟨g,0,none⟩),.agg ((nw x).map (Value.int .u64)).toArray,.int .u64 (o:Int)] w fun e w' =>e= .returned (.tuple #[.agg ((kC x o).map (Value.int .u64)).toArray,.bool (iF x o).isSome])∧Keeps w w':=by
 have hS:ig x<bn:=eb _ _
 have hY:e7 (ig x) ld<bn:=pn _ _ q_lt
 have h1:=fun W hk=>aX g x x hx hx W (hr.keeps (w':=W) hk)
 have h2:=fun W hk=>aX g (fm x x) x (bI _ _) hx W (hr.keeps (w':=W) hk)
 have h3:∀W,Keeps w W→Calls Tryz.prog 49 #[.pointer (some ⟨g,0,none⟩),.agg ((nw (fm (fm x x) x)).map (Value.int .u64)).toArray,.agg ((nw 7).map (Value.int .u64)).toArray] W fun e w' =>e= .returned (.agg ((nw (ig x)).map (Value.int .u64)).toArray)∧Keeps W w':=fun W hk=>eI g _ 7 (bI _ _) (by decide) W (hr.keeps hk)
 have h4:=uS PV 1
 have h5:=yD (PV+1) ⟨by decide,by decide⟩
 have h6:=yD ((PV+1)/2) ⟨by decide,by decide⟩
 rw[show(PV+1)/2/2=((ld:Nat):Int) by decide]at h6
 have h7:=fun W hk=>He g (ig x) ld hS q_lt W (hr.keeps (w':=W) hk)
 have h8:=fun W hk=>aX g _ _ hY hY W (hr.keeps (w':=W) hk)
 have hE:=uR ((fm (e7 (ig x) ld) (e7 (ig x) ld):Nat):Int) ((ig x:Nat):Int) (dx (bI _ _)) (dx hS)
 have Fk:Row w g 0 ((words PV).map (Value.int .u64)):=mx hr
 have hdec:decide (((fm (e7 (ig x) ld) (e7 (ig x) ld):Nat):Int)=((ig x:Nat):Int))=decide (fm (e7 (ig x) ld) (e7 (ig x) ld)=ig x):=by
  by_cases e:fm (e7 (ig x) ld) (e7 (ig x) ld)=ig x
  ·rw[e];simp
  ·rw[decide_eq_false e,decide_eq_false (fun h=>e (by exact_mod_cast h))]
 rw[hdec]at hE
 have ga:iF x o=if fm (e7 (ig x) ld) (e7 (ig x) ld)=ig x then some (if e7 (ig x) ld%2=o then e7 (ig x) ld else(bn -e7 (ig x) ld)%bn)else none:=rfl
 have K8:=fun W hk=>Hd g _ hY W (hr.keeps (w':=W) hk)
 have hpar:=Hc (e7 (ig x) ld)
 generalize e7 (ig x) ld=y at *
 by_cases Ja:fm y y=ig x
 ·rw[if_pos Ja]at ga
  rw[decide_eq_true Ja]at hE
  by_cases hp:y%2=o
  ·rw[if_pos hp]at ga
   have hc:kC x o=iU ⟨x,y,1⟩:=by unfold kC;rw[ga]
   rw[hc,ga]
   exact zk g (nw x) (nw (fm x x)) (nw (fm (fm x x) x)) (nw (ig x)) (nw 7) (words PV) _ _ _ (nw y) (nw (fm y y)) (nw 1) (o:Int) (iU ⟨x,y,1⟩) rfl rfl (cY _ 0 (by decide)) (by rw[hpar,hp]) rfl rfl rfl rfl rfl rfl w Fk mK oq h1 h2 h3 _ h4 h5 h6 h7 h8 hE
  ·rw[if_neg hp]at ga
   have hc:kC x o=iU ⟨x,(bn -y)%bn,1⟩:=by unfold kC;rw[ga]
   rw[hc,ga]
   exact zm g (nw x) (nw (fm x x)) (nw (fm (fm x x) x)) (nw (ig x)) (nw 7) (words PV) _ _ _ (nw y) (nw (fm y y)) (nw 1) (o:Int) (nw ((bn -y)%bn)) (iU ⟨x,(bn -y)%bn,1⟩) rfl rfl rfl (cY _ 0 (by decide)) (by rw[hpar];intro e;exact hp (by exact_mod_cast e)) rfl rfl rfl rfl rfl rfl w Fk mK oq h1 h2 h3 _ h4 h5 h6 h7 h8 hE K8
 ·rw[if_neg Ja]at ga
  rw[decide_eq_false Ja]at hE
  have hc:kC x o=List.replicate 12 0:=by unfold kC;rw[ga]
  rw[hc,ga]
  exact zi g (nw x) (nw (fm x x)) (nw (fm (fm x x) x)) (nw (ig x)) (nw 7) (words PV) _ _ _ (nw y) (nw (fm y y)) (nw 1) (o:Int) rfl rfl rfl rfl rfl rfl w Fk mK oq h1 h2 h3 _ h4 h5 h6 h7 h8 hE
theorem Hf:Tryz.prog.built 95 [(0,.int .u64 6481385041966929816),(1,.int .u64 188021827762530521),(2,.int .u64 6170039885052185351),(3,.int .u64 8772561819708210092)]=some ((nw CP).map (Value.int .u64)).toArray:=by kernel_rfl
theorem Ec(gv:Value)(GX PT:List Int)(nF:PT.length=12)(w:World)(hB:Tryz.prog.built 95 [(0,.int .u64 6481385041966929816),(1,.int .u64 188021827762530521),(2,.int .u64 6170039885052185351),(3,.int .u64 8772561819708210092)]=some (GX.map (Value.int .u64)).toArray)
 (hL:∀W,Keeps w W→Calls Tryz.prog 91 #[gv,.agg (GX.map (Value.int .u64)).toArray,.int .u64 0] W fun e w' =>e= .returned (.tuple #[.agg (PT.map (Value.int .u64)).toArray,.bool true])∧Keeps W w'):
 Calls Tryz.prog 55 #[gv] w fun e w' =>e= .returned (.agg (PT.map (Value.int .u64)).toArray)∧Keeps w w':=by
 have HB:=ae hB;have HL:=ae hL;clear hB hL
 go_enter Tryz.func55,Tryz.ntmps55
 go_upto_region 1 with(fail)
 refine bh (fun W hk hra hs=> ?_)
 obtain⟨p,hp⟩:∃p,p=w.heap.size:=⟨_,rfl⟩
 rw[←hp]at hra hs⊢
 have hkp:w.heap.size≤p:=by omega
 obtain⟨Zr,du,hrz⟩:∃Zr:List Value,Zr.length=12∧Row W p 0 Zr:=⟨_,rfl,hra⟩
 have aA:=ae hk;have ap:=ae hrz
 clear hp hra hrz hk hs
 go_upto_region 2 with(first |(refine aW (by kernel_rfl) 95 _ rfl _ ?_ _ HB.o ?_;focus(simp only[List.map_toArray,List.map_cons,List.map_nil];rfl))|(go_at_call 91;refine(HL.o _ aA.o).mono ?_;rintro e V1 ⟨rfl,hk1⟩;have aH:=ae hk1;clear hk1)|(refine wpList_store_row rfl 107 (.tmp 3) (.tmp 9) rfl V1.heap.size 0 rfl ((List.replicate 12 (0:Int)).map (Value.int .u64)) (PT.map (Value.int .u64)) rfl (Row.new _ _ _ rfl) (by rw[aF,nF];rfl) (by rw[aF,nF];exact cI) (ai _) ?_;intro W2 hr2 hc2;have HN:=ae hr2;have aq:=ae (ag (ah aH.o _) hc2 aH.o.size);clear hr2 hc2))
 have ap:=ae (ap.o.keeps aq.o)
 have aA:=ae (aA.o.trans aq.o)
 go_wp2_with (first |(refine aj rfl 107 (.tmp 3) rfl _ 0 rfl (PT.map (Value.int .u64)) _ HN.o Tryz.underlying107 rfl (by rw[aF,nF];exact cI) ?_)|(refine wpList_store_row rfl 107 (.tmp 2) (.tmp 11) rfl _ 0 rfl Zr (PT.map (Value.int .u64)) rfl ap.o (by rw[aF,nF,du]) (by rw[aF,nF];exact cI) (ai _) ?_;intro W3 hr2 hc2;have Bt:=ae hr2;have HC:=ae hc2;clear hr2 hc2))
 exact bodyPost_ret (ar (p:=2) (ty:=107) rfl _ _ p 0 _ _ rfl Bt.o Tryz.underlying107 rfl (by rw[aF,nF];exact cI)) rfl ⟨rfl,ag aA.o HC.o (by omega)⟩
theorem zo(g:Nat)(w:World)(hr:Row w g 0 cW):
 Calls Tryz.prog 55 #[.pointer (some ⟨g,0,none⟩)] w fun e w' =>e= .returned (.agg ((iU gJ).map (Value.int .u64)).toArray)∧Keeps w w':=
 Ec _ (nw CP) (iU gJ) rfl w Hf (fun W hk=>by
  have :=zn g CP 0 (by decide) W (hr.keeps hk)
  have hc:kC CP 0=iU gJ:=by unfold kC;rw[sX];rfl
  rw[hc,sX]at this
  exact this)
end Go.Proofs.YtlofddoojkeakaaGreatDoor
namespace Go.Proofs.YtlofddoojkeakaaGreatDoor
open Go Go.RowKit
theorem JT{w:World}{ops:Array Oper}{rest:List Oper}{o:Oper}{a:Act}{Q:Exit→Act→World→Prop}(hgd:o.guard=none)(d s:Operand)
 (ho:o.op= .call {callee:= .builtin .copy,args:= #[d,s],argTypes:= #[44,44]}) (g i m c1:Nat) (hd:a.eval d= .slice (some ⟨g,i,none⟩) m c1) (sa:Option Addr) (n cap:Nat) (hs:a.eval s= .slice sa n cap) (hn:n≤m)
 (vs:List Value) (hg:Row w g 0 vs) (hl:i+n≤vs.length) (xs:List Value) (hr:Rd w 1 (.slice sa n cap) n xs) (h1:∀v∈xs,v.oneCell' =true)
 (h:∀w',Row w' g 0 (vs.take i++xs++vs.drop (i+n))→bU (· =g) w w'→wpList Tryz.prog ops Q rest (a.put o.dst (goInt n)) w'):wpList Tryz.prog ops Q (o::rest) a w:=by
 have hxl:xs.length=n:=by have :=hr.1;simpa using this
 have sz:(Tryz.prog.info? 5).map (·.size)=some 1:=by kernel_rfl
 obtain⟨_,a',cap',e,h2,h3,h4,h5⟩:=hr
 cases e
 by_cases h0:n=0
 ·subst h0
  have hx0:xs=[]:=List.eq_nil_of_length_eq_zero hxl
  subst hx0
  exact wpList_copy_nothing hgd d s _ _ ho 5 Tryz.underlying44 sz _ _ _ _ _ _ hd hs (by simp) (h _ (by simpa using hg) (bU.refl _ _))
 · cases sa with
   |none=>exact absurd (h4 rfl).1 h0
   |some ad=>
    obtain⟨g2,off2,rfl,_,hrow⟩:=h5 ad rfl (by omega)
    have hadd:∀j,(⟨g2,off2,none⟩:Addr).add j=⟨g2,off2+j,none⟩:=fun j=>by unfold Addr.add;split<;>simp_all
    have hsub:=(hg.drop i).take n
    have hsl:((vs.drop i).take n).length=n:=by simp;omega
    rw[Nat.zero_add]at hsub
    have hld:=run_loadCells_list (P:=Tryz.prog) w ⟨g2,off2,none⟩ xs (fun j v hv=>by rw[hadd];exact(hrow j v hv).1)
    have hst:=run_storeCells_cells (P:=Tryz.prog) g i xs 0 w (fun j hj=>by
     rw[Nat.add_zero]
     have :=hsub j ((vs.drop i).take n)[j] (List.getElem?_eq_getElem (by omega))
     rw[this.1];rfl) (fun j hj=>by
     rw[Nat.add_zero]
     exact(hsub j ((vs.drop i).take n)[j] (List.getElem?_eq_getElem (by omega))).2) h1
    simp only[Nat.add_zero]at hst
    refine wpList_plain hgd fun K hK=> ?_
    cases hq:Tryz.prog.info? 5 with
    |none=>simp[hq]at sz
    |some x=>
     have hx:x.size=1:=by simpa[hq]using sz
     have hmin:Nat.min n m=n:=Nat.min_eq_left hn
     have hrun:(Builtin.copy_ #[44,44] o.type #[.slice (some ⟨g,i,none⟩) m c1,.slice (some ⟨g2,off2,none⟩) n cap]).run Tryz.prog w= .ok (goInt n) (w.setCells g i xs):=by
      rw[hxl]at hld
      simp[Builtin.copy_,run_underlying Tryz.underlying44,Builtin.lenOf,Builtin.firstCells,sizeOf,typeInfo,hq,hx,hmin,hld,hst]
     unfold Oper.wp
     simp[execOp,ho,resolve,invoke,builtin,hd,hs,hrun,Result.andThen]
     have hrow2:=Row.setCells (w:=w) xs i hg (by omega)
     rw[Nat.zero_add,hxl]at hrow2
     exact hK _ _ (h _ hrow2 (dh _ _ _ _))
theorem Hg{P:Program}{ops:Array Oper}{l:List Oper}{Q:Exit→Act→World→Prop}{a:Act}{w:World}{A B:Array Value}{T U:TypeId}
 (h:∀W,Keeps w W→Row W w.heap.size 0 A.toList→Row W (w.heap.size+1) 0 B.toList→W.heap.size=w.heap.size+2→wpList P ops Q l a W):
 wpList P ops Q l a ((w.alloc (.cells A T)).alloc (.cells B U)):=by
 have h0:=Row.new (w:=w) A.toList A T (by simp)
 have h1:=Row.new (w:=w.alloc (.cells A T)) B.toList B U (by simp)
 simp only[World.size_alloc]at h1
 exact h _ (ah (ah (Keeps.refl w) _) _) (h0.alloc _) h1 (by simp)
end Go.Proofs.YtlofddoojkeakaaGreatDoor
namespace Go.Proofs.YtlofddoojkeakaaGreatDoor
open Go Go.RowKit Cv
theorem bF:(Tryz.prog.info? 25).map (·.size)=some 33:=by kernel_rfl
theorem Ed(gv:Value)(PT XL YL BX:List Int)(nF:PT.length=12)(CY:XL.length=4)(JU:YL.length=4)(Jf:BX.length=32)(hy0:0≤YL.getD 0 0∧YL.getD 0 0<18446744073709551616)(w:World)
 (hF:∀W,Keeps w W→Calls Tryz.prog 95 #[gv,.agg (PT.map (Value.int .u64)).toArray] W fun e w' =>e= .returned (.tuple #[.agg (XL.map (Value.int .u64)).toArray,.agg (YL.map (Value.int .u64)).toArray])∧Keeps W w')
 (hB:∀W,Calls Tryz.prog 51 #[.agg (XL.map (Value.int .u64)).toArray] W fun e w' =>e= .returned (.agg (BX.map (Value.int .u8)).toArray)∧Keeps W w'):
 Calls Tryz.prog 57 #[gv,.agg (PT.map (Value.int .u64)).toArray] w fun e w' =>e= .returned (.agg (((2+YL.getD 0 0%2)::BX).map (Value.int .u8)).toArray)∧Keeps w w':=by
 have HF:=ae hF;have HB:=ae hB;clear hF hB
 go_enter Tryz.func57,Tryz.ntmps57
 go_upto_region 2 with(fail)
 refine cU (fun W hk hra hrb hrc hs=> ?_)
 obtain⟨p,hp⟩:∃p,p=w.heap.size:=⟨_,rfl⟩
 rw[←hp]at hra hrb hrc hs⊢
 have hkp:w.heap.size≤p:=by omega
 obtain⟨Zr,du,hrz⟩:∃Zr:List Value,Zr.length=33∧Row W (p+1) 0 Zr:=⟨_,rfl,hrb⟩
 have bj:=ae (show Row W p 0 (PT.map (Value.int .u64))from hra)
 have xS:=ae (show Row W (p+1+1) 0 ((List.replicate 33 (0:Int)).map (Value.int .u8))from hrc)
 have aA:=ae hk;have ap:=ae hrz
 have hsz:p+1+1<W.heap.size:=by omega
 clear hp hra hrb hrc hrz hk hs
 go_upto_region 3 with(first |(refine aj rfl 107 (.tmp 3) rfl _ 0 rfl (PT.map (Value.int .u64)) _ bj.o Tryz.underlying107 rfl (by rw[aF,nF];exact cI) ?_)|(go_at_call 95;refine(HF.o _ aA.o).mono ?_;rintro e V1 ⟨rfl,hk1⟩;have aH:=ae hk1;clear hk1)|(refine Hg (fun Wa hka hr1 hr2 hs2=> ?_);have jE:=ae (aH.o.trans hka);have HZ1:=ae (show Row Wa V1.heap.size 0 aL from hr1);have HZ2:=ae (show Row Wa (V1.heap.size+1) 0 aL from hr2);clear hka hr1 hr2 hs2)|(refine wpList_store_row rfl 95 (.tmp 6) (.tmp 13) rfl _ 0 rfl aL (XL.map (Value.int .u64)) rfl HZ1.o (by rw[aF,CY];rfl) (by rw[aF,CY];exact aE) (ai _) ?_;intro W2 hr2 hc2;have eu:=ae hr2;have dT:=ae hc2;clear hr2 hc2)|(refine wpList_store_row rfl 95 (.tmp 7) (.tmp 14) rfl _ 0 rfl aL (YL.map (Value.int .u64)) rfl (HZ2.o.aG dT.o (by omega)) (by rw[aF,JU];rfl) (by rw[aF,JU];exact aE) (ai _) ?_;intro W3 hr2 hc2;have mH:=ae hr2;have HC2:=ae hc2;clear hr2 hc2))
 have hq:W.heap.size≤V1.heap.size:=aH.o.size
 have aq:=ae (ag (ag jE.o dT.o hq) HC2.o (by omega))
 have bB:=ae (eu.o.aG HC2.o (by omega))
 have cE:=mH
 have xS:=ae (xS.o.keeps aq.o)
 have ap:=ae (ap.o.keeps aq.o)
 have aA:=ae (aA.o.trans aq.o)
 have hlt2:V1.heap.size+1<W3.heap.size:=mH.o.lt (aM JU)
 generalize V1.heap.size=q at *
 go_upto_region 4 with(first |(refine aj rfl 95 (.tmp 6) rfl _ 0 rfl (XL.map (Value.int .u64)) _ bB.o Tryz.underlying95 rfl (by rw[aF,CY];exact aE) ?_)|(go_at_call 51;refine(HB.o _).mono ?_;rintro e V2 ⟨rfl,hk1⟩;have iT:=ae hk1;clear hk1)|(refine wpList_store_row rfl 24 (.tmp 8) (.tmp 16) rfl V2.heap.size 0 rfl ((List.replicate 32 (0:Int)).map (Value.int .u8)) (BX.map (Value.int .u8)) rfl (Row.new _ _ _ rfl) (by rw[aF,Jf];rfl) (by rw[aF,Jf];exact bo) (ai _) ?_;intro W4 hr2 hc2;have Bt:=ae hr2;have bS:=ae (ag (ah iT.o _) hc2 iT.o.size);clear hr2 hc2))
 have hq2:W3.heap.size≤V2.heap.size:=iT.o.size
 have hlt3:V2.heap.size<W4.heap.size:=Bt.o.lt (aM Jf)
 generalize V2.heap.size=r at *
 have cE:=ae (cE.o.keeps bS.o)
 have xS:=ae (xS.o.keeps bS.o)
 have ap:=ae (ap.o.keeps bS.o)
 have aA:=ae (aA.o.trans bS.o)
 have cy:=cE.o.aT 0 (by rw[JU];decide)
 have co:=xS.o.aT 0 (by simp)
 have fo:=xS.o.bR 0 (by simp)
 have hset:=xS.o.bl 0 (by simp) (2+YL.getD 0 0%2)
 have bx:=ae hset
 clear hset
 generalize Rz:YL.getD 0 0=y0 at *
 have WE:=ae Rz;clear Rz
 have hand:bits .and .u64 y0 1=y0%2:=eU hy0.1 hy0.2
 go_upto_region 5 with(fail)
 refine cf (fun W=>Keeps w W∧Row W (p+1+1) 0 (((2+y0%2)::List.replicate 32 (0:Int)).map (Value.int .u8))∧Row W (p+1) 0 Zr∧Row W r 0 (BX.map (Value.int .u8))∧r<W.heap.size) ⟨b9 aA.o (by omega) _,bx.o,ap.o.other (show p+1≠p+1+1 by omega) _,Bt.o.other (show r≠p+1+1 by omega) _,by simpa using hlt3⟩ ?_
 rintro W5 ⟨hk5,Hh,Hj,Hk,uG⟩
 have aA:=ae hk5;have xS:=ae Hh;have ap:=ae Hj;have bH:=ae Hk
 clear hk5 Hh Hj Hk bx cy co fo hand Bt bB
 have hcp:∀v:Int,((v::List.replicate 32 (0:Int)).map (Value.int .u8)).take 1++BX.map (Value.int .u8)++((v::List.replicate 32 (0:Int)).map (Value.int .u8)).drop 33=(v::BX).map (Value.int .u8):=fun v=>by
  rw[List.drop_eq_nil_of_le (by simp),List.append_nil];rfl
 have UV:=ae (hcp (2+y0%2))
 clear hcp
 generalize UW:2+y0%2=v0 at *
 have WG:=ae UW;clear UW
 have MC:(v0::BX).length=33:=by rw[List.length_cons,Jf]
 refine aB 2 (by kernel_rfl) (by kernel_rfl) ?_
 simp only[List.take_succ_cons,List.take_zero,List.drop_succ_cons,List.drop_zero]
 repeat(first |go_big_quiet_step (fail)|quiet_step (fail))
 refine wpQuiet_nil ?_
 intro _ hw'
 obtain⟨nq,hw''⟩:=hw'
 subst hw''
 refine JT rfl (.tmp 23) (.tmp 24) rfl (p+1+1) 1 32 32 rfl (some ⟨r,0,none⟩) 32 32 rfl (Nat.le_refl _) ((v0::List.replicate 32 (0:Int)).map (Value.int .u8)) (xS.o.drewN nq) (by simp) (BX.map (Value.int .u8)) (Rd.bQ (bH.o.drewN nq) (by simp[Jf]) (by show r<W5.heap.size;omega) (by omega) (by unfold maxLen;omega)) (ai _) (fun W6 eD hc6=> ?_)
 have eD:Row W6 (p+1+1) 0 (((v0::List.replicate 32 (0:Int)).map (Value.int .u8)).take 1++BX.map (Value.int .u8)++((v0::List.replicate 32 (0:Int)).map (Value.int .u8)).drop 33):=eD
 rw[UV.o]at eD
 have dM:=ae eD
 have ap:=ae ((ap.o.drewN nq).aG hc6 (by omega))
 have aA:=ae (ag (aA.o.trans (Qt.drewN W5 nq).keeps) hc6 (by omega))
 clear eD hc6 UV xS bH
 generalize Oj:v0::BX=PK at *
 have WH:=ae Oj;clear Oj
 go_wp2_with (first |(refine aj rfl 25 (.tmp 5) rfl _ 0 rfl (PK.map (Value.int .u8)) _ dM.o Tryz.underlying25 rfl (by rw[aF,MC];exact bF) ?_)|(refine wpList_store_row rfl 25 (.tmp 4) (.tmp 26) rfl _ 0 rfl Zr (PK.map (Value.int .u8)) rfl ap.o (by rw[aF,MC,du]) (by rw[aF,MC];exact bF) (ai _) ?_;intro W7 hr2 hc2;have HN:=ae hr2;have HC:=ae hc2;clear hr2 hc2))
 exact bodyPost_ret (ar (p:=4) (ty:=25) rfl _ _ (p+1) 0 _ _ rfl HN.o Tryz.underlying25 rfl (by rw[aF,MC];exact bF)) rfl ⟨by rw[WE.o,WG.o,WH.o],ag aA.o HC.o (by omega)⟩
def Hl(x y:Nat):List Int:=(2+((y%2:Nat):Int))::toB 32 (x:Int)
theorem zp(g:Nat)(a:J)(h:a.ok)(w:World)(hr:Row w g 0 cW):
 Calls Tryz.prog 57 #[.pointer (some ⟨g,0,none⟩),.agg ((iU a).map (Value.int .u64)).toArray] w fun e w' =>e= .returned (.agg ((Hl (gU a).1 (gU a).2).map (Value.int .u8)).toArray)∧Keeps w w':=by
 have :=Ed (.pointer (some ⟨g,0,none⟩)) (iU a) (nw (gU a).1) (nw (gU a).2) (toB 32 ((gU a).1:Int)) rfl rfl rfl (fr _ _) (cY _ 0 (by decide)) w (fun W hk=>G6 g a h W (hr.keeps hk)) (fun W=>sQ _ W)
 rw[Hc]at this
 exact this
theorem zq(v:Int)(i:Nat)(hi:i<32):(ax v).getD (7 -i/4) 0/2^(24 -8*(i%4))%256=(toB 32 v).getD i 0:=by
 rw[cr _ _ (by omega),yb _ _ _ hi]
 have e:32 -1 -i=4*(7 -i/4)+(3 -i%4):=by omega
 have e2:(4294967296:Int)^(7 -i/4)=256^(4*(7 -i/4)):=by rw[Int.pow_mul];rfl
 rw[e,e2,Int.pow_add,←Int.ediv_ediv_of_nonneg (Int.pow_nonneg (by decide))]
 generalize v/256^(4*(7 -i/4))=u
 have hr:i%4=0∨i%4=1∨i%4=2∨i%4=3:=by omega
 rcases hr with hr|hr|hr|hr<;>rw[hr]<;>simp only[Nat.mul_zero,Nat.sub_zero,Nat.sub_self,Int.pow_zero,Int.ediv_one,Nat.reduceMul,Nat.reduceSub,Int.reducePow]<;>omega
def MD(x:Int)(i:Nat):Int:=x/2^(24 -8*(i%4))%256
theorem xn(v:Int)(i:Nat)(hi:i<32):MD ((ax v).getD (7 -i/4) 0) i=(toB 32 v).getD i 0:=zq v i hi
theorem tp(v:Int)(w:World):
 Calls Tryz.prog 64 #[.agg ((ax v).map (Value.int .u32)).toArray] w fun e w' =>e= .returned (.agg ((toB 32 v).map (Value.int .u8)).toArray)∧Keeps w w':=by
 have htl:=fr 32 v
 have Jz:=ae (xn v)
 have R5:=ae (cS v)
 have hwl:=am v
 generalize ax v=L at *
 generalize toB 32 v=RR at *
 go_enter Tryz.func64,Tryz.ntmps64
 go_upto_region 2 with(fail)
 refine cU (fun W hk hra hr2 hr3 hs=> ?_)
 obtain⟨p,hp⟩:∃p,p=w.heap.size:=⟨_,rfl⟩
 rw[←hp]at hra hr2 hr3 hs⊢
 have hkp:w.heap.size≤p:=by omega
 obtain⟨Z,hZ,hrz⟩:∃Z:List Value,Z.length=32∧Row W (p+1) 0 Z:=⟨_,rfl,hr2⟩
 have bj:=ae (show Row W p 0 (L.map (Value.int .u32))from hra);have HR2:=ae hrz
 have HR3:=ae (show Row W (p+1+1) 0 ((gS RR 32 0).map (Value.int .u8)) by rw[nX];exact hr3)
 have HK:=ae hk
 clear hp hra hr2 hrz hr3 hk
 go_wp2
 go_loopw [4] (fun c wr=>∃i:Nat,i≤32∧c= .int .i64 i∧Keeps w wr∧Row wr p 0 (L.map (Value.int .u32))∧Row wr (p+1) 0 Z∧Row wr (p+1+1) 0 ((gS RR 32 i).map (Value.int .u8))) (fun c _=>(32 -intOf c).toNat)
 case atStart=>exact⟨0,by omega,rfl,HK.o,bj.o,HR2.o,HR3.o⟩
 case round=>
  obtain⟨i,hi,rfl,hk,hra,hr2,hr3⟩:=hrel
  by_cases hlt:i<32
  · have c2:=hra.aT (7 -i/4) (by omega)
    have c3:=hr3.aT i (by rw[eT _ _ _ htl hi];exact hlt)
    have f3:=hr3.bR i (by rw[aF,eT _ _ _ htl hi];exact hlt)
    have hs:=hr3.bl i (by rw[eT _ _ _ htl hi];exact hlt) (RR.getD i 0)
    rw[m8 _ _ _ htl hlt]at hs
    obtain⟨x0,x1⟩:=R5.o (7 -i/4) (by omega)
    have HB:=ae (Jz.o i hlt)
    generalize(gS RR 32 i).getD i 0=old at *
    generalize L.getD (7 -i/4) 0=x at *
    have HS:=ae hs;have H1:=ae hra;have H2:=ae hr2;have aq:=ae hk
    clear hs hra hr2 hr3 hk
    go_wp2
    go_roundw
    case rel=>exact⟨i+1,by omega,by go_num,b9 aq.o (by omega) _,H1.o.other (by simp;omega) _,H2.o.other (by simp) _,by rw[←HB.o]at HS;exact HS.o⟩
    case measure=>simp[intOf];omega
  ·obtain rfl:i=32:=by omega
   rw[nY _ _ htl]at hr3
   have H2:=ae hr2;have H3:=ae hr3;have aq:=ae hk
   clear hra hr2 hr3 hk
   go_wp2_with (first |((with_reducible refine aQ 24 (.tmp 3) ?_);refine aj rfl 24 (.tmp 3) rfl _ 0 rfl (RR.map (Value.int .u8)) _ H3.o Tryz.underlying24 rfl (by rw[aF,htl];exact bo) ?_)|((with_reducible refine aY 24 (.tmp 2) (.tmp 23) ?_);refine wpList_store_row rfl 24 (.tmp 2) (.tmp 23) rfl (p+1) 0 rfl Z (RR.map (Value.int .u8)) rfl H2.o (by rw[aF,htl,hZ]) (by rw[aF,htl];exact bo) (ai _) ?_;intro w9 aR aJ;have H9:=ae aR;have bK:=ae aJ;clear aR aJ))
   exact bodyPost_ret (v:= .agg (RR.map (Value.int .u8)).toArray) (ar (p:=2) (ty:=24) rfl _ _ (p+1) 0 _ _ rfl H9.o Tryz.underlying24 rfl (by rw[aF,htl];exact bo)) rfl ⟨rfl,ag aq.o bK.o (by omega)⟩
theorem Bu(PT XL YL BX:List Int)(nF:PT.length=24)(CY:XL.length=8)(JU:YL.length=8)(Jf:BX.length=32)(hy0:0≤YL.getD 0 0∧YL.getD 0 0<4294967296)(w:World)
 (hF:∀W,Calls Tryz.prog 105 #[.agg (PT.map (Value.int .u32)).toArray] W fun e w' =>e= .returned (.tuple #[.agg (XL.map (Value.int .u32)).toArray,.agg (YL.map (Value.int .u32)).toArray])∧Keeps W w')
 (hB:∀W,Calls Tryz.prog 64 #[.agg (XL.map (Value.int .u32)).toArray] W fun e w' =>e= .returned (.agg (BX.map (Value.int .u8)).toArray)∧Keeps W w'):
 Calls Tryz.prog 68 #[.agg (PT.map (Value.int .u32)).toArray] w fun e w' =>e= .returned (.agg (((2+YL.getD 0 0%2)::BX).map (Value.int .u8)).toArray)∧Keeps w w':=by
 have HF:=ae hF;have HB:=ae hB
 clear hF hB
 obtain⟨PK,Pz⟩:∃PK,PK=(2+YL.getD 0 0%2)::BX:=⟨_,rfl⟩
 rw[←Pz]
 have MC:PK.length=33:=by rw[Pz,List.length_cons,Jf]
 have NT:=ae (show PK.getD 0 0=2+YL.getD 0 0%2 by rw[Pz];rfl)
 have WI:=ae (fun i=>show PK.getD (i+1) 0=BX.getD i 0 by rw[Pz];rfl)
 have kX:=ae MC
 clear Pz MC
 go_enter Tryz.func68,Tryz.ntmps68
 go_upto_region 1 with(fail)
 refine bu (fun W hk hra hrb hs=> ?_)
 obtain⟨p,hp⟩:∃p,p=w.heap.size:=⟨_,rfl⟩
 rw[←hp]at hra hrb hs⊢
 have hkp:w.heap.size≤p:=by omega
 obtain⟨Zr,du,hrz⟩:∃Zr:List Value,Zr.length=33∧Row W (p+1) 0 Zr:=⟨_,rfl,hrb⟩
 have bj:=ae (show Row W p 0 (PT.map (Value.int .u32))from hra)
 have aA:=ae hk;have ap:=ae hrz
 have hsz:p+1<W.heap.size:=by omega
 clear hp hra hrb hrz hk hs
 go_upto_region 2 with(first |((with_reducible refine aQ 70 (.tmp 1) ?_);refine aj rfl 70 (.tmp 1) rfl _ 0 rfl (PT.map (Value.int .u32)) _ bj.o Tryz.underlying70 rfl (by rw[aF,nF];exact dn) ?_)|(go_at_call 105;refine(HF.o _).mono ?_;rintro e V1 ⟨rfl,hk1⟩;have aH:=ae hk1;clear hk1)|(refine Hg (fun Wa hka hr1 hr2 hs2=> ?_);have jE:=ae (aH.o.trans hka);have HZ1:=ae (show Row Wa V1.heap.size 0 cD from hr1);have HZ2:=ae (show Row Wa (V1.heap.size+1) 0 cD from hr2);clear hka hr1 hr2 hs2)|((with_reducible refine aY 67 (.tmp 3) (.tmp 11) ?_);refine wpList_store_row rfl 67 (.tmp 3) (.tmp 11) rfl _ 0 rfl cD (XL.map (Value.int .u32)) rfl HZ1.o (by rw[aF,CY];rfl) (by rw[aF,CY];exact bm) (ai _) ?_;intro W2 hr2 hc2;have eu:=ae hr2;have dT:=ae hc2;clear hr2 hc2)|((with_reducible refine aY 67 (.tmp 4) (.tmp 12) ?_);refine wpList_store_row rfl 67 (.tmp 4) (.tmp 12) rfl _ 0 rfl cD (YL.map (Value.int .u32)) rfl (HZ2.o.aG dT.o (by omega)) (by rw[aF,JU];rfl) (by rw[aF,JU];exact bm) (ai _) ?_;intro W3 hr2 hc2;have mH:=ae hr2;have HC2:=ae hc2;clear hr2 hc2))
 have hq:W.heap.size≤V1.heap.size:=aH.o.size
 have aq:=ae (ag (ag jE.o dT.o hq) HC2.o (by omega))
 have bB:=ae (eu.o.aG HC2.o (by omega))
 have cE:=mH
 have ap:=ae (ap.o.keeps aq.o)
 have aA:=ae (aA.o.trans aq.o)
 have hlt2:V1.heap.size+1<W3.heap.size:=mH.o.lt (aM JU)
 generalize V1.heap.size=q at *
 go_upto_region 3 with(first |((with_reducible refine aQ 67 (.tmp 3) ?_);refine aj rfl 67 (.tmp 3) rfl _ 0 rfl (XL.map (Value.int .u32)) _ bB.o Tryz.underlying67 rfl (by rw[aF,CY];exact bm) ?_)|(go_at_call 64;refine(HB.o _).mono ?_;rintro e V2 ⟨rfl,hk1⟩;have iT:=ae hk1;clear hk1)|((with_reducible refine aY 24 (.tmp 5) (.tmp 14) ?_);refine wpList_store_row rfl 24 (.tmp 5) (.tmp 14) rfl V2.heap.size 0 rfl ((List.replicate 32 (0:Int)).map (Value.int .u8)) (BX.map (Value.int .u8)) rfl (Row.new _ _ _ rfl) (by rw[aF,Jf];rfl) (by rw[aF,Jf];exact bo) (ai _) ?_;intro W4 hr2 hc2;have Bt:=ae hr2;have bS:=ae (ag (ah iT.o _) hc2 iT.o.size);clear hr2 hc2))
 have hq2:W3.heap.size≤V2.heap.size:=iT.o.size
 have hlt3:V2.heap.size<W4.heap.size:=Bt.o.lt (aM Jf)
 generalize V2.heap.size=r at *
 have cE:=ae (cE.o.keeps bS.o)
 have ap:=ae (ap.o.keeps bS.o)
 have aA:=ae (aA.o.trans bS.o)
 go_upto_region 4 with(fail)
 refine bh (fun W5 hk5 dG hs5=> ?_)
 have hs6:W4.heap.size=W4.heap.size:=rfl
 have cE:=ae (cE.o.keeps hk5)
 have ap:=ae (ap.o.keeps hk5)
 have bH:=ae (Bt.o.keeps hk5)
 have aA:=ae (aA.o.trans hk5)
 have xS:=ae (show Row W5 W4.heap.size 0 ((List.replicate 33 (0:Int)).map (Value.int .u8))from dG)
 clear hk5 dG hs5 hs6 Bt bB
 generalize W4.heap.size=n at *
 have cy:=cE.o.aT 0 (by rw[JU];decide)
 have co:=xS.o.aT 0 (by simp)
 have fo:=xS.o.bR 0 (by simp)
 have hset:=xS.o.bl 0 (by simp) (2+YL.getD 0 0%2)
 rw[←NT.o,←nX PK 33,m8 _ _ _ kX.o (by decide),NT.o]at hset
 have bx:=ae hset
 clear hset
 generalize Rz:YL.getD 0 0=y0 at *
 clear Rz
 have ht:y0.tmod 2=y0%2:=Int.tmod_eq_emod_of_nonneg hy0.1
 have hw1:IntKind.u32.wrap (2+y0%2)=2+y0%2:=by rw[IntKind.wrap_u32];omega
 have hw2:IntKind.u8.wrap (2+y0%2)=2+y0%2:=by rw[IntKind.wrap_u8];omega
 go_upto_region 5 with(fail)
 refine cf (fun W=>Keeps w W∧Row W n 0 ((gS PK 33 1).map (Value.int .u8))∧Row W (p+1) 0 Zr∧Row W r 0 (BX.map (Value.int .u8))) ⟨b9 aA.o (by omega) _,bx.o,ap.o.other (show p+1≠n by omega) _,bH.o.other (show r≠n by omega) _⟩ ?_
 rintro W6 ⟨hk5,Hh,Hj,Hk⟩
 have I9:=ae (show Keeps w W6∧Row W6 n 0 ((gS PK 33 (0+1)).map (Value.int .u8))∧Row W6 (p+1) 0 Zr∧Row W6 r 0 (BX.map (Value.int .u8))from⟨hk5,Hh,Hj,Hk⟩)
 clear hk5 Hh Hj Hk bx cy co fo cE ap bH aA xS ht hw1 hw2
 go_wp2
 go_loopw [7] (fun c wr=>∃i:Nat,i≤32∧c= .int .i64 i∧Hid (Keeps w wr∧Row wr n 0 ((gS PK 33 (i+1)).map (Value.int .u8))∧Row wr (p+1) 0 Zr∧Row wr r 0 (BX.map (Value.int .u8)))) (fun c _=>(32 -intOf c).toNat)
 case atStart=>exact⟨0,by omega,rfl,I9⟩
 case round=>
  obtain⟨i,hi,rfl,bV⟩:=hrel
  by_cases hlt:i<32
  · have iz:=eT PK 33 (i+1) kX.o (by omega)
    have c2:=bV.o.2.2.2.aT i (by omega)
    have c3:=bV.o.2.1.aT (i+1) (by omega)
    have f3:=bV.o.2.1.bR (i+1) (by rw[aF];omega)
    have hs:=bV.o.2.1.bl (i+1) (by omega) (PK.getD (i+1) 0)
    rw[m8 _ _ _ kX.o (by omega),WI.o]at hs
    have HS:=ae hs
    generalize(gS PK 33 (i+1)).getD (i+1) 0=old at *
    generalize BX.getD i 0=x at *
    clear hs iz
    go_wp2
    go_roundw
    case rel=>exact⟨i+1,by omega,by go_num,ae ⟨b9 bV.o.1 (by omega) _,HS.o,bV.o.2.2.1.other (show p+1≠n by omega) _,bV.o.2.2.2.other (show r≠n by omega) _⟩⟩
    case measure=>simp[intOf];omega
  ·obtain rfl:i=32:=by omega
   rw[show 32+1=33 from rfl,nY _ _ kX.o]at bV
   go_wp2_with (first |((with_reducible refine aQ 25 (.tmp 6) ?_);refine aj rfl 25 (.tmp 6) rfl _ 0 rfl (PK.map (Value.int .u8)) _ bV.o.2.1 Tryz.underlying25 rfl (by rw[aF,kX.o];exact bF) ?_)|((with_reducible refine aY 25 (.tmp 2) (.tmp 31) ?_);refine wpList_store_row rfl 25 (.tmp 2) (.tmp 31) rfl _ 0 rfl Zr (PK.map (Value.int .u8)) rfl bV.o.2.2.1 (by rw[aF,kX.o,du]) (by rw[aF,kX.o];exact bF) (ai _) ?_;intro W7 hr2 hc2;have HN:=ae hr2;have HC:=ae hc2;clear hr2 hc2))
   exact bodyPost_ret (ar (p:=2) (ty:=25) rfl _ _ (p+1) 0 _ _ rfl HN.o Tryz.underlying25 rfl (by rw[aF,kX.o];exact bF)) rfl ⟨rfl,ag bV.o.1 HC.o (by omega)⟩
theorem CZ(y:Nat):(dz y).getD 0 0%2=((y%2:Nat):Int):=by
 unfold dz
 rw[cr _ _ (by decide),Int.pow_zero,Int.ediv_one];omega
theorem vE(a:J)(h:a.ok)(w:World):
 Calls Tryz.prog 68 #[.agg ((nk a).map (Value.int .u32)).toArray] w fun e w' =>e= .returned (.agg ((Hl (kr a).1 (kr a).2).map (Value.int .u8)).toArray)∧Keeps w w':=by
 have :=Bu (nk a) (dz (kr a).1) (dz (kr a).2) (toB 32 ((kr a).1:Int)) (nr _) (cA _) (cA _) (fr _ _) (cS _ 0 (by decide)) w (fun W=>D9 a h W) (fun W=>tp _ W)
 rw[CZ]at this
 exact this
end Go.Proofs.YtlofddoojkeakaaGreatDoor
