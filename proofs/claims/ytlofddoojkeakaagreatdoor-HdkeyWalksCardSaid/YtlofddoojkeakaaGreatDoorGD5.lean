/- The reference's HMAC with SHA-512 (strongboxref02.Hmac512).. -/
import Derived.Test.YtlofddoojkeakaaGreatDoorGD4
import Derived.Test.YtlofddoojkeakaaGreatDoorGC6
import Derived.Lib.SlBytesConst
set_option maxRecDepth 100000
set_option maxHeartbeats 4000000
set_option linter.unusedVariables false
set_option linter.unusedSimpArgs false
namespace Go.Proofs.YtlofddoojkeakaaGreatDoor.pD
open Go Go.RowKit
def fO(l:List Int)(j:Nat):List Int:=l++List.replicate j 0
theorem B0(l:List Int)(j:Nat):fO l j++[0]=fO l (j+1):=by simp[fO,List.replicate_succ']
theorem vT(c:Int)(l:List Int)(i:Nat)(h:i<l.length):eN c (l.take i)++[bits .xor .u8 (l.getD i 0) c]=eN c (l.take (i+1)):=by
 rw[List.take_succ_eq_append_getElem h]
 simp only[eN,List.map_append,List.map_cons,List.map_nil,List.getD,List.getElem?_eq_getElem h,Option.getD_some]
def Two(W:World)(x v:Value):Prop:=Apart W x v∧Apart W v x
theorem Two.symm {W:World}{x v:Value}(h:Two W x v):Two W v x:=⟨h.2,h.1⟩
theorem Two.grown {w W W':World}{x v v':Value}{n:Nat}{l:List Int}(h:Two W x v)(hg:Grown W W' v v')(hb:Own w W' v' n l):Two W' x v':=by
 refine⟨h.1.grown hg,fun g e=>⟨hb.buf.lt e,fun e2=> ?_⟩⟩
 rcases hg.2 with e3|⟨g',e3,e4⟩
 ·rw[e3]at e;exact(h.2 g e).2 e2
 ·rw[e3]at e;cases e;have :=(h.1 _ e2).1;omega
theorem qB{w W W':World}{x v v':Value}{n m:Nat}{l r:List Int}(h:Own w W x n l)(ha:Apart W x v)(hg:Grown W W' v v')(hv:Own w W v m r):Own w W' x n l:=by
 refine⟨Below.trans h.keeps (hg.1.below h.keeps.size (fun k hk e=>by have :=hv.new k e;omega)),h.buf.aG hg.1 (fun g e e2=>(ha g e).2 e2),h.new⟩
theorem tI{w W1 W:World}{v:Value}{n:Nat}{l:List Int}(h:Own W1 W v n l)(hk:Keeps w W1):Own w W v n l:=
 ⟨hk.trans h.keeps,h.buf,fun g e=>Nat.le_trans hk.size (h.new g e)⟩
theorem IB(kv bv:Value)(kn n:Nat)(ks zs:List Int)(w:World)(hrk:Rd w 1 kv kn (ks.map (Value.int .u8)))(hbk:Bytes ks)(hkn:kn≤1000000)(hrb:Rd w 1 bv n (zs.map (Value.int .u8)))(hzb:Bytes zs)(hn:n≤1000000):
 Calls Tryz.prog 26 #[kv,bv] w fun e w' =>e= .returned (.agg ((qz ks zs).map (Value.int .u8)).toArray)∧Keeps w w':=by
 have hkl:ks.length=kn:=by have :=hrk.1;simpa using this
 have hzl:zs.length=n:=by have :=hrb.1;simpa using this
 have hkb:=oB hbk
 have hpl:=rE ks
 have hkl2:=mQ ks
 have Vi:oC ks=fO (hkey ks) (128 -(hkey ks).length):=rfl
 have hhm:qz ks zs=sha512 (eN 92 (oC ks)++sha512 (eN 54 (oC ks)++zs)):=rfl
 have Qc:kn≤128→hkey ks=ks:=fun h=>by unfold hkey;rw[if_pos (by omega)]
 have hkB:¬kn≤128→hkey ks=sha512 ks:=fun h=>by unfold hkey;rw[if_neg (by omega)]
 rw[hhm]
 obtain⟨ka,Qd,rfl⟩:∃a cap,kv= .slice a kn cap:=by obtain⟨_,a,cap,h,_⟩:=hrk;exact⟨a,cap,h⟩
 obtain⟨ba,TN,rfl⟩:∃a cap,bv= .slice a n cap:=by obtain⟨_,a,cap,h,_⟩:=hrb;exact⟨a,cap,h⟩
 have Ej:=ae hrk;have bH:=ae hrb;have B1:=ae hbk;have TP:=ae hzb;have kX:=ae hpl;have It:=ae hkl;have EB:=ae hkl2;have jE:=ae Qc;have HKB:=ae hkB;have Ib:=ae hzl;have Ji:=ae Vi
 have HSL:=ae (a7 ks)
 clear hrk hrb hbk hzb hkb hpl hhm hkl hkl2 Qc hkB hzl Vi
 generalize oC ks=hp at *
 generalize hkey ks=hk0 at *
 generalize hsk:sha512 ks=sk at *
 have Xh:=ae hsk
 clear hsk
 go_enter Tryz.func26,Tryz.ntmps26
 go_upto_region 1 with(fail)
 obtain⟨p4,up⟩:∃p,p=w.heap.size:=⟨_,rfl⟩
 have hk1:Keeps w (w.alloc (.cells (List.replicate 64 (Value.int .u8 0)).toArray 52)):=av (Keeps.refl w) _
 have hr1:Row (w.alloc (.cells (List.replicate 64 (Value.int .u8 0)).toArray 52)) p4 0 (List.replicate 64 (Value.int .u8 0)):=by rw[up];exact Row.new _ _ _ rfl
 rw[←up]
 have Il:=ae up
 clear up
 refine cf (fun W=>Keeps w W∧Row W p4 0 (List.replicate 64 (Value.int .u8 0))) ⟨hk1,hr1⟩ ?_
 clear hk1 hr1
 intro W1 ⟨hk1,hr1⟩
 have bw:=ae hk1;have HR1:=ae hr1
 clear hk1 hr1
 go_upto_region 2 with(refine aO rfl (.tmp 11) (.tmp 12) rfl (Own.made W1 5) (Keeps.refl _) rfl _ rfl kn ks (Rd.src ((Ej.o.keeps bw.o).keeps (Own.made W1 5).keeps) Tryz.underlying44 (ai ks)) (by omega) ?_;intro v2 W2 hO2 hG2;rw[Nat.zero_add,List.nil_append]at hO2;have Er:=ae hO2;clear hO2 hG2)
 have hcase:(kn:Int)≤128∨(128:Int)<kn:=by omega
 rcases hcase with hc|hc
 focus
  have e1:=jE.o (by omega)
  have HO:=ae (show Own W1 W2 v2 hk0.length (fO hk0 0) by rw[e1,It.o];simpa[fO]using Er.o)
  obtain⟨ca,cc,rfl⟩:=Er.o.any
  have Kb:=ae (show(kn:Nat)=hk0.length by rw[e1,It.o])
  clear e1 jE HKB Er
  go_upto_region 5 with(fail)
 rotate_left
 focus
  have e1:=HKB.o (by omega)
  have P3:=Er
  obtain⟨ca,cc,rfl⟩:=P3.o.any
  go_upto_region 5 with(first |(go_at_call 58;refine(oy _ kn ks _ Er.o.rd B1.o (by omega)).mono ?_;rintro e W3 ⟨rfl,hk3⟩;have bS:=ae hk3;clear hk3)|(refine wpList_store_row rfl 52 (.tmp 6) (.tmp 18) rfl W3.heap.size 0 rfl (List.replicate 64 (Value.int .u8 0)) ((sha512 ks).map (Value.int .u8)) rfl (Row.new _ _ _ rfl) (by rw[aF,a7];rfl) (by rw[aF,a7];exact zW) (ai _) ?_;intro W4 hr4 hc4;have HR4:=ae hr4;have ky:=ae hc4;clear hr4 hc4)|(refine aO rfl (.tmp 19) (.tmp 20) rfl (Own.made W4 5) (Keeps.refl _) rfl _ rfl 64 (sha512 ks) (Rd.src (Rd.bQ (HR4.o.keeps (Own.made W4 5).keeps) (by simp[a7]) (by have :=HR4.o.lt (by intro e;have :=congrArg List.length e;rw[aF,a7]at this;simp at this);have :=(Own.made W4 5).keeps.size;omega) (by omega) (by unfold maxLen;omega)) Tryz.underlying44 (ai _)) (by omega) ?_;intro v5 W5 Om Xi;rw[Nat.zero_add,List.nil_append]at Om;have TR:=ae Om;clear Om Xi))
  have Om:Own W1 W5 v5 hk0.length (fO hk0 0):=by
   have h:=tI TR.o (P3.o.keeps.trans (aD (av bS.o _) ky.o bS.o.size))
   rw[e1,HSL.o,←Xh.o];simpa[fO]using h
  have HO:=ae Om
  have Kb:=ae (show(64:Nat)=hk0.length by rw[e1,HSL.o])
  obtain⟨da,dc,rfl⟩:=TR.o.any
  clear e1 jE HKB Er P3 bS HR4 ky TR Om
 all_goals
  go_loopw [5] (fun c wr=>∃j:Nat,hk0.length+j≤128∧Own W1 wr c (hk0.length+j) (fO hk0 j)) (fun c _=>128 -Cq c)
  case atStart=>exact⟨0,by have :=EB.o;omega,by rw[Kb.o,Nat.add_zero];rw[←Kb.o];rw[←Kb.o]at HO;exact HO.o⟩
  case round=>
   obtain⟨j,hj,hO⟩:=hrel
   obtain⟨ea,ec,rfl⟩:=hO.any
   have HO:=ae hO
   clear hO
   by_cases hlt:hk0.length+j<128
   · go_wp2_with (refine eR rfl (.tmp 25) (.tmp 26) rfl HO.o rfl 1 _ _ rfl (by omega) ?_;clear HO;intro v1 w1 oJ hG1;rw[B0]at oJ;have HO:=ae oJ;clear oJ hG1)
     obtain⟨fa,fc,rfl⟩:=HO.o.any
     go_roundw
     case rel=>exact⟨j+1,by omega,HO.o⟩
     case measure=>simp[Cq];omega
   · have hjj:hk0.length+j=128:=by omega
     have hj2:j=128 -hk0.length:=by omega
     have hO:=HO.o
     rw[hj2,←Ji.o,←hj2,hjj]at hO
     rw[hjj]
     have dw:=ae hO
     clear hO HO hj2 hlt hj hjj
     obtain⟨wl,hwl⟩:∃wl,wl=wr:=⟨_,rfl⟩
     subst hwl
     obtain⟨g,off,rfl,hg,hrow⟩:∃g off,ea=some ⟨g,off,none⟩∧g<wl.heap.size∧Row wl g off (hp.map (Value.int .u8)):=by
      have hR:=dw.o.rd
      obtain⟨_,a',c',e,_,_,h4,h5⟩:=hR
      cases e
      cases ea with
      |none=>have :=(h4 rfl).1;omega
      |some ad=>obtain⟨g,off,e2,e3,e4⟩:=h5 ad rfl (by omega);exact⟨g,off,by rw[e2],e3,e4⟩
     have bY:=ae hrow
     clear hrow
     go_wp2
     go_loopw [7,8,9] (fun ci co cx wr=>∃i:Nat,i≤128∧cx= .int .i64 i∧Own wl wr ci i (eN 54 (hp.take i))∧Own wl wr co i (eN 92 (hp.take i))∧Two wr co ci) (fun _ _ cx _=>(128 -intOf cx).toNat)
     case atStart=>exact⟨0,by omega,rfl,Own.nil _,Own.nil _,fun g h=>by simp[Value.ownBlock]at h,fun g h=>by simp[Value.ownBlock]at h⟩
     case round=>
      obtain⟨i,hi,rfl,Kd,Oo,hTW⟩:=hrel
      obtain⟨ia,ic,rfl⟩:=Kd.any
      obtain⟨oa,oc,rfl⟩:=Oo.any
      by_cases hlt:i<128
      · have c1:=(bY.o.keeps Kd.keeps).int i (by rw[kX.o];exact hlt)
        have Xj:=ae (vT 54 hp i (by rw[kX.o];exact hlt))
        have Xk:=ae (vT 92 hp i (by rw[kX.o];exact hlt))
        have Nh:=ae Kd;have Qj:=ae Oo;have Oq:=ae hTW
        clear Kd Oo hTW
        generalize hx:hp.getD i 0=x at *
        have Xl:=ae hx
        clear hx
        go_wp2_with (first |(refine eR rfl (.tmp 32) (.tmp 38) rfl Nh.o rfl 1 _ _ rfl (by omega) ?_;intro v1 w1 oJ hG1;have Qk:=Oq.o.grown hG1 oJ;have Ql:=qB Qj.o Oq.o.1 hG1 Nh.o;have Qm:=ae oJ;have Ni:=ae Ql;have Nj:=ae Qk;have c2:=(bY.o.keeps oJ.keeps).int i (by rw[kX.o];exact hlt);rw[Xl.o]at c2;clear oJ hG1 Qk Ql Nh Qj Oq)|(refine eR rfl (.tmp 40) (.tmp 46) rfl Ni.o rfl 1 _ _ rfl (by omega) ?_;intro v2 w2 hO2 hG2;have TS:=ae (Nj.o.symm.grown hG2 hO2);have TT:=ae (qB Qm.o Nj.o.2 hG2 Ni.o);have TU:=ae hO2;clear hO2 hG2 Qm Ni Nj))
        go_roundw
        case rel=>exact⟨i+1,by omega,by go_num,by rw[←Xj.o];exact TT.o,by rw[←Xk.o];exact TU.o,TS.o.symm⟩
        case measure=>simp[intOf];omega
      ·obtain rfl:i=128:=by omega
       rw[List.take_of_length_le (by rw[kX.o];omega)]at Kd Oo
       have Nh:=ae Kd;have Qj:=ae Oo;have Oq:=ae hTW
       have Iv:=ae (bw.o.trans (dw.o.keeps.trans Kd.keeps))
       have TV:=ae Kd.keeps
       clear Kd Oo hTW
       go_upto_region 14 with(first |(refine aO rfl (.tmp 48) (.tmp 49) rfl Nh.o (Keeps.refl _) rfl _ rfl n zs (Rd.src (bH.o.keeps Iv.o) Tryz.underlying44 (ai zs)) (by omega) ?_;intro v8 W8 Qf Qg;have Nb:=ae Qf;have Nc:=ae Qg;clear Qf Qg)|(go_at_call 58;refine(oy _ (128+n) (eN 54 hp++zs) _ Nb.o.rd (fun x hx=>by rcases List.mem_append.1 hx with h|h;exact ls 54 hp x h;exact TP.o x h) (by omega)).mono ?_;rintro e W9 ⟨rfl,hk9⟩;have Kc:=ae hk9;clear hk9)|(refine wpList_store_row rfl 52 (.tmp 10) (.tmp 51) rfl W9.heap.size 0 rfl (List.replicate 64 (Value.int .u8 0)) ((sha512 (eN 54 hp++zs)).map (Value.int .u8)) rfl (Row.new _ _ _ rfl) (by rw[aF,a7];rfl) (by rw[aF,a7];exact zW) (ai _) ?_;intro lN iK eh;have cP:=ae iK;have fP:=ae eh;clear iK eh))
       have RE:=(qB Qj.o Oq.o.1 Nc.o Nh.o).step (Kc.o.trans (aD (av (Keeps.refl W9) _) fP.o (Nat.le_refl _)))
       have dP:W9.heap.size<lN.heap.size:=cP.o.lt (by intro e;have :=congrArg List.length e;rw[aF,a7]at this;simp at this)
       have hd1:=a7 (eN 54 hp++zs)
       have Pr:=ae (ja (eN 54 hp++zs))
       generalize hde:sha512 (eN 54 hp++zs)=d1 at *
       have TQ:=ae hde
       clear hde
       have Ih:=ae (tI (tI RE dw.o.keeps) bw.o)
       have iX:=ae (show Rd lN 1 (.slice (some ⟨W9.heap.size,0,none⟩) 64 64) 64 (d1.map (Value.int .u8))from Rd.bQ cP.o (by simp[hd1]) dP (by omega) (by unfold maxLen;omega))
       have Nd:=ae (HR1.o.keeps (dw.o.keeps.trans RE.keeps))
       have JY:=ae (show∀g,(Value.slice oa 128 oc).ownBlock=some g→g≠p4 from fun g e=>by have h1:=RE.new g e;have h2:=dw.o.keeps.size;have h3:=HR1.o.lt (by simp);omega)
       have HD1:=ae hd1
       clear RE hd1 Nh Qj Oq Iv TV Nb Nc Kc fP cP
       generalize W9.heap.size=q9 at *
       go_wp2_with (first |(refine aO rfl (.tmp 52) (.tmp 53) rfl Ih.o (Keeps.refl lN) rfl _ rfl 64 d1 (Rd.src (iX.o.keeps (Keeps.refl lN)) Tryz.underlying44 (ai d1)) (by omega) ?_;intro v12 Di Iw Ix;have Iy:=ae Iw;have Nf:=ae Ix;clear Iw Ix)|(go_at_call 58;refine(oy _ (128+64) (eN 92 hp++d1) _ Iy.o.rd (fun x hx=>by rcases List.mem_append.1 hx with h|h;exact ls 92 hp x h;exact Pr.o x h) (by omega)).mono ?_;rintro e EC ⟨rfl,Iz⟩;have fK:=ae Iz;clear Iz)|(refine wpList_store_row rfl 52 (.tmp 4) (.tmp 55) rfl p4 0 rfl (List.replicate 64 (Value.int .u8 0)) ((sha512 (eN 92 hp++d1)).map (Value.int .u8)) rfl ((Nd.o.aG Nf.o.1 (fun e=>JY.o _ e rfl)).keeps fK.o) (by rw[aF,a7];rfl) (by rw[aF,a7];exact zW) (ai _) ?_;intro ED IA mJ;have Ng:=ae IA;have xg:=ae mJ;clear IA mJ))
       exact bodyPost_ret (v:= .agg ((sha512 (eN 92 hp++d1)).map (Value.int .u8)).toArray) (ar (p:=4) (ty:=52) rfl _ _ p4 0 _ _ rfl Ng.o Tryz.underlying52 rfl (by rw[aF,a7];exact zW)) rfl ⟨by rw[TQ.o],aD (Iy.o.keeps.trans fK.o) xg.o (by have :=Il.o;omega)⟩
end Go.Proofs.YtlofddoojkeakaaGreatDoor.pD
namespace Go.Proofs.YtlofddoojkeakaaGreatDoor
open Go Go.RowKit
theorem EE{w:World}(vs:List Value)(T:TypeId)(C:Array Value)(hC:C=vs.toArray)(k:Nat)(hk:k=vs.length):Row (w.alloc (.cells C T (k,k+1))) w.heap.size 0 vs:=fun j v hv=>by
 subst hC hk
 have hj:j<vs.length:=by
  by_cases hj:j<vs.length
  ·exact hj
  ·rw[List.getElem?_eq_none (by omega)]at hv;cases hv
 have hb:(w.alloc (.cells vs.toArray T (vs.length,vs.length+1))).heap[w.heap.size]? =some (.cells vs.toArray T (vs.length,vs.length+1)):=heap_alloc_new w _
 rw[Nat.zero_add]
 refine⟨?_,?_⟩
 ·simp only[World.cell?,hb];simpa using hv
 ·simp only[World.frozen?,hb];simp;omega
theorem rX{w:World}{ops:Array Oper}{rest:List Oper}{o:Oper}{a:Act}{Q:Exit→Act→World→Prop}(hgd:o.guard=none)(d s:Operand)
 (ho:o.op= .call {callee:= .builtin .copy,args:= #[d,s],argTypes:= #[44,44]}) (g i m c1:Nat) (hd:a.eval d= .slice (some ⟨g,i,none⟩) m c1) (sa:Option Addr) (n cap:Nat) (hs:a.eval s= .slice sa n cap) (hn:n≤m)
 (vs:List Value) (hg:Row w g 0 vs) (hl:i+n≤vs.length) (xs:List Value) (hr:Rd w 1 (.slice sa n cap) n xs) (h1:∀v∈xs,v.oneCell' =true)
 (h:∀w',Row w' g 0 (vs.take i++xs++vs.drop (i+n))→bU (· =g) w w'→wpList Tryz.prog ops Q rest (a.put o.dst (goInt n)) w'):wpList Tryz.prog ops Q (o::rest) a w:=by
 have hxl:xs.length=n:=by have :=hr.1;simpa using this
 have sz:(Tryz.prog.info? 5).map (·.size)=some 1:=by kernel_rfl
 obtain⟨_,a',cap',e,h2,h3,h4,h5⟩:=hr
 cases e
 by_cases h0:n=0
 ·subst h0
  have hx0:xs=[]:=List.eq_nil_of_length_eq_zero hxl
  subst hx0
  exact wpList_copy_nothing hgd d s _ _ ho 5 Tryz.underlying44 sz _ _ _ _ _ _ hd hs (by simp) (h _ (by simpa using hg) (bU.refl _ _))
 · cases sa with
   |none=>exact absurd (h4 rfl).1 h0
   |some ad=>
    obtain⟨g2,off2,rfl,_,hrow⟩:=h5 ad rfl (by omega)
    have hadd:∀j,(⟨g2,off2,none⟩:Addr).add j=⟨g2,off2+j,none⟩:=fun j=>by unfold Addr.add;split<;>simp_all
    have hsub:=(hg.drop i).take n
    have hsl:((vs.drop i).take n).length=n:=by simp;omega
    rw[Nat.zero_add]at hsub
    have hld:=run_loadCells_list (P:=Tryz.prog) w ⟨g2,off2,none⟩ xs (fun j v hv=>by rw[hadd];exact(hrow j v hv).1)
    have hst:=run_storeCells_cells (P:=Tryz.prog) g i xs 0 w (fun j hj=>by
     rw[Nat.add_zero]
     have :=hsub j ((vs.drop i).take n)[j] (List.getElem?_eq_getElem (by omega))
     rw[this.1];rfl) (fun j hj=>by
     rw[Nat.add_zero]
     exact(hsub j ((vs.drop i).take n)[j] (List.getElem?_eq_getElem (by omega))).2) h1
    simp only[Nat.add_zero]at hst
    refine wpList_plain hgd fun K hK=> ?_
    cases hq:Tryz.prog.info? 5 with
    |none=>simp[hq]at sz
    |some x=>
     have hx:x.size=1:=by simpa[hq]using sz
     have hmin:Nat.min n m=n:=Nat.min_eq_left hn
     have hrun:(Builtin.copy_ #[44,44] o.type #[.slice (some ⟨g,i,none⟩) m c1,.slice (some ⟨g2,off2,none⟩) n cap]).run Tryz.prog w= .ok (goInt n) (w.setCells g i xs):=by
      rw[hxl]at hld
      simp[Builtin.copy_,run_underlying Tryz.underlying44,Builtin.lenOf,Builtin.firstCells,sizeOf,typeInfo,hq,hx,hmin,hld,hst]
     unfold Oper.wp
     simp[execOp,ho,resolve,invoke,builtin,hd,hs,hrun,Result.andThen]
     have hrow2:=Row.setCells (w:=w) xs i hg (by omega)
     rw[Nat.zero_add,hxl]at hrow2
     exact hK _ _ (h _ hrow2 (dh _ _ _ _))
def vU:List Int:=[66,105,116,99,111,105,110,32,115,101,101,100]
theorem zX:Bytes vU:=by unfold Bytes Byte;decide
def Z4:List Int:=List.replicate 4 0
def cw:List Int:=List.replicate 32 0
def cJ(cc z:List Int):List Value:=aP 0 Z4 0 cc (0::z)
def il(l:List Int):List Int:=pD.qz vU l
theorem lu(l:List Int):(il l).length=64:=pD.rF _ _
theorem zY(l:List Int):Bytes (il l):=pD.tH _ _
def B2(n:Nat):Bool:=decide (16≤n∧n≤64)
def jR(l:List Int):List Value×Int:=if B2 l.length then(if ey (be ((il l).take 32))then(cJ ((il l).drop 32) ((il l).take 32),0)else(cJ cw cw,1))else(cJ cw cw,2)
theorem gY{cc z:List Int}(h1:cc.length=32)(h2:z.length=32):(cJ cc z).length=71:=bp rfl h1 (by simp[h2])
theorem kK(cc z:List Int):∀v∈cJ cc z,v.oneCell' =true:=pz _ _ _ _ _
theorem xF{cc z:List Int}(h1:cc.length=32)(h2:z.length=32):(Tryz.prog.info? 29).map (·.size)=some (cJ cc z).length:=i9 rfl h1 (by simp[h2])
theorem tJ:Tryz.prog.built 29 []=some (cJ cw cw).toArray:=by kernel_rfl
theorem EF(cc z z':List Int)(h1:cc.length=32)(hz:z.length=32)(hz':z'.length=32):(cJ cc z).take 39++z'.map (Value.int .u8)++(cJ cc z).drop 71=cJ cc z':=by
 have e:∀z:List Int,cJ cc z=(.int .u8 0::(Z4.map (Value.int .u8)++(.int .u32 0::(cc.map (Value.int .u8)++[.int .u8 0]))))++z.map (Value.int .u8):=fun z=>by simp[cJ,aP]
 have hl:(.int .u8 0::(Z4.map (Value.int .u8)++(.int .u32 0::(cc.map (Value.int .u8)++[Value.int .u8 0])))).length=39:=by simp[Z4,h1]
 rw[List.drop_eq_nil_of_le (by rw[gY h1 hz];exact Nat.le_refl _),List.append_nil,e z,e z',List.take_left' hl]
theorem EG(cc cc' z:List Int)(h1:cc.length=32)(h2:cc'.length=32):(cJ cc z).take 6++cc'.map (Value.int .u8)++(cJ cc z).drop 38=cJ cc' z:=by
 have e:∀cc:List Int,cJ cc z=(.int .u8 0::(Z4.map (Value.int .u8)++[.int .u32 0]))++(cc.map (Value.int .u8)++(0::z).map (Value.int .u8)):=fun cc=>by simp[cJ,aP]
 have hl:(.int .u8 0::(Z4.map (Value.int .u8)++[Value.int .u32 0])).length=6:=by simp[Z4]
 have h3:(cJ cc z).drop 38=(0::z).map (Value.int .u8):=nR _ _ _ rfl h1
 rw[h3,e cc,e cc',List.take_left' hl,List.append_assoc]
theorem B3(v:Value)(n:Nat)(l:List Int)(w:World)(hr:Rd w 1 v n (l.map (Value.int .u8)))(hb:Bytes l)(hln:n=l.length):
 Calls Tryz.prog 18 #[v] w fun e w' =>e= .returned (.tuple #[.agg (jR l).1.toArray,.int .i64 (jR l).2])∧Keeps w w':=by
 obtain⟨a,cap,rfl⟩:∃a c,v= .slice a n c:=by obtain⟨_,a,c,e,_⟩:=hr;exact⟨a,c,e⟩
 have HR:=ae hr;have HB:=ae hb
 have Xm:=ae hln
 have hcase:(n<16∧jR l=(cJ cw cw,2))∨(¬n<16∧64<n∧jR l=(cJ cw cw,2))∨(¬n<16∧¬64<n∧jR l=if ey (be ((il l).take 32))then(cJ ((il l).drop 32) ((il l).take 32),0)else(cJ cw cw,1)):=by
  unfold jR B2
  rw[←hln]
  by_cases h1:n<16
  ·exact .inl ⟨h1,by rw[decide_eq_false (by omega)];rfl⟩
  · by_cases h2:64<n
    ·exact .inr (.inl ⟨h1,h2,by rw[decide_eq_false (by omega)];rfl⟩)
    ·exact .inr (.inr ⟨h1,h2,by rw[decide_eq_true ⟨by omega,by omega⟩];rfl⟩)
 clear hln
 have z0:cw.length=32:=rfl
 have EH:=ae (xF z0 z0)
 rcases hcase with⟨h1,he⟩|⟨h1,h2,he⟩|⟨h1,h2,he⟩
 ·rw[he]
  clear he hr hb
  go_enter Tryz.func18,Tryz.ntmps18
  go_upto_region 1 with(fail)
  refine bh (fun W hk hr hs=> ?_)
  have mO:=ae (show Row W w.heap.size 0 (cJ cw cw)from hr);have HK:=ae hk
  clear hk hr hs
  go_wp2_with (first |(refine aW (by kernel_rfl) 29 _ rfl [] ?_ _ tJ ?_;focus rfl)|(refine wpList_store_row rfl 29 (.tmp 2) (.tmp 14) rfl w.heap.size 0 rfl (cJ cw cw) (cJ cw cw) rfl mO.o rfl EH.o (kK _ _) ?_;intro w9 aR aJ;have H9:=ae aR;have bK:=ae aJ;clear aR aJ))
  exact bodyPost_ret (al (p:=2) (t:=3) (ty:=29) rfl _ _ w.heap.size 0 _ _ _ rfl rfl H9.o Tryz.underlying29 rfl EH.o) rfl ⟨rfl,ag HK.o bK.o (Nat.le_refl _)⟩
 ·rw[he]
  clear he hr hb
  go_enter Tryz.func18,Tryz.ntmps18
  go_upto_region 1 with(fail)
  refine bh (fun W hk hr hs=> ?_)
  have mO:=ae (show Row W w.heap.size 0 (cJ cw cw)from hr);have HK:=ae hk
  clear hk hr hs
  go_wp2_with (first |(refine aW (by kernel_rfl) 29 _ rfl [] ?_ _ tJ ?_;focus rfl)|(refine wpList_store_row rfl 29 (.tmp 2) (.tmp 14) rfl w.heap.size 0 rfl (cJ cw cw) (cJ cw cw) rfl mO.o rfl EH.o (kK _ _) ?_;intro w9 aR aJ;have H9:=ae aR;have bK:=ae aJ;clear aR aJ))
  exact bodyPost_ret (al (p:=2) (t:=3) (ty:=29) rfl _ _ w.heap.size 0 _ _ _ rfl rfl H9.o Tryz.underlying29 rfl EH.o) rfl ⟨rfl,ag HK.o bK.o (Nat.le_refl _)⟩
 ·rw[he]
  clear he hr hb
  have Nk:=lu l
  have Xn:=zY l
  have pL:=ae (fun(kv:Value) (W:World) (hk:Rd W 1 kv 12 (vU.map (Value.int .u8))) (hr:Rd W 1 (.slice a n cap) n (l.map (Value.int .u8)))=>pD.pK kv _ 12 n vU l W hk zX (by omega) hr HB.o (by omega))
  have hsh:pD.qz vU l=il l:=rfl
  rw[hsh]at pL
  clear hsh
  generalize il l=H at *
  have ht:(H.take 32).length=32:=by simp[Nk]
  have hd:(H.drop 32).length=32:=by simp[Nk]
  have uA:=ae (fun W=>(show Calls Tryz.prog 35 #[.agg (cJ (H.drop 32) (H.take 32)).toArray] W _ from HJ (d:=0) (ch:=0) (fg:=Z4) rfl hd ht (fun x hx=>Xn x (List.mem_of_mem_take hx)) W))
  have Vj:=ae (EF cw cw (H.take 32) rfl rfl ht)
  have HP2:=ae (EG cw (H.drop 32) (H.take 32) rfl hd)
  have xP:=ae (xF hd ht)
  have vV:=ae (show(cJ (H.drop 32) (H.take 32)).length=(cJ cw cw).length by rw[gY hd ht];rfl)
  have Jj:=ae (kK (H.drop 32) (H.take 32))
  generalize ey (be (H.take 32))=KB at *
  generalize cJ (H.drop 32) (H.take 32)=KC at *
  go_enter Tryz.func18,Tryz.ntmps18
  go_upto_region 1 with(fail)
  refine bh (fun W hk hr hs=> ?_)
  have mO:=ae (show Row W w.heap.size 0 (cJ cw cw)from hr);have HK:=ae hk
  have sI:=ae hs
  clear hk hr hs
  have hcv:=Lib.run_convert_bytes_const (P:=Tryz.prog) W 44 5 #[.int .u8 66,.int .u8 105,.int .u8 116,.int .u8 99,.int .u8 111,.int .u8 105,.int .u8 110,.int .u8 32,.int .u8 115,.int .u8 101,.int .u8 101,.int .u8 100] 12 12 Tryz.underlying44 Tryz.underlying5
  simp only[List.size_toArray,List.length_cons,List.length_nil,Nat.reduceAdd]at hcv
  have hkc:∀o,Keeps w (W.alloc o):=fun o=>ah HK.o o
  have B4:=ae hkc
  clear hkc
  go_upto_region 4 with(first
   |(go_at_call 20;refine(pL.o _ _ (Rd.bQ (EE (vU.map (Value.int .u8)) 5 _ rfl 12 rfl) rfl (by simp) (by omega) (by unfold maxLen;omega)) (HR.o.keeps (B4.o _))).mono ?_;rintro e W2 ⟨rfl,hk2⟩;have aq:=ae hk2;clear hk2)
   |(refine wpList_store_row rfl 52 (.tmp 4) (.tmp 18) rfl W2.heap.size 0 rfl (List.replicate 64 (Value.int .u8 0)) (H.map (Value.int .u8)) rfl (Row.new _ _ _ rfl) (by rw[aF,Nk];rfl) (by rw[aF,Nk];kernel_rfl) (ai _) ?_;intro W3 hr3 hc3;have HR3:=ae hr3;have bS:=ae (ag (ah (Keeps.refl W2) _) hc3 (Nat.le_refl _));clear hr3 hc3))
  have hkm:Keeps W W2:=Keeps.trans (ah (Keeps.refl W) _) aq.o
  have hW3:Keeps w W3:=(HK.o.trans hkm).trans bS.o
  have Qn:=ae (mO.o.keeps (hkm.trans bS.o))
  have hps:w.heap.size<W2.heap.size:=by have h1:=sI.o;have h2:=hkm.size;omega
  have hss:W2.heap.size<W3.heap.size:=HR3.o.lt (by intro e;have :=congrArg List.length e;simp[Nk]at this)
  have aA:=ae hW3
  clear hkm hW3 aq bS HK mO hcv B4 sI
  generalize W2.heap.size=hh at *
  go_upto_region 5 with(fail)
  refine bh (fun W5 hk5 dG hs5=> ?_)
  have ej:=ae (show Row W5 W3.heap.size 0 (cJ cw cw)from dG)
  have TX:=ae (HR3.o.keeps hk5);have Qo:=ae (Qn.o.keeps hk5);have Qp:=ae (aA.o.trans hk5)
  have hks:W3.heap.size<W5.heap.size:=by omega
  have hwk:w.heap.size≤W3.heap.size:=aA.o.size
  clear hk5 dG hs5 HR3 Qn aA
  generalize W3.heap.size=k at *
  refine aB 3 (by kernel_rfl) (by kernel_rfl) ?_
  simp only[List.take_succ_cons,List.take_zero,List.drop_succ_cons,List.drop_zero]
  repeat(first |go_big_quiet_step (fail)|quiet_step (fail))
  refine wpQuiet_nil ?_
  intro _ hw'
  obtain⟨nq,hw''⟩:=hw'
  subst hw''
  refine rX rfl (.tmp 20) (.tmp 21) rfl k 39 32 32 rfl (some ⟨hh,0,none⟩) 32 64 rfl (Nat.le_refl _) (cJ cw cw) (ej.o.drewN nq) (by rw[gY rfl rfl];omega) ((H.take 32).map (Value.int .u8)) (Rd.bQ (by have :=(TX.o.drewN nq).take 32;rwa[←List.map_take]at this) (by simp[Nk]) (by show hh<W5.heap.size;omega) (by omega) (by unfold maxLen;omega)) (ai _) (fun W6 eD hc6=> ?_)
  have eD:Row W6 k 0 ((cJ cw cw).take 39++(H.take 32).map (Value.int .u8)++(cJ cw cw).drop 71):=eD
  rw[Vj.o]at eD
  have dM:=ae eD
  have Qq:=ae ((TX.o.drewN nq).aG hc6 (by omega));have Qr:=ae ((Qo.o.drewN nq).aG hc6 (by omega))
  have Qs:=ae (ag (Qp.o.trans (Qt.drewN W5 nq).keeps) hc6 hwk)
  have hs6:k<W6.heap.size:=Nat.lt_of_lt_of_le hks (show W5.heap.size≤W6.heap.size from hc6.size)
  clear eD hc6 TX Qo Qp ej hks
  go_upto_region 6 with(fail)
  refine aB 3 (by kernel_rfl) (by kernel_rfl) ?_
  simp only[List.take_succ_cons,List.take_zero,List.drop_succ_cons,List.drop_zero]
  repeat(first |go_big_quiet_step (fail)|quiet_step (fail))
  refine wpQuiet_nil ?_
  intro _ hw'
  obtain⟨nq,hw''⟩:=hw'
  subst hw''
  refine rX rfl (.tmp 24) (.tmp 25) rfl k 6 32 32 rfl (some ⟨hh,32,none⟩) 32 32 rfl (Nat.le_refl _) (cJ cw (H.take 32)) (dM.o.drewN _) (by rw[gY rfl ht];omega) ((H.drop 32).map (Value.int .u8)) (Rd.bQ (by have :=(Qq.o.drewN nq).drop 32;rwa[←List.map_drop,Nat.zero_add]at this) (by simp[Nk]) (by show hh<W6.heap.size;omega) (by omega) (by unfold maxLen;omega)) (ai _) (fun W7 nJ po=> ?_)
  have nJ:Row W7 k 0 ((cJ cw (H.take 32)).take 6++(H.drop 32).map (Value.int .u8)++(cJ cw (H.take 32)).drop 38):=nJ
  rw[HP2.o]at nJ
  have qf:=ae nJ
  have Qu:=ae ((Qr.o.drewN nq).aG po (by omega))
  have Qv:=ae (ag (Qs.o.trans (Qt.drewN W6 nq).keeps) po hwk)
  clear nJ po Qq Qr Qs dM Vj HP2
  cases KB
  · go_wp2_with (first |(refine aj rfl 29 (.tmp 5) rfl k 0 rfl _ _ qf.o Tryz.underlying29 rfl xP.o ?_)|(go_at_call 35;refine(uA.o _).mono ?_;rintro e W8 ⟨rfl,hk8⟩;have jM:=ae hk8;clear hk8)|(refine aW (by kernel_rfl) 29 _ rfl [] ?_ _ tJ ?_;focus rfl)|(refine wpList_store_row rfl 29 (.tmp 2) (.tmp 30) rfl w.heap.size 0 rfl (cJ cw cw) (cJ cw cw) rfl (Qu.o.keeps jM.o) rfl EH.o (kK _ _) ?_;intro w9 aR aJ;have H9:=ae aR;have bK:=ae aJ;clear aR aJ))
    exact bodyPost_ret (al (p:=2) (t:=3) (ty:=29) rfl _ _ w.heap.size 0 _ _ _ rfl rfl H9.o Tryz.underlying29 rfl EH.o) rfl ⟨rfl,ag (Qv.o.trans jM.o) bK.o (Nat.le_refl _)⟩
  · go_wp2_with (first |(refine aj rfl 29 (.tmp 5) rfl k 0 rfl _ _ (by first |exact qf.o.keeps jM.o|exact qf.o) Tryz.underlying29 rfl xP.o ?_)|(go_at_call 35;refine(uA.o _).mono ?_;rintro e W8 ⟨rfl,hk8⟩;have jM:=ae hk8;clear hk8)|(refine wpList_store_row rfl 29 (.tmp 2) (.tmp 31) rfl w.heap.size 0 rfl (cJ cw cw) KC rfl (Qu.o.keeps jM.o) vV.o xP.o Jj.o ?_;intro w9 aR aJ;have H9:=ae aR;have bK:=ae aJ;clear aR aJ))
    exact bodyPost_ret (al (p:=2) (t:=3) (ty:=29) rfl _ _ w.heap.size 0 _ _ _ rfl rfl H9.o Tryz.underlying29 rfl xP.o) rfl ⟨rfl,ag (Qv.o.trans jM.o) bK.o (Nat.le_refl _)⟩
end Go.Proofs.YtlofddoojkeakaaGreatDoor
