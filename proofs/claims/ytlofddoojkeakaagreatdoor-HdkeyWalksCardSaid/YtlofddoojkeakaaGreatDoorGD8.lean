/- hash.Ripemd is RIPEMD-160.. -/
import Derived.Test.YtlofddoojkeakaaGreatDoorGC9
import Derived.Test.YtlofddoojkeakaaGreatDoorGD7
import Derived.Test.YtlofddoojkeakaaGreatDoorGD4
set_option maxRecDepth 100000
set_option maxHeartbeats 1000000
set_option linter.unusedVariables false
set_option linter.unusedSimpArgs false
namespace Go.Proofs.YtlofddoojkeakaaGreatDoor.j4
open Go Go.RowKit Go.Shelf Go.Proofs.YtlofddoojkeakaaGreatDoor.pD
structure kO (w W:World) (p2 pl pr p3 gm om:Nat) (M:List Int) (s:S5):Prop where
 keeps:Keeps w W
 res:Row W p2 0 (List.replicate 20 (Value.int .u8 0))
 left:Row W pl 0 (bX rL sL kL)
 right:Row W pr 0 (bX rR sR kR)
 st:Row W p3 0 (s.list.map (Value.int .u32))
 msg:Row W gm om (M.map (Value.int .u8))
 new:w.heap.size≤p3∧p2≠p3∧pl≠p3∧pr≠p3∧gm≠p3
theorem kO.step {w W W':World}{p2 pl pr p3 gm om:Nat}{M:List Int}{s:S5}(h:kO w W p2 pl pr p3 gm om M s)(hk:Keeps W W'):kO w W' p2 pl pr p3 gm om M s:=
 ⟨h.keeps.trans hk,h.res.keeps hk,h.left.keeps hk,h.right.keeps hk,h.st.keeps hk,h.msg.keeps hk,h.new⟩
theorem kO.aG {w W W':World}{p2 pl pr p3 gm om:Nat}{M:List Int}{s s':S5}(h:kO w W p2 pl pr p3 gm om M s)(hc:bU (· =p3) W W')(hr:Row W' p3 0 (s'.list.map (Value.int .u32))):kO w W' p2 pl pr p3 gm om M s':=
 ⟨aD h.keeps hc h.new.1,h.res.aG hc h.new.2.1,h.left.aG hc h.new.2.2.1,h.right.aG hc h.new.2.2.2.1,hr,h.msg.aG hc h.new.2.2.2.2,h.new⟩
theorem EL(B:Nat)(w:World)(hB:w.heap.size≤B)(p2 pl pr p3 gm om:Nat)(M:List Int){α:Type}(f:List α→S5):OwnFrom B (fun(ys:List α) W=>kO w W p2 pl pr p3 gm om M (f ys)):=fun ys W W' row h hg hr=>by
 have hr2:∀r,row=some r→∃o:Obj,W.heap[r]? =some o∧o.isCells=false:=fun r e=>(hr r e).2
 exact⟨h.keeps.grown hg h.keeps.size (fun k e=>Nat.le_trans hB (hr k e).1),fA h.res hg hr2,fA h.left hg hr2,fA h.right hg hr2,fA h.st hg hr2,fA h.msg hg hr2,h.new⟩
def pQ(M:List Int)(s:S5){B:Nat}(ys:List (Fin B)):S5:=ys.foldl (fun s x=>block s ((M.drop (64*x.val)).take 64)) s
theorem tP(M:List Int)(s:S5){B:Nat}(ys:List (Fin B))(x:Fin B):pQ M s (ys++[x])=block (pQ M s ys) ((M.drop (64*x.val)).take 64):=by simp[pQ]
theorem tQ(M:List Int)(s:S5)(B:Nat):∀k,k≤B→pQ M s ((List.finRange B).take k)=fF s M k
 |0,_=>rfl
 |k+1,h=>by rw[rV (show k<B by omega),tP,tQ M s B k (by omega)];rfl
theorem EN(M:List Int)(s:S5)(B:Nat):pQ M s (List.finRange B)=fF s M B:=by
 have :=tQ M s B B (Nat.le_refl _)
 rwa[List.take_of_length_le (by simp)]at this
theorem II(M:List Int){s:S5}(h:s.ok){B:Nat}(ys:List (Fin B)):(pQ M s ys).ok:=by
 induction ys generalizing s with
 |nil=>exact h
 |cons a r ih=>exact ih (S5.Dj _ _ _)
theorem IJ(n q A Bn cap:Nat)(hA:A=1+bL n)(hB:Bn=8)(hc:8≤cap)(hc2:cap≤maxLen)(w:World)(hr:Row w q 0 ((di n).map (Value.int .u8))):
 Calls Tryz.prog 82 #[.slice (some ⟨q,A,none⟩) Bn cap] w fun e w' =>e= .returned (.tuple #[])∧bU (· =q) w w'∧Row w' q 0 ((dk 64 8 n true).map (Value.int .u8)):=by
 subst hA hB
 have hd:=hr.drop (1+bL n)
 have e:((di n).map (Value.int .u8)).drop (1+bL n)=(Az ((n:Int)*8)).map (Value.int .u8):=by
  rw[←List.map_drop,di,List.drop_append_of_le_length (by simp;omega),List.drop_of_length_le (by simp;omega)]
  simp
 rw[e,Nat.zero_add]at hd
 refine(IH q (1+bL n) cap hc hc2 _ _ _ _ _ _ _ _ w hd).mono ?_
 rintro e w' ⟨rfl,hch,Xo,hbs⟩
 refine⟨rfl,hch,?_⟩
 have hp:=hr.patch (1+bL n) (by rw[Nat.zero_add];exact Xo) (by rw[Nat.zero_add];exact hbs) (by simp[di,Az];omega)
 have e2:((di n).map (Value.int .u8)).take (1+bL n)++([(n:Int)*8%256,(n:Int)*8/256%256,(n:Int)*8/65536%256,(n:Int)*8/16777216%256,(n:Int)*8/4294967296%256,(n:Int)*8/1099511627776%256,(n:Int)*8/281474976710656%256,(n:Int)*8/72057594037927936%256].map (Value.int .u8))++((di n).map (Value.int .u8)).drop (1+bL n+8)=(dk 64 8 n true).map (Value.int .u8):=by
  rw[←List.map_take,←List.map_drop,di,List.take_append_of_le_length (by simp;omega),List.take_of_length_le (by simp;omega),List.drop_of_length_le (by simp[Az];omega)]
  have h1:bN 64 8 n=bL n:=rfl
  simp[dk,fJ,h1]
 have e3:=hp
 simp only[aF,List.length_cons,List.length_nil,Nat.reduceAdd]at e3
 rw[e2]at e3
 exact e3
theorem B8{w W':World}(hc:bU (· =w.heap.size) ((w.alloc (.cells Tryz.zeroCells147 147)).alloc (.cells Tryz.zeroCells147 147)) W'):Row W' (w.heap.size+1) 0 Tryz.zeroCells147.toList:=by
 have h:Row ((w.alloc (.cells Tryz.zeroCells147 147)).alloc (.cells Tryz.zeroCells147 147)) (w.alloc (.cells Tryz.zeroCells147 147)).heap.size 0 Tryz.zeroCells147.toList:=Row.new _ _ _ Array.toArray_toList.symm
 rw[World.size_alloc]at h
 exact h.aG hc (by omega)
theorem B9(v:Value)(n:Nat)(zs:List Int)(w:World)(hr:Rd w 1 v n (zs.map (Value.int .u8)))(hz:Bytes zs)(hn:n≤35184372088832):
 Calls Tryz.prog 44 #[v] w fun e w' =>e= .returned (.agg ((ef zs).map (Value.int .u8)).toArray)∧Keeps w w':=by
 have hzl:zs.length=n:=by have :=hr.1;simpa using this
 have BP:=kF n
 have hfl:(dk 64 8 n true).length=9+bL n:=by rw[gX];show 1+bL n+8=_;omega
 have hml:(zs++dk 64 8 n true).length=n+(9+bL n):=by rw[List.length_append,hfl,hzl]
 have hmb:Bytes (zs++dk 64 8 n true):=by
  intro x hx
  rcases List.mem_append.1 hx with h|h
  ·exact hz x h
  ·exact jQ 64 8 n true x h
 have hmod:(n+(9+bL n))%64=0:=by unfold bL;omega
 have pG:ef zs=j4.dI (fF fE (zs++dk 64 8 n true) ((n+(9+bL n))/64)).list:=by unfold ef xG;rw[hzl,hml]
 have htail:∀W,Calls Tryz.prog 77 #[.int .u64 n,.int .i64 64,.int .i64 8] W fun e w' =>e= .returned (.slice (some ⟨W.heap.size,0,none⟩) (9+bL n) (9+bL n))∧Keeps W w'∧W.heap.size<w'.heap.size∧Row w' W.heap.size 0 ((di n).map (Value.int .u8)):=fun W=>x9 n (by omega) W
 have hclone:∀W,Keeps w W→Calls Tryz.prog 76 #[v] W fun e w' =>∃v',e= .returned v'∧Own W w' v' n zs:=fun W hk=>(clone_any v n zs W (hr.keeps hk) (by omega)).mono (by rintro e w' ⟨v',rfl,h1,h2,h3⟩;exact⟨v',rfl,h1,h2,h3⟩)
 have hturn:∀(q A Bn cap:Nat),A=1+bL n→Bn=8→8≤cap→cap≤maxLen→∀W,Row W q 0 ((di n).map (Value.int .u8))→Calls Tryz.prog 82 #[.slice (some ⟨q,A,none⟩) Bn cap] W fun e w' =>e= .returned (.tuple #[])∧bU (· =q) W w'∧Row w' q 0 ((dk 64 8 n true).map (Value.int .u8)):=fun q A Bn cap h1 h2 h3 h4 W h5=>IJ n q A Bn cap h1 h2 h3 h4 W h5
 rw[pG]
 have zR:=ae htail;have tG:=ae hclone;have J7:=ae hmb;have qY:=ae hml;have rH:=ae hfl;have Ld:=ae hturn
 clear hz hzl htail hclone hmb hml pG hfl hturn
 obtain⟨B,hB⟩:∃B,n+(9+bL n)=64*B:=⟨(n+(9+bL n))/64,by omega⟩
 rw[show(n+(9+bL n))/64=B by omega]
 have P6:=ae hB
 obtain⟨_,a,cap,rfl,_⟩:=hr
 rw[hB]at qY
 have hBb:B≤549755813890:=by omega
 clear hmod hB
 generalize bL n=f at *
 generalize di n=Yy at *
 generalize dk 64 8 n true=FL at *
 generalize hM:zs++FL=M at *
 have HM:=ae hM
 clear hM
 refine(callsIn_wide (n:=3)).1 (callsIn_of_wp_marks Tryz.func44 rfl trivial (wpIn_wide.2 ?_) rfl)
 simp only[Tryz.ntmps44,List.size_toArray,List.length_cons,List.length_nil,Nat.reduceAdd,Nat.reduceSub,Array.replicate_succ,Array.replicate_zero,List.push_toArray,List.append_toArray,List.nil_append,List.cons_append]
 go_upto_region 1 with(fail)
 refine cf (fun W=>Keeps w W∧w.heap.size<W.heap.size∧Row W w.heap.size 0 (List.replicate 20 (Value.int .u8 0))) ⟨(Keeps.refl _).alloc (Nat.le_refl _) _,by show _<(w.heap.push _).size;rw[Array.size_push];omega,Row.new _ _ _ rfl⟩ ?_
 intro W1 ⟨hk1,hl1,hr1⟩
 have bw:=ae hk1;have HR1:=ae hr1
 clear hk1 hr1
 go_upto_region 2 with(refine wpList_store_row rfl 143 (.tmp 3) (.tmp 15) rfl W1.heap.size 0 rfl (List.replicate 5 (Value.int .u32 0)) (fE.list.map (Value.int .u32)) rfl (Row.new _ _ _ rfl) rfl (by kernel_rfl) (ai _) ?_;intro W2 hr2 hc2;have HR2:=ae hr2;have HC2:=ae hc2;clear hr2 hc2)
 have hk2:Keeps w W2:=aD (av bw.o _) HC2.o (Nat.le_of_lt hl1)
 have tC:Row W2 w.heap.size 0 (List.replicate 20 (Value.int .u8 0)):=(HR1.o.alloc _).aG HC2.o (by omega)
 have hl2:W1.heap.size<W2.heap.size:=HR2.o.lt (by simp[S5.list])
 have aq:=ae hk2;have iy:=ae tC
 clear hk2 tC bw HR1 HC2
 obtain⟨p2,hp2⟩:∃p,p=w.heap.size:=⟨_,rfl⟩
 obtain⟨p3,hp3⟩:∃p,p=W1.heap.size:=⟨_,rfl⟩
 rw[←hp2]at iy⊢
 rw[←hp3]at HR2⊢
 have HP2:=ae hp2;have Fl:=ae hp3
 clear hp2 hp3
 go_upto_region 3 with(go_at_call 77;refine(zR.o _).mono ?_;rintro e W5 ⟨rfl,hk5,hl5,dG⟩;have cG:=ae hk5;have ej:=ae dG;clear hk5 dG)
 obtain⟨q,hq⟩:∃q,q=W2.heap.size:=⟨_,rfl⟩
 rw[←hq]at ej hl5⊢
 have HQ:=ae hq
 clear hq
 go_upto_region 4 with(go_at_call 82;refine(Ld.o q _ _ _ (by omega) (by omega) (by omega) (by unfold maxLen;omega) _ ej.o).mono ?_;rintro e W6 ⟨rfl,hc6,eD⟩;have gC:=ae hc6;have dM:=ae eD;clear hc6 eD)
 have hw2:=aq.o.size
 have hk6:Keeps w W6:=aD (aq.o.trans cG.o) gC.o (by have :=HQ.o;omega)
 have QC:Row W6 p2 0 (List.replicate 20 (Value.int .u8 0)):=(iy.o.keeps cG.o).aG gC.o (by have :=HP2.o;have :=HQ.o;omega)
 have QD:Row W6 p3 0 (fE.list.map (Value.int .u32)):=(HR2.o.keeps cG.o).aG gC.o (by have :=Fl.o;have :=HQ.o;omega)
 have hq6:q<W6.heap.size:=Nat.lt_of_lt_of_le hl5 gC.o.size
 have iY:=ae hk6;have QE:=ae QC;have QF:=ae QD
 clear hk6 QC QD iy HR2 aq cG gC ej Ld zR
 go_upto_region 5 with(first |(go_at_call 83;refine(IG _).mono ?_;rintro e WL ⟨rfl,hkl⟩;have It:=ae hkl;clear hkl)|(go_at_call 84;refine(j4.a8 _).mono ?_;rintro e WR ⟨rfl,hkr⟩;have nc:=ae hkr;clear hkr)|(refine wpList_store_row rfl 147 (.tmp 5) (.tmp 26) rfl WR.heap.size 0 rfl Tryz.zeroCells147.toList (bX rL sL kL) rfl ((Row.new _ _ _ Array.toArray_toList.symm).alloc _) (by rw[cN Ae,rY]) (by rw[cN Ae];exact jh) (lv _ _ _) ?_;intro W7 nJ po;have qf:=ae nJ;have yR:=ae po;clear nJ po)|(refine wpList_store_row rfl 147 (.tmp 6) (.tmp 27) rfl (WR.heap.size+1) 0 rfl Tryz.zeroCells147.toList (bX rR sR kR) rfl (B8 yR.o) (by rw[cN xI,rY]) (by rw[cN xI];exact jh) (lv _ _ _) ?_;intro W8 B7 hc8;have xO:=ae B7;have DX:=ae hc8;clear B7 hc8))
 have IK:Keeps W6 WR:=It.o.trans nc.o
 have QG:Keeps W6 W7:=aD (av (av IK _) _) yR.o IK.size
 have hk8:Keeps W6 W8:=aD QG DX.o (by have :=IK.size;omega)
 have QH:Row W8 WR.heap.size 0 (bX rL sL kL):=qf.o.aG DX.o (by omega)
 have P1:W6.heap.size≤WR.heap.size:=IK.size
 have RD:WR.heap.size+1<W8.heap.size:=xO.o.lt (by intro e;have :=congrArg List.length e;rw[cN xI]at this;simp at this)
 have jM:=ae hk8;have Vu:=ae QH
 clear IK QG hk8 QH It nc yR DX qf
 generalize WR.heap.size=pl at *
 obtain⟨pr,hpr⟩:∃pr,pr=pl+1:=⟨_,rfl⟩
 rw[←hpr]at xO RD⊢
 have EO:=ae hpr
 clear hpr
 generalize Xp:Value.agg (bX rL sL kL).toArray=vL
 generalize Xq:Value.agg (bX rR sR kR).toArray=vR
 clear Xp Xq
 have hk8:=iY.o.trans jM.o
 have QI:=QE.o.keeps jM.o
 have QJ:=QF.o.keeps jM.o
 have QK:=dM.o.keeps jM.o
 have hq8:q<W8.heap.size:=Nat.lt_of_lt_of_le hq6 jM.o.size
 have Kj:=ae hk8;have QL:=ae QI;have QM:=ae QJ;have QN:=ae QK
 clear hk8 QI QJ QK iY QE QF dM jM
 go_upto_region 6 with(first |(go_at_call 76;refine(tG.o _ Kj.o).mono ?_;rintro e W9 ⟨vc,rfl,hO⟩;have HO:=ae (show Own W8 W9 vc n zs from hO);clear hO)|(refine aO rfl (.tmp 29) (.tmp 30) rfl HO.o (Keeps.refl _) rfl _ rfl (9+f) FL (Rd.src (Rd.bQ (QN.o.keeps HO.o.keeps) (by have :=rH.o;simp;omega) (by have :=HO.o.keeps.size;omega) (by omega) (by unfold maxLen;omega)) Tryz.underlying44 (ai FL)) (by omega) ?_;intro v6 lN zS TD;rw[P6.o,HM.o]at zS;obtain⟨gm,om,cm,rfl,hcm1,hcm2,hgm,hrm⟩:=zS.buf.form (.inr (by have :=P6.o;omega));have dK:=ae hrm;have Jh:=ae zS;clear zS TD hrm)|(go_at_call 78;refine(vJ _ _ _ 64 (by omega) _).mono ?_;rintro e WC ⟨rfl,rfl⟩))
 have hra:kO w lN p2 pl pr p3 gm om M (fF fE M 0):=⟨Kj.o.trans Jh.o.keeps,QL.o.keeps Jh.o.keeps,Vu.o.keeps Jh.o.keeps,xO.o.keeps Jh.o.keeps,QM.o.keeps Jh.o.keeps,dK.o,by have :=Jh.o.new gm rfl;have :=Kj.o.size;have :=HP2.o;have :=Fl.o;have :=EO.o;have :=HQ.o;omega⟩
 have hW:w.heap.size≤lN.heap.size∧p3<lN.heap.size:=⟨hra.keeps.size,hra.st.lt (by simp[S5.list])⟩
 have bj:=ae hra
 clear hra Jh HO dK QL QM QN Vu xO Kj tG
 refine cf (fun W=>kO w W p2 pl pr p3 gm om M (fF fE M 0)∧W.cell? ⟨lN.heap.size,0,none⟩=some (.slice (some ⟨gm,om,none⟩) (64*B) cm)∧W.cell? ⟨lN.heap.size+1,0,none⟩=some (.int .i64 64)∧W.heap.size=lN.heap.size+2) ?_ ?_
 ·refine⟨bj.o.step (av (av (Keeps.refl _) _) _),?_,?_,by simp⟩
  · have :=(((Row.new [Value.slice (some ⟨gm,om,none⟩) (64*B) cm] _ 44 rfl:Row (lN.alloc _) _ _ _).alloc (.cells #[.int .i64 64] 3)) 0 _ rfl).1
    rwa[Nat.zero_add]at this
  · have :=((Row.new [Value.int .i64 64] _ 3 rfl:Row ((lN.alloc (.cells #[.slice (some ⟨gm,om,none⟩) (64*B) cm] 44)).alloc _) _ _ _) 0 _ rfl).1
    rwa[Nat.zero_add,World.size_alloc]at this
 intro WC ⟨Iq,hbs,hbn,hs7⟩
 have zT:=ae Iq
 clear Iq bj
 generalize lN.heap.size=q6 at *
 generalize TE:Value.agg #[Value.int IntKind.u32 1732584193,Value.int IntKind.u32 4023233417,Value.int IntKind.u32 2562383102,Value.int IntKind.u32 271733878,Value.int IntKind.u32 3285377520]=TF
 generalize(9+f -(9+f -8))=z1
 generalize(9+f -8)=z2
 clear TE
 refine(wpIn_wide (n:=3)).1 (wpIn_rangeFunc_ownG (α:=Fin B) rfl (by omega) (gf:=112) (lb:= #[.pointer (some ⟨q6,0,none⟩),.pointer (some ⟨q6+1,0,none⟩)]) rfl trivial (enters_of Tryz.func112 (by kernel_rfl) rfl)
  (rC _ (by omega) q6 (q6+1) WC.heap.size p3 gm om 64 B cm (by omega) (by omega) (by omega) hcm1 (by omega) (by omega) (by omega) (by omega) WC (Nat.le_refl _) hbs hbn) (fun h k=>bU.trans h k) (J4.b (Nat.le_refl _)) (Below.refl _ _) (fun _=>rfl)
  (fun ys W=>kO w W p2 pl pr p3 gm om M (pQ M fE ys))
  (fun _ _ _=>False)
  (EL _ w (by omega) p2 pl pr p3 gm om M _)
  (fun _ _ _ _ _ hs _ _=>hs)
  zT.o
  (fun x=>{tmps:= #[.slice a n cap,undef,.pointer (some ⟨p2,0,none⟩),.pointer (some ⟨p3,0,none⟩),.slice (some ⟨q,0,none⟩) (9+f) (9+f),.pointer (some ⟨pl,0,none⟩),.pointer (some ⟨pr,0,none⟩),.slice (some ⟨gm,om+64*x.val,none⟩) 64 64,undef,undef,undef,undef,undef,undef,undef,TF,.slice a n cap,.int .i64 n,.int .u64 n,.slice (some ⟨q,0,none⟩) (9+f) (9+f),.slice (some ⟨q,0,none⟩) (9+f) (9+f),.slice (some ⟨q,0,none⟩) (9+f) (9+f),.int .i64 (9+f),.int .i64 (9+f -8),.slice (some ⟨q,z2,none⟩) z1 z1,.tuple #[],vL,vR,.slice a n cap,vc,.slice (some ⟨q,0,none⟩) (9+f) (9+f),.slice (some ⟨gm,om,none⟩) (64*B) cm,.func (.func 112) #[] #[.pointer (some ⟨q6,0,none⟩),.pointer (some ⟨q6+1,0,none⟩)],
   .slice (some ⟨gm,om+64*x.val,none⟩) 64 64,undef,undef,undef,undef,undef,undef,undef,undef,undef,undef,undef,undef,undef,undef,undef,undef,undef,undef,undef,undef,undef,undef,undef,undef,undef,undef,undef,undef,undef,undef,undef,undef,undef,undef,undef,undef,undef,undef,undef,undef,undef,undef,undef,undef,undef,undef,undef,undef,undef,undef,undef,undef,undef,undef,undef,undef,undef,undef,undef,undef,undef,undef,undef,undef,undef,undef,undef,undef,undef,undef,undef,undef,undef,undef,undef,undef,undef,undef,undef,undef,undef,undef,undef,undef,undef,undef,undef,undef,undef,undef,undef,undef,undef,undef,undef,undef,undef,undef,undef,undef,undef,undef,undef,undef,undef,undef,undef,undef,undef,undef,undef,undef,undef,undef,undef,undef,undef,undef,undef,undef,undef],defers:=[]}) ?assign ?body ?done ?stop)
 case assign=>
  intro l x W K hK
  have M0:= @Oper.semAt_some
  gi_wp2
  exact hK
 case body=>
  rintro l pre x W hI hlen
  have hlk:((M.drop (64*x.val)).take 64).length=64:=by have :=qY.o;have :=x.isLt;simp;omega
  have hlb:Bytes ((M.drop (64*x.val)).take 64):=fun y hy=>J7.o y (List.mem_of_mem_drop (List.mem_of_mem_take hy))
  have hok:=II M pP pre
  have hrow:Row W gm (om+64*x.val) (((M.drop (64*x.val)).take 64).map (Value.int .u8)):=by
   have :=(hI.msg.drop (64*x.val)).take 64
   rwa[←List.map_drop,←List.map_take]at this
  have hsn:=tP M fE pre x
  generalize pQ M fE pre=s at *
  generalize(M.drop (64*x.val)).take 64=lk at *
  generalize om+64*x.val=ox at *
  have TG:=ae hsn;have HI:=ae hI;have Ok:=ae hlk;have xB:=ae hlb;have lL:=ae hok;have bY:=ae hrow
  clear hsn hI hlk hlb hok hrow
  have M0:= @Oper.semAt_some
  dsimp only
  gi_wp2
  have hr0:Row (W.alloc (.cells (List.replicate 16 (Value.int .u32 0)).toArray 149)) W.heap.size 0 ((fR lk 0).map (Value.int .u32)):=Row.new _ _ _ rfl
  have hk0:Keeps W (W.alloc (.cells (List.replicate 16 (Value.int .u32 0)).toArray 149)):=av (Keeps.refl W) _
  obtain⟨q8,hq8⟩:∃q,q=W.heap.size:=⟨_,rfl⟩
  rw[←hq8]at hr0⊢
  have HR0:=ae hr0;have Jk:=ae hk0;have Xr:=ae hq8
  clear hr0 hk0 hq8
  gi_loopw [34] (fun c wr=>∃i:Nat,i≤16∧c= .int .i64 i∧Keeps W wr∧Row wr q8 0 ((fR lk i).map (Value.int .u32))) (fun c _=>(16 -intOf c).toNat)
  case atStart=>exact⟨0,by omega,rfl,Jk.o,HR0.o⟩
  case round=>
   obtain⟨i,hi,rfl,hk,hrt⟩:=hrel
   by_cases hlt:i<16
   · have hcb:=bY.o.keeps hk
     have c0:=hcb.int (4*i) (by rw[Ok.o];omega)
     have c1:=hcb.int (4*i+1) (by rw[Ok.o];omega)
     have c2:=hcb.int (4*i+2) (by rw[Ok.o];omega)
     have c3:=hcb.int (4*i+3) (by rw[Ok.o];omega)
     have b0:=xB.o.getD (4*i)
     have b1:=xB.o.getD (4*i+1)
     have b2:=xB.o.getD (4*i+2)
     have b3:=xB.o.getD (4*i+3)
     have hd:=hrt.aT i (by rw[fD _ _ hi];exact hlt)
     have hf:=hrt.bR i (by rw[aF,fD _ _ hi];exact hlt)
     have hset:=fun nq=>(hrt.drewN nq).bl i (by rw[fD _ _ hi];exact hlt) (pO lk i)
     simp only[Ac _ _ hlt]at hset
     have hor:=ID b0 b1 b2 b3
     have Vw:pO lk i=lk.getD (4*i) 0+lk.getD (4*i+1) 0*256+lk.getD (4*i+2) 0*65536+lk.getD (4*i+3) 0*16777216:=rfl
     rw[←Vw]at hor
     have bx:=ae hset;have HK:=ae hk;have KJ:=ae hor
     clear hset hk hrt hcb hor Vw
     generalize pO lk i=lw at *
     generalize lk.getD (4*i) 0=y0 at *
     generalize lk.getD (4*i+1) 0=y1 at *
     generalize lk.getD (4*i+2) 0=y2 at *
     generalize lk.getD (4*i+3) 0=y3 at *
     obtain⟨b00,b01⟩:=b0
     obtain⟨b10,b11⟩:=b1
     obtain⟨b20,Oy⟩:=b2
     obtain⟨Oz,OB⟩:=b3
     gi_wp2
     refine qC 35 (by kernel_rfl) (by kernel_rfl) (by kernel_rfl) ?_
     simp only[List.take_succ_cons,List.take_zero,List.drop_succ_cons,List.drop_zero]
     repeat(first |go_big_quiet_step (fail)|quiet_step (fail))
     refine wpQuiet_nil ?_
     intro _ hw'
     obtain⟨nq,hw''⟩:=hw'
     subst hw''
     gi_wp2
     go_roundw
     case rel=>exact⟨i+1,by omega,by go_num,Below.setCell (HK.o.trans (Qt.drewN wr nq).keeps) (by have :=Xr.o;show W.heap.size≤q8;omega) _,by rw[KJ.o];exact bx.o nq⟩
     case measure=>simp[intOf];omega
   ·obtain rfl:i=16:=by omega
    gi_wp2
    have hxl:(fR lk 16).length=16:=fD _ _ (Nat.le_refl _)
    have Nm:=ae (tM xB.o 16)
    have T1:Hid (cB rL sL kL false s (fR lk 16) 80=cB rL sL kL false s (fR lk 16) 80):=ae rfl
    have HVV:Hid (cB rR sR kR true s (fR lk 16) 80=cB rR sR kR true s (fR lk 16) 80):=ae rfl
    have rO:Hid (block s lk=s.mix3 (cB rL sL kL false s (fR lk 16) 80) (cB rR sR kR true s (fR lk 16) 80)):=ae rfl
    have Vx:=ae (fC (rt:=rL) (st:=sL) (kt:=kL) (turned:=false) lL.o (fR lk 16) 80)
    have Vy:=ae (fC (rt:=rR) (st:=sR) (kt:=kR) (turned:=true) lL.o (fR lk 16) 80)
    have bB:=ae hrt
    have nA:=ae (HI.o.step hk)
    have aA:=ae hk
    clear hrt hk
    generalize fR lk 16=xs at *
    generalize Vz:cB rL sL kL false s xs 80=U at T1 rO Vx
    generalize VA:cB rR sR kR true s xs 80=Vv at HVV rO Vy
    have T1:=ae Vz
    have HVV:=ae VA
    clear Vz VA
    refine rM (Inv:=j2 wr _ (IF s xs U Vv) (U.list.map (Value.int .u32)) (Vv.list.map (Value.int .u32))) (by kernel_rfl) (by kernel_rfl) (j2.start _ _ _ _ wr) ?_ ?_
    ·intro listed a w' i o hs hI ho hl he
     have hT:(81:Nat)≤155:=by omega
     have Xt:i<12:=(Array.getElem?_eq_some_iff.1 ho).1
     have hc:i=0∨i=1∨i=2∨i=3∨i=4∨i=5∨i=6∨i=7∨i=8∨i=9∨i=10∨i=11:=by omega
     rcases hc with rfl|rfl|rfl|rfl|rfl|rfl|rfl|rfl|rfl|rfl|rfl|rfl
     all_goals(obtain rfl:=Option.some.inj (show some _=some o from ho))
     ·exact fB ho rfl (fun c e=>by cases e) (fL 147 (.tmp 5) rfl pl 0 (fS ((hI.base 5 (by omega) (by omega) (.inl (by omega))).trans rfl)) _ _ (nA.o.left.keeps hI.keeps) Tryz.underlying147 rfl (by rw[cN Ae];exact jh)) (hI.jS hs hT 0 (by omega) (Keeps.refl _))
     ·exact fB ho rfl (fun c e=>by cases e) (fL 143 (.tmp 3) rfl p3 0 (fS ((hI.base 3 (by omega) (by omega) (.inl (by omega))).trans rfl)) _ _ (nA.o.st.keeps hI.keeps) Tryz.underlying143 rfl (AH)) (hI.jS hs hT 1 (by omega) (Keeps.refl _))
     ·exact fB ho rfl (fun c e=>by cases e) (fL 149 (.tmp 8) rfl q8 0 (fS ((hI.base 8 (by omega) (by omega) (.inl (by omega))).trans rfl)) _ _ (bB.o.keeps hI.keeps) Tryz.underlying149 rfl (by rw[aF,hxl];exact QA)) (hI.jS hs hT 2 (by omega) (Keeps.refl _))
     · have l0:=he ⟨0,.data⟩ (by simp) rfl
       have l1:=he ⟨1,.data⟩ (by simp) rfl
       have l2:=he ⟨2,.data⟩ (by simp) rfl
       exact tK ho rfl (fun c e=>by cases e) (Ag 73 74 75 false rfl _ _ _ (fS (hI.val 0 (by omega) l0)) (fS (hI.val 1 (by omega) l1)) (fS (hI.val 2 (by omega) l2))) ((Af rL sL kL Ae false s lL.o xs hxl Nm.o _).mono (by rintro e w2 ⟨rfl,hk2⟩;exact⟨_,rfl,by rw[T1.o];exact hI.jS hs hT 3 (by omega) hk2⟩))
     ·exact fB ho rfl (fun c e=>by cases e) (fL 147 (.tmp 6) rfl pr 0 (fS ((hI.base 6 (by omega) (by omega) (.inl (by omega))).trans rfl)) _ _ (nA.o.right.keeps hI.keeps) Tryz.underlying147 rfl (by rw[cN xI];exact jh)) (hI.jS hs hT 4 (by omega) (Keeps.refl _))
     ·exact fB ho rfl (fun c e=>by cases e) (fL 143 (.tmp 3) rfl p3 0 (fS ((hI.base 3 (by omega) (by omega) (.inl (by omega))).trans rfl)) _ _ (nA.o.st.keeps hI.keeps) Tryz.underlying143 rfl (AH)) (hI.jS hs hT 5 (by omega) (Keeps.refl _))
     ·exact fB ho rfl (fun c e=>by cases e) (fL 149 (.tmp 8) rfl q8 0 (fS ((hI.base 8 (by omega) (by omega) (.inl (by omega))).trans rfl)) _ _ (bB.o.keeps hI.keeps) Tryz.underlying149 rfl (by rw[aF,hxl];exact QA)) (hI.jS hs hT 6 (by omega) (Keeps.refl _))
     · have l0:=he ⟨4,.data⟩ (by simp) rfl
       have l1:=he ⟨5,.data⟩ (by simp) rfl
       have l2:=he ⟨6,.data⟩ (by simp) rfl
       exact tK ho rfl (fun c e=>by cases e) (Ag 77 78 79 true rfl _ _ _ (fS (hI.val 4 (by omega) l0)) (fS (hI.val 5 (by omega) l1)) (fS (hI.val 6 (by omega) l2))) ((Af rR sR kR xI true s lL.o xs hxl Nm.o _).mono (by rintro e w2 ⟨rfl,hk2⟩;exact⟨_,rfl,by rw[HVV.o];exact hI.jS hs hT 7 (by omega) hk2⟩))
     ·exact fB ho rfl (fun c e=>by cases e) (tO rfl) (hI.alloc1 hs hT (getD_both hl) _)
     ·exact fB ho rfl (fun c e=>by cases e) (tO rfl) (hI.alloc2 hs hT (getD_both hl) _)
     · have l8:=he ⟨8,.data⟩ (by simp) rfl
       have l3:=he ⟨3,.data⟩ (by simp) rfl
       obtain⟨x,x1,x2,x3,x4⟩:=hI.one l8
       rw[getD_both hl]at x4
       exact mV ho rfl 143 (.tmp 10) (.tmp 76) rfl x 0 (fS x1) _ (U.list.map (Value.int .u32)) (fS (hI.val 3 (by omega) l3)) x4 rfl AH (ai _) (fun w2 hr2 hc2=>hI.store1 hs l8 x x1 hr2 hc2)
     · have l9:=he ⟨9,.data⟩ (by simp) rfl
       have l7:=he ⟨7,.data⟩ (by simp) rfl
       obtain⟨x,x1,x2,x3,x4⟩:=hI.two l9
       rw[getD_both hl]at x4
       exact mV ho rfl 143 (.tmp 11) (.tmp 80) rfl x 0 (fS x1) _ (Vv.list.map (Value.int .u32)) (fS (hI.val 7 (by omega) l7)) x4 rfl AH (ai _) (fun w2 hr2 hc2=>hI.store2 hs l9 x x1 hr2 hc2)
    ·intro listed a w' hs hI hall
     have hT:(81:Nat)≤155:=by omega
     obtain⟨x1,y1,rfl,hkw,hx,hy,hxy,hx2,hy2,hrx,VC⟩:=hI.final hT hall
     simp only[kP]
     have hrs:=nA.o.st.keeps hkw
     have hp3:=nA.o.st.lt (by simp[S5.list])
     have hu:=Vx.o;have hv:=Vy.o;have ho:=lL.o
     obtain⟨ra,rb,rc,rd,re⟩:=s
     obtain⟨ua,ub,uc,ud,ue⟩:=U
     obtain⟨va,vb,Xu,vd,ve⟩:=Vv
     obtain⟨s0,s1',s2',s3,s4⟩:=S5.cells hrs
     obtain⟨u0,u1,u2,u3,u4⟩:=S5.cells hrx
     obtain⟨v0,v1,v2,v3,v4⟩:=S5.cells VC
     obtain⟨⟨Xv,Xw⟩,⟨Xx,Xy⟩,⟨Xz,XA⟩,⟨XB,XC⟩,⟨XD,XE⟩⟩:=ho
     obtain⟨⟨XF,XG⟩,⟨m10,m11⟩,⟨m20,m21⟩,⟨XH,XI⟩,⟨XJ,XK⟩⟩:=hu
     obtain⟨⟨XM,n01⟩,⟨n10,n11⟩,⟨n20,n21⟩,⟨n30,n31⟩,⟨n40,n41⟩⟩:=hv
     simp only[]at s0 s1' s2' s3 s4 u0 u1 u2 u3 u4 v0 v1 v2 v3 v4
     have gQ:=ae hrs;have Qb:=ae hkw
     clear hrs hrx VC hkw hI
     simp only[ptr,IF]
     gi_wp2_with (refine oD rfl 143 (.tmp 3) (.tmp 121) rfl p3 0 rfl _ [_,_,_,_,_] rfl gQ.o rfl AH (by intro v hv;simp only[List.mem_cons,List.not_mem_nil,or_false]at hv;rcases hv with rfl|rfl|rfl|rfl|rfl<;>rfl) ?_;intro w9 aR aJ;have lr:=ae aR;have bK:=ae aJ;clear aR aJ)
     have hc:=((aA.o.trans Qb.o).aG (· =p3)).trans bK.o
     refine⟨zQ hc (zP HI.o.st),hc.mono (fun k _ e=> .inl e),?_⟩
     show kO w w9 p2 pl pr p3 gm om M (pQ M fE (pre++[x]))
     rw[TG.o,rO.o]
     exact HI.o.aG hc lr.o
 case done=>
  rintro D ys W hD hys hI hK
  rw[hys,EN]at hI
  have hok:=qE pP M B
  generalize hse:fF fE M B=s at *
  have hDs:D<W.heap.size:=(Array.getElem?_eq_some_iff.1 hK).1
  have HI:=ae hI;have HK:=ae hK;have lL:=ae hok;have xV:=ae hse
  clear hI hK hok hse hys zT hbs hbn HM rH
  go_upto_region 16 with(fail)
  obtain⟨q9,dP⟩:∃q,q=W.heap.size:=⟨_,rfl⟩
  have jy:kO w (W.alloc (.cells (List.replicate 20 (Value.int .u8 0)).toArray 55)) p2 pl pr p3 gm om M s:=HI.o.step (av (Keeps.refl _) _)
  have hrq:Row (W.alloc (.cells (List.replicate 20 (Value.int .u8 0)).toArray 55)) q9 0 ((ei s 0).map (Value.int .u8)):=by rw[dP];exact Row.new _ _ _ (by rw[kJ];rfl)
  have rW:w.heap.size≤q9∧p2≠q9∧p3≠q9∧D≠q9:=by
   have h1:=HI.o.res.lt (by simp)
   have h3:=HI.o.st.lt (by simp[S5.list])
   have h5:=HI.o.keeps.size
   omega
  have P9:(W.alloc (.cells (List.replicate 20 (Value.int .u8 0)).toArray 55)).heap[D]? =some (.deferred (some [])):=by rw[(av (Keeps.refl W) _).block D hDs];exact HK.o
  rw[←dP]
  refine cf (fun W' =>kO w W' p2 pl pr p3 gm om M s∧Row W' q9 0 ((ei s 0).map (Value.int .u8))∧W'.heap[D]? =some (.deferred (some []))) ⟨jy,hrq,P9⟩ ?_
  clear jy hrq dP P9
  intro Wa ⟨hra,hrq,hda⟩
  have bj:=ae hra;have pH:=ae hrq;have lW:=ae rW;have TH:=ae hda
  have TI:D<Wa.heap.size:=(Array.getElem?_eq_some_iff.1 hda).1
  clear hra hrq HI rW hda HK
  have Z5:Hid ((Tryz.prog.info? 143).map (·.size)=some (s.list.map (Value.int .u32)).length):=ae AH
  go_upto_region 17 with(refine aj rfl 143 (.tmp 3) rfl p3 0 rfl (s.list.map (Value.int .u32)) _ bj.o.st Tryz.underlying143 rfl Z5.o ?_)
  go_loopw [123] (fun c wr=>∃i:Nat,i≤5∧c= .int .i64 i∧bU (· =q9) Wa wr∧Row wr q9 0 ((ei s (4*i)).map (Value.int .u8))) (fun c _=>(5 -intOf c).toNat)
  case atStart=>exact⟨0,by omega,rfl,bU.refl _ _,pH.o⟩
  case round=>
   obtain⟨i,hi,rfl,hch,hr⟩:=hrel
   by_cases hlt:i<5
   · have hix:∀W:World,(Instr.index 143 (.agg (s.list.map (Value.int .u32)).toArray) (.int .i64 (i:Int))).run Tryz.prog W= .ok (.int .u32 (s.list.getD i 0)) W:=fun W=>dr W _ _ 5 _ s.list i Tryz.underlying143 Tryz.underlying23 (by kernel_rfl) rfl hlt
     have hlen:=cM s (4*i) (by omega)
     have e0:=hr.aT (4*i) (by omega)
     have e1:=hr.aT (4*i+1) (by omega)
     have e2:=hr.aT (4*i+2) (by omega)
     have e3:=hr.aT (4*i+3) (by omega)
     have g0:=hr.bR (4*i) (by simp;omega)
     have g1:=hr.bR (4*i+1) (by simp;omega)
     have g2:=hr.bR (4*i+2) (by simp;omega)
     have g3:=hr.bR (4*i+3) (by simp;omega)
     have hx:W32 (s.list.getD i 0):=j4.jP lL.o i
     have hs0:=gl s (4*i) (by omega)
     have hs1:=gl s (4*i+1) (by omega)
     have hs2:=gl s (4*i+2) (by omega)
     have hs3:=gl s (4*i+3) (by omega)
     rw[show 4*i/4=i by omega,show 4*i%4=0 by omega]at hs0
     rw[show(4*i+1)/4=i by omega,show(4*i+1)%4=1 by omega]at hs1
     rw[show(4*i+2)/4=i by omega,show(4*i+2)%4=2 by omega]at hs2
     rw[show(4*i+3)/4=i by omega,show(4*i+3)%4=3 by omega]at hs3
     have dF:=ae hch
     clear hch
     generalize s.list.getD i 0=x at *
     obtain⟨hx0,hx1⟩:=hx
     simp only[Nat.mul_zero,Nat.mul_one,Nat.reduceMul,Int.pow_zero,Int.ediv_one]at hs0 hs1 hs2 hs3
     have hset:=(((hr.bl (4*i) (by omega) (x%256)).bl (4*i+1) (by simp;omega) (x/2^8%256)).bl (4*i+2) (by simp;omega) (x/2^16%256)).bl (4*i+3) (by simp;omega) (x/2^24%256)
     rw[hs0,hs1,hs2,hs3,show x/2^24%256=x/16777216 by omega,show x/2^8%256=x/256%256 by omega,show x/2^16%256=x/65536%256 by omega]at hset
     have bx:=ae hset
     clear hr hset hs0 hs1 hs2 hs3
     go_wp2
     go_roundw
     case rel=>exact⟨i+1,by omega,by go_num,(((dF.o.setCell (.inr rfl) _).setCell (.inr rfl) _).setCell (.inr rfl) _).setCell (.inr rfl) _,bx.o⟩
     case measure=>simp[intOf];omega
   ·obtain rfl:i=5:=by omega
    rw[ix]at hr
    have hw2:=bj.o.res.aG hch lW.o.2.1
    have hkw:=aD bj.o.keeps hch lW.o.1
    have hdw:wr.heap[D]? =some (.deferred (some [])):=by rw[hch.block D TI (fun e=>lW.o.2.2.2 e)];exact TH.o
    have h20:(j4.dI s.list).length=20:=j4.bq _
    have Nq:Hid ((Tryz.prog.info? 55).map (·.size)=some ((j4.dI s.list).map (Value.int .u8)).length):=by
     rw[aF,h20];exact ae (by kernel_rfl)
    have hdl:D<wr.heap.size:=(Array.getElem?_eq_some_iff.1 hdw).1
    have HRR:=ae hr;have HOW:=ae hw2;have aA:=ae hkw;have TL:=ae hdw
    clear hr hch hw2 hkw hdw
    go_wp2_with (first |(refine aj rfl 55 (.tmp 12) rfl q9 0 rfl _ _ HRR.o Tryz.underlying55 rfl Nq.o ?_)|(refine wpList_store_row rfl 55 (.tmp 2) (.tmp 154) rfl p2 0 rfl _ _ rfl HOW.o (by simp[h20]) Nq.o (ai _) ?_;intro lN iK eh;have cP:=ae iK;have fP:=ae eh;clear iK eh))
    have hK2:lN.heap[D]? =some (.deferred (some [])):=by
     rw[fP.o.block D hdl (fun e=>by have h2:=HP2.o;have e':D=p2:=e;omega)];exact TL.o
    have Qa:Keeps w lN:=Below.trans aA.o (fP.o.below aA.o.size (fun k hk e=>by have :=HP2.o;omega))
    have M7:=ae (fA cP.o (grownBy_putObj' lN D (.deferred none)) (fun r e=>by cases e;exact⟨_,hK2,rfl⟩))
    have Qb:=ae (Below.trans Qa (belowK_b (w:=w) (Nat.le_refl _) lN D _ (.deferred none) (by omega) hK2 rfl rfl))
    clear Qa
    simp only[kP]
    refine⟨by simp,.inl ⟨_,_,rfl,run_takeDeferred hK2,?_⟩⟩
    exact⟨_,ar (p:=2) (ty:=55) rfl _ _ p2 0 _ _ rfl M7.o Tryz.underlying55 rfl Nq.o,by rw[xV.o],Qb.o⟩
 case stop=>
  rintro D c pre W _ _ h _
  exact h.elim
end Go.Proofs.YtlofddoojkeakaaGreatDoor.j4
