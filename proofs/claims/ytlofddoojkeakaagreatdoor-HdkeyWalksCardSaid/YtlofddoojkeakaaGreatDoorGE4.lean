/- The reference's Step, over letters; its early errors; Step against stepV. -/
import Derived.Test.YtlofddoojkeakaaGreatDoorGE2
import Derived.Test.YtlofddoojkeakaaGreatDoorGD5
import Derived.Test.YtlofddoojkeakaaGreatDoorGC5
import Derived.Test.YtlofddoojkeakaaGreatDoorGC6
import Derived.Test.YtlofddoojkeakaaGreatDoorGE3
set_option maxRecDepth 100000
set_option maxHeartbeats 32000000
set_option linter.unusedVariables false
set_option linter.unusedSimpArgs false
namespace Go.Proofs.YtlofddoojkeakaaGreatDoor
open Go Go.RowKit Cv
theorem uN{w W W':World}{p q:Nat}(h:Keeps w W)(c:bU (fun g=>g=p∨g=q) W W')(hp:w.heap.size≤p)(hq:w.heap.size≤q):Keeps w W':=Below.trans h (bU.below c h.size (fun k hk e=>by omega))
theorem Cj{o:Oper}(hg:o.guard=none)(ho:o.op= .alloc 24):fW Tryz.prog o (ce.map (Value.int .u8)):=⟨hg,24,fun a w=>by
 unfold execOp
 simp only[ho]
 go_simp
 exact⟨rfl,rfl⟩⟩
theorem Ck(d n:Int):Tryz.prog.built 27 [(0,.int .u8 d),(2,.int .u32 n)]=some (tW d n cw).cells.toArray:=by
 rw[show∀parts,Tryz.prog.built 27 parts=Instr.fill dJ K0.cells.toArray parts from fun parts=>by kernel_rfl]
 rw[dt K0,dt (tW d n cw)]
 have JQ:(K0.fg.map (Value.int .u8)).length=4:=rfl
 show Instr.fill dJ _ _=some ([Value.int .u8 d]++(K0.fg.map (Value.int .u8)++([Value.int .u32 n]++(K0.cc.map (Value.int .u8)++(K0.x::K0.z).map (Value.int .u8))))).toArray
 generalize K0.fg.map (Value.int .u8)=A at *
 generalize K0.cc.map (Value.int .u8)=B at *
 generalize(K0.x::K0.z).map (Value.int .u8)=C at *
 have s0:=ev dJ [] [.int .u8 K0.d] (A++([.int .u32 K0.ch]++(B++C))) [.int .u8 d] 0 (.int .u8 d) [(2,.int .u32 n)] rfl rfl rfl
 have s2:=ev dJ ([.int .u8 d]++A) [.int .u32 K0.ch] (B++C) [.int .u32 n] 2 (.int .u32 n) [] rfl rfl (by rw[List.length_append,JQ];rfl)
 simp only[List.append_assoc,List.nil_append,List.append_nil]at s0 s2
 rw[s0,s2]
 rfl
theorem uO(d:Int)(fg:List Int)(ch:Int)(cc da:List Int)(i:Nat)(x:Int)(hi:i<fg.length):(aP d fg ch cc da).set (1+i) (.int .u8 x)=aP d (fg.set i x) ch cc da:=by
 unfold aP
 rw[Nat.add_comm 1 i]
 simp[List.set_append_left,hi,List.map_set]
def m3(l:List Int)(i:Nat):List Int:=l.take i++List.replicate (4 -i) 0
theorem pW{l:List Int}{i:Nat}(h:4≤l.length)(hi:i≤4):(m3 l i).length=4:=by simp[m3];omega
theorem E2{l:List Int}{i:Nat}(h:4≤l.length)(hi:i<4):(m3 l i).set i (l.getD i 0)=m3 l (i+1):=by
 unfold m3
 have e:4 -i=(4 -(i+1))+1:=by omega
 have hl:(l.take i).length=i:=by simp;omega
 rw[e,List.replicate_succ,List.set_append_right _ _ (by omega),hl,Nat.sub_self,List.set_cons_zero,List.take_succ_eq_append_getElem (by omega:i<l.length),List.append_assoc]
 have :l.getD i 0=l[i]:=by simp[List.getD,(by omega:i<l.length)]
 rw[this];rfl
theorem I1(k:KD)(h:k.ok)(n:Int)(h0:0≤n)(h1:n<4294967296)(hg:cF k.x k.z=true)(hd:¬k.d=255)(hh:¬(2147483648≤n∧¬k.x=0))(w:World):
 Calls Tryz.prog 8 #[.agg k.cells.toArray,.int .u32 n] w fun e w' =>e= .returned (.tuple #[.agg (bE k n).1.cells.toArray,.int .i64 (bE k n).2])∧Keeps w w':=by
 have hgd:=fun W=>rZ k h W
 rw[hg]at hgd
 have uA:=ae hgd
 clear hgd
 have kV:=ae (fun W=>Ap k h W)
 have hpl:=dB h
 have hpb:=fM h
 have hkl:=h.len
 have ZK:=ae h.AL
 have Am:=ae (fun(W:World) (p:Nat) (hr:Row W p 0 k.cells)=>And.intro (h.row38 hr) (h.qG hr))
 have RWS:=ae (fun(W:World) (p:Nat) (hr:Row W p 0 k.cells)=>h.rows hr)
 have iO:=ae (fun W=>IW n h0 h1 W)
 have uJ:(four n).length=4:=rfl
 have Nz:=lx h0 h1
 have hdl:=h.dl
 have hdb:=h.db
 have hcl:=h.cl
 have hcb:=h.cb
 have eg:=jA k n
 obtain⟨FR,nC,hfl,hfb⟩:∃FR,FR=(if 2147483648≤n then k.x::k.z else bf k.x k.z)∧FR.length=33∧Bytes FR:=by
  by_cases hn:2147483648≤n
  ·exact⟨_,rfl,by rw[if_pos hn];exact hdl,by rw[if_pos hn];exact hdb⟩
  ·exact⟨_,rfl,by rw[if_neg hn];exact hpl,by rw[if_neg hn];exact hpb⟩
 have hch:pD.qz k.cc (FR++four n)=a6 k n:=by unfold a6;rw[nC]
 have tY:=ae (fun(kv bv:Value) (W:World) (hk:Rd W 1 kv 32 (k.cc.map (Value.int .u8))) (hb:Rd W 1 bv 37 ((FR++four n).map (Value.int .u8)))=>pD.IB kv bv 32 37 k.cc (FR++four n) W hk hcb (by omega) hb (fun y hy=>by rcases List.mem_append.1 hy with e|e;exact hfb y e;exact Nz y e) (by omega))
 rw[hch]at tY
 have hst1:(bG k n).2=0→bE k n=(⟨k.d+1,es k,n,(a6 k n).drop 32,(bG k n).1.headD 0,(bG k n).1.drop 1⟩,0):=fun e=>by
  unfold bE;rw[if_pos hg,if_neg hd,if_neg hh,if_pos e]
 have hst2:¬(bG k n).2=0→bE k n=(K0,7):=fun e=>by
  unfold bE;rw[if_pos hg,if_neg hd,if_neg hh,if_neg e]
 have hcb0:k.x=0→bG k n=(0::(eL (be k.z) (be ((a6 k n).take 32))).1,(eL (be k.z) (be ((a6 k n).take 32))).2):=fun e=>by unfold bG;rw[if_pos e]
 have qK:¬k.x=0→bG k n=gK (k.x::k.z) (be ((a6 k n).take 32)):=fun e=>by unfold bG;rw[if_neg e]
 have tZ:Bytes ((a6 k n).take 32):=fun y hy=>ib k n y (List.mem_of_mem_take hy)
 have Ov:=ae (fun W=>zB k.z ((a6 k n).take 32) h.zb tZ h.zl (by rw[List.length_take,eg];rfl) W)
 have xT:=ae (fun W=>zF (k.x::k.z) ((a6 k n).take 32) hdb tZ hdl (by rw[List.length_take,eg];rfl) W)
 have uK:=iw (be k.z) (be ((a6 k n).take 32))
 have uL:=eM (k.x::k.z) (be ((a6 k n).take 32))
 have xV:=ae (fun(hx:k.x=0) W=>wd k h hx W)
 have hzl:=h.zl
 have uf:=ae (fun(v:Value) W (hv:Rd W 1 v 33 ((bf k.x k.z).map (Value.int .u8)))=>j4.Ai v 33 (bf k.x k.z) W hv hpb (by omega))
 have xW:=j4.dE (sha256 (bf k.x k.z))
 have hfin:es k=(j4.ef (sha256 (bf k.x k.z))).take 4:=rfl
 generalize j4.ef (sha256 (bf k.x k.z))=F20 at *
 generalize es k=FG at *
 generalize eL (be k.z) (be ((a6 k n).take 32))=AK at *
 generalize gK (k.x::k.z) (be ((a6 k n).take 32))=AP at *
 generalize bG k n=CB at *
 obtain⟨a0,az,hap⟩:∃a0 az,AP.1=a0::az:=by cases hA:AP.1 with |nil=>rw[hA]at uL;cases uL|cons a l=>exact⟨a,l,rfl⟩
 have ug:=ae hap;clear hap
 generalize a6 k n=CH at *
 generalize four n=F4 at *
 generalize bf k.x k.z=PV at *
 have Uh:(decide (2147483648≤n)=true∧k.x=0∧FR=k.x::k.z)∨(decide (2147483648≤n)=false∧k.x=0∧FR=PV)∨(decide (2147483648≤n)=false∧¬k.x=0∧FR=PV):=by
  by_cases hn:2147483648≤n
  ·exact .inl ⟨decide_eq_true hn,Classical.byContradiction fun e=>hh ⟨hn,e⟩,by rw[nC,if_pos hn]⟩
  · by_cases hx:k.x=0
    ·exact .inr (.inl ⟨decide_eq_false hn,hx,by rw[nC,if_neg hn]⟩)
    ·exact .inr (.inr ⟨decide_eq_false hn,hx,by rw[nC,if_neg hn]⟩)
 clear nC hch hh
 have hdw:IntKind.u8.wrap (k.d+1)=k.d+1:=by rw[IntKind.wrap_u8];have :=h.d;omega
 obtain⟨wh,mb⟩:(CH.take 32).length=32∧(CH.drop 32).length=32:=⟨by rw[List.length_take,eg];rfl,by rw[List.length_drop,eg]⟩
 have jH:FG.length=4:=by rw[hfin,List.length_take,xW];rfl
 have VH:m3 F20 4=FG:=by rw[hfin];unfold m3;simp
 obtain⟨ST,hS0,Q8,NR,hSl⟩:∃ST:Nat→List Value,ST 0=(tW (k.d+1) n cw).cells∧ST 32=aP (k.d+1) (m3 F20 0) n (CH.drop 32) (0::cw)∧(∀i,i<32→(ST i).set (6+i) (.int .u8 (CH.getD (32+i) 0))=ST (i+1))∧∀i,i≤32→(ST i).length=71:=by
  refine⟨fun i=>aP (k.d+1) Z4 n (jO (CH.drop 32) i) (0::cw),by simp only[ll];rfl,by simp only[lm mb];rfl,fun i hi=> ?_,fun i hi=>bp rfl (eW mb hi) rfl⟩
  have e2:CH.getD (32+i) 0=(CH.drop 32).getD i 0:=by simp[List.getD]
  rw[uH _ _ _ _ rfl _ _ (by rw[eW mb (by omega)];exact hi),e2,ns mb hi]
 obtain⟨SB,hB0,Q9,hBs,hBl⟩:∃SB:Nat→List Int,SB 0=ce∧SB 32=CH.take 32∧(∀i,i<32→(SB i).set i (CH.getD i 0)=SB (i+1))∧∀i,i≤32→(SB i).length=32:=by
  refine⟨fun i=>jO (CH.take 32) i,ll _,lm wh,fun i hi=> ?_,fun i hi=>eW wh hi⟩
  have e1:CH.getD i 0=(CH.take 32).getD i 0:=by simp[List.getD,hi]
  rw[e1,ns wh hi]
 obtain⟨SF,VI,VJ,VK,VL⟩:∃SF:Nat→List Value,SF 0=aP (k.d+1) (m3 F20 0) n (CH.drop 32) (0::cw)∧SF 4=aP (k.d+1) FG n (CH.drop 32) (0::cw)∧(∀i,i<4→(SF i).set (1+i) (.int .u8 (F20.getD i 0))=SF (i+1))∧∀i,i≤4→(SF i).length=71:=by
  refine⟨fun i=>aP (k.d+1) (m3 F20 i) n (CH.drop 32) (0::cw),rfl,by simp only[VH],fun i hi=> ?_,fun i hi=>bp (pW (by omega) hi) mb rfl⟩
  rw[uO _ _ _ _ _ _ _ (by rw[pW (by omega) (by omega)];exact hi),E2 (by omega) hi]
 obtain⟨SD,hD0,NE,hDs,hDl⟩:∃SD:Nat→List Value,SD 0=aP (k.d+1) FG n (CH.drop 32) (0::cw)∧SD 32=(KD.mk (k.d+1) FG n (CH.drop 32) 0 AK.1).cells∧(∀i,i<32→(SD i).set (38+(i+1)) (.int .u8 (AK.1.getD i 0))=SD (i+1))∧∀i,i≤32→(SD i).length=71:=by
  refine⟨fun i=>aP (k.d+1) FG n (CH.drop 32) (0::jO AK.1 i),by simp only[ll];rfl,by simp only[lm uK];rfl,fun i hi=> ?_,fun i hi=>bp jH mb (by rw[List.length_cons,eW uK hi])⟩
  rw[uI _ _ _ jH mb,List.set_cons_succ,ns uK hi]
 have XZ:=ae (show(aP (k.d+1) FG n (CH.drop 32) (0::cw)).take 38++AP.1.map (Value.int .u8)++(aP (k.d+1) FG n (CH.drop 32) (0::cw)).drop (38+(AP.1.map (Value.int .u8)).length)=(KD.mk (k.d+1) FG n (CH.drop 32) a0 az).cells by rw[ug.o];exact tX (KD.mk (k.d+1) FG n (CH.drop 32) 0 cw) jH mb rfl a0 az (by rw[←ug.o];exact uL))
 have B1:=ae (Ck (k.d+1) n)
 have RF:(KD.mk (k.d+1) FG n (CH.drop 32) a0 az).cells.length=71:=bp jH mb (by rw[←ug.o];exact uL)
 have SR:=ae (show(Tryz.prog.info? 27).map (·.size)=some 71 by kernel_rfl)
 have sI:=ae hS0;have Ra:=ae Q8;have Rr:=ae NR;have HSL:=ae hSl
 have HB0:=ae hB0;have Ui:=ae Q9;have Jn:=ae hBs;have rO:=ae hBl
 have RN:=ae VI;have Uj:=ae VJ;have X0:=ae VK;have rH:=ae VL
 have HD0:=ae hD0;have Uk:=ae NE;have X3:=ae hDs;have yu:=ae hDl
 have X4:=ae (KD.mk (k.d+1) FG n (CH.drop 32) a0 az).one
 have ND:=ae (KD.mk (k.d+1) FG n (CH.drop 32) 0 AK.1).one
 have Jl:(KD.mk (k.d+1) FG n (CH.drop 32) 0 AK.1).cells.length=71:=by rw[←NE];exact hDl 32 (Nat.le_refl _)
 have X5:=ae (fun(hx:k.x=0) (he:AK.2=0)=>show bE k n=(KD.mk (k.d+1) FG n (CH.drop 32) 0 AK.1,0) by rw[hst1 (by rw[hcb0 hx];exact he),hcb0 hx];rfl)
 have X6:=ae (fun(hx:¬k.x=0) (he:AP.2=0)=>show bE k n=(KD.mk (k.d+1) FG n (CH.drop 32) a0 az,0) by rw[hst1 (by rw[qK hx];exact he),qK hx,ug.o];rfl)
 have Ul:=ae (fun(hx:k.x=0) (he:¬AK.2=0)=>hst2 (by rw[hcb0 hx];exact he))
 have X7:=ae (fun(hx:¬k.x=0) (he:¬AP.2=0)=>hst2 (by rw[qK hx];exact he))
 clear hst1 hst2 hcb0 qK hS0 Q8 NR hSl hB0 Q9 hBs hBl VI VJ VK VL hD0 NE hDs hDl VH hfin
 generalize aP (k.d+1) FG n (CH.drop 32) (0::cw)=K2 at *
 generalize aP (k.d+1) (m3 F20 0) n (CH.drop 32) (0::cw)=K1 at *
 generalize(KD.mk (k.d+1) FG n (CH.drop 32) a0 az)=K4 at *
 generalize(KD.mk (k.d+1) FG n (CH.drop 32) 0 AK.1)=K3 at *
 generalize tW (k.d+1) n cw=KA at *
 generalize CH.take 32=BY at *
 generalize k.cells=KC at *
 generalize bE k n=SV at *
 have hd2:(k.d==255)=false:=by rw[beq_eq_false_iff_ne];exact hd
 have hkz:=hzl
 generalize k.z=kz at *
 generalize k.x=kx at *
 generalize k.cc=X8 at *
 generalize hkd:k.d=kd at *
 clear h hkd hd
 rcases Uh with⟨hn,hx,nC⟩|⟨hn,hx,nC⟩|⟨hn,hx,nC⟩
 all_goals
  first |(subst hx;have hxe:((0:Int)==0)=true:=rfl;have hxn:((0:Int)!=0)=false:=rfl)|(have hxe:(kx==0)=false:=by rw[beq_eq_false_iff_ne];exact hx)
  go_enter Tryz.func8,Tryz.ntmps8
  go_upto_region 1 with(fail)
  refine bu (fun W hk hr hr2 hs=> ?_)
  obtain⟨p,hp⟩:∃p,p=w.heap.size:=⟨_,rfl⟩
  rw[←hp]at hr hr2 hs⊢
  have hkp:w.heap.size≤p:=by omega
  have HR:=ae (show Row W p 0 KC from by simpa using hr);have HK:=ae hk
  have aV:=ae (show Row W (p+1) 0 K0.cells from hr2)
  have hps:p+1<W.heap.size:=by omega
  clear hp hk hr hr2 hs
  go_upto_region 3 with(first |(refine aj rfl 27 (.tmp 2) rfl p 0 rfl _ _ HR.o Tryz.underlying27 rfl ZK.o ?_)|(go_at_call 11;refine(uA.o _).mono ?_;rintro e W1 ⟨rfl,hk1⟩;have bw:=ae hk1;clear hk1))
  have aV:=ae (aV.o.keeps bw.o);have HR:=ae (HR.o.keeps bw.o);have aA:=ae (HK.o.trans bw.o)
  have hps1:p+1<W1.heap.size:=Nat.lt_of_lt_of_le hps bw.o.size
  clear HK bw hps
  obtain⟨c0,r1,c5,r6⟩:=RWS.o _ _ HR.o
  obtain⟨AJ,AG⟩:=Am.o _ _ HR.o
  have R6:=ae r6
  clear r1 r6 c5 AJ
  go_upto_region 8 with(fail)
  clear c0 AG
  go_upto_region 9 with(first |(refine aj rfl 27 (.tmp 2) rfl p 0 rfl _ _ HR.o Tryz.underlying27 rfl ZK.o ?_)|(go_at_call 15;refine(kV.o _).mono ?_;rintro e W2 ⟨rfl,hk1⟩;have aq:=ae hk1;clear hk1)|(refine ws (g:=W2.heap.size) (olds:=(bA.map (Value.int .u8))) (Row.new _ _ _ rfl) hpl rfl (h:= ?_);intro W6 hr2 hc2;have dM:=ae hr2;have bS:=ae (ag (ah aq.o _) hc2 aq.o.size);clear hr2 hc2))
  have aV:=ae (aV.o.keeps bS.o);have HR:=ae (HR.o.keeps bS.o);have aA:=ae (aA.o.trans bS.o);have R6:=ae (R6.o.keeps bS.o)
  have hpq:p+1<W2.heap.size:=Nat.lt_of_lt_of_le hps1 aq.o.size
  generalize W2.heap.size=q6 at *
  have At:q6<W6.heap.size:=dM.o.lt (aM hpl)
  clear aq bS hps1
  have hcc:(X8.map (Value.int .u8)).length=32:=by rw[aF,hcl]
  have pL:=ae (fun bv W (hk:Keeps W6 W) (hb:Rd W 1 bv 37 ((FR++F4).map (Value.int .u8)))=>tY.o (.slice (some ⟨p,6,none⟩) 32 32) bv W (Rd.bQ (R6.o.keeps hk) (by rw[hcc]) (by have :=hk.size;omega) (Nat.le_refl _) (by unfold maxLen;omega)) hb)
  have oG:Hid (∀W,Keeps W6 W→(decide (2147483648≤n)=true→Src Tryz.prog 1 44 (.slice (some ⟨p,38,none⟩) 33 33) 33 (FR.map (Value.int .u8)) W)∧(decide (2147483648≤n)=false→Src Tryz.prog 1 44 (.slice (some ⟨q6,0,none⟩) 33 33) 33 (FR.map (Value.int .u8)) W)):=ae (fun W hk=>⟨fun h=>by first |exact absurd (hn.symm.trans h) (by decide)|exact Src.row Tryz.underlying44 (by rw[aF,hfl]) (by rw[nC];exact(Am.o _ _ (HR.o.keeps hk)).1) (ai _),fun h=>by first |exact absurd (hn.symm.trans h) (by decide)|exact Src.row Tryz.underlying44 (by rw[aF,hfl]) (by rw[nC];exact dM.o.keeps hk) (ai _)⟩)
  have HN:=ae hn
  have HOWN:∃g,g=gn (Keeps.refl W6):=⟨_,rfl⟩
  go_upto_region 13 with(first |(refine aO rfl (.tmp 41) (.tmp 43) rfl (gn (Keeps.refl W6)) (Keeps.refl _) rfl _ rfl 33 FR ((oG.o _ (Keeps.refl W6)).1 HN.o) (by omega) ?_;intro v1 w1 ho1 hg1;have dw:=ae ho1;clear ho1 hg1)|(refine aO rfl (.tmp 45) (.tmp 46) rfl (gn (Keeps.refl W6)) (Keeps.refl _) rfl _ rfl 33 FR ((oG.o _ (Keeps.refl W6)).2 HN.o) (by omega) ?_;intro v1 w1 ho1 hg1;have dw:=ae ho1;clear ho1 hg1))
  clear HOWN hn
  have hownd:Own W6 w1.drew v1 33 FR:=by
   have :=dw.o
   rw[List.nil_append]at this
   exact this.step (bz (Keeps.refl _))
  have Um:=ae hownd
  clear hownd
  rename_i X9 NF
  refine pT [9,48,49,50,51,52,53,54] (fun us W=>∃q9,us.getD 0 undef= .pointer (some ⟨q9,0,none⟩)∧Keeps W6 W∧Row W q9 0 (CH.map (Value.int .u8))∧W6.heap.size≤q9) NF (fun rJ=> ?_) ?_
  focus
   have key:=fun u1 u2 u3 u4 u5 u6 u7 u8 w' =>rJ [u1,u2,u3,u4,u5,u6,u7,u8] w' rfl
   clear rJ NF
   simp only[jC,kP]at key
   have KEY:=ae key
   clear key
   refine cL (S:=fun W=>Hid ((fun W=>Keeps W6 W) W)) 8 (by kernel_rfl) (by kernel_rfl) ?_ (fun hHeld=> ?_)
   focus exact ae (Um.o.keeps)
   refine lt 0 (h:= ?_)
   refine lt 1 (h:= ?_)
   refine lt 2 (h:= ?_)
   refine lt 3 (h:= ?_)
   refine aK (fun W=>Keeps W6 W∧Own W6 W v1 33 FR) ⟨hHeld.out,Um.o⟩ ?_
   rintro W ⟨hk,ho⟩
   have HK:=ae hk;have HO:=ae ho;clear hk ho hHeld
   have hHeld:Hid (Keeps W6 W):=HK
   refine ck (i:=4) (j:=7) (by kernel_rfl) (by kernel_rfl) (h:= ?_) (h':= ?_)
   · skip
     go_wp2_with (go_at_call 27;refine(iO.o _).mono ?_;rintro r w2 ⟨g4,rfl,hk2,qL,hlt2,hr2⟩;have aq:=ae hk2;have HR2:=ae hr2;clear hk2 hr2)
     try dsimp only[aN]
     refine⟨?_,fun hHeld=> ?_⟩
     focus(exact ae (HK.o.trans aq.o))
     try simp only[kP]
     refine aK (fun W=>Keeps W6 W∧Own W6 W v1 33 FR∧(g4<W.heap.size∧Row W g4 0 (F4.map (Value.int .u8))∧v1.ownBlock≠some g4)) ⟨HK.o.trans aq.o,HO.o.step aq.o,⟨hlt2,HR2.o,fun e=>by have :=HO.o.buf.lt e;omega⟩⟩ ?_
     rintro W ⟨hk,ho,hf⟩
     have HK:=ae hk;have HO:=ae ho;have HF:=ae hf;clear hk ho hf
     have hHeld:Hid (Keeps W6 W):=HK
     refine ck (i:=5) (j:=7) (by kernel_rfl) (by kernel_rfl) (h:= ?_) (h':= ?_)
     · skip
       go_wp2_with (refine aO rfl (.tmp 50) (.tmp 52) rfl HO.o (Keeps.refl _) rfl _ rfl 4 F4 (Src.row Tryz.underlying44 (by simp[uJ]) HF.o.2.1 (ai _)) (by omega) ?_;intro v2 w3 ho1 hg1;have dw:=ae ho1;have iP:=ae hg1;clear ho1 hg1)
       try dsimp only[aN]
       refine⟨?_,fun hHeld=> ?_⟩
       focus(exact ae (dw.o.keeps))
       try simp only[kP]
       refine aK (fun W=>Keeps W6 W∧Own W6 W v2 37 (FR++F4)) ⟨dw.o.keeps,dw.o⟩ ?_
       rintro W ⟨hk,ho⟩
       have HK:=ae hk;have HO:=ae ho;clear hk ho
       have hHeld:Hid (Keeps W6 W):=HK
       refine ck (i:=6) (j:=7) (by kernel_rfl) (by kernel_rfl) (h:= ?_) (h':= ?_)
       · skip
         go_wp2_with (go_at_call 26;refine(pL.o _ _ HK.o HO.o.rd).mono ?_;rintro r w4 ⟨rfl,hk2⟩;have aq:=ae hk2;clear hk2)
         try dsimp only[aN]
         refine⟨?_,fun hHeld=> ?_⟩
         focus(exact ae (HK.o.trans aq.o))
         try simp only[kP]
         refine aK (fun W=>Keeps W6 W) (HK.o.trans aq.o) ?_
         rintro W hk
         have HK:=ae hk;clear hk
         have hHeld:Hid (Keeps W6 W):=HK
         refine ay (i:=7) (o:= ?_) (by kernel_rfl) (by kernel_rfl) ?_ ?_
         rotate_left 1
         focus(simp only[kG];exact rfl)
         go_wp2
         try dsimp only[aN]
         refine⟨?_,fun hHeld=> ?_⟩
         focus(exact ae (ah HK.o _))
         try simp only[kP]
         obtain⟨q9,dP⟩:∃q9,q9=W.heap.size:=⟨_,rfl⟩
         rw[←dP]
         have j3:=ae dP;clear dP
         refine aK (fun W=>Keeps W6 W∧aC W6 W q9 (aw.map (Value.int .u8)) (.slice none 0 0)) ⟨ah HK.o _,by rw[j3.o];exact aC.new HK.o (gn HK.o) (aw.map (Value.int .u8)) _ rfl _⟩ ?_
         rintro W ⟨hk,ha⟩
         have HK:=ae hk;have HA:=ae ha;clear hk ha
         have hHeld:Hid (Keeps W6 W):=HK
         refine aU (by kernel_rfl) ?_
         try simp only[List.drop_succ_cons,List.drop_zero]
         go_wp2_with (refine ws (g:=q9) (olds:=(aw.map (Value.int .u8))) HA.o.row eg rfl (h:= ?_);intro w5 dG hc5;have ej:=ae dG;have fY:=ae hc5;clear dG hc5)
         refine KEY.o _ _ _ _ _ _ _ _ _ ?_
         exact⟨q9,rfl,ag HK.o fY.o HA.o.ge,ej.o,HA.o.ge⟩
       · skip
         go_wp2
         try dsimp only[aN]
         refine⟨?_,fun hHeld=> ?_⟩
         focus(exact ae (ah HK.o _))
         try simp only[kP]
         obtain⟨q9,dP⟩:∃q9,q9=W.heap.size:=⟨_,rfl⟩
         rw[←dP]
         have j3:=ae dP;clear dP
         refine aK (fun W=>Keeps W6 W∧Own W6 W v2 37 (FR++F4)∧aC W6 W q9 (aw.map (Value.int .u8)) v2) ⟨ah HK.o _,HO.o.step (ah (Keeps.refl W) _),by rw[j3.o];exact aC.new HK.o (HO.o) (aw.map (Value.int .u8)) _ rfl _⟩ ?_
         rintro W ⟨hk,ho,ha⟩
         have HK:=ae hk;have HO:=ae ho;have HA:=ae ha;clear hk ho ha
         have hHeld:Hid (Keeps W6 W):=HK
         refine ay (i:=6) (o:= ?_) (by kernel_rfl) (by kernel_rfl) ?_ ?_
         rotate_left 1
         focus(simp only[kG];exact rfl)
         go_wp2_with (go_at_call 26;refine(pL.o _ _ HK.o HO.o.rd).mono ?_;rintro r w4 ⟨rfl,hk2⟩;have aq:=ae hk2;clear hk2)
         try dsimp only[aN]
         refine⟨?_,fun hHeld=> ?_⟩
         focus(exact ae (HK.o.trans aq.o))
         try simp only[kP]
         refine aK (fun W=>Keeps W6 W∧aC W6 W q9 (aw.map (Value.int .u8)) (.slice none 0 0)) ⟨HK.o.trans aq.o,⟨(HA.o.keeps aq.o).row,HA.o.ge,(HA.o.keeps aq.o).lt,by simp[Value.ownBlock]⟩⟩ ?_
         rintro W ⟨hk,ha⟩
         have HK:=ae hk;have HA:=ae ha;clear hk ha
         have hHeld:Hid (Keeps W6 W):=HK
         refine aU (by kernel_rfl) ?_
         try simp only[List.drop_succ_cons,List.drop_zero]
         go_wp2_with (refine ws (g:=q9) (olds:=(aw.map (Value.int .u8))) HA.o.row eg rfl (h:= ?_);intro w5 dG hc5;have ej:=ae dG;have fY:=ae hc5;clear dG hc5)
         refine KEY.o _ _ _ _ _ _ _ _ _ ?_
         exact⟨q9,rfl,ag HK.o fY.o HA.o.ge,ej.o,HA.o.ge⟩
     · skip
       go_wp2
       try dsimp only[aN]
       refine⟨?_,fun hHeld=> ?_⟩
       focus(exact ae (ah HK.o _))
       try simp only[kP]
       obtain⟨q9,dP⟩:∃q9,q9=W.heap.size:=⟨_,rfl⟩
       rw[←dP]
       have j3:=ae dP;clear dP
       refine aK (fun W=>Keeps W6 W∧Own W6 W v1 33 FR∧(g4<W.heap.size∧Row W g4 0 (F4.map (Value.int .u8))∧v1.ownBlock≠some g4)∧aC W6 W q9 (aw.map (Value.int .u8)) v1) ⟨ah HK.o _,HO.o.step (ah (Keeps.refl W) _),⟨by have :=HF.o.1;simp;omega,HF.o.2.1.alloc _,HF.o.2.2⟩,by rw[j3.o];exact aC.new HK.o (HO.o) (aw.map (Value.int .u8)) _ rfl _⟩ ?_
       rintro W ⟨hk,ho,hf,ha⟩
       have HK:=ae hk;have HO:=ae ho;have HF:=ae hf;have HA:=ae ha;clear hk ho hf ha
       have hHeld:Hid (Keeps W6 W):=HK
       refine ay (i:=5) (o:= ?_) (by kernel_rfl) (by kernel_rfl) ?_ ?_
       rotate_left 1
       focus(simp only[kG];exact rfl)
       go_wp2_with (refine aO rfl (.tmp 50) (.tmp 52) rfl HO.o (Keeps.refl _) rfl _ rfl 4 F4 (Src.row Tryz.underlying44 (by simp[uJ]) HF.o.2.1 (ai _)) (by omega) ?_;intro v2 w3 ho1 hg1;have dw:=ae ho1;have iP:=ae hg1;clear ho1 hg1)
       try dsimp only[aN]
       refine⟨?_,fun hHeld=> ?_⟩
       focus(exact ae (dw.o.keeps))
       try simp only[kP]
       refine aK (fun W=>Keeps W6 W∧Own W6 W v2 37 (FR++F4)∧aC W6 W q9 (aw.map (Value.int .u8)) v2) ⟨dw.o.keeps,dw.o,HA.o.grown iP.o⟩ ?_
       rintro W ⟨hk,ho,ha⟩
       have HK:=ae hk;have HO:=ae ho;have HA:=ae ha;clear hk ho ha
       have hHeld:Hid (Keeps W6 W):=HK
       refine ay (i:=6) (o:= ?_) (by kernel_rfl) (by kernel_rfl) ?_ ?_
       rotate_left 1
       focus(simp only[kG];exact rfl)
       go_wp2_with (go_at_call 26;refine(pL.o _ _ HK.o HO.o.rd).mono ?_;rintro r w4 ⟨rfl,hk2⟩;have aq:=ae hk2;clear hk2)
       try dsimp only[aN]
       refine⟨?_,fun hHeld=> ?_⟩
       focus(exact ae (HK.o.trans aq.o))
       try simp only[kP]
       refine aK (fun W=>Keeps W6 W∧aC W6 W q9 (aw.map (Value.int .u8)) (.slice none 0 0)) ⟨HK.o.trans aq.o,⟨(HA.o.keeps aq.o).row,HA.o.ge,(HA.o.keeps aq.o).lt,by simp[Value.ownBlock]⟩⟩ ?_
       rintro W ⟨hk,ha⟩
       have HK:=ae hk;have HA:=ae ha;clear hk ha
       have hHeld:Hid (Keeps W6 W):=HK
       refine aU (by kernel_rfl) ?_
       try simp only[List.drop_succ_cons,List.drop_zero]
       go_wp2_with (refine ws (g:=q9) (olds:=(aw.map (Value.int .u8))) HA.o.row eg rfl (h:= ?_);intro w5 dG hc5;have ej:=ae dG;have fY:=ae hc5;clear dG hc5)
       refine KEY.o _ _ _ _ _ _ _ _ _ ?_
       exact⟨q9,rfl,ag HK.o fY.o HA.o.ge,ej.o,HA.o.ge⟩
   · skip
     go_wp2
     try dsimp only[aN]
     refine⟨?_,fun hHeld=> ?_⟩
     focus(exact ae (ah HK.o _))
     try simp only[kP]
     obtain⟨q9,dP⟩:∃q9,q9=W.heap.size:=⟨_,rfl⟩
     rw[←dP]
     have j3:=ae dP;clear dP
     refine aK (fun W=>Keeps W6 W∧Own W6 W v1 33 FR∧aC W6 W q9 (aw.map (Value.int .u8)) v1) ⟨ah HK.o _,HO.o.step (ah (Keeps.refl W) _),by rw[j3.o];exact aC.new HK.o (HO.o) (aw.map (Value.int .u8)) _ rfl _⟩ ?_
     rintro W ⟨hk,ho,ha⟩
     have HK:=ae hk;have HO:=ae ho;have HA:=ae ha;clear hk ho ha
     have hHeld:Hid (Keeps W6 W):=HK
     refine ay (i:=4) (o:= ?_) (by kernel_rfl) (by kernel_rfl) ?_ ?_
     rotate_left 1
     focus(simp only[kG];exact rfl)
     go_wp2_with (go_at_call 27;refine(iO.o _).mono ?_;rintro r w2 ⟨g4,rfl,hk2,qL,hlt2,hr2⟩;have aq:=ae hk2;have HR2:=ae hr2;clear hk2 hr2)
     try dsimp only[aN]
     refine⟨?_,fun hHeld=> ?_⟩
     focus(exact ae (HK.o.trans aq.o))
     try simp only[kP]
     refine aK (fun W=>Keeps W6 W∧Own W6 W v1 33 FR∧(g4<W.heap.size∧Row W g4 0 (F4.map (Value.int .u8))∧v1.ownBlock≠some g4)∧aC W6 W q9 (aw.map (Value.int .u8)) v1) ⟨HK.o.trans aq.o,HO.o.step aq.o,⟨hlt2,HR2.o,fun e=>by have :=HO.o.buf.lt e;omega⟩,HA.o.keeps aq.o⟩ ?_
     rintro W ⟨hk,ho,hf,ha⟩
     have HK:=ae hk;have HO:=ae ho;have HF:=ae hf;have HA:=ae ha;clear hk ho hf ha
     have hHeld:Hid (Keeps W6 W):=HK
     refine ay (i:=5) (o:= ?_) (by kernel_rfl) (by kernel_rfl) ?_ ?_
     rotate_left 1
     focus(simp only[kG];exact rfl)
     go_wp2_with (refine aO rfl (.tmp 50) (.tmp 52) rfl HO.o (Keeps.refl _) rfl _ rfl 4 F4 (Src.row Tryz.underlying44 (by simp[uJ]) HF.o.2.1 (ai _)) (by omega) ?_;intro v2 w3 ho1 hg1;have dw:=ae ho1;have iP:=ae hg1;clear ho1 hg1)
     try dsimp only[aN]
     refine⟨?_,fun hHeld=> ?_⟩
     focus(exact ae (dw.o.keeps))
     try simp only[kP]
     refine aK (fun W=>Keeps W6 W∧Own W6 W v2 37 (FR++F4)∧aC W6 W q9 (aw.map (Value.int .u8)) v2) ⟨dw.o.keeps,dw.o,HA.o.grown iP.o⟩ ?_
     rintro W ⟨hk,ho,ha⟩
     have HK:=ae hk;have HO:=ae ho;have HA:=ae ha;clear hk ho ha
     have hHeld:Hid (Keeps W6 W):=HK
     refine ay (i:=6) (o:= ?_) (by kernel_rfl) (by kernel_rfl) ?_ ?_
     rotate_left 1
     focus(simp only[kG];exact rfl)
     go_wp2_with (go_at_call 26;refine(pL.o _ _ HK.o HO.o.rd).mono ?_;rintro r w4 ⟨rfl,hk2⟩;have aq:=ae hk2;clear hk2)
     try dsimp only[aN]
     refine⟨?_,fun hHeld=> ?_⟩
     focus(exact ae (HK.o.trans aq.o))
     try simp only[kP]
     refine aK (fun W=>Keeps W6 W∧aC W6 W q9 (aw.map (Value.int .u8)) (.slice none 0 0)) ⟨HK.o.trans aq.o,⟨(HA.o.keeps aq.o).row,HA.o.ge,(HA.o.keeps aq.o).lt,by simp[Value.ownBlock]⟩⟩ ?_
     rintro W ⟨hk,ha⟩
     have HK:=ae hk;have HA:=ae ha;clear hk ha
     have hHeld:Hid (Keeps W6 W):=HK
     refine aU (by kernel_rfl) ?_
     try simp only[List.drop_succ_cons,List.drop_zero]
     go_wp2_with (refine ws (g:=q9) (olds:=(aw.map (Value.int .u8))) HA.o.row eg rfl (h:= ?_);intro w5 dG hc5;have ej:=ae dG;have fY:=ae hc5;clear dG hc5)
     refine KEY.o _ _ _ _ _ _ _ _ _ ?_
     exact⟨q9,rfl,ag HK.o fY.o HA.o.ge,ej.o,HA.o.ge⟩
  intro us we hl hj
  match us,hl with
  |[u1,u2,u3,u4,u5,u6,u7,u8],_=>
  simp only[jC,kP]
  clear NF X9
  obtain⟨q9,hq,hk,hrow,hge⟩:=hj
  obtain rfl:u1= .pointer (some ⟨q9,0,none⟩):=hq
  have HR:=ae (HR.o.keeps hk);have aV:=ae (aV.o.keeps hk);have dM:=ae (dM.o.keeps hk);have aA:=ae (aA.o.trans hk);have lr:=ae hrow
  have dP:q6<q9:=Nat.lt_of_lt_of_le At hge
  have Rb:q9<we.heap.size:=lr.o.lt (aM eg)
  clear hk hrow hge pL oG dw Um R6 At
  go_upto_region 15 with(fail)
  refine bh (fun Di hk1 hr1 hs1=> ?_)
  have cP:=ae (show Row Di we.heap.size 0 ((SB 0).map (Value.int .u8)) by rw[HB0.o];exact hr1)
  have HR:=ae (HR.o.keeps hk1);have aV:=ae (aV.o.keeps hk1);have dM:=ae (dM.o.keeps hk1);have lr:=ae (lr.o.keeps hk1);have aA:=ae (aA.o.trans hk1)
  have hq10:q9<we.heap.size:=Rb
  have EZ:we.heap.size<Di.heap.size:=by omega
  generalize we.heap.size=q10 at *
  clear hk1 hr1 hs1 Rb
  obtain⟨c0,r1,c5,r6⟩:=RWS.o _ _ HR.o
  clear r1 c5 r6
  go_upto_region 16 with(first |(refine aW (by kernel_rfl) 27 _ rfl _ ?_ _ B1.o ?_;focus(simp only[List.map_toArray,List.map_cons,List.map_nil];rfl))|(refine wpList_store_row rfl 27 (.tmp 11) (.tmp 59) rfl Di.heap.size 0 rfl K0.cells KA.cells rfl (Row.new _ _ _ rfl) (by rw[←sI.o,HSL.o 0 (by omega)];rfl) (by rw[←sI.o,HSL.o 0 (by omega)];exact SR.o) KA.one ?_;intro EC hr2 hc2;have dC:=ae (show Row EC Di.heap.size 0 (ST 0) by rw[sI.o];exact hr2);have fK:=ae (ag (ah (Keeps.refl Di) _) hc2 (Nat.le_refl _));clear hr2 hc2))
  clear c0
  have HR:=ae (HR.o.keeps fK.o);have aV:=ae (aV.o.keeps fK.o);have dM:=ae (dM.o.keeps fK.o);have lr:=ae (lr.o.keeps fK.o);have cP:=ae (cP.o.keeps fK.o);have aA:=ae (aA.o.trans fK.o)
  generalize Di.heap.size=q11 at *
  clear fK
  go_wp2
  go_loopw [12] (fun c wr=>∃i:Nat,i≤32∧c= .int .i64 i∧Hid (bU (fun g=>g=q10∨g=q11) EC wr)∧Hid (Row wr q10 0 ((SB i).map (Value.int .u8)))∧Hid (Row wr q11 0 (ST i))) (fun c _=>(32 -intOf c).toNat)
  case atStart=>exact⟨0,by omega,rfl,ae (bU.refl _ _),cP,dC⟩
  case round=>
   obtain⟨i,hi,rfl,dF,HA,HB⟩:=hrel
   by_cases hlt:i<32
   · have I2:=ae (lr.o.aG dF.o (by omega))
     have c1:=I2.o.aT i (by rw[eg];omega)
     have f3:=HA.o.bR i (by rw[aF,rO.o i hi];exact hlt)
     have c3:=HA.o.aT i (by rw[rO.o i hi];exact hlt)
     have hsb:=HA.o.bl i (by rw[rO.o i hi];exact hlt) (CH.getD i 0)
     rw[Jn.o i hlt]at hsb
     have Rq:=ae hsb
     have HC2:=ae (dF.o.setCell (p:=⟨q10,i,none⟩) (.inr (.inl rfl)) (.int .u8 (CH.getD i 0)))
     have HB2:=ae (HB.o.other (p:=⟨q10,i,none⟩) (by simp;omega) (.int .u8 (CH.getD i 0)))
     have VM:=ae (Rr.o i hlt)
     have NG:=HSL.o i hi
     clear hsb I2
     generalize CH.getD i 0=y at *
     go_upto_region 20 with(fail)
     clear HA HB dF c1 f3 c3
     generalize wr.setCell ⟨q10,i,none⟩ (.int .u8 y)=WX at *
     have I2:=ae (lr.o.aG HC2.o (by omega))
     have c1:=I2.o.aT (32+i) (by rw[eg];omega)
     have hz1:∃u,WX.cell? ⟨q11,6+i,none⟩=some u∧WX.frozen? ⟨q11,6+i,none⟩=false:=by
      have :=HB2.o (6+i) _ (List.getElem?_eq_getElem (by rw[NG];omega))
      rw[Nat.zero_add]at this
      exact⟨_,this⟩
     obtain⟨u2,z2,f2⟩:=hz1
     have hrow3:=HB2.o.set (6+i) (by rw[NG];omega) (.int .u8 (CH.getD (32+i) 0))
     rw[Nat.zero_add,VM.o]at hrow3
     have HR3:=ae hrow3
     have fT:=ae (HC2.o.setCell (p:=⟨q11,6+i,none⟩) (.inr (.inr rfl)) (.int .u8 (CH.getD (32+i) 0)))
     have HB3:=ae (Rq.o.other (p:=⟨q11,6+i,none⟩) (by simp;omega) (.int .u8 (CH.getD (32+i) 0)))
     clear hrow3 I2 NG VM
     generalize CH.getD (32+i) 0=z at *
     go_wp2
     go_roundw
     case rel=>exact⟨i+1,by omega,by go_num,fT,HB3,HR3⟩
     case measure=>simp[intOf];omega
   ·obtain rfl:i=32:=by omega
    rw[Ui.o]at HA
    rw[Ra.o]at HB
    have HR:=ae (HR.o.aG dF.o (by omega));have aV:=ae (aV.o.aG dF.o (by omega));have dM:=ae (dM.o.aG dF.o (by omega));have aA:=ae (uN aA.o dF.o (by omega) (by omega))
    have Ci:q11<wr.heap.size:=HB.o.lt (fun e=>by have :=HSL.o 32 (Nat.le_refl _);rw[Ra.o,e]at this;cases this)
    clear dF cP dC
    generalize wr=xU at *
    have uj:=ae (show Rd xU 1 (.slice (some ⟨q6,0,none⟩) 33 33) 33 (PV.map (Value.int .u8))from Rd.bQ dM.o (by rw[aF,hpl]) (by omega) (Nat.le_refl _) (by unfold maxLen;omega))
    go_upto_region 22 with(first |(go_at_call 28;refine(uf.o _ _ uj.o).mono ?_;rintro e Kr ⟨rfl,hk1⟩;have Kv:=ae hk1;clear hk1)|(refine ws (g:=Kr.heap.size) (olds:=((List.replicate 20 (0:Int)).map (Value.int .u8))) (Row.new _ _ _ rfl) xW rfl (h:= ?_);intro E0 hr2 hc2;have jx:=ae hr2;have ie:=ae (ag (ah Kv.o _) hc2 Kv.o.size);clear hr2 hc2))
    have Ya:q11<Kr.heap.size:=Nat.lt_of_lt_of_le Ci Kv.o.size
    generalize Kr.heap.size=q13 at *
    have HR:=ae (HR.o.keeps ie.o);have aV:=ae (aV.o.keeps ie.o);have cP:=ae (HA.o.keeps ie.o);have dC:=ae (show Row E0 q11 0 (SF 0) by rw[RN.o];exact HB.o.keeps ie.o);have aA:=ae (aA.o.trans ie.o)
    clear Kv ie uj dM HA HB
    go_wp2
    go_loopw [14] (fun c wr=>∃i:Nat,i≤4∧c= .int .i64 i∧Hid (bU (· =q11) E0 wr)∧Hid (Row wr q11 0 (SF i))) (fun c _=>(4 -intOf c).toNat)
    case atStart=>exact⟨0,by omega,rfl,ae (bU.refl _ _),dC⟩
    case round=>
     obtain⟨i,hi,rfl,dF,HB⟩:=hrel
     by_cases hlt:i<4
     · have M7:=ae (jx.o.aG dF.o (by omega))
       have c1:=M7.o.aT i (by rw[xW];omega)
       have hz1:∃u,wr.cell? ⟨q11,1+i,none⟩=some u∧wr.frozen? ⟨q11,1+i,none⟩=false:=by
        have :=HB.o (1+i) _ (List.getElem?_eq_getElem (by rw[rH.o i hi];omega))
        rw[Nat.zero_add]at this
        exact⟨_,this⟩
       obtain⟨u2,z2,f2⟩:=hz1
       have hss:=HB.o.set (1+i) (by rw[rH.o i hi];omega) (.int .u8 (F20.getD i 0))
       rw[X0.o i hlt,Nat.zero_add]at hss
       have NH:=ae hss
       clear hss
       generalize F20.getD i 0=y at *
       go_wp2
       go_roundw
       case rel=>exact⟨i+1,by omega,by go_num,ae (dF.o.setCell (.inr rfl) _),NH⟩
       case measure=>simp[intOf];omega
     ·obtain rfl:i=4:=by omega
      rw[Uj.o]at HB
      have HR:=ae (HR.o.aG dF.o (by omega));have aV:=ae (aV.o.aG dF.o (by omega));have cP:=ae (cP.o.aG dF.o (by omega));have aA:=ae (ag aA.o dF.o (by omega))
      have Kt:q11<wr.heap.size:=HB.o.lt (fun e=>by have :=rH.o 4 (Nat.le_refl _);rw[Uj.o,e]at this;cases this)
      clear dF dC jx
      generalize wr=NB at *
      have dC:=HB
      have Z0:=ae gZ.AL
      obtain⟨AJ,AG⟩:=Am.o _ _ HR.o
      have NI:=ae AJ
      clear AJ
      first
      |(have hguard:=hxe.symm.trans (rfl:((0:Int)==0)=true)
        clear hguard
        go_upto_region 27 with(fail)
        clear AG
        refine k7 9 [7] [0,1,2,3,4,5,6] [(8,7)] (fun _=>ce.map (Value.int .u8)) (fun _=>AK.1.map (Value.int .u8)) (by kernel_rfl) (by kernel_rfl) (by kernel_rfl) (by simp) (fun _ _=>by rw[aF,uK];rfl) (by intro i hi;simp only[List.mem_cons,List.not_mem_nil,or_false]at hi;subst hi;exact⟨_,rfl,Cj rfl rfl⟩) ?_
        refine kp (hx:=by intro wS hS;(refine bD 27 (.tmp 2) ?_ p 0 ?_ _ _ (HR.o.keeps hS) Tryz.underlying27 rfl ZK.o)<;>rfl) (h:= ?_)
        refine kc (hc:=by exact fun wS hS=>xV.o (by trivial) wS) (h:= ?_)
        refine kl (fun wS hS=>(cP.o.keeps hS)) wh (h:= ?_)
        refine kc (hc:=by exact fun wS hS=>Ov.o wS) (h:= ?_)
        iterate 3 refine kp (h:= ?_)
        refine aI fun GG=>⟨?_,?_⟩
        ·intro q hq
         rw[List.mem_singleton]at hq
         subst hq
         refine⟨_,rfl,?_⟩
         simp only[aZ,br,ct,kD,kG,kP,Option.bind_some]
         exact vj 24 (.tmp 15) (.tmp 97) (GG 7) _ rfl rfl rfl rfl (by rw[aF,uK];exact bo) (ai _)
        intro Ow hk1 hG
        obtain⟨rp,rq,hd8⟩:=hG 7 (by simp)
        clear hd8
        simp only[aZ,br,ct,kD,kG,kP,Option.bind_some]
        have NJ:=ae (show Row Ow (GG 7) 0 (AK.1.map (Value.int .u8))from rq)
        generalize GG 7=Yb at *
        clear hG
        have xN:=ae hk1;clear hk1 rq
        have aV:=ae (aV.o.keeps xN.o);have dC:=ae (show Row Ow q11 0 (SD 0) by rw[HD0.o];exact dC.o.keeps xN.o);have aA:=ae (aA.o.trans xN.o)
        have Yc:q11<Yb:=Nat.lt_of_lt_of_le Kt rp
        clear xN NI
        by_cases he:AK.2=0
        ·obtain rfl:SV=(K3,0):=X5.o (by trivial) he
         have hne:(AK.2 !=0)=false:=by rw[he];rfl
         clear he
         go_wp2
         go_loopw [17] (fun c wr=>∃i:Nat,i≤32∧c= .int .i64 i∧Hid (bU (· =q11) Ow wr)∧Hid (Row wr q11 0 (SD i))) (fun c _=>(32 -intOf c).toNat)
         case atStart=>exact⟨0,by omega,rfl,ae (bU.refl _ _),dC⟩
         case round=>
          obtain⟨i,hi,rfl,dF,HB⟩:=hrel
          by_cases hlt:i<32
          · have M7:=ae (NJ.o.aG dF.o (by omega))
            have c1:=M7.o.aT i (by rw[uK];omega)
            have hz1:∃u,wr.cell? ⟨q11,38+(i+1),none⟩=some u∧wr.frozen? ⟨q11,38+(i+1),none⟩=false:=by
             have :=HB.o (38+(i+1)) _ (List.getElem?_eq_getElem (by rw[yu.o i hi];omega))
             rw[Nat.zero_add]at this
             exact⟨_,this⟩
            obtain⟨u2,z2,f2⟩:=hz1
            have hss:=HB.o.set (38+(i+1)) (by rw[yu.o i hi];omega) (.int .u8 (AK.1.getD i 0))
            rw[X3.o i hlt,Nat.zero_add]at hss
            have NH:=ae hss
            clear hss
            generalize AK.1.getD i 0=y at *
            go_wp2
            go_roundw
            case rel=>exact⟨i+1,by omega,by go_num,ae (dF.o.setCell (.inr rfl) _),NH⟩
            case measure=>simp[intOf];omega
          ·obtain rfl:i=32:=by omega
           rw[Uk.o]at HB
           have aV:=ae (aV.o.aG dF.o (by omega));have aA:=ae (ag aA.o dF.o (by omega))
           go_wp2_with (first |(refine aj rfl 27 (.tmp 11) rfl q11 0 rfl _ _ HB.o Tryz.underlying27 rfl (by rw[Jl];exact SR.o) ?_)|(refine wpList_store_row rfl 27 (.tmp 4) (.tmp 113) rfl (p+1) 0 rfl K0.cells K3.cells rfl aV.o (by rw[Jl];rfl) (by rw[Jl];exact SR.o) ND.o ?_;intro w9 aR aJ;have H9:=ae aR;have bK:=ae aJ;clear aR aJ))
           exact bodyPost_ret (al (p:=4) (t:=5) (ty:=27) rfl _ _ (p+1) 0 _ _ _ rfl rfl H9.o Tryz.underlying27 rfl (by rw[Jl];exact SR.o)) rfl ⟨rfl,ag aA.o bK.o (by omega)⟩
        ·obtain rfl:SV=(K0,7):=Ul.o (by trivial) he
         have hne:(AK.2 !=0)=true:=by rw[bne_iff_ne];exact he
         clear he
         go_wp2_with (first |(refine aW (by kernel_rfl) 27 _ rfl [] ?_ _ fG ?_;focus rfl)|(refine wpList_store_row rfl 27 (.tmp 4) (.tmp 101) rfl (p+1) 0 rfl K0.cells K0.cells rfl aV.o rfl Z0.o K0.one ?_;intro w9 aR aJ;have H9:=ae aR;have bK:=ae aJ;clear aR aJ))
         exact bodyPost_ret (al (p:=4) (t:=5) (ty:=27) rfl _ _ (p+1) 0 _ _ _ rfl rfl H9.o Tryz.underlying27 rfl Z0.o) rfl ⟨rfl,ag aA.o bK.o (by omega)⟩)
      |(have hguard:=hxe.symm.trans (rfl:(kx==0)=(kx==0))
        clear hguard
        have NA:K2.length=71:=by rw[←Uj.o];exact rH.o 4 (Nat.le_refl _)
        go_upto_region 35 with(fail)
        clear AG
        go_upto_region 36 with(first |(refine wl NI.o hdl (h:= ?_))|(refine wl cP.o wh (h:= ?_))|(go_at_call 31;refine(xT.o _).mono ?_;rintro e IY ⟨rfl,hk1⟩;have Kw:=ae hk1;clear hk1)|(refine ws (g:=IY.heap.size) (olds:=(bA.map (Value.int .u8))) (Row.new _ _ _ rfl) uL rfl (h:= ?_);intro Ow hr2 hc2;have NJ:=ae hr2;have xN:=ae (ag (ah Kw.o _) hc2 Kw.o.size);clear hr2 hc2))
        have Yd:q11<IY.heap.size:=Nat.lt_of_lt_of_le Kt Kw.o.size
        generalize IY.heap.size=YE at *
        have aV:=ae (aV.o.keeps xN.o);have dC:=ae (dC.o.keeps xN.o);have aA:=ae (aA.o.trans xN.o)
        clear Kw xN NI
        by_cases he:AP.2=0
        ·obtain rfl:SV=(K4,0):=X6.o hx he
         have hne:(AP.2 !=0)=false:=by rw[he];rfl
         clear he
         go_upto_region 39 with(first |(refine wl NJ.o uL (h:= ?_))|(refine gw rfl 25 (.tmp 125) (.tmp 124) rfl q11 38 rfl K2 (AP.1.map (Value.int .u8)) rfl dC.o (by rw[aF,uL,NA];decide) (by rw[aF,uL];exact bF) (ai _) ?_;intro Ye dG hc5;have Ej:=ae (show Row Ye q11 0 K4.cells by rw[←XZ.o];exact dG);have fY:=ae hc5;clear dG hc5))
         have aV:=ae (aV.o.aG fY.o (by omega));have aA:=ae (ag aA.o fY.o (by omega))
         go_wp2_with (first |(refine aj rfl 27 (.tmp 11) rfl q11 0 rfl _ _ Ej.o Tryz.underlying27 rfl (by rw[RF];exact SR.o) ?_)|(refine wpList_store_row rfl 27 (.tmp 4) (.tmp 126) rfl (p+1) 0 rfl K0.cells K4.cells rfl aV.o (by rw[RF];rfl) (by rw[RF];exact SR.o) X4.o ?_;intro w9 aR aJ;have H9:=ae aR;have bK:=ae aJ;clear aR aJ))
         exact bodyPost_ret (al (p:=4) (t:=5) (ty:=27) rfl _ _ (p+1) 0 _ _ _ rfl rfl H9.o Tryz.underlying27 rfl (by rw[RF];exact SR.o)) rfl ⟨rfl,ag aA.o bK.o (by omega)⟩
        ·obtain rfl:SV=(K0,7):=X7.o hx he
         have hne:(AP.2 !=0)=true:=by rw[bne_iff_ne];exact he
         clear he
         go_wp2_with (first |(refine aW (by kernel_rfl) 27 _ rfl [] ?_ _ fG ?_;focus rfl)|(refine wpList_store_row rfl 27 (.tmp 4) (.tmp 123) rfl (p+1) 0 rfl K0.cells K0.cells rfl aV.o rfl Z0.o K0.one ?_;intro w9 aR aJ;have H9:=ae aR;have bK:=ae aJ;clear aR aJ))
         exact bodyPost_ret (al (p:=4) (t:=5) (ty:=27) rfl _ _ (p+1) 0 _ _ _ rfl rfl H9.o Tryz.underlying27 rfl Z0.o) rfl ⟨rfl,ag aA.o bK.o (by omega)⟩)
end Go.Proofs.YtlofddoojkeakaaGreatDoor
