/- hdkey's Step, over letters. -/
import Derived.Test.YtlofddoojkeakaaGreatDoorGE2
set_option maxRecDepth 100000
set_option maxHeartbeats 16000000
set_option linter.unusedVariables false
set_option linter.unusedSimpArgs false
namespace Go.Proofs.YtlofddoojkeakaaGreatDoor
open Go Go.RowKit Cv
def aw:List Int:=List.replicate 64 0
theorem gn{w W:World}(hk:Keeps w W):Own w W (.slice none 0 0) 0 []:=(Own.nil w).step hk
theorem qI{o:Oper}(hg:o.guard=none)(ho:o.op= .alloc 29):fW Tryz.prog o K0.cells:=⟨hg,29,fun a w=>by
 unfold execOp
 simp only[ho]
 go_simp
 exact⟨rfl,by rw[show Tryz.zeroCells29=K0.cells.toArray from by kernel_rfl]⟩⟩
def tW(d n:Int)(cc:List Int):KD:=⟨d,Z4,n,cc,0,cw⟩
theorem qJ(d n:Int)(cc:List Int)(hc:cc.length=32):Tryz.prog.built 29 [(0,.int .u8 d),(2,.int .u32 n),(3,.agg (cc.map (Value.int .u8)).toArray)]=some (tW d n cc).cells.toArray:=by
 rw[show∀parts,Tryz.prog.built 29 parts=Instr.fill dJ K0.cells.toArray parts from fun parts=>by kernel_rfl]
 rw[dt K0,dt (tW d n cc)]
 have JQ:(K0.fg.map (Value.int .u8)).length=4:=rfl
 have hzc:(K0.cc.map (Value.int .u8)).length=32:=rfl
 have hcc:(cc.map (Value.int .u8)).length=32:=by simp[hc]
 show Instr.fill dJ _ _=some ([Value.int .u8 d]++(K0.fg.map (Value.int .u8)++([Value.int .u32 n]++(cc.map (Value.int .u8)++(K0.x::K0.z).map (Value.int .u8))))).toArray
 generalize K0.fg.map (Value.int .u8)=A at *
 generalize K0.cc.map (Value.int .u8)=B at *
 generalize(K0.x::K0.z).map (Value.int .u8)=C at *
 generalize cc.map (Value.int .u8)=CC at *
 have s0:=ev dJ [] [.int .u8 K0.d] (A++([.int .u32 K0.ch]++(B++C))) [.int .u8 d] 0 (.int .u8 d) [(2,.int .u32 n),(3,.agg CC.toArray)] rfl rfl rfl
 have s2:=ev dJ ([.int .u8 d]++A) [.int .u32 K0.ch] (B++C) [.int .u32 n] 2 (.int .u32 n) [(3,.agg CC.toArray)] rfl rfl (by rw[List.length_append,JQ];rfl)
 have s3:=ev dJ ([.int .u8 d]++A++[.int .u32 n]) B C CC 3 (.agg CC.toArray) [] rfl (by rw[hzc,hcc]) (by rw[List.length_append,List.length_append,JQ,hcc];rfl)
 simp only[List.append_assoc,List.nil_append,List.append_nil]at s0 s2 s3
 rw[s0,s2,s3]
 rfl
theorem m0(d n:Int)(cc fg:List Int)(hf:fg.length=4):(tW d n cc).cells.take 1++fg.map (Value.int .u8)++(tW d n cc).cells.drop (1+4)=(KD.mk d fg n cc 0 cw).cells:=by
 rw[dt,dt]
 have h4:(Z4.map (Value.int .u8)).length=4:=rfl
 show([Value.int .u8 d]++(Z4.map (Value.int .u8)++_)).take 1++_++([Value.int .u8 d]++(Z4.map (Value.int .u8)++_)).drop 5=[Value.int .u8 d]++(fg.map (Value.int .u8)++_)
 rw[show∀X:List Value,([Value.int .u8 d]++X).take 1=[Value.int .u8 d]from fun _=>rfl,←List.append_assoc [Value.int .u8 d] (Z4.map (Value.int .u8)),List.drop_left' (by simp[h4]),List.append_assoc]
 rfl
theorem Aq(k:KD)(hf:k.fg.length=4)(hc:k.cc.length=32)(z':List Int)(hz:k.z.length=32)(hz':z'.length=32):k.cells.take 39++z'.map (Value.int .u8)++k.cells.drop (39+32)=(KD.mk k.d k.fg k.ch k.cc k.x z').cells:=by
 have e:∀z:List Int,(KD.mk k.d k.fg k.ch k.cc k.x z).cells=([Value.int .u8 k.d]++k.fg.map (Value.int .u8)++[Value.int .u32 k.ch]++k.cc.map (Value.int .u8)++[Value.int .u8 k.x])++z.map (Value.int .u8):=fun z=>by rw[dt];simp
 rw[show k.cells=_ from e k.z,e z',List.take_left' (by simp[hf,hc]),List.drop_eq_nil_of_le (by simp[hf,hc,hz]),List.append_nil]
theorem tX(k:KD)(hf:k.fg.length=4)(hc:k.cc.length=32)(hz:k.z.length=32)(x':Int)(z':List Int)(hl:(x' ::z').length=33):k.cells.take 38++(x' ::z').map (Value.int .u8)++k.cells.drop (38+((x' ::z').map (Value.int .u8)).length)=(KD.mk k.d k.fg k.ch k.cc x' z').cells:=by
 rw[dt k,dt (KD.mk k.d k.fg k.ch k.cc x' z')]
 rw[List.drop_eq_nil_of_le (by rw[aF,hl];simp[hf,hc,hz]),List.append_nil,show([Value.int .u8 k.d]++(k.fg.map (Value.int .u8)++([Value.int .u32 k.ch]++(k.cc.map (Value.int .u8)++(k.x::k.z).map (Value.int .u8)))))=([Value.int .u8 k.d]++k.fg.map (Value.int .u8)++[Value.int .u32 k.ch]++k.cc.map (Value.int .u8))++(k.x::k.z).map (Value.int .u8) by simp,List.take_left' (by simp[hf,hc])]
 simp
theorem Cc:(Tryz.prog.info? 55).map (·.size)=some 20:=by kernel_rfl
theorem EY(k:KD)(h:k.ok)(n:Int)(h0:0≤n)(h1:n<4294967296)(hg:cF k.x k.z=true)(hd:¬k.d=255)(hh:¬(2147483648≤n∧¬k.x=0))(hmd:2147483648≤n)(w:World):
 Calls Tryz.prog 7 #[.agg k.cells.toArray,.int .u32 n] w fun e w' =>e= .returned (.tuple #[.agg (bE k n).1.cells.toArray,.int .i64 (bE k n).2])∧Keeps w w':=by
 have hpr:cX k=(bf k.x k.z,0):=by unfold cX;rw[if_pos hg]
 have pU:=fun W=>ly k h W
 rw[hpr]at pU
 dsimp only at pU
 have kV:=ae pU
 clear pU hpr
 have EO:=ae (fun W=>gM k h W)
 have hpl:=dB h
 have hpb:=fM h
 have hkl:=h.len
 have ZK:=ae h.sz
 have Am:=ae (fun(W:World) (p:Nat) (hr:Row W p 0 k.cells)=>h.row38 hr)
 have RWS:=ae (fun(W:World) (p:Nat) (hr:Row W p 0 k.cells)=>h.rows hr)
 have iO:=ae (fun W=>tV n h0 h1 W)
 have uJ:(four n).length=4:=rfl
 have Nz:=lx h0 h1
 have hdl:=h.dl
 have hdb:=h.db
 have hcl:=h.cl
 have hcb:=h.cb
 have eg:=jA k n
 obtain⟨FR,nC,hfl,hfb⟩:∃FR,FR=(if 2147483648≤n then k.x::k.z else bf k.x k.z)∧FR.length=33∧Bytes FR:=by
  by_cases hn:2147483648≤n
  ·exact⟨_,rfl,by rw[if_pos hn];exact hdl,by rw[if_pos hn];exact hdb⟩
  ·exact⟨_,rfl,by rw[if_neg hn];exact hpl,by rw[if_neg hn];exact hpb⟩
 have hch:pD.qz k.cc (FR++four n)=a6 k n:=by unfold a6;rw[nC]
 have tY:=ae (fun(kv bv:Value) (W:World) (hk:Rd W 1 kv 32 (k.cc.map (Value.int .u8))) (hb:Rd W 1 bv 37 ((FR++four n).map (Value.int .u8)))=>pD.pK kv bv 32 37 k.cc (FR++four n) W hk hcb (by omega) hb (fun y hy=>by rcases List.mem_append.1 hy with e|e;exact hfb y e;exact Nz y e) (by omega))
 rw[hch]at tY
 have hst1:(bG k n).2=0→bE k n=(⟨k.d+1,es k,n,(a6 k n).drop 32,(bG k n).1.headD 0,(bG k n).1.drop 1⟩,0):=fun e=>by
  unfold bE;rw[if_pos hg,if_neg hd,if_neg hh,if_pos e]
 have hst2:¬(bG k n).2=0→bE k n=(K0,7):=fun e=>by
  unfold bE;rw[if_pos hg,if_neg hd,if_neg hh,if_neg e]
 have hcb0:k.x=0→bG k n=(0::(eL (be k.z) (be ((a6 k n).take 32))).1,(eL (be k.z) (be ((a6 k n).take 32))).2):=fun e=>by unfold bG;rw[if_pos e]
 have qK:¬k.x=0→bG k n=gK (k.x::k.z) (be ((a6 k n).take 32)):=fun e=>by unfold bG;rw[if_neg e]
 have tZ:Bytes ((a6 k n).take 32):=fun y hy=>ib k n y (List.mem_of_mem_take hy)
 have Ov:=ae (fun W=>ou k.z ((a6 k n).take 32) h.zb tZ h.zl (by rw[List.length_take,eg];rfl) W)
 have xT:=ae (fun W=>ov (k.x::k.z) ((a6 k n).take 32) hdb tZ hdl (by rw[List.length_take,eg];rfl) W)
 have uK:=iw (be k.z) (be ((a6 k n).take 32))
 have uL:=eM (k.x::k.z) (be ((a6 k n).take 32))
 have xV:=ae (fun W=>kQ k h W)
 have hzl:=h.zl
 have uf:=ae (fun(v:Value) W (hv:Rd W 1 v 33 ((bf k.x k.z).map (Value.int .u8)))=>j4.mX v 33 (bf k.x k.z) W hv hpb (by omega))
 have xW:=j4.dE (sha256 (bf k.x k.z))
 have hfin:es k=(j4.ef (sha256 (bf k.x k.z))).take 4:=rfl
 generalize j4.ef (sha256 (bf k.x k.z))=F20 at *
 generalize es k=FG at *
 generalize eL (be k.z) (be ((a6 k n).take 32))=AK at *
 generalize gK (k.x::k.z) (be ((a6 k n).take 32))=AP at *
 generalize bG k n=CB at *
 obtain⟨a0,az,hap⟩:∃a0 az,AP.1=a0::az:=by cases hA:AP.1 with |nil=>rw[hA]at uL;cases uL|cons a l=>exact⟨a,l,rfl⟩
 have ug:=ae hap;clear hap
 generalize a6 k n=CH at *
 generalize four n=F4 at *
 generalize bf k.x k.z=PV at *
 have hmode:(2147483648≤n∧FR=k.x::k.z)∨(¬2147483648≤n∧FR=PV):=by
  by_cases hn:2147483648≤n
  ·exact .inl ⟨hn,by rw[nC,if_pos hn]⟩
  ·exact .inr ⟨hn,by rw[nC,if_neg hn]⟩
 clear nC hch
 have Ar:=ae hmode
 have hx0:2147483648≤n→k.x=0:=fun hn=>Classical.byContradiction fun e=>hh ⟨hn,e⟩
 generalize k.cells=KC at *
 generalize bE k n=ST at *
 have uh:=ae hst1;have ui:=ae hst2;have uM:=ae hcb0;have xM:=ae qK;have jX:=ae hfin
 clear hmode hst1 hst2 hcb0 qK hfin
 have hd2:(k.d==255)=false:=by rw[beq_eq_false_iff_ne];exact hd
 go_enter Tryz.func7,Tryz.ntmps7
 go_upto_region 1 with(fail)
 refine bu (fun W hk hr hr2 hs=> ?_)
 obtain⟨p,hp⟩:∃p,p=w.heap.size:=⟨_,rfl⟩
 rw[←hp]at hr hr2 hs⊢
 have hkp:w.heap.size≤p:=by omega
 have HR:=ae (show Row W p 0 KC from by simpa using hr);have HK:=ae hk
 have aV:=ae (show Row W (p+1) 0 K0.cells from hr2)
 have hps:p+1<W.heap.size:=by omega
 clear hp hk hr hr2 hs
 go_upto_region 2 with(first |(refine aj rfl 29 (.tmp 2) rfl p 0 rfl _ _ HR.o Tryz.underlying29 rfl ZK.o ?_)|(go_at_call 12;refine(kV.o _).mono ?_;rintro e W1 ⟨rfl,hk1⟩;have bw:=ae hk1;clear hk1)|(refine ws (g:=W1.heap.size) (olds:=(bA.map (Value.int .u8))) (Row.new _ _ _ rfl) hpl rfl (h:= ?_);intro W6 hr2 hc2;have dM:=ae hr2;have bS:=ae (ag (ah bw.o _) hc2 bw.o.size);clear hr2 hc2))
 have aV:=ae (aV.o.keeps bS.o);have HR:=ae (HR.o.keeps bS.o);have aA:=ae (HK.o.trans bS.o)
 have hpq:p+1<W1.heap.size:=Nat.lt_of_lt_of_le hps bw.o.size
 generalize W1.heap.size=q6 at *
 have At:q6<W6.heap.size:=dM.o.lt (aM hpl)
 clear HK bw bS
 obtain⟨c0,r1,c5,r6⟩:=RWS.o _ _ HR.o
 have R6:=ae r6;have C0:=ae c0
 clear r1 r6 c5
 rcases Ar.o with⟨hn,nC⟩|⟨hn,nC⟩
 · skip
   have hx:=hx0 hn
   go_upto_region 11 with(first |(refine dO (by kernel_rfl) 29 (.tmp 2) rfl p 0 rfl _ _ HR.o Tryz.underlying29 rfl ZK.o ?_)|(go_at_call 10;refine(EO.o _).mono ?_;rintro e W7 ⟨rfl,hk1⟩;have i8:=ae hk1;clear hk1))
   refine cf (fun W=>Keeps w W∧Row W p 0 KC∧Row W (p+1) 0 K0.cells∧Row W q6 0 (PV.map (Value.int .u8))∧Row W p 6 (k.cc.map (Value.int .u8))∧q6<W.heap.size) ⟨aA.o.trans i8.o,HR.o.keeps i8.o,aV.o.keeps i8.o,dM.o.keeps i8.o,R6.o.keeps i8.o,Nat.lt_of_lt_of_le At i8.o.size⟩ ?_
   clear HR aV aA dM R6 C0 At c0
   rintro W6 ⟨hk,hr,hr2,hr3,hr4,At⟩
   have aA:=ae hk;have HR:=ae hr;have aV:=ae hr2;have dM:=ae hr3;have R6:=ae hr4
   clear hk hr hr2 hr3 hr4
   have hcc:(k.cc.map (Value.int .u8)).length=32:=by rw[aF,hcl]
   have pL:=ae (fun bv W (hk:Keeps W6 W) (hb:Rd W 1 bv 37 ((FR++F4).map (Value.int .u8)))=>tY.o (.slice (some ⟨p,6,none⟩) 32 32) bv W (Rd.bQ (R6.o.keeps hk) (by rw[hcc]) (by have :=hk.size;omega) (Nat.le_refl _) (by unfold maxLen;omega)) hb)
   have oG:=ae (fun W (hk:Keeps W6 W)=>show Src Tryz.prog 1 44 (.slice (some ⟨p,38,none⟩) 33 33) 33 (FR.map (Value.int .u8)) W from Src.row Tryz.underlying44 (by rw[aF,hfl]) (by rw[nC];exact Am.o _ _ (HR.o.keeps hk)) (ai _))
   rename_i K1 hK1
   refine pT [9,43,44,45,46,47,48,49,50,51] (fun us W=>∃q9,us.getD 0 undef= .pointer (some ⟨q9,0,none⟩)∧Keeps W6 W∧Row W q9 0 (CH.map (Value.int .u8))∧W6.heap.size≤q9) hK1 (fun rJ=> ?_) ?_
   focus
    have key:=fun u1 u2 u3 u4 u5 u6 u7 u8 u9 u10 w' =>rJ [u1,u2,u3,u4,u5,u6,u7,u8,u9,u10] w' rfl
    clear rJ hK1
    simp only[jC,kP]at key
    have KEY:=ae key
    clear key
    refine cL (S:=fun W=>Hid ((fun W=>Keeps W6 W) W)) 10 (by kernel_rfl) (by kernel_rfl) ?_ (fun hHeld=> ?_)
    focus exact ae (bz (Keeps.refl _))
    refine lt 0 (h:= ?_)
    refine lt 1 (h:= ?_)
    refine lt 3 (h:= ?_)
    refine lt 5 (h:= ?_)
    refine aK (fun W=>Keeps W6 W) hHeld.out ?_
    intro W hk
    have HK:=ae hk;clear hk hHeld
    have hHeld:Hid (Keeps W6 W):=HK
    refine ck (i:=2) (j:=9) (by kernel_rfl) (by kernel_rfl) (h:= ?_) (h':= ?_)
    · skip
      go_wp2
      try dsimp only[aN]
      refine⟨?_,fun hHeld=> ?_⟩
      focus(exact ae (ah HK.o _))
      try simp only[kP]
      obtain⟨v0,hv0⟩:∃v0,v0=Value.slice (some ⟨W.heap.size,0,none⟩) 0 0:=⟨_,rfl⟩
      rw[←hv0]
      have Dp:=ae hv0;clear hv0
      refine aK (fun W=>Keeps W6 W∧Own W6 W v0 0 []) ⟨ah HK.o _,by rw[Dp.o];exact kS HK.o _⟩ ?_
      rintro W ⟨hk,ho⟩
      have HK:=ae hk;have HO:=ae ho;clear hk ho
      have hHeld:Hid (Keeps W6 W):=HK
      refine ck (i:=4) (j:=9) (by kernel_rfl) (by kernel_rfl) (h:= ?_) (h':= ?_)
      · skip
        go_wp2_with (refine aO rfl (.tmp 45) (.tmp 46) rfl HO.o (Keeps.refl _) rfl _ rfl 33 FR (oG.o _ HK.o) (by omega) ?_;intro v1 w1 ho1 hg1;have dw:=ae ho1;have iP:=ae hg1;clear ho1 hg1)
        try dsimp only[aN]
        refine⟨?_,fun hHeld=> ?_⟩
        focus(exact ae (dw.o.keeps))
        try simp only[kP]
        refine aK (fun W=>Keeps W6 W∧Own W6 W v1 33 FR) ⟨dw.o.keeps,by have :=dw.o;rwa[List.nil_append]at this⟩ ?_
        rintro W ⟨hk,ho⟩
        have HK:=ae hk;have HO:=ae ho;clear hk ho
        have hHeld:Hid (Keeps W6 W):=HK
        refine ck (i:=6) (j:=9) (by kernel_rfl) (by kernel_rfl) (h:= ?_) (h':= ?_)
        · skip
          go_wp2_with (go_at_call 21;refine(iO.o _).mono ?_;rintro r w2 ⟨g4,rfl,hk2,qL,hlt2,hr2⟩;have aq:=ae hk2;have HR2:=ae hr2;clear hk2 hr2)
          try dsimp only[aN]
          refine⟨?_,fun hHeld=> ?_⟩
          focus(exact ae (HK.o.trans aq.o))
          try simp only[kP]
          refine aK (fun W=>Keeps W6 W∧Own W6 W v1 33 FR∧(g4<W.heap.size∧Row W g4 0 (F4.map (Value.int .u8))∧v1.ownBlock≠some g4)) ⟨HK.o.trans aq.o,HO.o.step aq.o,⟨hlt2,HR2.o,fun e=>by have :=HO.o.buf.lt e;omega⟩⟩ ?_
          rintro W ⟨hk,ho,hf⟩
          have HK:=ae hk;have HO:=ae ho;have HF:=ae hf;clear hk ho hf
          have hHeld:Hid (Keeps W6 W):=HK
          refine ck (i:=7) (j:=9) (by kernel_rfl) (by kernel_rfl) (h:= ?_) (h':= ?_)
          · skip
            go_wp2_with (refine aO rfl (.tmp 47) (.tmp 49) rfl HO.o (Keeps.refl _) rfl _ rfl 4 F4 (Src.row Tryz.underlying44 (by simp[uJ]) HF.o.2.1 (ai _)) (by omega) ?_;intro v2 w3 ho1 hg1;have dw:=ae ho1;have iP:=ae hg1;clear ho1 hg1)
            try dsimp only[aN]
            refine⟨?_,fun hHeld=> ?_⟩
            focus(exact ae (dw.o.keeps))
            try simp only[kP]
            refine aK (fun W=>Keeps W6 W∧Own W6 W v2 37 (FR++F4)) ⟨dw.o.keeps,dw.o⟩ ?_
            rintro W ⟨hk,ho⟩
            have HK:=ae hk;have HO:=ae ho;clear hk ho
            have hHeld:Hid (Keeps W6 W):=HK
            refine ck (i:=8) (j:=9) (by kernel_rfl) (by kernel_rfl) (h:= ?_) (h':= ?_)
            · skip
              go_wp2_with (go_at_call 20;refine(pL.o _ _ HK.o HO.o.rd).mono ?_;rintro r w4 ⟨rfl,hk2⟩;have aq:=ae hk2;clear hk2)
              try dsimp only[aN]
              refine⟨?_,fun hHeld=> ?_⟩
              focus(exact ae (HK.o.trans aq.o))
              try simp only[kP]
              refine aK (fun W=>Keeps W6 W) (HK.o.trans aq.o) ?_
              rintro W hk
              have HK:=ae hk;clear hk
              have hHeld:Hid (Keeps W6 W):=HK
              refine ay (i:=9) (o:= ?_) (by kernel_rfl) (by kernel_rfl) ?_ ?_
              rotate_left 1
              focus(simp only[kG];exact rfl)
              go_wp2
              try dsimp only[aN]
              refine⟨?_,fun hHeld=> ?_⟩
              focus(exact ae (ah HK.o _))
              try simp only[kP]
              obtain⟨q9,dP⟩:∃q9,q9=W.heap.size:=⟨_,rfl⟩
              rw[←dP]
              have j3:=ae dP;clear dP
              refine aK (fun W=>Keeps W6 W∧aC W6 W q9 (aw.map (Value.int .u8)) (.slice none 0 0)) ⟨ah HK.o _,by rw[j3.o];exact aC.new HK.o (gn HK.o) (aw.map (Value.int .u8)) _ rfl _⟩ ?_
              rintro W ⟨hk,ha⟩
              have HK:=ae hk;have HA:=ae ha;clear hk ha
              have hHeld:Hid (Keeps W6 W):=HK
              refine aU (by kernel_rfl) ?_
              try simp only[List.drop_succ_cons,List.drop_zero]
              go_wp2_with (refine ws (g:=q9) (olds:=(aw.map (Value.int .u8))) HA.o.row eg rfl (h:= ?_);intro w5 dG hc5;have ej:=ae dG;have fY:=ae hc5;clear dG hc5)
              refine KEY.o _ _ _ _ _ _ _ _ _ _ _ ?_
              exact⟨q9,rfl,ag HK.o fY.o HA.o.ge,ej.o,HA.o.ge⟩
            · skip
              go_wp2
              try dsimp only[aN]
              refine⟨?_,fun hHeld=> ?_⟩
              focus(exact ae (ah HK.o _))
              try simp only[kP]
              obtain⟨q9,dP⟩:∃q9,q9=W.heap.size:=⟨_,rfl⟩
              rw[←dP]
              have j3:=ae dP;clear dP
              refine aK (fun W=>Keeps W6 W∧Own W6 W v2 37 (FR++F4)∧aC W6 W q9 (aw.map (Value.int .u8)) v2) ⟨ah HK.o _,HO.o.step (ah (Keeps.refl W) _),by rw[j3.o];exact aC.new HK.o (HO.o) (aw.map (Value.int .u8)) _ rfl _⟩ ?_
              rintro W ⟨hk,ho,ha⟩
              have HK:=ae hk;have HO:=ae ho;have HA:=ae ha;clear hk ho ha
              have hHeld:Hid (Keeps W6 W):=HK
              refine ay (i:=8) (o:= ?_) (by kernel_rfl) (by kernel_rfl) ?_ ?_
              rotate_left 1
              focus(simp only[kG];exact rfl)
              go_wp2_with (go_at_call 20;refine(pL.o _ _ HK.o HO.o.rd).mono ?_;rintro r w4 ⟨rfl,hk2⟩;have aq:=ae hk2;clear hk2)
              try dsimp only[aN]
              refine⟨?_,fun hHeld=> ?_⟩
              focus(exact ae (HK.o.trans aq.o))
              try simp only[kP]
              refine aK (fun W=>Keeps W6 W∧aC W6 W q9 (aw.map (Value.int .u8)) (.slice none 0 0)) ⟨HK.o.trans aq.o,⟨(HA.o.keeps aq.o).row,HA.o.ge,(HA.o.keeps aq.o).lt,by simp[Value.ownBlock]⟩⟩ ?_
              rintro W ⟨hk,ha⟩
              have HK:=ae hk;have HA:=ae ha;clear hk ha
              have hHeld:Hid (Keeps W6 W):=HK
              refine aU (by kernel_rfl) ?_
              try simp only[List.drop_succ_cons,List.drop_zero]
              go_wp2_with (refine ws (g:=q9) (olds:=(aw.map (Value.int .u8))) HA.o.row eg rfl (h:= ?_);intro w5 dG hc5;have ej:=ae dG;have fY:=ae hc5;clear dG hc5)
              refine KEY.o _ _ _ _ _ _ _ _ _ _ _ ?_
              exact⟨q9,rfl,ag HK.o fY.o HA.o.ge,ej.o,HA.o.ge⟩
          · skip
            go_wp2
            try dsimp only[aN]
            refine⟨?_,fun hHeld=> ?_⟩
            focus(exact ae (ah HK.o _))
            try simp only[kP]
            obtain⟨q9,dP⟩:∃q9,q9=W.heap.size:=⟨_,rfl⟩
            rw[←dP]
            have j3:=ae dP;clear dP
            refine aK (fun W=>Keeps W6 W∧Own W6 W v1 33 FR∧(g4<W.heap.size∧Row W g4 0 (F4.map (Value.int .u8))∧v1.ownBlock≠some g4)∧aC W6 W q9 (aw.map (Value.int .u8)) v1) ⟨ah HK.o _,HO.o.step (ah (Keeps.refl W) _),⟨by have :=HF.o.1;simp;omega,HF.o.2.1.alloc _,HF.o.2.2⟩,by rw[j3.o];exact aC.new HK.o (HO.o) (aw.map (Value.int .u8)) _ rfl _⟩ ?_
            rintro W ⟨hk,ho,hf,ha⟩
            have HK:=ae hk;have HO:=ae ho;have HF:=ae hf;have HA:=ae ha;clear hk ho hf ha
            have hHeld:Hid (Keeps W6 W):=HK
            refine ay (i:=7) (o:= ?_) (by kernel_rfl) (by kernel_rfl) ?_ ?_
            rotate_left 1
            focus(simp only[kG];exact rfl)
            go_wp2_with (refine aO rfl (.tmp 47) (.tmp 49) rfl HO.o (Keeps.refl _) rfl _ rfl 4 F4 (Src.row Tryz.underlying44 (by simp[uJ]) HF.o.2.1 (ai _)) (by omega) ?_;intro v2 w3 ho1 hg1;have dw:=ae ho1;have iP:=ae hg1;clear ho1 hg1)
            try dsimp only[aN]
            refine⟨?_,fun hHeld=> ?_⟩
            focus(exact ae (dw.o.keeps))
            try simp only[kP]
            refine aK (fun W=>Keeps W6 W∧Own W6 W v2 37 (FR++F4)∧aC W6 W q9 (aw.map (Value.int .u8)) v2) ⟨dw.o.keeps,dw.o,HA.o.grown iP.o⟩ ?_
            rintro W ⟨hk,ho,ha⟩
            have HK:=ae hk;have HO:=ae ho;have HA:=ae ha;clear hk ho ha
            have hHeld:Hid (Keeps W6 W):=HK
            refine ay (i:=8) (o:= ?_) (by kernel_rfl) (by kernel_rfl) ?_ ?_
            rotate_left 1
            focus(simp only[kG];exact rfl)
            go_wp2_with (go_at_call 20;refine(pL.o _ _ HK.o HO.o.rd).mono ?_;rintro r w4 ⟨rfl,hk2⟩;have aq:=ae hk2;clear hk2)
            try dsimp only[aN]
            refine⟨?_,fun hHeld=> ?_⟩
            focus(exact ae (HK.o.trans aq.o))
            try simp only[kP]
            refine aK (fun W=>Keeps W6 W∧aC W6 W q9 (aw.map (Value.int .u8)) (.slice none 0 0)) ⟨HK.o.trans aq.o,⟨(HA.o.keeps aq.o).row,HA.o.ge,(HA.o.keeps aq.o).lt,by simp[Value.ownBlock]⟩⟩ ?_
            rintro W ⟨hk,ha⟩
            have HK:=ae hk;have HA:=ae ha;clear hk ha
            have hHeld:Hid (Keeps W6 W):=HK
            refine aU (by kernel_rfl) ?_
            try simp only[List.drop_succ_cons,List.drop_zero]
            go_wp2_with (refine ws (g:=q9) (olds:=(aw.map (Value.int .u8))) HA.o.row eg rfl (h:= ?_);intro w5 dG hc5;have ej:=ae dG;have fY:=ae hc5;clear dG hc5)
            refine KEY.o _ _ _ _ _ _ _ _ _ _ _ ?_
            exact⟨q9,rfl,ag HK.o fY.o HA.o.ge,ej.o,HA.o.ge⟩
        · skip
          go_wp2
          try dsimp only[aN]
          refine⟨?_,fun hHeld=> ?_⟩
          focus(exact ae (ah HK.o _))
          try simp only[kP]
          obtain⟨q9,dP⟩:∃q9,q9=W.heap.size:=⟨_,rfl⟩
          rw[←dP]
          have j3:=ae dP;clear dP
          refine aK (fun W=>Keeps W6 W∧Own W6 W v1 33 FR∧aC W6 W q9 (aw.map (Value.int .u8)) v1) ⟨ah HK.o _,HO.o.step (ah (Keeps.refl W) _),by rw[j3.o];exact aC.new HK.o (HO.o) (aw.map (Value.int .u8)) _ rfl _⟩ ?_
          rintro W ⟨hk,ho,ha⟩
          have HK:=ae hk;have HO:=ae ho;have HA:=ae ha;clear hk ho ha
          have hHeld:Hid (Keeps W6 W):=HK
          refine ay (i:=6) (o:= ?_) (by kernel_rfl) (by kernel_rfl) ?_ ?_
          rotate_left 1
          focus(simp only[kG];exact rfl)
          go_wp2_with (go_at_call 21;refine(iO.o _).mono ?_;rintro r w2 ⟨g4,rfl,hk2,qL,hlt2,hr2⟩;have aq:=ae hk2;have HR2:=ae hr2;clear hk2 hr2)
          try dsimp only[aN]
          refine⟨?_,fun hHeld=> ?_⟩
          focus(exact ae (HK.o.trans aq.o))
          try simp only[kP]
          refine aK (fun W=>Keeps W6 W∧Own W6 W v1 33 FR∧(g4<W.heap.size∧Row W g4 0 (F4.map (Value.int .u8))∧v1.ownBlock≠some g4)∧aC W6 W q9 (aw.map (Value.int .u8)) v1) ⟨HK.o.trans aq.o,HO.o.step aq.o,⟨hlt2,HR2.o,fun e=>by have :=HO.o.buf.lt e;omega⟩,HA.o.keeps aq.o⟩ ?_
          rintro W ⟨hk,ho,hf,ha⟩
          have HK:=ae hk;have HO:=ae ho;have HF:=ae hf;have HA:=ae ha;clear hk ho hf ha
          have hHeld:Hid (Keeps W6 W):=HK
          refine ay (i:=7) (o:= ?_) (by kernel_rfl) (by kernel_rfl) ?_ ?_
          rotate_left 1
          focus(simp only[kG];exact rfl)
          go_wp2_with (refine aO rfl (.tmp 47) (.tmp 49) rfl HO.o (Keeps.refl _) rfl _ rfl 4 F4 (Src.row Tryz.underlying44 (by simp[uJ]) HF.o.2.1 (ai _)) (by omega) ?_;intro v2 w3 ho1 hg1;have dw:=ae ho1;have iP:=ae hg1;clear ho1 hg1)
          try dsimp only[aN]
          refine⟨?_,fun hHeld=> ?_⟩
          focus(exact ae (dw.o.keeps))
          try simp only[kP]
          refine aK (fun W=>Keeps W6 W∧Own W6 W v2 37 (FR++F4)∧aC W6 W q9 (aw.map (Value.int .u8)) v2) ⟨dw.o.keeps,dw.o,HA.o.grown iP.o⟩ ?_
          rintro W ⟨hk,ho,ha⟩
          have HK:=ae hk;have HO:=ae ho;have HA:=ae ha;clear hk ho ha
          have hHeld:Hid (Keeps W6 W):=HK
          refine ay (i:=8) (o:= ?_) (by kernel_rfl) (by kernel_rfl) ?_ ?_
          rotate_left 1
          focus(simp only[kG];exact rfl)
          go_wp2_with (go_at_call 20;refine(pL.o _ _ HK.o HO.o.rd).mono ?_;rintro r w4 ⟨rfl,hk2⟩;have aq:=ae hk2;clear hk2)
          try dsimp only[aN]
          refine⟨?_,fun hHeld=> ?_⟩
          focus(exact ae (HK.o.trans aq.o))
          try simp only[kP]
          refine aK (fun W=>Keeps W6 W∧aC W6 W q9 (aw.map (Value.int .u8)) (.slice none 0 0)) ⟨HK.o.trans aq.o,⟨(HA.o.keeps aq.o).row,HA.o.ge,(HA.o.keeps aq.o).lt,by simp[Value.ownBlock]⟩⟩ ?_
          rintro W ⟨hk,ha⟩
          have HK:=ae hk;have HA:=ae ha;clear hk ha
          have hHeld:Hid (Keeps W6 W):=HK
          refine aU (by kernel_rfl) ?_
          try simp only[List.drop_succ_cons,List.drop_zero]
          go_wp2_with (refine ws (g:=q9) (olds:=(aw.map (Value.int .u8))) HA.o.row eg rfl (h:= ?_);intro w5 dG hc5;have ej:=ae dG;have fY:=ae hc5;clear dG hc5)
          refine KEY.o _ _ _ _ _ _ _ _ _ _ _ ?_
          exact⟨q9,rfl,ag HK.o fY.o HA.o.ge,ej.o,HA.o.ge⟩
      · skip
        go_wp2
        try dsimp only[aN]
        refine⟨?_,fun hHeld=> ?_⟩
        focus(exact ae (ah HK.o _))
        try simp only[kP]
        obtain⟨q9,dP⟩:∃q9,q9=W.heap.size:=⟨_,rfl⟩
        rw[←dP]
        have j3:=ae dP;clear dP
        refine aK (fun W=>Keeps W6 W∧Own W6 W v0 0 []∧aC W6 W q9 (aw.map (Value.int .u8)) v0) ⟨ah HK.o _,HO.o.step (ah (Keeps.refl W) _),by rw[j3.o];exact aC.new HK.o (HO.o) (aw.map (Value.int .u8)) _ rfl _⟩ ?_
        rintro W ⟨hk,ho,ha⟩
        have HK:=ae hk;have HO:=ae ho;have HA:=ae ha;clear hk ho ha
        have hHeld:Hid (Keeps W6 W):=HK
        refine ay (i:=4) (o:= ?_) (by kernel_rfl) (by kernel_rfl) ?_ ?_
        rotate_left 1
        focus(simp only[kG];exact rfl)
        go_wp2_with (refine aO rfl (.tmp 45) (.tmp 46) rfl HO.o (Keeps.refl _) rfl _ rfl 33 FR (oG.o _ HK.o) (by omega) ?_;intro v1 w1 ho1 hg1;have dw:=ae ho1;have iP:=ae hg1;clear ho1 hg1)
        try dsimp only[aN]
        refine⟨?_,fun hHeld=> ?_⟩
        focus(exact ae (dw.o.keeps))
        try simp only[kP]
        refine aK (fun W=>Keeps W6 W∧Own W6 W v1 33 FR∧aC W6 W q9 (aw.map (Value.int .u8)) v1) ⟨dw.o.keeps,by have :=dw.o;rwa[List.nil_append]at this,HA.o.grown iP.o⟩ ?_
        rintro W ⟨hk,ho,ha⟩
        have HK:=ae hk;have HO:=ae ho;have HA:=ae ha;clear hk ho ha
        have hHeld:Hid (Keeps W6 W):=HK
        refine ay (i:=6) (o:= ?_) (by kernel_rfl) (by kernel_rfl) ?_ ?_
        rotate_left 1
        focus(simp only[kG];exact rfl)
        go_wp2_with (go_at_call 21;refine(iO.o _).mono ?_;rintro r w2 ⟨g4,rfl,hk2,qL,hlt2,hr2⟩;have aq:=ae hk2;have HR2:=ae hr2;clear hk2 hr2)
        try dsimp only[aN]
        refine⟨?_,fun hHeld=> ?_⟩
        focus(exact ae (HK.o.trans aq.o))
        try simp only[kP]
        refine aK (fun W=>Keeps W6 W∧Own W6 W v1 33 FR∧(g4<W.heap.size∧Row W g4 0 (F4.map (Value.int .u8))∧v1.ownBlock≠some g4)∧aC W6 W q9 (aw.map (Value.int .u8)) v1) ⟨HK.o.trans aq.o,HO.o.step aq.o,⟨hlt2,HR2.o,fun e=>by have :=HO.o.buf.lt e;omega⟩,HA.o.keeps aq.o⟩ ?_
        rintro W ⟨hk,ho,hf,ha⟩
        have HK:=ae hk;have HO:=ae ho;have HF:=ae hf;have HA:=ae ha;clear hk ho hf ha
        have hHeld:Hid (Keeps W6 W):=HK
        refine ay (i:=7) (o:= ?_) (by kernel_rfl) (by kernel_rfl) ?_ ?_
        rotate_left 1
        focus(simp only[kG];exact rfl)
        go_wp2_with (refine aO rfl (.tmp 47) (.tmp 49) rfl HO.o (Keeps.refl _) rfl _ rfl 4 F4 (Src.row Tryz.underlying44 (by simp[uJ]) HF.o.2.1 (ai _)) (by omega) ?_;intro v2 w3 ho1 hg1;have dw:=ae ho1;have iP:=ae hg1;clear ho1 hg1)
        try dsimp only[aN]
        refine⟨?_,fun hHeld=> ?_⟩
        focus(exact ae (dw.o.keeps))
        try simp only[kP]
        refine aK (fun W=>Keeps W6 W∧Own W6 W v2 37 (FR++F4)∧aC W6 W q9 (aw.map (Value.int .u8)) v2) ⟨dw.o.keeps,dw.o,HA.o.grown iP.o⟩ ?_
        rintro W ⟨hk,ho,ha⟩
        have HK:=ae hk;have HO:=ae ho;have HA:=ae ha;clear hk ho ha
        have hHeld:Hid (Keeps W6 W):=HK
        refine ay (i:=8) (o:= ?_) (by kernel_rfl) (by kernel_rfl) ?_ ?_
        rotate_left 1
        focus(simp only[kG];exact rfl)
        go_wp2_with (go_at_call 20;refine(pL.o _ _ HK.o HO.o.rd).mono ?_;rintro r w4 ⟨rfl,hk2⟩;have aq:=ae hk2;clear hk2)
        try dsimp only[aN]
        refine⟨?_,fun hHeld=> ?_⟩
        focus(exact ae (HK.o.trans aq.o))
        try simp only[kP]
        refine aK (fun W=>Keeps W6 W∧aC W6 W q9 (aw.map (Value.int .u8)) (.slice none 0 0)) ⟨HK.o.trans aq.o,⟨(HA.o.keeps aq.o).row,HA.o.ge,(HA.o.keeps aq.o).lt,by simp[Value.ownBlock]⟩⟩ ?_
        rintro W ⟨hk,ha⟩
        have HK:=ae hk;have HA:=ae ha;clear hk ha
        have hHeld:Hid (Keeps W6 W):=HK
        refine aU (by kernel_rfl) ?_
        try simp only[List.drop_succ_cons,List.drop_zero]
        go_wp2_with (refine ws (g:=q9) (olds:=(aw.map (Value.int .u8))) HA.o.row eg rfl (h:= ?_);intro w5 dG hc5;have ej:=ae dG;have fY:=ae hc5;clear dG hc5)
        refine KEY.o _ _ _ _ _ _ _ _ _ _ _ ?_
        exact⟨q9,rfl,ag HK.o fY.o HA.o.ge,ej.o,HA.o.ge⟩
    · skip
      go_wp2
      try dsimp only[aN]
      refine⟨?_,fun hHeld=> ?_⟩
      focus(exact ae (ah HK.o _))
      try simp only[kP]
      obtain⟨q9,dP⟩:∃q9,q9=W.heap.size:=⟨_,rfl⟩
      rw[←dP]
      have j3:=ae dP;clear dP
      refine aK (fun W=>Keeps W6 W∧aC W6 W q9 (aw.map (Value.int .u8)) (.slice none 0 0)) ⟨ah HK.o _,by rw[j3.o];exact aC.new HK.o (gn HK.o) (aw.map (Value.int .u8)) _ rfl _⟩ ?_
      rintro W ⟨hk,ha⟩
      have HK:=ae hk;have HA:=ae ha;clear hk ha
      have hHeld:Hid (Keeps W6 W):=HK
      refine ay (i:=2) (o:= ?_) (by kernel_rfl) (by kernel_rfl) ?_ ?_
      rotate_left 1
      focus(simp only[kG];exact rfl)
      go_wp2
      try dsimp only[aN]
      refine⟨?_,fun hHeld=> ?_⟩
      focus(exact ae (ah HK.o _))
      try simp only[kP]
      obtain⟨v0,hv0⟩:∃v0,v0=Value.slice (some ⟨W.heap.size,0,none⟩) 0 0:=⟨_,rfl⟩
      rw[←hv0]
      have Dp:=ae hv0;clear hv0
      refine aK (fun W=>Keeps W6 W∧Own W6 W v0 0 []∧aC W6 W q9 (aw.map (Value.int .u8)) v0) ⟨ah HK.o _,by rw[Dp.o];exact kS HK.o _,by rw[Dp.o];exact HA.o.made _⟩ ?_
      rintro W ⟨hk,ho,ha⟩
      have HK:=ae hk;have HO:=ae ho;have HA:=ae ha;clear hk ho ha
      have hHeld:Hid (Keeps W6 W):=HK
      refine ay (i:=4) (o:= ?_) (by kernel_rfl) (by kernel_rfl) ?_ ?_
      rotate_left 1
      focus(simp only[kG];exact rfl)
      go_wp2_with (refine aO rfl (.tmp 45) (.tmp 46) rfl HO.o (Keeps.refl _) rfl _ rfl 33 FR (oG.o _ HK.o) (by omega) ?_;intro v1 w1 ho1 hg1;have dw:=ae ho1;have iP:=ae hg1;clear ho1 hg1)
      try dsimp only[aN]
      refine⟨?_,fun hHeld=> ?_⟩
      focus(exact ae (dw.o.keeps))
      try simp only[kP]
      refine aK (fun W=>Keeps W6 W∧Own W6 W v1 33 FR∧aC W6 W q9 (aw.map (Value.int .u8)) v1) ⟨dw.o.keeps,by have :=dw.o;rwa[List.nil_append]at this,HA.o.grown iP.o⟩ ?_
      rintro W ⟨hk,ho,ha⟩
      have HK:=ae hk;have HO:=ae ho;have HA:=ae ha;clear hk ho ha
      have hHeld:Hid (Keeps W6 W):=HK
      refine ay (i:=6) (o:= ?_) (by kernel_rfl) (by kernel_rfl) ?_ ?_
      rotate_left 1
      focus(simp only[kG];exact rfl)
      go_wp2_with (go_at_call 21;refine(iO.o _).mono ?_;rintro r w2 ⟨g4,rfl,hk2,qL,hlt2,hr2⟩;have aq:=ae hk2;have HR2:=ae hr2;clear hk2 hr2)
      try dsimp only[aN]
      refine⟨?_,fun hHeld=> ?_⟩
      focus(exact ae (HK.o.trans aq.o))
      try simp only[kP]
      refine aK (fun W=>Keeps W6 W∧Own W6 W v1 33 FR∧(g4<W.heap.size∧Row W g4 0 (F4.map (Value.int .u8))∧v1.ownBlock≠some g4)∧aC W6 W q9 (aw.map (Value.int .u8)) v1) ⟨HK.o.trans aq.o,HO.o.step aq.o,⟨hlt2,HR2.o,fun e=>by have :=HO.o.buf.lt e;omega⟩,HA.o.keeps aq.o⟩ ?_
      rintro W ⟨hk,ho,hf,ha⟩
      have HK:=ae hk;have HO:=ae ho;have HF:=ae hf;have HA:=ae ha;clear hk ho hf ha
      have hHeld:Hid (Keeps W6 W):=HK
      refine ay (i:=7) (o:= ?_) (by kernel_rfl) (by kernel_rfl) ?_ ?_
      rotate_left 1
      focus(simp only[kG];exact rfl)
      go_wp2_with (refine aO rfl (.tmp 47) (.tmp 49) rfl HO.o (Keeps.refl _) rfl _ rfl 4 F4 (Src.row Tryz.underlying44 (by simp[uJ]) HF.o.2.1 (ai _)) (by omega) ?_;intro v2 w3 ho1 hg1;have dw:=ae ho1;have iP:=ae hg1;clear ho1 hg1)
      try dsimp only[aN]
      refine⟨?_,fun hHeld=> ?_⟩
      focus(exact ae (dw.o.keeps))
      try simp only[kP]
      refine aK (fun W=>Keeps W6 W∧Own W6 W v2 37 (FR++F4)∧aC W6 W q9 (aw.map (Value.int .u8)) v2) ⟨dw.o.keeps,dw.o,HA.o.grown iP.o⟩ ?_
      rintro W ⟨hk,ho,ha⟩
      have HK:=ae hk;have HO:=ae ho;have HA:=ae ha;clear hk ho ha
      have hHeld:Hid (Keeps W6 W):=HK
      refine ay (i:=8) (o:= ?_) (by kernel_rfl) (by kernel_rfl) ?_ ?_
      rotate_left 1
      focus(simp only[kG];exact rfl)
      go_wp2_with (go_at_call 20;refine(pL.o _ _ HK.o HO.o.rd).mono ?_;rintro r w4 ⟨rfl,hk2⟩;have aq:=ae hk2;clear hk2)
      try dsimp only[aN]
      refine⟨?_,fun hHeld=> ?_⟩
      focus(exact ae (HK.o.trans aq.o))
      try simp only[kP]
      refine aK (fun W=>Keeps W6 W∧aC W6 W q9 (aw.map (Value.int .u8)) (.slice none 0 0)) ⟨HK.o.trans aq.o,⟨(HA.o.keeps aq.o).row,HA.o.ge,(HA.o.keeps aq.o).lt,by simp[Value.ownBlock]⟩⟩ ?_
      rintro W ⟨hk,ha⟩
      have HK:=ae hk;have HA:=ae ha;clear hk ha
      have hHeld:Hid (Keeps W6 W):=HK
      refine aU (by kernel_rfl) ?_
      try simp only[List.drop_succ_cons,List.drop_zero]
      go_wp2_with (refine ws (g:=q9) (olds:=(aw.map (Value.int .u8))) HA.o.row eg rfl (h:= ?_);intro w5 dG hc5;have ej:=ae dG;have fY:=ae hc5;clear dG hc5)
      refine KEY.o _ _ _ _ _ _ _ _ _ _ _ ?_
      exact⟨q9,rfl,ag HK.o fY.o HA.o.ge,ej.o,HA.o.ge⟩
   intro us we hl hj
   match us,hl with
   |[u1,u2,u3,u4,u5,u6,u7,u8,u9,u10],_=>
   simp only[jC,kP]
   clear hK1 K1
   obtain⟨q9,hq,hk,hrow,hge⟩:=hj
   obtain rfl:u1= .pointer (some ⟨q9,0,none⟩):=hq
   have HR:=ae (HR.o.keeps hk);have aV:=ae (aV.o.keeps hk);have dM:=ae (dM.o.keeps hk);have aA:=ae (aA.o.trans hk);have lr:=ae hrow
   have dP:q6<q9:=Nat.lt_of_lt_of_le At hge
   clear hk hrow hge
   have wh:(CH.take 32).length=32:=by rw[List.length_take,eg];rfl
   have mb:(CH.drop 32).length=32:=by rw[List.length_drop,eg]
   have Lg:=ae (fun W (hr:Row W q9 0 (CH.map (Value.int .u8)))=>show Row W q9 0 ((CH.take 32).map (Value.int .u8)) by rw[List.map_take];exact hr.take 32)
   have Lh:=ae (fun W (hr:Row W q9 0 (CH.map (Value.int .u8)))=>show Row W q9 32 ((CH.drop 32).map (Value.int .u8)) by rw[List.map_drop];have :=hr.drop 32;rwa[Nat.zero_add]at this)
   have hsp1:=fun W=>run_arrayAt (P:=Tryz.prog) (w:=W) 24 5 32 (some ⟨q9,0,none⟩) 32 64 Tryz.underlying24 (Nat.le_refl _)
   have hsp2:=fun W=>run_arrayAt (P:=Tryz.prog) (w:=W) 24 5 32 (some ⟨q9,32,none⟩) 32 32 Tryz.underlying24 (Nat.le_refl _)
   have hbk:=qJ (k.d+1) n (CH.drop 32) mb
   have B1:=ae hbk;clear hbk
   generalize Au:CH.take 32=BY at *
   generalize Av:CH.drop 32=CC at *
   have Q3:=ae Au;have Q5:=ae Av
   clear Au Av
   go_upto_region 13 with(first |(refine wl (Lg.o _ lr.o) wh (h:= ?_))|(refine ws (g:=we.heap.size) (olds:=(ce.map (Value.int .u8))) (Row.new _ _ _ rfl) wh rfl (h:= ?_);intro Di hr2 hc2;have cP:=ae hr2;have kT:=ae (ag (ah (Keeps.refl we) _) hc2 (Nat.le_refl _));clear hr2 hc2))
   have hq10:q9<we.heap.size:=lr.o.lt (aM eg)
   generalize we.heap.size=q10 at *
   have HR:=ae (HR.o.keeps kT.o);have aV:=ae (aV.o.keeps kT.o);have dM:=ae (dM.o.keeps kT.o);have lr:=ae (lr.o.keeps kT.o);have aA:=ae (aA.o.trans kT.o)
   have EZ:q10<Di.heap.size:=cP.o.lt (aM wh)
   clear kT
   have hdw:IntKind.u8.wrap (k.d+1)=k.d+1:=by rw[IntKind.wrap_u8];have :=h.d;omega
   obtain⟨KA,Aw⟩:∃KA,KA=tW (k.d+1) n CC:=⟨_,rfl⟩
   rw[←Aw]at B1
   have Dq:KA.cells.length=71:=by rw[Aw];exact bp rfl mb rfl
   have Li:(Tryz.prog.info? 29).map (·.size)=some KA.cells.length:=by rw[Aw];exact i9 rfl mb rfl
   have jE:=ae Aw;have Lj:=ae Li
   clear Aw Li
   refine au 9 [8] [0,1,2,3,4,5,6,7] (fun _=>K0.cells) (by kernel_rfl) (by kernel_rfl) (by intro i hi;simp only[List.mem_cons,List.not_mem_nil,or_false]at hi;subst hi;exact⟨_,rfl,qI rfl rfl⟩) ?_
   refine kp (h:= ?_)
   refine kp (hx:=by(intro wS hS;have c9:=(RWS.o wS p (HR.o.keeps hS)).1;go_simp)<;>with_reducible rfl) (h:= ?_)
   iterate 4 refine kp (h:= ?_)
   refine kl (fun wS hS=>(Lh.o _ (lr.o.keeps hS))) mb (h:= ?_)
   refine kp (hx:=by intro wS hS;(refine cR 29 [(0,.tmp 57),(2,.tmp 58),(3,.tmp 61)] ?_ _ ?_ _ B1.o)<;>rfl) (h:= ?_)
   refine aI ?_
   intro GG V1 hk1 hG
   obtain⟨rp,rq,hd8⟩:=hG 8 (by simp)
   clear hd8
   simp only[aZ,br,ct,kD,kG,kP,Option.bind_some]
   generalize GG 8=q11 at *
   clear hG
   have AF:=ae rq;have aH:=ae hk1;clear hk1 rq
   go_upto_region 14 with(refine wpList_store_row rfl 29 (.tmp 11) (.tmp 62) rfl q11 0 rfl K0.cells KA.cells rfl AF.o (by rw[Dq];rfl) Lj.o KA.one ?_;intro EC hr2 hc2;have dC:=ae hr2;have fK:=ae (ag aH.o hc2 rp);clear hr2 hc2)
   have HR:=ae (HR.o.keeps fK.o);have aV:=ae (aV.o.keeps fK.o);have dM:=ae (dM.o.keeps fK.o);have cP:=ae (cP.o.keeps fK.o);have aA:=ae (aA.o.trans fK.o)
   have hq11:q10<q11:=Nat.lt_of_lt_of_le EZ rp
   have Ci:q11<EC.heap.size:=dC.o.lt (fun e=>by rw[e]at Dq;cases Dq)
   clear fK aH AF rp lr Lh Lg hsp1 hsp2
   have uj:=ae (show Rd EC 1 (.slice (some ⟨q6,0,none⟩) 33 33) 33 (PV.map (Value.int .u8))from Rd.bQ dM.o (by rw[aF,hpl]) (by omega) (Nat.le_refl _) (by unfold maxLen;omega))
   go_upto_region 15 with(first |(go_at_call 22;refine(uf.o _ _ uj.o).mono ?_;rintro e ED ⟨rfl,hk1⟩;have pV:=ae hk1;clear hk1)|(refine ws (g:=ED.heap.size) (olds:=((List.replicate 20 (0:Int)).map (Value.int .u8))) (Row.new _ _ _ rfl) xW rfl (h:= ?_);intro xU hr2 hc2;have iy:=ae hr2;have kU:=ae (ag (ah pV.o _) hc2 pV.o.size);clear hr2 hc2))
   have hq12:q11<ED.heap.size:=Nat.lt_of_lt_of_le Ci pV.o.size
   generalize ED.heap.size=q12 at *
   have HR:=ae (HR.o.keeps kU.o);have aV:=ae (aV.o.keeps kU.o);have cP:=ae (cP.o.keeps kU.o);have dC:=ae (dC.o.keeps kU.o);have aA:=ae (aA.o.trans kU.o)
   have Q6:q12<xU.heap.size:=iy.o.lt (aM xW)
   clear pV kU uj dM
   have jH:FG.length=4:=by rw[jX.o,List.length_take,xW];rfl
   have Ll:=ae (show KA.cells.take 1++(F20.map (Value.int .u8)).take 4++KA.cells.drop (1+4)=(KD.mk (k.d+1) FG n CC 0 cw).cells by rw[←List.map_take,←jX.o,jE.o];exact m0 _ _ _ _ jH)
   refine aB 3 (by kernel_rfl) (by kernel_rfl) ?_
   simp only[List.take_succ_cons,List.take_zero,List.drop_succ_cons,List.drop_zero]
   repeat(first |go_big_quiet_step (fail)|quiet_step (fail))
   refine wpQuiet_nil ?_
   intro _ hw'
   obtain⟨nq,hw''⟩:=hw'
   subst hw''
   refine mZ rfl (.tmp 66) (.tmp 67) rfl q11 1 4 4 rfl (some ⟨q12,0,none⟩) 20 20 rfl (by omega) (by omega) KA.cells (dC.o.drewN nq) (by rw[Dq];omega) (F20.map (Value.int .u8)) (Rd.bQ (iy.o.drewN nq) (by rw[aF,xW]) (by show q12<xU.heap.size;omega) (Nat.le_refl _) (by unfold maxLen;omega)) (ai _) (fun Kr eD hc6=> ?_)
   rw[Ll.o]at eD
   have dC:=ae eD
   have HR:=ae ((HR.o.drewN nq).aG hc6 (by omega));have aV:=ae ((aV.o.drewN nq).aG hc6 (by omega));have cP:=ae ((cP.o.drewN nq).aG hc6 (by omega));have aA:=ae (ag (aA.o.trans (Qt.drewN xU nq).keeps) hc6 (by omega))
   have Ks:q11<Kr.heap.size:=Nat.lt_of_lt_of_le (show q11<xU.heap.size by omega) hc6.size
   clear eD hc6 Ll iy Lj jE B1
   go_upto_region 16 with(fail)
   generalize hK2:KD.mk (k.d+1) FG n CC 0 cw=K2 at *
   have aq:=ae hK2;clear hK2
   have NA:K2.cells.length=71:=by rw[←aq.o];exact bp jH mb rfl
   go_upto_region 17 with(first |(refine aj rfl 29 (.tmp 2) rfl p 0 rfl _ _ HR.o Tryz.underlying29 rfl ZK.o ?_)|(go_at_call 10;rw[decide_eq_true hx]at EO;refine(EO.o _).mono ?_;rintro e E0 ⟨rfl,hk1⟩;have ie:=ae hk1;clear hk1))
   have HR:=ae (HR.o.keeps ie.o);have aV:=ae (aV.o.keeps ie.o);have cP:=ae (cP.o.keeps ie.o);have dC:=ae (dC.o.keeps ie.o);have aA:=ae (aA.o.trans ie.o)
   have Kt:q11<E0.heap.size:=Nat.lt_of_lt_of_le Ks ie.o.size
   clear ie
   go_upto_region 18 with(fail)
   refine bh (fun NB hk1 hr1 hs1=> ?_)
   obtain⟨Uf,NC,Ax⟩:∃Z:List Value,Z.length=32∧Row NB E0.heap.size 0 Z:=⟨_,rfl,hr1⟩
   have jx:=ae Ax
   have HR:=ae (HR.o.keeps hk1);have aV:=ae (aV.o.keeps hk1);have cP:=ae (cP.o.keeps hk1);have dC:=ae (dC.o.keeps hk1);have aA:=ae (aA.o.trans hk1)
   have IX:E0.heap.size<NB.heap.size:=by omega
   generalize E0.heap.size=q13 at *
   clear hk1 hr1 hs1 Ax
   refine cL (S:=fun W=>Hid ((fun W' =>Keeps w W'∧Row W' p 0 KC∧Row W' q10 0 (BY.map (Value.int .u8))∧Row W' q11 0 K2.cells∧Row W' (p+1) 0 K0.cells∧q13<W'.heap.size∧∃Z:List Value,Z.length=32∧Row W' q13 0 Z) W)) 8 (by kernel_rfl) (by kernel_rfl) ?_ (fun hHeld=> ?_)
   focus exact ae ⟨bz aA.o,HR.o.drew,cP.o.drew,dC.o.drew,aV.o.drew,IX,Uf,NC,jx.o.drew⟩
   refine lt 0 (hx:=by intro wD hSw;(have hSw:=hSw.out);(refine bD 29 (.tmp 2) ?_ p 0 ?_ _ _ hSw.2.1 Tryz.underlying29 rfl ZK.o)<;>rfl) (h:= ?_)
   refine lt 2 (hx:=by intro wD hSw;(have hSw:=hSw.out);(refine bD 24 (.tmp 10) ?_ q10 0 ?_ _ _ hSw.2.2.1 Tryz.underlying24 rfl (by rw[aF,wh];exact bo))<;>rfl) (h:= ?_)
   refine ay (i:=1) (o:= ?_) (by kernel_rfl) (by kernel_rfl) ?_ ?_
   rotate_left 1
   focus(simp only[kG];exact rfl)
   go_wp2_with (go_at_call 24;refine(xV.o _).mono ?_;rintro r W5 ⟨rfl,hk5⟩;have cG:=ae hk5;clear hk5)
   try dsimp only[aN]
   refine⟨?_,fun hHeld=> ?_⟩
   focus(exact ae (⟨hHeld.out.1.trans cG.o,hHeld.out.2.1.keeps cG.o,hHeld.out.2.2.1.keeps cG.o,hHeld.out.2.2.2.1.keeps cG.o,hHeld.out.2.2.2.2.1.keeps cG.o,Nat.lt_of_lt_of_le hHeld.out.2.2.2.2.2.1 cG.o.size,hHeld.out.2.2.2.2.2.2.imp (fun _ h=>⟨h.1,h.2.keeps cG.o⟩)⟩))
   try simp only[kP]
   refine ay (i:=3) (o:= ?_) (by kernel_rfl) (by kernel_rfl) ?_ ?_
   rotate_left 1
   focus(simp only[kG];exact rfl)
   go_wp2_with (go_at_call 23;refine(Ov.o _).mono ?_;rintro r W5 ⟨rfl,hk5⟩;have cG:=ae hk5;clear hk5)
   try dsimp only[aN]
   refine⟨?_,fun hHeld=> ?_⟩
   focus(exact ae (⟨hHeld.out.1.trans cG.o,hHeld.out.2.1.keeps cG.o,hHeld.out.2.2.1.keeps cG.o,hHeld.out.2.2.2.1.keeps cG.o,hHeld.out.2.2.2.2.1.keeps cG.o,Nat.lt_of_lt_of_le hHeld.out.2.2.2.2.2.1 cG.o.size,hHeld.out.2.2.2.2.2.2.imp (fun _ h=>⟨h.1,h.2.keeps cG.o⟩)⟩))
   try simp only[kP]
   refine lt 4 (h:= ?_)
   refine lt 5 (h:= ?_)
   refine lt 6 (h:= ?_)
   obtain⟨Z2,hZ2,sB⟩:=hHeld.out.2.2.2.2.2.2
   have wI:=ae sB
   clear sB
   refine ay (i:=7) (o:= ?_) (by kernel_rfl) (by kernel_rfl) ?_ ?_
   rotate_left 1
   focus(simp only[kG];exact rfl)
   go_wp2_with (refine ws wI.o uK (by rw[hZ2]) (h:= ?_);intro w9 aR aJ;have H9:=ae aR;have bK:=ae aJ;clear aR aJ)
   try dsimp only[aN]
   refine⟨?_,fun hHeld=> ?_⟩
   focus(exact ae (⟨ag hHeld.out.1 bK.o (by omega),hHeld.out.2.1.aG bK.o (by omega),hHeld.out.2.2.1.aG bK.o (by omega),hHeld.out.2.2.2.1.aG bK.o (by omega),hHeld.out.2.2.2.2.1.aG bK.o (by omega),Nat.lt_of_lt_of_le hHeld.out.2.2.2.2.2.1 bK.o.size,_,by rw[aF,uK],H9.o⟩))
   try simp only[kP]
   refine aU (by kernel_rfl) ?_
   try simp only[List.drop_succ_cons,List.drop_zero]
   go_upto_region 19 with(fail)
   refine cf (fun W=>Keeps w W∧Row W q11 0 K2.cells∧Row W (p+1) 0 K0.cells∧Row W q13 0 (AK.1.map (Value.int .u8))∧q13<W.heap.size) ⟨hHeld.out.1,hHeld.out.2.2.2.1,hHeld.out.2.2.2.2.1,H9.o,hHeld.out.2.2.2.2.2.1⟩ ?_
   clear hHeld H9 bK wI HR aV cP dC jx aA IX
   rintro IY ⟨hk,hr,hr2,hr3,Ug⟩
   have aA:=ae hk;have dC:=ae hr;have aV:=ae hr2;have jx:=ae hr3
   clear hk hr hr2 hr3
   have Ji:=ae (show K2.cells.take 39++AK.1.map (Value.int .u8)++K2.cells.drop (39+32)=(KD.mk (k.d+1) FG n CC 0 AK.1).cells by rw[←aq.o];exact Aq _ jH mb _ rfl uK)
   refine aB 3 (by kernel_rfl) (by kernel_rfl) ?_
   simp only[List.take_succ_cons,List.take_zero,List.drop_succ_cons,List.drop_zero]
   repeat(first |go_big_quiet_step (fail)|quiet_step (fail))
   refine wpQuiet_nil ?_
   intro _ hw'
   obtain⟨nq,hw''⟩:=hw'
   subst hw''
   refine rX rfl (.tmp 79) (.tmp 80) rfl q11 39 32 32 rfl (some ⟨q13,0,none⟩) 32 32 rfl (Nat.le_refl _) K2.cells (dC.o.drewN nq) (by rw[NA];omega) (AK.1.map (Value.int .u8)) (Rd.bQ (jx.o.drewN nq) (by rw[aF,uK]) (by show q13<IY.heap.size;omega) (Nat.le_refl _) (by unfold maxLen;omega)) (ai _) (fun Ow eD hc6=> ?_)
   rw[Ji.o]at eD
   have dC:=ae eD
   have aV:=ae ((aV.o.drewN nq).aG hc6 (by omega));have aA:=ae (ag (aA.o.trans (Qt.drewN IY nq).keeps) hc6 (by omega))
   clear eD hc6 Ji jx
   have hcb:=uM.o hx
   have Jl:(KD.mk (k.d+1) FG n CC 0 AK.1).cells.length=71:=bp jH mb (by simp[uK])
   have IZ:=ae (show(Tryz.prog.info? 29).map (·.size)=some (KD.mk (k.d+1) FG n CC 0 AK.1).cells.length from i9 jH mb (by simp[uK]))
   have ND:=ae (KD.mk (k.d+1) FG n CC 0 AK.1).one
   have Z0:=ae gZ.sz
   by_cases he:AK.2=0
   ·obtain rfl:ST=(KD.mk (k.d+1) FG n CC 0 AK.1,0):=by
     rw[uh.o (by rw[hcb];exact he),hcb];rfl
    have hne:(AK.2 !=0)=false:=by rw[he];rfl
    clear hcb uh ui uM xM aq
    go_wp2_with (first |(refine aj rfl 29 (.tmp 11) rfl q11 0 rfl _ _ dC.o Tryz.underlying29 rfl IZ.o ?_)|(refine wpList_store_row rfl 29 (.tmp 4) (.tmp 93) rfl (p+1) 0 rfl K0.cells (KD.mk (k.d+1) FG n CC 0 AK.1).cells rfl aV.o (by rw[Jl];rfl) IZ.o ND.o ?_;intro w9 aR aJ;have H9:=ae aR;have bK:=ae aJ;clear aR aJ))
    exact bodyPost_ret (al (p:=4) (t:=5) (ty:=29) rfl _ _ (p+1) 0 _ _ _ rfl rfl H9.o Tryz.underlying29 rfl IZ.o) rfl ⟨rfl,ag aA.o bK.o (by omega)⟩
   ·obtain rfl:ST=(K0,7):=ui.o (by rw[hcb];exact he)
    have hne:(AK.2 !=0)=true:=by rw[bne_iff_ne];exact he
    clear hcb uh ui uM xM
    go_wp2_with (first |(refine aW (by kernel_rfl) 29 _ rfl [] ?_ _ ex ?_;focus rfl)|(refine wpList_store_row rfl 29 (.tmp 4) (.tmp 92) rfl (p+1) 0 rfl K0.cells K0.cells rfl aV.o rfl Z0.o K0.one ?_;intro w9 aR aJ;have H9:=ae aR;have bK:=ae aJ;clear aR aJ))
    exact bodyPost_ret (al (p:=4) (t:=5) (ty:=29) rfl _ _ (p+1) 0 _ _ _ rfl rfl H9.o Tryz.underlying29 rfl Z0.o) rfl ⟨rfl,ag aA.o bK.o (by omega)⟩
 ·exact absurd hmd (by omega)
theorem E1(k:KD)(h:k.ok)(n:Int)(h0:0≤n)(h1:n<4294967296)(hg:cF k.x k.z=true)(hd:¬k.d=255)(hh:¬(2147483648≤n∧¬k.x=0))(hmd:¬2147483648≤n)(hx:k.x=0)(w:World):
 Calls Tryz.prog 7 #[.agg k.cells.toArray,.int .u32 n] w fun e w' =>e= .returned (.tuple #[.agg (bE k n).1.cells.toArray,.int .i64 (bE k n).2])∧Keeps w w':=by
 have hpr:cX k=(bf k.x k.z,0):=by unfold cX;rw[if_pos hg]
 have pU:=fun W=>ly k h W
 rw[hpr]at pU
 dsimp only at pU
 have kV:=ae pU
 clear pU hpr
 have EO:=ae (fun W=>gM k h W)
 have hpl:=dB h
 have hpb:=fM h
 have hkl:=h.len
 have ZK:=ae h.sz
 have Am:=ae (fun(W:World) (p:Nat) (hr:Row W p 0 k.cells)=>h.row38 hr)
 have RWS:=ae (fun(W:World) (p:Nat) (hr:Row W p 0 k.cells)=>h.rows hr)
 have iO:=ae (fun W=>tV n h0 h1 W)
 have uJ:(four n).length=4:=rfl
 have Nz:=lx h0 h1
 have hdl:=h.dl
 have hdb:=h.db
 have hcl:=h.cl
 have hcb:=h.cb
 have eg:=jA k n
 obtain⟨FR,nC,hfl,hfb⟩:∃FR,FR=(if 2147483648≤n then k.x::k.z else bf k.x k.z)∧FR.length=33∧Bytes FR:=by
  by_cases hn:2147483648≤n
  ·exact⟨_,rfl,by rw[if_pos hn];exact hdl,by rw[if_pos hn];exact hdb⟩
  ·exact⟨_,rfl,by rw[if_neg hn];exact hpl,by rw[if_neg hn];exact hpb⟩
 have hch:pD.qz k.cc (FR++four n)=a6 k n:=by unfold a6;rw[nC]
 have tY:=ae (fun(kv bv:Value) (W:World) (hk:Rd W 1 kv 32 (k.cc.map (Value.int .u8))) (hb:Rd W 1 bv 37 ((FR++four n).map (Value.int .u8)))=>pD.pK kv bv 32 37 k.cc (FR++four n) W hk hcb (by omega) hb (fun y hy=>by rcases List.mem_append.1 hy with e|e;exact hfb y e;exact Nz y e) (by omega))
 rw[hch]at tY
 have hst1:(bG k n).2=0→bE k n=(⟨k.d+1,es k,n,(a6 k n).drop 32,(bG k n).1.headD 0,(bG k n).1.drop 1⟩,0):=fun e=>by
  unfold bE;rw[if_pos hg,if_neg hd,if_neg hh,if_pos e]
 have hst2:¬(bG k n).2=0→bE k n=(K0,7):=fun e=>by
  unfold bE;rw[if_pos hg,if_neg hd,if_neg hh,if_neg e]
 have hcb0:k.x=0→bG k n=(0::(eL (be k.z) (be ((a6 k n).take 32))).1,(eL (be k.z) (be ((a6 k n).take 32))).2):=fun e=>by unfold bG;rw[if_pos e]
 have qK:¬k.x=0→bG k n=gK (k.x::k.z) (be ((a6 k n).take 32)):=fun e=>by unfold bG;rw[if_neg e]
 have tZ:Bytes ((a6 k n).take 32):=fun y hy=>ib k n y (List.mem_of_mem_take hy)
 have Ov:=ae (fun W=>ou k.z ((a6 k n).take 32) h.zb tZ h.zl (by rw[List.length_take,eg];rfl) W)
 have xT:=ae (fun W=>ov (k.x::k.z) ((a6 k n).take 32) hdb tZ hdl (by rw[List.length_take,eg];rfl) W)
 have uK:=iw (be k.z) (be ((a6 k n).take 32))
 have uL:=eM (k.x::k.z) (be ((a6 k n).take 32))
 have xV:=ae (fun W=>kQ k h W)
 have hzl:=h.zl
 have uf:=ae (fun(v:Value) W (hv:Rd W 1 v 33 ((bf k.x k.z).map (Value.int .u8)))=>j4.mX v 33 (bf k.x k.z) W hv hpb (by omega))
 have xW:=j4.dE (sha256 (bf k.x k.z))
 have hfin:es k=(j4.ef (sha256 (bf k.x k.z))).take 4:=rfl
 generalize j4.ef (sha256 (bf k.x k.z))=F20 at *
 generalize es k=FG at *
 generalize eL (be k.z) (be ((a6 k n).take 32))=AK at *
 generalize gK (k.x::k.z) (be ((a6 k n).take 32))=AP at *
 generalize bG k n=CB at *
 obtain⟨a0,az,hap⟩:∃a0 az,AP.1=a0::az:=by cases hA:AP.1 with |nil=>rw[hA]at uL;cases uL|cons a l=>exact⟨a,l,rfl⟩
 have ug:=ae hap;clear hap
 generalize a6 k n=CH at *
 generalize four n=F4 at *
 generalize bf k.x k.z=PV at *
 have hmode:(2147483648≤n∧FR=k.x::k.z)∨(¬2147483648≤n∧FR=PV):=by
  by_cases hn:2147483648≤n
  ·exact .inl ⟨hn,by rw[nC,if_pos hn]⟩
  ·exact .inr ⟨hn,by rw[nC,if_neg hn]⟩
 clear nC hch
 have Ar:=ae hmode
 have hx0:2147483648≤n→k.x=0:=fun hn=>Classical.byContradiction fun e=>hh ⟨hn,e⟩
 generalize k.cells=KC at *
 generalize bE k n=ST at *
 have uh:=ae hst1;have ui:=ae hst2;have uM:=ae hcb0;have xM:=ae qK;have jX:=ae hfin
 clear hmode hst1 hst2 hcb0 qK hfin
 have hd2:(k.d==255)=false:=by rw[beq_eq_false_iff_ne];exact hd
 go_enter Tryz.func7,Tryz.ntmps7
 go_upto_region 1 with(fail)
 refine bu (fun W hk hr hr2 hs=> ?_)
 obtain⟨p,hp⟩:∃p,p=w.heap.size:=⟨_,rfl⟩
 rw[←hp]at hr hr2 hs⊢
 have hkp:w.heap.size≤p:=by omega
 have HR:=ae (show Row W p 0 KC from by simpa using hr);have HK:=ae hk
 have aV:=ae (show Row W (p+1) 0 K0.cells from hr2)
 have hps:p+1<W.heap.size:=by omega
 clear hp hk hr hr2 hs
 go_upto_region 2 with(first |(refine aj rfl 29 (.tmp 2) rfl p 0 rfl _ _ HR.o Tryz.underlying29 rfl ZK.o ?_)|(go_at_call 12;refine(kV.o _).mono ?_;rintro e W1 ⟨rfl,hk1⟩;have bw:=ae hk1;clear hk1)|(refine ws (g:=W1.heap.size) (olds:=(bA.map (Value.int .u8))) (Row.new _ _ _ rfl) hpl rfl (h:= ?_);intro W6 hr2 hc2;have dM:=ae hr2;have bS:=ae (ag (ah bw.o _) hc2 bw.o.size);clear hr2 hc2))
 have aV:=ae (aV.o.keeps bS.o);have HR:=ae (HR.o.keeps bS.o);have aA:=ae (HK.o.trans bS.o)
 have hpq:p+1<W1.heap.size:=Nat.lt_of_lt_of_le hps bw.o.size
 generalize W1.heap.size=q6 at *
 have At:q6<W6.heap.size:=dM.o.lt (aM hpl)
 clear HK bw bS
 obtain⟨c0,r1,c5,r6⟩:=RWS.o _ _ HR.o
 have R6:=ae r6;have C0:=ae c0
 clear r1 r6 c5
 rcases Ar.o with⟨hn,nC⟩|⟨hn,nC⟩
 ·exact absurd hn (by omega)
 · skip
   clear hx0
   have hge:decide (2147483648≤n)=false:=decide_eq_false (by omega)
   clear hn hmd
   go_upto_region 11 with(fail)
   refine cf (fun W=>Keeps w W∧Row W p 0 KC∧Row W (p+1) 0 K0.cells∧Row W q6 0 (PV.map (Value.int .u8))∧Row W p 6 (k.cc.map (Value.int .u8))∧q6<W.heap.size) ⟨aA.o,HR.o,aV.o,dM.o,R6.o,At⟩ ?_
   clear HR aV aA dM R6 C0 At c0
   rintro W6 ⟨hk,hr,hr2,hr3,hr4,At⟩
   have aA:=ae hk;have HR:=ae hr;have aV:=ae hr2;have dM:=ae hr3;have R6:=ae hr4
   clear hk hr hr2 hr3 hr4
   have hcc:(k.cc.map (Value.int .u8)).length=32:=by rw[aF,hcl]
   have pL:=ae (fun bv W (hk:Keeps W6 W) (hb:Rd W 1 bv 37 ((FR++F4).map (Value.int .u8)))=>tY.o (.slice (some ⟨p,6,none⟩) 32 32) bv W (Rd.bQ (R6.o.keeps hk) (by rw[hcc]) (by have :=hk.size;omega) (Nat.le_refl _) (by unfold maxLen;omega)) hb)
   have oG:=ae (fun W (hk:Keeps W6 W)=>show Src Tryz.prog 1 44 (.slice (some ⟨q6,0,none⟩) 33 33) 33 (FR.map (Value.int .u8)) W from Src.row Tryz.underlying44 (by rw[aF,hfl]) (by rw[nC];exact dM.o.keeps hk) (ai _))
   rename_i K1 hK1
   refine pT [9,43,44,45,46,47,48,49,50,51] (fun us W=>∃q9,us.getD 0 undef= .pointer (some ⟨q9,0,none⟩)∧Keeps W6 W∧Row W q9 0 (CH.map (Value.int .u8))∧W6.heap.size≤q9) hK1 (fun rJ=> ?_) ?_
   focus
    have key:=fun u1 u2 u3 u4 u5 u6 u7 u8 u9 u10 w' =>rJ [u1,u2,u3,u4,u5,u6,u7,u8,u9,u10] w' rfl
    clear rJ hK1
    simp only[jC,kP]at key
    have KEY:=ae key
    clear key
    refine cL (S:=fun W=>Hid ((fun W=>Keeps W6 W) W)) 10 (by kernel_rfl) (by kernel_rfl) ?_ (fun hHeld=> ?_)
    focus exact ae (bz (Keeps.refl _))
    refine lt 0 (h:= ?_)
    refine lt 1 (h:= ?_)
    refine lt 3 (h:= ?_)
    refine lt 5 (h:= ?_)
    refine aK (fun W=>Keeps W6 W) hHeld.out ?_
    intro W hk
    have HK:=ae hk;clear hk hHeld
    have hHeld:Hid (Keeps W6 W):=HK
    refine ck (i:=2) (j:=9) (by kernel_rfl) (by kernel_rfl) (h:= ?_) (h':= ?_)
    · skip
      go_wp2
      try dsimp only[aN]
      refine⟨?_,fun hHeld=> ?_⟩
      focus(exact ae (ah HK.o _))
      try simp only[kP]
      obtain⟨v0,hv0⟩:∃v0,v0=Value.slice (some ⟨W.heap.size,0,none⟩) 0 0:=⟨_,rfl⟩
      rw[←hv0]
      have Dp:=ae hv0;clear hv0
      refine aK (fun W=>Keeps W6 W∧Own W6 W v0 0 []) ⟨ah HK.o _,by rw[Dp.o];exact kS HK.o _⟩ ?_
      rintro W ⟨hk,ho⟩
      have HK:=ae hk;have HO:=ae ho;clear hk ho
      have hHeld:Hid (Keeps W6 W):=HK
      refine ck (i:=4) (j:=9) (by kernel_rfl) (by kernel_rfl) (h:= ?_) (h':= ?_)
      · skip
        go_wp2_with (refine aO rfl (.tmp 45) (.tmp 46) rfl HO.o (Keeps.refl _) rfl _ rfl 33 FR (oG.o _ HK.o) (by omega) ?_;intro v1 w1 ho1 hg1;have dw:=ae ho1;have iP:=ae hg1;clear ho1 hg1)
        try dsimp only[aN]
        refine⟨?_,fun hHeld=> ?_⟩
        focus(exact ae (dw.o.keeps))
        try simp only[kP]
        refine aK (fun W=>Keeps W6 W∧Own W6 W v1 33 FR) ⟨dw.o.keeps,by have :=dw.o;rwa[List.nil_append]at this⟩ ?_
        rintro W ⟨hk,ho⟩
        have HK:=ae hk;have HO:=ae ho;clear hk ho
        have hHeld:Hid (Keeps W6 W):=HK
        refine ck (i:=6) (j:=9) (by kernel_rfl) (by kernel_rfl) (h:= ?_) (h':= ?_)
        · skip
          go_wp2_with (go_at_call 21;refine(iO.o _).mono ?_;rintro r w2 ⟨g4,rfl,hk2,qL,hlt2,hr2⟩;have aq:=ae hk2;have HR2:=ae hr2;clear hk2 hr2)
          try dsimp only[aN]
          refine⟨?_,fun hHeld=> ?_⟩
          focus(exact ae (HK.o.trans aq.o))
          try simp only[kP]
          refine aK (fun W=>Keeps W6 W∧Own W6 W v1 33 FR∧(g4<W.heap.size∧Row W g4 0 (F4.map (Value.int .u8))∧v1.ownBlock≠some g4)) ⟨HK.o.trans aq.o,HO.o.step aq.o,⟨hlt2,HR2.o,fun e=>by have :=HO.o.buf.lt e;omega⟩⟩ ?_
          rintro W ⟨hk,ho,hf⟩
          have HK:=ae hk;have HO:=ae ho;have HF:=ae hf;clear hk ho hf
          have hHeld:Hid (Keeps W6 W):=HK
          refine ck (i:=7) (j:=9) (by kernel_rfl) (by kernel_rfl) (h:= ?_) (h':= ?_)
          · skip
            go_wp2_with (refine aO rfl (.tmp 47) (.tmp 49) rfl HO.o (Keeps.refl _) rfl _ rfl 4 F4 (Src.row Tryz.underlying44 (by simp[uJ]) HF.o.2.1 (ai _)) (by omega) ?_;intro v2 w3 ho1 hg1;have dw:=ae ho1;have iP:=ae hg1;clear ho1 hg1)
            try dsimp only[aN]
            refine⟨?_,fun hHeld=> ?_⟩
            focus(exact ae (dw.o.keeps))
            try simp only[kP]
            refine aK (fun W=>Keeps W6 W∧Own W6 W v2 37 (FR++F4)) ⟨dw.o.keeps,dw.o⟩ ?_
            rintro W ⟨hk,ho⟩
            have HK:=ae hk;have HO:=ae ho;clear hk ho
            have hHeld:Hid (Keeps W6 W):=HK
            refine ck (i:=8) (j:=9) (by kernel_rfl) (by kernel_rfl) (h:= ?_) (h':= ?_)
            · skip
              go_wp2_with (go_at_call 20;refine(pL.o _ _ HK.o HO.o.rd).mono ?_;rintro r w4 ⟨rfl,hk2⟩;have aq:=ae hk2;clear hk2)
              try dsimp only[aN]
              refine⟨?_,fun hHeld=> ?_⟩
              focus(exact ae (HK.o.trans aq.o))
              try simp only[kP]
              refine aK (fun W=>Keeps W6 W) (HK.o.trans aq.o) ?_
              rintro W hk
              have HK:=ae hk;clear hk
              have hHeld:Hid (Keeps W6 W):=HK
              refine ay (i:=9) (o:= ?_) (by kernel_rfl) (by kernel_rfl) ?_ ?_
              rotate_left 1
              focus(simp only[kG];exact rfl)
              go_wp2
              try dsimp only[aN]
              refine⟨?_,fun hHeld=> ?_⟩
              focus(exact ae (ah HK.o _))
              try simp only[kP]
              obtain⟨q9,dP⟩:∃q9,q9=W.heap.size:=⟨_,rfl⟩
              rw[←dP]
              have j3:=ae dP;clear dP
              refine aK (fun W=>Keeps W6 W∧aC W6 W q9 (aw.map (Value.int .u8)) (.slice none 0 0)) ⟨ah HK.o _,by rw[j3.o];exact aC.new HK.o (gn HK.o) (aw.map (Value.int .u8)) _ rfl _⟩ ?_
              rintro W ⟨hk,ha⟩
              have HK:=ae hk;have HA:=ae ha;clear hk ha
              have hHeld:Hid (Keeps W6 W):=HK
              refine aU (by kernel_rfl) ?_
              try simp only[List.drop_succ_cons,List.drop_zero]
              go_wp2_with (refine ws (g:=q9) (olds:=(aw.map (Value.int .u8))) HA.o.row eg rfl (h:= ?_);intro w5 dG hc5;have ej:=ae dG;have fY:=ae hc5;clear dG hc5)
              refine KEY.o _ _ _ _ _ _ _ _ _ _ _ ?_
              exact⟨q9,rfl,ag HK.o fY.o HA.o.ge,ej.o,HA.o.ge⟩
            · skip
              go_wp2
              try dsimp only[aN]
              refine⟨?_,fun hHeld=> ?_⟩
              focus(exact ae (ah HK.o _))
              try simp only[kP]
              obtain⟨q9,dP⟩:∃q9,q9=W.heap.size:=⟨_,rfl⟩
              rw[←dP]
              have j3:=ae dP;clear dP
              refine aK (fun W=>Keeps W6 W∧Own W6 W v2 37 (FR++F4)∧aC W6 W q9 (aw.map (Value.int .u8)) v2) ⟨ah HK.o _,HO.o.step (ah (Keeps.refl W) _),by rw[j3.o];exact aC.new HK.o (HO.o) (aw.map (Value.int .u8)) _ rfl _⟩ ?_
              rintro W ⟨hk,ho,ha⟩
              have HK:=ae hk;have HO:=ae ho;have HA:=ae ha;clear hk ho ha
              have hHeld:Hid (Keeps W6 W):=HK
              refine ay (i:=8) (o:= ?_) (by kernel_rfl) (by kernel_rfl) ?_ ?_
              rotate_left 1
              focus(simp only[kG];exact rfl)
              go_wp2_with (go_at_call 20;refine(pL.o _ _ HK.o HO.o.rd).mono ?_;rintro r w4 ⟨rfl,hk2⟩;have aq:=ae hk2;clear hk2)
              try dsimp only[aN]
              refine⟨?_,fun hHeld=> ?_⟩
              focus(exact ae (HK.o.trans aq.o))
              try simp only[kP]
              refine aK (fun W=>Keeps W6 W∧aC W6 W q9 (aw.map (Value.int .u8)) (.slice none 0 0)) ⟨HK.o.trans aq.o,⟨(HA.o.keeps aq.o).row,HA.o.ge,(HA.o.keeps aq.o).lt,by simp[Value.ownBlock]⟩⟩ ?_
              rintro W ⟨hk,ha⟩
              have HK:=ae hk;have HA:=ae ha;clear hk ha
              have hHeld:Hid (Keeps W6 W):=HK
              refine aU (by kernel_rfl) ?_
              try simp only[List.drop_succ_cons,List.drop_zero]
              go_wp2_with (refine ws (g:=q9) (olds:=(aw.map (Value.int .u8))) HA.o.row eg rfl (h:= ?_);intro w5 dG hc5;have ej:=ae dG;have fY:=ae hc5;clear dG hc5)
              refine KEY.o _ _ _ _ _ _ _ _ _ _ _ ?_
              exact⟨q9,rfl,ag HK.o fY.o HA.o.ge,ej.o,HA.o.ge⟩
          · skip
            go_wp2
            try dsimp only[aN]
            refine⟨?_,fun hHeld=> ?_⟩
            focus(exact ae (ah HK.o _))
            try simp only[kP]
            obtain⟨q9,dP⟩:∃q9,q9=W.heap.size:=⟨_,rfl⟩
            rw[←dP]
            have j3:=ae dP;clear dP
            refine aK (fun W=>Keeps W6 W∧Own W6 W v1 33 FR∧(g4<W.heap.size∧Row W g4 0 (F4.map (Value.int .u8))∧v1.ownBlock≠some g4)∧aC W6 W q9 (aw.map (Value.int .u8)) v1) ⟨ah HK.o _,HO.o.step (ah (Keeps.refl W) _),⟨by have :=HF.o.1;simp;omega,HF.o.2.1.alloc _,HF.o.2.2⟩,by rw[j3.o];exact aC.new HK.o (HO.o) (aw.map (Value.int .u8)) _ rfl _⟩ ?_
            rintro W ⟨hk,ho,hf,ha⟩
            have HK:=ae hk;have HO:=ae ho;have HF:=ae hf;have HA:=ae ha;clear hk ho hf ha
            have hHeld:Hid (Keeps W6 W):=HK
            refine ay (i:=7) (o:= ?_) (by kernel_rfl) (by kernel_rfl) ?_ ?_
            rotate_left 1
            focus(simp only[kG];exact rfl)
            go_wp2_with (refine aO rfl (.tmp 47) (.tmp 49) rfl HO.o (Keeps.refl _) rfl _ rfl 4 F4 (Src.row Tryz.underlying44 (by simp[uJ]) HF.o.2.1 (ai _)) (by omega) ?_;intro v2 w3 ho1 hg1;have dw:=ae ho1;have iP:=ae hg1;clear ho1 hg1)
            try dsimp only[aN]
            refine⟨?_,fun hHeld=> ?_⟩
            focus(exact ae (dw.o.keeps))
            try simp only[kP]
            refine aK (fun W=>Keeps W6 W∧Own W6 W v2 37 (FR++F4)∧aC W6 W q9 (aw.map (Value.int .u8)) v2) ⟨dw.o.keeps,dw.o,HA.o.grown iP.o⟩ ?_
            rintro W ⟨hk,ho,ha⟩
            have HK:=ae hk;have HO:=ae ho;have HA:=ae ha;clear hk ho ha
            have hHeld:Hid (Keeps W6 W):=HK
            refine ay (i:=8) (o:= ?_) (by kernel_rfl) (by kernel_rfl) ?_ ?_
            rotate_left 1
            focus(simp only[kG];exact rfl)
            go_wp2_with (go_at_call 20;refine(pL.o _ _ HK.o HO.o.rd).mono ?_;rintro r w4 ⟨rfl,hk2⟩;have aq:=ae hk2;clear hk2)
            try dsimp only[aN]
            refine⟨?_,fun hHeld=> ?_⟩
            focus(exact ae (HK.o.trans aq.o))
            try simp only[kP]
            refine aK (fun W=>Keeps W6 W∧aC W6 W q9 (aw.map (Value.int .u8)) (.slice none 0 0)) ⟨HK.o.trans aq.o,⟨(HA.o.keeps aq.o).row,HA.o.ge,(HA.o.keeps aq.o).lt,by simp[Value.ownBlock]⟩⟩ ?_
            rintro W ⟨hk,ha⟩
            have HK:=ae hk;have HA:=ae ha;clear hk ha
            have hHeld:Hid (Keeps W6 W):=HK
            refine aU (by kernel_rfl) ?_
            try simp only[List.drop_succ_cons,List.drop_zero]
            go_wp2_with (refine ws (g:=q9) (olds:=(aw.map (Value.int .u8))) HA.o.row eg rfl (h:= ?_);intro w5 dG hc5;have ej:=ae dG;have fY:=ae hc5;clear dG hc5)
            refine KEY.o _ _ _ _ _ _ _ _ _ _ _ ?_
            exact⟨q9,rfl,ag HK.o fY.o HA.o.ge,ej.o,HA.o.ge⟩
        · skip
          go_wp2
          try dsimp only[aN]
          refine⟨?_,fun hHeld=> ?_⟩
          focus(exact ae (ah HK.o _))
          try simp only[kP]
          obtain⟨q9,dP⟩:∃q9,q9=W.heap.size:=⟨_,rfl⟩
          rw[←dP]
          have j3:=ae dP;clear dP
          refine aK (fun W=>Keeps W6 W∧Own W6 W v1 33 FR∧aC W6 W q9 (aw.map (Value.int .u8)) v1) ⟨ah HK.o _,HO.o.step (ah (Keeps.refl W) _),by rw[j3.o];exact aC.new HK.o (HO.o) (aw.map (Value.int .u8)) _ rfl _⟩ ?_
          rintro W ⟨hk,ho,ha⟩
          have HK:=ae hk;have HO:=ae ho;have HA:=ae ha;clear hk ho ha
          have hHeld:Hid (Keeps W6 W):=HK
          refine ay (i:=6) (o:= ?_) (by kernel_rfl) (by kernel_rfl) ?_ ?_
          rotate_left 1
          focus(simp only[kG];exact rfl)
          go_wp2_with (go_at_call 21;refine(iO.o _).mono ?_;rintro r w2 ⟨g4,rfl,hk2,qL,hlt2,hr2⟩;have aq:=ae hk2;have HR2:=ae hr2;clear hk2 hr2)
          try dsimp only[aN]
          refine⟨?_,fun hHeld=> ?_⟩
          focus(exact ae (HK.o.trans aq.o))
          try simp only[kP]
          refine aK (fun W=>Keeps W6 W∧Own W6 W v1 33 FR∧(g4<W.heap.size∧Row W g4 0 (F4.map (Value.int .u8))∧v1.ownBlock≠some g4)∧aC W6 W q9 (aw.map (Value.int .u8)) v1) ⟨HK.o.trans aq.o,HO.o.step aq.o,⟨hlt2,HR2.o,fun e=>by have :=HO.o.buf.lt e;omega⟩,HA.o.keeps aq.o⟩ ?_
          rintro W ⟨hk,ho,hf,ha⟩
          have HK:=ae hk;have HO:=ae ho;have HF:=ae hf;have HA:=ae ha;clear hk ho hf ha
          have hHeld:Hid (Keeps W6 W):=HK
          refine ay (i:=7) (o:= ?_) (by kernel_rfl) (by kernel_rfl) ?_ ?_
          rotate_left 1
          focus(simp only[kG];exact rfl)
          go_wp2_with (refine aO rfl (.tmp 47) (.tmp 49) rfl HO.o (Keeps.refl _) rfl _ rfl 4 F4 (Src.row Tryz.underlying44 (by simp[uJ]) HF.o.2.1 (ai _)) (by omega) ?_;intro v2 w3 ho1 hg1;have dw:=ae ho1;have iP:=ae hg1;clear ho1 hg1)
          try dsimp only[aN]
          refine⟨?_,fun hHeld=> ?_⟩
          focus(exact ae (dw.o.keeps))
          try simp only[kP]
          refine aK (fun W=>Keeps W6 W∧Own W6 W v2 37 (FR++F4)∧aC W6 W q9 (aw.map (Value.int .u8)) v2) ⟨dw.o.keeps,dw.o,HA.o.grown iP.o⟩ ?_
          rintro W ⟨hk,ho,ha⟩
          have HK:=ae hk;have HO:=ae ho;have HA:=ae ha;clear hk ho ha
          have hHeld:Hid (Keeps W6 W):=HK
          refine ay (i:=8) (o:= ?_) (by kernel_rfl) (by kernel_rfl) ?_ ?_
          rotate_left 1
          focus(simp only[kG];exact rfl)
          go_wp2_with (go_at_call 20;refine(pL.o _ _ HK.o HO.o.rd).mono ?_;rintro r w4 ⟨rfl,hk2⟩;have aq:=ae hk2;clear hk2)
          try dsimp only[aN]
          refine⟨?_,fun hHeld=> ?_⟩
          focus(exact ae (HK.o.trans aq.o))
          try simp only[kP]
          refine aK (fun W=>Keeps W6 W∧aC W6 W q9 (aw.map (Value.int .u8)) (.slice none 0 0)) ⟨HK.o.trans aq.o,⟨(HA.o.keeps aq.o).row,HA.o.ge,(HA.o.keeps aq.o).lt,by simp[Value.ownBlock]⟩⟩ ?_
          rintro W ⟨hk,ha⟩
          have HK:=ae hk;have HA:=ae ha;clear hk ha
          have hHeld:Hid (Keeps W6 W):=HK
          refine aU (by kernel_rfl) ?_
          try simp only[List.drop_succ_cons,List.drop_zero]
          go_wp2_with (refine ws (g:=q9) (olds:=(aw.map (Value.int .u8))) HA.o.row eg rfl (h:= ?_);intro w5 dG hc5;have ej:=ae dG;have fY:=ae hc5;clear dG hc5)
          refine KEY.o _ _ _ _ _ _ _ _ _ _ _ ?_
          exact⟨q9,rfl,ag HK.o fY.o HA.o.ge,ej.o,HA.o.ge⟩
      · skip
        go_wp2
        try dsimp only[aN]
        refine⟨?_,fun hHeld=> ?_⟩
        focus(exact ae (ah HK.o _))
        try simp only[kP]
        obtain⟨q9,dP⟩:∃q9,q9=W.heap.size:=⟨_,rfl⟩
        rw[←dP]
        have j3:=ae dP;clear dP
        refine aK (fun W=>Keeps W6 W∧Own W6 W v0 0 []∧aC W6 W q9 (aw.map (Value.int .u8)) v0) ⟨ah HK.o _,HO.o.step (ah (Keeps.refl W) _),by rw[j3.o];exact aC.new HK.o (HO.o) (aw.map (Value.int .u8)) _ rfl _⟩ ?_
        rintro W ⟨hk,ho,ha⟩
        have HK:=ae hk;have HO:=ae ho;have HA:=ae ha;clear hk ho ha
        have hHeld:Hid (Keeps W6 W):=HK
        refine ay (i:=4) (o:= ?_) (by kernel_rfl) (by kernel_rfl) ?_ ?_
        rotate_left 1
        focus(simp only[kG];exact rfl)
        go_wp2_with (refine aO rfl (.tmp 45) (.tmp 46) rfl HO.o (Keeps.refl _) rfl _ rfl 33 FR (oG.o _ HK.o) (by omega) ?_;intro v1 w1 ho1 hg1;have dw:=ae ho1;have iP:=ae hg1;clear ho1 hg1)
        try dsimp only[aN]
        refine⟨?_,fun hHeld=> ?_⟩
        focus(exact ae (dw.o.keeps))
        try simp only[kP]
        refine aK (fun W=>Keeps W6 W∧Own W6 W v1 33 FR∧aC W6 W q9 (aw.map (Value.int .u8)) v1) ⟨dw.o.keeps,by have :=dw.o;rwa[List.nil_append]at this,HA.o.grown iP.o⟩ ?_
        rintro W ⟨hk,ho,ha⟩
        have HK:=ae hk;have HO:=ae ho;have HA:=ae ha;clear hk ho ha
        have hHeld:Hid (Keeps W6 W):=HK
        refine ay (i:=6) (o:= ?_) (by kernel_rfl) (by kernel_rfl) ?_ ?_
        rotate_left 1
        focus(simp only[kG];exact rfl)
        go_wp2_with (go_at_call 21;refine(iO.o _).mono ?_;rintro r w2 ⟨g4,rfl,hk2,qL,hlt2,hr2⟩;have aq:=ae hk2;have HR2:=ae hr2;clear hk2 hr2)
        try dsimp only[aN]
        refine⟨?_,fun hHeld=> ?_⟩
        focus(exact ae (HK.o.trans aq.o))
        try simp only[kP]
        refine aK (fun W=>Keeps W6 W∧Own W6 W v1 33 FR∧(g4<W.heap.size∧Row W g4 0 (F4.map (Value.int .u8))∧v1.ownBlock≠some g4)∧aC W6 W q9 (aw.map (Value.int .u8)) v1) ⟨HK.o.trans aq.o,HO.o.step aq.o,⟨hlt2,HR2.o,fun e=>by have :=HO.o.buf.lt e;omega⟩,HA.o.keeps aq.o⟩ ?_
        rintro W ⟨hk,ho,hf,ha⟩
        have HK:=ae hk;have HO:=ae ho;have HF:=ae hf;have HA:=ae ha;clear hk ho hf ha
        have hHeld:Hid (Keeps W6 W):=HK
        refine ay (i:=7) (o:= ?_) (by kernel_rfl) (by kernel_rfl) ?_ ?_
        rotate_left 1
        focus(simp only[kG];exact rfl)
        go_wp2_with (refine aO rfl (.tmp 47) (.tmp 49) rfl HO.o (Keeps.refl _) rfl _ rfl 4 F4 (Src.row Tryz.underlying44 (by simp[uJ]) HF.o.2.1 (ai _)) (by omega) ?_;intro v2 w3 ho1 hg1;have dw:=ae ho1;have iP:=ae hg1;clear ho1 hg1)
        try dsimp only[aN]
        refine⟨?_,fun hHeld=> ?_⟩
        focus(exact ae (dw.o.keeps))
        try simp only[kP]
        refine aK (fun W=>Keeps W6 W∧Own W6 W v2 37 (FR++F4)∧aC W6 W q9 (aw.map (Value.int .u8)) v2) ⟨dw.o.keeps,dw.o,HA.o.grown iP.o⟩ ?_
        rintro W ⟨hk,ho,ha⟩
        have HK:=ae hk;have HO:=ae ho;have HA:=ae ha;clear hk ho ha
        have hHeld:Hid (Keeps W6 W):=HK
        refine ay (i:=8) (o:= ?_) (by kernel_rfl) (by kernel_rfl) ?_ ?_
        rotate_left 1
        focus(simp only[kG];exact rfl)
        go_wp2_with (go_at_call 20;refine(pL.o _ _ HK.o HO.o.rd).mono ?_;rintro r w4 ⟨rfl,hk2⟩;have aq:=ae hk2;clear hk2)
        try dsimp only[aN]
        refine⟨?_,fun hHeld=> ?_⟩
        focus(exact ae (HK.o.trans aq.o))
        try simp only[kP]
        refine aK (fun W=>Keeps W6 W∧aC W6 W q9 (aw.map (Value.int .u8)) (.slice none 0 0)) ⟨HK.o.trans aq.o,⟨(HA.o.keeps aq.o).row,HA.o.ge,(HA.o.keeps aq.o).lt,by simp[Value.ownBlock]⟩⟩ ?_
        rintro W ⟨hk,ha⟩
        have HK:=ae hk;have HA:=ae ha;clear hk ha
        have hHeld:Hid (Keeps W6 W):=HK
        refine aU (by kernel_rfl) ?_
        try simp only[List.drop_succ_cons,List.drop_zero]
        go_wp2_with (refine ws (g:=q9) (olds:=(aw.map (Value.int .u8))) HA.o.row eg rfl (h:= ?_);intro w5 dG hc5;have ej:=ae dG;have fY:=ae hc5;clear dG hc5)
        refine KEY.o _ _ _ _ _ _ _ _ _ _ _ ?_
        exact⟨q9,rfl,ag HK.o fY.o HA.o.ge,ej.o,HA.o.ge⟩
    · skip
      go_wp2
      try dsimp only[aN]
      refine⟨?_,fun hHeld=> ?_⟩
      focus(exact ae (ah HK.o _))
      try simp only[kP]
      obtain⟨q9,dP⟩:∃q9,q9=W.heap.size:=⟨_,rfl⟩
      rw[←dP]
      have j3:=ae dP;clear dP
      refine aK (fun W=>Keeps W6 W∧aC W6 W q9 (aw.map (Value.int .u8)) (.slice none 0 0)) ⟨ah HK.o _,by rw[j3.o];exact aC.new HK.o (gn HK.o) (aw.map (Value.int .u8)) _ rfl _⟩ ?_
      rintro W ⟨hk,ha⟩
      have HK:=ae hk;have HA:=ae ha;clear hk ha
      have hHeld:Hid (Keeps W6 W):=HK
      refine ay (i:=2) (o:= ?_) (by kernel_rfl) (by kernel_rfl) ?_ ?_
      rotate_left 1
      focus(simp only[kG];exact rfl)
      go_wp2
      try dsimp only[aN]
      refine⟨?_,fun hHeld=> ?_⟩
      focus(exact ae (ah HK.o _))
      try simp only[kP]
      obtain⟨v0,hv0⟩:∃v0,v0=Value.slice (some ⟨W.heap.size,0,none⟩) 0 0:=⟨_,rfl⟩
      rw[←hv0]
      have Dp:=ae hv0;clear hv0
      refine aK (fun W=>Keeps W6 W∧Own W6 W v0 0 []∧aC W6 W q9 (aw.map (Value.int .u8)) v0) ⟨ah HK.o _,by rw[Dp.o];exact kS HK.o _,by rw[Dp.o];exact HA.o.made _⟩ ?_
      rintro W ⟨hk,ho,ha⟩
      have HK:=ae hk;have HO:=ae ho;have HA:=ae ha;clear hk ho ha
      have hHeld:Hid (Keeps W6 W):=HK
      refine ay (i:=4) (o:= ?_) (by kernel_rfl) (by kernel_rfl) ?_ ?_
      rotate_left 1
      focus(simp only[kG];exact rfl)
      go_wp2_with (refine aO rfl (.tmp 45) (.tmp 46) rfl HO.o (Keeps.refl _) rfl _ rfl 33 FR (oG.o _ HK.o) (by omega) ?_;intro v1 w1 ho1 hg1;have dw:=ae ho1;have iP:=ae hg1;clear ho1 hg1)
      try dsimp only[aN]
      refine⟨?_,fun hHeld=> ?_⟩
      focus(exact ae (dw.o.keeps))
      try simp only[kP]
      refine aK (fun W=>Keeps W6 W∧Own W6 W v1 33 FR∧aC W6 W q9 (aw.map (Value.int .u8)) v1) ⟨dw.o.keeps,by have :=dw.o;rwa[List.nil_append]at this,HA.o.grown iP.o⟩ ?_
      rintro W ⟨hk,ho,ha⟩
      have HK:=ae hk;have HO:=ae ho;have HA:=ae ha;clear hk ho ha
      have hHeld:Hid (Keeps W6 W):=HK
      refine ay (i:=6) (o:= ?_) (by kernel_rfl) (by kernel_rfl) ?_ ?_
      rotate_left 1
      focus(simp only[kG];exact rfl)
      go_wp2_with (go_at_call 21;refine(iO.o _).mono ?_;rintro r w2 ⟨g4,rfl,hk2,qL,hlt2,hr2⟩;have aq:=ae hk2;have HR2:=ae hr2;clear hk2 hr2)
      try dsimp only[aN]
      refine⟨?_,fun hHeld=> ?_⟩
      focus(exact ae (HK.o.trans aq.o))
      try simp only[kP]
      refine aK (fun W=>Keeps W6 W∧Own W6 W v1 33 FR∧(g4<W.heap.size∧Row W g4 0 (F4.map (Value.int .u8))∧v1.ownBlock≠some g4)∧aC W6 W q9 (aw.map (Value.int .u8)) v1) ⟨HK.o.trans aq.o,HO.o.step aq.o,⟨hlt2,HR2.o,fun e=>by have :=HO.o.buf.lt e;omega⟩,HA.o.keeps aq.o⟩ ?_
      rintro W ⟨hk,ho,hf,ha⟩
      have HK:=ae hk;have HO:=ae ho;have HF:=ae hf;have HA:=ae ha;clear hk ho hf ha
      have hHeld:Hid (Keeps W6 W):=HK
      refine ay (i:=7) (o:= ?_) (by kernel_rfl) (by kernel_rfl) ?_ ?_
      rotate_left 1
      focus(simp only[kG];exact rfl)
      go_wp2_with (refine aO rfl (.tmp 47) (.tmp 49) rfl HO.o (Keeps.refl _) rfl _ rfl 4 F4 (Src.row Tryz.underlying44 (by simp[uJ]) HF.o.2.1 (ai _)) (by omega) ?_;intro v2 w3 ho1 hg1;have dw:=ae ho1;have iP:=ae hg1;clear ho1 hg1)
      try dsimp only[aN]
      refine⟨?_,fun hHeld=> ?_⟩
      focus(exact ae (dw.o.keeps))
      try simp only[kP]
      refine aK (fun W=>Keeps W6 W∧Own W6 W v2 37 (FR++F4)∧aC W6 W q9 (aw.map (Value.int .u8)) v2) ⟨dw.o.keeps,dw.o,HA.o.grown iP.o⟩ ?_
      rintro W ⟨hk,ho,ha⟩
      have HK:=ae hk;have HO:=ae ho;have HA:=ae ha;clear hk ho ha
      have hHeld:Hid (Keeps W6 W):=HK
      refine ay (i:=8) (o:= ?_) (by kernel_rfl) (by kernel_rfl) ?_ ?_
      rotate_left 1
      focus(simp only[kG];exact rfl)
      go_wp2_with (go_at_call 20;refine(pL.o _ _ HK.o HO.o.rd).mono ?_;rintro r w4 ⟨rfl,hk2⟩;have aq:=ae hk2;clear hk2)
      try dsimp only[aN]
      refine⟨?_,fun hHeld=> ?_⟩
      focus(exact ae (HK.o.trans aq.o))
      try simp only[kP]
      refine aK (fun W=>Keeps W6 W∧aC W6 W q9 (aw.map (Value.int .u8)) (.slice none 0 0)) ⟨HK.o.trans aq.o,⟨(HA.o.keeps aq.o).row,HA.o.ge,(HA.o.keeps aq.o).lt,by simp[Value.ownBlock]⟩⟩ ?_
      rintro W ⟨hk,ha⟩
      have HK:=ae hk;have HA:=ae ha;clear hk ha
      have hHeld:Hid (Keeps W6 W):=HK
      refine aU (by kernel_rfl) ?_
      try simp only[List.drop_succ_cons,List.drop_zero]
      go_wp2_with (refine ws (g:=q9) (olds:=(aw.map (Value.int .u8))) HA.o.row eg rfl (h:= ?_);intro w5 dG hc5;have ej:=ae dG;have fY:=ae hc5;clear dG hc5)
      refine KEY.o _ _ _ _ _ _ _ _ _ _ _ ?_
      exact⟨q9,rfl,ag HK.o fY.o HA.o.ge,ej.o,HA.o.ge⟩
   intro us we hl hj
   match us,hl with
   |[u1,u2,u3,u4,u5,u6,u7,u8,u9,u10],_=>
   simp only[jC,kP]
   clear hK1 K1
   obtain⟨q9,hq,hk,hrow,hge⟩:=hj
   obtain rfl:u1= .pointer (some ⟨q9,0,none⟩):=hq
   have HR:=ae (HR.o.keeps hk);have aV:=ae (aV.o.keeps hk);have dM:=ae (dM.o.keeps hk);have aA:=ae (aA.o.trans hk);have lr:=ae hrow
   have dP:q6<q9:=Nat.lt_of_lt_of_le At hge
   clear hk hrow hge
   have wh:(CH.take 32).length=32:=by rw[List.length_take,eg];rfl
   have mb:(CH.drop 32).length=32:=by rw[List.length_drop,eg]
   have Lg:=ae (fun W (hr:Row W q9 0 (CH.map (Value.int .u8)))=>show Row W q9 0 ((CH.take 32).map (Value.int .u8)) by rw[List.map_take];exact hr.take 32)
   have Lh:=ae (fun W (hr:Row W q9 0 (CH.map (Value.int .u8)))=>show Row W q9 32 ((CH.drop 32).map (Value.int .u8)) by rw[List.map_drop];have :=hr.drop 32;rwa[Nat.zero_add]at this)
   have hsp1:=fun W=>run_arrayAt (P:=Tryz.prog) (w:=W) 24 5 32 (some ⟨q9,0,none⟩) 32 64 Tryz.underlying24 (Nat.le_refl _)
   have hsp2:=fun W=>run_arrayAt (P:=Tryz.prog) (w:=W) 24 5 32 (some ⟨q9,32,none⟩) 32 32 Tryz.underlying24 (Nat.le_refl _)
   have hbk:=qJ (k.d+1) n (CH.drop 32) mb
   have B1:=ae hbk;clear hbk
   generalize Au:CH.take 32=BY at *
   generalize Av:CH.drop 32=CC at *
   have Q3:=ae Au;have Q5:=ae Av
   clear Au Av
   go_upto_region 13 with(first |(refine wl (Lg.o _ lr.o) wh (h:= ?_))|(refine ws (g:=we.heap.size) (olds:=(ce.map (Value.int .u8))) (Row.new _ _ _ rfl) wh rfl (h:= ?_);intro Di hr2 hc2;have cP:=ae hr2;have kT:=ae (ag (ah (Keeps.refl we) _) hc2 (Nat.le_refl _));clear hr2 hc2))
   have hq10:q9<we.heap.size:=lr.o.lt (aM eg)
   generalize we.heap.size=q10 at *
   have HR:=ae (HR.o.keeps kT.o);have aV:=ae (aV.o.keeps kT.o);have dM:=ae (dM.o.keeps kT.o);have lr:=ae (lr.o.keeps kT.o);have aA:=ae (aA.o.trans kT.o)
   have EZ:q10<Di.heap.size:=cP.o.lt (aM wh)
   clear kT
   have hdw:IntKind.u8.wrap (k.d+1)=k.d+1:=by rw[IntKind.wrap_u8];have :=h.d;omega
   obtain⟨KA,Aw⟩:∃KA,KA=tW (k.d+1) n CC:=⟨_,rfl⟩
   rw[←Aw]at B1
   have Dq:KA.cells.length=71:=by rw[Aw];exact bp rfl mb rfl
   have Li:(Tryz.prog.info? 29).map (·.size)=some KA.cells.length:=by rw[Aw];exact i9 rfl mb rfl
   have jE:=ae Aw;have Lj:=ae Li
   clear Aw Li
   refine au 9 [8] [0,1,2,3,4,5,6,7] (fun _=>K0.cells) (by kernel_rfl) (by kernel_rfl) (by intro i hi;simp only[List.mem_cons,List.not_mem_nil,or_false]at hi;subst hi;exact⟨_,rfl,qI rfl rfl⟩) ?_
   refine kp (h:= ?_)
   refine kp (hx:=by(intro wS hS;have c9:=(RWS.o wS p (HR.o.keeps hS)).1;go_simp)<;>with_reducible rfl) (h:= ?_)
   iterate 4 refine kp (h:= ?_)
   refine kl (fun wS hS=>(Lh.o _ (lr.o.keeps hS))) mb (h:= ?_)
   refine kp (hx:=by intro wS hS;(refine cR 29 [(0,.tmp 57),(2,.tmp 58),(3,.tmp 61)] ?_ _ ?_ _ B1.o)<;>rfl) (h:= ?_)
   refine aI ?_
   intro GG V1 hk1 hG
   obtain⟨rp,rq,hd8⟩:=hG 8 (by simp)
   clear hd8
   simp only[aZ,br,ct,kD,kG,kP,Option.bind_some]
   generalize GG 8=q11 at *
   clear hG
   have AF:=ae rq;have aH:=ae hk1;clear hk1 rq
   go_upto_region 14 with(refine wpList_store_row rfl 29 (.tmp 11) (.tmp 62) rfl q11 0 rfl K0.cells KA.cells rfl AF.o (by rw[Dq];rfl) Lj.o KA.one ?_;intro EC hr2 hc2;have dC:=ae hr2;have fK:=ae (ag aH.o hc2 rp);clear hr2 hc2)
   have HR:=ae (HR.o.keeps fK.o);have aV:=ae (aV.o.keeps fK.o);have dM:=ae (dM.o.keeps fK.o);have cP:=ae (cP.o.keeps fK.o);have aA:=ae (aA.o.trans fK.o)
   have hq11:q10<q11:=Nat.lt_of_lt_of_le EZ rp
   have Ci:q11<EC.heap.size:=dC.o.lt (fun e=>by rw[e]at Dq;cases Dq)
   clear fK aH AF rp lr Lh Lg hsp1 hsp2
   have uj:=ae (show Rd EC 1 (.slice (some ⟨q6,0,none⟩) 33 33) 33 (PV.map (Value.int .u8))from Rd.bQ dM.o (by rw[aF,hpl]) (by omega) (Nat.le_refl _) (by unfold maxLen;omega))
   go_upto_region 15 with(first |(go_at_call 22;refine(uf.o _ _ uj.o).mono ?_;rintro e ED ⟨rfl,hk1⟩;have pV:=ae hk1;clear hk1)|(refine ws (g:=ED.heap.size) (olds:=((List.replicate 20 (0:Int)).map (Value.int .u8))) (Row.new _ _ _ rfl) xW rfl (h:= ?_);intro xU hr2 hc2;have iy:=ae hr2;have kU:=ae (ag (ah pV.o _) hc2 pV.o.size);clear hr2 hc2))
   have hq12:q11<ED.heap.size:=Nat.lt_of_lt_of_le Ci pV.o.size
   generalize ED.heap.size=q12 at *
   have HR:=ae (HR.o.keeps kU.o);have aV:=ae (aV.o.keeps kU.o);have cP:=ae (cP.o.keeps kU.o);have dC:=ae (dC.o.keeps kU.o);have aA:=ae (aA.o.trans kU.o)
   have Q6:q12<xU.heap.size:=iy.o.lt (aM xW)
   clear pV kU uj dM
   have jH:FG.length=4:=by rw[jX.o,List.length_take,xW];rfl
   have Ll:=ae (show KA.cells.take 1++(F20.map (Value.int .u8)).take 4++KA.cells.drop (1+4)=(KD.mk (k.d+1) FG n CC 0 cw).cells by rw[←List.map_take,←jX.o,jE.o];exact m0 _ _ _ _ jH)
   refine aB 3 (by kernel_rfl) (by kernel_rfl) ?_
   simp only[List.take_succ_cons,List.take_zero,List.drop_succ_cons,List.drop_zero]
   repeat(first |go_big_quiet_step (fail)|quiet_step (fail))
   refine wpQuiet_nil ?_
   intro _ hw'
   obtain⟨nq,hw''⟩:=hw'
   subst hw''
   refine mZ rfl (.tmp 66) (.tmp 67) rfl q11 1 4 4 rfl (some ⟨q12,0,none⟩) 20 20 rfl (by omega) (by omega) KA.cells (dC.o.drewN nq) (by rw[Dq];omega) (F20.map (Value.int .u8)) (Rd.bQ (iy.o.drewN nq) (by rw[aF,xW]) (by show q12<xU.heap.size;omega) (Nat.le_refl _) (by unfold maxLen;omega)) (ai _) (fun Kr eD hc6=> ?_)
   rw[Ll.o]at eD
   have dC:=ae eD
   have HR:=ae ((HR.o.drewN nq).aG hc6 (by omega));have aV:=ae ((aV.o.drewN nq).aG hc6 (by omega));have cP:=ae ((cP.o.drewN nq).aG hc6 (by omega));have aA:=ae (ag (aA.o.trans (Qt.drewN xU nq).keeps) hc6 (by omega))
   have Ks:q11<Kr.heap.size:=Nat.lt_of_lt_of_le (show q11<xU.heap.size by omega) hc6.size
   clear eD hc6 Ll iy Lj jE B1
   go_upto_region 16 with(fail)
   generalize hK2:KD.mk (k.d+1) FG n CC 0 cw=K2 at *
   have aq:=ae hK2;clear hK2
   have NA:K2.cells.length=71:=by rw[←aq.o];exact bp jH mb rfl
   go_upto_region 17 with(first |(refine aj rfl 29 (.tmp 2) rfl p 0 rfl _ _ HR.o Tryz.underlying29 rfl ZK.o ?_)|(go_at_call 10;rw[decide_eq_true hx]at EO;refine(EO.o _).mono ?_;rintro e E0 ⟨rfl,hk1⟩;have ie:=ae hk1;clear hk1))
   have HR:=ae (HR.o.keeps ie.o);have aV:=ae (aV.o.keeps ie.o);have cP:=ae (cP.o.keeps ie.o);have dC:=ae (dC.o.keeps ie.o);have aA:=ae (aA.o.trans ie.o)
   have Kt:q11<E0.heap.size:=Nat.lt_of_lt_of_le Ks ie.o.size
   clear ie
   go_upto_region 18 with(fail)
   refine bh (fun NB hk1 hr1 hs1=> ?_)
   obtain⟨Uf,NC,Ax⟩:∃Z:List Value,Z.length=32∧Row NB E0.heap.size 0 Z:=⟨_,rfl,hr1⟩
   have jx:=ae Ax
   have HR:=ae (HR.o.keeps hk1);have aV:=ae (aV.o.keeps hk1);have cP:=ae (cP.o.keeps hk1);have dC:=ae (dC.o.keeps hk1);have aA:=ae (aA.o.trans hk1)
   have IX:E0.heap.size<NB.heap.size:=by omega
   generalize E0.heap.size=q13 at *
   clear hk1 hr1 hs1 Ax
   refine cL (S:=fun W=>Hid ((fun W' =>Keeps w W'∧Row W' p 0 KC∧Row W' q10 0 (BY.map (Value.int .u8))∧Row W' q11 0 K2.cells∧Row W' (p+1) 0 K0.cells∧q13<W'.heap.size∧∃Z:List Value,Z.length=32∧Row W' q13 0 Z) W)) 8 (by kernel_rfl) (by kernel_rfl) ?_ (fun hHeld=> ?_)
   focus exact ae ⟨bz aA.o,HR.o.drew,cP.o.drew,dC.o.drew,aV.o.drew,IX,Uf,NC,jx.o.drew⟩
   refine lt 0 (hx:=by intro wD hSw;(have hSw:=hSw.out);(refine bD 29 (.tmp 2) ?_ p 0 ?_ _ _ hSw.2.1 Tryz.underlying29 rfl ZK.o)<;>rfl) (h:= ?_)
   refine lt 2 (hx:=by intro wD hSw;(have hSw:=hSw.out);(refine bD 24 (.tmp 10) ?_ q10 0 ?_ _ _ hSw.2.2.1 Tryz.underlying24 rfl (by rw[aF,wh];exact bo))<;>rfl) (h:= ?_)
   refine ay (i:=1) (o:= ?_) (by kernel_rfl) (by kernel_rfl) ?_ ?_
   rotate_left 1
   focus(simp only[kG];exact rfl)
   go_wp2_with (go_at_call 24;refine(xV.o _).mono ?_;rintro r W5 ⟨rfl,hk5⟩;have cG:=ae hk5;clear hk5)
   try dsimp only[aN]
   refine⟨?_,fun hHeld=> ?_⟩
   focus(exact ae (⟨hHeld.out.1.trans cG.o,hHeld.out.2.1.keeps cG.o,hHeld.out.2.2.1.keeps cG.o,hHeld.out.2.2.2.1.keeps cG.o,hHeld.out.2.2.2.2.1.keeps cG.o,Nat.lt_of_lt_of_le hHeld.out.2.2.2.2.2.1 cG.o.size,hHeld.out.2.2.2.2.2.2.imp (fun _ h=>⟨h.1,h.2.keeps cG.o⟩)⟩))
   try simp only[kP]
   refine ay (i:=3) (o:= ?_) (by kernel_rfl) (by kernel_rfl) ?_ ?_
   rotate_left 1
   focus(simp only[kG];exact rfl)
   go_wp2_with (go_at_call 23;refine(Ov.o _).mono ?_;rintro r W5 ⟨rfl,hk5⟩;have cG:=ae hk5;clear hk5)
   try dsimp only[aN]
   refine⟨?_,fun hHeld=> ?_⟩
   focus(exact ae (⟨hHeld.out.1.trans cG.o,hHeld.out.2.1.keeps cG.o,hHeld.out.2.2.1.keeps cG.o,hHeld.out.2.2.2.1.keeps cG.o,hHeld.out.2.2.2.2.1.keeps cG.o,Nat.lt_of_lt_of_le hHeld.out.2.2.2.2.2.1 cG.o.size,hHeld.out.2.2.2.2.2.2.imp (fun _ h=>⟨h.1,h.2.keeps cG.o⟩)⟩))
   try simp only[kP]
   refine lt 4 (h:= ?_)
   refine lt 5 (h:= ?_)
   refine lt 6 (h:= ?_)
   obtain⟨Z2,hZ2,sB⟩:=hHeld.out.2.2.2.2.2.2
   have wI:=ae sB
   clear sB
   refine ay (i:=7) (o:= ?_) (by kernel_rfl) (by kernel_rfl) ?_ ?_
   rotate_left 1
   focus(simp only[kG];exact rfl)
   go_wp2_with (refine ws wI.o uK (by rw[hZ2]) (h:= ?_);intro w9 aR aJ;have H9:=ae aR;have bK:=ae aJ;clear aR aJ)
   try dsimp only[aN]
   refine⟨?_,fun hHeld=> ?_⟩
   focus(exact ae (⟨ag hHeld.out.1 bK.o (by omega),hHeld.out.2.1.aG bK.o (by omega),hHeld.out.2.2.1.aG bK.o (by omega),hHeld.out.2.2.2.1.aG bK.o (by omega),hHeld.out.2.2.2.2.1.aG bK.o (by omega),Nat.lt_of_lt_of_le hHeld.out.2.2.2.2.2.1 bK.o.size,_,by rw[aF,uK],H9.o⟩))
   try simp only[kP]
   refine aU (by kernel_rfl) ?_
   try simp only[List.drop_succ_cons,List.drop_zero]
   go_upto_region 19 with(fail)
   refine cf (fun W=>Keeps w W∧Row W q11 0 K2.cells∧Row W (p+1) 0 K0.cells∧Row W q13 0 (AK.1.map (Value.int .u8))∧q13<W.heap.size) ⟨hHeld.out.1,hHeld.out.2.2.2.1,hHeld.out.2.2.2.2.1,H9.o,hHeld.out.2.2.2.2.2.1⟩ ?_
   clear hHeld H9 bK wI HR aV cP dC jx aA IX
   rintro IY ⟨hk,hr,hr2,hr3,Ug⟩
   have aA:=ae hk;have dC:=ae hr;have aV:=ae hr2;have jx:=ae hr3
   clear hk hr hr2 hr3
   have Ji:=ae (show K2.cells.take 39++AK.1.map (Value.int .u8)++K2.cells.drop (39+32)=(KD.mk (k.d+1) FG n CC 0 AK.1).cells by rw[←aq.o];exact Aq _ jH mb _ rfl uK)
   refine aB 3 (by kernel_rfl) (by kernel_rfl) ?_
   simp only[List.take_succ_cons,List.take_zero,List.drop_succ_cons,List.drop_zero]
   repeat(first |go_big_quiet_step (fail)|quiet_step (fail))
   refine wpQuiet_nil ?_
   intro _ hw'
   obtain⟨nq,hw''⟩:=hw'
   subst hw''
   refine rX rfl (.tmp 79) (.tmp 80) rfl q11 39 32 32 rfl (some ⟨q13,0,none⟩) 32 32 rfl (Nat.le_refl _) K2.cells (dC.o.drewN nq) (by rw[NA];omega) (AK.1.map (Value.int .u8)) (Rd.bQ (jx.o.drewN nq) (by rw[aF,uK]) (by show q13<IY.heap.size;omega) (Nat.le_refl _) (by unfold maxLen;omega)) (ai _) (fun Ow eD hc6=> ?_)
   rw[Ji.o]at eD
   have dC:=ae eD
   have aV:=ae ((aV.o.drewN nq).aG hc6 (by omega));have aA:=ae (ag (aA.o.trans (Qt.drewN IY nq).keeps) hc6 (by omega))
   clear eD hc6 Ji jx
   have hcb:=uM.o hx
   have Jl:(KD.mk (k.d+1) FG n CC 0 AK.1).cells.length=71:=bp jH mb (by simp[uK])
   have IZ:=ae (show(Tryz.prog.info? 29).map (·.size)=some (KD.mk (k.d+1) FG n CC 0 AK.1).cells.length from i9 jH mb (by simp[uK]))
   have ND:=ae (KD.mk (k.d+1) FG n CC 0 AK.1).one
   have Z0:=ae gZ.sz
   by_cases he:AK.2=0
   ·obtain rfl:ST=(KD.mk (k.d+1) FG n CC 0 AK.1,0):=by
     rw[uh.o (by rw[hcb];exact he),hcb];rfl
    have hne:(AK.2 !=0)=false:=by rw[he];rfl
    clear hcb uh ui uM xM aq
    go_wp2_with (first |(refine aj rfl 29 (.tmp 11) rfl q11 0 rfl _ _ dC.o Tryz.underlying29 rfl IZ.o ?_)|(refine wpList_store_row rfl 29 (.tmp 4) (.tmp 93) rfl (p+1) 0 rfl K0.cells (KD.mk (k.d+1) FG n CC 0 AK.1).cells rfl aV.o (by rw[Jl];rfl) IZ.o ND.o ?_;intro w9 aR aJ;have H9:=ae aR;have bK:=ae aJ;clear aR aJ))
    exact bodyPost_ret (al (p:=4) (t:=5) (ty:=29) rfl _ _ (p+1) 0 _ _ _ rfl rfl H9.o Tryz.underlying29 rfl IZ.o) rfl ⟨rfl,ag aA.o bK.o (by omega)⟩
   ·obtain rfl:ST=(K0,7):=ui.o (by rw[hcb];exact he)
    have hne:(AK.2 !=0)=true:=by rw[bne_iff_ne];exact he
    clear hcb uh ui uM xM
    go_wp2_with (first |(refine aW (by kernel_rfl) 29 _ rfl [] ?_ _ ex ?_;focus rfl)|(refine wpList_store_row rfl 29 (.tmp 4) (.tmp 92) rfl (p+1) 0 rfl K0.cells K0.cells rfl aV.o rfl Z0.o K0.one ?_;intro w9 aR aJ;have H9:=ae aR;have bK:=ae aJ;clear aR aJ))
    exact bodyPost_ret (al (p:=4) (t:=5) (ty:=29) rfl _ _ (p+1) 0 _ _ _ rfl rfl H9.o Tryz.underlying29 rfl Z0.o) rfl ⟨rfl,ag aA.o bK.o (by omega)⟩
theorem I0(k:KD)(h:k.ok)(n:Int)(h0:0≤n)(h1:n<4294967296)(hg:cF k.x k.z=true)(hd:¬k.d=255)(hh:¬(2147483648≤n∧¬k.x=0))(hmd:¬2147483648≤n)(hx:¬k.x=0)(w:World):
 Calls Tryz.prog 7 #[.agg k.cells.toArray,.int .u32 n] w fun e w' =>e= .returned (.tuple #[.agg (bE k n).1.cells.toArray,.int .i64 (bE k n).2])∧Keeps w w':=by
 have hpr:cX k=(bf k.x k.z,0):=by unfold cX;rw[if_pos hg]
 have pU:=fun W=>ly k h W
 rw[hpr]at pU
 dsimp only at pU
 have kV:=ae pU
 clear pU hpr
 have EO:=ae (fun W=>gM k h W)
 have hpl:=dB h
 have hpb:=fM h
 have hkl:=h.len
 have ZK:=ae h.sz
 have Am:=ae (fun(W:World) (p:Nat) (hr:Row W p 0 k.cells)=>h.row38 hr)
 have RWS:=ae (fun(W:World) (p:Nat) (hr:Row W p 0 k.cells)=>h.rows hr)
 have iO:=ae (fun W=>tV n h0 h1 W)
 have uJ:(four n).length=4:=rfl
 have Nz:=lx h0 h1
 have hdl:=h.dl
 have hdb:=h.db
 have hcl:=h.cl
 have hcb:=h.cb
 have eg:=jA k n
 obtain⟨FR,nC,hfl,hfb⟩:∃FR,FR=(if 2147483648≤n then k.x::k.z else bf k.x k.z)∧FR.length=33∧Bytes FR:=by
  by_cases hn:2147483648≤n
  ·exact⟨_,rfl,by rw[if_pos hn];exact hdl,by rw[if_pos hn];exact hdb⟩
  ·exact⟨_,rfl,by rw[if_neg hn];exact hpl,by rw[if_neg hn];exact hpb⟩
 have hch:pD.qz k.cc (FR++four n)=a6 k n:=by unfold a6;rw[nC]
 have tY:=ae (fun(kv bv:Value) (W:World) (hk:Rd W 1 kv 32 (k.cc.map (Value.int .u8))) (hb:Rd W 1 bv 37 ((FR++four n).map (Value.int .u8)))=>pD.pK kv bv 32 37 k.cc (FR++four n) W hk hcb (by omega) hb (fun y hy=>by rcases List.mem_append.1 hy with e|e;exact hfb y e;exact Nz y e) (by omega))
 rw[hch]at tY
 have hst1:(bG k n).2=0→bE k n=(⟨k.d+1,es k,n,(a6 k n).drop 32,(bG k n).1.headD 0,(bG k n).1.drop 1⟩,0):=fun e=>by
  unfold bE;rw[if_pos hg,if_neg hd,if_neg hh,if_pos e]
 have hst2:¬(bG k n).2=0→bE k n=(K0,7):=fun e=>by
  unfold bE;rw[if_pos hg,if_neg hd,if_neg hh,if_neg e]
 have hcb0:k.x=0→bG k n=(0::(eL (be k.z) (be ((a6 k n).take 32))).1,(eL (be k.z) (be ((a6 k n).take 32))).2):=fun e=>by unfold bG;rw[if_pos e]
 have qK:¬k.x=0→bG k n=gK (k.x::k.z) (be ((a6 k n).take 32)):=fun e=>by unfold bG;rw[if_neg e]
 have tZ:Bytes ((a6 k n).take 32):=fun y hy=>ib k n y (List.mem_of_mem_take hy)
 have Ov:=ae (fun W=>ou k.z ((a6 k n).take 32) h.zb tZ h.zl (by rw[List.length_take,eg];rfl) W)
 have xT:=ae (fun W=>ov (k.x::k.z) ((a6 k n).take 32) hdb tZ hdl (by rw[List.length_take,eg];rfl) W)
 have uK:=iw (be k.z) (be ((a6 k n).take 32))
 have uL:=eM (k.x::k.z) (be ((a6 k n).take 32))
 have xV:=ae (fun W=>kQ k h W)
 have hzl:=h.zl
 have uf:=ae (fun(v:Value) W (hv:Rd W 1 v 33 ((bf k.x k.z).map (Value.int .u8)))=>j4.mX v 33 (bf k.x k.z) W hv hpb (by omega))
 have xW:=j4.dE (sha256 (bf k.x k.z))
 have hfin:es k=(j4.ef (sha256 (bf k.x k.z))).take 4:=rfl
 generalize j4.ef (sha256 (bf k.x k.z))=F20 at *
 generalize es k=FG at *
 generalize eL (be k.z) (be ((a6 k n).take 32))=AK at *
 generalize gK (k.x::k.z) (be ((a6 k n).take 32))=AP at *
 generalize bG k n=CB at *
 obtain⟨a0,az,hap⟩:∃a0 az,AP.1=a0::az:=by cases hA:AP.1 with |nil=>rw[hA]at uL;cases uL|cons a l=>exact⟨a,l,rfl⟩
 have ug:=ae hap;clear hap
 generalize a6 k n=CH at *
 generalize four n=F4 at *
 generalize bf k.x k.z=PV at *
 have hmode:(2147483648≤n∧FR=k.x::k.z)∨(¬2147483648≤n∧FR=PV):=by
  by_cases hn:2147483648≤n
  ·exact .inl ⟨hn,by rw[nC,if_pos hn]⟩
  ·exact .inr ⟨hn,by rw[nC,if_neg hn]⟩
 clear nC hch
 have Ar:=ae hmode
 have hx0:2147483648≤n→k.x=0:=fun hn=>Classical.byContradiction fun e=>hh ⟨hn,e⟩
 generalize k.cells=KC at *
 generalize bE k n=ST at *
 have uh:=ae hst1;have ui:=ae hst2;have uM:=ae hcb0;have xM:=ae qK;have jX:=ae hfin
 clear hmode hst1 hst2 hcb0 qK hfin
 have hd2:(k.d==255)=false:=by rw[beq_eq_false_iff_ne];exact hd
 go_enter Tryz.func7,Tryz.ntmps7
 go_upto_region 1 with(fail)
 refine bu (fun W hk hr hr2 hs=> ?_)
 obtain⟨p,hp⟩:∃p,p=w.heap.size:=⟨_,rfl⟩
 rw[←hp]at hr hr2 hs⊢
 have hkp:w.heap.size≤p:=by omega
 have HR:=ae (show Row W p 0 KC from by simpa using hr);have HK:=ae hk
 have aV:=ae (show Row W (p+1) 0 K0.cells from hr2)
 have hps:p+1<W.heap.size:=by omega
 clear hp hk hr hr2 hs
 go_upto_region 2 with(first |(refine aj rfl 29 (.tmp 2) rfl p 0 rfl _ _ HR.o Tryz.underlying29 rfl ZK.o ?_)|(go_at_call 12;refine(kV.o _).mono ?_;rintro e W1 ⟨rfl,hk1⟩;have bw:=ae hk1;clear hk1)|(refine ws (g:=W1.heap.size) (olds:=(bA.map (Value.int .u8))) (Row.new _ _ _ rfl) hpl rfl (h:= ?_);intro W6 hr2 hc2;have dM:=ae hr2;have bS:=ae (ag (ah bw.o _) hc2 bw.o.size);clear hr2 hc2))
 have aV:=ae (aV.o.keeps bS.o);have HR:=ae (HR.o.keeps bS.o);have aA:=ae (HK.o.trans bS.o)
 have hpq:p+1<W1.heap.size:=Nat.lt_of_lt_of_le hps bw.o.size
 generalize W1.heap.size=q6 at *
 have At:q6<W6.heap.size:=dM.o.lt (aM hpl)
 clear HK bw bS
 obtain⟨c0,r1,c5,r6⟩:=RWS.o _ _ HR.o
 have R6:=ae r6;have C0:=ae c0
 clear r1 r6 c5
 rcases Ar.o with⟨hn,nC⟩|⟨hn,nC⟩
 ·exact absurd hn (by omega)
 · skip
   clear hx0
   have hge:decide (2147483648≤n)=false:=decide_eq_false (by omega)
   clear hn hmd
   go_upto_region 11 with(fail)
   refine cf (fun W=>Keeps w W∧Row W p 0 KC∧Row W (p+1) 0 K0.cells∧Row W q6 0 (PV.map (Value.int .u8))∧Row W p 6 (k.cc.map (Value.int .u8))∧q6<W.heap.size) ⟨aA.o,HR.o,aV.o,dM.o,R6.o,At⟩ ?_
   clear HR aV aA dM R6 C0 At c0
   rintro W6 ⟨hk,hr,hr2,hr3,hr4,At⟩
   have aA:=ae hk;have HR:=ae hr;have aV:=ae hr2;have dM:=ae hr3;have R6:=ae hr4
   clear hk hr hr2 hr3 hr4
   have hcc:(k.cc.map (Value.int .u8)).length=32:=by rw[aF,hcl]
   have pL:=ae (fun bv W (hk:Keeps W6 W) (hb:Rd W 1 bv 37 ((FR++F4).map (Value.int .u8)))=>tY.o (.slice (some ⟨p,6,none⟩) 32 32) bv W (Rd.bQ (R6.o.keeps hk) (by rw[hcc]) (by have :=hk.size;omega) (Nat.le_refl _) (by unfold maxLen;omega)) hb)
   have oG:=ae (fun W (hk:Keeps W6 W)=>show Src Tryz.prog 1 44 (.slice (some ⟨q6,0,none⟩) 33 33) 33 (FR.map (Value.int .u8)) W from Src.row Tryz.underlying44 (by rw[aF,hfl]) (by rw[nC];exact dM.o.keeps hk) (ai _))
   rename_i K1 hK1
   refine pT [9,43,44,45,46,47,48,49,50,51] (fun us W=>∃q9,us.getD 0 undef= .pointer (some ⟨q9,0,none⟩)∧Keeps W6 W∧Row W q9 0 (CH.map (Value.int .u8))∧W6.heap.size≤q9) hK1 (fun rJ=> ?_) ?_
   focus
    have key:=fun u1 u2 u3 u4 u5 u6 u7 u8 u9 u10 w' =>rJ [u1,u2,u3,u4,u5,u6,u7,u8,u9,u10] w' rfl
    clear rJ hK1
    simp only[jC,kP]at key
    have KEY:=ae key
    clear key
    refine cL (S:=fun W=>Hid ((fun W=>Keeps W6 W) W)) 10 (by kernel_rfl) (by kernel_rfl) ?_ (fun hHeld=> ?_)
    focus exact ae (bz (Keeps.refl _))
    refine lt 0 (h:= ?_)
    refine lt 1 (h:= ?_)
    refine lt 3 (h:= ?_)
    refine lt 5 (h:= ?_)
    refine aK (fun W=>Keeps W6 W) hHeld.out ?_
    intro W hk
    have HK:=ae hk;clear hk hHeld
    have hHeld:Hid (Keeps W6 W):=HK
    refine ck (i:=2) (j:=9) (by kernel_rfl) (by kernel_rfl) (h:= ?_) (h':= ?_)
    · skip
      go_wp2
      try dsimp only[aN]
      refine⟨?_,fun hHeld=> ?_⟩
      focus(exact ae (ah HK.o _))
      try simp only[kP]
      obtain⟨v0,hv0⟩:∃v0,v0=Value.slice (some ⟨W.heap.size,0,none⟩) 0 0:=⟨_,rfl⟩
      rw[←hv0]
      have Dp:=ae hv0;clear hv0
      refine aK (fun W=>Keeps W6 W∧Own W6 W v0 0 []) ⟨ah HK.o _,by rw[Dp.o];exact kS HK.o _⟩ ?_
      rintro W ⟨hk,ho⟩
      have HK:=ae hk;have HO:=ae ho;clear hk ho
      have hHeld:Hid (Keeps W6 W):=HK
      refine ck (i:=4) (j:=9) (by kernel_rfl) (by kernel_rfl) (h:= ?_) (h':= ?_)
      · skip
        go_wp2_with (refine aO rfl (.tmp 45) (.tmp 46) rfl HO.o (Keeps.refl _) rfl _ rfl 33 FR (oG.o _ HK.o) (by omega) ?_;intro v1 w1 ho1 hg1;have dw:=ae ho1;have iP:=ae hg1;clear ho1 hg1)
        try dsimp only[aN]
        refine⟨?_,fun hHeld=> ?_⟩
        focus(exact ae (dw.o.keeps))
        try simp only[kP]
        refine aK (fun W=>Keeps W6 W∧Own W6 W v1 33 FR) ⟨dw.o.keeps,by have :=dw.o;rwa[List.nil_append]at this⟩ ?_
        rintro W ⟨hk,ho⟩
        have HK:=ae hk;have HO:=ae ho;clear hk ho
        have hHeld:Hid (Keeps W6 W):=HK
        refine ck (i:=6) (j:=9) (by kernel_rfl) (by kernel_rfl) (h:= ?_) (h':= ?_)
        · skip
          go_wp2_with (go_at_call 21;refine(iO.o _).mono ?_;rintro r w2 ⟨g4,rfl,hk2,qL,hlt2,hr2⟩;have aq:=ae hk2;have HR2:=ae hr2;clear hk2 hr2)
          try dsimp only[aN]
          refine⟨?_,fun hHeld=> ?_⟩
          focus(exact ae (HK.o.trans aq.o))
          try simp only[kP]
          refine aK (fun W=>Keeps W6 W∧Own W6 W v1 33 FR∧(g4<W.heap.size∧Row W g4 0 (F4.map (Value.int .u8))∧v1.ownBlock≠some g4)) ⟨HK.o.trans aq.o,HO.o.step aq.o,⟨hlt2,HR2.o,fun e=>by have :=HO.o.buf.lt e;omega⟩⟩ ?_
          rintro W ⟨hk,ho,hf⟩
          have HK:=ae hk;have HO:=ae ho;have HF:=ae hf;clear hk ho hf
          have hHeld:Hid (Keeps W6 W):=HK
          refine ck (i:=7) (j:=9) (by kernel_rfl) (by kernel_rfl) (h:= ?_) (h':= ?_)
          · skip
            go_wp2_with (refine aO rfl (.tmp 47) (.tmp 49) rfl HO.o (Keeps.refl _) rfl _ rfl 4 F4 (Src.row Tryz.underlying44 (by simp[uJ]) HF.o.2.1 (ai _)) (by omega) ?_;intro v2 w3 ho1 hg1;have dw:=ae ho1;have iP:=ae hg1;clear ho1 hg1)
            try dsimp only[aN]
            refine⟨?_,fun hHeld=> ?_⟩
            focus(exact ae (dw.o.keeps))
            try simp only[kP]
            refine aK (fun W=>Keeps W6 W∧Own W6 W v2 37 (FR++F4)) ⟨dw.o.keeps,dw.o⟩ ?_
            rintro W ⟨hk,ho⟩
            have HK:=ae hk;have HO:=ae ho;clear hk ho
            have hHeld:Hid (Keeps W6 W):=HK
            refine ck (i:=8) (j:=9) (by kernel_rfl) (by kernel_rfl) (h:= ?_) (h':= ?_)
            · skip
              go_wp2_with (go_at_call 20;refine(pL.o _ _ HK.o HO.o.rd).mono ?_;rintro r w4 ⟨rfl,hk2⟩;have aq:=ae hk2;clear hk2)
              try dsimp only[aN]
              refine⟨?_,fun hHeld=> ?_⟩
              focus(exact ae (HK.o.trans aq.o))
              try simp only[kP]
              refine aK (fun W=>Keeps W6 W) (HK.o.trans aq.o) ?_
              rintro W hk
              have HK:=ae hk;clear hk
              have hHeld:Hid (Keeps W6 W):=HK
              refine ay (i:=9) (o:= ?_) (by kernel_rfl) (by kernel_rfl) ?_ ?_
              rotate_left 1
              focus(simp only[kG];exact rfl)
              go_wp2
              try dsimp only[aN]
              refine⟨?_,fun hHeld=> ?_⟩
              focus(exact ae (ah HK.o _))
              try simp only[kP]
              obtain⟨q9,dP⟩:∃q9,q9=W.heap.size:=⟨_,rfl⟩
              rw[←dP]
              have j3:=ae dP;clear dP
              refine aK (fun W=>Keeps W6 W∧aC W6 W q9 (aw.map (Value.int .u8)) (.slice none 0 0)) ⟨ah HK.o _,by rw[j3.o];exact aC.new HK.o (gn HK.o) (aw.map (Value.int .u8)) _ rfl _⟩ ?_
              rintro W ⟨hk,ha⟩
              have HK:=ae hk;have HA:=ae ha;clear hk ha
              have hHeld:Hid (Keeps W6 W):=HK
              refine aU (by kernel_rfl) ?_
              try simp only[List.drop_succ_cons,List.drop_zero]
              go_wp2_with (refine ws (g:=q9) (olds:=(aw.map (Value.int .u8))) HA.o.row eg rfl (h:= ?_);intro w5 dG hc5;have ej:=ae dG;have fY:=ae hc5;clear dG hc5)
              refine KEY.o _ _ _ _ _ _ _ _ _ _ _ ?_
              exact⟨q9,rfl,ag HK.o fY.o HA.o.ge,ej.o,HA.o.ge⟩
            · skip
              go_wp2
              try dsimp only[aN]
              refine⟨?_,fun hHeld=> ?_⟩
              focus(exact ae (ah HK.o _))
              try simp only[kP]
              obtain⟨q9,dP⟩:∃q9,q9=W.heap.size:=⟨_,rfl⟩
              rw[←dP]
              have j3:=ae dP;clear dP
              refine aK (fun W=>Keeps W6 W∧Own W6 W v2 37 (FR++F4)∧aC W6 W q9 (aw.map (Value.int .u8)) v2) ⟨ah HK.o _,HO.o.step (ah (Keeps.refl W) _),by rw[j3.o];exact aC.new HK.o (HO.o) (aw.map (Value.int .u8)) _ rfl _⟩ ?_
              rintro W ⟨hk,ho,ha⟩
              have HK:=ae hk;have HO:=ae ho;have HA:=ae ha;clear hk ho ha
              have hHeld:Hid (Keeps W6 W):=HK
              refine ay (i:=8) (o:= ?_) (by kernel_rfl) (by kernel_rfl) ?_ ?_
              rotate_left 1
              focus(simp only[kG];exact rfl)
              go_wp2_with (go_at_call 20;refine(pL.o _ _ HK.o HO.o.rd).mono ?_;rintro r w4 ⟨rfl,hk2⟩;have aq:=ae hk2;clear hk2)
              try dsimp only[aN]
              refine⟨?_,fun hHeld=> ?_⟩
              focus(exact ae (HK.o.trans aq.o))
              try simp only[kP]
              refine aK (fun W=>Keeps W6 W∧aC W6 W q9 (aw.map (Value.int .u8)) (.slice none 0 0)) ⟨HK.o.trans aq.o,⟨(HA.o.keeps aq.o).row,HA.o.ge,(HA.o.keeps aq.o).lt,by simp[Value.ownBlock]⟩⟩ ?_
              rintro W ⟨hk,ha⟩
              have HK:=ae hk;have HA:=ae ha;clear hk ha
              have hHeld:Hid (Keeps W6 W):=HK
              refine aU (by kernel_rfl) ?_
              try simp only[List.drop_succ_cons,List.drop_zero]
              go_wp2_with (refine ws (g:=q9) (olds:=(aw.map (Value.int .u8))) HA.o.row eg rfl (h:= ?_);intro w5 dG hc5;have ej:=ae dG;have fY:=ae hc5;clear dG hc5)
              refine KEY.o _ _ _ _ _ _ _ _ _ _ _ ?_
              exact⟨q9,rfl,ag HK.o fY.o HA.o.ge,ej.o,HA.o.ge⟩
          · skip
            go_wp2
            try dsimp only[aN]
            refine⟨?_,fun hHeld=> ?_⟩
            focus(exact ae (ah HK.o _))
            try simp only[kP]
            obtain⟨q9,dP⟩:∃q9,q9=W.heap.size:=⟨_,rfl⟩
            rw[←dP]
            have j3:=ae dP;clear dP
            refine aK (fun W=>Keeps W6 W∧Own W6 W v1 33 FR∧(g4<W.heap.size∧Row W g4 0 (F4.map (Value.int .u8))∧v1.ownBlock≠some g4)∧aC W6 W q9 (aw.map (Value.int .u8)) v1) ⟨ah HK.o _,HO.o.step (ah (Keeps.refl W) _),⟨by have :=HF.o.1;simp;omega,HF.o.2.1.alloc _,HF.o.2.2⟩,by rw[j3.o];exact aC.new HK.o (HO.o) (aw.map (Value.int .u8)) _ rfl _⟩ ?_
            rintro W ⟨hk,ho,hf,ha⟩
            have HK:=ae hk;have HO:=ae ho;have HF:=ae hf;have HA:=ae ha;clear hk ho hf ha
            have hHeld:Hid (Keeps W6 W):=HK
            refine ay (i:=7) (o:= ?_) (by kernel_rfl) (by kernel_rfl) ?_ ?_
            rotate_left 1
            focus(simp only[kG];exact rfl)
            go_wp2_with (refine aO rfl (.tmp 47) (.tmp 49) rfl HO.o (Keeps.refl _) rfl _ rfl 4 F4 (Src.row Tryz.underlying44 (by simp[uJ]) HF.o.2.1 (ai _)) (by omega) ?_;intro v2 w3 ho1 hg1;have dw:=ae ho1;have iP:=ae hg1;clear ho1 hg1)
            try dsimp only[aN]
            refine⟨?_,fun hHeld=> ?_⟩
            focus(exact ae (dw.o.keeps))
            try simp only[kP]
            refine aK (fun W=>Keeps W6 W∧Own W6 W v2 37 (FR++F4)∧aC W6 W q9 (aw.map (Value.int .u8)) v2) ⟨dw.o.keeps,dw.o,HA.o.grown iP.o⟩ ?_
            rintro W ⟨hk,ho,ha⟩
            have HK:=ae hk;have HO:=ae ho;have HA:=ae ha;clear hk ho ha
            have hHeld:Hid (Keeps W6 W):=HK
            refine ay (i:=8) (o:= ?_) (by kernel_rfl) (by kernel_rfl) ?_ ?_
            rotate_left 1
            focus(simp only[kG];exact rfl)
            go_wp2_with (go_at_call 20;refine(pL.o _ _ HK.o HO.o.rd).mono ?_;rintro r w4 ⟨rfl,hk2⟩;have aq:=ae hk2;clear hk2)
            try dsimp only[aN]
            refine⟨?_,fun hHeld=> ?_⟩
            focus(exact ae (HK.o.trans aq.o))
            try simp only[kP]
            refine aK (fun W=>Keeps W6 W∧aC W6 W q9 (aw.map (Value.int .u8)) (.slice none 0 0)) ⟨HK.o.trans aq.o,⟨(HA.o.keeps aq.o).row,HA.o.ge,(HA.o.keeps aq.o).lt,by simp[Value.ownBlock]⟩⟩ ?_
            rintro W ⟨hk,ha⟩
            have HK:=ae hk;have HA:=ae ha;clear hk ha
            have hHeld:Hid (Keeps W6 W):=HK
            refine aU (by kernel_rfl) ?_
            try simp only[List.drop_succ_cons,List.drop_zero]
            go_wp2_with (refine ws (g:=q9) (olds:=(aw.map (Value.int .u8))) HA.o.row eg rfl (h:= ?_);intro w5 dG hc5;have ej:=ae dG;have fY:=ae hc5;clear dG hc5)
            refine KEY.o _ _ _ _ _ _ _ _ _ _ _ ?_
            exact⟨q9,rfl,ag HK.o fY.o HA.o.ge,ej.o,HA.o.ge⟩
        · skip
          go_wp2
          try dsimp only[aN]
          refine⟨?_,fun hHeld=> ?_⟩
          focus(exact ae (ah HK.o _))
          try simp only[kP]
          obtain⟨q9,dP⟩:∃q9,q9=W.heap.size:=⟨_,rfl⟩
          rw[←dP]
          have j3:=ae dP;clear dP
          refine aK (fun W=>Keeps W6 W∧Own W6 W v1 33 FR∧aC W6 W q9 (aw.map (Value.int .u8)) v1) ⟨ah HK.o _,HO.o.step (ah (Keeps.refl W) _),by rw[j3.o];exact aC.new HK.o (HO.o) (aw.map (Value.int .u8)) _ rfl _⟩ ?_
          rintro W ⟨hk,ho,ha⟩
          have HK:=ae hk;have HO:=ae ho;have HA:=ae ha;clear hk ho ha
          have hHeld:Hid (Keeps W6 W):=HK
          refine ay (i:=6) (o:= ?_) (by kernel_rfl) (by kernel_rfl) ?_ ?_
          rotate_left 1
          focus(simp only[kG];exact rfl)
          go_wp2_with (go_at_call 21;refine(iO.o _).mono ?_;rintro r w2 ⟨g4,rfl,hk2,qL,hlt2,hr2⟩;have aq:=ae hk2;have HR2:=ae hr2;clear hk2 hr2)
          try dsimp only[aN]
          refine⟨?_,fun hHeld=> ?_⟩
          focus(exact ae (HK.o.trans aq.o))
          try simp only[kP]
          refine aK (fun W=>Keeps W6 W∧Own W6 W v1 33 FR∧(g4<W.heap.size∧Row W g4 0 (F4.map (Value.int .u8))∧v1.ownBlock≠some g4)∧aC W6 W q9 (aw.map (Value.int .u8)) v1) ⟨HK.o.trans aq.o,HO.o.step aq.o,⟨hlt2,HR2.o,fun e=>by have :=HO.o.buf.lt e;omega⟩,HA.o.keeps aq.o⟩ ?_
          rintro W ⟨hk,ho,hf,ha⟩
          have HK:=ae hk;have HO:=ae ho;have HF:=ae hf;have HA:=ae ha;clear hk ho hf ha
          have hHeld:Hid (Keeps W6 W):=HK
          refine ay (i:=7) (o:= ?_) (by kernel_rfl) (by kernel_rfl) ?_ ?_
          rotate_left 1
          focus(simp only[kG];exact rfl)
          go_wp2_with (refine aO rfl (.tmp 47) (.tmp 49) rfl HO.o (Keeps.refl _) rfl _ rfl 4 F4 (Src.row Tryz.underlying44 (by simp[uJ]) HF.o.2.1 (ai _)) (by omega) ?_;intro v2 w3 ho1 hg1;have dw:=ae ho1;have iP:=ae hg1;clear ho1 hg1)
          try dsimp only[aN]
          refine⟨?_,fun hHeld=> ?_⟩
          focus(exact ae (dw.o.keeps))
          try simp only[kP]
          refine aK (fun W=>Keeps W6 W∧Own W6 W v2 37 (FR++F4)∧aC W6 W q9 (aw.map (Value.int .u8)) v2) ⟨dw.o.keeps,dw.o,HA.o.grown iP.o⟩ ?_
          rintro W ⟨hk,ho,ha⟩
          have HK:=ae hk;have HO:=ae ho;have HA:=ae ha;clear hk ho ha
          have hHeld:Hid (Keeps W6 W):=HK
          refine ay (i:=8) (o:= ?_) (by kernel_rfl) (by kernel_rfl) ?_ ?_
          rotate_left 1
          focus(simp only[kG];exact rfl)
          go_wp2_with (go_at_call 20;refine(pL.o _ _ HK.o HO.o.rd).mono ?_;rintro r w4 ⟨rfl,hk2⟩;have aq:=ae hk2;clear hk2)
          try dsimp only[aN]
          refine⟨?_,fun hHeld=> ?_⟩
          focus(exact ae (HK.o.trans aq.o))
          try simp only[kP]
          refine aK (fun W=>Keeps W6 W∧aC W6 W q9 (aw.map (Value.int .u8)) (.slice none 0 0)) ⟨HK.o.trans aq.o,⟨(HA.o.keeps aq.o).row,HA.o.ge,(HA.o.keeps aq.o).lt,by simp[Value.ownBlock]⟩⟩ ?_
          rintro W ⟨hk,ha⟩
          have HK:=ae hk;have HA:=ae ha;clear hk ha
          have hHeld:Hid (Keeps W6 W):=HK
          refine aU (by kernel_rfl) ?_
          try simp only[List.drop_succ_cons,List.drop_zero]
          go_wp2_with (refine ws (g:=q9) (olds:=(aw.map (Value.int .u8))) HA.o.row eg rfl (h:= ?_);intro w5 dG hc5;have ej:=ae dG;have fY:=ae hc5;clear dG hc5)
          refine KEY.o _ _ _ _ _ _ _ _ _ _ _ ?_
          exact⟨q9,rfl,ag HK.o fY.o HA.o.ge,ej.o,HA.o.ge⟩
      · skip
        go_wp2
        try dsimp only[aN]
        refine⟨?_,fun hHeld=> ?_⟩
        focus(exact ae (ah HK.o _))
        try simp only[kP]
        obtain⟨q9,dP⟩:∃q9,q9=W.heap.size:=⟨_,rfl⟩
        rw[←dP]
        have j3:=ae dP;clear dP
        refine aK (fun W=>Keeps W6 W∧Own W6 W v0 0 []∧aC W6 W q9 (aw.map (Value.int .u8)) v0) ⟨ah HK.o _,HO.o.step (ah (Keeps.refl W) _),by rw[j3.o];exact aC.new HK.o (HO.o) (aw.map (Value.int .u8)) _ rfl _⟩ ?_
        rintro W ⟨hk,ho,ha⟩
        have HK:=ae hk;have HO:=ae ho;have HA:=ae ha;clear hk ho ha
        have hHeld:Hid (Keeps W6 W):=HK
        refine ay (i:=4) (o:= ?_) (by kernel_rfl) (by kernel_rfl) ?_ ?_
        rotate_left 1
        focus(simp only[kG];exact rfl)
        go_wp2_with (refine aO rfl (.tmp 45) (.tmp 46) rfl HO.o (Keeps.refl _) rfl _ rfl 33 FR (oG.o _ HK.o) (by omega) ?_;intro v1 w1 ho1 hg1;have dw:=ae ho1;have iP:=ae hg1;clear ho1 hg1)
        try dsimp only[aN]
        refine⟨?_,fun hHeld=> ?_⟩
        focus(exact ae (dw.o.keeps))
        try simp only[kP]
        refine aK (fun W=>Keeps W6 W∧Own W6 W v1 33 FR∧aC W6 W q9 (aw.map (Value.int .u8)) v1) ⟨dw.o.keeps,by have :=dw.o;rwa[List.nil_append]at this,HA.o.grown iP.o⟩ ?_
        rintro W ⟨hk,ho,ha⟩
        have HK:=ae hk;have HO:=ae ho;have HA:=ae ha;clear hk ho ha
        have hHeld:Hid (Keeps W6 W):=HK
        refine ay (i:=6) (o:= ?_) (by kernel_rfl) (by kernel_rfl) ?_ ?_
        rotate_left 1
        focus(simp only[kG];exact rfl)
        go_wp2_with (go_at_call 21;refine(iO.o _).mono ?_;rintro r w2 ⟨g4,rfl,hk2,qL,hlt2,hr2⟩;have aq:=ae hk2;have HR2:=ae hr2;clear hk2 hr2)
        try dsimp only[aN]
        refine⟨?_,fun hHeld=> ?_⟩
        focus(exact ae (HK.o.trans aq.o))
        try simp only[kP]
        refine aK (fun W=>Keeps W6 W∧Own W6 W v1 33 FR∧(g4<W.heap.size∧Row W g4 0 (F4.map (Value.int .u8))∧v1.ownBlock≠some g4)∧aC W6 W q9 (aw.map (Value.int .u8)) v1) ⟨HK.o.trans aq.o,HO.o.step aq.o,⟨hlt2,HR2.o,fun e=>by have :=HO.o.buf.lt e;omega⟩,HA.o.keeps aq.o⟩ ?_
        rintro W ⟨hk,ho,hf,ha⟩
        have HK:=ae hk;have HO:=ae ho;have HF:=ae hf;have HA:=ae ha;clear hk ho hf ha
        have hHeld:Hid (Keeps W6 W):=HK
        refine ay (i:=7) (o:= ?_) (by kernel_rfl) (by kernel_rfl) ?_ ?_
        rotate_left 1
        focus(simp only[kG];exact rfl)
        go_wp2_with (refine aO rfl (.tmp 47) (.tmp 49) rfl HO.o (Keeps.refl _) rfl _ rfl 4 F4 (Src.row Tryz.underlying44 (by simp[uJ]) HF.o.2.1 (ai _)) (by omega) ?_;intro v2 w3 ho1 hg1;have dw:=ae ho1;have iP:=ae hg1;clear ho1 hg1)
        try dsimp only[aN]
        refine⟨?_,fun hHeld=> ?_⟩
        focus(exact ae (dw.o.keeps))
        try simp only[kP]
        refine aK (fun W=>Keeps W6 W∧Own W6 W v2 37 (FR++F4)∧aC W6 W q9 (aw.map (Value.int .u8)) v2) ⟨dw.o.keeps,dw.o,HA.o.grown iP.o⟩ ?_
        rintro W ⟨hk,ho,ha⟩
        have HK:=ae hk;have HO:=ae ho;have HA:=ae ha;clear hk ho ha
        have hHeld:Hid (Keeps W6 W):=HK
        refine ay (i:=8) (o:= ?_) (by kernel_rfl) (by kernel_rfl) ?_ ?_
        rotate_left 1
        focus(simp only[kG];exact rfl)
        go_wp2_with (go_at_call 20;refine(pL.o _ _ HK.o HO.o.rd).mono ?_;rintro r w4 ⟨rfl,hk2⟩;have aq:=ae hk2;clear hk2)
        try dsimp only[aN]
        refine⟨?_,fun hHeld=> ?_⟩
        focus(exact ae (HK.o.trans aq.o))
        try simp only[kP]
        refine aK (fun W=>Keeps W6 W∧aC W6 W q9 (aw.map (Value.int .u8)) (.slice none 0 0)) ⟨HK.o.trans aq.o,⟨(HA.o.keeps aq.o).row,HA.o.ge,(HA.o.keeps aq.o).lt,by simp[Value.ownBlock]⟩⟩ ?_
        rintro W ⟨hk,ha⟩
        have HK:=ae hk;have HA:=ae ha;clear hk ha
        have hHeld:Hid (Keeps W6 W):=HK
        refine aU (by kernel_rfl) ?_
        try simp only[List.drop_succ_cons,List.drop_zero]
        go_wp2_with (refine ws (g:=q9) (olds:=(aw.map (Value.int .u8))) HA.o.row eg rfl (h:= ?_);intro w5 dG hc5;have ej:=ae dG;have fY:=ae hc5;clear dG hc5)
        refine KEY.o _ _ _ _ _ _ _ _ _ _ _ ?_
        exact⟨q9,rfl,ag HK.o fY.o HA.o.ge,ej.o,HA.o.ge⟩
    · skip
      go_wp2
      try dsimp only[aN]
      refine⟨?_,fun hHeld=> ?_⟩
      focus(exact ae (ah HK.o _))
      try simp only[kP]
      obtain⟨q9,dP⟩:∃q9,q9=W.heap.size:=⟨_,rfl⟩
      rw[←dP]
      have j3:=ae dP;clear dP
      refine aK (fun W=>Keeps W6 W∧aC W6 W q9 (aw.map (Value.int .u8)) (.slice none 0 0)) ⟨ah HK.o _,by rw[j3.o];exact aC.new HK.o (gn HK.o) (aw.map (Value.int .u8)) _ rfl _⟩ ?_
      rintro W ⟨hk,ha⟩
      have HK:=ae hk;have HA:=ae ha;clear hk ha
      have hHeld:Hid (Keeps W6 W):=HK
      refine ay (i:=2) (o:= ?_) (by kernel_rfl) (by kernel_rfl) ?_ ?_
      rotate_left 1
      focus(simp only[kG];exact rfl)
      go_wp2
      try dsimp only[aN]
      refine⟨?_,fun hHeld=> ?_⟩
      focus(exact ae (ah HK.o _))
      try simp only[kP]
      obtain⟨v0,hv0⟩:∃v0,v0=Value.slice (some ⟨W.heap.size,0,none⟩) 0 0:=⟨_,rfl⟩
      rw[←hv0]
      have Dp:=ae hv0;clear hv0
      refine aK (fun W=>Keeps W6 W∧Own W6 W v0 0 []∧aC W6 W q9 (aw.map (Value.int .u8)) v0) ⟨ah HK.o _,by rw[Dp.o];exact kS HK.o _,by rw[Dp.o];exact HA.o.made _⟩ ?_
      rintro W ⟨hk,ho,ha⟩
      have HK:=ae hk;have HO:=ae ho;have HA:=ae ha;clear hk ho ha
      have hHeld:Hid (Keeps W6 W):=HK
      refine ay (i:=4) (o:= ?_) (by kernel_rfl) (by kernel_rfl) ?_ ?_
      rotate_left 1
      focus(simp only[kG];exact rfl)
      go_wp2_with (refine aO rfl (.tmp 45) (.tmp 46) rfl HO.o (Keeps.refl _) rfl _ rfl 33 FR (oG.o _ HK.o) (by omega) ?_;intro v1 w1 ho1 hg1;have dw:=ae ho1;have iP:=ae hg1;clear ho1 hg1)
      try dsimp only[aN]
      refine⟨?_,fun hHeld=> ?_⟩
      focus(exact ae (dw.o.keeps))
      try simp only[kP]
      refine aK (fun W=>Keeps W6 W∧Own W6 W v1 33 FR∧aC W6 W q9 (aw.map (Value.int .u8)) v1) ⟨dw.o.keeps,by have :=dw.o;rwa[List.nil_append]at this,HA.o.grown iP.o⟩ ?_
      rintro W ⟨hk,ho,ha⟩
      have HK:=ae hk;have HO:=ae ho;have HA:=ae ha;clear hk ho ha
      have hHeld:Hid (Keeps W6 W):=HK
      refine ay (i:=6) (o:= ?_) (by kernel_rfl) (by kernel_rfl) ?_ ?_
      rotate_left 1
      focus(simp only[kG];exact rfl)
      go_wp2_with (go_at_call 21;refine(iO.o _).mono ?_;rintro r w2 ⟨g4,rfl,hk2,qL,hlt2,hr2⟩;have aq:=ae hk2;have HR2:=ae hr2;clear hk2 hr2)
      try dsimp only[aN]
      refine⟨?_,fun hHeld=> ?_⟩
      focus(exact ae (HK.o.trans aq.o))
      try simp only[kP]
      refine aK (fun W=>Keeps W6 W∧Own W6 W v1 33 FR∧(g4<W.heap.size∧Row W g4 0 (F4.map (Value.int .u8))∧v1.ownBlock≠some g4)∧aC W6 W q9 (aw.map (Value.int .u8)) v1) ⟨HK.o.trans aq.o,HO.o.step aq.o,⟨hlt2,HR2.o,fun e=>by have :=HO.o.buf.lt e;omega⟩,HA.o.keeps aq.o⟩ ?_
      rintro W ⟨hk,ho,hf,ha⟩
      have HK:=ae hk;have HO:=ae ho;have HF:=ae hf;have HA:=ae ha;clear hk ho hf ha
      have hHeld:Hid (Keeps W6 W):=HK
      refine ay (i:=7) (o:= ?_) (by kernel_rfl) (by kernel_rfl) ?_ ?_
      rotate_left 1
      focus(simp only[kG];exact rfl)
      go_wp2_with (refine aO rfl (.tmp 47) (.tmp 49) rfl HO.o (Keeps.refl _) rfl _ rfl 4 F4 (Src.row Tryz.underlying44 (by simp[uJ]) HF.o.2.1 (ai _)) (by omega) ?_;intro v2 w3 ho1 hg1;have dw:=ae ho1;have iP:=ae hg1;clear ho1 hg1)
      try dsimp only[aN]
      refine⟨?_,fun hHeld=> ?_⟩
      focus(exact ae (dw.o.keeps))
      try simp only[kP]
      refine aK (fun W=>Keeps W6 W∧Own W6 W v2 37 (FR++F4)∧aC W6 W q9 (aw.map (Value.int .u8)) v2) ⟨dw.o.keeps,dw.o,HA.o.grown iP.o⟩ ?_
      rintro W ⟨hk,ho,ha⟩
      have HK:=ae hk;have HO:=ae ho;have HA:=ae ha;clear hk ho ha
      have hHeld:Hid (Keeps W6 W):=HK
      refine ay (i:=8) (o:= ?_) (by kernel_rfl) (by kernel_rfl) ?_ ?_
      rotate_left 1
      focus(simp only[kG];exact rfl)
      go_wp2_with (go_at_call 20;refine(pL.o _ _ HK.o HO.o.rd).mono ?_;rintro r w4 ⟨rfl,hk2⟩;have aq:=ae hk2;clear hk2)
      try dsimp only[aN]
      refine⟨?_,fun hHeld=> ?_⟩
      focus(exact ae (HK.o.trans aq.o))
      try simp only[kP]
      refine aK (fun W=>Keeps W6 W∧aC W6 W q9 (aw.map (Value.int .u8)) (.slice none 0 0)) ⟨HK.o.trans aq.o,⟨(HA.o.keeps aq.o).row,HA.o.ge,(HA.o.keeps aq.o).lt,by simp[Value.ownBlock]⟩⟩ ?_
      rintro W ⟨hk,ha⟩
      have HK:=ae hk;have HA:=ae ha;clear hk ha
      have hHeld:Hid (Keeps W6 W):=HK
      refine aU (by kernel_rfl) ?_
      try simp only[List.drop_succ_cons,List.drop_zero]
      go_wp2_with (refine ws (g:=q9) (olds:=(aw.map (Value.int .u8))) HA.o.row eg rfl (h:= ?_);intro w5 dG hc5;have ej:=ae dG;have fY:=ae hc5;clear dG hc5)
      refine KEY.o _ _ _ _ _ _ _ _ _ _ _ ?_
      exact⟨q9,rfl,ag HK.o fY.o HA.o.ge,ej.o,HA.o.ge⟩
   intro us we hl hj
   match us,hl with
   |[u1,u2,u3,u4,u5,u6,u7,u8,u9,u10],_=>
   simp only[jC,kP]
   clear hK1 K1
   obtain⟨q9,hq,hk,hrow,hge⟩:=hj
   obtain rfl:u1= .pointer (some ⟨q9,0,none⟩):=hq
   have HR:=ae (HR.o.keeps hk);have aV:=ae (aV.o.keeps hk);have dM:=ae (dM.o.keeps hk);have aA:=ae (aA.o.trans hk);have lr:=ae hrow
   have dP:q6<q9:=Nat.lt_of_lt_of_le At hge
   clear hk hrow hge
   have wh:(CH.take 32).length=32:=by rw[List.length_take,eg];rfl
   have mb:(CH.drop 32).length=32:=by rw[List.length_drop,eg]
   have Lg:=ae (fun W (hr:Row W q9 0 (CH.map (Value.int .u8)))=>show Row W q9 0 ((CH.take 32).map (Value.int .u8)) by rw[List.map_take];exact hr.take 32)
   have Lh:=ae (fun W (hr:Row W q9 0 (CH.map (Value.int .u8)))=>show Row W q9 32 ((CH.drop 32).map (Value.int .u8)) by rw[List.map_drop];have :=hr.drop 32;rwa[Nat.zero_add]at this)
   have hsp1:=fun W=>run_arrayAt (P:=Tryz.prog) (w:=W) 24 5 32 (some ⟨q9,0,none⟩) 32 64 Tryz.underlying24 (Nat.le_refl _)
   have hsp2:=fun W=>run_arrayAt (P:=Tryz.prog) (w:=W) 24 5 32 (some ⟨q9,32,none⟩) 32 32 Tryz.underlying24 (Nat.le_refl _)
   have hbk:=qJ (k.d+1) n (CH.drop 32) mb
   have B1:=ae hbk;clear hbk
   generalize Au:CH.take 32=BY at *
   generalize Av:CH.drop 32=CC at *
   have Q3:=ae Au;have Q5:=ae Av
   clear Au Av
   go_upto_region 13 with(first |(refine wl (Lg.o _ lr.o) wh (h:= ?_))|(refine ws (g:=we.heap.size) (olds:=(ce.map (Value.int .u8))) (Row.new _ _ _ rfl) wh rfl (h:= ?_);intro Di hr2 hc2;have cP:=ae hr2;have kT:=ae (ag (ah (Keeps.refl we) _) hc2 (Nat.le_refl _));clear hr2 hc2))
   have hq10:q9<we.heap.size:=lr.o.lt (aM eg)
   generalize we.heap.size=q10 at *
   have HR:=ae (HR.o.keeps kT.o);have aV:=ae (aV.o.keeps kT.o);have dM:=ae (dM.o.keeps kT.o);have lr:=ae (lr.o.keeps kT.o);have aA:=ae (aA.o.trans kT.o)
   have EZ:q10<Di.heap.size:=cP.o.lt (aM wh)
   clear kT
   have hdw:IntKind.u8.wrap (k.d+1)=k.d+1:=by rw[IntKind.wrap_u8];have :=h.d;omega
   obtain⟨KA,Aw⟩:∃KA,KA=tW (k.d+1) n CC:=⟨_,rfl⟩
   rw[←Aw]at B1
   have Dq:KA.cells.length=71:=by rw[Aw];exact bp rfl mb rfl
   have Li:(Tryz.prog.info? 29).map (·.size)=some KA.cells.length:=by rw[Aw];exact i9 rfl mb rfl
   have jE:=ae Aw;have Lj:=ae Li
   clear Aw Li
   refine au 9 [8] [0,1,2,3,4,5,6,7] (fun _=>K0.cells) (by kernel_rfl) (by kernel_rfl) (by intro i hi;simp only[List.mem_cons,List.not_mem_nil,or_false]at hi;subst hi;exact⟨_,rfl,qI rfl rfl⟩) ?_
   refine kp (h:= ?_)
   refine kp (hx:=by(intro wS hS;have c9:=(RWS.o wS p (HR.o.keeps hS)).1;go_simp)<;>with_reducible rfl) (h:= ?_)
   iterate 4 refine kp (h:= ?_)
   refine kl (fun wS hS=>(Lh.o _ (lr.o.keeps hS))) mb (h:= ?_)
   refine kp (hx:=by intro wS hS;(refine cR 29 [(0,.tmp 57),(2,.tmp 58),(3,.tmp 61)] ?_ _ ?_ _ B1.o)<;>rfl) (h:= ?_)
   refine aI ?_
   intro GG V1 hk1 hG
   obtain⟨rp,rq,hd8⟩:=hG 8 (by simp)
   clear hd8
   simp only[aZ,br,ct,kD,kG,kP,Option.bind_some]
   generalize GG 8=q11 at *
   clear hG
   have AF:=ae rq;have aH:=ae hk1;clear hk1 rq
   go_upto_region 14 with(refine wpList_store_row rfl 29 (.tmp 11) (.tmp 62) rfl q11 0 rfl K0.cells KA.cells rfl AF.o (by rw[Dq];rfl) Lj.o KA.one ?_;intro EC hr2 hc2;have dC:=ae hr2;have fK:=ae (ag aH.o hc2 rp);clear hr2 hc2)
   have HR:=ae (HR.o.keeps fK.o);have aV:=ae (aV.o.keeps fK.o);have dM:=ae (dM.o.keeps fK.o);have cP:=ae (cP.o.keeps fK.o);have aA:=ae (aA.o.trans fK.o)
   have hq11:q10<q11:=Nat.lt_of_lt_of_le EZ rp
   have Ci:q11<EC.heap.size:=dC.o.lt (fun e=>by rw[e]at Dq;cases Dq)
   clear fK aH AF rp lr Lh Lg hsp1 hsp2
   have uj:=ae (show Rd EC 1 (.slice (some ⟨q6,0,none⟩) 33 33) 33 (PV.map (Value.int .u8))from Rd.bQ dM.o (by rw[aF,hpl]) (by omega) (Nat.le_refl _) (by unfold maxLen;omega))
   go_upto_region 15 with(first |(go_at_call 22;refine(uf.o _ _ uj.o).mono ?_;rintro e ED ⟨rfl,hk1⟩;have pV:=ae hk1;clear hk1)|(refine ws (g:=ED.heap.size) (olds:=((List.replicate 20 (0:Int)).map (Value.int .u8))) (Row.new _ _ _ rfl) xW rfl (h:= ?_);intro xU hr2 hc2;have iy:=ae hr2;have kU:=ae (ag (ah pV.o _) hc2 pV.o.size);clear hr2 hc2))
   have hq12:q11<ED.heap.size:=Nat.lt_of_lt_of_le Ci pV.o.size
   generalize ED.heap.size=q12 at *
   have HR:=ae (HR.o.keeps kU.o);have aV:=ae (aV.o.keeps kU.o);have cP:=ae (cP.o.keeps kU.o);have dC:=ae (dC.o.keeps kU.o);have aA:=ae (aA.o.trans kU.o)
   have Q6:q12<xU.heap.size:=iy.o.lt (aM xW)
   clear pV kU uj dM
   have jH:FG.length=4:=by rw[jX.o,List.length_take,xW];rfl
   have Ll:=ae (show KA.cells.take 1++(F20.map (Value.int .u8)).take 4++KA.cells.drop (1+4)=(KD.mk (k.d+1) FG n CC 0 cw).cells by rw[←List.map_take,←jX.o,jE.o];exact m0 _ _ _ _ jH)
   refine aB 3 (by kernel_rfl) (by kernel_rfl) ?_
   simp only[List.take_succ_cons,List.take_zero,List.drop_succ_cons,List.drop_zero]
   repeat(first |go_big_quiet_step (fail)|quiet_step (fail))
   refine wpQuiet_nil ?_
   intro _ hw'
   obtain⟨nq,hw''⟩:=hw'
   subst hw''
   refine mZ rfl (.tmp 66) (.tmp 67) rfl q11 1 4 4 rfl (some ⟨q12,0,none⟩) 20 20 rfl (by omega) (by omega) KA.cells (dC.o.drewN nq) (by rw[Dq];omega) (F20.map (Value.int .u8)) (Rd.bQ (iy.o.drewN nq) (by rw[aF,xW]) (by show q12<xU.heap.size;omega) (Nat.le_refl _) (by unfold maxLen;omega)) (ai _) (fun Kr eD hc6=> ?_)
   rw[Ll.o]at eD
   have dC:=ae eD
   have HR:=ae ((HR.o.drewN nq).aG hc6 (by omega));have aV:=ae ((aV.o.drewN nq).aG hc6 (by omega));have cP:=ae ((cP.o.drewN nq).aG hc6 (by omega));have aA:=ae (ag (aA.o.trans (Qt.drewN xU nq).keeps) hc6 (by omega))
   have Ks:q11<Kr.heap.size:=Nat.lt_of_lt_of_le (show q11<xU.heap.size by omega) hc6.size
   clear eD hc6 Ll iy Lj jE B1
   go_upto_region 16 with(fail)
   generalize hK2:KD.mk (k.d+1) FG n CC 0 cw=K2 at *
   have aq:=ae hK2;clear hK2
   have NA:K2.cells.length=71:=by rw[←aq.o];exact bp jH mb rfl
   go_upto_region 20 with(first |(refine aj rfl 29 (.tmp 2) rfl p 0 rfl _ _ HR.o Tryz.underlying29 rfl ZK.o ?_)|(go_at_call 10;rw[decide_eq_false hx]at EO;refine(EO.o _).mono ?_;rintro e E0 ⟨rfl,hk1⟩;have ie:=ae hk1;clear hk1))
   have iX:=ae (Am.o _ _ (HR.o.keeps ie.o));have aV:=ae (aV.o.keeps ie.o);have cP:=ae (cP.o.keeps ie.o);have dC:=ae (dC.o.keeps ie.o);have aA:=ae (aA.o.trans ie.o)
   clear ie
   have Ji:=ae (show K2.cells.take 38++AP.1.map (Value.int .u8)++K2.cells.drop (38+(AP.1.map (Value.int .u8)).length)=(KD.mk (k.d+1) FG n CC a0 az).cells by rw[ug.o,←aq.o];exact tX _ jH mb rfl _ _ (by rw[←ug.o];exact uL))
   go_upto_region 21 with(first |(refine wl iX.o hdl (h:= ?_))|(refine wl cP.o wh (h:= ?_))|(go_at_call 25;refine(xT.o _).mono ?_;rintro e NB ⟨rfl,hk1⟩;have Ku:=ae hk1;clear hk1)|(refine gw rfl 25 (.tmp 89) (.tmp 87) rfl q11 38 rfl K2.cells (AP.1.map (Value.int .u8)) rfl (dC.o.keeps Ku.o) (by rw[aF,uL,NA];decide) (by rw[aF,uL];exact bF) (ai _) ?_;intro IY dG hc5;have dC:=ae (show Row IY q11 0 (KD.mk (k.d+1) FG n CC a0 az).cells by rw[←Ji.o];exact dG);have fY:=ae hc5;clear dG hc5))
   have aV:=ae ((aV.o.keeps Ku.o).aG fY.o (by omega));have aA:=ae (ag (aA.o.trans Ku.o) fY.o (by omega))
   clear Ji Ku fY
   have hcb:=xM.o hx
   have Q7:(a0::az).length=33:=by rw[←ug.o];exact uL
   have Jl:(KD.mk (k.d+1) FG n CC a0 az).cells.length=71:=bp jH mb Q7
   have IZ:=ae (show(Tryz.prog.info? 29).map (·.size)=some (KD.mk (k.d+1) FG n CC a0 az).cells.length from i9 jH mb Q7)
   have ND:=ae (KD.mk (k.d+1) FG n CC a0 az).one
   have Z0:=ae gZ.sz
   by_cases he:AP.2=0
   ·obtain rfl:ST=(KD.mk (k.d+1) FG n CC a0 az,0):=by
     rw[uh.o (by rw[hcb];exact he),hcb,ug.o];rfl
    have hne:(AP.2 !=0)=false:=by rw[he];rfl
    clear hcb uh ui uM xM aq
    go_wp2_with (first |(refine aj rfl 29 (.tmp 11) rfl q11 0 rfl _ _ dC.o Tryz.underlying29 rfl IZ.o ?_)|(refine wpList_store_row rfl 29 (.tmp 4) (.tmp 93) rfl (p+1) 0 rfl K0.cells (KD.mk (k.d+1) FG n CC a0 az).cells rfl aV.o (by rw[Jl];rfl) IZ.o ND.o ?_;intro w9 aR aJ;have H9:=ae aR;have bK:=ae aJ;clear aR aJ))
    exact bodyPost_ret (al (p:=4) (t:=5) (ty:=29) rfl _ _ (p+1) 0 _ _ _ rfl rfl H9.o Tryz.underlying29 rfl IZ.o) rfl ⟨rfl,ag aA.o bK.o (by omega)⟩
   ·obtain rfl:ST=(K0,7):=ui.o (by rw[hcb];exact he)
    have hne:(AP.2 !=0)=true:=by rw[bne_iff_ne];exact he
    clear hcb uh ui uM xM
    go_wp2_with (first |(refine aW (by kernel_rfl) 29 _ rfl [] ?_ _ ex ?_;focus rfl)|(refine wpList_store_row rfl 29 (.tmp 4) (.tmp 92) rfl (p+1) 0 rfl K0.cells K0.cells rfl aV.o rfl Z0.o K0.one ?_;intro w9 aR aJ;have H9:=ae aR;have bK:=ae aJ;clear aR aJ))
    exact bodyPost_ret (al (p:=4) (t:=5) (ty:=29) rfl _ _ (p+1) 0 _ _ _ rfl rfl H9.o Tryz.underlying29 rfl Z0.o) rfl ⟨rfl,ag aA.o bK.o (by omega)⟩
end Go.Proofs.YtlofddoojkeakaaGreatDoor
