/- curve's numbers: read from bytes, subtracted, whether nought, below a modulus. -/
import Derived.Test.YtlofddoojkeakaaGreatDoorGA3
set_option maxRecDepth 100000
set_option maxHeartbeats 4000000
set_option linter.unusedVariables false
set_option linter.unusedSimpArgs false
namespace Go.Proofs.YtlofddoojkeakaaGreatDoor
open Go Go.RowKit
theorem aE:(Tryz.prog.info? 95).map (·.size)=some 4:=by kernel_rfl
theorem uR(x y:Int)(hx:cg x)(hy:cg y)(W:World):(Op.equalIn 10000 95 (.agg ((words x).map (Value.int .u64)).toArray) (.agg ((words y).map (Value.int .u64)).toArray)).run Tryz.prog W= .ok (decide (x=y)) W:=by
 rw[m9 W 95 85 4 .u64 (by kernel_rfl) Tryz.underlying95 Tryz.underlying85 (by kernel_rfl) (by kernel_rfl) (words x) (words y) rfl (words_wf x) rfl (words_wf y)]
 have :decide (words x=words y)=decide (x=y):=by
  by_cases h:x=y
  ·rw[decide_eq_true h,h];simp
  ·rw[decide_eq_false h,decide_eq_false (fun e=>h (Dx hx hy e))]
 rw[this]
theorem gH(v:Value)(l:List Int)(w:World)(hr:Rd w 1 v 32 (l.map (Value.int .u8)))(hb:Bytes l)(hl:l.length=32):
 Calls Tryz.prog 47 #[v] w fun e w' =>e= .returned (.agg ((words (be l)).map (Value.int .u64)).toArray)∧Keeps w w':=by
 obtain⟨g,off,cap,rfl,hg,hrow⟩:∃g off cap,v= .slice (some ⟨g,off,none⟩) 32 cap∧g<w.heap.size∧Row w g off (l.map (Value.int .u8)):=by
  obtain⟨_,a,cap,rfl,h2,h3,h4,h5⟩:=hr
  cases a with
  |none=>have :=(h4 rfl).1;omega
  |some ad=>
   obtain⟨g,off,rfl,hg,hr⟩:=h5 ad rfl (by omega)
   exact⟨g,off,cap,rfl,hg,hr⟩
 have HB:=ae hb
 have HW:=ae (Fw hb hl)
 have iX:=ae hrow
 clear hr hrow
 go_enter Tryz.func47,Tryz.ntmps47
 go_upto_region 2 with(fail)
 refine bu (fun W hk hr2 hr3 hs=> ?_)
 obtain⟨p,hp⟩:∃p,p=w.heap.size:=⟨_,rfl⟩
 rw[←hp]at hr2 hr3 hs hg⊢
 have hkp:w.heap.size≤p:=by omega
 obtain⟨Z,hZ,hrz⟩:∃Z:List Value,Z.length=4∧Row W p 0 Z:=⟨_,rfl,hr2⟩
 have HR2:=ae hrz
 have HR3:=ae (show Row W (p+1) 0 ((wst l 0).map (Value.int .u64)) by rw[Fu];exact hr3)
 have HK:=ae hk
 clear hp hr2 hrz hr3 hk hb hs
 go_wp2
 go_loopw [4,5,6,9] (fun _ _ _ c wr=>∃i:Nat,i≤32∧c= .int .i64 i∧Keeps w wr∧Row wr p 0 Z∧Row wr (p+1) 0 ((wst l i).map (Value.int .u64))) (fun _ _ _ c _=>(32 -intOf c).toNat)
 case atStart=>exact⟨0,by omega,rfl,HK.o,HR2.o,HR3.o⟩
 case round=>
  obtain⟨i,hi,rfl,hk,hr2,hr3⟩:=hrel
  by_cases hlt:i<32
  · have hcz:=(iX.o.keeps hk).int i (by rw[hl];exact hlt)
    have b1:=HB.o.getD i
    have c3:=hr3.aT (3 -i/8) (by simp[wst];omega)
    rw[Fv _ _ _ (by omega)]at c3
    have f3:=hr3.bR (3 -i/8) (by simp[wst];omega)
    have hs:=hr3.bl (3 -i/8) (by simp[wst];omega) (fV l i (3 -i/8)*256+l.getD i 0)
    rw[Jp HB.o hl hlt]at hs
    have hr:=yf HB.o i (3 -i/8)
    have hr':=(so HB.o hl hlt).2.1
    generalize l.getD i 0=y at *
    generalize fV l i (3 -i/8)=x at *
    obtain⟨b00,b01⟩:=b1
    obtain⟨x0,x1⟩:=hr
    have KJ:=ae (show bits .or .u64 (x*256) y=x*256+y by exact mp 8 (x*256) y (by omega) (by omega) (by omega) (by omega) (by omega) (by omega))
    have HS:=ae hs;have H2:=ae hr2;have aq:=ae hk
    clear hs hr2 hr3 hk
    go_wp2
    go_roundw
    case rel=>exact⟨i+1,by omega,by go_num,b9 aq.o (by omega) _,H2.o.other (by simp) _,by rw[KJ.o];exact HS.o⟩
    case measure=>simp[intOf];omega
  ·obtain rfl:i=32:=by omega
   rw[HW.o]at hr3
   have H2:=ae hr2;have H3:=ae hr3;have aq:=ae hk
   clear hr2 hr3 hk
   have iz:=ak (be l)
   generalize hRR:words (be l)=RR at *
   have HRR:=ae hRR
   clear hRR
   go_wp2_with (first |(refine aj rfl 95 (.tmp 3) rfl _ 0 rfl (RR.map (Value.int .u64)) _ H3.o Tryz.underlying95 rfl (by rw[aF,iz];exact aE) ?_)|(refine wpList_store_row rfl 95 (.tmp 2) (.tmp 27) rfl p 0 rfl Z (RR.map (Value.int .u64)) rfl H2.o (by rw[aF,iz,hZ]) (by rw[aF,iz];exact aE) (ai _) ?_;intro w9 aR aJ;have H9:=ae aR;have bK:=ae aJ;clear aR aJ))
   exact bodyPost_ret (v:= .agg (RR.map (Value.int .u64)).toArray) (ar (p:=2) (ty:=95) rfl _ _ p 0 _ _ rfl H9.o Tryz.underlying95 rfl (by rw[aF,iz];exact aE)) rfl ⟨by rw[HRR.o],ag aq.o bK.o (by omega)⟩
theorem mt(u v:Int)(hu:cg u)(hv:cg v)(w:World):
 Calls Tryz.prog 88 #[.agg ((words u).map (Value.int .u64)).toArray,.agg ((words v).map (Value.int .u64)).toArray] w fun e w' =>e= .returned (.tuple #[.agg ((words (u -v)).map (Value.int .u64)).toArray,.bool (decide (u<v))])∧Keeps w w':=by
 have hc4:=wt hu.1 hu.2 hv.1 hv.2
 have hcase:(eE u v 4=1∧decide (u<v)=true)∨(eE u v 4=0∧decide (u<v)=false):=by
  by_cases h:u<v
  ·rw[if_pos h]at hc4;exact .inl ⟨hc4,decide_eq_true h⟩
  ·rw[if_neg h]at hc4;exact .inr ⟨hc4,decide_eq_false h⟩
 clear hc4
 have hset:=sv (u -v) 0
 have hlen:=mq (u -v) 0
 have hzero:=qc (u -v) 0
 have hfull:=qd (u -v) 0
 have hstep:=wq u v
 have hr1:=cY u
 have hr2:=cY v
 have AV:=ak u
 have hvl:=ak v
 have hrl:=ak (u -v)
 generalize su (u -v) 0=M at *
 generalize words u=U at *
 generalize words v=V at *
 generalize words (u -v)=R at *
 have bx:=ae hset;have HLEN:=ae hlen;have yh:=ae hzero;have yi:=ae hfull;have ki:=ae hstep;have HR1:=ae hr1;have HR2:=ae hr2;have OE:=ae AV;have Lr:=ae hvl;have Fx:=ae hrl
 have wA:=ae (wo u v)
 have RI:=ae (uu u v)
 have Jr:=ae hcase
 clear hset hlen hzero hfull hstep hr1 hr2 AV hvl hrl hcase hu hv
 generalize eE u v=C at *
 generalize decide (u<v)=D at *
 go_enter Tryz.func88,Tryz.ntmps88
 go_upto_region 2 with(fail)
 refine iB (fun W hk hra hrb hr2 hr3 hs=> ?_)
 obtain⟨p,hp⟩:∃p,p=w.heap.size:=⟨_,rfl⟩
 rw[←hp]at hra hrb hr2 hr3 hs⊢
 have hkp:w.heap.size≤p:=by omega
 obtain⟨Z,hZ,hrz⟩:∃Z:List Value,Z.length=4∧Row W (p+1+1) 0 Z:=⟨_,rfl,hr2⟩
 have bj:=ae (show Row W p 0 (U.map (Value.int .u64))from hra);have bH:=ae (show Row W (p+1) 0 (V.map (Value.int .u64))from hrb);have aV:=ae hrz;have HK:=ae hk
 have dK:=ae (show Row W (p+1+1+1) 0 ((M 0).map (Value.int .u64)) by rw[yh.o];exact hr3)
 clear hp hra hrb hr2 hr3 hrz hk hs
 go_wp2
 go_loopw [7,8,9] (fun cc _ c wr=>∃i:Nat,i≤4∧c= .int .i64 i∧cc= .int .u64 (C i)∧Keeps w wr∧Row wr p 0 (U.map (Value.int .u64))∧Row wr (p+1) 0 (V.map (Value.int .u64))∧Row wr (p+1+1) 0 Z∧Row wr (p+1+1+1) 0 ((M i).map (Value.int .u64))) (fun _ _ c _=>(4 -intOf c).toNat)
 case atStart=>exact⟨0,by omega,rfl,by rw[wA.o],HK.o,bj.o,bH.o,aV.o,dK.o⟩
 case round=>
  obtain⟨i,hi,rfl,rfl,hk,hra,hrb,hrz,hrm⟩:=hrel
  by_cases hlt:i<4
  · have c1:=hra.aT i (by rw[OE.o];exact hlt)
    have c2:=hrb.aT i (by rw[Lr.o];exact hlt)
    have c3:=hrm.aT i (by rw[HLEN.o i hi];exact hlt)
    have f3:=hrm.bR i (by rw[aF,HLEN.o i hi];exact hlt)
    obtain⟨s1,s2⟩:=ki.o i hlt
    obtain⟨x0,x1⟩:=HR1.o i hlt
    obtain⟨y0,y1⟩:=HR2.o i hlt
    obtain⟨z0,z1⟩:=RI.o i
    have hset:=hrm.bl i (by rw[HLEN.o i hi];exact hlt) (R.getD i 0)
    rw[bx.o i hlt,←s2]at hset
    have NM:=ae s1
    generalize U.getD i 0=x at *
    generalize V.getD i 0=y at *
    generalize C i=z at *
    have hadd:=Dw x y z x0 x1 y0 y1 z0 z1
    have Fy:=ae hset;have H1:=ae hra;have H2:=ae hrb;have H3:=ae hrz;have aq:=ae hk
    clear hset hra hrb hrz hrm hk s1 s2
    go_wp2
    go_region
    go_wp2
    go_roundw
    case rel=>exact⟨i+1,by omega,by go_num,by rw[←NM.o],bz (b9 aq.o (by omega) _),(H1.o.other (show p≠p+1+1+1 by omega) _).drew,(H2.o.other (show p+1≠p+1+1+1 by omega) _).drew,(H3.o.other (show p+1+1≠p+1+1+1 by omega) _).drew,by exact Fy.o⟩
    case measure=>simp[intOf];omega
  ·obtain rfl:i=4:=by omega
   rw[yi.o]at hrm
   have H2:=ae hrz;have H3:=ae hrm;have aq:=ae hk
   clear hra hrb hrz hrm hk
   have iz:=Fx.o
   rcases Jr.o with⟨hc,rfl⟩|⟨hc,rfl⟩
   all_goals
    rw[hc]
    clear hc
    go_wp2_with (first |(refine aj rfl 95 (.tmp 6) rfl _ 0 rfl (R.map (Value.int .u64)) _ H3.o Tryz.underlying95 rfl (by rw[aF,iz];exact aE) ?_)|(refine wpList_store_row rfl 95 (.tmp 4) (.tmp 26) rfl (p+1+1) 0 rfl Z (R.map (Value.int .u64)) rfl H2.o (by rw[aF,iz,hZ]) (by rw[aF,iz];exact aE) (ai _) ?_;intro w9 aR aJ;have H9:=ae aR;have bK:=ae aJ;clear aR aJ))
    refine bodyPost_ret (al (p:=4) (t:=5) (ty:=95) rfl _ _ (p+1+1) 0 _ _ _ rfl rfl H9.o Tryz.underlying95 rfl (by rw[aF,iz];exact aE)) rfl ⟨rfl,ag aq.o bK.o (by omega)⟩
theorem AW:Tryz.prog.built 95 []=some ((words 0).map (Value.int .u64)).toArray:=by kernel_rfl
theorem fd(x:Int)(hx:cg x)(w:World):Calls Tryz.prog 50 #[.agg ((words x).map (Value.int .u64)).toArray] w fun e w' =>e= .returned (.bool (decide (x=0)))∧Keeps w w':=by
 have HE:=ae (fun W=>uR x 0 hx ⟨by omega,by decide⟩ W)
 have hl:=ak x
 generalize words x=X at *
 generalize decide (x=0)=D at *
 go_enter Tryz.func50,Tryz.ntmps50
 go_upto_region 1 with(fail)
 refine bh (fun W hk hr hs=> ?_)
 have HR:=ae (show Row W w.heap.size 0 (X.map (Value.int .u64))from hr);have HK:=ae hk
 clear hk hr hs
 go_wp2_with (first |(refine aj rfl 95 (.tmp 1) rfl w.heap.size 0 rfl _ _ HR.o Tryz.underlying95 rfl (by rw[aF,hl];exact aE) ?_)|(refine aW (by kernel_rfl) 95 _ rfl [] rfl _ AW ?_)|(refine kW (by kernel_rfl) 95 95 (.tmp 3) (.tmp 4) rfl _ _ rfl rfl D HE.o (by kernel_rfl) ?_))
 go_ret
 exact⟨rfl,HK.o⟩
theorem jc(g off:Nat)(m x:Int)(hm:cg m)(hx:cg x)(w:World)(hr:Row w g off ((words m).map (Value.int .u64))):
 Calls Tryz.prog 48 #[.pointer (some ⟨g,off,none⟩),.agg ((words x).map (Value.int .u64)).toArray] w fun e w' =>e= .returned (.bool (decide (x<m)))∧Keeps w w':=by
 have kj:=ae (mt x m hx hm)
 have hl:=ak x
 have hml:=ak m
 have hdl:=ak (x -m)
 have bY:=ae hr
 clear hr
 generalize words x=X at *
 generalize words m=MM at *
 generalize words (x -m)=R at *
 generalize decide (x<m)=D at *
 go_enter Tryz.func48,Tryz.ntmps48
 go_upto_region 1 with(fail)
 refine bh (fun W hk hr hs=> ?_)
 obtain⟨p,hp⟩:∃p,p=w.heap.size:=⟨_,rfl⟩
 rw[←hp]at hr hs⊢
 have HR:=ae (show Row W p 0 (X.map (Value.int .u64))from hr);have HK:=ae hk
 have dK:=ae (bY.o.keeps hk)
 clear hk hr hs hp bY
 go_cut [6] (fun s6 wx=>Keeps W wx∧s6= .bool D)
 case first =>
  refine wp_region_held_drew (S:=(fun W' =>Keeps W W')) (by kernel_rfl) ?_ (fun hHeld=> ?_)
  focus((try dsimp only);exact bz (Keeps.refl _))
  generalize W.drew=W0 at hHeld⊢
  refine wpAnyH_take (i:=0) (oi:= ?_) (v:= ?_) ?_ ?_ ?_ ?_ ?_ ?_ ?_ ?_
  rotate_left 2
  focus(simp only[kG];exact rfl)
  iterate 3 focus kernel_rfl
  focus(exact fun _ _ _ h=>h)
  focus(refine dp ?_ 95 (.tmp 3) ?_ p 0 ?_ (X.map (Value.int .u64)) _ ?_ Tryz.underlying95 ?_ (by rw[aF,hl];exact aE)<;>first |rfl|exact(fun w hw=>HR.o.keeps hw))
  focus assumption
  try simp only[kP]
  refine wpAnyH_take (i:=1) (oi:= ?_) (v:= ?_) ?_ ?_ ?_ ?_ ?_ (Or.inl ⟨?_,?_⟩) ?_ ?_
  rotate_left 2
  focus(simp only[kG];exact rfl)
  iterate 3 focus kernel_rfl
  focus(exact fun _ _ _ h=>h)
  focus rfl
  focus((intro w hSw;(try dsimp only at hSw);go_simp)<;>with_reducible rfl)
  focus assumption
  try simp only[kP]
  refine wpAnyH_take (i:=2) (oi:= ?_) (v:= ?_) ?_ ?_ ?_ ?_ ?_ (Or.inl ⟨?_,?_⟩) ?_ ?_
  rotate_left 2
  focus(simp only[kG];exact rfl)
  iterate 3 focus kernel_rfl
  focus(exact fun _ _ _ h=>h)
  focus rfl
  focus((intro w hSw;(try dsimp only at hSw);go_simp)<;>with_reducible rfl)
  focus assumption
  try simp only[kP]
  refine wpAnyH_take (i:=3) (oi:= ?_) (v:= ?_) ?_ ?_ ?_ ?_ ?_ (Or.inl ⟨?_,?_⟩) ?_ ?_
  rotate_left 2
  focus(simp only[kG];exact rfl)
  iterate 3 focus kernel_rfl
  focus(exact fun _ _ _ h=>h)
  focus rfl
  focus((intro w hSw;(try dsimp only at hSw);go_simp)<;>with_reducible rfl)
  focus assumption
  try simp only[kP]
  refine wpAnyH_take (i:=4) (oi:= ?_) (v:= ?_) ?_ ?_ ?_ ?_ ?_ ?_ ?_ ?_
  rotate_left 2
  focus(simp only[kG];exact rfl)
  iterate 3 focus kernel_rfl
  focus(exact fun _ _ _ h=>h)
  focus(refine dp ?_ 95 (.tmp 11) ?_ g off ?_ (MM.map (Value.int .u64)) _ ?_ Tryz.underlying95 ?_ (by rw[aF,hml];exact aE)<;>first |rfl|exact(fun w hw=>dK.o.keeps hw))
  focus assumption
  try simp only[kP]
  refine wpAnyH_ready (rs:=[5,9]) (by kernel_rfl) (by simp) ?_
  refine AllReadyH.cons (o:= ?_) ?_ (fun K hK=> ?_) ?_
  rotate_left 1
  focus(simp only[kG];exact rfl)
  ·rw[if_pos (by rfl)]
   go_simp;go_at_call 88;refine(kj.o _).mono ?_;rintro e W1 ⟨rfl,hk1⟩
   refine hK.out _ _ ?_ ?_
   focus((try dsimp only);first |exact Keeps.trans (by assumption) (by assumption)|exact ah (by assumption) _|exact hHeld|exact ag (by assumption) aJ jD)
   clear hK K hHeld
   intro hHeld
   try simp only[kP]
   refine wpAnyH_take (i:=6) (oi:= ?_) (v:= ?_) ?_ ?_ ?_ ?_ ?_ (Or.inl ⟨?_,?_⟩) ?_ ?_
   rotate_left 2
   focus(simp only[kG];exact rfl)
   iterate 3 focus kernel_rfl
   focus(exact fun _ _ _ h=>h)
   focus rfl
   focus((intro w hSw;(try dsimp only at hSw);go_simp)<;>with_reducible rfl)
   focus assumption
   try simp only[kP]
   refine wpAnyH_take (i:=7) (oi:= ?_) (v:= ?_) ?_ ?_ ?_ ?_ ?_ (Or.inl ⟨?_,?_⟩) ?_ ?_
   rotate_left 2
   focus(simp only[kG];exact rfl)
   iterate 3 focus kernel_rfl
   focus(exact fun _ _ _ h=>h)
   focus rfl
   focus((intro w hSw;(try dsimp only at hSw);go_simp)<;>with_reducible rfl)
   focus assumption
   try simp only[kP]
   refine wpAnyH_take (i:=8) (oi:= ?_) (v:= ?_) ?_ ?_ ?_ ?_ ?_ (Or.inl ⟨?_,?_⟩) ?_ ?_
   rotate_left 2
   focus(simp only[kG];exact rfl)
   iterate 3 focus kernel_rfl
   focus(exact fun _ _ _ h=>h)
   focus rfl
   focus((intro w hSw;(try dsimp only at hSw);go_simp)<;>with_reducible rfl)
   focus assumption
   try simp only[kP]
   refine wpAnyH_ready (rs:=[9]) (by kernel_rfl) (by simp) ?_
   refine AllReadyH.cons (o:= ?_) ?_ (fun K hK=> ?_) ?_
   rotate_left 1
   focus(simp only[kG];exact rfl)
   ·rw[if_pos (by rfl)]
    go_simp;have jD:=hHeld.size
    refine hK.out _ _ ?_ ?_
    focus((try dsimp only);first |exact Keeps.trans (by assumption) (by assumption)|exact ah (by assumption) _|exact hHeld|exact ag (by assumption) aJ jD)
    clear hK K hHeld
    intro hHeld
    try simp only[kP]
    refine wpAnyH_ready (rs:=[10]) (by kernel_rfl) (by simp) ?_
    refine AllReadyH.cons (o:= ?_) ?_ (fun K hK=> ?_) ?_
    rotate_left 1
    focus(simp only[kG];exact rfl)
    ·rw[if_pos (by rfl)]
     refine de 95 (.tmp 5) (.tmp 14) rfl _ 0 rfl [.int .u64 0,.int .u64 0,.int .u64 0,.int .u64 0] (R.map (Value.int .u64)) rfl (by first |exact Row.new _ _ _ rfl|exact(Row.new _ _ _ rfl).keeps hk1) (by simp[hdl]) (by rw[aF,hdl];exact aE) (ai _) ?_;intro W9 aR aJ
     refine hK.out _ _ ?_ ?_
     focus((try dsimp only);first |exact Keeps.trans (by assumption) (by assumption)|exact ah (by assumption) _|exact hHeld|exact ag (by assumption) aJ jD)
     clear hK K hHeld
     intro hHeld
     try simp only[kP]
     refine wpAnyH_ready (rs:=[11]) (by kernel_rfl) (by simp) ?_
     refine AllReadyH.cons (o:= ?_) ?_ (fun K hK=> ?_) ?_
     rotate_left 1
     focus(simp only[kG];exact rfl)
     ·rw[if_pos (by rfl)]
      go_simp
      refine hK.out _ _ ?_ ?_
      focus((try dsimp only);first |exact Keeps.trans (by assumption) (by assumption)|exact ah (by assumption) _|exact hHeld|exact ag (by assumption) aJ jD)
      clear hK K hHeld
      intro hHeld
      try simp only[kP]
      refine wpAnyH_done (by kernel_rfl) ?_ _
      (go_wp2;go_meet;case rel=>exact⟨by assumption,rfl⟩)
     exact AllReadyH.nil
    exact AllReadyH.nil
   exact AllReadyH.nil
  refine AllReadyH.cons (o:= ?_) ?_ (fun K hK=> ?_) ?_
  rotate_left 1
  focus(simp only[kG];exact rfl)
  ·rw[if_pos (by rfl)]
   go_simp;have jD:=hHeld.size
   refine hK.out _ _ ?_ ?_
   focus((try dsimp only);first |exact Keeps.trans (by assumption) (by assumption)|exact ah (by assumption) _|exact hHeld|exact ag (by assumption) aJ jD)
   clear hK K hHeld
   intro hHeld
   try simp only[kP]
   refine wpAnyH_ready (rs:=[5]) (by kernel_rfl) (by simp) ?_
   refine AllReadyH.cons (o:= ?_) ?_ (fun K hK=> ?_) ?_
   rotate_left 1
   focus(simp only[kG];exact rfl)
   ·rw[if_pos (by rfl)]
    go_simp;go_at_call 88;refine(kj.o _).mono ?_;rintro e W1 ⟨rfl,hk1⟩
    refine hK.out _ _ ?_ ?_
    focus((try dsimp only);first |exact Keeps.trans (by assumption) (by assumption)|exact ah (by assumption) _|exact hHeld|exact ag (by assumption) aJ jD)
    clear hK K hHeld
    intro hHeld
    try simp only[kP]
    refine wpAnyH_take (i:=6) (oi:= ?_) (v:= ?_) ?_ ?_ ?_ ?_ ?_ (Or.inl ⟨?_,?_⟩) ?_ ?_
    rotate_left 2
    focus(simp only[kG];exact rfl)
    iterate 3 focus kernel_rfl
    focus(exact fun _ _ _ h=>h)
    focus rfl
    focus((intro w hSw;(try dsimp only at hSw);go_simp)<;>with_reducible rfl)
    focus assumption
    try simp only[kP]
    refine wpAnyH_take (i:=7) (oi:= ?_) (v:= ?_) ?_ ?_ ?_ ?_ ?_ (Or.inl ⟨?_,?_⟩) ?_ ?_
    rotate_left 2
    focus(simp only[kG];exact rfl)
    iterate 3 focus kernel_rfl
    focus(exact fun _ _ _ h=>h)
    focus rfl
    focus((intro w hSw;(try dsimp only at hSw);go_simp)<;>with_reducible rfl)
    focus assumption
    try simp only[kP]
    refine wpAnyH_take (i:=8) (oi:= ?_) (v:= ?_) ?_ ?_ ?_ ?_ ?_ (Or.inl ⟨?_,?_⟩) ?_ ?_
    rotate_left 2
    focus(simp only[kG];exact rfl)
    iterate 3 focus kernel_rfl
    focus(exact fun _ _ _ h=>h)
    focus rfl
    focus((intro w hSw;(try dsimp only at hSw);go_simp)<;>with_reducible rfl)
    focus assumption
    try simp only[kP]
    refine wpAnyH_ready (rs:=[10]) (by kernel_rfl) (by simp) ?_
    refine AllReadyH.cons (o:= ?_) ?_ (fun K hK=> ?_) ?_
    rotate_left 1
    focus(simp only[kG];exact rfl)
    ·rw[if_pos (by rfl)]
     refine de 95 (.tmp 5) (.tmp 14) rfl _ 0 rfl [.int .u64 0,.int .u64 0,.int .u64 0,.int .u64 0] (R.map (Value.int .u64)) rfl (by first |exact Row.new _ _ _ rfl|exact(Row.new _ _ _ rfl).keeps hk1) (by simp[hdl]) (by rw[aF,hdl];exact aE) (ai _) ?_;intro W9 aR aJ
     refine hK.out _ _ ?_ ?_
     focus((try dsimp only);first |exact Keeps.trans (by assumption) (by assumption)|exact ah (by assumption) _|exact hHeld|exact ag (by assumption) aJ jD)
     clear hK K hHeld
     intro hHeld
     try simp only[kP]
     refine wpAnyH_ready (rs:=[11]) (by kernel_rfl) (by simp) ?_
     refine AllReadyH.cons (o:= ?_) ?_ (fun K hK=> ?_) ?_
     rotate_left 1
     focus(simp only[kG];exact rfl)
     ·rw[if_pos (by rfl)]
      go_simp
      refine hK.out _ _ ?_ ?_
      focus((try dsimp only);first |exact Keeps.trans (by assumption) (by assumption)|exact ah (by assumption) _|exact hHeld|exact ag (by assumption) aJ jD)
      clear hK K hHeld
      intro hHeld
      try simp only[kP]
      refine wpAnyH_done (by kernel_rfl) ?_ _
      (go_wp2;go_meet;case rel=>exact⟨by assumption,rfl⟩)
     exact AllReadyH.nil
    exact AllReadyH.nil
   exact AllReadyH.nil
  exact AllReadyH.nil
 case rest=>
  obtain⟨hk,rfl⟩:=hcut
  have aA:=ae (HK.o.trans hk)
  clear hk
  go_wp2
  go_ret
  exact⟨rfl,aA.o⟩
theorem uS(u v:Int)(w:World):
 Calls Tryz.prog 89 #[.agg ((words u).map (Value.int .u64)).toArray,.agg ((words v).map (Value.int .u64)).toArray] w fun e w' =>e= .returned (.tuple #[.agg ((words (u+v)).map (Value.int .u64)).toArray,.int .u64 (ft u v 4)])∧Keeps w w':=by
 have hset:=sv (u+v) 0
 have hlen:=mq (u+v) 0
 have hzero:=qc (u+v) 0
 have hfull:=qd (u+v) 0
 have hstep:=yd u v
 have hr1:=cY u
 have hr2:=cY v
 have AV:=ak u
 have hvl:=ak v
 have hrl:=ak (u+v)
 generalize su (u+v) 0=M at *
 generalize words u=U at *
 generalize words v=V at *
 generalize words (u+v)=R at *
 have bx:=ae hset;have HLEN:=ae hlen;have yh:=ae hzero;have yi:=ae hfull;have ki:=ae hstep;have HR1:=ae hr1;have HR2:=ae hr2;have OE:=ae AV;have Lr:=ae hvl;have Fx:=ae hrl
 have wA:=ae (yc u v)
 have RI:=ae (wm u v)
 clear hset hlen hzero hfull hstep hr1 hr2 AV hvl hrl
 generalize ft u v=C at *
 go_enter Tryz.func89,Tryz.ntmps89
 go_upto_region 2 with(fail)
 refine iB (fun W hk hra hrb hr2 hr3 hs=> ?_)
 obtain⟨p,hp⟩:∃p,p=w.heap.size:=⟨_,rfl⟩
 rw[←hp]at hra hrb hr2 hr3 hs⊢
 have hkp:w.heap.size≤p:=by omega
 obtain⟨Z,hZ,hrz⟩:∃Z:List Value,Z.length=4∧Row W (p+1+1) 0 Z:=⟨_,rfl,hr2⟩
 have bj:=ae (show Row W p 0 (U.map (Value.int .u64))from hra);have bH:=ae (show Row W (p+1) 0 (V.map (Value.int .u64))from hrb);have aV:=ae hrz;have HK:=ae hk
 have dK:=ae (show Row W (p+1+1+1) 0 ((M 0).map (Value.int .u64)) by rw[yh.o];exact hr3)
 clear hp hra hrb hr2 hr3 hrz hk hs
 go_wp2
 go_loopw [7,8,9] (fun cc _ c wr=>∃i:Nat,i≤4∧c= .int .i64 i∧cc= .int .u64 (C i)∧Keeps w wr∧Row wr p 0 (U.map (Value.int .u64))∧Row wr (p+1) 0 (V.map (Value.int .u64))∧Row wr (p+1+1) 0 Z∧Row wr (p+1+1+1) 0 ((M i).map (Value.int .u64))) (fun _ _ c _=>(4 -intOf c).toNat)
 case atStart=>exact⟨0,by omega,rfl,by rw[wA.o],HK.o,bj.o,bH.o,aV.o,dK.o⟩
 case round=>
  obtain⟨i,hi,rfl,rfl,hk,hra,hrb,hrz,hrm⟩:=hrel
  by_cases hlt:i<4
  · have c1:=hra.aT i (by rw[OE.o];exact hlt)
    have c2:=hrb.aT i (by rw[Lr.o];exact hlt)
    have c3:=hrm.aT i (by rw[HLEN.o i hi];exact hlt)
    have f3:=hrm.bR i (by rw[aF,HLEN.o i hi];exact hlt)
    obtain⟨s1,s2⟩:=ki.o i hlt
    obtain⟨x0,x1⟩:=HR1.o i hlt
    obtain⟨y0,y1⟩:=HR2.o i hlt
    obtain⟨z0,z1⟩:=RI.o i
    have hset:=hrm.bl i (by rw[HLEN.o i hi];exact hlt) (R.getD i 0)
    rw[bx.o i hlt,←s2]at hset
    have NM:=ae s1
    generalize U.getD i 0=x at *
    generalize V.getD i 0=y at *
    generalize C i=z at *
    have hadd:=jb x y z x0 y0 z0 z1
    have Fy:=ae hset;have H1:=ae hra;have H2:=ae hrb;have H3:=ae hrz;have aq:=ae hk
    clear hset hra hrb hrz hrm hk s1 s2
    go_wp2
    go_region
    go_wp2
    go_roundw
    case rel=>exact⟨i+1,by omega,by go_num,by rw[←NM.o],bz (b9 aq.o (by omega) _),(H1.o.other (show p≠p+1+1+1 by omega) _).drew,(H2.o.other (show p+1≠p+1+1+1 by omega) _).drew,(H3.o.other (show p+1+1≠p+1+1+1 by omega) _).drew,by exact Fy.o⟩
    case measure=>simp[intOf];omega
  ·obtain rfl:i=4:=by omega
   rw[yi.o]at hrm
   have H2:=ae hrz;have H3:=ae hrm;have aq:=ae hk
   clear hra hrb hrz hrm hk
   have iz:=Fx.o
   go_wp2_with (first |(refine aj rfl 95 (.tmp 6) rfl _ 0 rfl (R.map (Value.int .u64)) _ H3.o Tryz.underlying95 rfl (by rw[aF,iz];exact aE) ?_)|(refine wpList_store_row rfl 95 (.tmp 4) (.tmp 26) rfl (p+1+1) 0 rfl Z (R.map (Value.int .u64)) rfl H2.o (by rw[aF,iz,hZ]) (by rw[aF,iz];exact aE) (ai _) ?_;intro w9 aR aJ;have H9:=ae aR;have bK:=ae aJ;clear aR aJ))
   refine bodyPost_ret (v:= .tuple #[.agg (R.map (Value.int .u64)).toArray,.int .u64 (C 4)]) (al (p:=4) (t:=5) (ty:=95) rfl _ _ (p+1+1) 0 _ _ _ rfl rfl H9.o Tryz.underlying95 rfl (by rw[aF,iz];exact aE)) rfl ⟨rfl,ag aq.o bK.o (by omega)⟩
theorem Fz(g off:Nat)(m x:Int)(hm:cg m)(hx:cg x)(w:World)(hr:Row w g off ((words m).map (Value.int .u64))):
 Calls Tryz.prog 90 #[.pointer (some ⟨g,off,none⟩),.agg ((words x).map (Value.int .u64)).toArray] w fun e w' =>e= .returned (.agg ((words (if x<m then x else x -m)).map (Value.int .u64)).toArray)∧Keeps w w':=by
 have kj:=ae (mt x m hx hm)
 have hl:=ak x
 have hml:=ak m
 have hdl:=ak (x -m)
 have bY:=ae hr
 have hcase:(decide (x<m)=true∧words (if x<m then x else x -m)=words x)∨(decide (x<m)=false∧words (if x<m then x else x -m)=words (x -m)):=by
  by_cases h:x<m
  ·exact .inl ⟨decide_eq_true h,by rw[if_pos h]⟩
  ·exact .inr ⟨decide_eq_false h,by rw[if_neg h]⟩
 clear hr
 generalize words (if x<m then x else x -m)=RES at *
 generalize words x=X at *
 generalize words m=MM at *
 generalize words (x -m)=R at *
 generalize decide (x<m)=D at *
 have Jr:=ae hcase
 clear hcase
 go_enter Tryz.func90,Tryz.ntmps90
 go_upto_region 1 with(fail)
 refine bu (fun W hk hr hr2 hs=> ?_)
 obtain⟨p,hp⟩:∃p,p=w.heap.size:=⟨_,rfl⟩
 rw[←hp]at hr hr2 hs⊢
 have hkp:w.heap.size≤p:=by omega
 obtain⟨Z,hZ,hrz⟩:∃Z:List Value,Z.length=4∧Row W (p+1) 0 Z:=⟨_,rfl,hr2⟩
 have HR:=ae (show Row W p 0 (X.map (Value.int .u64))from hr);have HK:=ae hk;have HZ:=ae hrz
 have dK:=ae (bY.o.keeps hk)
 clear hk hr hr2 hrz hp bY
 go_cut [5,6] (fun s5 s6 wx=>∃gt,s5= .pointer (some ⟨gt,0,none⟩)∧W.heap.size≤gt∧Row wx gt 0 (R.map (Value.int .u64))∧Keeps W wx∧s6= .bool D)
 case first =>
  refine wp_region_held_drew (S:=(fun W' =>Keeps W W')) (by kernel_rfl) ?_ (fun hHeld=> ?_)
  focus((try dsimp only);exact bz (Keeps.refl _))
  generalize W.drew=W0 at hHeld⊢
  refine wpAnyH_take (i:=0) (oi:= ?_) (v:= ?_) ?_ ?_ ?_ ?_ ?_ ?_ ?_ ?_
  rotate_left 2
  focus(simp only[kG];exact rfl)
  iterate 3 focus kernel_rfl
  focus(exact fun _ _ _ h=>h)
  focus(refine dp ?_ 95 (.tmp 3) ?_ p 0 ?_ (X.map (Value.int .u64)) _ ?_ Tryz.underlying95 ?_ (by rw[aF,hl];exact aE)<;>first |rfl|exact(fun w hw=>HR.o.keeps hw))
  focus assumption
  try simp only[kP]
  refine wpAnyH_take (i:=1) (oi:= ?_) (v:= ?_) ?_ ?_ ?_ ?_ ?_ (Or.inl ⟨?_,?_⟩) ?_ ?_
  rotate_left 2
  focus(simp only[kG];exact rfl)
  iterate 3 focus kernel_rfl
  focus(exact fun _ _ _ h=>h)
  focus rfl
  focus((intro w hSw;(try dsimp only at hSw);go_simp)<;>with_reducible rfl)
  focus assumption
  try simp only[kP]
  refine wpAnyH_take (i:=2) (oi:= ?_) (v:= ?_) ?_ ?_ ?_ ?_ ?_ (Or.inl ⟨?_,?_⟩) ?_ ?_
  rotate_left 2
  focus(simp only[kG];exact rfl)
  iterate 3 focus kernel_rfl
  focus(exact fun _ _ _ h=>h)
  focus rfl
  focus((intro w hSw;(try dsimp only at hSw);go_simp)<;>with_reducible rfl)
  focus assumption
  try simp only[kP]
  refine wpAnyH_take (i:=3) (oi:= ?_) (v:= ?_) ?_ ?_ ?_ ?_ ?_ (Or.inl ⟨?_,?_⟩) ?_ ?_
  rotate_left 2
  focus(simp only[kG];exact rfl)
  iterate 3 focus kernel_rfl
  focus(exact fun _ _ _ h=>h)
  focus rfl
  focus((intro w hSw;(try dsimp only at hSw);go_simp)<;>with_reducible rfl)
  focus assumption
  try simp only[kP]
  refine wpAnyH_take (i:=4) (oi:= ?_) (v:= ?_) ?_ ?_ ?_ ?_ ?_ ?_ ?_ ?_
  rotate_left 2
  focus(simp only[kG];exact rfl)
  iterate 3 focus kernel_rfl
  focus(exact fun _ _ _ h=>h)
  focus(refine dp ?_ 95 (.tmp 11) ?_ g off ?_ (MM.map (Value.int .u64)) _ ?_ Tryz.underlying95 ?_ (by rw[aF,hml];exact aE)<;>first |rfl|exact(fun w hw=>dK.o.keeps hw))
  focus assumption
  try simp only[kP]
  refine wpAnyH_ready (rs:=[5,9]) (by kernel_rfl) (by simp) ?_
  refine AllReadyH.cons (o:= ?_) ?_ (fun K hK=> ?_) ?_
  rotate_left 1
  focus(simp only[kG];exact rfl)
  ·rw[if_pos (by rfl)]
   go_simp;go_at_call 88;refine(kj.o _).mono ?_;rintro e W1 ⟨rfl,hk1⟩
   refine hK.out _ _ ?_ ?_
   focus((try dsimp only);first |exact Keeps.trans (by assumption) (by assumption)|exact ah (by assumption) _|exact hHeld|exact ag (by assumption) aJ jD)
   clear hK K hHeld
   intro hHeld
   try simp only[kP]
   refine wpAnyH_take (i:=6) (oi:= ?_) (v:= ?_) ?_ ?_ ?_ ?_ ?_ (Or.inl ⟨?_,?_⟩) ?_ ?_
   rotate_left 2
   focus(simp only[kG];exact rfl)
   iterate 3 focus kernel_rfl
   focus(exact fun _ _ _ h=>h)
   focus rfl
   focus((intro w hSw;(try dsimp only at hSw);go_simp)<;>with_reducible rfl)
   focus assumption
   try simp only[kP]
   refine wpAnyH_take (i:=7) (oi:= ?_) (v:= ?_) ?_ ?_ ?_ ?_ ?_ (Or.inl ⟨?_,?_⟩) ?_ ?_
   rotate_left 2
   focus(simp only[kG];exact rfl)
   iterate 3 focus kernel_rfl
   focus(exact fun _ _ _ h=>h)
   focus rfl
   focus((intro w hSw;(try dsimp only at hSw);go_simp)<;>with_reducible rfl)
   focus assumption
   try simp only[kP]
   refine wpAnyH_take (i:=8) (oi:= ?_) (v:= ?_) ?_ ?_ ?_ ?_ ?_ (Or.inl ⟨?_,?_⟩) ?_ ?_
   rotate_left 2
   focus(simp only[kG];exact rfl)
   iterate 3 focus kernel_rfl
   focus(exact fun _ _ _ h=>h)
   focus rfl
   focus((intro w hSw;(try dsimp only at hSw);go_simp)<;>with_reducible rfl)
   focus assumption
   try simp only[kP]
   refine wpAnyH_ready (rs:=[9]) (by kernel_rfl) (by simp) ?_
   refine AllReadyH.cons (o:= ?_) ?_ (fun K hK=> ?_) ?_
   rotate_left 1
   focus(simp only[kG];exact rfl)
   ·rw[if_pos (by rfl)]
    go_simp;have jD:=hHeld.size
    refine hK.out _ _ ?_ ?_
    focus((try dsimp only);first |exact Keeps.trans (by assumption) (by assumption)|exact ah (by assumption) _|exact hHeld|exact ag (by assumption) aJ jD)
    clear hK K hHeld
    intro hHeld
    try simp only[kP]
    refine wpAnyH_ready (rs:=[10]) (by kernel_rfl) (by simp) ?_
    refine AllReadyH.cons (o:= ?_) ?_ (fun K hK=> ?_) ?_
    rotate_left 1
    focus(simp only[kG];exact rfl)
    ·rw[if_pos (by rfl)]
     refine de 95 (.tmp 5) (.tmp 14) rfl _ 0 rfl [.int .u64 0,.int .u64 0,.int .u64 0,.int .u64 0] (R.map (Value.int .u64)) rfl (by first |exact Row.new _ _ _ rfl|exact(Row.new _ _ _ rfl).keeps hk1) (by simp[hdl]) (by rw[aF,hdl];exact aE) (ai _) ?_;intro W9 aR aJ
     refine hK.out _ _ ?_ ?_
     focus((try dsimp only);first |exact Keeps.trans (by assumption) (by assumption)|exact ah (by assumption) _|exact hHeld|exact ag (by assumption) aJ jD)
     clear hK K hHeld
     intro hHeld
     try simp only[kP]
     refine wpAnyH_ready (rs:=[11]) (by kernel_rfl) (by simp) ?_
     refine AllReadyH.cons (o:= ?_) ?_ (fun K hK=> ?_) ?_
     rotate_left 1
     focus(simp only[kG];exact rfl)
     ·rw[if_pos (by rfl)]
      go_simp
      refine hK.out _ _ ?_ ?_
      focus((try dsimp only);first |exact Keeps.trans (by assumption) (by assumption)|exact ah (by assumption) _|exact hHeld|exact ag (by assumption) aJ jD)
      clear hK K hHeld
      intro hHeld
      try simp only[kP]
      refine wpAnyH_done (by kernel_rfl) ?_ _
      (go_wp2;go_meet;case rel=>exact⟨_,rfl,by assumption,by assumption,by assumption,rfl⟩)
     exact AllReadyH.nil
    exact AllReadyH.nil
   exact AllReadyH.nil
  refine AllReadyH.cons (o:= ?_) ?_ (fun K hK=> ?_) ?_
  rotate_left 1
  focus(simp only[kG];exact rfl)
  ·rw[if_pos (by rfl)]
   go_simp;have jD:=hHeld.size
   refine hK.out _ _ ?_ ?_
   focus((try dsimp only);first |exact Keeps.trans (by assumption) (by assumption)|exact ah (by assumption) _|exact hHeld|exact ag (by assumption) aJ jD)
   clear hK K hHeld
   intro hHeld
   try simp only[kP]
   refine wpAnyH_ready (rs:=[5]) (by kernel_rfl) (by simp) ?_
   refine AllReadyH.cons (o:= ?_) ?_ (fun K hK=> ?_) ?_
   rotate_left 1
   focus(simp only[kG];exact rfl)
   ·rw[if_pos (by rfl)]
    go_simp;go_at_call 88;refine(kj.o _).mono ?_;rintro e W1 ⟨rfl,hk1⟩
    refine hK.out _ _ ?_ ?_
    focus((try dsimp only);first |exact Keeps.trans (by assumption) (by assumption)|exact ah (by assumption) _|exact hHeld|exact ag (by assumption) aJ jD)
    clear hK K hHeld
    intro hHeld
    try simp only[kP]
    refine wpAnyH_take (i:=6) (oi:= ?_) (v:= ?_) ?_ ?_ ?_ ?_ ?_ (Or.inl ⟨?_,?_⟩) ?_ ?_
    rotate_left 2
    focus(simp only[kG];exact rfl)
    iterate 3 focus kernel_rfl
    focus(exact fun _ _ _ h=>h)
    focus rfl
    focus((intro w hSw;(try dsimp only at hSw);go_simp)<;>with_reducible rfl)
    focus assumption
    try simp only[kP]
    refine wpAnyH_take (i:=7) (oi:= ?_) (v:= ?_) ?_ ?_ ?_ ?_ ?_ (Or.inl ⟨?_,?_⟩) ?_ ?_
    rotate_left 2
    focus(simp only[kG];exact rfl)
    iterate 3 focus kernel_rfl
    focus(exact fun _ _ _ h=>h)
    focus rfl
    focus((intro w hSw;(try dsimp only at hSw);go_simp)<;>with_reducible rfl)
    focus assumption
    try simp only[kP]
    refine wpAnyH_take (i:=8) (oi:= ?_) (v:= ?_) ?_ ?_ ?_ ?_ ?_ (Or.inl ⟨?_,?_⟩) ?_ ?_
    rotate_left 2
    focus(simp only[kG];exact rfl)
    iterate 3 focus kernel_rfl
    focus(exact fun _ _ _ h=>h)
    focus rfl
    focus((intro w hSw;(try dsimp only at hSw);go_simp)<;>with_reducible rfl)
    focus assumption
    try simp only[kP]
    refine wpAnyH_ready (rs:=[10]) (by kernel_rfl) (by simp) ?_
    refine AllReadyH.cons (o:= ?_) ?_ (fun K hK=> ?_) ?_
    rotate_left 1
    focus(simp only[kG];exact rfl)
    ·rw[if_pos (by rfl)]
     refine de 95 (.tmp 5) (.tmp 14) rfl _ 0 rfl [.int .u64 0,.int .u64 0,.int .u64 0,.int .u64 0] (R.map (Value.int .u64)) rfl (by first |exact Row.new _ _ _ rfl|exact(Row.new _ _ _ rfl).keeps hk1) (by simp[hdl]) (by rw[aF,hdl];exact aE) (ai _) ?_;intro W9 aR aJ
     refine hK.out _ _ ?_ ?_
     focus((try dsimp only);first |exact Keeps.trans (by assumption) (by assumption)|exact ah (by assumption) _|exact hHeld|exact ag (by assumption) aJ jD)
     clear hK K hHeld
     intro hHeld
     try simp only[kP]
     refine wpAnyH_ready (rs:=[11]) (by kernel_rfl) (by simp) ?_
     refine AllReadyH.cons (o:= ?_) ?_ (fun K hK=> ?_) ?_
     rotate_left 1
     focus(simp only[kG];exact rfl)
     ·rw[if_pos (by rfl)]
      go_simp
      refine hK.out _ _ ?_ ?_
      focus((try dsimp only);first |exact Keeps.trans (by assumption) (by assumption)|exact ah (by assumption) _|exact hHeld|exact ag (by assumption) aJ jD)
      clear hK K hHeld
      intro hHeld
      try simp only[kP]
      refine wpAnyH_done (by kernel_rfl) ?_ _
      (go_wp2;go_meet;case rel=>exact⟨_,rfl,by assumption,by assumption,by assumption,rfl⟩)
     exact AllReadyH.nil
    exact AllReadyH.nil
   exact AllReadyH.nil
  exact AllReadyH.nil
 case rest=>
  obtain⟨gt,rfl,hgt,hrt,hk,rfl⟩:=hcut
  have H3:=ae hrt
  have HX:=ae (HR.o.keeps hk)
  have H2:=ae (HZ.o.keeps hk)
  have aq:=ae (HK.o.trans hk)
  clear hk hrt
  rcases Jr.o with⟨rfl,hres⟩|⟨rfl,hres⟩
  · go_wp2_with (first |(refine aj rfl 95 (.tmp 3) rfl _ 0 rfl (X.map (Value.int .u64)) _ HX.o Tryz.underlying95 rfl (by rw[aF,hl];exact aE) ?_)|(refine wpList_store_row rfl 95 (.tmp 4) (.tmp 19) rfl (p+1) 0 rfl Z (X.map (Value.int .u64)) rfl H2.o (by rw[aF,hl,hZ]) (by rw[aF,hl];exact aE) (ai _) ?_;intro w9 aR aJ;have H9:=ae aR;have bK:=ae aJ;clear aR aJ))
    exact bodyPost_ret (v:= .agg (X.map (Value.int .u64)).toArray) (ar (p:=4) (ty:=95) rfl _ _ (p+1) 0 _ _ rfl H9.o Tryz.underlying95 rfl (by rw[aF,hl];exact aE)) rfl ⟨by first |rfl|rw[hres],ag aq.o bK.o (by omega)⟩
  · go_wp2_with (first |(refine aj rfl 95 (.tmp 5) rfl _ 0 rfl (R.map (Value.int .u64)) _ H3.o Tryz.underlying95 rfl (by rw[aF,hdl];exact aE) ?_)|(refine wpList_store_row rfl 95 (.tmp 4) (.tmp 18) rfl (p+1) 0 rfl Z (R.map (Value.int .u64)) rfl H2.o (by rw[aF,hdl,hZ]) (by rw[aF,hdl];exact aE) (ai _) ?_;intro w9 aR aJ;have H9:=ae aR;have bK:=ae aJ;clear aR aJ))
    exact bodyPost_ret (v:= .agg (R.map (Value.int .u64)).toArray) (ar (p:=4) (ty:=95) rfl _ _ (p+1) 0 _ _ rfl H9.o Tryz.underlying95 rfl (by rw[aF,hdl];exact aE)) rfl ⟨by first |rfl|rw[hres],ag aq.o bK.o (by omega)⟩
end Go.Proofs.YtlofddoojkeakaaGreatDoor
