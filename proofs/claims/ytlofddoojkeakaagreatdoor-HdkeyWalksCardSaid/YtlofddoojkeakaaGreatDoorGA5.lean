/- curve's field: what is wanting to the modulus. -/
import Derived.Test.YtlofddoojkeakaaGreatDoorGA4
set_option maxRecDepth 100000
set_option maxHeartbeats 1000000
set_option linter.unusedVariables false
set_option linter.unusedSimpArgs false
namespace Go.Proofs.YtlofddoojkeakaaGreatDoor
open Go Go.RowKit
theorem Cr(g off:Nat)(m x:Int)(hm:cg m)(hx:cg x)(w:World)(hr:Row w g off ((words m).map (Value.int .u64))):
 Calls Tryz.prog 123 #[.pointer (some ⟨g,off,none⟩),.agg ((words x).map (Value.int .u64)).toArray] w fun e w' =>e= .returned (.agg ((words (if x=0 then 0 else m -x)).map (Value.int .u64)).toArray)∧Keeps w w':=by
 have kj:=ae (mt m x hm hx)
 have Uz:=ae (fd x hx)
 have hl:=ak x
 have hml:=ak m
 have hdl:=ak (m -x)
 have bY:=ae hr
 have hcase:(decide (x=0)=true∧words (if x=0 then 0 else m -x)=words x)∨(decide (x=0)=false∧words (if x=0 then 0 else m -x)=words (m -x)):=by
  by_cases h:x=0
  ·exact .inl ⟨decide_eq_true h,by rw[if_pos h,h]⟩
  ·exact .inr ⟨decide_eq_false h,by rw[if_neg h]⟩
 clear hr
 generalize words (if x=0 then 0 else m -x)=RES at *
 generalize words x=X at *
 generalize words m=MM at *
 generalize words (m -x)=R at *
 generalize decide (x=0)=D at *
 generalize decide (m<x)=D2 at *
 have Jr:=ae hcase
 clear hcase
 go_enter Tryz.func123,Tryz.ntmps123
 go_upto_region 1 with(fail)
 refine bu (fun W hk hr hr2 hs=> ?_)
 obtain⟨p,hp⟩:∃p,p=w.heap.size:=⟨_,rfl⟩
 rw[←hp]at hr hr2 hs⊢
 have hkp:w.heap.size≤p:=by omega
 obtain⟨Z,hZ,hrz⟩:∃Z:List Value,Z.length=4∧Row W (p+1) 0 Z:=⟨_,rfl,hr2⟩
 have HR:=ae (show Row W p 0 (X.map (Value.int .u64))from hr);have HK:=ae hk;have HZ:=ae hrz
 have dK:=ae (bY.o.keeps hk)
 clear hk hr hr2 hrz hp bY
 rcases Jr.o with⟨rfl,hres⟩|⟨rfl,hres⟩
 · go_wp2_with (first |(refine aj rfl 95 (.tmp 3) rfl _ 0 rfl (X.map (Value.int .u64)) _ (by first |exact HR.o|exact HR.o.keeps bw.o) Tryz.underlying95 rfl (by rw[aF,hl];exact aE) ?_)|(go_at_call 50;refine(Uz.o _).mono ?_;rintro e W1 ⟨rfl,hk1⟩;have bw:=ae hk1;clear hk1)|(refine wpList_store_row rfl 95 (.tmp 4) (.tmp 9) rfl (p+1) 0 rfl Z (X.map (Value.int .u64)) rfl (HZ.o.keeps bw.o) (by rw[aF,hl,hZ]) (by rw[aF,hl];exact aE) (ai _) ?_;intro w9 aR aJ;have H9:=ae aR;have bK:=ae aJ;clear aR aJ))
   exact bodyPost_ret (v:= .agg (X.map (Value.int .u64)).toArray) (ar (p:=4) (ty:=95) rfl _ _ (p+1) 0 _ _ rfl H9.o Tryz.underlying95 rfl (by rw[aF,hl];exact aE)) rfl ⟨by first |rfl|rw[hres],ag (HK.o.trans bw.o) bK.o (by omega)⟩
 · go_wp2_with (first |(refine aj rfl 95 (.tmp 3) rfl _ 0 rfl (X.map (Value.int .u64)) _ HR.o Tryz.underlying95 rfl (by rw[aF,hl];exact aE) ?_)|(go_at_call 50;refine(Uz.o _).mono ?_;rintro e W1 ⟨rfl,hk1⟩;have bw:=ae hk1;clear hk1))
   have HX:=ae (HR.o.keeps bw.o)
   have RJ:=ae (dK.o.keeps bw.o)
   have HZ1:=ae (HZ.o.keeps bw.o)
   go_cut [5] (fun s5 wx=>∃gt,s5= .pointer (some ⟨gt,0,none⟩)∧W1.heap.size≤gt∧Row wx gt 0 (R.map (Value.int .u64))∧Keeps W1 wx)
   case first =>
    refine wp_region_held_drew (S:=(fun W' =>Keeps W1 W')) (by kernel_rfl) ?_ (fun hHeld=> ?_)
    focus((try dsimp only);exact bz (Keeps.refl _))
    generalize W1.drew=W0 at hHeld⊢
    refine wpAnyH_take (i:=0) (oi:= ?_) (v:= ?_) ?_ ?_ ?_ ?_ ?_ (Or.inl ⟨?_,?_⟩) ?_ ?_
    rotate_left 2
    focus(simp only[kG];exact rfl)
    iterate 3 focus kernel_rfl
    focus(exact fun _ _ _ h=>h)
    focus rfl
    focus((intro w hSw;(try dsimp only at hSw);go_simp)<;>with_reducible rfl)
    focus assumption
    try simp only[kP]
    refine wpAnyH_take (i:=1) (oi:= ?_) (v:= ?_) ?_ ?_ ?_ ?_ ?_ (Or.inl ⟨?_,?_⟩) ?_ ?_
    rotate_left 2
    focus(simp only[kG];exact rfl)
    iterate 3 focus kernel_rfl
    focus(exact fun _ _ _ h=>h)
    focus rfl
    focus((intro w hSw;(try dsimp only at hSw);go_simp)<;>with_reducible rfl)
    focus assumption
    try simp only[kP]
    refine wpAnyH_take (i:=2) (oi:= ?_) (v:= ?_) ?_ ?_ ?_ ?_ ?_ (Or.inl ⟨?_,?_⟩) ?_ ?_
    rotate_left 2
    focus(simp only[kG];exact rfl)
    iterate 3 focus kernel_rfl
    focus(exact fun _ _ _ h=>h)
    focus rfl
    focus((intro w hSw;(try dsimp only at hSw);go_simp)<;>with_reducible rfl)
    focus assumption
    try simp only[kP]
    refine wpAnyH_take (i:=3) (oi:= ?_) (v:= ?_) ?_ ?_ ?_ ?_ ?_ ?_ ?_ ?_
    rotate_left 2
    focus(simp only[kG];exact rfl)
    iterate 3 focus kernel_rfl
    focus(exact fun _ _ _ h=>h)
    focus(refine dp ?_ 95 (.tmp 13) ?_ g off ?_ (MM.map (Value.int .u64)) _ ?_ Tryz.underlying95 ?_ (by rw[aF,hml];exact aE)<;>first |rfl|exact(fun w hw=>RJ.o.keeps hw))
    focus assumption
    try simp only[kP]
    refine wpAnyH_take (i:=4) (oi:= ?_) (v:= ?_) ?_ ?_ ?_ ?_ ?_ ?_ ?_ ?_
    rotate_left 2
    focus(simp only[kG];exact rfl)
    iterate 3 focus kernel_rfl
    focus(exact fun _ _ _ h=>h)
    focus(refine dp ?_ 95 (.tmp 3) ?_ p 0 ?_ (X.map (Value.int .u64)) _ ?_ Tryz.underlying95 ?_ (by rw[aF,hl];exact aE)<;>first |rfl|exact(fun w hw=>HX.o.keeps hw))
    focus assumption
    try simp only[kP]
    refine wpAnyH_ready (rs:=[5,9]) (by kernel_rfl) (by simp) ?_
    refine AllReadyH.cons (o:= ?_) ?_ (fun K hK=> ?_) ?_
    rotate_left 1
    focus(simp only[kG];exact rfl)
    ·rw[if_pos (by rfl)]
     go_simp;go_at_call 88;refine(kj.o _).mono ?_;rintro e W2 ⟨rfl,hk1⟩
     refine hK.out _ _ ?_ ?_
     focus((try dsimp only);first |exact Keeps.trans (by assumption) (by assumption)|exact ah (by assumption) _|exact hHeld|exact ag (by assumption) aJ jD)
     clear hK K hHeld
     intro hHeld
     try simp only[kP]
     refine wpAnyH_take (i:=6) (oi:= ?_) (v:= ?_) ?_ ?_ ?_ ?_ ?_ (Or.inl ⟨?_,?_⟩) ?_ ?_
     rotate_left 2
     focus(simp only[kG];exact rfl)
     iterate 3 focus kernel_rfl
     focus(exact fun _ _ _ h=>h)
     focus rfl
     focus((intro w hSw;(try dsimp only at hSw);go_simp)<;>with_reducible rfl)
     focus assumption
     try simp only[kP]
     refine wpAnyH_take (i:=7) (oi:= ?_) (v:= ?_) ?_ ?_ ?_ ?_ ?_ (Or.inl ⟨?_,?_⟩) ?_ ?_
     rotate_left 2
     focus(simp only[kG];exact rfl)
     iterate 3 focus kernel_rfl
     focus(exact fun _ _ _ h=>h)
     focus rfl
     focus((intro w hSw;(try dsimp only at hSw);go_simp)<;>with_reducible rfl)
     focus assumption
     try simp only[kP]
     refine wpAnyH_take (i:=8) (oi:= ?_) (v:= ?_) ?_ ?_ ?_ ?_ ?_ (Or.inl ⟨?_,?_⟩) ?_ ?_
     rotate_left 2
     focus(simp only[kG];exact rfl)
     iterate 3 focus kernel_rfl
     focus(exact fun _ _ _ h=>h)
     focus rfl
     focus((intro w hSw;(try dsimp only at hSw);go_simp)<;>with_reducible rfl)
     focus assumption
     try simp only[kP]
     refine wpAnyH_ready (rs:=[9]) (by kernel_rfl) (by simp) ?_
     refine AllReadyH.cons (o:= ?_) ?_ (fun K hK=> ?_) ?_
     rotate_left 1
     focus(simp only[kG];exact rfl)
     ·rw[if_pos (by rfl)]
      go_simp;have jD:=hHeld.size
      refine hK.out _ _ ?_ ?_
      focus((try dsimp only);first |exact Keeps.trans (by assumption) (by assumption)|exact ah (by assumption) _|exact hHeld|exact ag (by assumption) aJ jD)
      clear hK K hHeld
      intro hHeld
      try simp only[kP]
      refine wpAnyH_ready (rs:=[10]) (by kernel_rfl) (by simp) ?_
      refine AllReadyH.cons (o:= ?_) ?_ (fun K hK=> ?_) ?_
      rotate_left 1
      focus(simp only[kG];exact rfl)
      ·rw[if_pos (by rfl)]
       refine de 95 (.tmp 5) (.tmp 17) rfl _ 0 rfl [.int .u64 0,.int .u64 0,.int .u64 0,.int .u64 0] (R.map (Value.int .u64)) rfl (by first |exact Row.new _ _ _ rfl|exact(Row.new _ _ _ rfl).keeps hk1) (by simp[hdl]) (by rw[aF,hdl];exact aE) (ai _) ?_;intro W9 aR aJ
       refine hK.out _ _ ?_ ?_
       focus((try dsimp only);first |exact Keeps.trans (by assumption) (by assumption)|exact ah (by assumption) _|exact hHeld|exact ag (by assumption) aJ jD)
       clear hK K hHeld
       intro hHeld
       try simp only[kP]
       refine wpAnyH_ready (rs:=[11]) (by kernel_rfl) (by simp) ?_
       refine AllReadyH.cons (o:= ?_) ?_ (fun K hK=> ?_) ?_
       rotate_left 1
       focus(simp only[kG];exact rfl)
       ·rw[if_pos (by rfl)]
        go_simp
        refine hK.out _ _ ?_ ?_
        focus((try dsimp only);first |exact Keeps.trans (by assumption) (by assumption)|exact ah (by assumption) _|exact hHeld|exact ag (by assumption) aJ jD)
        clear hK K hHeld
        intro hHeld
        try simp only[kP]
        refine wpAnyH_done (by kernel_rfl) ?_ _
        (go_wp2;go_meet;case rel=>exact⟨_,rfl,by assumption,by assumption,by assumption⟩)
       exact AllReadyH.nil
      exact AllReadyH.nil
     exact AllReadyH.nil
    refine AllReadyH.cons (o:= ?_) ?_ (fun K hK=> ?_) ?_
    rotate_left 1
    focus(simp only[kG];exact rfl)
    ·rw[if_pos (by rfl)]
     go_simp;have jD:=hHeld.size
     refine hK.out _ _ ?_ ?_
     focus((try dsimp only);first |exact Keeps.trans (by assumption) (by assumption)|exact ah (by assumption) _|exact hHeld|exact ag (by assumption) aJ jD)
     clear hK K hHeld
     intro hHeld
     try simp only[kP]
     refine wpAnyH_ready (rs:=[5]) (by kernel_rfl) (by simp) ?_
     refine AllReadyH.cons (o:= ?_) ?_ (fun K hK=> ?_) ?_
     rotate_left 1
     focus(simp only[kG];exact rfl)
     ·rw[if_pos (by rfl)]
      go_simp;go_at_call 88;refine(kj.o _).mono ?_;rintro e W2 ⟨rfl,hk1⟩
      refine hK.out _ _ ?_ ?_
      focus((try dsimp only);first |exact Keeps.trans (by assumption) (by assumption)|exact ah (by assumption) _|exact hHeld|exact ag (by assumption) aJ jD)
      clear hK K hHeld
      intro hHeld
      try simp only[kP]
      refine wpAnyH_take (i:=6) (oi:= ?_) (v:= ?_) ?_ ?_ ?_ ?_ ?_ (Or.inl ⟨?_,?_⟩) ?_ ?_
      rotate_left 2
      focus(simp only[kG];exact rfl)
      iterate 3 focus kernel_rfl
      focus(exact fun _ _ _ h=>h)
      focus rfl
      focus((intro w hSw;(try dsimp only at hSw);go_simp)<;>with_reducible rfl)
      focus assumption
      try simp only[kP]
      refine wpAnyH_take (i:=7) (oi:= ?_) (v:= ?_) ?_ ?_ ?_ ?_ ?_ (Or.inl ⟨?_,?_⟩) ?_ ?_
      rotate_left 2
      focus(simp only[kG];exact rfl)
      iterate 3 focus kernel_rfl
      focus(exact fun _ _ _ h=>h)
      focus rfl
      focus((intro w hSw;(try dsimp only at hSw);go_simp)<;>with_reducible rfl)
      focus assumption
      try simp only[kP]
      refine wpAnyH_take (i:=8) (oi:= ?_) (v:= ?_) ?_ ?_ ?_ ?_ ?_ (Or.inl ⟨?_,?_⟩) ?_ ?_
      rotate_left 2
      focus(simp only[kG];exact rfl)
      iterate 3 focus kernel_rfl
      focus(exact fun _ _ _ h=>h)
      focus rfl
      focus((intro w hSw;(try dsimp only at hSw);go_simp)<;>with_reducible rfl)
      focus assumption
      try simp only[kP]
      refine wpAnyH_ready (rs:=[10]) (by kernel_rfl) (by simp) ?_
      refine AllReadyH.cons (o:= ?_) ?_ (fun K hK=> ?_) ?_
      rotate_left 1
      focus(simp only[kG];exact rfl)
      ·rw[if_pos (by rfl)]
       refine de 95 (.tmp 5) (.tmp 17) rfl _ 0 rfl [.int .u64 0,.int .u64 0,.int .u64 0,.int .u64 0] (R.map (Value.int .u64)) rfl (by first |exact Row.new _ _ _ rfl|exact(Row.new _ _ _ rfl).keeps hk1) (by simp[hdl]) (by rw[aF,hdl];exact aE) (ai _) ?_;intro W9 aR aJ
       refine hK.out _ _ ?_ ?_
       focus((try dsimp only);first |exact Keeps.trans (by assumption) (by assumption)|exact ah (by assumption) _|exact hHeld|exact ag (by assumption) aJ jD)
       clear hK K hHeld
       intro hHeld
       try simp only[kP]
       refine wpAnyH_ready (rs:=[11]) (by kernel_rfl) (by simp) ?_
       refine AllReadyH.cons (o:= ?_) ?_ (fun K hK=> ?_) ?_
       rotate_left 1
       focus(simp only[kG];exact rfl)
       ·rw[if_pos (by rfl)]
        go_simp
        refine hK.out _ _ ?_ ?_
        focus((try dsimp only);first |exact Keeps.trans (by assumption) (by assumption)|exact ah (by assumption) _|exact hHeld|exact ag (by assumption) aJ jD)
        clear hK K hHeld
        intro hHeld
        try simp only[kP]
        refine wpAnyH_done (by kernel_rfl) ?_ _
        (go_wp2;go_meet;case rel=>exact⟨_,rfl,by assumption,by assumption,by assumption⟩)
       exact AllReadyH.nil
      exact AllReadyH.nil
     exact AllReadyH.nil
    exact AllReadyH.nil
   case rest=>
    obtain⟨gt,rfl,hgt,hrt,hk⟩:=hcut
    have H3:=ae hrt
    have H2:=ae (HZ1.o.keeps hk)
    have aq:=ae ((HK.o.trans bw.o).trans hk)
    clear hk hrt
    go_wp2_with (first |(refine aj rfl 95 (.tmp 5) rfl _ 0 rfl (R.map (Value.int .u64)) _ H3.o Tryz.underlying95 rfl (by rw[aF,hdl];exact aE) ?_)|(refine wpList_store_row rfl 95 (.tmp 4) (.tmp 19) rfl (p+1) 0 rfl Z (R.map (Value.int .u64)) rfl H2.o (by rw[aF,hdl,hZ]) (by rw[aF,hdl];exact aE) (ai _) ?_;intro w9 aR aJ;have H9:=ae aR;have bK:=ae aJ;clear aR aJ))
    exact bodyPost_ret (v:= .agg (R.map (Value.int .u64)).toArray) (ar (p:=4) (ty:=95) rfl _ _ (p+1) 0 _ _ rfl H9.o Tryz.underlying95 rfl (by rw[aF,hdl];exact aE)) rfl ⟨by first |rfl|rw[hres],ag aq.o bK.o (by omega)⟩
theorem AX{P:Program}{w:World}{o:Oper}{a:Act}{K:Act→World→Prop}{Q:Exit→Act→World→Prop}(ty:TypeId)(x:Operand)(ho:o.op= .load ty x)(g off:Nat)(hx:a.eval x= .pointer (some ⟨g,off,none⟩))(cs:List Value)(d:TypeDesc)(hg:Row w g off cs)
 (hu:P.underlying ty=some d) (hd:(match d with | .struct _| .array _ _=>true|_=>false)=true) (hi:(P.info? ty).map (·.size)=some cs.length)
 (h:K (a.put o.dst (.agg cs.toArray)) w):o.wp P a w K Q:=by
 unfold Oper.wp
 rw[bD ty x ho g off hx cs d hg hu hd hi]
 exact h
theorem qe(v:Int):words (v%115792089237316195423570985008687907853269984665640564039457584007913129639936)=words v:=by
 have h0:v%115792089237316195423570985008687907853269984665640564039457584007913129639936%18446744073709551616=v%18446744073709551616:=by omega
 have h1:v%115792089237316195423570985008687907853269984665640564039457584007913129639936/18446744073709551616%18446744073709551616=v/18446744073709551616%18446744073709551616:=by omega
 have h2:v%115792089237316195423570985008687907853269984665640564039457584007913129639936/340282366920938463463374607431768211456%18446744073709551616=v/340282366920938463463374607431768211456%18446744073709551616:=by omega
 have h3:v%115792089237316195423570985008687907853269984665640564039457584007913129639936/6277101735386680763835789423207666416102355444464034512896%18446744073709551616=v/6277101735386680763835789423207666416102355444464034512896%18446744073709551616:=by omega
 unfold words
 rw[h0,h1,h2,h3]
theorem wB{u v:Int}(h:u%115792089237316195423570985008687907853269984665640564039457584007913129639936=v%115792089237316195423570985008687907853269984665640564039457584007913129639936):words u=words v:=by
 rw[←qe u,h,qe v]
theorem add_any(g off:Nat)(m x y:Int)(hm:cg m)(hx:0≤x∧x<m)(hy:0≤y∧y<m)(w:World)(hr:Row w g off ((words m).map (Value.int .u64))):
 Calls Tryz.prog 49 #[.pointer (some ⟨g,off,none⟩),.agg ((words x).map (Value.int .u64)).toArray,.agg ((words y).map (Value.int .u64)).toArray] w fun e w' =>e= .returned (.agg ((words ((x+y)%m)).map (Value.int .u64)).toArray)∧Keeps w w':=by
 have hm2:=hm.2
 have hc4:=ye hx.1 (Int.lt_trans hx.2 hm2) hy.1 (Int.lt_trans hy.2 hm2)
 have kX:=ae (uS x y)
 have hl:=ak x
 have hyl:=ak y
 have hml:=ak m
 have hsl:=ak (x+y)
 have hrl:=ak ((x+y)%m)
 have bY:=ae hr
 by_cases hN:x+y<115792089237316195423570985008687907853269984665640564039457584007913129639936
 · have hc:ft x y 4=0:=by rw[hc4];omega
   rw[hc]at kX
   have uT:=ae (fun W hW=>Fz g off m (x+y) hm ⟨by omega,hN⟩ W hW)
   have he:(if x+y<m then x+y else x+y -m)=(x+y)%m:=by
    split
    ·rw[Int.emod_eq_of_lt (by omega) (by omega)]
    ·rw[show x+y=(x+y -m)+m by omega,Int.add_emod_right,Int.emod_eq_of_lt (by omega) (by omega)];omega
   rw[he]at uT
   clear he hc hc4 hr hN
   generalize words ((x+y)%m)=RES at *
   generalize words (x+y)=S at *
   generalize words x=X at *
   generalize words y=Y at *
   generalize words m=MM at *
   clear hx hy hm hm2
   go_enter Tryz.func49,Tryz.ntmps49
   go_upto_region 1 with(fail)
   refine cU (fun W hk hra hrb hr2 hs=> ?_)
   obtain⟨p,hp⟩:∃p,p=w.heap.size:=⟨_,rfl⟩
   rw[←hp]at hra hrb hr2 hs⊢
   have hkp:w.heap.size≤p:=by omega
   obtain⟨Z,hZ,hrz⟩:∃Z:List Value,Z.length=4∧Row W (p+1+1) 0 Z:=⟨_,rfl,hr2⟩
   have bj:=ae (show Row W p 0 (X.map (Value.int .u64))from hra);have bH:=ae (show Row W (p+1) 0 (Y.map (Value.int .u64))from hrb);have aV:=ae hrz;have HK:=ae hk
   have dK:=ae (bY.o.keeps hk)
   clear hp hra hrb hr2 hrz hk bY
   go_wp2_with (first |(refine aj rfl 95 (.tmp 4) rfl _ 0 rfl (X.map (Value.int .u64)) _ bj.o Tryz.underlying95 rfl (by rw[aF,hl];exact aE) ?_)|(refine aj rfl 95 (.tmp 5) rfl _ 0 rfl (Y.map (Value.int .u64)) _ bH.o Tryz.underlying95 rfl (by rw[aF,hyl];exact aE) ?_)|(go_at_call 89;refine(kX.o _).mono ?_;rintro e W1 ⟨rfl,hk1⟩;have bw:=ae hk1;clear hk1)|(refine wpList_store_row rfl 95 (.tmp 7) (.tmp 13) rfl W1.heap.size 0 rfl [.int .u64 0,.int .u64 0,.int .u64 0,.int .u64 0] (S.map (Value.int .u64)) rfl (Row.new _ _ _ rfl) (by rw[aF,hsl];rfl) (by rw[aF,hsl];exact aE) (ai _) ?_;intro W2 hr2 hc2;have HR2:=ae hr2;have aq:=ae (ag (ah (Keeps.refl W1) _) hc2 (Nat.le_refl _));clear hr2 hc2)|(refine aj rfl 95 (.tmp 7) rfl _ 0 rfl (S.map (Value.int .u64)) _ HR2.o Tryz.underlying95 rfl (by rw[aF,hsl];exact aE) ?_)|(go_at_call 90;refine(uT.o _ ((dK.o.keeps bw.o).keeps aq.o)).mono ?_;rintro e W3 ⟨rfl,hk3⟩;have bS:=ae hk3;clear hk3)|(refine wpList_store_row rfl 95 (.tmp 6) (.tmp 29) rfl (p+1+1) 0 rfl Z (RES.map (Value.int .u64)) rfl (((aV.o.keeps bw.o).keeps aq.o).keeps bS.o) (by rw[aF,hrl,hZ]) (by rw[aF,hrl];exact aE) (ai _) ?_;intro w9 aR aJ;have H9:=ae aR;have bK:=ae aJ;clear aR aJ))
   exact bodyPost_ret (v:= .agg (RES.map (Value.int .u64)).toArray) (ar (p:=6) (ty:=95) rfl _ _ (p+1+1) 0 _ _ rfl H9.o Tryz.underlying95 rfl (by rw[aF,hrl];exact aE)) rfl ⟨rfl,ag (((HK.o.trans bw.o).trans aq.o).trans bS.o) bK.o (by omega)⟩
 · have hc:ft x y 4=1:=by rw[hc4];omega
   rw[hc]at kX
   have hu:cg ((x+y)%115792089237316195423570985008687907853269984665640564039457584007913129639936):=⟨by omega,by omega⟩
   have kj:=ae (mt _ m hu hm)
   rw[qe]at kj
   have he:words ((x+y)%115792089237316195423570985008687907853269984665640564039457584007913129639936 -m)=words ((x+y)%m):=by
    apply wB
    have e2:(x+y)%m=x+y -m:=by
     rw[show x+y=(x+y -m)+m by omega,Int.add_emod_right,Int.emod_eq_of_lt (by omega) (by omega)]
     omega
    rw[e2]
    omega
   rw[he]at kj
   generalize decide ((x+y)%115792089237316195423570985008687907853269984665640564039457584007913129639936<m)=D at *
   clear he hc hc4 hr hN hu
   generalize words ((x+y)%m)=RES at *
   generalize words (x+y)=S at *
   generalize words x=X at *
   generalize words y=Y at *
   generalize words m=MM at *
   clear hx hy hm hm2
   go_enter Tryz.func49,Tryz.ntmps49
   go_upto_region 1 with(fail)
   refine cU (fun W hk hra hrb hr2 hs=> ?_)
   obtain⟨p,hp⟩:∃p,p=w.heap.size:=⟨_,rfl⟩
   rw[←hp]at hra hrb hr2 hs⊢
   have hkp:w.heap.size≤p:=by omega
   obtain⟨Z,hZ,hrz⟩:∃Z:List Value,Z.length=4∧Row W (p+1+1) 0 Z:=⟨_,rfl,hr2⟩
   have bj:=ae (show Row W p 0 (X.map (Value.int .u64))from hra);have bH:=ae (show Row W (p+1) 0 (Y.map (Value.int .u64))from hrb);have aV:=ae hrz;have HK:=ae hk
   have dK:=ae (bY.o.keeps hk)
   clear hp hra hrb hr2 hrz hk
   go_wp2_with (first |(refine aj rfl 95 (.tmp 4) rfl _ 0 rfl (X.map (Value.int .u64)) _ bj.o Tryz.underlying95 rfl (by rw[aF,hl];exact aE) ?_)|(refine aj rfl 95 (.tmp 5) rfl _ 0 rfl (Y.map (Value.int .u64)) _ bH.o Tryz.underlying95 rfl (by rw[aF,hyl];exact aE) ?_)|(go_at_call 89;refine(kX.o _).mono ?_;rintro e W1 ⟨rfl,hk1⟩;have bw:=ae hk1;clear hk1)|(refine wpList_store_row rfl 95 (.tmp 7) (.tmp 13) rfl W1.heap.size 0 rfl [.int .u64 0,.int .u64 0,.int .u64 0,.int .u64 0] (S.map (Value.int .u64)) rfl (Row.new _ _ _ rfl) (by rw[aF,hsl];rfl) (by rw[aF,hsl];exact aE) (ai _) ?_;intro W2 hr2 hc2;have HR2:=ae hr2;have aq:=ae (ag (ah (Keeps.refl W1) _) hc2 (Nat.le_refl _));clear hr2 hc2))
   have qf:=HR2
   have hq:p+1+1<W1.heap.size:=Nat.lt_of_lt_of_le (by omega) bw.o.size
   have VW:=ae ((dK.o.keeps bw.o).keeps aq.o)
   have FA:=ae ((aV.o.keeps bw.o).keeps aq.o)
   have aA:=ae ((HK.o.trans bw.o).trans aq.o)
   generalize W1.heap.size=q at *
   go_cut [] (fun wx=>Row wx q 0 (RES.map (Value.int .u64))∧Keeps w wx∧Row wx (p+1+1) 0 Z)
   case first =>
    refine wp_region_held_drew (S:=(fun W' =>Keeps w W')) (by kernel_rfl) ?_ (fun hHeld=> ?_)
    focus((try dsimp only);exact bz aA.o)
    have xO:=qf.o.drew
    refine wpAnyH_take (i:=1) (oi:= ?_) (v:= ?_) ?_ ?_ ?_ ?_ ?_ (Or.inl ⟨?_,?_⟩) ?_ ?_
    rotate_left 2
    focus(simp only[kG];exact rfl)
    iterate 3 focus kernel_rfl
    focus(exact fun _ _ _ h=>h)
    focus rfl
    focus((intro w hSw;(try dsimp only at hSw);go_simp)<;>with_reducible rfl)
    focus assumption
    try simp only[kP]
    refine wpAnyH_take (i:=2) (oi:= ?_) (v:= ?_) ?_ ?_ ?_ ?_ ?_ (Or.inl ⟨?_,?_⟩) ?_ ?_
    rotate_left 2
    focus(simp only[kG];exact rfl)
    iterate 3 focus kernel_rfl
    focus(exact fun _ _ _ h=>h)
    focus rfl
    focus((intro w hSw;(try dsimp only at hSw);go_simp)<;>with_reducible rfl)
    focus assumption
    try simp only[kP]
    refine wpAnyH_take (i:=3) (oi:= ?_) (v:= ?_) ?_ ?_ ?_ ?_ ?_ (Or.inl ⟨?_,?_⟩) ?_ ?_
    rotate_left 2
    focus(simp only[kG];exact rfl)
    iterate 3 focus kernel_rfl
    focus(exact fun _ _ _ h=>h)
    focus rfl
    focus((intro w hSw;(try dsimp only at hSw);go_simp)<;>with_reducible rfl)
    focus assumption
    try simp only[kP]
    refine wpAnyH_take (i:=4) (oi:= ?_) (v:= ?_) ?_ ?_ ?_ ?_ ?_ ?_ ?_ ?_
    rotate_left 2
    focus(simp only[kG];exact rfl)
    iterate 3 focus kernel_rfl
    focus(exact fun _ _ _ h=>h)
    focus(refine dp ?_ 95 (.tmp 21) ?_ g off ?_ (MM.map (Value.int .u64)) _ ?_ Tryz.underlying95 ?_ (by rw[aF,hml];exact aE)<;>first |rfl|exact(fun w hw=>bY.o.keeps hw))
    focus assumption
    try simp only[kP]
    refine wpAnyH_ready (rs:=[0]) (by kernel_rfl) (by simp) ?_
    refine AllReadyH.cons (o:= ?_) ?_ (fun K hK=> ?_) ?_
    rotate_left 1
    focus(simp only[kG];exact rfl)
    ·rw[if_pos (by rfl)]
     refine AX 95 (.tmp 7) rfl q 0 rfl (S.map (Value.int .u64)) _ xO Tryz.underlying95 rfl (by rw[aF,hsl];exact aE) ?_
     refine hK.out _ _ ?_ ?_
     focus((try dsimp only);first |exact hHeld|exact hk9|exact ag hk9 aJ (by omega))
     clear hK K hHeld
     intro hHeld
     try simp only[kP]
     refine wpAnyH_ready (rs:=[5]) (by kernel_rfl) (by simp) ?_
     refine AllReadyH.cons (o:= ?_) ?_ (fun K hK=> ?_) ?_
     rotate_left 1
     focus(simp only[kG];exact rfl)
     ·rw[if_pos (by rfl)]
      go_simp;go_at_call 88;refine(kj.o _).mono ?_;rintro e W3 ⟨rfl,hk1⟩;have hk9:=hHeld.trans hk1
      refine hK.out _ _ ?_ ?_
      focus((try dsimp only);first |exact hHeld|exact hk9|exact ag hk9 aJ (by omega))
      clear hK K hHeld
      intro hHeld
      try simp only[kP]
      refine wpAnyH_take (i:=6) (oi:= ?_) (v:= ?_) ?_ ?_ ?_ ?_ ?_ (Or.inl ⟨?_,?_⟩) ?_ ?_
      rotate_left 2
      focus(simp only[kG];exact rfl)
      iterate 3 focus kernel_rfl
      focus(exact fun _ _ _ h=>h)
      focus rfl
      focus((intro w hSw;(try dsimp only at hSw);go_simp)<;>with_reducible rfl)
      focus assumption
      try simp only[kP]
      refine wpAnyH_take (i:=7) (oi:= ?_) (v:= ?_) ?_ ?_ ?_ ?_ ?_ (Or.inl ⟨?_,?_⟩) ?_ ?_
      rotate_left 2
      focus(simp only[kG];exact rfl)
      iterate 3 focus kernel_rfl
      focus(exact fun _ _ _ h=>h)
      focus rfl
      focus((intro w hSw;(try dsimp only at hSw);go_simp)<;>with_reducible rfl)
      focus assumption
      try simp only[kP]
      refine wpAnyH_take (i:=8) (oi:= ?_) (v:= ?_) ?_ ?_ ?_ ?_ ?_ (Or.inl ⟨?_,?_⟩) ?_ ?_
      rotate_left 2
      focus(simp only[kG];exact rfl)
      iterate 3 focus kernel_rfl
      focus(exact fun _ _ _ h=>h)
      focus rfl
      focus((intro w hSw;(try dsimp only at hSw);go_simp)<;>with_reducible rfl)
      focus assumption
      try simp only[kP]
      refine wpAnyH_ready (rs:=[9]) (by kernel_rfl) (by simp) ?_
      refine AllReadyH.cons (o:= ?_) ?_ (fun K hK=> ?_) ?_
      rotate_left 1
      focus(simp only[kG];exact rfl)
      ·rw[if_pos (by rfl)]
       refine de 95 (.tmp 7) (.tmp 24) rfl _ 0 rfl (S.map (Value.int .u64)) (RES.map (Value.int .u64)) rfl (xO.keeps hk1) (by simp[hsl,hrl]) (by rw[aF,hrl];exact aE) (ai _) ?_;intro W9 aR aJ
       refine hK.out _ _ ?_ ?_
       focus((try dsimp only);first |exact hHeld|exact hk9|exact ag hk9 aJ (by omega))
       clear hK K hHeld
       intro hHeld
       try simp only[kP]
       refine wpAnyH_done (by kernel_rfl) ?_ _
       (go_wp2;go_meet;case rel=>exact⟨by assumption,by assumption,((FA.o.drew).keeps hk1).aG aJ (by omega)⟩)
      exact AllReadyH.nil
     exact AllReadyH.nil
    exact AllReadyH.nil
   case rest=>
    obtain⟨nJ,hk,hrz⟩:=hcut
    have H7:=ae nJ;have H2:=ae hrz;have RK:=ae hk
    clear nJ hk hrz
    go_wp2_with (first |(refine aj rfl 95 (.tmp 7) rfl _ 0 rfl (RES.map (Value.int .u64)) _ H7.o Tryz.underlying95 rfl (by rw[aF,hrl];exact aE) ?_)|(refine wpList_store_row rfl 95 (.tmp 6) (.tmp 26) rfl (p+1+1) 0 rfl Z (RES.map (Value.int .u64)) rfl H2.o (by rw[aF,hrl,hZ]) (by rw[aF,hrl];exact aE) (ai _) ?_;intro w9 aR aJ;have H9:=ae aR;have bK:=ae aJ;clear aR aJ))
    exact bodyPost_ret (v:= .agg (RES.map (Value.int .u64)).toArray) (ar (p:=6) (ty:=95) rfl _ _ (p+1+1) 0 _ _ rfl H9.o Tryz.underlying95 rfl (by rw[aF,hrl];exact aE)) rfl ⟨rfl,ag RK.o bK.o (by omega)⟩
end Go.Proofs.YtlofddoojkeakaaGreatDoor
