/- The reference's minus, and Mod and Sub. -/
import Derived.Test.YtlofddoojkeakaaGreatDoorGA9
import Derived.Test.YtlofddoojkeakaaGreatDoorGA0
set_option maxRecDepth 100000
set_option maxHeartbeats 8000000
set_option linter.unusedVariables false
set_option linter.unusedSimpArgs false
namespace Go.Proofs.YtlofddoojkeakaaGreatDoor
open Go Go.RowKit
theorem ip(x y:Int)(hx:cg x)(hy:cg y)(w:World):
 Calls Tryz.prog 127 #[.agg ((ax x).map (Value.int .u32)).toArray,.agg ((ax y).map (Value.int .u32)).toArray] w fun e w' =>e= .returned (.agg ((ax (x -y)).map (Value.int .u32)).toArray)∧Keeps w w':=by
 have ki:=ae (fun i L b b' t' => @mB.step x y i L b b' t')
 have FK:=ae (fun L b (h:mB x y 8 L b)=>h.done hx hy)
 have Lx:=ae (cS x)
 have Ly:=ae (cS y)
 have A3:=ae (am x)
 have KL:=ae (am y)
 have hrl:=am (x -y)
 generalize ax (x -y)=RES at *
 generalize ax x=X at *
 generalize ax y=Y at *
 clear hx hy
 go_enter Tryz.func127,Tryz.ntmps127
 go_upto_region 2 with(fail)
 refine iB (fun W hk hra hrb hr2 hr3 hs=> ?_)
 obtain⟨p,hp⟩:∃p,p=w.heap.size:=⟨_,rfl⟩
 rw[←hp]at hra hrb hr2 hr3 hs⊢
 have hkp:w.heap.size≤p:=by omega
 obtain⟨Z,hZ,hrz⟩:∃Z:List Value,Z.length=8∧Row W (p+1+1) 0 Z:=⟨_,rfl,hr2⟩
 have HM:=ae (show OJ w W p X Y (List.replicate 8 0) Z from⟨hk,hra,hrb,hrz,hr3⟩)
 clear hp hra hrb hr2 hr3 hrz hk hs
 go_wp2
 go_loopw [6,7] (fun bb c wr=>∃(i:Nat) (L:List Int) (b:Int),i≤8∧c= .int .i64 i∧bb= .int .i64 b∧Hid (mB x y i L b)∧Hid (OJ w wr p X Y L Z)) (fun _ c _=>(8 -intOf c).toNat)
 case atStart=>exact⟨0,_,0,by omega,rfl,rfl,ae (mB.zero x y),HM⟩
 case round=>
  obtain⟨i,L,b,hi,rfl,rfl,HS,bV⟩:=hrel
  obtain⟨hk9,ez,lF,ij,nE⟩:=bV.o
  clear bV
  by_cases hlt:i<8
  · have ca:=ez.aT i (by rw[A3.o];exact hlt)
    have cb:=lF.aT i (by rw[KL.o];exact hlt)
    have hL:=HS.o.len
    have cl:=nE.drew.aT i (by omega)
    have fl:=nE.drew.bR i (by rw[aF];omega)
    have hxr:=Lx.o i hlt
    have FM:=Ly.o i hlt
    have b0:=HS.o.b0;have b1:=HS.o.b1
    have HST:=ae (ki.o i L b)
    have bx:=ae (fun t=>nE.drew.bl i (by omega) t)
    have AB:=ae cl;have rH:=ae fl
    have H1:=ae (bz hk9);have H2:=ae ez.drew;have H3:=ae lF.drew;have H4:=ae ij.drew
    generalize X.getD i 0=a at *
    generalize Y.getD i 0=d at *
    generalize L.getD i 0=old at *
    clear hk9 ez lF ij nE cl fl hL
    have w0:IntKind.i64.wrap (a -d)=a -d:=by rw[IntKind.wrap_i64];omega
    have w1:IntKind.i64.wrap (a -d -b)=a -d -b:=by rw[IntKind.wrap_i64];omega
    go_wp2
    go_region
    generalize wr.drew=w1 at *
    have c1:=AB.o
    have f1:=rH.o
    clear AB rH
    have hz0: -4294967296≤a -d -b:=by omega
    have hz1:a -d -b<4294967296:=by omega
    by_cases hneg:a -d -b<0
    · have ik:=ae (HST.o 1 (a -d -b+4294967296) HS.o hlt (by omega) (by omega) (by omega) (by omega) (by omega))
      have bx:=ae (bx.o (a -d -b+4294967296))
      generalize a -d -b=z at *
      have hw:IntKind.u32.wrap (z+4294967296)=z+4294967296:=by rw[IntKind.wrap_u32];omega
      go_wp2
      go_roundw
      case rel=>exact⟨i+1,_,1,by omega,by go_num,rfl,ik,ae ⟨b9 H1.o (by omega) _,H2.o.other (show p≠p+1+1+1 by omega) _,H3.o.other (show p+1≠p+1+1+1 by omega) _,H4.o.other (show p+1+1≠p+1+1+1 by omega) _,bx.o⟩⟩
      case measure=>simp[intOf];omega
    · have ik:=ae (HST.o 0 (a -d -b) HS.o hlt (by omega) (by omega) (by omega) (by omega) (by omega))
      have bx:=ae (bx.o (a -d -b))
      generalize a -d -b=z at *
      have hw:IntKind.u32.wrap z=z:=by rw[IntKind.wrap_u32];omega
      go_wp2
      go_roundw
      case rel=>exact⟨i+1,_,0,by omega,by go_num,rfl,ik,ae ⟨b9 H1.o (by omega) _,H2.o.other (show p≠p+1+1+1 by omega) _,H3.o.other (show p+1≠p+1+1+1 by omega) _,H4.o.other (show p+1+1≠p+1+1+1 by omega) _,bx.o⟩⟩
      case measure=>simp[intOf];omega
  ·obtain rfl:i=8:=by omega
   obtain rfl:=FK.o L b HS.o
   have H2:=ae nE;have H4:=ae ij;have aq:=ae hk9
   clear ez lF ij nE hk9
   go_wp2_with (first |(refine aj rfl 67 (.tmp 5) rfl _ 0 rfl (L.map (Value.int .u32)) _ H2.o Tryz.underlying67 rfl (by rw[aF,hrl];exact bm) ?_)|(refine wpList_store_row rfl 67 (.tmp 4) (.tmp 32) rfl (p+1+1) 0 rfl Z (L.map (Value.int .u32)) rfl H4.o (by rw[aF,hrl,hZ]) (by rw[aF,hrl];exact bm) (ai _) ?_;intro w9 aR aJ;have H9:=ae aR;have bK:=ae aJ;clear aR aJ))
   exact bodyPost_ret (v:= .agg (L.map (Value.int .u32)).toArray) (ar (p:=4) (ty:=67) rfl _ _ (p+1+1) 0 _ _ rfl H9.o Tryz.underlying67 rfl (by rw[aF,hrl];exact bm)) rfl ⟨rfl,ag aq.o bK.o (by omega)⟩
theorem rP:(Tryz.prog.info? 168).map (·.size)=some 17:=by kernel_rfl
theorem sH{P:Program}{c:Code}{Q:Exit→Act→World→Prop}{a:Act}{w:World}{A B C D E:Array Value}{T U V X Y:TypeId}
 (h:∀W,Keeps w W→Row W w.heap.size 0 A.toList→Row W (w.heap.size+1) 0 B.toList→Row W (w.heap.size+1+1) 0 C.toList→Row W (w.heap.size+1+1+1) 0 D.toList→Row W (w.heap.size+1+1+1+1) 0 E.toList→W.heap.size=w.heap.size+5→Code.wp P c Q a W):
 Code.wp P c Q a (((((w.alloc (.cells A T)).alloc (.cells B U)).alloc (.cells C V)).alloc (.cells D X)).alloc (.cells E Y)):=by
 have h0:=Row.new (w:=w) A.toList A T (by simp)
 have h1:=Row.new (w:=w.alloc (.cells A T)) B.toList B U (by simp)
 have h2:=Row.new (w:=(w.alloc (.cells A T)).alloc (.cells B U)) C.toList C V (by simp)
 have h3:=Row.new (w:=((w.alloc (.cells A T)).alloc (.cells B U)).alloc (.cells C V)) D.toList D X (by simp)
 have h4:=Row.new (w:=(((w.alloc (.cells A T)).alloc (.cells B U)).alloc (.cells C V)).alloc (.cells D X)) E.toList E Y (by simp)
 simp only[World.size_alloc]at h1 h2 h3 h4
 exact h _ (ah (ah (ah (ah (ah (Keeps.refl w) _) _) _) _) _) ((((h0.alloc _).alloc _).alloc _).alloc _) (((h1.alloc _).alloc _).alloc _) ((h2.alloc _).alloc _) (h3.alloc _) h4 (by simp)
def gI(w wr:World)(p:Nat)(X Y M L:List Int)(Z:List Value):Prop:=Keeps w wr∧Row wr p 0 (X.map (Value.int .u32))∧Row wr (p+1) 0 (Y.map (Value.int .u32))∧Row wr (p+1+1) 0 (M.map (Value.int .u32))∧Row wr (p+1+1+1) 0 Z∧Row wr (p+1+1+1+1) 0 (L.map (Value.int .u32))
theorem gI.set {w wr:World}{p:Nat}{X Y M L:List Int}{Z:List Value}(h:gI w wr p X Y M L Z)(hp:w.heap.size≤p){i:Nat}(hi:i<L.length)(t:Int):gI w (wr.setCell ⟨p+1+1+1+1,i,none⟩ (.int .u32 t)) p X Y M (L.set i t) Z:=
 ⟨b9 h.1 (show w.heap.size≤p+1+1+1+1 by omega) _,h.2.1.other (show p≠p+1+1+1+1 by omega) _,h.2.2.1.other (show p+1≠p+1+1+1+1 by omega) _,h.2.2.2.1.other (show p+1+1≠p+1+1+1+1 by omega) _,h.2.2.2.2.1.other (show p+1+1+1≠p+1+1+1+1 by omega) _,h.2.2.2.2.2.bl i hi t⟩
theorem gI.drew {w wr:World}{p:Nat}{X Y M L:List Int}{Z:List Value}(h:gI w wr p X Y M L Z):gI w wr.drew p X Y M L Z:=
 ⟨bz h.1,h.2.1.drew,h.2.2.1.drew,h.2.2.2.1.drew,h.2.2.2.2.1.drew,h.2.2.2.2.2.drew⟩
theorem DE(x y:Int)(M RES:List Int)(hrl:RES.length=8)(hM:M.length=8)(hx:cg x)(hy:cg y)(w:World)
 (hF:∀(L:List Int) W,L.length=17→dj 4294967296 L→val 4294967296 L=x+y→Keeps w W→Calls Tryz.prog 100 #[.agg (L.map (Value.int .u32)).toArray,.agg (M.map (Value.int .u32)).toArray] W fun e w' =>e= .returned (.agg (RES.map (Value.int .u32)).toArray)∧Keeps W w'):
 Calls Tryz.prog 63 #[.agg ((ax x).map (Value.int .u32)).toArray,.agg ((ax y).map (Value.int .u32)).toArray,.agg (M.map (Value.int .u32)).toArray] w fun e w' =>e= .returned (.agg (RES.map (Value.int .u32)).toArray)∧Keeps w w':=by
 have HF:=ae hF
 have ki:=ae (fun i L b b' t' => @mC.step x y i L b b' t')
 have FK:=ae (fun L b (h:mC x y 8 L b)=>h.done hx hy)
 have Lx:=ae (cS x)
 have Ly:=ae (cS y)
 have A3:=ae (am x)
 have KL:=ae (am y)
 generalize ax x=X at *
 generalize ax y=Y at *
 clear hx hy hF
 go_enter Tryz.func63,Tryz.ntmps63
 go_upto_region 2 with(fail)
 refine sH (fun W hk hra hrb hrm hr2 hr3 hs=> ?_)
 obtain⟨p,hp⟩:∃p,p=w.heap.size:=⟨_,rfl⟩
 rw[←hp]at hra hrb hrm hr2 hr3 hs⊢
 have hkp:w.heap.size≤p:=by omega
 obtain⟨Z,hZ,hrz⟩:∃Z:List Value,Z.length=8∧Row W (p+1+1+1) 0 Z:=⟨_,rfl,hr2⟩
 have HM:=ae (show gI w W p X Y M (List.replicate 17 0) Z from⟨hk,hra,hrb,hrm,hrz,hr3⟩)
 clear hp hra hrb hrm hr2 hr3 hrz hk hs
 go_wp2
 go_loopw [8,9] (fun bb c wr=>∃(i:Nat) (L:List Int) (b:Int),i≤8∧c= .int .i64 i∧bb= .int .u64 b∧Hid (mC x y i L b)∧Hid (gI w wr p X Y M L Z)) (fun _ c _=>(8 -intOf c).toNat)
 case atStart=>exact⟨0,_,0,by omega,rfl,rfl,ae (mC.zero x y),HM⟩
 case round=>
  obtain⟨i,L,b,hi,rfl,rfl,HS,bV⟩:=hrel
  have b0:=HS.o.b0;have b1:=HS.o.b1
  have hL:=HS.o.len
  by_cases hlt:i<8
  · have ca:=bV.o.2.1.aT i (by rw[A3.o];exact hlt)
    have cb:=bV.o.2.2.1.aT i (by rw[KL.o];exact hlt)
    have AB:=ae (bV.o.drew.2.2.2.2.2.aT i (by omega))
    have rH:=ae (bV.o.drew.2.2.2.2.2.bR i (by rw[aF];omega))
    have hxr:=Lx.o i hlt
    have FM:=Ly.o i hlt
    have HST:=ae (ki.o i L b)
    have bx:=ae (fun t=>bV.o.drew.set hkp (i:=i) (by omega) t)
    clear bV hL
    generalize X.getD i 0=a at *
    generalize Y.getD i 0=d at *
    generalize L.getD i 0=old at *
    have w0:IntKind.u64.wrap (a+d)=a+d:=by rw[IntKind.wrap_u64];omega
    have w1:IntKind.u64.wrap (a+d+b)=a+d+b:=by rw[IntKind.wrap_u64];omega
    go_wp2
    go_region
    generalize wr.drew=w1 at *
    have c1:=AB.o
    have f1:=rH.o
    clear AB rH
    have hz0:0≤a+d+b:=by omega
    have hz1:a+d+b<8589934592:=by omega
    have ik:=ae (HST.o ((a+d+b)/4294967296) ((a+d+b)%4294967296) HS.o hlt (by omega) (by omega) (by omega) (by omega) (by omega))
    have bx:=ae (bx.o ((a+d+b)%4294967296))
    generalize a+d+b=z at *
    have hw:IntKind.u32.wrap z=z%4294967296:=by rw[IntKind.wrap_u32]
    go_wp2
    go_roundw
    case rel=>exact⟨i+1,_,z/4294967296,by omega,by go_num,by first |rfl|go_num,ik,bx⟩
    case measure=>simp[intOf];omega
  ·obtain rfl:i=8:=by omega
   obtain⟨d1,d2,d3⟩:=FK.o L b HS.o
   have OL:=ae (fun W' =>HF.o (L.set 8 b) W' d1 d2 d3)
   have hc:=bV.o.2.2.2.2.2.aT 8 (by omega)
   have hf:=bV.o.2.2.2.2.2.bR 8 (by rw[aF];omega)
   have bx:=ae (bV.o.set hkp (i:=8) (by omega) b)
   have Lz:=ae d1
   generalize L.set 8 b=LL at *
   clear bV d1 d2 d3
   have hw:IntKind.u32.wrap b=b:=by rw[IntKind.wrap_u32];omega
   have hw2:IntKind.u64.wrap b=b:=by rw[IntKind.wrap_u64];omega
   generalize L.getD 8 0=old at *
   go_upto_region 10 with(fail)
   generalize wr.setCell ⟨p+1+1+1+1,8,none⟩ (.int .u32 b)=w9 at *
   go_wp2_with (first |(refine aj rfl 168 (.tmp 7) rfl _ 0 rfl (LL.map (Value.int .u32)) _ bx.o.2.2.2.2.2 Tryz.underlying168 rfl (by rw[aF,Lz.o];exact rP) ?_)|(refine aj rfl 67 (.tmp 5) rfl _ 0 rfl (M.map (Value.int .u32)) _ bx.o.2.2.2.1 Tryz.underlying67 rfl (by rw[aF,hM];exact bm) ?_)|(go_at_call 100;refine(OL.o _ bx.o.1).mono ?_;rintro e W2 ⟨rfl,hk2⟩;have aq:=ae hk2;clear hk2)|(refine wpList_store_row rfl 67 (.tmp 6) (.tmp 37) rfl (p+1+1+1) 0 rfl Z (RES.map (Value.int .u32)) rfl (bx.o.2.2.2.2.1.keeps aq.o) (by rw[aF,hrl,hZ]) (by rw[aF,hrl];exact bm) (ai _) ?_;intro w8 aR aJ;have H9:=ae aR;have bK:=ae aJ;clear aR aJ))
   exact bodyPost_ret (v:= .agg (RES.map (Value.int .u32)).toArray) (ar (p:=6) (ty:=67) rfl _ _ (p+1+1+1) 0 _ _ rfl H9.o Tryz.underlying67 rfl (by rw[aF,hrl];exact bm)) rfl ⟨rfl,ag (bx.o.1.trans aq.o) bK.o (by omega)⟩
theorem DF(x y:Int)(M RES:List Int)(hrl:RES.length=8)(hM:M.length=8)(hx:cg x)(hy:cg y)(w:World)
 (hF:∀(L:List Int) W,L.length=17→dj 4294967296 L→val 4294967296 L=x*y→Keeps w W→Calls Tryz.prog 100 #[.agg (L.map (Value.int .u32)).toArray,.agg (M.map (Value.int .u32)).toArray] W fun e w' =>e= .returned (.agg (RES.map (Value.int .u32)).toArray)∧Keeps W w'):
 Calls Tryz.prog 101 #[.agg ((ax x).map (Value.int .u32)).toArray,.agg ((ax y).map (Value.int .u32)).toArray,.agg (M.map (Value.int .u32)).toArray] w fun e w' =>e= .returned (.agg (RES.map (Value.int .u32)).toArray)∧Keeps w w':=by
 have HF:=ae hF
 have ki:=ae (fun i k L c c' t' => @mD.step x y i k L c c' t')
 have HX:=ae hx;have HY:=ae hy
 have Lx:=ae (cS x)
 have Ly:=ae (cS y)
 have A3:=ae (am x)
 have KL:=ae (am y)
 generalize ax x=X at *
 generalize ax y=Y at *
 clear hx hy hF
 go_enter Tryz.func101,Tryz.ntmps101
 go_upto_region 2 with(fail)
 refine sH (fun W hk hra hrb hrm hr2 hr3 hs=> ?_)
 obtain⟨p,hp⟩:∃p,p=w.heap.size:=⟨_,rfl⟩
 rw[←hp]at hra hrb hrm hr2 hr3 hs⊢
 have hkp:w.heap.size≤p:=by omega
 obtain⟨Z,hZ,hrz⟩:∃Z:List Value,Z.length=8∧Row W (p+1+1+1) 0 Z:=⟨_,rfl,hr2⟩
 have HM:=ae (show gI w W p X Y M (List.replicate 17 0) Z from⟨hk,hra,hrb,hrm,hrz,hr3⟩)
 clear hp hra hrb hrm hr2 hr3 hrz hk hs
 go_wp2
 go_loopw [8,9,10,11] (fun c _ _ _ wr=>∃(i:Nat) (L:List Int),i≤8∧c= .int .i64 i∧Hid (k6 x y i L)∧Hid (gI w wr p X Y M L Z)) (fun c _ _ _ _=>(8 -intOf c).toNat)
 case atStart=>exact⟨0,_,by omega,rfl,ae (k6.zero x y),HM⟩
 case round=>
  obtain⟨i,L,hi,rfl,HS,bV⟩:=hrel
  by_cases hlt:i<8
  · have hxr:=Lx.o i hlt
    have A4:=ae (ki.o i)
    have Jr:=ae (fun w9 L9 (h:gI w w9 p X Y M L9 Z)=>h.2.1.aT i (by rw[A3.o];exact hlt))
    generalize X.getD i 0=a at *
    go_wp2
    go_loopw [9,10,11] (fun cc c _ wr=>∃(k:Nat) (L:List Int) (cv:Int),k≤8∧c= .int .i64 k∧cc= .int .u64 cv∧Hid (mD x y i k L cv)∧Hid (gI w wr p X Y M L Z)) (fun _ c _ _=>(8 -intOf c).toNat)
    case atStart=>exact⟨0,_,0,by omega,rfl,rfl,ae HS.o.inn,bV⟩
    case round=>
     obtain⟨k,L2,cv,hk4,rfl,rfl,HI,jV⟩:=hrel
     have hL2:=HI.o.len
     have c0:=HI.o.c0;have c1:=HI.o.c1
     by_cases hltk:k<8
     · have ca:=Jr.o _ _ jV.o
       have cb:=jV.o.2.2.1.aT k (by rw[KL.o];exact hltk)
       have FM:=Ly.o k hltk
       have cl:=jV.o.2.2.2.2.2.aT (i+k) (by omega)
       have AB:=ae (jV.o.drew.2.2.2.2.2.aT (i+k) (by omega))
       have rH:=ae (jV.o.drew.2.2.2.2.2.bR (i+k) (by rw[aF];omega))
       have ht:=HI.o.dg.getD (i:=i+k) (by omega)
       have jW:=ae (A4.o k L2 cv)
       have bx:=ae (fun t=>jV.o.drew.set hkp (i:=i+k) (by omega) t)
       generalize Y.getD k 0=b at *
       generalize L2.getD (i+k) 0=t at *
       clear jV hL2
       obtain⟨s,hs0,q1,q2,q3,q4,q5,q6,q7,q8,q9,q10⟩:=qV (a:=a) (b:=b) (c:=cv) (t:=t) hxr FM ⟨c0,c1⟩ ht
       have ik:=ae (jW.o (s/4294967296) (s%4294967296) HI.o hlt hltk q6 q7 q8 q9 q10)
       have bx:=ae (bx.o (s%4294967296))
       have w0:IntKind.u64.wrap (a*b)=a*b:=by rw[IntKind.wrap_u64];omega
       have w1:IntKind.u64.wrap (a*b+t)=a*b+t:=by rw[IntKind.wrap_u64];omega
       have w2:IntKind.u64.wrap (a*b+t+cv)=s:=by rw[IntKind.wrap_u64,hs0];omega
       have sI:=ae hs0
       clear hs0 q10 q1 q2 q3
       go_wp2
       go_region
       generalize wr.drew=w1 at *
       have c1:=AB.o
       have f1:=rH.o
       clear AB rH
       have hw:IntKind.u32.wrap s=s%4294967296:=by rw[IntKind.wrap_u32]
       go_wp2
       go_roundw
       case rel=>exact⟨k+1,_,s/4294967296,by omega,by go_num,by first |rfl|go_num,ik,bx⟩
       case measure=>simp[intOf];omega
     ·obtain rfl:k=8:=by omega
      have cl:=jV.o.2.2.2.2.2.aT (i+8) (by omega)
      have fl:=jV.o.2.2.2.2.2.bR (i+8) (by rw[aF];omega)
      have bx:=ae (jV.o.set hkp (i:=i+8) (by omega) cv)
      have ik:=ae (HI.o.out hlt HY.o)
      generalize L2.getD (i+8) 0=t at *
      have hw:IntKind.u32.wrap cv=cv:=by rw[IntKind.wrap_u32];omega
      clear jV hL2
      go_wp2
      go_roundw
      case rel=>exact⟨i+1,_,by omega,by go_num,ik,bx⟩
      case measure=>simp[intOf];omega
  ·obtain rfl:i=8:=by omega
   have hL:=HS.o.len
   have OL:=ae (fun W' =>HF.o L W' hL HS.o.dg (HS.o.done HX.o))
   have bx:=bV
   clear bV
   go_wp2_with (first |(refine aj rfl 168 (.tmp 7) rfl _ 0 rfl (L.map (Value.int .u32)) _ bx.o.2.2.2.2.2 Tryz.underlying168 rfl (by rw[aF,hL];exact rP) ?_)|(refine aj rfl 67 (.tmp 5) rfl _ 0 rfl (M.map (Value.int .u32)) _ bx.o.2.2.2.1 Tryz.underlying67 rfl (by rw[aF,hM];exact bm) ?_)|(go_at_call 100;refine(OL.o _ bx.o.1).mono ?_;rintro e W2 ⟨rfl,hk2⟩;have aq:=ae hk2;clear hk2)|(refine wpList_store_row rfl 67 (.tmp 6) (.tmp 53) rfl (p+1+1+1) 0 rfl Z (RES.map (Value.int .u32)) rfl (bx.o.2.2.2.2.1.keeps aq.o) (by rw[aF,hrl,hZ]) (by rw[aF,hrl];exact bm) (ai _) ?_;intro w8 aR aJ;have H9:=ae aR;have bK:=ae aJ;clear aR aJ))
   exact bodyPost_ret (v:= .agg (RES.map (Value.int .u32)).toArray) (ar (p:=6) (ty:=67) rfl _ _ (p+1+1+1) 0 _ _ rfl H9.o Tryz.underlying67 rfl (by rw[aF,hrl];exact bm)) rfl ⟨rfl,ag (bx.o.1.trans aq.o) bK.o (by omega)⟩
section
variable {P:Program} {ops:Array Oper} {rest:List Oper} {a:Act} {w:World} {Q:Exit→Act→World→Prop} {d:Option Tmp} {y:TypeId} {p:String} {af:Array Edge} {gd:Option (Nat×Bool)}
theorem aQ(t:TypeId)(x:Operand)(h:wpList P ops Q (⟨d,.load t x,y,p,af,gd⟩::rest) a w):wpList P ops Q (⟨d,.load t x,y,p,af,gd⟩::rest) a w:=h
theorem aY(t:TypeId)(x z:Operand)(h:wpList P ops Q (⟨d,.store t x z,y,p,af,gd⟩::rest) a w):wpList P ops Q (⟨d,.store t x z,y,p,af,gd⟩::rest) a w:=h
theorem iE(b:BinOp)(t t':TypeId)(x z:Operand)(h:wpList P ops Q (⟨d,.binOp b t x z t',y,p,af,gd⟩::rest) a w):wpList P ops Q (⟨d,.binOp b t x z t',y,p,af,gd⟩::rest) a w:=h
theorem ji(t:TypeId)(xs:Array (Nat×Operand))(h:wpList P ops Q (⟨d,.build t xs,y,p,af,gd⟩::rest) a w):wpList P ops Q (⟨d,.build t xs,y,p,af,gd⟩::rest) a w:=h
end
end Go.Proofs.YtlofddoojkeakaaGreatDoor
namespace Go.Proofs.YtlofddoojkeakaaGreatDoor
open Go Go.RowKit
theorem sG.start {L:List Int}(hl:L.length=17)(hd:dj 4294967296 L)(Hn d:Int):sG (_root_.Go.Proofs.YtlofddoojkeakaaGreatDoor.val 4294967296 (L.take 8)) Hn d 0 (gN L (List.replicate 17 0) 8) where
 len:=by rw[jL (by omega) (by simp)];rfl
 dg:=(hd.take 8).append ((dj.zeros (by decide) 17).drop 8)
 val:=by
  unfold gN
  rw[val_append,show(List.replicate 17 (0:Int)).drop 8=List.replicate 9 0 from rfl,jd]
  simp[Int.emod_one]
theorem LB{L:List Int}:gN L (List.replicate 8 0) 8=L.take 8:=by
 unfold gN
 rw[show(List.replicate 8 (0:Int)).drop 8=[]from rfl,List.append_nil]
theorem DG{L:List Int}(hl:L.length=17)(hd:dj 4294967296 L){i:Nat}(hi:i<9):L.getD (i+8) 0=val 4294967296 (L.drop 8)/4294967296^i%4294967296:=by
 have :=my (by decide) (hd.drop 8) (j:=i) (by rw[List.length_drop,hl];omega)
 rw[←this,og,Nat.add_comm]
structure FN (m lo:Int) (k:Nat) (u:Int):Prop where
 r:cg u
 md:u%m=lo%m
 k:k=0∨(k=1∧u<m)
def jj(w wr:World)(p q:Nat)(L M D:List Int)(Z:List Value):Prop:=Keeps w wr∧Row wr p 0 (L.map (Value.int .u32))∧Row wr (p+1) 0 (M.map (Value.int .u32))∧Row wr (p+1+1) 0 Z∧Row wr q 0 (D.map (Value.int .u32))∧p+1+1<q∧q<wr.heap.size
theorem jj.keeps {w wr w':World}{p q:Nat}{L M D:List Int}{Z:List Value}(h:jj w wr p q L M D Z)(hk:Keeps wr w'):jj w w' p q L M D Z:=
 ⟨h.1.trans hk,h.2.1.keeps hk,h.2.2.1.keeps hk,h.2.2.2.1.keeps hk,h.2.2.2.2.1.keeps hk,h.2.2.2.2.2.1,Nat.lt_of_lt_of_le h.2.2.2.2.2.2 hk.size⟩
theorem jj.aG {w wr w':World}{p q n:Nat}{L M D:List Int}{Z:List Value}(h:jj w wr p q L M D Z)(hc:bU (· =n) wr w')(hp:w.heap.size≤p)(hn:q<n):jj w w' p q L M D Z:=
 have h6:=h.2.2.2.2.2.1
 ⟨ag h.1 hc (by omega),h.2.1.aG hc (by omega),h.2.2.1.aG hc (by omega),h.2.2.2.1.aG hc (by omega),h.2.2.2.2.1.aG hc (by omega),h6,Nat.lt_of_lt_of_le h.2.2.2.2.2.2 hc.size⟩
def eF(w wr:World)(p q n:Nat)(L M D N:List Int)(Z:List Value):Prop:=jj w wr p q L M D Z∧Row wr n 0 (N.map (Value.int .u32))∧q<n
theorem eF.drew {w wr:World}{p q n:Nat}{L M D N:List Int}{Z:List Value}(h:eF w wr p q n L M D N Z):eF w wr.drew p q n L M D N Z:=
 ⟨h.1.keeps (bz (Keeps.refl _)),h.2.1.drew,h.2.2⟩
theorem Jv(w:World)(n i:Nat)(u:Value):bU (· =n) w (w.setCell ⟨n,i,none⟩ u):=bU.setCell (S:=(· =n)) (bU.refl _ _) (.inr rfl) u
theorem eF.set {w wr:World}{p q n:Nat}{L M D N:List Int}{Z:List Value}(h:eF w wr p q n L M D N Z)(hp:w.heap.size≤p){i:Nat}(hi:i<N.length)(t:Int):eF w (wr.setCell ⟨n,i,none⟩ (.int .u32 t)) p q n L M D (N.set i t) Z:=
 ⟨h.1.aG (Jv _ _ _ _) hp h.2.2,h.2.1.bl i hi t,h.2.2⟩
theorem sJ(m V:Int)(hm:sE m)(L0:List Int)(hl:L0.length=17)(hd:dj 4294967296 L0)(hV:val 4294967296 L0=V)(hb:V<Lv 0)(w:World):
 Calls Tryz.prog 100 #[.agg (L0.map (Value.int .u32)).toArray,.agg ((ax m).map (Value.int .u32)).toArray] w fun e w' =>e= .returned (.agg ((ax (V%m)).map (Value.int .u32)).toArray)∧Keeps w w':=by
 have sI:=ae (show nN m V 0 L0 from⟨hl,hd,by rw[hV],by rw[hV];exact hb⟩)
 have hM2:=hm.two;have hmu:=hm.u.2;have hmd:=hm.d
 have LE:=ae (ip 0 m ⟨by omega,by decide⟩ hm.u)
 rw[show ax (0 -m)=ax (115792089237316195423570985008687907853269984665640564039457584007913129639936 -m) by rw[oe (0 -m),oe (115792089237316195423570985008687907853269984665640564039457584007913129639936 -m)];congr 1;omega]at LE
 rw[show((ax 0).map (Value.int .u32)).toArray= #[.int .u32 0,.int .u32 0,.int .u32 0,.int .u32 0,.int .u32 0,.int .u32 0,.int .u32 0,.int .u32 0] by simp[ax,List.range_succ]]at LE
 have OM:=ae hm
 obtain⟨d,hdd⟩:∃d,d=115792089237316195423570985008687907853269984665640564039457584007913129639936 -m:=⟨_,rfl⟩
 rw[←hdd]at LE
 have VY:=ae hdd
 have HD0:=ae (show 0≤d by omega);have HD1:=ae (show d<1361129467683753853853498429727072845824 by omega)
 have ON:=ae (cr d)
 have HDR:=ae (cS d)
 have hdl:=am d
 have hml:=am m
 have hrl:=am (V%m)
 have OO:=ae (fun u (hu:cg u)=>fy u m hu hm.u)
 have kj:=ae (fun u (hu:cg u)=>ip u m hu hm.u)
 have jX:=ae (fun u (h0:0≤u) (h1:u<m) (h2:u%m=V%m)=>show ax u=ax (V%m) by rw[←h2,Int.emod_eq_of_lt h0 h1])
 clear hm hl hd hV hb hdd hmd
 generalize ax (V%m)=RES at *
 generalize ax d=D at *
 generalize ax m=M at *
 have yu:=ae hdl;have qY:=ae hml;have Fx:=ae hrl;have jV:=ae hM2;have Rp:=ae hmu
 clear hdl hml hrl hM2 hmu
 go_enter Tryz.func100,Tryz.ntmps100
 go_upto_region 1 with(fail)
 refine cU (fun W hk hra hrb hr2 hs=> ?_)
 obtain⟨p,hp⟩:∃p,p=w.heap.size:=⟨_,rfl⟩
 rw[←hp]at hra hrb hr2 hs⊢
 have hkp:w.heap.size≤p:=by omega
 obtain⟨Z,hZ,hrz⟩:∃Z:List Value,Z.length=8∧Row W (p+1+1) 0 Z:=⟨_,rfl,hr2⟩
 have hps:p+1+1<W.heap.size:=by omega
 have bj:=ae (show Row W p 0 (L0.map (Value.int .u32))from hra);have bH:=ae (show Row W (p+1) 0 (M.map (Value.int .u32))from hrb);have aV:=ae hrz;have HK:=ae hk
 clear hp hra hrb hr2 hrz hk hs
 go_upto_region 2 with(first |((with_reducible refine aQ 67 (.tmp 3) ?_);refine aj rfl 67 (.tmp 3) rfl _ 0 rfl (M.map (Value.int .u32)) _ bH.o Tryz.underlying67 rfl (by rw[aF,qY.o];exact bm) ?_)|(go_at_call 127;refine(LE.o _).mono ?_;rintro e W1 ⟨rfl,hk1⟩;have bw:=ae hk1;clear hk1)|((with_reducible refine aY 67 (.tmp 5) (.tmp 22) ?_);refine wpList_store_row rfl 67 (.tmp 5) (.tmp 22) rfl W1.heap.size 0 rfl [.int .u32 0,.int .u32 0,.int .u32 0,.int .u32 0,.int .u32 0,.int .u32 0,.int .u32 0,.int .u32 0] (D.map (Value.int .u32)) rfl (Row.new _ _ _ rfl) (by rw[aF,yu.o];rfl) (by rw[aF,yu.o];exact bm) (ai _) ?_;intro W2 hr2 hc2;have HR2:=ae hr2;have aq:=ae (ag (ah bw.o _) hc2 bw.o.size);have xP:=ae (hr2.lt (by intro e;have :=congrArg List.length e;rw[aF,yu.o]at this;cases this));clear hr2 hc2))
 have LG:=ae (show jj w W2 p W1.heap.size L0 M D Z from⟨HK.o.trans aq.o,bj.o.keeps aq.o,bH.o.keeps aq.o,aV.o.keeps aq.o,HR2.o,Nat.lt_of_lt_of_le hps bw.o.size,xP.o⟩)
 generalize W1.heap.size=q at *
 clear bj bH aV HK bw aq HR2 xP hps
 go_wp2
 go_loopw [6,7,8,9,10,11,12,13,14,15,16] (fun c _ _ _ _ _ _ _ _ _ _ wr=>∃(k:Nat) (L:List Int),k≤4∧c= .int .i64 k∧Hid (nN m V k L)∧Hid (jj w wr p q L M D Z)) (fun c _ _ _ _ _ _ _ _ _ _ _=>(6 -intOf c).toNat)
 case atStart=>exact⟨0,_,by omega,rfl,sI,LG⟩
 case round=>
  obtain⟨k,L,hk,rfl,HS,bV⟩:=hrel
  have hk6:(k:Int)<6:=by omega
  have hL:=HS.o.len
  have HL:=ae hL
  go_wp2
  go_loopw [7,8] (fun hb c wr=>∃(i:Nat) (F:Bool),8≤i∧i≤17∧c= .int .i64 i∧hb= .bool F∧Hid (wJ L i F)∧Hid (jj w wr p q L M D Z)) (fun _ c _=>(17 -intOf c).toNat)
  case atStart=>exact⟨8,false,by omega,by omega,rfl,rfl,ae (wJ.zero L),bV⟩
  case round=>
   obtain⟨i,F,E7,hi,rfl,rfl,HF,bV⟩:=hrel
   by_cases hlt:i<17
   · cases F with
     |true=>
      go_wp2
      go_roundw
      case rel=>exact⟨i+1,true,by omega,by omega,by go_num,rfl,ae HF.o.yes,bV⟩
      case measure=>simp[intOf];omega
     |false=>
      have ca:=bV.o.2.1.aT i (by omega)
      have yv:=ae (HF.o.no E7)
      generalize L.getD i 0=a at *
      go_wp2
      go_roundw
      case rel=>exact⟨i+1,a !=0,by omega,by omega,by go_num,by first |rfl|simp,yv,bV⟩
      case measure=>simp[intOf];omega
   ·obtain rfl:i=17:=by omega
    cases F with
    |false=>
     have hz:=HF.o.Lw hL
     have hlo:=HS.o.lo
     have hsp:=HS.o.split
     have hvl:=HS.o.val
     rw[hz,Int.mul_zero,Int.add_zero]at hsp
     rw[hsp]at hvl
     have htk:=k3 (HS.o.dg.take 8) (by rw[List.length_take,hL];rfl)
     generalize val 4294967296 (L.take 8)=lo at *
     have RN:=ae (show FN m lo 0 lo from⟨hlo,rfl,.inl rfl⟩)
     have Lr:=ae hvl
     have VZ:=ae htk
     clear hz hlo hsp hvl htk HF HS
     go_upto_region 34 with(fail)
     refine bh (fun W3 hk3 hr3 hs3=> ?_)
     have bV:=ae (show eF w W3 p q wr.heap.size L M D (gN L (List.replicate 8 0) 0) Z from⟨bV.o.keeps hk3,by rw[qg];exact hr3,bV.o.2.2.2.2.2.2⟩)
     generalize wr.heap.size=n at *
     clear hk3 hr3 hs3
     go_wp2
     go_loopw [18] (fun c wr=>∃(i:Nat),i≤8∧c= .int .i64 i∧Hid (eF w wr p q n L M D (gN L (List.replicate 8 0) i) Z)) (fun c _=>(8 -intOf c).toNat)
     case atStart=>exact⟨0,by omega,rfl,bV⟩
     case round=>
      obtain⟨i,hi,rfl,bV⟩:=hrel
      by_cases hlt:i<8
      · have iz:(gN L (List.replicate 8 0) i).length=8:=by rw[jL (by omega) (by simp;omega)];rfl
        have ca:=bV.o.1.2.1.aT i (by omega)
        have cb:=bV.o.2.1.aT i (by omega)
        have fb:=bV.o.2.1.bR i (by rw[aF];omega)
        have bx:=ae (bV.o.set hkp (i:=i) (by omega) (L.getD i 0))
        rw[o9 (by omega) (by simp;omega)]at bx
        generalize(gN L (List.replicate 8 0) i).getD i 0=old at *
        generalize L.getD i 0=a at *
        clear bV
        go_wp2
        go_roundw
        case rel=>exact⟨i+1,by omega,by go_num,bx⟩
        case measure=>simp[intOf];omega
      ·obtain rfl:i=8:=by omega
       rw[LB,VZ.o]at bV
       go_wp2
       go_loopw [19] (fun c wr=>∃(k:Nat) (u:Int),c= .int .i64 k∧Hid (FN m lo k u)∧Hid (eF w wr p q n L M D (ax u) Z)) (fun c _=>(3 -intOf c).toNat)
       case atStart=>exact⟨0,_,rfl,RN,bV⟩
       case round=>
        obtain⟨k,u,rfl,HF,bV⟩:=hrel
        have hk3:(k:Int)<3:=by have :=HF.o.k;omega
        have p7:=ae (OO.o u HF.o.r)
        have Rq:=ae (kj.o u HF.o.r)
        have AV:=am u
        by_cases LH:u<m
        ·rw[decide_eq_true LH]at p7
         have hfin:=jX.o u HF.o.r.1 LH (by rw[HF.o.md,Lr.o])
         rw[hfin]at bV p7
         have hrl:=Fx.o
         have V0:=ae LH
         clear LH hfin Rq AV
         go_upto_region 42 with(first |((with_reducible refine aQ 67 (.tmp 17) ?_);refine dO (by kernel_rfl) 67 (.tmp 17) rfl _ 0 rfl (RES.map (Value.int .u32)) _ bV.o.2.1 Tryz.underlying67 rfl (by rw[aF,hrl];exact bm) ?_)|((with_reducible refine aQ 67 (.tmp 3) ?_);refine dO (by kernel_rfl) 67 (.tmp 3) rfl _ 0 rfl (M.map (Value.int .u32)) _ bV.o.1.2.2.1 Tryz.underlying67 rfl (by rw[aF,qY.o];exact bm) ?_)|(go_at_call 61;refine(p7.o _).mono ?_;rintro e W5 ⟨rfl,hk5⟩;have cG:=ae hk5;clear hk5))
         have OP:=ae (bV.o.1.keeps cG.o)
         have ej:=ae (bV.o.2.1.keeps cG.o)
         go_wp2_with (first |((with_reducible refine aQ 67 (.tmp 17) ?_);refine aj rfl 67 (.tmp 17) rfl _ 0 rfl (RES.map (Value.int .u32)) _ ej.o Tryz.underlying67 rfl (by rw[aF,hrl];exact bm) ?_)|((with_reducible refine aY 67 (.tmp 4) (.tmp 136) ?_);refine wpList_store_row rfl 67 (.tmp 4) (.tmp 136) rfl (p+1+1) 0 rfl Z (RES.map (Value.int .u32)) rfl OP.o.2.2.2.1 (by rw[aF,hrl,hZ]) (by rw[aF,hrl];exact bm) (ai _) ?_;intro w8 aR aJ;have H9:=ae aR;have bK:=ae aJ;clear aR aJ))
         exact bodyPost_ret (v:= .agg (RES.map (Value.int .u32)).toArray) (ar (p:=4) (ty:=67) rfl _ _ (p+1+1) 0 _ _ rfl H9.o Tryz.underlying67 rfl (by rw[aF,hrl];exact bm)) rfl ⟨rfl,ag OP.o.1 bK.o (by omega)⟩
        ·rw[decide_eq_false LH]at p7
         have hk0:k=0:=by have :=HF.o.k;omega
         subst hk0
         have yv:=ae (show FN m lo 1 (u -m)from⟨⟨by have :=HF.o.r.1;omega,by have :=HF.o.r.2;have :=Rp.o;have :=OM.o.u.1;omega⟩,by rw[←HF.o.md];exact Int.sub_emod_right u m,.inr ⟨rfl,by have :=HF.o.r.2;have :=jV.o;omega⟩⟩)
         have hsl:=am (u -m)
         generalize hU:ax u=U at *
         generalize hS:ax (u -m)=S at *
         have Rr:=ae hS
         have V0:=ae LH
         clear hU hS LH HF
         go_upto_region 41 with(first |((with_reducible refine aQ 67 (.tmp 17) ?_);refine dO (by kernel_rfl) 67 (.tmp 17) rfl _ 0 rfl (U.map (Value.int .u32)) _ bV.o.2.1 Tryz.underlying67 rfl (by rw[aF,AV];exact bm) ?_)|((with_reducible refine aQ 67 (.tmp 3) ?_);refine dO (by kernel_rfl) 67 (.tmp 3) rfl _ 0 rfl (M.map (Value.int .u32)) _ bV.o.1.2.2.1 Tryz.underlying67 rfl (by rw[aF,qY.o];exact bm) ?_)|(go_at_call 61;refine(p7.o _).mono ?_;rintro e W5 ⟨rfl,hk5⟩;have cG:=ae hk5;clear hk5))
         have OP:=ae (bV.o.1.keeps cG.o)
         have ej:=ae (bV.o.2.1.keeps cG.o)
         go_upto_region 40 with(first |((with_reducible refine aQ 67 (.tmp 17) ?_);refine dO (by kernel_rfl) 67 (.tmp 17) rfl _ 0 rfl (U.map (Value.int .u32)) _ ej.o Tryz.underlying67 rfl (by rw[aF,AV];exact bm) ?_)|((with_reducible refine aQ 67 (.tmp 3) ?_);refine dO (by kernel_rfl) 67 (.tmp 3) rfl _ 0 rfl (M.map (Value.int .u32)) _ OP.o.2.2.1 Tryz.underlying67 rfl (by rw[aF,qY.o];exact bm) ?_)|(go_at_call 127;refine(Rq.o _).mono ?_;rintro e W6 ⟨rfl,hk6⟩;have iY:=ae hk6;clear hk6)|((with_reducible refine aY 67 (.tmp 17) (.tmp 135) ?_);refine wpList_store_row rfl 67 (.tmp 17) (.tmp 135) rfl n 0 rfl (U.map (Value.int .u32)) (S.map (Value.int .u32)) rfl (ej.o.keeps iY.o) (by rw[aF,aF,hsl,AV]) (by rw[aF,hsl];exact bm) (ai _) ?_;intro W8 aR aJ;have E8:=ae (show eF w W8 p q n L M D S Z from⟨(OP.o.keeps iY.o).aG aJ hkp bV.o.2.2,aR,bV.o.2.2⟩);clear aR aJ))
         go_wp2
         go_roundw
         case rel=>first |exact⟨1,_,rfl,yv,by rw[Rr.o];exact E8⟩|((repeat apply Exists.intro);focus(refine⟨?_,rfl⟩;exact⟨1,_,rfl,yv,by rw[Rr.o];exact E8⟩))
         case measure=>simp[intOf]
    |true=>
     have hpos:=HF.o.Jt HS.o.dg
     have hlo:=HS.o.lo
     have hhi:=HS.o.hi
     have RQ:=ae (fun i (hi:i<9)=>DG hL HS.o.dg hi)
     have HI0:=ae (sG.start hL HS.o.dg (val 4294967296 (L.drop 8)) d)
     have OR:=ae (fun N (h:sG (val 4294967296 (L.take 8)) (val 4294967296 (L.drop 8)) d 9 N)=>sG.next (by rw[VY.o]at h;exact h) OM.o HS.o rfl rfl hpos)
     generalize val 4294967296 (L.take 8)=lo at *
     generalize val 4294967296 (L.drop 8)=Hn at *
     have RS:=ae hlo.1
     have RU:=ae (show lo<4294967296^8 by rw[fe];exact hlo.2)
     have LI:=ae hhi
     clear hpos hlo hhi HF
     go_upto_region 12 with(fail)
     refine bh (fun W3 hk3 hr3 hs3=> ?_)
     have bV:=ae (show eF w W3 p q wr.heap.size L M D (gN L (List.replicate 17 0) 0) Z from⟨bV.o.keeps hk3,by rw[qg];exact hr3,bV.o.2.2.2.2.2.2⟩)
     generalize wr.heap.size=n at *
     clear hk3 hr3 hs3
     go_wp2
     go_loopw [10] (fun c wr=>∃(i:Nat),i≤8∧c= .int .i64 i∧Hid (eF w wr p q n L M D (gN L (List.replicate 17 0) i) Z)) (fun c _=>(8 -intOf c).toNat)
     case atStart=>exact⟨0,by omega,rfl,bV⟩
     case round=>
      obtain⟨i,hi,rfl,bV⟩:=hrel
      by_cases hlt:i<8
      · have iz:(gN L (List.replicate 17 0) i).length=17:=by rw[jL (by omega) (by simp;omega)];rfl
        have ca:=bV.o.1.2.1.aT i (by omega)
        have cb:=bV.o.2.1.aT i (by omega)
        have fb:=bV.o.2.1.bR i (by rw[aF];omega)
        have bx:=ae (bV.o.set hkp (i:=i) (by omega) (L.getD i 0))
        rw[o9 (by omega) (by simp;omega)]at bx
        generalize(gN L (List.replicate 17 0) i).getD i 0=old at *
        generalize L.getD i 0=a at *
        clear bV
        go_wp2
        go_roundw
        case rel=>exact⟨i+1,by omega,by go_num,bx⟩
        case measure=>simp[intOf];omega
      ·obtain rfl:i=8:=by omega
       go_wp2
       go_loopw [11,12,13,14,15,16] (fun c _ _ _ _ _ wr=>∃(i ii:Nat) (N:List Int),i≤9∧Hid (ii=i+8)∧c= .int .i64 ii∧Hid (sG lo Hn d i N)∧Hid (eF w wr p q n L M D N Z)) (fun c _ _ _ _ _ _=>(17 -intOf c).toNat)
       case atStart=>exact⟨0,8,_,by omega,ae rfl,rfl,HI0,bV⟩
       case round=>
        obtain⟨i,ii,N,hi,E9,rfl,HI,bV⟩:=hrel
        by_cases hlt:i<9
        · have hii:(ii:Int)<17:=by have :=E9.o;omega
          have hii2:ii<17:=by omega
          have w9:IntKind.i64.wrap ((ii:Int) -8)=(i:Int):=by rw[IntKind.wrap_i64];have :=E9.o;omega
          have Yt:((ii:Int) -8)=(i:Int):=by have :=E9.o;omega
          have hdig:=RQ.o i hlt
          rw[←E9.o]at hdig
          have Jr:=ae (fun w9 L9 (h:eF w w9 p q n L M D L9 Z)=>h.1.2.1.aT ii (by omega))
          have har:=HS.o.dg.getD (i:=ii) (by omega)
          generalize L.getD ii 0=a at *
          have V6:=ae hdig
          have RV:=ae (fun N c (h:qX lo Hn d i 8 N c)=>h.out RS.o RU.o LI.o.1 LI.o.2 HD0.o HD1.o)
          clear hdig
          go_wp2
          go_loopw [12,13,14] (fun cc c _ wr=>∃(k:Nat) (N:List Int) (cv:Int),k≤8∧c= .int .i64 k∧cc= .int .u64 cv∧Hid (qX lo Hn d i k N cv)∧Hid (eF w wr p q n L M D N Z)) (fun _ c _ _=>(8 -intOf c).toNat)
          case atStart=>exact⟨0,_,0,by omega,rfl,rfl,ae HI.o.inn,bV⟩
          case round=>
           obtain⟨k,N2,cv,hk4,rfl,rfl,uT,xQ⟩:=hrel
           have hL2:=uT.o.len
           have c0:=uT.o.c0;have c1:=uT.o.c1
           by_cases hltk:k<8
           · have ca:=Jr.o _ _ xQ.o
             have cb:=xQ.o.1.2.2.2.2.1.aT k (by rw[yu.o];exact hltk)
             have FM:=HDR.o k hltk
             have hdg:=ON.o k hltk
             have hik:(i:Int)+(k:Int)<17:=by omega
             have cl:=xQ.o.2.1.aT (i+k) (by omega)
             have AB:=ae (xQ.o.drew.2.1.aT (i+k) (by omega))
             have rH:=ae (xQ.o.drew.2.1.bR (i+k) (by rw[aF];omega))
             have ht:=uT.o.dg.getD (i:=i+k) (by omega)
             have jW:=ae (fun c' t' =>uT.o.step (a:=a) (b:=D.getD k 0) (c':=c') (t':=t') hlt hltk V6.o hdg)
             have bx:=ae (fun t=>xQ.o.drew.set hkp (i:=i+k) (by omega) t)
             generalize D.getD k 0=b at *
             generalize N2.getD (i+k) 0=t at *
             clear xQ hL2 hdg
             obtain⟨s,hs0,q1,q2,q3,q4,q5,q6,q7,q8,q9,q10⟩:=qV (a:=a) (b:=b) (c:=cv) (t:=t) har FM ⟨c0,c1⟩ ht
             have ik:=ae (jW.o (s/4294967296) (s%4294967296) q6 q7 q8 q9 q10)
             have bx:=ae (bx.o (s%4294967296))
             have w0:IntKind.u64.wrap (a*b)=a*b:=by rw[IntKind.wrap_u64];omega
             have w1:IntKind.u64.wrap (a*b+t)=a*b+t:=by rw[IntKind.wrap_u64];omega
             have w2:IntKind.u64.wrap (a*b+t+cv)=s:=by rw[IntKind.wrap_u64,hs0];omega
             have sI:=ae hs0
             clear hs0 q10 q1 q2 q3
             go_wp2
             go_region
             generalize wr.drew=w1 at *
             have c1:=AB.o
             have f1:=rH.o
             clear AB rH
             have hw:IntKind.u32.wrap s=s%4294967296:=by rw[IntKind.wrap_u32]
             go_wp2
             go_roundw
             case rel=>first |exact⟨k+1,_,s/4294967296,by omega,by go_num,by first |rfl|go_num,ik,bx⟩|((repeat apply Exists.intro);focus(refine⟨?_,rfl⟩;exact⟨k+1,_,s/4294967296,by omega,by go_num,by first |rfl|go_num,ik,bx⟩))
             case measure=>simp[intOf];omega
           ·obtain rfl:k=8:=by omega
            have wA:=RV.o _ _ uT.o
            rw[←E9.o]at wA
            have wA:=ae wA
            clear hL2 c0 c1 uT
            go_wp2
            go_loopw [12,15,16] (fun cc c _ wr=>∃(k:Nat) (N:List Int) (cv:Int),c= .int .i64 k∧cc= .int .u64 cv∧Hid (wK (lo+Hn%4294967296^(i+1)*d) k N cv)∧Hid (eF w wr p q n L M D N Z)) (fun _ c _ _=>(17 -intOf c).toNat)
            case atStart=>exact⟨ii,_,_,rfl,rfl,wA,xQ⟩
            case round=>
             obtain⟨k,N3,cv,rfl,rfl,HC,I8⟩:=hrel
             have hL3:=HC.o.len
             have c0:=HC.o.c0;have c1:=HC.o.c1
             by_cases hcv:cv=0
             ·subst hcv
              have NP:=ae HC.o.out
              clear HC hL3 c0 c1
              by_cases OT:k<17
              · go_wp2
                go_roundw
                case rel=>first |exact⟨i+1,ii+1,_,by omega,ae (by have :=E9.o;omega),by go_num,NP,I8⟩|exact⟨i+1,by omega,ii+1,ae (by have :=E9.o;omega),by go_num,_,NP,I8⟩|((repeat apply Exists.intro);focus(refine⟨?_,rfl⟩;exact⟨i+1,ii+1,_,by omega,ae (by have :=E9.o;omega),by go_num,NP,I8⟩))
                case measure=>simp[intOf];omega
              · go_wp2
                go_roundw
                case rel=>first |exact⟨i+1,ii+1,_,by omega,ae (by have :=E9.o;omega),by go_num,NP,I8⟩|exact⟨i+1,by omega,ii+1,ae (by have :=E9.o;omega),by go_num,_,NP,I8⟩|((repeat apply Exists.intro);focus(refine⟨?_,rfl⟩;exact⟨i+1,ii+1,_,by omega,ae (by have :=E9.o;omega),by go_num,NP,I8⟩))
                case measure=>simp[intOf];omega
             · have OT:=HC.o.lt hcv
               have hcp:cv>0:=by omega
               have cl:=I8.o.2.1.aT k (by omega)
               have fl:=I8.o.2.1.bR k (by rw[aF];omega)
               have ht:=HC.o.dg.getD (i:=k) (by omega)
               have HST:=ae (fun c' t' =>HC.o.step (c':=c') (t':=t') OT)
               have bx:=ae (fun t=>I8.o.set hkp (i:=k) (by omega) t)
               generalize N3.getD k 0=t at *
               clear I8 hL3
               have ik:=ae (HST.o ((t+cv)/4294967296) ((t+cv)%4294967296) (by omega) (by omega) (by omega) (by omega) (by omega))
               have bx:=ae (bx.o ((t+cv)%4294967296))
               have w0:IntKind.u64.wrap (t+cv)=t+cv:=by rw[IntKind.wrap_u64];omega
               have hz0:0≤t+cv:=by omega
               have hz1:t+cv<8589934592:=by omega
               clear HST
               obtain⟨z,hz⟩:∃z,t+cv=z:=⟨_,rfl⟩
               rw[hz]at ik bx hz0 hz1
               have w0:IntKind.u64.wrap (t+cv)=z:=by rw[w0,hz]
               have HZ:=ae hz
               clear hz
               have hw:IntKind.u32.wrap z=z%4294967296:=by rw[IntKind.wrap_u32]
               go_wp2
               go_roundw
               case rel=>first |exact⟨k+1,_,z/4294967296,by go_num,by first |rfl|go_num|rw[HZ.o],ik,by first |exact bx|(rw[HZ.o];exact bx)⟩|((repeat apply Exists.intro);focus(refine⟨?_,rfl⟩;exact⟨k+1,_,z/4294967296,by go_num,by first |rfl|go_num|rw[HZ.o],ik,by first |exact bx|(rw[HZ.o];exact bx)⟩))
               case measure=>simp[intOf];omega
        ·obtain rfl:i=9:=by omega
         obtain rfl:ii=17:=by have :=E9.o;omega
         obtain⟨hk4,hst⟩:=OR.o N HI.o
         have hnl:=HI.o.len
         have HST:=ae hst
         clear hst
         go_upto_region 4 with(first |((with_reducible refine aQ 168 (.tmp 9) ?_);refine aj rfl 168 (.tmp 9) rfl _ 0 rfl (N.map (Value.int .u32)) _ bV.o.2.1 Tryz.underlying168 rfl (by rw[aF,hnl];exact rP) ?_)|((with_reducible refine aY 168 (.tmp 2) (.tmp 113) ?_);refine wpList_store_row rfl 168 (.tmp 2) (.tmp 113) rfl p 0 rfl (L.map (Value.int .u32)) (N.map (Value.int .u32)) rfl bV.o.1.2.1 (by rw[aF,aF,hnl,HL.o]) (by rw[aF,hnl];exact rP) (ai _) ?_;intro W8 aR aJ;have E8:=ae (show jj w W8 p q N M D Z from⟨ag bV.o.1.1 aJ (by omega),aR,bV.o.1.2.2.1.aG aJ (by omega),bV.o.1.2.2.2.1.aG aJ (by omega),bV.o.1.2.2.2.2.1.aG aJ (by have :=bV.o.1.2.2.2.2.2.1;omega),bV.o.1.2.2.2.2.2.1,Nat.lt_of_lt_of_le bV.o.1.2.2.2.2.2.2 aJ.size⟩);clear aR aJ))
         go_wp2
         go_roundw
         case rel=>exact⟨k+1,N,by omega,by go_num,HST,E8⟩
         case measure=>simp[intOf];omega
end Go.Proofs.YtlofddoojkeakaaGreatDoor
