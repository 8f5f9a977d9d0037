/- The reference's Pow and Inverse. -/
import Derived.Test.YtlofddoojkeakaaGreatDoorGB2
import Derived.Test.YtlofddoojkeakaaGreatDoorGB3
import Derived.Test.YtlofddoojkeakaaGreatDoorGB0
set_option maxRecDepth 100000
set_option maxHeartbeats 8000000
set_option linter.unusedVariables false
set_option linter.unusedSimpArgs false
namespace Go.Proofs.YtlofddoojkeakaaGreatDoor
open Go Go.RowKit
theorem gI.keeps {w wr w':World}{p:Nat}{X Y M L:List Int}{Z:List Value}(h:gI w wr p X Y M L Z)(hk:Keeps wr w'):gI w w' p X Y M L Z:=
 ⟨h.1.trans hk,h.2.1.keeps hk,h.2.2.1.keeps hk,h.2.2.2.1.keeps hk,h.2.2.2.2.1.keeps hk,h.2.2.2.2.2.keeps hk⟩
theorem gI.put {w wr w':World}{p:Nat}{X Y M L L':List Int}{Z:List Value}(h:gI w wr p X Y M L Z)(hp:w.heap.size≤p)(hc:bU (· =p+1+1+1+1) wr w')(hr:Row w' (p+1+1+1+1) 0 (L'.map (Value.int .u32))):gI w w' p X Y M L' Z:=
 ⟨ag h.1 hc (by omega),h.2.1.aG hc (by omega),h.2.2.1.aG hc (by omega),h.2.2.2.1.aG hc (by omega),h.2.2.2.2.1.aG hc (by omega),hr⟩
theorem DN(m x:Int)(M E:List Int)(P:Nat→Int)(bt:Nat→Bool)(hM:M.length=8)(hE:E.length=8)(hx:cg x)(uB:∀j,cg (P j))(h0:P 0=1)
 (hS:∀i,i<256→(bt i=true∧P (256 -i)=P (256 -(i+1))*P (256 -(i+1))%m*x%m∧cg (P (256 -(i+1))*P (256 -(i+1))%m))∨(bt i=false∧P (256 -i)=P (256 -(i+1))*P (256 -(i+1))%m)) (w:World)
 (hB:∀(i:Nat) W,i<256→Calls Tryz.prog 104 #[.agg (E.map (Value.int .u32)).toArray,.int .i64 i] W fun e w' =>e= .returned (.bool (bt i))∧Keeps W w')
 (hMul:∀a b W,cg a→cg b→Calls Tryz.prog 101 #[.agg ((ax a).map (Value.int .u32)).toArray,.agg ((ax b).map (Value.int .u32)).toArray,.agg (M.map (Value.int .u32)).toArray] W fun e w' =>e= .returned (.agg ((ax (a*b%m)).map (Value.int .u32)).toArray)∧Keeps W w'):
 Calls Tryz.prog 106 #[.agg ((ax x).map (Value.int .u32)).toArray,.agg (E.map (Value.int .u32)).toArray,.agg (M.map (Value.int .u32)).toArray] w fun e' w' =>e' = .returned (.agg ((ax (P 256)).map (Value.int .u32)).toArray)∧Keeps w w':=by
 have Rp:=ae hMul;have HB:=ae hB;have HS:=ae hS;have wQ:=ae uB;have HE:=ae hE;have R8:=ae hx;have qY:=ae hM
 have hxl:=am x
 have NT:=ae h0
 generalize hX:ax x=X at *
 have HX:=ae hX
 have A3:=ae hxl
 obtain⟨T,hT⟩:∃T:Nat→List Int,∀j,T j=ax (P j):=⟨fun j=>ax (P j),fun _=>rfl⟩
 rw[←hT 256]
 have HT:=ae hT
 have AE:=ae (fun j=>show(T j).length=8 by rw[hT];exact am _)
 have HT0:=ae (show T 0=[1,0,0,0,0,0,0,0] by rw[hT,h0];simp[ax,List.range_succ])
 clear hMul hB hS uB hE hx h0 hX hxl hT hM NT
 go_enter Tryz.func106,Tryz.ntmps106
 go_upto_region 2 with(fail)
 refine sH (fun W hk hra hrb hrm hr2 hr3 hs=> ?_)
 obtain⟨p,hp⟩:∃p,p=w.heap.size:=⟨_,rfl⟩
 rw[←hp]at hra hrb hrm hr2 hr3 hs⊢
 have hkp:w.heap.size≤p:=by omega
 obtain⟨Z,hZ,hrz⟩:∃Z:List Value,Z.length=8∧Row W (p+1+1+1) 0 Z:=⟨_,rfl,hr2⟩
 have I9:=ae (show gI w W p X E M (T 0) Z from⟨hk,hra,hrb,hrm,hrz,by rw[HT0.o];exact hr3⟩)
 clear hp hra hrb hrm hr2 hr3 hrz hk hs HT0
 go_wp2
 go_loopw [8] (fun c wr=>∃(k:Nat) (z:Int),k≤256∧c= .int .i64 z∧Hid (z=(k:Int) -1)∧Hid (gI w wr p X E M (T (256 -k)) Z)) (fun c _=>(intOf c+1).toNat)
 case atStart=>exact⟨256,255,by omega,rfl,ae (by omega),I9⟩
 case round=>
  obtain⟨k,z,hk8,rfl,HZ,bV⟩:=hrel
  have hkc:k=0∨∃i,k=i+1:=by
   cases k with
   |zero=>exact .inl rfl
   |succ i=>exact .inr ⟨i,rfl⟩
  rcases hkc with rfl|⟨i,rfl⟩
  ·obtain rfl:z= -1:=by have :=HZ.o;omega
   rw[Nat.sub_zero]at bV
   have iz:=AE.o 256
   go_wp2_with (first |((with_reducible refine aQ 67 (.tmp 7) ?_);refine wl bV.o.2.2.2.2.2 iz (h:= ?_))|((with_reducible refine aY 67 (.tmp 6) (.tmp 25) ?_);refine ws bV.o.2.2.2.2.1 iz (by rw[hZ]) (h:= ?_);intro w9 aR aJ;have H9:=ae aR;have bK:=ae aJ;clear aR aJ))
   exact bodyPost_ret (v:= .agg ((T 256).map (Value.int .u32)).toArray) (ar (p:=6) (ty:=67) rfl _ _ (p+1+1+1) 0 _ _ rfl H9.o Tryz.underlying67 rfl (by rw[aF,iz];exact bm)) rfl ⟨rfl,ag bV.o.1 bK.o (by omega)⟩
  ·obtain rfl:z=(i:Int):=by have :=HZ.o;omega
   have hi:i<256:=by omega
   have hst:=HS.o i hi
   have O9:=ae (fun W=>HB.o i W hi)
   have hpu:=wQ.o (256 -(i+1))
   have HT1:=ae (HT.o (256 -(i+1)))
   have HT2:=ae (HT.o (256 -i))
   have ht1:=AE.o (256 -(i+1))
   have ht2:=AE.o (256 -i)
   generalize bt i=bb at *
   generalize P (256 -(i+1))=a at *
   generalize P (256 -i)=b at *
   generalize T (256 -(i+1))=TA at *
   generalize hTB:T (256 -i)=TB at *
   have F6:=ae hTB
   clear hTB
   have wN:=ae (fun W=>Rp.o a a W hpu hpu)
   rw[←HT1.o]at wN
   have hsl:=am (a*a%m)
   rcases hst with⟨rfl,hst,hu2⟩|⟨rfl,hst⟩
   · have jV:=ae (fun W=>Rp.o (a*a%m) x W hu2 R8.o)
     rw[←hst,←HT2.o,HX.o]at jV
     generalize ax (a*a%m)=SQ at *
     clear hst hu2
     go_upto_region 6 with(first |((with_reducible refine aQ 67 (.tmp 7) ?_);refine wl bV.o.2.2.2.2.2 ht1 (h:= ?_))|((with_reducible refine aQ 67 (.tmp 5) ?_);refine aj rfl 67 (.tmp 5) rfl _ 0 rfl (M.map (Value.int .u32)) _ bV.o.2.2.2.1 Tryz.underlying67 rfl (by rw[aF,qY.o];exact bm) ?_)|(go_at_call 101;refine(wN.o _).mono ?_;rintro e W2 ⟨rfl,hk2⟩;have aq:=ae (bV.o.keeps hk2);clear hk2)|((with_reducible refine aY 67 (.tmp 7) (.tmp 17) ?_);refine ws aq.o.2.2.2.2.2 hsl (by rw[aF,ht1]) (h:= ?_);intro W3 aR aJ;have bS:=ae (aq.o.put hkp aJ aR);clear aR aJ))
     go_upto_region 7 with(first |((with_reducible refine aQ 67 (.tmp 4) ?_);refine aj rfl 67 (.tmp 4) rfl _ 0 rfl (E.map (Value.int .u32)) _ bS.o.2.2.1 Tryz.underlying67 rfl (by rw[aF,HE.o];exact bm) ?_)|(go_at_call 104;refine(O9.o _).mono ?_;rintro e W4 ⟨rfl,hk2⟩;have gR:=ae (bS.o.keeps hk2);clear hk2))
     go_wp2_with (first |((with_reducible refine aQ 67 (.tmp 7) ?_);refine wl gR.o.2.2.2.2.2 hsl (h:= ?_))|((with_reducible refine aQ 67 (.tmp 3) ?_);refine aj rfl 67 (.tmp 3) rfl _ 0 rfl (X.map (Value.int .u32)) _ gR.o.2.1 Tryz.underlying67 rfl (by rw[aF,A3.o];exact bm) ?_)|((with_reducible refine aQ 67 (.tmp 5) ?_);refine aj rfl 67 (.tmp 5) rfl _ 0 rfl (M.map (Value.int .u32)) _ gR.o.2.2.2.1 Tryz.underlying67 rfl (by rw[aF,qY.o];exact bm) ?_)|(go_at_call 101;refine(jV.o _).mono ?_;rintro e W5 ⟨rfl,hk2⟩;have cG:=ae (gR.o.keeps hk2);clear hk2)|((with_reducible refine aY 67 (.tmp 7) (.tmp 24) ?_);refine ws cG.o.2.2.2.2.2 ht2 (by rw[aF,hsl]) (h:= ?_);intro W6 aR aJ;have iY:=ae (cG.o.put hkp aJ aR);clear aR aJ))
     go_roundw
     case rel=>exact⟨i,(i:Int) -1,by omega,by first |rfl|go_num,ae rfl,by rw[F6.o];exact iY⟩
     case measure=>simp[intOf]<;>omega
   ·rw[←hst,←HT2.o]at wN
    clear hst
    go_upto_region 6 with(first |((with_reducible refine aQ 67 (.tmp 7) ?_);refine wl bV.o.2.2.2.2.2 ht1 (h:= ?_))|((with_reducible refine aQ 67 (.tmp 5) ?_);refine aj rfl 67 (.tmp 5) rfl _ 0 rfl (M.map (Value.int .u32)) _ bV.o.2.2.2.1 Tryz.underlying67 rfl (by rw[aF,qY.o];exact bm) ?_)|(go_at_call 101;refine(wN.o _).mono ?_;rintro e W2 ⟨rfl,hk2⟩;have aq:=ae (bV.o.keeps hk2);clear hk2)|((with_reducible refine aY 67 (.tmp 7) (.tmp 17) ?_);refine ws aq.o.2.2.2.2.2 ht2 (by rw[aF,ht1]) (h:= ?_);intro W3 aR aJ;have bS:=ae (aq.o.put hkp aJ aR);clear aR aJ))
    go_wp2_with (first |((with_reducible refine aQ 67 (.tmp 4) ?_);refine aj rfl 67 (.tmp 4) rfl _ 0 rfl (E.map (Value.int .u32)) _ bS.o.2.2.1 Tryz.underlying67 rfl (by rw[aF,HE.o];exact bm) ?_)|(go_at_call 104;refine(O9.o _).mono ?_;rintro e W4 ⟨rfl,hk2⟩;have gR:=ae (bS.o.keeps hk2);clear hk2))
    go_roundw
    case rel=>exact⟨i,(i:Int) -1,by omega,by first |rfl|go_num,ae rfl,by rw[F6.o];exact gR⟩
    case measure=>simp[intOf]<;>omega
theorem yF(m:Nat)(hm:sE (m:Int))(x e:Nat)(hx:x<2^256)(he:e<2^256)(w:World):
 Calls Tryz.prog 106 #[.agg ((ax (x:Int)).map (Value.int .u32)).toArray,.agg ((ax (e:Int)).map (Value.int .u32)).toArray,.agg ((ax (m:Int)).map (Value.int .u32)).toArray] w fun e' w' =>e' = .returned (.agg ((ax ((x^e%m:Nat):Int)).map (Value.int .u32)).toArray)∧Keeps w w':=by
 have hm2:m<2^256:=by have :=hm.u.2;rw[sS];omega
 have hm1:1<m:=by have :=hm.two;omega
 have hfin:=Ba (x:=x) hm1 he 256 (Nat.le_refl _)
 rw[Nat.sub_self,Nat.pow_zero,Nat.div_one]at hfin
 rw[←hfin]
 refine DN (m:Int) (x:Int) (ax (m:Int)) (ax (e:Int)) (fun j=>((un m x e j:Nat):Int)) (fun i=>decide ((ax (e:Int)).getD (i/32) 0/2^(i%32)%2=1)) (am _) (am _) (jl hx) (fun j=>jl (Nat.lt_trans (F1 hm1 j) hm2)) rfl (fun i hi=> ?_) w
  (fun i W hi=>yB _ (am _) (cS _) i hi W) (fun a b W ha hb=>yA (m:Int) a b hm ha hb W)
 rw[sP e i hi]
 have e1:256 -i=256 -(i+1)+1:=by omega
 have e2:255 -(256 -(i+1))=i:=by omega
 have hst:un m x e (256 -i)=if e/2^i%2=1 then un m x e (256 -(i+1))*un m x e (256 -(i+1))%m*x%m else un m x e (256 -(i+1))*un m x e (256 -(i+1))%m:=by
  conv=>lhs;rw[e1,un,e2]
 rcases Nat.mod_two_eq_zero_or_one (e/2^i)with h|h
 ·refine .inr ⟨by rw[h];rfl,?_⟩
  rw[hst,h,if_neg (by decide)]
  rw[Int.natCast_emod,Int.natCast_mul]
 ·refine .inl ⟨by rw[h];rfl,?_,?_⟩
  ·rw[hst,h,if_pos rfl,Int.natCast_emod,Int.natCast_mul,Int.natCast_emod,Int.natCast_mul]
  ·rw[←Int.natCast_mul,←Int.natCast_emod]
   exact jl (Nat.lt_trans (Nat.mod_lt _ (by omega)) hm2)
theorem Bb:Tryz.prog.built 67 [(0,.int .u32 2)]=some ((ax 2).map (Value.int .u32)).toArray:=by kernel_rfl
theorem wR(m:Nat)(hm:sE (m:Int))(x:Nat)(hx:x<2^256)(w:World):
 Calls Tryz.prog 128 #[.agg ((ax (x:Int)).map (Value.int .u32)).toArray,.agg ((ax (m:Int)).map (Value.int .u32)).toArray] w fun e w' =>e= .returned (.agg ((ax ((x^(m -2)%m:Nat):Int)).map (Value.int .u32)).toArray)∧Keeps w w':=by
 have hm2:m<2^256:=by have :=hm.u.2;rw[sS];omega
 have hm1:2<m:=by have :=hm.two;omega
 have kj:=ae (ip (m:Int) 2 hm.u ⟨by decide,by decide⟩)
 rw[show(m:Int) -2=((m -2:Nat):Int) by omega]at kj
 have LO:=ae (yF m hm x (m -2) hx (by omega))
 have HB2:=ae Bb
 have hl:=am (x:Int)
 have hml:=am (m:Int)
 have hrl:=am ((x^(m -2)%m:Nat):Int)
 generalize ax ((x^(m -2)%m:Nat):Int)=RES at *
 generalize ax ((m -2:Nat):Int)=R at *
 generalize ax (x:Int)=X at *
 generalize ax (m:Int)=MM at *
 generalize ax 2=TW at *
 clear hx hm hm1 hm2
 go_enter Tryz.func128,Tryz.ntmps128
 go_upto_region 1 with(fail)
 refine cU (fun W hk hra hrb hr2 hs=> ?_)
 obtain⟨p,hp⟩:∃p,p=w.heap.size:=⟨_,rfl⟩
 rw[←hp]at hra hrb hr2 hs⊢
 have hkp:w.heap.size≤p:=by omega
 obtain⟨Z,hZ,hrz⟩:∃Z:List Value,Z.length=8∧Row W (p+1+1) 0 Z:=⟨_,rfl,hr2⟩
 have bj:=ae (show Row W p 0 (X.map (Value.int .u32))from hra);have bH:=ae (show Row W (p+1) 0 (MM.map (Value.int .u32))from hrb);have aV:=ae hrz;have HK:=ae hk
 clear hp hra hrb hr2 hrz hk hs
 refine au 6 [] [0,1,2,3,4,5] (fun _=>[]) (by kernel_rfl) (by kernel_rfl) (by intro i hi;cases hi) ?_
 refine kl (fun wS hS=>(bj.o.keeps hS)) hl (h:= ?_)
 refine kl (fun wS hS=>(bH.o.keeps hS)) hml (h:= ?_)
 refine kp (hx:=by intro wS hS;(refine cR 67 [(0,.const (.int .u32 2))] ?_ _ ?_ _ HB2.o)<;>rfl) (h:= ?_)
 refine kc (hc:=by exact fun wS hS=>kj.o wS) (h:= ?_)
 refine kl (fun wS hS=>(bH.o.keeps hS)) hml (h:= ?_)
 refine kc (hc:=by exact fun wS hS=>LO.o wS) (h:= ?_)
 refine aI ?_
 intro GG V2 hk1 hG
 clear hG
 simp only[aZ,br,ct,kD,kG,kP,Option.bind_some]
 have aV:=ae (aV.o.keeps hk1)
 have HK:=ae (HK.o.trans hk1)
 clear hk1
 go_wp2_with ((with_reducible refine aY 67 (.tmp 4) (.tmp 10) ?_);refine ws aV.o hrl (by rw[hZ]) (h:= ?_);intro w9 aR aJ;have H9:=ae aR;have bK:=ae aJ;clear aR aJ)
 exact bodyPost_ret (v:= .agg (RES.map (Value.int .u32)).toArray) (ar (p:=4) (ty:=67) rfl _ _ (p+1+1) 0 _ _ rfl H9.o Tryz.underlying67 rfl (by rw[aF,hrl];exact bm)) rfl ⟨rfl,ag HK.o bK.o (by omega)⟩
end Go.Proofs.YtlofddoojkeakaaGreatDoor
namespace Go.Proofs.YtlofddoojkeakaaGreatDoor
def lQ(p:Nat):Prop:=2≤p∧∀d,d∣p→d=1∨d=p
theorem lQ.cop {p a:Nat}(h:lQ p)(ha:¬p∣a):Nat.Coprime p a:=by
 rcases h.2 (Nat.gcd p a) (Nat.gcd_dvd_left p a)with h1|h1
 ·exact h1
 ·exact absurd (by rw[←h1];exact Nat.gcd_dvd_right p a) ha
theorem lQ.F7 {p a b:Nat}(h:lQ p)(hd:p∣a*b):p∣a∨p∣b:=by
 by_cases ha:p∣a
 ·exact .inl ha
 ·exact .inr ((h.cop ha).dvd_of_dvd_mul_left hd)
theorem sT:∀n:Nat,2≤n→∃r,lQ r∧r∣n:=by
 intro n
 induction n using Nat.strongRecOn with
 |ind n ih=>
  intro hn
  by_cases h:∃d,d∣n∧d≠1∧d≠n
  ·obtain⟨d,hd,h1,h2⟩:=h
   have hle:=Nat.le_of_dvd (by omega) hd
   have h0:d≠0:=by rintro rfl;have :=Nat.eq_zero_of_zero_dvd hd;omega
   obtain⟨r,hr,hrd⟩:=ih d (by omega) (by omega)
   exact⟨r,hr,Nat.dvd_trans hrd hd⟩
  ·refine⟨n,⟨hn,fun d hd=> ?_⟩,Nat.dvd_refl n⟩
   by_cases h1:d=1
   ·exact .inl h1
   · by_cases h2:d=n
     ·exact .inr h2
     ·exact absurd ⟨d,hd,h1,h2⟩ h
def ch:Nat→Nat→Nat
 |_,0=>1
 |0,_+1=>0
 |n+1,k+1=>ch n k+ch n (k+1)
theorem i6(n k:Nat):ch (n+1) (k+1)=ch n k+ch n (k+1):=rfl
theorem pd(n:Nat):ch n 0=1:=by cases n<;>rfl
theorem wT:∀n k,(n+1)*ch n k=ch (n+1) (k+1)*(k+1)
 |0,0=>rfl
 |0,k+1=>by simp[ch]
 |n+1,0=>by
  have :=wT n 0
  rw[i6,pd]at this
  rw[i6 (n+1) 0,pd,i6 n 0,pd]
  omega
 |n+1,k+1=>by
  have h1:=wT n k
  have h2:=wT n (k+1)
  rw[i6 (n+1) (k+1),i6 n k]
  rw[i6]at h1
  generalize ch (n+1) (k+1+1)=z at *
  generalize ch n k=x at *
  generalize ch n (k+1)=y at *
  grind
theorem wU:∀n k,n<k→ch n k=0
 |0,k+1,_=>rfl
 |n+1,k+1,h=>by rw[i6,wU n k (by omega),wU n (k+1) (by omega)]
theorem Cz:∀n,ch n n=1
 |0=>rfl
 |n+1=>by rw[i6,Cz n,wU n (n+1) (by omega)]
def mF(n a:Nat):Nat→Nat
 |0=>0
 |m+1=>mF n a m+ch n m*a^m
theorem vn(n a:Nat):∀m,mF (n+1) a (m+1)=mF n a (m+1)+a*mF n a m
 |0=>by simp[mF,pd]
 |m+1=>by
  have h:=vn n a m
  rw[mF,h,mF,i6,mF,mF,Nat.pow_succ]
  generalize mF n a m=s
  generalize a^m=t
  generalize ch n m=x
  generalize ch n (m+1)=y
  grind
theorem yG(a:Nat):∀n,(a+1)^n=mF n a (n+1)
 |0=>by simp[mF,ch]
 |n+1=>by
  rw[vn,mF,wU n (n+1) (by omega),←yG a n,Nat.pow_succ]
  generalize(a+1)^n=s
  grind
theorem LP{p k:Nat}(hp:lQ p)(h0:0<k)(h1:k<p):p∣ch p k:=by
 obtain⟨q,rfl⟩:∃q,p=q+1:=⟨p -1,by omega⟩
 obtain⟨j,rfl⟩:∃j,k=j+1:=⟨k -1,by omega⟩
 have h:=wT q j
 rcases hp.F7 (a:=ch (q+1) (j+1)) (b:=j+1) ⟨_,h.symm⟩with h2|h2
 ·exact h2
 · have :=Nat.le_of_dvd (by omega) h2
   omega
theorem yH{p:Nat}(hp:lQ p)(a:Nat):∀m,m<p→mF p a (m+1)%p=1
 |0,_=>by
  have :=hp.1
  simp[mF,pd];exact Nat.mod_eq_of_lt (by omega)
 |m+1,h=>by
  obtain⟨c,hc⟩:=LP hp (show 0<m+1 by omega) h
  rw[mF,hc,Nat.mul_assoc,Nat.add_mul_mod_self_left]
  exact yH hp a m (by omega)
theorem F8{p:Nat}(hp:lQ p)(a:Nat):(a+1)^p%p=(a^p+1)%p:=by
 have h2:=hp.1
 obtain⟨q,rfl⟩:∃q,p=q+1:=⟨p -1,by omega⟩
 have h3:=yH hp a q (by omega)
 rw[yG,mF,Cz,Nat.one_mul,←Nat.mod_add_mod,h3,Nat.add_comm]
theorem CA{p:Nat}(hp:lQ p):∀a,a^p%p=a%p
 |0=>by
  have h2:=hp.1
  rw[Nat.zero_pow (by omega)]
 |a+1=>by rw[F8 hp a,Nat.add_mod,CA hp a,←Nat.add_mod]
theorem Bc{p a:Nat}(hp:lQ p)(ha:¬p∣a):a^(p -1)%p=1:=by
 have h2:=hp.1
 have h:=CA hp a
 obtain⟨q,rfl⟩:∃q,p=q+1:=⟨p -1,by omega⟩
 rw[Nat.pow_succ]at h
 have ha0:0<a:=by
  rcases Nat.eq_zero_or_pos a with rfl|h
  ·exact absurd (Nat.dvd_zero _) ha
  ·exact h
 have h1:1≤a^q:=Nat.pow_pos ha0
 have hd:q+1∣a*(a^q -1):=by
  rw[Nat.mul_sub,Nat.mul_one,Nat.mul_comm]
  exact Nat.dvd_of_mod_eq_zero (Nat.sub_mod_eq_zero_of_mod_eq h)
 rcases hp.F7 hd with h3|h3
 ·exact absurd h3 ha
 ·obtain⟨c,hc⟩:=h3
  have e:a^q=1+(q+1)*c:=by omega
  show a^q%(q+1)=1
  rw[e,Nat.add_mul_mod_self_left,Nat.mod_eq_of_lt (by omega)]
def pm(n:Nat):Nat→Nat→Nat→Nat
 |0,_,_=>1%n
 |f+1,b,e=>if e%2=1 then b*pm n f (b*b%n) (e/2)%n else pm n f (b*b%n) (e/2)
theorem F9(a b n:Nat):(a%n)^b%n=a^b%n:=(Nat.pow_mod a b n).symm
theorem pf(n:Nat):∀f b e,e<2^f→pm n f b e=b^e%n
 |0,b,e,h=>by
  obtain rfl:e=0:=by simpa using h
  rfl
 |f+1,b,e,h=>by
  have ih:=pf n f (b*b%n) (e/2) (by rw[Nat.pow_succ]at h;omega)
  have e2:(b*b%n)^(e/2)%n=b^(2*(e/2))%n:=by
   rw[F9,Nat.pow_mul,Nat.pow_two]
  unfold pm
  rw[ih,e2]
  split
  · next ho=>
    have :e=2*(e/2)+1:=by omega
    conv=>rhs;rw[this,Nat.pow_succ,Nat.mul_comm]
    rw[Nat.mul_mod,Nat.mod_mod,←Nat.mul_mod]
  · next ho=>
    have :e=2*(e/2):=by omega
    conv=>rhs;rw[this]
theorem DO{r b:Nat}(hr:2≤r):∀(m n:Nat),b^m%r=1→b^n%r=1→b^(Nat.gcd m n)%r=1:=by
 intro m
 induction m using Nat.strongRecOn with
 |ind m ih=>
  intro n hm hn
  by_cases h0:m=0
  ·subst h0;rwa[Nat.gcd_zero_left]
  ·rw[Nat.gcd_rec]
   refine ih (n%m) (Nat.mod_lt _ (by omega)) m ?_ hm
   have e:n=m*(n/m)+n%m:=(Nat.div_add_mod n m).symm
   rw[e,Nat.pow_add,Nat.mul_mod,Nat.pow_mul,Nat.pow_mod,hm,Nat.one_pow,Nat.mod_eq_of_lt (show 1<r by omega),Nat.one_mul,Nat.mod_mod]at hn
   exact hn
theorem qh(N q k a:Nat)(hq:lQ q)(hN:N=k*q+1)(h1:pm N 256 a (k*q)=1)(h2:Nat.gcd (pm N 256 a k+(N -1)) N=1)(hlt:k*q<2^256)(hk0:0<k):∀r,lQ r→r∣N→q∣r -1:=by
 have hq2:=hq.1
 have R9:k<2^256:=Nat.lt_of_le_of_lt (Nat.le_mul_of_pos_right k (by omega)) hlt
 rw[pf _ _ _ _ hlt]at h1
 rw[pf _ _ _ _ R9]at h2
 intro r hr LR
 have hr2:=hr.1
 have Wn:=Nat.le_of_dvd (by omega) LR
 have m1:a^(k*q)%r=1:=by
  rw[←Nat.mod_mod_of_dvd _ LR,h1,Nat.mod_eq_of_lt (by omega)]
 have hra:¬r∣a:=by
  intro hd
  have :a^(k*q)%r=0:=by
   have hkq:k*q≠0:=by have :=Nat.mul_pos hk0 (show 0<q by omega);omega
   obtain⟨j,hj⟩:∃j,k*q=j+1:=⟨k*q -1,by omega⟩
   rw[hj,Nat.pow_succ]
   exact Nat.mod_eq_zero_of_dvd (Nat.dvd_trans hd (Nat.dvd_mul_left _ _))
  omega
 have hf:=Bc hr hra
 by_cases hd:q∣r -1
 ·exact hd
 · exfalso
   have hc:Nat.gcd q (r -1)=1:=hq.cop hd
   have b1:(a^k)^q%r=1:=by rw[←Nat.pow_mul];exact m1
   have b2:(a^k)^(r -1)%r=1:=by
    rw[←Nat.pow_mul,Nat.mul_comm,Nat.pow_mul,Nat.pow_mod,hf,Nat.one_pow,Nat.mod_eq_of_lt (by omega)]
   have b3:=DO hr2 q (r -1) b1 b2
   rw[hc,Nat.pow_one]at b3
   have b4:(a^k%N+(N -1))%r=0:=by
    have e1:(a^k%N)%r=1:=by rw[Nat.mod_mod_of_dvd _ LR];exact b3
    obtain⟨c,hc⟩:=LR
    have e2:a^k%N=r*(a^k%N/r)+1:=by
     have :=Nat.div_add_mod (a^k%N) r
     omega
    have e3:a^k%N+(N -1)=r*(a^k%N/r)+r*c:=by omega
    rw[e3,←Nat.mul_add]
    exact Nat.mul_mod_right _ _
   have :=Nat.dvd_gcd (Nat.dvd_of_mod_eq_zero b4) LR
   rw[h2]at this
   have :=Nat.le_of_dvd (by omega) this
   omega
theorem yI(N F q:Nat)(hc:Nat.gcd F q=1)(h1:∀r,lQ r→r∣N→F∣r -1)(h2:∀r,lQ r→r∣N→q∣r -1):∀r,lQ r→r∣N→F*q∣r -1:=fun r hr hd=>by
 have hc':Nat.Coprime F q:=hc
 exact hc'.mul_dvd_of_dvd_of_dvd (h1 r hr hd) (h2 r hr hd)
theorem pend(N F:Nat)(UK:2≤N)(Ja:N<(F+1)*(F+1))(h:∀r,lQ r→r∣N→F∣r -1):lQ N:=by
 have key:∀r,lQ r→r∣N→F<r:=by
  intro r hr LR
  have hr2:=hr.1
  have :=Nat.le_of_dvd (by omega) (h r hr LR)
  omega
 refine⟨UK,fun d hd=> ?_⟩
 by_cases e1:d=1
 ·exact .inl e1
 ·refine .inr ?_
  obtain⟨s,hs⟩:=hd
  have hd0:d≠0:=by rintro rfl;omega
  by_cases e2:s=1
  ·rw[hs,e2,Nat.mul_one]
  · exfalso
    have hs0:s≠0:=by rintro rfl;omega
    obtain⟨r1,p1,d1⟩:=sT d (by omega)
    obtain⟨r2,p2,d2⟩:=sT s (by omega)
    have k1:=key r1 p1 (Nat.dvd_trans d1 ⟨s,hs⟩)
    have k2:=key r2 p2 (Nat.dvd_trans d2 ⟨d,by rw[hs,Nat.mul_comm]⟩)
    have l1:=Nat.le_of_dvd (by omega) d1
    have l2:=Nat.le_of_dvd (by omega) d2
    have :(F+1)*(F+1)≤d*s:=Nat.mul_le_mul (by omega) (by omega)
    omega
def LT(n:Nat):Bool:=(List.range n).all fun d=>d<2||n%d !=0
theorem jf(n:Nat)(h2:2≤n)(h:LT n=true):lQ n:=by
 refine⟨h2,fun d hd=> ?_⟩
 have hle:=Nat.le_of_dvd (by omega) hd
 have h0:d≠0:=by rintro rfl;have :=Nat.eq_zero_of_zero_dvd hd;omega
 by_cases e1:d=1
 ·exact .inl e1
 · by_cases e2:d=n
   ·exact .inr e2
   · have :=List.all_eq_true.1 h d (List.mem_range.2 (by omega))
     have hm:=Nat.mod_eq_zero_of_dvd hd
     simp[hm]at this
     omega
theorem Sb:lQ 53:=jf 53 (by decide) (by decide+kernel)
theorem Sc:lQ 29:=jf 29 (by decide) (by decide+kernel)
theorem Sd:lQ 7:=jf 7 (by decide) (by decide+kernel)
theorem Se:lQ 107590001:=pend 107590001 10759 (by decide+kernel) (by decide+kernel) (yI 107590001 1537 7 (by decide+kernel) (yI 107590001 53 29 (by decide+kernel) (qh 107590001 53 2030000 2 Sb (by decide+kernel) (by decide+kernel) (by decide+kernel) (by decide+kernel) (by decide+kernel)) (qh 107590001 29 3710000 2 Sc (by decide+kernel) (by decide+kernel) (by decide+kernel) (by decide+kernel) (by decide+kernel))) (qh 107590001 7 15370000 2 Sd (by decide+kernel) (by decide+kernel) (by decide+kernel) (by decide+kernel) (by decide+kernel)))
theorem Sf:lQ 419:=jf 419 (by decide) (by decide+kernel)
theorem Sg:lQ 20113:=pend 20113 419 (by decide+kernel) (by decide+kernel) (qh 20113 419 48 2 Sf (by decide+kernel) (by decide+kernel) (by decide+kernel) (by decide+kernel) (by decide+kernel))
theorem Sh:lQ 1206781:=pend 1206781 20113 (by decide+kernel) (by decide+kernel) (qh 1206781 20113 60 2 Sg (by decide+kernel) (by decide+kernel) (by decide+kernel) (by decide+kernel) (by decide+kernel))
theorem Si:lQ 7240687:=pend 7240687 1206781 (by decide+kernel) (by decide+kernel) (qh 7240687 1206781 6 2 Sh (by decide+kernel) (by decide+kernel) (by decide+kernel) (by decide+kernel) (by decide+kernel))
theorem Sj:lQ 239:=jf 239 (by decide) (by decide+kernel)
theorem Sk:lQ 101:=jf 101 (by decide) (by decide+kernel)
theorem Pa:lQ 96557:=pend 96557 24139 (by decide+kernel) (by decide+kernel) (yI 96557 239 101 (by decide+kernel) (qh 96557 239 404 2 Sj (by decide+kernel) (by decide+kernel) (by decide+kernel) (by decide+kernel) (by decide+kernel)) (qh 96557 101 956 2 Sk (by decide+kernel) (by decide+kernel) (by decide+kernel) (by decide+kernel) (by decide+kernel)))
theorem Pb:lQ 255515944373312847190720520512484175977:=pend 255515944373312847190720520512484175977 75220367286300824659 (by decide+kernel) (by decide+kernel) (yI 255515944373312847190720520512484175977 779025521570687 96557 (by decide+kernel) (yI 255515944373312847190720520512484175977 107590001 7240687 (by decide+kernel) (qh 255515944373312847190720520512484175977 107590001 2374904191824599455024826335976 2 Se (by decide+kernel) (by decide+kernel) (by decide+kernel) (by decide+kernel) (by decide+kernel)) (qh 255515944373312847190720520512484175977 7240687 35288908963101546467996824129048 2 Si (by decide+kernel) (by decide+kernel) (by decide+kernel) (by decide+kernel) (by decide+kernel))) (qh 255515944373312847190720520512484175977 96557 2646270538369179315748423423599368 2 Pa (by decide+kernel) (by decide+kernel) (by decide+kernel) (by decide+kernel) (by decide+kernel)))
theorem Pc:lQ 205115282021455665897114700593932402728804164701536103180137503955397371:=pend 205115282021455665897114700593932402728804164701536103180137503955397371 255515944373312847190720520512484175977 (by decide+kernel) (by decide+kernel) (qh 205115282021455665897114700593932402728804164701536103180137503955397371 255515944373312847190720520512484175977 802749442992798076634733441528810 2 Pb (by decide+kernel) (by decide+kernel) (by decide+kernel) (by decide+kernel) (by decide+kernel))
theorem Pd:lQ 115792089237316195423570985008687907853269984665640564039457584007908834671663:=pend 115792089237316195423570985008687907853269984665640564039457584007908834671663 205115282021455665897114700593932402728804164701536103180137503955397371 (by decide+kernel) (by decide+kernel) (qh 115792089237316195423570985008687907853269984665640564039457584007908834671663 205115282021455665897114700593932402728804164701536103180137503955397371 564522 2 Pc (by decide+kernel) (by decide+kernel) (by decide+kernel) (by decide+kernel) (by decide+kernel))
theorem KP:lQ 115792089237316195423570985008687907853269984665640564039457584007908834671663:=Pd
end Go.Proofs.YtlofddoojkeakaaGreatDoor
set_option linter.unusedSectionVars false
namespace Go.Proofs.YtlofddoojkeakaaGreatDoor.Cv
inductive Pt (F:Type) where
 |inf
 |fq (x y:F)
section
variable {n:Nat} [NeZero n]
def finv(a:Fin n):Fin n:=a^(n -2)
def On(x y:Fin n):Prop:=y^2=x^3+7
def Pt.on:Pt (Fin n)→Prop
 | .inf=>True
 | .fq x y=>On x y
def sU(x y:Fin n):Fin n:=(3*x^2*finv (2*y))^2 -2*x
def wV(x y:Fin n):Fin n:=(3*x^2*finv (2*y))*(x -sU x y) -y
def Fb(x1 y1 x2 y2:Fin n):Fin n:=((y2-y1)*finv (x2-x1))^2 -x1 -x2
def Jb(x1 y1 x2 y2:Fin n):Fin n:=((y2-y1)*finv (x2-x1))*(x1 -Fb x1 y1 x2 y2) -y1
def eB:Pt (Fin n)→Pt (Fin n)→Pt (Fin n)
 | .inf,q=>q
 | .fq x y,.inf=> .fq x y
 | .fq x1 y1,.fq x2 y2=>if x1=x2 then(if y1=y2 then .fq (sU x1 y1) (wV x1 y1)else .inf)else .fq (Fb x1 y1 x2 y2) (Jb x1 y1 x2 y2)
structure Good (n:Nat) [NeZero n]:Prop where
 Bd:(1:Fin n)≠0
 inv:∀a:Fin n,a≠0→a*finv a=1
 two:(2:Fin n)≠0
 three:(3:Fin n)≠0
 seven:(7:Fin n)≠0
 Ga:∀x:Fin n,x^3+7≠0
theorem eq_of(g:Good n){a b:Fin n}(h:∀w,(a -b)*w=1→(1:Fin n)=0):a=b:=by
 by_cases e:a -b=0
 · grobner
 ·exact absurd (h _ (g.inv _ e)) g.Bd
theorem ne_of(g:Good n){a:Fin n}(h:a=0→(1:Fin n)=0):a≠0:=fun e=>g.Bd (h e)
theorem cH(g:Good n){a b:Fin n}(ha:a≠0)(hb:b≠0):a*b≠0:=by
 have h1:=g.inv a ha
 have h2:=g.inv b hb
 refine ne_of g fun e=> ?_
 grobner
theorem yJ(g:Good n){a:Fin n}(ha:a≠0):a^2≠0:=fun e=>cH g ha ha (by grobner)
theorem pg(g:Good n){a:Fin n}(ha:a≠0):a^3≠0:=fun e=>cH g (cH g ha ha) ha (by grobner)
theorem zero_or(g:Good n){a b:Fin n}(h:a*b=0):a=0∨b=0:=by
 by_cases ha:a=0
 ·exact .inl ha
 ·exact .inr (Classical.byContradiction fun hb=>cH g ha hb h)
theorem ol{a b:Fin n}(h:a≠b):b -a≠0:=fun e=>h (by grobner)
theorem ph{x y:Fin n}(g:Good n)(h:On x y):y≠0:=by
 intro e
 apply g.Ga x
 unfold On at h
 grobner
theorem Gb{x y:Fin n}(g:Good n)(h:On x y):On (sU x y) (wV x y):=by
 have hu:=g.inv _ (cH g g.two (ph g h))
 unfold On at *
 unfold wV sU
 generalize finv (2*y)=u at *
 refine eq_of g fun w hw=> ?_
 grobner
theorem KQ{x1 y1 x2 y2:Fin n}(g:Good n)(h1:On x1 y1)(h2:On x2 y2)(hx:x1≠x2):On (Fb x1 y1 x2 y2) (Jb x1 y1 x2 y2):=by
 have hu:=g.inv _ (ol hx)
 unfold On at *
 unfold Jb Fb
 generalize finv (x2-x1)=u at *
 refine eq_of g fun w hw=> ?_
 grobner
theorem jm{P Q:Pt (Fin n)}(g:Good n)(hP:P.on)(hQ:Q.on):(eB P Q).on:=by
 cases P with
 |inf=>exact hQ
 |fq x1 y1=>cases Q with
  |inf=>exact hP
  |fq x2 y2=>
   simp only[eB]
   split
   · split
     ·exact Gb g hP
     · trivial
   · rename_i h;exact KQ g hP hQ h
def JR(X Y Z:Fin n):Pt (Fin n)→Prop
 | .inf=>Z=0
 | .fq x y=>Z≠0∧X=x*Z^2∧Y=y*Z^3
def PR(X Y Z:Fin n):Pt (Fin n)→Prop
 | .inf=>X=0∧Y≠0∧Z=0
 | .fq x y=>Z≠0∧X=x*Z∧Y=y*Z
theorem Sl{X Y Z x y:Fin n}(g:Good n)(h:On x y)(hr:JR X Y Z (.fq x y)):
 let yy:=Y*Y;let s0:=X*yy;let s:=(s0+s0)+(s0+s0);let xx:=X*X;let m:=(xx+xx)+xx;let x3:=m*m -(s+s);let e0:=yy*yy;let e:=(e0+e0)+(e0+e0);let z:=Y*Z
 JR x3 (m*(s -x3) -(e+e)) (z+z) (.fq (sU x y) (wV x y)):=by
 obtain⟨hz,rfl,rfl⟩:=hr
 have hy:=ph g h
 have hzz:=cH g (cH g g.two hy) (cH g (yJ g hz) (yJ g hz))
 have hu:=g.inv _ (cH g g.two hy)
 intro yy s0 s xx m x3 e0 e z
 unfold wV sU
 generalize finv (2*y)=u at *
 refine⟨fun e=>hzz (by grobner),eq_of g fun w hw=> ?_,eq_of g fun w hw=> ?_⟩
 · grobner
 · grobner
theorem Sm{X1 Y1 Z1 X2 Y2 Z2 x1 y1 x2 y2:Fin n}(g:Good n)(hr1:JR X1 Y1 Z1 (.fq x1 y1))(hr2:JR X2 Y2 Z2 (.fq x2 y2))(hx:x1≠x2):
 let aa:=Z1*Z1;let bb:=Z2*Z2;let u:=X1*bb;let v:=X2*aa;let s:=Y1*(Z2*bb);let t:=Y2*(Z1*aa);let h:=v-u;let r:=t-s;let hh:=h*h;let hhh:=h*hh;let q:=u*hh;let x3:=(r*r -hhh) -(q+q)
 JR x3 (r*(q -x3) -s*hhh) (h*(Z1*Z2)) (.fq (Fb x1 y1 x2 y2) (Jb x1 y1 x2 y2)):=by
 obtain⟨hz1,rfl,rfl⟩:=hr1
 obtain⟨hz2,rfl,rfl⟩:=hr2
 have hzz:=cH g (ol hx) (cH g (pg g hz1) (pg g hz2))
 have hu:=g.inv _ (ol hx)
 intro aa bb u v s t h r hh hhh q x3
 unfold Jb Fb
 generalize finv (x2-x1)=i at *
 refine⟨fun e=>hzz (by grobner),eq_of g fun w hw=> ?_,eq_of g fun w hw=> ?_⟩
 · grobner
 · grobner
def pX(X1 Y1 Z1 X2 Y2 Z2:Fin n):Fin n:=((X1+Y1)*(X2+Y2) -(X1*X2+Y1*Y2))*(Y1*Y2 -21*(Z1*Z2)) -((Y1+Z1)*(Y2+Z2) -(Y1*Y2+Z1*Z2))*(21*((X1+Z1)*(X2+Z2) -(X1*X2+Z1*Z2)))
def pY(X1 Y1 Z1 X2 Y2 Z2:Fin n):Fin n:=(Y1*Y2 -21*(Z1*Z2))*(Y1*Y2+21*(Z1*Z2))+(21*((X1+Z1)*(X2+Z2) -(X1*X2+Z1*Z2)))*(X1*X2+X1*X2+X1*X2)
def pZ(X1 Y1 Z1 X2 Y2 Z2:Fin n):Fin n:=(Y1*Y2+21*(Z1*Z2))*((Y1+Z1)*(Y2+Z2) -(Y1*Y2+Z1*Z2))+(X1*X2+X1*X2+X1*X2)*((X1+Y1)*(X2+Y2) -(X1*X2+Y1*Y2))
theorem Gc{x1 y1 x2 y2:Fin n}(g:Good n)(h1:On x1 y1)(h2:On x2 y2)(hx:x1≠x2):
 pZ x1 y1 1 x2 y2 1≠0∧pX x1 y1 1 x2 y2 1=Fb x1 y1 x2 y2*pZ x1 y1 1 x2 y2 1∧pY x1 y1 1 x2 y2 1=Jb x1 y1 x2 y2*pZ x1 y1 1 x2 y2 1:=by
 have hu:=g.inv _ (ol hx)
 have h2':On x2 (-y2):=by unfold On at *;grobner
 have hc:=ph g (KQ g h1 h2' hx)
 have hX:pX x1 y1 1 x2 y2 1=Fb x1 y1 x2 y2*pZ x1 y1 1 x2 y2 1:=by
  unfold On at *
  unfold Fb pX pZ
  generalize finv (x2-x1)=u at *
  refine eq_of g fun w hw=> ?_
  grobner
 have hY:pY x1 y1 1 x2 y2 1=Jb x1 y1 x2 y2*pZ x1 y1 1 x2 y2 1:=by
  unfold On at *
  unfold Jb Fb pY pZ
  generalize finv (x2-x1)=u at *
  refine eq_of g fun w hw=> ?_
  grobner
 refine⟨fun hz=> ?_,hX,hY⟩
 rw[hz]at hX hY
 apply hc
 unfold On at *
 unfold Jb Fb
 unfold pX at hX
 unfold pY at hY
 unfold pZ at hz
 generalize finv (x2-x1)=u at *
 have hX:_=(0:Fin n):=hX.trans (by grobner)
 have hY:_=(0:Fin n):=hY.trans (by grobner)
 refine eq_of g fun w hw=> ?_
 grobner
theorem bs{x1 y1 x2 y2 x3 y3 l m:Fin n}(g:Good n)
 (hl:l*(x2-x1)=y2-y1) (hm:m*(x3-x2)=y3-y2)
 (ha:x3=l^2-x1-x2) (hb:y3=l*(x1-x3)-y1) (hc:x1=m^2-x2-x3) (hd:y1=m*(x2-x1)-y2) (hy1:y1≠0) (hy2:y2≠0):False:=by
 have e1:2*y2+(l+m)*(x1-x2)=0:=by grobner
 have e2:2*y2+(l+m)*(x3-x2)=0:=by grobner
 have h2:=cH g g.two hy2
 have hlm:l+m≠0:=fun e=>h2 (by grobner)
 have h13:x1 -x3=0:=by
  rcases zero_or g (show(l+m)*(x1-x3)=0 by grobner)with h|h
  ·exact absurd h hlm
  ·exact h
 have Wo:l -m=0:=by
  rcases zero_or g (show(l+m)*(l-m)=0 by grobner)with h|h
  ·exact absurd h hlm
  ·exact h
 exact cH g g.two hy1 (by grobner)
structure KR (x1 y1 x2 y2 l:Fin n):Prop where
 dif:l*(x2-x1)=y2-y1
 sum:l*(y1+y2)=x1^2+x1*x2+x2^2
def jn:Pt (Fin n)→Pt (Fin n)
 | .inf=> .inf
 | .fq x y=> .fq x (-y)
theorem iR{P:Pt (Fin n)}(h:P.on):(jn P).on:=by
 cases P with
 |inf=>trivial
 |fq x y=>show On x (-y);unfold Pt.on On at *;grobner
theorem nn(y:Fin n): - -y=y:=by grobner
theorem neg_neg(P:Pt (Fin n)):jn (jn P)=P:=by
 cases P with
 |inf=>rfl
 |fq x y=>simp only[jn,nn]
theorem jo{x y1 y2:Fin n}(g:Good n)(h1:On x y1)(h2:On x y2):y1=y2∨y1= -y2:=by
 unfold On at *
 rcases zero_or g (show(y1 -y2)*(y1+y2)=0 by grobner)with h|h
 ·exact .inl (by grobner)
 ·exact .inr (by grobner)
theorem jq{x1 y1 x2 y2:Fin n}(g:Good n)(h1:On x1 y1)(h2:On x2 y2)(hn:¬(x1=x2∧y1= -y2)):∃l,KR x1 y1 x2 y2 l:=by
 by_cases hx:x1=x2
 ·subst hx
  rcases jo g h1 h2 with hy|hy
  ·subst hy
   have hu:=g.inv _ (cH g g.two (ph g h1))
   refine⟨3*x1^2*finv (2*y1),by grobner,?_⟩
   generalize finv (2*y1)=u at *
   grobner
  ·exact absurd ⟨rfl,hy⟩ hn
 · have hu:=g.inv _ (ol hx)
   refine⟨(y2-y1)*finv (x2-x1),?_,?_⟩
   ·generalize finv (x2-x1)=u at *
    grobner
   ·unfold On at *
    generalize finv (x2-x1)=u at *
    refine eq_of g fun w hw=> ?_
    grobner
theorem ek{x1 y1 x2 y2 l:Fin n}(g:Good n)(h1:On x1 y1)(h2:On x2 y2)(hn:¬(x1=x2∧y1= -y2))(s:KR x1 y1 x2 y2 l):
 eB (.fq x1 y1) (.fq x2 y2)= .fq (l^2-x1-x2) (l*(x1-(l^2-x1-x2))-y1):=by
 obtain⟨s1,s2⟩:=s
 by_cases hx:x1=x2
 ·subst hx
  rcases jo g h1 h2 with hy|hy
  ·subst hy
   have hu:=g.inv _ (cH g g.two (ph g h1))
   have e:3*x1^2*finv (2*y1)=l:=by
    generalize finv (2*y1)=u at *
    refine eq_of g fun w hw=> ?_
    grobner
   simp only[eB,if_true]
   unfold wV sU
   rw[e]
   have e1:l^2 -2*x1=l^2-x1-x1:=by grobner
   rw[e1]
  ·exact absurd ⟨rfl,hy⟩ hn
 ·simp only[eB,if_neg hx]
  have hu:=g.inv _ (ol hx)
  have e:(y2-y1)*finv (x2-x1)=l:=by
   generalize finv (x2-x1)=u at *
   refine eq_of g fun w hw=> ?_
   grobner
  unfold Jb Fb
  rw[e]
theorem js{x1 y1 x2 y2:Fin n}(hn:¬(x1=x2∧y1= -y2)):x2 -x1≠0∨y1+y2≠0:=by
 by_cases hx:x1=x2
 ·exact .inr (fun e=>hn ⟨hx,by grobner⟩)
 ·exact .inl (ol hx)
theorem gu(P:Pt (Fin n)):eB P .inf=P:=by cases P<;>rfl
theorem fh(P:Pt (Fin n)):eB .inf P=P:=by cases P<;>rfl
theorem i7(P:Pt (Fin n))(g:Good n)(h:P.on):eB P (jn P)= .inf:=by
 cases P with
 |inf=>rfl
 |fq x y=>
  have hy:=cH g g.two (ph g (show On x y from h))
  simp only[eB,jn,if_true]
  rw[if_neg (fun e=>hy (by grobner))]
theorem eV{x1 y1 x2 y2:Fin n}(g:Good n)(h1:On x1 y1)(h:x1=x2∧y1= -y2):eB (.fq x1 y1) (.fq x2 y2)= .inf:=by
 obtain⟨rfl,rfl⟩:=h
 have :=i7 (.fq x1 (-y2)) g h1
 simp only[jn,nn]at this
 exact this
theorem add_comm{P Q:Pt (Fin n)}(g:Good n)(hP:P.on)(hQ:Q.on):eB P Q=eB Q P:=by
 cases P with
 |inf=>rw[gu,fh]
 |fq x1 y1=>cases Q with
  |inf=>rw[gu,fh]
  |fq x2 y2=>
   by_cases hn:x1=x2∧y1= -y2
   ·rw[eV g hP hn,eV g hQ ⟨hn.1.symm,by rw[hn.2,nn]⟩]
   ·obtain⟨l,s⟩:=jq g hP hQ hn
    have s1:=s.dif
    have s2:=s.sum
    rw[ek g hP hQ hn s,ek g hQ hP (fun h=>hn ⟨h.1.symm,by rw[h.2,nn]⟩) (l:=l) ⟨by grobner,by grobner⟩]
    have e1:l^2-x1-x2=l^2-x2-x1:=by grobner
    rw[e1]
    congr 1
    grobner
theorem k9{P Q:Pt (Fin n)}(g:Good n)(hP:P.on)(hQ:Q.on):eB (eB P Q) (jn Q)=P:=by
 cases Q with
 |inf=>rw[gu];exact gu P
 |fq x2 y2=>cases P with
  |inf=>rw[fh];exact i7 _ g hQ
  |fq x1 y1=>
   by_cases hn:x1=x2∧y1= -y2
   ·rw[eV g hP hn,fh]
    obtain⟨rfl,rfl⟩:=hn
    rfl
   ·obtain⟨l,s⟩:=jq g hP hQ hn
    have hS:=jm g hP hQ
    rw[ek g hP hQ hn s]at hS⊢
    have hs1:=s.dif
    have hs2:=s.sum
    have hy2:=cH g g.two (ph g (show On x2 y2 from hQ))
    have hQ':On x2 (-y2):=iR hQ
    simp only[jn]
    generalize ha:l^2-x1-x2=a at *
    generalize hb:l*(x1-a)-y1=b at *
    have hne:¬(a=x2∧b= - -y2):=by
     rintro⟨e1,e2⟩
     rw[nn]at e2
     exact hy2 (by grobner)
    have hon:On a b:=hS
    rw[ek g hS hQ' hne (l:= -l) ⟨by grobner,by
     have h1:On x1 y1:=hP
     have h2:On x2 y2:=hQ
     unfold On at h1 h2 hon
     rcases js hn with h|h
     · have i:=g.inv _ h
       exact eq_of g fun w hw=>by grobner
     · have i:=g.inv _ h
       exact eq_of g fun w hw=>by grobner⟩]
    have e1:(-l)^2 -a -x2=x1:=by grobner
    rw[e1]
    congr 1
    grobner
end
end Go.Proofs.YtlofddoojkeakaaGreatDoor.Cv
