/- The reference's fill: a message, a one bit, noughts, and its length in some bytes. At blocks of 64 bytes with 8 bytes of length, and at 128 with 16.. -/
import Derived.Test.YtlofddoojkeakaaGreatDoorGA2
set_option maxRecDepth 100000
set_option maxHeartbeats 1000000
set_option linter.unusedVariables false
set_option linter.unusedSimpArgs false
namespace Go.Proofs.YtlofddoojkeakaaGreatDoor
open Go Go.RowKit
def fJ(v:Int):Nat→List Int
 |0=>[]
 |k+1=>fJ v k++[v/256^k%256]
theorem dU(v:Int)(k:Nat):(fJ v k).length=k:=by
 induction k with
 |zero=>rfl
 |succ k ih=>simp[fJ,ih]
theorem vM(v:Int)(k i:Nat)(h:i<k):(fJ v k).getD i 0=v/256^i%256:=by
 induction k with
 |zero=>omega
 |succ k ih=>
  by_cases hi:i<k
  ·rw[←ih hi]
   simp[fJ,List.getD,List.getElem?_append_left,dU,hi]
  ·obtain rfl:i=k:=by omega
   simp[fJ,List.getD,dU]
theorem vN(v:Int)(k i:Nat)(h:i≤k):(fJ v k).take i=fJ v i:=by
 induction k with
 |zero=>obtain rfl:i=0:=by omega
        rfl
 |succ k ih=>
  by_cases hi:i≤k
  ·rw[fJ,List.take_append_of_le_length (by rw[dU];exact hi),ih hi]
  ·obtain rfl:i=k+1:=by omega
   rw[List.take_of_length_le (by rw[dU];omega)]
theorem Ii(v:Int)(k:Nat):v/256^k/256=v/256^(k+1):=by
 rw[Int.pow_succ,Int.ediv_ediv_of_nonneg (Int.pow_nonneg (by decide))]
def bN(size len n:Nat):Nat:=size -1 -(n+len)%size
def dk(size len n:Nat)(low:Bool):List Int:=128::(List.replicate (bN size len n) 0++(if low then fJ (n*8) len else(fJ (n*8) len).reverse))
theorem gX(size len n:Nat)(low:Bool):(dk size len n low).length=1+bN size len n+len:=by
 cases low<;>simp[dk,dU]<;>omega
def lz(z:List Int)(f:Nat)(v:Int)(len:Nat)(low:Bool)(i:Nat):List Int:=z++128::(List.replicate f 0++((if low then fJ v len else(fJ v len).reverse).take i))
theorem BJ(z:List Int)(f:Nat)(v:Int)(len:Nat)(low:Bool):lz z f v len low 0=z++128::List.replicate f 0:=by simp[lz]
theorem BK(z:List Int)(f:Nat)(v:Int)(len:Nat)(low:Bool):lz z f v len low len=z++128::(List.replicate f 0++(if low then fJ v len else(fJ v len).reverse)):=by
 unfold lz
 rw[List.take_of_length_le]
 cases low<;>simp[dU]
theorem Eq(z:List Int)(f:Nat)(v:Int)(len i:Nat)(h:i<len):lz z f v len true i++[v/256^i%256]=lz z f v len true (i+1):=by
 have e:(fJ v len).take (i+1)=(fJ v len).take i++[v/256^i%256]:=by rw[vN _ _ _ (by omega),vN _ _ _ (by omega),fJ]
 simp[lz,e]
theorem BL(z:List Int)(f:Nat)(v:Int)(len i:Nat)(h:i<len):lz z f v len false i++[v/256^(len -1 -i)%256]=lz z f v len false (i+1):=by
 have hl:i<(fJ v len).reverse.length:=by simpa[dU]using h
 have e:(fJ v len).reverse.take (i+1)=(fJ v len).reverse.take i++[v/256^(len -1 -i)%256]:=by
  rw[List.take_succ_eq_append_getElem hl]
  congr 2
  rw[List.getElem_reverse]
  have :=vM v len (len -1 -i) (by omega)
  have hj:len -1 -i<(fJ v len).length:=by rw[dU];omega
  simp only[dU]
  rw[←this]
  simp[List.getD,hj]
 simp[lz,e]
theorem tv(size len:Nat)(hs:size=64∧len=8∨size=128∧len=16)(low:Bool)(v:Value)(n:Nat)(zs:List Int)(w:World)(hr:Rd w 1 v n (zs.map (Value.int .u8)))(hn:n≤70368744177664):
 Calls Tryz.prog 96 #[v,.int .i64 size,.int .i64 len,.bool low] w fun e w' =>∃v',e= .returned v'∧Own w w' v' (n+(1+bN size len n+len)) (zs++dk size len n low):=by
 have hf:bN size len n<size:=by unfold bN;rcases hs with⟨rfl,rfl⟩|⟨rfl,rfl⟩<;>omega
 have hstop:∀j:Nat,j≤bN size len n→(((n:Int)+1+j)%size=(size:Int) -len↔j=bN size len n):=by
  intro j hj
  unfold bN at *
  rcases hs with⟨rfl,rfl⟩|⟨rfl,rfl⟩<;>constructor<;>intro h<;>omega
 have HP:=ae (BJ zs (bN size len n) ((n:Int)*8) len low)
 have HQ:Hid (lz zs (bN size len n) ((n:Int)*8) len low len=zs++dk size len n low):=ae (BK _ _ _ _ _)
 generalize dk size len n low=FL at *
 generalize bN size len n=f at *
 have P2:=ae hstop
 have HR:=ae hr
 have hlr:=hr.1
 have hv:∃a cap,v= .slice a n cap:=by obtain⟨_,a,cap,h,_⟩:=hr;exact⟨a,cap,h⟩
 obtain⟨a,cap,rfl⟩:=hv
 clear hr hstop hlr
 obtain⟨L,hL⟩:∃L,L=len:=⟨_,rfl⟩
 rcases hs with⟨rfl,rfl⟩|⟨rfl,rfl⟩
 all_goals
  go_enter Tryz.func96,Tryz.ntmps96
  go_wp2_with (first |(refine eR rfl _ _ rfl HO.o rfl 1 _ _ rfl (by omega) ?_;clear HO;intro v1 w1 oJ hG1;have HO:=ae oJ;clear oJ hG1)|(refine aO rfl _ _ rfl (Own.made w _) (Keeps.refl _) rfl _ rfl n zs ((HR.o.keeps (Own.made w 5).keeps).src Tryz.underlying44 (ai zs)) (by omega) ?_;intro v1 w1 oJ hG1;have HO:=ae oJ;clear oJ hG1))
  have oJ:=HO.o
  rw[Nat.zero_add,List.nil_append]at oJ
  have Er:=ae oJ
  clear oJ HO
  go_loopw [9] (fun c wr=>∃j:Nat,j≤f∧Own w wr c (n+1+j) (zs++128::List.replicate j 0)) (fun c _=>f+n+1 -Cq c)
  case atStart=>exact⟨0,by omega,by simpa using Er.o⟩
  case round=>
   obtain⟨j,hj,hO⟩:=hrel
   obtain⟨ca,cc,rfl⟩:=hO.any
   have HO:=ae hO
   have hst:=P2.o j hj
   clear hO
   by_cases Ty:j=f
   · have hst':=hst.2 Ty
     subst Ty
     rw[←HP.o]at HO
     clear hst
     obtain⟨wl,hwl⟩:∃wl,wl=wr:=⟨_,rfl⟩
     subst hwl
     go_wp2
     have hx:= ‹(_ !=_)=false›
     rw[hx]
     clear hx hst'
     go_loopw [10,11,12] (fun cn cl ci wr=>∃i:Nat,i≤L∧ci= .int .i64 i∧cn= .int .u64 ((n:Int)*8/256^i)∧Own wl wr cl i (fJ ((n:Int)*8) i)) (fun _ _ ci _=>(L -intOf ci).toNat)
     case atStart=>exact⟨0,by omega,rfl,by simp,Own.nil _⟩
     case round=>
      obtain⟨i,hi,rfl,rfl,Tz⟩:=hrel
      obtain⟨la,lc,rfl⟩:=Tz.any
      have HOL:=ae Tz
      clear Tz
      have hdv:=Ii ((n:Int)*8) i
      have hnn:0≤(n:Int)*8/256^i:=Int.ediv_nonneg (by omega) (Int.pow_nonneg (by decide))
      have hnm:(n:Int)*8/256^i≤(n:Int)*8:=Int.ediv_le_self _ (by omega)
      have xB:Hid (fJ ((n:Int)*8) (i+1)=fJ ((n:Int)*8) i++[(n:Int)*8/256^i%256]):=ae rfl
      by_cases hlt:i<L
      ·generalize(n:Int)*8/256^i=x at *
       go_wp2_with (refine eR rfl _ _ rfl HOL.o rfl 1 _ _ rfl (by omega) ?_;clear HOL;intro v1 w1 oJ hG1;have HOL:=ae oJ;clear oJ hG1)
       go_roundw
       case rel=>exact⟨i+1,by omega,by go_num,by rw[hdv],by rw[xB.o];exact HOL.o⟩
       case measure=>simp[intOf];omega
      ·obtain rfl:i=L:=by omega
       have hap:Apart wr (.slice la i lc) (.slice ca (n+1+j) cc):=fun g e=>⟨HOL.o.buf.lt e,fun e2=>by have h1:=HOL.o.new g e;have h2:=HO.o.buf.lt e2;omega⟩
       have hrl:=HOL.o.rd
       have hO3:=HO.o.step HOL.o.keeps
       have Fx:=ae hrl;have xT:=ae hap;have P3:=ae hO3
       have hlb:=dU ((n:Int)*8) i
       have Vd:=ae (vM ((n:Int)*8) i)
       clear hrl hap hO3 HO HOL hdv hnn hnm xB
       go_wp2
       have HL:=ae hL
       clear hL
       generalize Value.int .i64 (i:Int)=vi
       generalize Value.int .u64 ((n:Int)*8/256^i)=vx
       go_loopw [9,13] (fun cv ci wr=>∃k:Nat,k≤i∧ci= .int .i64 k∧Own w wr cv (n+1+j+k) (lz zs j ((n:Int)*8) i low k)∧Rd wr 1 (.slice la i lc) i ((fJ ((n:Int)*8) i).map (Value.int .u8))∧Apart wr (.slice la i lc) cv) (fun _ ci _=>(i -intOf ci).toNat)
       case atStart=>exact⟨0,by omega,rfl,by rw[HL.o];exact P3.o,Fx.o,xT.o⟩
       case round=>
        obtain⟨k,hk,rfl,hO,hR,hA⟩:=hrel
        obtain⟨oa,oc,rfl⟩:=hO.any
        by_cases hlt2:k<i
        ·obtain⟨g,off,hla,hg,hrow⟩:=(show∃g off,la=some ⟨g,off,none⟩∧g<wr.heap.size∧Row wr g off ((fJ ((n:Int)*8) i).map (Value.int .u8))from by
          obtain⟨_,a',c',e,_,_,h4,h5⟩:=hR
          cases e
          cases la with
          |none=>have :=(h4 rfl).1;omega
          |some ad=>obtain⟨g,off,e2,e3,e4⟩:=h5 ad rfl (by omega);exact⟨g,off,by rw[e2],e3,e4⟩)
         subst hla
         have c1:=hrow.int k (by omega)
         have c2:=hrow.int (i -1 -k) (by omega)
         rw[Vd.o k hlt2]at c1
         rw[Vd.o (i -1 -k) (by omega)]at c2
         first
          |rw[show i -1 -k=7 -k by have :=HL.o;omega]at c2
          |rw[show i -1 -k=15 -k by have :=HL.o;omega]at c2
         have HO:=ae hO;have ej:=ae hR;have HA:=ae hA
         clear hO hR hA hrow
         first
          |(have hk8:(k:Int)<8:=by have :=HL.o;omega
            have hk9:(7:Int) -k<i:=by have :=HL.o;omega
            have Fa:(0:Int)≤7 -k:=by omega)
          |(have hk8:(k:Int)<16:=by have :=HL.o;omega
            have hk9:(15:Int) -k<i:=by have :=HL.o;omega
            have Fa:(0:Int)≤15 -k:=by omega)
         cases low
         · have HS:=ae (BL zs j ((n:Int)*8) i k hlt2)
           first
            |rw[show i -1 -k=7 -k by have :=HL.o;omega]at HS
            |rw[show i -1 -k=15 -k by have :=HL.o;omega]at HS
           go_wp2_with (refine eR rfl _ _ rfl HO.o rfl 1 _ _ rfl (by omega) ?_;clear HO;intro v1 w1 oJ hG1;have HO:=ae oJ;have iP:=ae hG1;clear oJ hG1)
           go_roundw
           case rel=>exact⟨k+1,by omega,by go_num,by rw[←HS.o];exact HO.o,ej.o.grown HA.o iP.o,HA.o.grown iP.o⟩
           case measure=>simp[intOf];omega
         · have HS:=ae (Eq zs j ((n:Int)*8) i k hlt2)
           go_wp2_with (refine eR rfl _ _ rfl HO.o rfl 1 _ _ rfl (by omega) ?_;clear HO;intro v1 w1 oJ hG1;have HO:=ae oJ;have iP:=ae hG1;clear oJ hG1)
           go_roundw
           case rel=>exact⟨k+1,by omega,by go_num,by rw[←HS.o];exact HO.o,ej.o.grown HA.o iP.o,HA.o.grown iP.o⟩
           case measure=>simp[intOf];omega
        ·obtain rfl:k=i:=by omega
         first
          |(have hk8:¬(k:Int)<16:=by have :=HL.o;omega)
          |(have hk8:¬(k:Int)<8:=by have :=HL.o;omega)
         have HO:=ae hO
         clear hO hR hA
         go_wp2
         go_ret
         refine⟨_,rfl,?_⟩
         have :=HO.o
         have hL:=HL.o
         subst hL
         rw[HQ.o]at this
         simpa[Nat.add_assoc]using this
   · have hst':¬_:=fun h=>Ty (hst.1 h)
     first
      |(have hst2:((n:Int)+1+j)%64≠56:=by omega)
      |(have hst2:((n:Int)+1+j)%128≠112:=by omega)
     clear hst hst'
     go_wp2_with (refine eR rfl _ _ rfl HO.o rfl 1 _ _ rfl (by omega) ?_;clear HO;intro v1 w1 oJ hG1;have HO:=ae oJ;clear oJ hG1)
     go_roundw
     case rel=>exact⟨j+1,by omega,by have :=HO.o;simpa[List.replicate_succ',Nat.add_assoc]using this⟩
     case measure=>obtain⟨a',c',rfl⟩:=HO.o.any;simp[Cq];omega
end Go.Proofs.YtlofddoojkeakaaGreatDoor
