/- The reference's Lift. -/
import Derived.Test.YtlofddoojkeakaaGreatDoorGC2
import Derived.Test.YtlofddoojkeakaaGreatDoorGB0
set_option maxRecDepth 100000
set_option maxHeartbeats 8000000
set_option linter.unusedVariables false
set_option linter.unusedSimpArgs false
namespace Go.Proofs.YtlofddoojkeakaaGreatDoor
open Go Go.RowKit Cv
structure tq (C:Int) (k:Nat) (L:List Int) (c:Int):Prop where
 len:L.length=8
 dg:dj 4294967296 L
 cc:c=0∨c=1
 val:val 4294967296 L+c*4294967296^k=C
theorem tq.step {C:Int}{k:Nat}{L:List Int}{c c' t':Int}(h:tq C k L c)(hk:k<8)(h0:0≤t')(h1:t' <4294967296)(h2:c' =0∨c' =1)
 (e:t' +4294967296*c' =L.getD k 0+c):tq C (k+1) (L.set k t') c':=
 ⟨by rw[List.length_set];exact h.len,h.dg.set _ h0 h1,h2,mA (by rw[h.len];omega) h.val e⟩
theorem tq.done {C:Int}{L:List Int}{c:Int}(h:tq C 8 L c)(hC:C<115792089237316195423570985008687907853269984665640564039457584007913129639936):L=ax C:=by
 have h0:c=0:=sC (B:=4294967296) (by decide) h.dg (by have :=h.cc;omega) h.val (by rw[fe];exact hC)
 have hv:=h.val
 rw[h0,Int.zero_mul,Int.add_zero]at hv
 rw[←hv]
 exact k3 h.dg h.len
theorem Bv{x:Int}(h:cg x)(i:Nat)(hi:i<8):(ax x).getD i 0/2+(if i<7 then(ax x).getD (i+1) 0%2 else 0)*2147483648=(ax (x/2)).getD i 0:=by
 have h0:=h.1;have h1:=h.2
 rw[cr _ _ hi,cr _ _ hi]
 have hc:i=0∨i=1∨i=2∨i=3∨i=4∨i=5∨i=6∨i=7:=by omega
 rcases hc with rfl|rfl|rfl|rfl|rfl|rfl|rfl|rfl
 all_goals first |rw[if_pos (by decide),cr _ _ (by decide)]|rw[if_neg (by decide)]
 all_goals simp only[Int.reducePow,Nat.reduceAdd,Int.pow_zero,Int.ediv_one]
 all_goals omega
def pv(w wr:World)(p g1 g2 g3:Nat)(X M S E:List Int)(Z:List Value):Prop:=Keeps w wr∧Row wr p 0 (X.map (Value.int .u32))∧Row wr (p+1) 0 Z∧Row wr g1 0 (M.map (Value.int .u32))∧Row wr g2 0 (S.map (Value.int .u32))∧Row wr g3 0 (E.map (Value.int .u32))∧p+1<g1∧g1<g2∧g2<g3∧g3<wr.heap.size
theorem pv.keeps {w wr w':World}{p g1 g2 g3:Nat}{X M S E:List Int}{Z:List Value}(h:pv w wr p g1 g2 g3 X M S E Z)(hk:Keeps wr w'):pv w w' p g1 g2 g3 X M S E Z:=
 ⟨h.1.trans hk,h.2.1.keeps hk,h.2.2.1.keeps hk,h.2.2.2.1.keeps hk,h.2.2.2.2.1.keeps hk,h.2.2.2.2.2.1.keeps hk,h.2.2.2.2.2.2.1,h.2.2.2.2.2.2.2.1,h.2.2.2.2.2.2.2.2.1,Nat.lt_of_lt_of_le h.2.2.2.2.2.2.2.2.2 hk.size⟩
theorem pv.set {w wr:World}{p g1 g2 g3:Nat}{X M S E:List Int}{Z:List Value}(h:pv w wr p g1 g2 g3 X M S E Z)(hp:w.heap.size≤p){i:Nat}(hi:i<E.length)(t:Int):pv w (wr.setCell ⟨g3,i,none⟩ (.int .u32 t)) p g1 g2 g3 X M S (E.set i t) Z:=
 have o:=h.2.2.2.2.2.2
 ⟨b9 h.1 (show w.heap.size≤g3 by omega) _,h.2.1.other (show p≠g3 by omega) _,h.2.2.1.other (show p+1≠g3 by omega) _,h.2.2.2.1.other (show g1≠g3 by omega) _,h.2.2.2.2.1.other (show g2≠g3 by omega) _,h.2.2.2.2.2.1.bl i hi t,o.1,o.2.1,o.2.2.1,by simpa using o.2.2.2⟩
theorem pv.aG {w wr w':World}{p g1 g2 g3 n:Nat}{X M S E:List Int}{Z:List Value}(h:pv w wr p g1 g2 g3 X M S E Z)(hc:bU (· =n) wr w')(hp:w.heap.size≤p)(hn:g3<n):pv w w' p g1 g2 g3 X M S E Z:=
 have o:=h.2.2.2.2.2.2
 ⟨ag h.1 hc (by omega),h.2.1.aG hc (by omega),h.2.2.1.aG hc (by omega),h.2.2.2.1.aG hc (by omega),h.2.2.2.2.1.aG hc (by omega),h.2.2.2.2.2.1.aG hc (by omega),o.1,o.2.1,o.2.2.1,Nat.lt_of_lt_of_le o.2.2.2 hc.size⟩
def eG:List Int:=List.replicate 24 0
theorem Bw(X C1 C2 S SV M RO Y YY ONE NY RT:List Int)(od d:Bool)(lX:X.length=8)(lS:S.length=8)(Tf:SV.length=8)(lM:M.length=8)(lY:Y.length=8)(uF:ONE.length=8)(JS:NY.length=8)(UX:M=ax PV)(UY:RO=ax ((PV+1)/2/2))(hy0:0≤Y.getD 0 0∧Y.getD 0 0<4294967296)(w:World)
 (G7:Tryz.prog.built 67 [(0,.int .u32 7)]=some (SV.map (Value.int .u32)).toArray) (hB1:Tryz.prog.built 67 [(0,.int .u32 1)]=some (ONE.map (Value.int .u32)).toArray)
 (hP:∀W,Calls Tryz.prog 69 #[] W fun e w' =>e= .returned (.agg (M.map (Value.int .u32)).toArray)∧Keeps W w')
 (G8:∀W,Calls Tryz.prog 101 #[.agg (X.map (Value.int .u32)).toArray,.agg (X.map (Value.int .u32)).toArray,.agg (M.map (Value.int .u32)).toArray] W fun e w' =>e= .returned (.agg (C1.map (Value.int .u32)).toArray)∧Keeps W w')
 (hC2:∀W,Calls Tryz.prog 101 #[.agg (C1.map (Value.int .u32)).toArray,.agg (X.map (Value.int .u32)).toArray,.agg (M.map (Value.int .u32)).toArray] W fun e w' =>e= .returned (.agg (C2.map (Value.int .u32)).toArray)∧Keeps W w')
 (G9:∀W,Calls Tryz.prog 63 #[.agg (C2.map (Value.int .u32)).toArray,.agg (SV.map (Value.int .u32)).toArray,.agg (M.map (Value.int .u32)).toArray] W fun e w' =>e= .returned (.agg (S.map (Value.int .u32)).toArray)∧Keeps W w')
 (Ha:∀W,Calls Tryz.prog 106 #[.agg (S.map (Value.int .u32)).toArray,.agg (RO.map (Value.int .u32)).toArray,.agg (M.map (Value.int .u32)).toArray] W fun e w' =>e= .returned (.agg (Y.map (Value.int .u32)).toArray)∧Keeps W w')
 (Hb:∀W,Calls Tryz.prog 101 #[.agg (Y.map (Value.int .u32)).toArray,.agg (Y.map (Value.int .u32)).toArray,.agg (M.map (Value.int .u32)).toArray] W fun e w' =>e= .returned (.agg (YY.map (Value.int .u32)).toArray)∧Keeps W w')
 (Py:∀W,Calls Tryz.prog 102 #[.agg #[.int .u32 0,.int .u32 0,.int .u32 0,.int .u32 0,.int .u32 0,.int .u32 0,.int .u32 0,.int .u32 0],.agg (Y.map (Value.int .u32)).toArray,.agg (M.map (Value.int .u32)).toArray] W fun e w' =>e= .returned (.agg (NY.map (Value.int .u32)).toArray)∧Keeps W w')
 (q:Bool) (hE:∀W,(Op.equalIn 10000 67 (.agg (YY.map (Value.int .u32)).toArray) (.agg (S.map (Value.int .u32)).toArray)).run Tryz.prog W= .ok q W)
 (hcase:(q=false∧RT=eG∧d=false)∨(q=true∧(Y.getD 0 0%2==1)=od∧RT=X++Y++ONE∧d=true)∨(q=true∧(Y.getD 0 0%2==1)= !od∧RT=X++NY++ONE∧d=true)):
 Calls Tryz.prog 70 #[.agg (X.map (Value.int .u32)).toArray,.bool od] w fun e w' =>e= .returned (.tuple #[.agg (RT.map (Value.int .u32)).toArray,.bool d])∧Keeps w w':=by
 have JL:=ae G7;have HB1:=ae hB1;have HP:=ae hP;have dT:=ae G8;have HC2:=ae hC2;have fT:=ae G9;have K7:=ae Ha;have Je:=ae Hb;have Tg:=ae Py;have HE:=ae hE;have iI:=ae hcase;have UZ:=ae UX;have xS:=ae UY
 clear G7 hB1 hP G8 hC2 G9 Ha Hb Py hE hcase UX UY
 go_enter Tryz.func70,Tryz.ntmps70
 go_upto_region 1 with(fail)
 refine bu (fun W hk hra hrb hs=> ?_)
 obtain⟨p,hp⟩:∃p,p=w.heap.size:=⟨_,rfl⟩
 rw[←hp]at hra hrb hs⊢
 have hkp:w.heap.size≤p:=by omega
 obtain⟨Zr,du,hrz⟩:∃Zr:List Value,Zr.length=24∧Row W (p+1) 0 Zr:=⟨_,rfl,hrb⟩
 have bB:=ae (show Row W p 0 (X.map (Value.int .u32))from hra)
 have aA:=ae hk;have ap:=ae hrz
 have hps:p+1<W.heap.size:=by omega
 clear hp hra hrb hrz hk hs
 go_upto_region 2 with(first |(go_at_call 69;refine(HP.o _).mono ?_;rintro e V1 ⟨rfl,hk1⟩;have aH:=ae hk1;clear hk1)|((with_reducible refine aY 67 (.tmp 6) (.tmp 15) ?_);refine ws (g:=V1.heap.size) (olds:=cD) (Row.new _ _ _ rfl) lM rfl (h:= ?_);intro W2 hr2 hc2;have dK:=ae hr2;have aq:=ae (ag (ah aH.o _) hc2 aH.o.size);clear hr2 hc2))
 have hlt1:p+1<V1.heap.size:=Nat.lt_of_lt_of_le hps aH.o.size
 generalize V1.heap.size=g1 at *
 have hsz1:g1<W2.heap.size:=dK.o.lt (aM lM)
 have bB:=ae (bB.o.keeps aq.o)
 have ap:=ae (ap.o.keeps aq.o)
 have aA:=ae (aA.o.trans aq.o)
 refine au 11 [10] [0,1,2,3,4,5,6,7,8,9] (fun _=>cD) (by kernel_rfl) (by kernel_rfl) (by intro i hi;simp only[List.mem_cons,List.not_mem_nil,or_false]at hi;(first |(rcases hi with rfl|rfl)|subst hi)<;>exact⟨_,rfl,gB rfl rfl⟩) ?_
 refine kl (fun wS hS=>(bB.o.keeps hS)) lX (h:= ?_)
 refine kl (fun wS hS=>(bB.o.keeps hS)) lX (h:= ?_)
 refine kl (fun wS hS=>(dK.o.keeps hS)) lM (h:= ?_)
 refine kc (hc:=by exact fun wS hS=>dT.o wS) (h:= ?_)
 refine kl (fun wS hS=>(bB.o.keeps hS)) lX (h:= ?_)
 refine kl (fun wS hS=>(dK.o.keeps hS)) lM (h:= ?_)
 refine kc (hc:=by exact fun wS hS=>HC2.o wS) (h:= ?_)
 refine kp (hx:=by intro wS hS;(refine cR 67 [(0,.const (.int .u32 7))] ?_ _ ?_ _ JL.o)<;>rfl) (h:= ?_)
 refine kl (fun wS hS=>(dK.o.keeps hS)) lM (h:= ?_)
 refine kc (hc:=by exact fun wS hS=>fT.o wS) (h:= ?_)
 refine aI ?_
 intro GG V1 hk1 hG
 obtain⟨iu,iH,hd10⟩:=hG 10 (by simp)
 clear hd10
 simp only[aZ,br,ct,kD,kG,kP,Option.bind_some]
 generalize GG 10=g2 at *
 clear hG
 have lI:=ae iH
 have hlt2:g1<g2:=Nat.lt_of_lt_of_le hsz1 iu
 have PD:W2.heap.size≤g2:=iu
 clear iH iu
 have aH:=ae hk1;clear hk1
 go_upto_region 3 with(first |((with_reducible refine aY 67 (.tmp 7) (.tmp 25) ?_);refine ws (g:=_) (olds:=cD) lI.o lS rfl (h:= ?_);intro W3 hr2 hc2;have gQ:=ae hr2;have bS:=ae (ag aH.o hc2 PD);clear hr2 hc2))
 have hsz2:g2<W3.heap.size:=gQ.o.lt (aM lS)
 have bB:=ae (bB.o.keeps bS.o)
 have dK:=ae (dK.o.keeps bS.o)
 have ap:=ae (ap.o.keeps bS.o)
 have aA:=ae (aA.o.trans bS.o)
 have sI:=ae (Keeps.refl W3)
 clear bS aq aH lI PD
 go_upto_region 4 with(first |((with_reducible refine aQ 67 (.tmp 6) ?_);refine wl dK.o lM (h:= ?_))|((with_reducible refine aY 67 (.tmp 8) (.tmp 26) ?_);refine ws (g:=W3.heap.size) (olds:=cD) (Row.new _ _ _ rfl) lM rfl (h:= ?_);intro W4 hr2 hc2;have ME:=ae hr2;have gR:=ae (ag (ah sI.o _) hc2 sI.o.size);clear hr2 hc2))
 have hlt3:=hsz2
 generalize W3.heap.size=g3 at *
 have LG:=ae (show pv w W4 p g1 g2 g3 X M S M Zr from⟨aA.o.trans gR.o,bB.o.keeps gR.o,ap.o.keeps gR.o,dK.o.keeps gR.o,gQ.o.keeps gR.o,ME.o,hlt1,hlt2,hlt3,ME.o.lt (aM lM)⟩)
 have HI0:=ae (show tq (PV+1) 0 M 1 from⟨lM,by rw[UZ.o];exact yq _,.inr rfl,by rw[UZ.o,sD,Int.pow_zero];decide⟩)
 clear bB dK ap gQ ME aA gR sI hsz1 hsz2 hps
 go_wp2
 go_loopw [9,10,11] (fun cc c _ wr=>∃(i:Nat) (L:List Int) (cv:Int),i≤8∧c= .int .i64 i∧cc= .int .u32 cv∧Hid (tq (PV+1) i L cv)∧Hid (pv w wr p g1 g2 g3 X M S L Zr)) (fun _ c _ _=>(8 -intOf c).toNat)
 case atStart=>exact⟨0,_,1,by omega,rfl,rfl,HI0,LG⟩
 case round=>
  obtain⟨i,L,cv,hi,rfl,rfl,HI,bV⟩:=hrel
  have hL:=HI.o.len
  by_cases hlt:i<8
  · have cl:=bV.o.2.2.2.2.2.1.aT i (by omega)
    have fl:=bV.o.2.2.2.2.2.1.bR i (by rw[aF];omega)
    have ht:=HI.o.dg.getD (i:=i) (by omega)
    have hcv:=HI.o.cc
    have HST:=ae (fun c' t' =>HI.o.step (c':=c') (t':=t') hlt)
    have bx:=ae (fun t=>bV.o.set hkp (i:=i) (by omega) t)
    generalize L.getD i 0=t at *
    clear bV hL
    by_cases hov:t+cv<4294967296
    · have ik:=ae (HST.o 0 (t+cv) (by omega) hov (.inl rfl) (by omega))
      have bx:=ae (bx.o (t+cv))
      have hw:IntKind.u32.wrap (t+cv)=t+cv:=by rw[IntKind.wrap_u32];omega
      have hge:t≤t+cv:=by omega
      have hc2:=World.cell?_setCell_same wr ⟨g3,i,none⟩ (.int .u32 (t+cv)) cl
      go_wp2
      go_roundw
      case rel=>exact⟨i+1,_,0,by omega,by go_num,by first |rfl|go_num,ik,bx⟩
      case measure=>simp[intOf];omega
    ·obtain⟨h1,h2⟩:t=4294967295∧cv=1:=by omega
     subst h1;subst h2
     have ik:=ae (HST.o 1 0 (by omega) (by omega) (.inr rfl) (by omega))
     have bx:=ae (bx.o 0)
     have hc2:=World.cell?_setCell_same wr ⟨g3,i,none⟩ (.int .u32 0) cl
     go_wp2
     go_roundw
     case rel=>exact⟨i+1,_,1,by omega,by go_num,by first |rfl|go_num,ik,bx⟩
     case measure=>simp[intOf];omega
  ·obtain rfl:i=8:=by omega
   obtain rfl:=HI.o.done (by decide)
   have WJ:=ae (show cg (PV+1)from⟨by decide,by decide⟩)
   clear HI hL
   go_wp2
   go_loopw [12,13] (fun c _ wr=>∃(k:Nat) (V:Int),k≤2∧c= .int .i64 k∧Hid (cg V)∧Hid (V=(PV+1)/2^k)∧Hid (pv w wr p g1 g2 g3 X M S (ax V) Zr)) (fun c _ _=>(2 -intOf c).toNat)
   case atStart=>exact⟨0,_,by omega,rfl,WJ,ae (by rw[Int.pow_zero,Int.ediv_one]),bV⟩
   case round=>
    obtain⟨k,V,hk2,rfl,HU,HV,bV⟩:=hrel
    by_cases hltk:k<2
    · have WK:=ae (fun i hi=>Bv HU.o i hi)
      have U0:=ae (cS V)
      have hwl:=am V
      have WM:=am (V/2)
      have RA:=ae (show cg (V/2)∧V/2=(PV+1)/2^(k+1)from⟨⟨by have :=HU.o.1;omega,by have :=HU.o.2;omega⟩,by rw[HV.o,Int.pow_succ,Int.ediv_ediv_of_nonneg (Int.le_of_lt (Int.pow_pos (by decide)))]⟩)
      generalize WN:ax V=L at *
      generalize U1:ax (V/2)=H at *
      have U2:=ae U1
      clear WN U1
      go_wp2
      go_loopw [13] (fun c wr=>∃(i:Nat),i≤8∧c= .int .i64 i∧Hid (pv w wr p g1 g2 g3 X M S (gN H L i) Zr)) (fun c _=>(8 -intOf c).toNat)
      case atStart=>exact⟨0,by omega,rfl,by rw[qg];exact bV⟩
      case round=>
       obtain⟨i,hi,rfl,bV⟩:=hrel
       have iz:(gN H L i).length=8:=by rw[jL (by omega) (by omega)];exact hwl
       by_cases hlt:i<8
       · have cl:=bV.o.2.2.2.2.2.1.aT i (by omega)
         have fl:=bV.o.2.2.2.2.2.1.bR i (by rw[aF];omega)
         rw[vg (by omega) i (by omega) (by omega)]at cl
         have hst:=WK.o i hlt
         have hr:=U0.o i hlt
         have ht2:(L.getD i 0).tdiv 2=L.getD i 0/2:=Int.tdiv_eq_ediv_of_nonneg hr.1
         have bx:=ae (fun t=>bV.o.set hkp (i:=i) (by omega) t)
         by_cases h7:i<7
         · have Yv:(i:Int)<7:=by omega
           have cn:=bV.o.2.2.2.2.2.1.aT (i+1) (by omega)
           rw[vg (by omega) (i+1) (by omega) (by omega)]at cn
           have hr2:=U0.o (i+1) (by omega)
           have ht3:(L.getD (i+1) 0).tmod 2=L.getD (i+1) 0%2:=Int.tmod_eq_emod_of_nonneg hr2.1
           rw[if_pos h7]at hst
           have jX:=ae (show∀t,t=H.getD i 0→(gN H L i).set i t=gN H L (i+1)from fun t ht=>by rw[ht];exact o9 (by omega) (by omega))
           rw[←hst]at jX
           clear hst
           generalize L.getD i 0=t at *
           generalize L.getD (i+1) 0=t2 at *
           by_cases hodd:t2%2=1
           · have HS2:=ae (show pv w ((wr.setCell ⟨g3,i,none⟩ (.int .u32 (t/2))).setCell ⟨g3,i,none⟩ (.int .u32 (t/2+2147483648))) p g1 g2 g3 X M S ((gN H L i).set i (t/2+2147483648)) Zr by have :=(bx.o (t/2)).set hkp (i:=i) (by rw[List.length_set];omega) (t/2+2147483648);rwa[List.set_set]at this)
             have HF2:=ae (jX.o (t/2+2147483648) (by omega))
             have hw:IntKind.u32.wrap (t/2+2147483648)=t/2+2147483648:=by rw[IntKind.wrap_u32];omega
             have hc1:=World.cell?_setCell_same wr ⟨g3,i,none⟩ (.int .u32 (t/2)) cl
             have hn1:(wr.setCell ⟨g3,i,none⟩ (.int .u32 (t/2))).cell? ⟨g3,i+1,none⟩=some (.int .u32 t2):=by
              rw[World.cell?_setCell_other _ _ _ _ (by intro e;have :=congrArg Addr.off e;simp at this)];exact cn
             clear bV
             go_wp2
             go_roundw
             case rel=>first |exact⟨i+1,by omega,by go_num,by rw[←HF2.o];exact HS2⟩|((repeat apply Exists.intro);focus(refine⟨?_,rfl⟩;exact⟨i+1,by omega,by go_num,by rw[←HF2.o];exact HS2⟩))
             case measure=>simp[intOf];omega
           · have hne:¬t2%2=1:=hodd
             have Fh:(t2%2==1)=false:=by simpa using hodd
             have HS2:=ae (bx.o (t/2))
             have HF2:=ae (jX.o (t/2) (by omega))
             have hn1:(wr.setCell ⟨g3,i,none⟩ (.int .u32 (t/2))).cell? ⟨g3,i+1,none⟩=some (.int .u32 t2):=by
              rw[World.cell?_setCell_other _ _ _ _ (by intro e;have :=congrArg Addr.off e;simp at this)];exact cn
             clear bV
             go_wp2
             go_roundw
             case rel=>first |exact⟨i+1,by omega,by go_num,by rw[←HF2.o];exact HS2⟩|((repeat apply Exists.intro);focus(refine⟨?_,rfl⟩;exact⟨i+1,by omega,by go_num,by rw[←HF2.o];exact HS2⟩))
             case measure=>simp[intOf];omega
         ·obtain rfl:i=7:=by omega
          rw[if_neg (by decide)]at hst
          have jX:=ae (show∀t,t=H.getD 7 0→(gN H L 7).set 7 t=gN H L 8 from fun t ht=>by rw[ht];exact o9 (by omega) (by omega))
          rw[←hst]at jX
          clear hst
          generalize L.getD 7 0=t at *
          have HS2:=ae (bx.o (t/2))
          have HF2:=ae (jX.o (t/2) (by omega))
          clear bV
          go_wp2
          go_roundw
          case rel=>first |exact⟨8,by omega,by go_num,by rw[←HF2.o];exact HS2⟩|((repeat apply Exists.intro);focus(refine⟨?_,rfl⟩;exact⟨8,by omega,by go_num,by rw[←HF2.o];exact HS2⟩))
          case measure=>simp[intOf]
       ·obtain rfl:i=8:=by omega
        have hmx:gN H L 8=H:=by unfold gN;rw[List.take_of_length_le (by omega),List.drop_eq_nil_of_le (by omega),List.append_nil]
        rw[hmx]at bV
        clear hmx iz
        go_wp2
        go_roundw
        case rel=>first |exact⟨k+1,V/2,by omega,by go_num,ae RA.o.1,ae RA.o.2,by rw[U2.o];exact bV⟩|((repeat apply Exists.intro);focus(refine⟨?_,rfl⟩;exact⟨k+1,V/2,by omega,by go_num,ae RA.o.1,ae RA.o.2,by rw[U2.o];exact bV⟩))
        case measure=>simp[intOf];omega
    ·obtain rfl:k=2:=by omega
     obtain rfl:V=(PV+1)/2/2:=by rw[HV.o];decide
     rw[←xS.o]at bV
     have CX:RO.length=8:=by rw[xS.o];exact am _
     have WO:=ae CX
     clear CX HU HV
     have PE:=ae bV.o.2.2.2.2.1;have PF:=ae bV.o.2.2.2.1;have PG:=ae bV.o.2.2.2.2.2.1
     go_upto_region 22 with(first |((with_reducible refine aQ 67 (.tmp 7) ?_);refine wl PE.o lS (h:= ?_))|((with_reducible refine aQ 67 (.tmp 8) ?_);refine aj rfl 67 (.tmp 8) rfl _ 0 rfl (RO.map (Value.int .u32)) _ PG.o Tryz.underlying67 rfl (by rw[aF,WO.o];exact bm) ?_)|((with_reducible refine aQ 67 (.tmp 6) ?_);refine wl PF.o lM (h:= ?_))|(go_at_call 106;refine(K7.o _).mono ?_;rintro e V5 ⟨rfl,hk1⟩;have HV5:=ae hk1;clear hk1)|((with_reducible refine aY 67 (.tmp 14) (.tmp 79) ?_);refine ws (g:=V5.heap.size) (olds:=cD) (Row.new _ _ _ rfl) lY rfl (h:= ?_);intro W6 hr2 hc2;have cE:=ae hr2;have iY:=ae (ag (ah HV5.o _) hc2 HV5.o.size);clear hr2 hc2))
     have hlt4:g3<V5.heap.size:=Nat.lt_of_lt_of_le bV.o.2.2.2.2.2.2.2.2.2 HV5.o.size
     generalize V5.heap.size=g4 at *
     have bV:=ae (bV.o.keeps iY.o)
     clear PE PF PG iY HV5
     refine au 5 [] [0,1,2,3,4] (fun _=>cD) (by kernel_rfl) (by kernel_rfl) (by intro i hi;cases hi) ?_
     refine kl (fun wS hS=>(cE.o.keeps hS)) lY (h:= ?_)
     refine kl (fun wS hS=>(cE.o.keeps hS)) lY (h:= ?_)
     refine kl (fun wS hS=>(bV.o.2.2.2.1.keeps hS)) lM (h:= ?_)
     refine kc (hc:=by exact fun wS hS=>Je.o wS) (h:= ?_)
     refine kl (fun wS hS=>(bV.o.2.2.2.2.1.keeps hS)) lS (h:= ?_)
     refine aI ?_
     intro GG V7 hk1 hG
     clear hG
     simp only[aZ,br,ct,kD,kG,kP,Option.bind_some]
     have bV:=ae (bV.o.keeps hk1)
     have cE:=ae (cE.o.keeps hk1)
     clear hk1
     rcases iI.o with⟨rfl,rfl,rfl⟩|⟨rfl,hpar,qm,rfl⟩|⟨rfl,hpar,qm,rfl⟩
     · go_wp2_with (first |(refine qv (by kernel_rfl) 67 67 (.tmp 83) (.tmp 84) rfl _ _ rfl rfl false HE.o (by kernel_rfl) ?_)|((with_reducible refine aY 70 (.tmp 4) (.tmp 86) ?_);refine wpList_store_row rfl 70 (.tmp 4) (.tmp 86) rfl (p+1) 0 rfl Zr (eG.map (Value.int .u32)) rfl bV.o.2.2.1 (by rw[du];rfl) dn (ai _) ?_;intro w9 aR aJ;have H9:=ae aR;have bK:=ae aJ;clear aR aJ))
       exact bodyPost_ret (al (p:=4) (t:=5) (ty:=70) rfl _ _ (p+1) 0 _ _ _ rfl rfl H9.o Tryz.underlying70 rfl dn) rfl ⟨rfl,ag bV.o.1 bK.o (by omega)⟩
     · have ro:RT.length=24:=by rw[qm];exact lf lX lY uF
       have qp:=qk lX lY uF
       rw[←qm]at qp
       have DY:=ae qp
       have MF:=ae ro
       have cy:=cE.o.aT 0 (by omega)
       have ht:(Y.getD 0 0).tmod 2=Y.getD 0 0%2:=Int.tmod_eq_emod_of_nonneg hy0.1
       clear qp qm ro
       generalize Y.getD 0 0=y0 at *
       cases od
       all_goals
        go_upto_region 24 with(first |(refine qv (by kernel_rfl) 67 67 (.tmp 83) (.tmp 84) rfl _ _ rfl rfl true HE.o (by kernel_rfl) ?_))
        go_upto_region 26 with(fail)
        go_wp2_with (first |((with_reducible refine aQ 67 (.tmp 2) ?_);refine wl bV.o.2.1 lX (h:= ?_))|((with_reducible refine aQ 67 (.tmp 14) ?_);refine wl cE.o lY (h:= ?_))|((with_reducible refine ji 67 _ ?_);refine aW (by kernel_rfl) 67 _ rfl _ ?_ _ HB1.o ?_;focus(simp only[List.map_toArray,List.map_cons,List.map_nil];rfl))|((with_reducible refine ji 70 _ ?_);refine aW (by kernel_rfl) 70 _ rfl _ ?_ _ DY.o ?_;focus(simp only[List.map_toArray,List.map_cons,List.map_nil];rfl))|((with_reducible refine aY 70 (.tmp 4) (.tmp 100) ?_);refine wpList_store_row rfl 70 (.tmp 4) (.tmp 100) rfl (p+1) 0 rfl Zr (RT.map (Value.int .u32)) rfl bV.o.2.2.1 (by rw[aF,MF.o,du]) (by rw[aF,MF.o];exact dn) (ai _) ?_;intro w9 aR aJ;have H9:=ae aR;have bK:=ae aJ;clear aR aJ))
        exact bodyPost_ret (al (p:=4) (t:=5) (ty:=70) rfl _ _ (p+1) 0 _ _ _ rfl rfl H9.o Tryz.underlying70 rfl (by rw[aF,MF.o];exact dn)) rfl ⟨rfl,ag bV.o.1 bK.o (by omega)⟩
     · have ro:RT.length=24:=by rw[qm];exact lf lX JS uF
       have qp:=qk lX JS uF
       rw[←qm]at qp
       have DY:=ae qp
       have MF:=ae ro
       have cy:=cE.o.aT 0 (by omega)
       have ht:(Y.getD 0 0).tmod 2=Y.getD 0 0%2:=Int.tmod_eq_emod_of_nonneg hy0.1
       clear qp qm ro
       generalize Y.getD 0 0=y0 at *
       cases od
       all_goals
        simp only[Bool.not_false,Bool.not_true]at hpar
        go_upto_region 24 with(first |(refine qv (by kernel_rfl) 67 67 (.tmp 83) (.tmp 84) rfl _ _ rfl rfl true HE.o (by kernel_rfl) ?_))
        go_upto_region 25 with(fail)
        go_upto_region 26 with(first |((with_reducible refine aQ 67 (.tmp 14) ?_);refine wl cE.o lY (h:= ?_))|((with_reducible refine aQ 67 (.tmp 6) ?_);refine wl bV.o.2.2.2.1 lM (h:= ?_))|(go_at_call 102;refine(Tg.o _).mono ?_;rintro e V8 ⟨rfl,hk1⟩;have U3:=ae hk1;clear hk1)|((with_reducible refine aY 67 (.tmp 14) (.tmp 96) ?_);refine ws (cE.o.keeps U3.o) JS (by rw[aF,lY]) (h:= ?_);intro W8 hr2 hc2;have WP:=ae hr2;have WQ:=ae hc2;clear hr2 hc2))
        have bV:=ae ((bV.o.keeps U3.o).aG WQ.o hkp hlt4)
        go_wp2_with (first |((with_reducible refine aQ 67 (.tmp 2) ?_);refine wl bV.o.2.1 lX (h:= ?_))|((with_reducible refine aQ 67 (.tmp 14) ?_);refine wl WP.o JS (h:= ?_))|((with_reducible refine ji 67 _ ?_);refine aW (by kernel_rfl) 67 _ rfl _ ?_ _ HB1.o ?_;focus(simp only[List.map_toArray,List.map_cons,List.map_nil];rfl))|((with_reducible refine ji 70 _ ?_);refine aW (by kernel_rfl) 70 _ rfl _ ?_ _ DY.o ?_;focus(simp only[List.map_toArray,List.map_cons,List.map_nil];rfl))|((with_reducible refine aY 70 (.tmp 4) (.tmp 100) ?_);refine wpList_store_row rfl 70 (.tmp 4) (.tmp 100) rfl (p+1) 0 rfl Zr (RT.map (Value.int .u32)) rfl bV.o.2.2.1 (by rw[aF,MF.o,du]) (by rw[aF,MF.o];exact dn) (ai _) ?_;intro w9 aR aJ;have H9:=ae aR;have bK:=ae aJ;clear aR aJ))
        exact bodyPost_ret (al (p:=4) (t:=5) (ty:=70) rfl _ _ (p+1) 0 _ _ _ rfl rfl H9.o Tryz.underlying70 rfl (by rw[aF,MF.o];exact dn)) rfl ⟨rfl,ag bV.o.1 bK.o (by omega)⟩
end Go.Proofs.YtlofddoojkeakaaGreatDoor
