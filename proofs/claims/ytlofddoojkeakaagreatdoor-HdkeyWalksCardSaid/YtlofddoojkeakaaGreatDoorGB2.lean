/- The reference's P, Mod, Add, Sub, Mul, bit. -/
import Derived.Test.YtlofddoojkeakaaGreatDoorGB0
import Derived.Test.YtlofddoojkeakaaGreatDoorGB1
import Derived.Test.YtlofddoojkeakaaGreatDoorGA9
import Derived.Deep.LoopGhost
set_option maxRecDepth 100000
set_option maxHeartbeats 8000000
set_option linter.unusedVariables false
set_option linter.unusedSimpArgs false
namespace Go.Proofs.YtlofddoojkeakaaGreatDoor
open Go Go.RowKit
theorem yz(m x y:Int)(hm:sE m)(hx:cg x)(hy:cg y)(w:World):
 Calls Tryz.prog 63 #[.agg ((ax x).map (Value.int .u32)).toArray,.agg ((ax y).map (Value.int .u32)).toArray,.agg ((ax m).map (Value.int .u32)).toArray] w fun e w' =>e= .returned (.agg ((ax ((x+y)%m)).map (Value.int .u32)).toArray)∧Keeps w w':=
 DE x y _ _ (am _) (am _) hx hy w (fun L W hl hd hv hk=>sJ m (x+y) hm L hl hd hv (by have :=hx.2;have :=hy.2;show x+y<(13407807929942597099574024998205846127479365820592393377723561443721764030073546976801874298166903427690031858186486050853753882811946569946433649006084096:Int);omega) W)
theorem yA(m x y:Int)(hm:sE m)(hx:cg x)(hy:cg y)(w:World):
 Calls Tryz.prog 101 #[.agg ((ax x).map (Value.int .u32)).toArray,.agg ((ax y).map (Value.int .u32)).toArray,.agg ((ax m).map (Value.int .u32)).toArray] w fun e w' =>e= .returned (.agg ((ax (x*y%m)).map (Value.int .u32)).toArray)∧Keeps w w':=
 DF x y _ _ (am _) (am _) hx hy w (fun L W hl hd hv hk=>sJ m (x*y) hm L hl hd hv (by
  have h1:x*y≤115792089237316195423570985008687907853269984665640564039457584007913129639935*115792089237316195423570985008687907853269984665640564039457584007913129639935:=Int.le_trans (Int.mul_le_mul_of_nonneg_right (show x≤115792089237316195423570985008687907853269984665640564039457584007913129639935 by have :=hx.2;omega) hy.1) (Int.mul_le_mul_of_nonneg_left (by have :=hy.2;omega) (by decide))
  exact Int.lt_of_le_of_lt h1 (by decide)) W)
theorem FU:Tryz.prog.built 67 [(0,.int .u32 4294966319),(1,.int .u32 4294967294),(2,.int .u32 4294967295),(3,.int .u32 4294967295),(4,.int .u32 4294967295),(5,.int .u32 4294967295),(6,.int .u32 4294967295),(7,.int .u32 4294967295)]=some ((ax PV).map (Value.int .u32)).toArray:=by kernel_rfl
theorem FV(w:World):Calls Tryz.prog 69 #[] w fun e w' =>e= .returned (.agg ((ax PV).map (Value.int .u32)).toArray)∧Keeps w w':=by
 have HB:=ae FU
 have hl:=am PV
 generalize ax PV=X at *
 go_enter Tryz.func69,Tryz.ntmps69
 go_upto_region 1 with(fail)
 refine bh (fun W hk hr hs=> ?_)
 obtain⟨Z,hZ,hrz⟩:∃Z:List Value,Z.length=8∧Row W w.heap.size 0 Z:=⟨_,rfl,hr⟩
 have HR:=ae hrz;have HK:=ae hk
 clear hk hr hrz hs
 go_wp2_with (first |(refine aW (by kernel_rfl) 67 _ rfl _ ?_ _ HB.o ?_;focus(simp only[List.map_toArray,List.map_cons,List.map_nil];rfl))|(refine ws HR.o hl (by rw[hZ]) (h:= ?_);intro w9 aR aJ;have H9:=ae aR;have bK:=ae aJ;clear aR aJ))
 exact bodyPost_ret (v:= .agg (X.map (Value.int .u32)).toArray) (ar (p:=0) (ty:=67) rfl _ _ w.heap.size 0 _ _ rfl H9.o Tryz.underlying67 rfl (by rw[aF,hl];exact bm)) rfl ⟨rfl,ag HK.o bK.o (Nat.le_refl _)⟩
theorem DJ(m x y:Int)(hm:cg m)(hx:0≤x∧x<m)(hy:0≤y∧y<m)(w:World):
 Calls Tryz.prog 102 #[.agg ((ax x).map (Value.int .u32)).toArray,.agg ((ax y).map (Value.int .u32)).toArray,.agg ((ax m).map (Value.int .u32)).toArray] w fun e w' =>e= .returned (.agg ((ax (if x<y then m -(y -x)else x -y)).map (Value.int .u32)).toArray)∧Keeps w w':=by
 have hx2:cg x:=⟨hx.1,Int.lt_trans hx.2 hm.2⟩
 have hy2:cg y:=⟨hy.1,Int.lt_trans hy.2 hm.2⟩
 have p7:=ae (fy x y hx2 hy2)
 have LE:=ae (ip x y hx2 hy2)
 have wN:=ae (ip y x hy2 hx2)
 have hxl:=am x
 have hyl:=am y
 have hml:=am m
 have hdl:=am (x -y)
 have hel:=am (m -(y -x))
 by_cases hlt:x<y
 · have jV:=ae (ip m (y -x) hm ⟨by omega,by have :=hy2.2;omega⟩)
   rw[if_pos hlt]
   rw[decide_eq_true hlt]at p7
   generalize ax (m -(y -x))=E at *
   generalize ax (y -x)=YX at *
   generalize ax x=X at *
   generalize ax y=Y at *
   generalize ax m=M at *
   clear hlt LE hdl hx hy hx2 hy2 hm
   go_enter Tryz.func102,Tryz.ntmps102
   go_upto_region 1 with(fail)
   refine iB (fun W hk hra hrb hrm hr2 hs=> ?_)
   obtain⟨p,hp⟩:∃p,p=w.heap.size:=⟨_,rfl⟩
   rw[←hp]at hra hrb hrm hr2 hs⊢
   have hkp:w.heap.size≤p:=by omega
   obtain⟨Z,hZ,hrz⟩:∃Z:List Value,Z.length=8∧Row W (p+1+1+1) 0 Z:=⟨_,rfl,hr2⟩
   have bj:=ae (show Row W p 0 (X.map (Value.int .u32))from hra);have bH:=ae (show Row W (p+1) 0 (Y.map (Value.int .u32))from hrb);have dK:=ae (show Row W (p+1+1) 0 (M.map (Value.int .u32))from hrm);have aV:=ae hrz;have HK:=ae hk
   clear hp hra hrb hrm hr2 hrz hk hs
   go_upto_region 2 with(first |(refine wl bj.o hxl (h:= ?_))|(refine wl bH.o hyl (h:= ?_))|(go_at_call 61;refine(p7.o _).mono ?_;rintro e W1 ⟨rfl,hk1⟩;have bw:=ae hk1;clear hk1))
   have bj:=ae (bj.o.keeps bw.o);have bH:=ae (bH.o.keeps bw.o);have dK:=ae (dK.o.keeps bw.o);have aV:=ae (aV.o.keeps bw.o);have HK:=ae (HK.o.trans bw.o)
   refine au 5 [] [0,1,2,3,4] (fun _=>[]) (by kernel_rfl) (by kernel_rfl) (by intro i hi;cases hi) ?_
   refine kl (fun wS hS=>(dK.o.keeps hS)) hml (h:= ?_)
   refine kl (fun wS hS=>(bH.o.keeps hS)) hyl (h:= ?_)
   refine kl (fun wS hS=>(bj.o.keeps hS)) hxl (h:= ?_)
   refine kc (hc:=by exact fun wS hS=>wN.o wS) (h:= ?_)
   refine kc (hc:=by exact fun wS hS=>jV.o wS) (h:= ?_)
   refine aI ?_
   intro GG V2 hk1 hG
   clear hG
   simp only[aZ,br,ct,kD,kG,kP,Option.bind_some]
   have aV:=ae (aV.o.keeps hk1)
   have HK:=ae (HK.o.trans hk1)
   clear hk1
   go_wp2_with (refine ws aV.o hel (by rw[hZ]) (h:= ?_);intro w9 aR aJ;have H9:=ae aR;have bK:=ae aJ;clear aR aJ)
   exact bodyPost_ret (v:= .agg (E.map (Value.int .u32)).toArray) (ar (p:=6) (ty:=67) rfl _ _ (p+1+1+1) 0 _ _ rfl H9.o Tryz.underlying67 rfl (by rw[aF,hel];exact bm)) rfl ⟨rfl,ag HK.o bK.o (by omega)⟩
 ·rw[if_neg hlt]
  rw[decide_eq_false hlt]at p7
  generalize ax (x -y)=D at *
  generalize ax x=X at *
  generalize ax y=Y at *
  generalize ax m=M at *
  clear hlt wN hel hx hy hx2 hy2 hm
  go_enter Tryz.func102,Tryz.ntmps102
  go_upto_region 1 with(fail)
  refine iB (fun W hk hra hrb hrm hr2 hs=> ?_)
  obtain⟨p,hp⟩:∃p,p=w.heap.size:=⟨_,rfl⟩
  rw[←hp]at hra hrb hrm hr2 hs⊢
  have hkp:w.heap.size≤p:=by omega
  obtain⟨Z,hZ,hrz⟩:∃Z:List Value,Z.length=8∧Row W (p+1+1+1) 0 Z:=⟨_,rfl,hr2⟩
  have bj:=ae (show Row W p 0 (X.map (Value.int .u32))from hra);have bH:=ae (show Row W (p+1) 0 (Y.map (Value.int .u32))from hrb);have aV:=ae hrz;have HK:=ae hk
  clear hp hra hrb hrm hr2 hrz hk hs
  go_upto_region 3 with(first |(refine wl bj.o hxl (h:= ?_))|(refine wl bH.o hyl (h:= ?_))|(go_at_call 61;refine(p7.o _).mono ?_;rintro e W1 ⟨rfl,hk1⟩;have bw:=ae hk1;clear hk1))
  have bj:=ae (bj.o.keeps bw.o);have bH:=ae (bH.o.keeps bw.o);have aV:=ae (aV.o.keeps bw.o);have HK:=ae (HK.o.trans bw.o)
  go_wp2_with (first |(refine wl bj.o hxl (h:= ?_))|(refine wl bH.o hyl (h:= ?_))|(go_at_call 127;refine(LE.o _).mono ?_;rintro e W2 ⟨rfl,hk1⟩;have aq:=ae hk1;clear hk1)|(refine ws (aV.o.keeps aq.o) hdl (by rw[hZ]) (h:= ?_);intro w9 aR aJ;have H9:=ae aR;have bK:=ae aJ;clear aR aJ))
  exact bodyPost_ret (v:= .agg (D.map (Value.int .u32)).toArray) (ar (p:=6) (ty:=67) rfl _ _ (p+1+1+1) 0 _ _ rfl H9.o Tryz.underlying67 rfl (by rw[aF,hdl];exact bm)) rfl ⟨rfl,ag (HK.o.trans aq.o) bK.o (by omega)⟩
theorem FW(m x y:Int)(hm:cg m)(hx:0≤x∧x<m)(hy:0≤y∧y<m)(w:World):
 Calls Tryz.prog 102 #[.agg ((ax x).map (Value.int .u32)).toArray,.agg ((ax y).map (Value.int .u32)).toArray,.agg ((ax m).map (Value.int .u32)).toArray] w fun e w' =>e= .returned (.agg ((ax ((x -y)%m)).map (Value.int .u32)).toArray)∧Keeps w w':=by
 have :=DJ m x y hm hx hy w
 have e:(if x<y then m -(y -x)else x -y)=(x -y)%m:=by
  split
  ·rw[show x -y=(m -(y -x)) -m by omega,Int.sub_emod_right,Int.emod_eq_of_lt (by omega) (by omega)]
  ·rw[Int.emod_eq_of_lt (by omega) (by omega)]
 rwa[e]at this
theorem sP(e:Nat)(i:Nat)(hi:i<256):(ax (e:Int)).getD (i/32) 0/2^(i%32)%2=((e/2^i%2:Nat):Int):=by
 rw[cr _ _ (by omega)]
 have h1:((4294967296:Int)^(i/32))=((2^(32*(i/32)):Nat):Int):=by
  rw[show(4294967296:Int)=((2^32:Nat):Int) by decide,←Int.natCast_pow,←Nat.pow_mul]
 have h2:((2:Int)^(i%32))=((2^(i%32):Nat):Int):=by rw[Int.natCast_pow];rfl
 have h3:(4294967296:Int)=((2^32:Nat):Int):=by decide
 rw[h1,h2,h3]
 norm_cast
 have h4:i=32*(i/32)+i%32:=by omega
 conv=>rhs;rw[h4,Nat.pow_add,←Nat.div_div_eq_div_mul]
 generalize e/2^(32*(i/32))=q
 have h5:i%32<32:=Nat.mod_lt _ (by decide)
 generalize i%32=r at *
 rw[show(2^32:Nat)=2^r*2^(32 -r) by rw[←Nat.pow_add,show r+(32 -r)=32 by omega],Nat.mod_mul_right_div_self,show 32 -r=1+(31 -r) by omega,Nat.pow_add,Nat.pow_one,Nat.mod_mul_right_mod]
theorem yB(E:List Int)(hE:E.length=8)(KO:∀i,i<8→0≤E.getD i 0∧E.getD i 0<4294967296)(i:Nat)(hi:i<256)(w:World):
 Calls Tryz.prog 104 #[.agg (E.map (Value.int .u32)).toArray,.int .i64 i] w fun e w' =>e= .returned (.bool (decide (E.getD (i/32) 0/2^(i%32)%2=1)))∧Keeps w w':=by
 obtain⟨R,hR⟩:∃R,R=decide (E.getD (i/32) 0/2^(i%32)%2=1):=⟨_,rfl⟩
 rw[←hR]
 have HR:=ae hR
 clear hR
 have h0:=KO (i/32) (by omega)
 have hi9:i/32<8:=by omega
 have UC:i%32<32:=Nat.mod_lt _ (by decide)
 have hi3:(i:Int)<256:=by omega
 go_enter Tryz.func104,Tryz.ntmps104
 go_upto_region 1 with(fail)
 refine bh (fun W hk hr hs=> ?_)
 have c1:=(show Row W w.heap.size 0 (E.map (Value.int .u32))from hr).aT (i/32) (by omega)
 have HK:=ae hk
 clear hk hr hs KO
 generalize E.getD (i/32) 0=x at *
 generalize w.heap.size=p at *
 go_wp2
 go_ret
 have ht:(x/2^(i%32)).tmod 2=x/2^(i%32)%2:=Int.tmod_eq_emod_of_nonneg (Int.ediv_nonneg h0.1 (Int.le_of_lt (Int.pow_pos (by decide))))
 exact⟨show Ending.returned (.bool ((x/2^(i%32)).tmod 2==1))=_ from fU (by rw[ht,HR.o];rfl),HK.o⟩
theorem OW:(Tryz.prog.info? 127).map (·.size)=some 8:=by kernel_rfl
theorem FX(fv:Value)(x y:Int)(RES:List Int)(hrl:RES.length=4)(hx:cg x)(hy:cg y)(w:World)
 (hF:∀(L:List Int) W,L.length=8→dj 18446744073709551616 L→val 18446744073709551616 L=x*y→Keeps w W→Calls Tryz.prog 125 #[fv,.agg (L.map (Value.int .u64)).toArray] W fun e w' =>e= .returned (.agg (RES.map (Value.int .u64)).toArray)∧Keeps W w'):
 Calls Tryz.prog 92 #[fv,.agg ((words x).map (Value.int .u64)).toArray,.agg ((words y).map (Value.int .u64)).toArray] w fun e w' =>e= .returned (.agg (RES.map (Value.int .u64)).toArray)∧Keeps w w':=by
 have HF:=ae hF
 have hxl:=ak x
 have hyl:=ak y
 have hxr:=cY x
 have FM:=cY y
 have HST:=ae (fun i k L c (h:nL x y i k L c)=> @nL.step x y i k L c)
 have ki:=ae (fun i k L c c' t' => @nL.step x y i k L c c' t')
 generalize words x=X at *
 generalize words y=Y at *
 have A3:=ae hxl;have KL:=ae hyl;have Lx:=ae hxr;have Ly:=ae FM;have HX:=ae hx;have HY:=ae hy
 clear hF hxl hyl hxr FM HST hx hy
 go_enter Tryz.func92,Tryz.ntmps92
 go_upto_region 2 with(fail)
 refine iB (fun W hk hra hrb hr2 hr3 hs=> ?_)
 obtain⟨p,hp⟩:∃p,p=w.heap.size:=⟨_,rfl⟩
 rw[←hp]at hra hrb hr2 hr3 hs⊢
 have hkp:w.heap.size≤p:=by omega
 obtain⟨Z,hZ,hrz⟩:∃Z:List Value,Z.length=4∧Row W (p+1+1) 0 Z:=⟨_,rfl,hr2⟩
 have bj:=ae (show Row W p 0 (X.map (Value.int .u64))from hra)
 have HM:=ae (show A2 w W p X Y (List.replicate 8 0) Z from⟨hk,hra,hrb,hrz,hr3⟩)
 clear hp hra hrb hr2 hr3 hrz hk hs
 go_wp2_with (refine aj rfl 95 (.tmp 4) rfl _ 0 rfl (X.map (Value.int .u64)) _ bj.o Tryz.underlying95 rfl (by rw[aF,A3.o];exact aE) ?_)
 go_loopw [8,9,10,11,12,13,14,15,17,21,22] (fun _ _ _ _ _ _ _ _ c _ _ wr=>∃(i:Nat) (L:List Int),i≤4∧c= .int .i64 i∧Hid (oZ x y i L)∧Hid (A2 w wr p X Y L Z)) (fun _ _ _ _ _ _ _ _ c _ _ _=>(4 -intOf c).toNat)
 case atStart=>exact⟨0,_,by omega,rfl,ae (oZ.zero x y),HM⟩
 case round=>
  obtain⟨i,L,hi,rfl,HS,bV⟩:=hrel
  by_cases hlt:i<4
  · have hix:∀W:World,(Instr.index 95 (.agg (X.map (Value.int .u64)).toArray) (.int .i64 (i:Int))).run Tryz.prog W= .ok (.int .u64 (X.getD i 0)) W:=fun W=>dr W _ _ 4 _ X i Tryz.underlying95 Tryz.underlying85 (by kernel_rfl) A3.o hlt
    have hxr:=Lx.o i hlt
    have A4:=ae (ki.o i)
    generalize X.getD i 0=a at *
    go_wp2_with (refine aj rfl 95 (.tmp 5) rfl _ 0 rfl (Y.map (Value.int .u64)) _ bV.o.2.2.1 Tryz.underlying95 rfl (by rw[aF,KL.o];exact aE) ?_)
    go_loopw [10,11,12,13,14,15,22] (fun cc _ _ _ _ _ c wr=>∃(k:Nat) (L:List Int) (cv:Int),k≤4∧c= .int .i64 k∧cc= .int .u64 cv∧Hid (nL x y i k L cv)∧Hid (A2 w wr p X Y L Z)) (fun _ _ _ _ _ _ c _=>(4 -intOf c).toNat)
    case atStart=>exact⟨0,_,0,by omega,rfl,rfl,ae HS.o.inn,bV⟩
    case round=>
     obtain⟨k,L2,cv,hk4,rfl,rfl,HI,jV⟩:=hrel
     by_cases hltk:k<4
     · have V9:∀W:World,(Instr.index 95 (.agg (Y.map (Value.int .u64)).toArray) (.int .i64 (k:Int))).run Tryz.prog W= .ok (.int .u64 (Y.getD k 0)) W:=fun W=>dr W _ _ 4 _ Y k Tryz.underlying95 Tryz.underlying85 (by kernel_rfl) KL.o hltk
       have FM:=Ly.o k hltk
       have hL2:=HI.o.len
       have hc:=jV.o.2.2.2.2.aT (i+k) (by omega)
       have hf:=jV.o.2.2.2.2.bR (i+k) (by rw[aF];omega)
       have ht:=HI.o.dg.getD (i:=i+k) (by omega)
       have jW:=ae (A4.o k L2 cv)
       have c0:=HI.o.c0;have c1:=HI.o.c1
       generalize Y.getD k 0=b at *
       have htd:L2.getD (i+k) 0=L2.getD (i+k) 0:=rfl
       generalize OX:L2.getD (i+k) 0=t at hc hf ht jW htd
       clear OX htd
       obtain⟨hi9,lo,lo1,c1',t1,c2,e1,e2,e3,e4,e5,e6,q1,q2,q3,q4,q5,q6,q7,q8,q9,q10,q11,q12,q13,OY⟩:=uY (a:=a) (b:=b) (c:=cv) (t:=t) hxr FM ⟨c0,c1⟩ ht
       have yC:=fun W=>jb lo cv 0 q3 c0 (by omega) (by omega) W
       have FY:=fun W=>jb t lo1 0 ht.1 q5 (by omega) (by omega) W
       have FZ:=ae (uZ a b hxr FM)
       rw[e1,e2]at FZ
       rw[e3,e4]at yC
       rw[e5,e6]at FY
       have hset:=jV.o.2.2.2.2.bl (i+k) (by omega) t1
       have bx:=ae hset
       have ik:=ae (fun h=>jW.o (hi9+c1' +c2) t1 HI.o hlt hltk q11 q12 (by omega) q13 h)
       have HE:=ae OY
       clear hset e1 e2 e3 e4 e5 e6 OY
       go_wp2_with (go_at_call 124;refine(FZ.o _).mono ?_;rintro e W1 ⟨rfl,rfl⟩)
       obtain⟨hk9,ez,lF,ij,nE⟩:=jV.o
       have H1:=ae hk9;have H2:=ae ez;have H3:=ae lF;have H4:=ae ij
       clear hk9 ez lF ij nE jV
       go_roundw
       case rel=>exact⟨k+1,_,hi9+c1' +c2,by omega,by go_num,by first |rfl|go_num,ae (ik.o HE.o),ae ⟨b9 H1.o (by omega) _,H2.o.other (show p≠p+1+1+1 by omega) _,H3.o.other (show p+1≠p+1+1+1 by omega) _,H4.o.other (show p+1+1≠p+1+1+1 by omega) _,bx.o⟩⟩
       case measure=>simp[intOf];omega
     ·obtain rfl:k=4:=by omega
      obtain⟨hk9,ez,lF,ij,nE⟩:=jV.o
      have hL2:=HI.o.len
      have hc:=nE.aT (i+4) (by omega)
      have hf:=nE.bR (i+4) (by rw[aF];omega)
      have hset:=nE.bl (i+4) (by omega) cv
      have bx:=ae hset
      have H1:=ae hk9;have H2:=ae ez;have H3:=ae lF;have H4:=ae ij
      have ik:=ae (HI.o.out hlt HY.o)
      clear hk9 ez lF ij nE jV hset
      generalize L2.getD (i+4) 0=t at *
      go_wp2
      go_roundw
      case rel=>exact⟨i+1,_,by omega,by go_num,ik,ae ⟨b9 H1.o (by omega) _,H2.o.other (show p≠p+1+1+1 by omega) _,H3.o.other (show p+1≠p+1+1+1 by omega) _,H4.o.other (show p+1+1≠p+1+1+1 by omega) _,bx.o⟩⟩
      case measure=>simp[intOf];omega
  ·obtain rfl:i=4:=by omega
   obtain⟨hk9,ez,lF,ij,nE⟩:=bV.o
   have hL:=HS.o.len
   have OL:=ae (HF.o L wr hL HS.o.dg (HS.o.done HX.o) hk9)
   have H1:=ae hk9;have H4:=ae ij;have H5:=ae nE
   clear hk9 ez lF ij nE bV
   go_wp2_with (first |(refine aj rfl 127 (.tmp 7) rfl _ 0 rfl (L.map (Value.int .u64)) _ H5.o Tryz.underlying127 rfl (by rw[aF,hL];exact OW) ?_)|(go_at_call 125;refine OL.o.mono ?_;rintro e W2 ⟨rfl,hk2⟩;have aq:=ae hk2;clear hk2)|(refine wpList_store_row rfl 95 (.tmp 6) (.tmp 66) rfl (p+1+1) 0 rfl Z (RES.map (Value.int .u64)) rfl (H4.o.keeps aq.o) (by rw[aF,hrl,hZ]) (by rw[aF,hrl];exact aE) (ai _) ?_;intro w9 aR aJ;have H9:=ae aR;have bK:=ae aJ;clear aR aJ))
   exact bodyPost_ret (v:= .agg (RES.map (Value.int .u64)).toArray) (ar (p:=6) (ty:=95) rfl _ _ (p+1+1) 0 _ _ rfl H9.o Tryz.underlying95 rfl (by rw[aF,hrl];exact aE)) rfl ⟨rfl,ag (H1.o.trans aq.o) bK.o (by omega)⟩
theorem OZ:(Tryz.prog.info? 99).map (·.size)=some 3:=by kernel_rfl
theorem A8{a b c d:Int}(h:dj 18446744073709551616 [a,b,c,d]):[a,b,c,d]=words (val 18446744073709551616 [a,b,c,d]):=DC h rfl
theorem wO{a b c d e f g i:Int}(h:dj 18446744073709551616 [a,b,c,d,e,f,g,i]):dj 18446744073709551616 [a,b,c,d]:=h.take 4
theorem wP{a b c d e f g i:Int}(h:dj 18446744073709551616 [a,b,c,d,e,f,g,i]):dj 18446744073709551616 [e,f,g,i]:=h.drop 4
theorem Jy{e f g i:Int}(h:dj 18446744073709551616 [e,f,g,i]):(bits .or .u64 (bits .or .u64 (bits .or .u64 e f) g) i=0∧e=0∧f=0∧g=0∧i=0)∨(¬bits .or .u64 (bits .or .u64 (bits .or .u64 e f) g) i=0∧0<val 18446744073709551616 [e,f,g,i]):=by
 have h1:=h e (by simp);have h2:=h f (by simp);have h3:=h g (by simp);have h4:=h i (by simp)
 have r1:=nK e f
 have r2:=nK (bits .or .u64 e f) g
 by_cases hz:bits .or .u64 (bits .or .u64 (bits .or .u64 e f) g) i=0
 · have hz':=hz
   rw[fI r2.1 r2.2 h4.1 h4.2,fI r1.1 r1.2 h3.1 h3.2,fI h1.1 h1.2 h2.1 h2.2]at hz'
   exact .inl ⟨hz,hz'.1.1.1,hz'.1.1.2,hz'.1.2,hz'.2⟩
 ·refine .inr ⟨hz,?_⟩
  have :=(dW (by decide) h).1
  refine Classical.byContradiction fun e0=>hz ?_
  simp only[val]at e0 this
  rw[fI r2.1 r2.2 h4.1 h4.2,fI r1.1 r1.2 h3.1 h3.2,fI h1.1 h1.2 h2.1 h2.2]
  omega
theorem F0(g off:Nat)(m:Int)(F:List Int)(hF:NO m F)(L:List Int)(hl:L.length=8)(hd:dj 18446744073709551616 L)(w:World)(hr:Row w g off (F.map (Value.int .u64))):
 Calls Tryz.prog 125 #[.pointer (some ⟨g,off,none⟩),.agg (L.map (Value.int .u64)).toArray] w fun e w' =>e= .returned (.agg ((words (val 18446744073709551616 L%m)).map (Value.int .u64)).toArray)∧Keeps w w':=by
 obtain⟨V,hV⟩:∃V,V=val 18446744073709551616 L:=⟨_,rfl⟩
 rw[←hV]
 have rH:=ae hF
 have bY:=ae hr
 have O0:=ae (show Row w g (off+4) ((F.drop 4).map (Value.int .u64)) by rw[List.map_drop];exact hr.drop 4)
 have O1:=ae (show Row w g off ((words m).map (Value.int .u64)) by rw[←hF.m4,List.map_take];exact hr.take 4)
 have R0:=ae (show FI m V L from⟨hl,hd,by rw[hV]⟩)
 have hdl:(F.drop 4).length=3:=by rw[List.length_drop,hF.len]
 have ON:=ae hF.dg
 have Wf:=ae hF.dv
 generalize F.drop 4=D at *
 have yu:=ae hdl
 have hrl:=ak (V%m)
 generalize O2:words (V%m)=RES at *
 have R3:=ae O2
 clear O2
 have uT:=ae (fun lo (h0:cg lo) W hW=>Fz g off m lo hF.mU h0 W hW)
 clear hr hV hd hdl hF
 go_enter Tryz.func125,Tryz.ntmps125
 go_upto_region 1 with(fail)
 refine bu (fun W hk hra hrb hs=> ?_)
 obtain⟨p,hp⟩:∃p,p=w.heap.size:=⟨_,rfl⟩
 rw[←hp]at hra hrb hs⊢
 have hkp:w.heap.size≤p:=by omega
 obtain⟨Z,hZ,hrz⟩:∃Z:List Value,Z.length=4∧Row W (p+1) 0 Z:=⟨_,rfl,hrb⟩
 have HM:=ae (show nf w W p L Z from⟨hk,hra,hrz⟩)
 clear hp hra hrb hrz hk hs
 go_wp2
 go_loopg [5,6,7,8,9,10,11,12,13,14,40,41,48,49] (val 18446744073709551616 L).toNat (fun gk _ _ _ _ _ _ _ _ _ _ _ _ _ _ wr=>∃(L:List Int),gk=(val 18446744073709551616 L).toNat∧Hid (FI m V L)∧Hid (nf w wr p L Z))
 case atStart=>exact⟨L,rfl,R0,HM⟩
 case round=>
  obtain⟨L1,hgk,HS,bV⟩:=hrel
  obtain⟨l0,l1,l2,l3,l4,l5,l6,l7,rfl⟩:=Cu HS.o.len
  have hdg:=HS.o.dg
  obtain⟨hk9,ez,ij⟩:=bV.o
  have c0:=ez.aT 0 (by simp);have c1:=ez.aT 1 (by simp);have c2:=ez.aT 2 (by simp);have c3:=ez.aT 3 (by simp)
  have c4:=ez.aT 4 (by simp);have c5:=ez.aT 5 (by simp);have c6:=ez.aT 6 (by simp);have c7:=ez.aT 7 (by simp)
  simp only[List.getD_cons_zero,List.getD_cons_succ]at c0 c1 c2 c3 c4 c5 c6 c7
  rcases Jy (wP hdg)with⟨hq,rfl,rfl,rfl,rfl⟩|⟨hq,hpos⟩
  · have H2:=ae ij;have aq:=ae hk9
    have hlo:=dW (B:=18446744073709551616) (by decide) (wO hdg)
    have hv:=HS.o.val
    have hw4:=A8 (wO hdg)
    have O3:=ae (uT.o (val 18446744073709551616 [l0,l1,l2,l3]) ⟨hlo.1,by rw[←o8];exact hlo.2⟩)
    have e8:=OI l0 l1 l2 l3 0 0 0 0
    have hz:val 18446744073709551616 [0,0,0,0]=0:=by decide
    rw[hz,Int.mul_zero,Int.add_zero]at e8
    rw[e8]at hv
    rw[Ls hlo.1 (by rw[←o8];exact hlo.2) rH.o.two,hv,R3.o,←hw4]at O3
    clear hv hw4 e8 hz hlo hdg HS bV ez ij hk9 hgk
    go_wp2_with (first |(go_at_call 90;refine(O3.o _ (O1.o.keeps aq.o)).mono ?_;rintro e W2 ⟨rfl,hk2⟩;have bS:=ae hk2;clear hk2)|(refine wpList_store_row rfl 95 (.tmp 4) (.tmp 113) rfl (p+1) 0 rfl Z (RES.map (Value.int .u64)) rfl (H2.o.keeps bS.o) (by rw[aF,hrl,hZ]) (by rw[aF,hrl];exact aE) (ai _) ?_;intro w9 aR aJ;have H9:=ae aR;have bK:=ae aJ;clear aR aJ))
    exact bodyPost_ret (v:= .agg (RES.map (Value.int .u64)).toArray) (ar (p:=4) (ty:=95) rfl _ _ (p+1) 0 _ _ rfl H9.o Tryz.underlying95 rfl (by rw[aF,hrl];exact aE)) rfl ⟨rfl,ag (aq.o.trans bS.o) bK.o (by omega)⟩
  · have hlo:=dW (B:=18446744073709551616) (by decide) (wO hdg)
    have hhi:=dW (B:=18446744073709551616) (by decide) (wP hdg)
    have hd0:=dW (B:=18446744073709551616) (by decide) ON.o
    rw[yu.o]at hd0
    have e8:=OI l0 l1 l2 l3 l4 l5 l6 l7
    have hnx:=vf (d:=val 18446744073709551616 D) (V:=V) (m:=m) Wf.o (by have :=rH.o.two;omega) (by rw[←e8];exact HS.o.val) hpos
    rw[←e8]at hnx
    have yv:=ae hnx
    have Wg:=ae hgk
    have UD:=ae hlo;have LI:=ae hhi;have HD0:=ae hd0
    have HI0:=ae (yt l0 l1 l2 l3 l4 l5 l6 l7 (val 18446744073709551616 D) hdg)
    have O4:=ae (wP hdg)
    generalize val 18446744073709551616 [l0,l1,l2,l3]=lo at *
    generalize UE:val 18446744073709551616 [l4,l5,l6,l7]=Hn at *
    have Wh:=ae UE
    generalize hdd:val 18446744073709551616 D=d at *
    have Wi:=ae hdd
    have z1:(bits .or .u64 (bits .or .u64 (bits .or .u64 l4 l5) l6) l7 !=0)=true:=by rw[bne_iff_ne];exact hq
    have hlt1:=ez.lt (by simp)
    have hlt2:=ij.lt (by intro e;rw[e]at hZ;cases hZ)
    have O5:=ae ez
    have H1:=ae hk9;have H2:=ae ij
    clear hlo hhi hd0 e8 hnx hgk hdg HS bV ez ij hk9 UE hdd hq hpos
    go_upto_region 3 with(fail)
    refine bh (fun W1 hk1 hr1 hs1=> ?_)
    generalize wr.heap.size=gh at *
    have ez:=O5.o.keeps hk1
    have ij:=H2.o.keeps hk1
    have c4:=ez.aT 4 (by simp);have c5:=ez.aT 5 (by simp);have c6:=ez.aT 6 (by simp);have c7:=ez.aT 7 (by simp)
    simp only[List.getD_cons_zero,List.getD_cons_succ]at c4 c5 c6 c7
    have f4:=ez.bR 4 (by simp);have f5:=ez.bR 5 (by simp);have f6:=ez.bR 6 (by simp);have f7:=ez.bR 7 (by simp)
    have UF:=ae ((((ez.bl 4 (by simp) 0).bl 5 (by simp) 0).bl 6 (by simp) 0).bl 7 (by simp) 0)
    have O6:=ae ij
    have HR1:=ae (show Row W1 gh 0 ([l4,l5,l6,l7].map (Value.int .u64))from hr1)
    have bw:=ae (H1.o.trans hk1)
    clear ez ij hr1 hk1
    go_upto_region 4 with(fail)
    refine cf (fun W=>nf w W p [l0,l1,l2,l3,0,0,0,0] Z∧Row W gh 0 ([l4,l5,l6,l7].map (Value.int .u64))) ⟨⟨?_,UF.o,?_⟩,?_⟩ ?_
    ·exact b9 (b9 (b9 (b9 bw.o (by omega) _) (by omega) _) (by omega) _) (by omega) _
    ·exact(((O6.o.other (show p+1≠p by omega) _).other (show p+1≠p by omega) _).other (show p+1≠p by omega) _).other (show p+1≠p by omega) _
    ·exact(((HR1.o.other (show gh≠p by omega) _).other (show gh≠p by omega) _).other (show gh≠p by omega) _).other (show gh≠p by omega) _
    rintro W2 ⟨hm2,hr2⟩
    have HR2:=ae hr2
    have jV:=ae hm2
    clear hr2 hm2 UF O6 HR1 bw O5 H1 H2 c4 c5 c6 c7 f4 f5 f6 f7 hs1 c0 c1 c2 c3
    generalize UG:[l4,l5,l6,l7]=HH at *
    have UH:HH.length=4:=by rw[←UG];rfl
    have NS:=ae UH
    clear UH UG
    go_wp2_with (refine aj rfl 95 (.tmp 5) rfl gh 0 rfl (HH.map (Value.int .u64)) _ HR2.o Tryz.underlying95 rfl (by rw[aF,NS.o];exact aE) ?_)
    go_loopw [6,7,8,9,10,11,12,13,14,41,48,49] (fun _ _ _ _ _ _ _ _ _ c _ _ wr=>∃(i:Nat) (L:List Int),i≤4∧c= .int .i64 i∧Hid (yr lo Hn d i L)∧Hid (nf w wr p L Z)) (fun _ _ _ _ _ _ _ _ _ c _ _ _=>(4 -intOf c).toNat)
    case atStart=>exact⟨0,_,by omega,rfl,HI0,jV⟩
    case round=>
     obtain⟨i,L1,hi,rfl,HS,bV⟩:=hrel
     by_cases hlt:i<4
     · have hix:∀W:World,(Instr.index 95 (.agg (HH.map (Value.int .u64)).toArray) (.int .i64 (i:Int))).run Tryz.prog W= .ok (.int .u64 (HH.getD i 0)) W:=fun W=>dr W _ _ 4 _ HH i Tryz.underlying95 Tryz.underlying85 (by kernel_rfl) NS.o hlt
       have ha:=O4.o.getD (i:=i) (by rw[NS.o];exact hlt)
       have UI:=ae (my (by decide) O4.o (j:=i) (by rw[NS.o];exact hlt))
       rw[Wh.o]at UI
       generalize HH.getD i 0=a at *
       go_wp2_with (refine aj rfl 99 (.tmp 47) rfl g (off+4) (by rfl) (D.map (Value.int .u64)) _ (O0.o.keeps bV.o.1) Tryz.underlying99 rfl (by rw[aF,yu.o];exact OZ) ?_)
       go_loopw [8,9,10,11,12,13,49] (fun cc _ _ _ _ _ c wr=>∃(k:Nat) (L:List Int) (cv:Int),k≤3∧c= .int .i64 k∧cc= .int .u64 cv∧Hid (nZ lo Hn d i k L cv)∧Hid (nf w wr p L Z)) (fun _ _ _ _ _ _ c _=>(3 -intOf c).toNat)
       case atStart=>exact⟨0,_,0,by omega,rfl,rfl,ae HS.o.inn,bV⟩
       case round=>
        obtain⟨k,L2,cv,hk4,rfl,rfl,HI,jV⟩:=hrel
        by_cases hltk:k<3
        · have V9:∀W:World,(Instr.index 99 (.agg (D.map (Value.int .u64)).toArray) (.int .i64 (k:Int))).run Tryz.prog W= .ok (.int .u64 (D.getD k 0)) W:=fun W=>dr W _ _ 3 _ D k Tryz.underlying99 Tryz.underlying85 (by kernel_rfl) yu.o hltk
          have hb:=ON.o.getD (i:=k) (by rw[yu.o];exact hltk)
          have UJ:=ae (my (by decide) ON.o (j:=k) (by rw[yu.o];exact hltk))
          rw[Wi.o]at UJ
          have hL2:=HI.o.len
          have hc:=jV.o.2.1.aT (i+k) (by omega)
          have hf:=jV.o.2.1.bR (i+k) (by rw[aF];omega)
          have ht:=HI.o.dg.getD (i:=i+k) (by omega)
          have c0:=HI.o.c0;have c1:=HI.o.c1
          generalize D.getD k 0=b at *
          have jW:=ae (fun c' t' =>HI.o.step (c':=c') (t':=t') hlt hltk UI.o UJ.o)
          generalize OX:L2.getD (i+k) 0=t at hc hf ht jW
          clear OX
          obtain⟨hi9,Wj,lo1,c1',t1,c2,e1,e2,e3,e4,e5,e6,q1,q2,q3,q4,q5,q6,q7,q8,q9,q10,q11,q12,q13,OY⟩:=uY (a:=a) (b:=b) (c:=cv) (t:=t) ha hb ⟨c0,c1⟩ ht
          have yC:=fun W=>jb Wj cv 0 q3 c0 (by omega) (by omega) W
          have FY:=fun W=>jb t lo1 0 ht.1 q5 (by omega) (by omega) W
          have FZ:=ae (uZ a b ha hb)
          rw[e1,e2]at FZ
          rw[e3,e4]at yC
          rw[e5,e6]at FY
          have bx:=ae (jV.o.2.1.bl (i+k) (by omega) t1)
          have ik:=ae (jW.o (hi9+c1' +c2) t1 q11 q12 (by omega) q13 OY)
          have LJ:=ae jV.o.1;have R4:=ae jV.o.2.2
          clear e1 e2 e3 e4 e5 e6 OY jV HI jW
          go_wp2_with (go_at_call 124;refine(FZ.o _).mono ?_;rintro e W1 ⟨rfl,rfl⟩)
          go_roundw
          case rel=>exact⟨k+1,_,hi9+c1' +c2,by omega,by go_num,by first |rfl|go_num,ik,ae ⟨b9 LJ.o (by omega) _,bx.o,R4.o.other (show p+1≠p by omega) _⟩⟩
          case measure=>simp[intOf];omega
        ·obtain rfl:k=3:=by omega
         have wA:=ae (HI.o.out UD.o.1 UD.o.2 LI.o.1 (by have :=LI.o.2;rwa[NS.o]at this) HD0.o.1 HD0.o.2)
         clear HI
         generalize hC:lo+Hn%18446744073709551616^(i+1)*d=C at wA
         have HC:=ae hC
         clear hC
         go_wp2
         go_loopw [8,14] (fun cc kk wr=>∃(k:Nat) (L:List Int) (cv:Int),k≤8∧kk= .int .i64 k∧cc= .int .u64 cv∧Hid (nM C k L cv)∧Hid (nf w wr p L Z)) (fun _ kk _=>(8 -intOf kk).toNat)
         case atStart=>exact⟨i+3,_,cv,by omega,by go_num,rfl,wA,jV⟩
         case round=>
          obtain⟨k,L3,c,hk8,rfl,rfl,HI,xQ⟩:=hrel
          by_cases hc0:c=0
          ·subst hc0
           have HN:=ae (nM.out (by rw[HC.o];exact HI.o))
           go_wp2
           go_roundw
           case rel=>exact⟨i+1,_,by omega,by go_num,HN,xQ⟩
           case measure=>simp[intOf];omega
          · have Fa:=HI.o.lt hc0
            have z1:(c !=0)=true:=by rw[bne_iff_ne];exact hc0
            have hL3:=HI.o.len
            have hc:=xQ.o.2.1.aT k (by omega)
            have hf:=xQ.o.2.1.bR k (by rw[aF];omega)
            have ht:=HI.o.dg.getD (i:=k) (by omega)
            have c0:=HI.o.c0;have c1:=HI.o.c1
            have HST:=ae (fun c' t' =>HI.o.step (c':=c') (t':=t') Fa)
            generalize OX:L3.getD k 0=t at hc hf ht HST
            clear OX
            obtain⟨t1,c2,e1,e2,q1,q2,q3,q4,q5⟩:∃t1 c2:Int,(t+c+0)%18446744073709551616=t1∧(t+c+0)/18446744073709551616=c2∧0≤t1∧t1<18446744073709551616∧0≤c2∧c2<18446744073709551616∧t1+18446744073709551616*c2=t+c:=⟨_,_,rfl,rfl,by omega,by omega,by omega,by omega,by omega⟩
            have yC:=fun W=>jb t c 0 ht.1 c0 (by omega) (by omega) W
            rw[e1,e2]at yC
            have bx:=ae (xQ.o.2.1.bl k (by omega) t1)
            have ik:=ae (HST.o c2 t1 q1 q2 q3 q4 q5)
            have LJ:=ae xQ.o.1;have R4:=ae xQ.o.2.2
            clear e1 e2 q5 xQ HI HST hc0
            go_wp2
            go_roundw
            case rel=>exact⟨k+1,_,c2,by omega,by go_num,by first |rfl|go_num,ik,ae ⟨b9 LJ.o (by omega) _,bx.o,R4.o.other (show p+1≠p by omega) _⟩⟩
            case measure=>simp[intOf];omega
     ·obtain rfl:i=4:=by omega
      have hv:=HS.o.val
      rw[Int.emod_eq_of_lt LI.o.1 (by have :=LI.o.2;rwa[NS.o]at this)]at hv
      have HV:=ae hv
      have Wl:=ae (dW (B:=18446744073709551616) (by decide) HS.o.dg).1
      clear hv
      go_wp2
      go_roundg ((val 18446744073709551616 L1).toNat)
      case measure=>have e1:=HV.o;have e2:=yv.o.2;have e3:=Wg.o;have e4:=Wl.o;omega
      case rel=>exact⟨L1,rfl,ae ⟨HS.o.len,HS.o.dg,by rw[HV.o];exact yv.o.1⟩,bV⟩
end Go.Proofs.YtlofddoojkeakaaGreatDoor
