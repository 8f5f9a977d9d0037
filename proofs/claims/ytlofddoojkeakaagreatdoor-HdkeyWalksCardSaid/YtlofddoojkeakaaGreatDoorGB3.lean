/- curve's numbers: halved, and as bytes. -/
import Derived.Test.YtlofddoojkeakaaGreatDoorGA7
import Derived.Test.YtlofddoojkeakaaGreatDoorGB2
set_option maxRecDepth 100000
set_option maxHeartbeats 8000000
set_option linter.unusedVariables false
set_option linter.unusedSimpArgs false
namespace Go.Proofs.YtlofddoojkeakaaGreatDoor
open Go Go.RowKit
theorem DK{x:Int}(h:cg x)(i:Nat)(hi:i<4):(words x).getD i 0/2+(if i<3 then(words x).getD (i+1) 0 else 0)*9223372036854775808%18446744073709551616=(words (x/2)).getD i 0:=by
 unfold cg at h
 have :i=0∨i=1∨i=2∨i=3:=by omega
 rcases this with rfl|rfl|rfl|rfl<;>simp[words]<;>omega
theorem A9(r u:Int)(i j:Nat)(h:i≤j)(hj:j<4):(su r u i).getD j 0=(words u).getD j 0:=by
 have h1:((words r).take i).length=i:=by rw[List.length_take,ak];omega
 unfold su
 rw[List.getD,List.getElem?_append_right (by omega),h1,List.getElem?_drop,show i+(j -i)=j by omega];rfl
theorem yD(x:Int)(hx:cg x)(w:World):
 Calls Tryz.prog 122 #[.agg ((words x).map (Value.int .u64)).toArray,.int .u64 0] w fun e w' =>e= .returned (.agg ((words (x/2)).map (Value.int .u64)).toArray)∧Keeps w w':=by
 have hset:=sv (x/2) x
 have hlen:=mq (x/2) x
 have hzero:=qc (x/2) x
 have hfull:=qd (x/2) x
 have hgd:=A9 (x/2) x
 have hstep:=DK hx
 have hr1:=cY x
 have hxl:=ak x
 have hrl:=ak (x/2)
 generalize su (x/2) x=M at *
 generalize words x=X at *
 generalize words (x/2)=R at *
 have bx:=ae hset;have HLEN:=ae hlen;have yh:=ae hzero;have yi:=ae hfull;have uA:=ae hgd;have ki:=ae hstep;have HR1:=ae hr1;have Fx:=ae hrl
 clear hset hlen hzero hfull hgd hstep hr1 hxl hrl hx
 go_enter Tryz.func122,Tryz.ntmps122
 go_upto_region 1 with(fail)
 refine bu (fun W hk hra hrb hs=> ?_)
 obtain⟨p,hp⟩:∃p,p=w.heap.size:=⟨_,rfl⟩
 rw[←hp]at hra hrb hs⊢
 have hkp:w.heap.size≤p:=by omega
 obtain⟨Z,hZ,hrz⟩:∃Z:List Value,Z.length=4∧Row W (p+1) 0 Z:=⟨_,rfl,hrb⟩
 have dK:=ae (show Row W p 0 ((M 0).map (Value.int .u64)) by rw[yh.o];exact hra);have aV:=ae hrz;have HK:=ae hk
 clear hp hra hrb hrz hk hs
 go_wp2
 go_loopw [5,6,7] (fun _ _ c wr=>∃i:Nat,i≤4∧c= .int .i64 i∧Keeps w wr∧Row wr p 0 ((M i).map (Value.int .u64))∧Row wr (p+1) 0 Z) (fun _ _ c _=>(4 -intOf c).toNat)
 case atStart=>exact⟨0,by omega,rfl,HK.o,dK.o,aV.o⟩
 case round=>
  obtain⟨i,hi,rfl,hk,hrm,hrz⟩:=hrel
  by_cases hlt:i<4
  · have c1:=hrm.aT i (by rw[HLEN.o i hi];exact hlt)
    have f3:=hrm.bR i (by rw[aF,HLEN.o i hi];exact hlt)
    rw[uA.o i i (by omega) hlt]at c1
    have s1:=ki.o i hlt
    obtain⟨x0,x1⟩:=HR1.o i hlt
    have hset:=hrm.bl i (by rw[HLEN.o i hi];exact hlt) (R.getD i 0)
    rw[bx.o i hlt]at hset
    by_cases h3:i<3
    · have c2:=hrm.aT (i+1) (by rw[HLEN.o i hi];omega)
      rw[uA.o i (i+1) (by omega) (by omega)]at c2
      obtain⟨y0,y1⟩:=HR1.o (i+1) (by omega)
      rw[if_pos h3]at s1
      generalize X.getD i 0=x at *
      generalize X.getD (i+1) 0=y at *
      have KJ:=ae (show bits .or .u64 (x/2) (IntKind.u64.wrap (y*9223372036854775808))=R.getD i 0 by rw[←s1,IntKind.wrap_u64,oX,mp 63 _ _ (by omega) (by omega) (by omega) (by omega) (by omega) (by omega)];omega)
      have HS:=ae hset;have H2:=ae hrz;have aq:=ae hk
      clear hset hrz hrm hk s1
      go_wp2
      go_roundw
      case rel=>exact⟨i+1,by omega,by go_num,b9 aq.o (by omega) _,by rw[KJ.o];exact HS.o,H2.o.other (by simp) _⟩
      case measure=>simp[intOf];omega
    ·rw[if_neg h3]at s1
     generalize X.getD i 0=x at *
     have KJ:=ae (show bits .or .u64 (x/2) (0*9223372036854775808%18446744073709551616)=R.getD i 0 by rw[←s1,oX,mp 63 _ _ (by omega) (by omega) (by omega) (by omega) (by omega) (by omega)];omega)
     have HS:=ae hset;have H2:=ae hrz;have aq:=ae hk
     clear hset hrz hrm hk s1
     go_wp2
     go_roundw
     case rel=>exact⟨i+1,by omega,by go_num,b9 aq.o (by omega) _,by first |(rw[KJ.o];exact HS.o)|(have :=KJ.o;simp only[Int.zero_mul,Int.zero_emod]at this;rw[this];exact HS.o),H2.o.other (by simp) _⟩
     case measure=>simp[intOf];omega
  ·obtain rfl:i=4:=by omega
   rw[yi.o]at hrm
   have H2:=ae hrz;have H3:=ae hrm;have aq:=ae hk
   clear hrz hrm hk
   have iz:=Fx.o
   go_wp2_with (first |(refine aj rfl 95 (.tmp 2) rfl _ 0 rfl (R.map (Value.int .u64)) _ H3.o Tryz.underlying95 rfl (by rw[aF,iz];exact aE) ?_)|(refine wpList_store_row rfl 95 (.tmp 4) (.tmp 27) rfl (p+1) 0 rfl Z (R.map (Value.int .u64)) rfl H2.o (by rw[aF,iz,hZ]) (by rw[aF,iz];exact aE) (ai _) ?_;intro w9 aR aJ;have H9:=ae aR;have bK:=ae aJ;clear aR aJ))
   exact bodyPost_ret (v:= .agg (R.map (Value.int .u64)).toArray) (ar (p:=4) (ty:=95) rfl _ _ (p+1) 0 _ _ rfl H9.o Tryz.underlying95 rfl (by rw[aF,iz];exact aE)) rfl ⟨rfl,ag aq.o bK.o (by omega)⟩
theorem sQ(v:Int)(w:World):
 Calls Tryz.prog 51 #[.agg ((words v).map (Value.int .u64)).toArray] w fun e w' =>e= .returned (.agg ((toB 32 v).map (Value.int .u8)).toArray)∧Keeps w w':=by
 have htl:=fr 32 v
 have Jz:=ae (yg v)
 have R5:=ae (cY v)
 have hwl:=ak v
 generalize words v=L at *
 generalize toB 32 v=RR at *
 go_enter Tryz.func51,Tryz.ntmps51
 go_upto_region 2 with(fail)
 refine cU (fun W hk hra hr2 hr3 hs=> ?_)
 obtain⟨p,hp⟩:∃p,p=w.heap.size:=⟨_,rfl⟩
 rw[←hp]at hra hr2 hr3 hs⊢
 have hkp:w.heap.size≤p:=by omega
 obtain⟨Z,hZ,hrz⟩:∃Z:List Value,Z.length=32∧Row W (p+1) 0 Z:=⟨_,rfl,hr2⟩
 have bj:=ae (show Row W p 0 (L.map (Value.int .u64))from hra);have HR2:=ae hrz
 have HR3:=ae (show Row W (p+1+1) 0 ((gS RR 32 0).map (Value.int .u8)) by rw[nX];exact hr3)
 have HK:=ae hk
 clear hp hra hr2 hrz hr3 hk
 go_wp2
 go_loopw [4,5] (fun _ c wr=>∃i:Nat,i≤32∧c= .int .i64 i∧Keeps w wr∧Row wr p 0 (L.map (Value.int .u64))∧Row wr (p+1) 0 Z∧Row wr (p+1+1) 0 ((gS RR 32 i).map (Value.int .u8))) (fun _ c _=>(32 -intOf c).toNat)
 case atStart=>exact⟨0,by omega,rfl,HK.o,bj.o,HR2.o,HR3.o⟩
 case round=>
  obtain⟨i,hi,rfl,hk,hra,hr2,hr3⟩:=hrel
  by_cases hlt:i<32
  · have c2:=hra.aT (3 -i/8) (by omega)
    have c3:=hr3.aT i (by rw[eT _ _ _ htl hi];exact hlt)
    have f3:=hr3.bR i (by rw[aF,eT _ _ _ htl hi];exact hlt)
    have hs:=hr3.bl i (by rw[eT _ _ _ htl hi];exact hlt) (RR.getD i 0)
    rw[m8 _ _ _ htl hlt]at hs
    obtain⟨x0,x1⟩:=R5.o (3 -i/8) (by omega)
    have HB:=ae (Jz.o i hlt)
    generalize(gS RR 32 i).getD i 0=old at *
    generalize L.getD (3 -i/8) 0=x at *
    have HS:=ae hs;have H1:=ae hra;have H2:=ae hr2;have aq:=ae hk
    clear hs hra hr2 hr3 hk
    go_wp2
    go_roundw
    case rel=>exact⟨i+1,by omega,by go_num,b9 aq.o (by omega) _,H1.o.other (by simp;omega) _,H2.o.other (by simp) _,by rw[←HB.o]at HS;exact HS.o⟩
    case measure=>simp[intOf];omega
  ·obtain rfl:i=32:=by omega
   rw[nY _ _ htl]at hr3
   have H2:=ae hr2;have H3:=ae hr3;have aq:=ae hk
   clear hra hr2 hr3 hk
   go_wp2_with (first |(refine aj rfl 24 (.tmp 3) rfl _ 0 rfl (RR.map (Value.int .u8)) _ H3.o Tryz.underlying24 rfl (by rw[aF,htl];exact bo) ?_)|(refine wpList_store_row rfl 24 (.tmp 2) (.tmp 22) rfl (p+1) 0 rfl Z (RR.map (Value.int .u8)) rfl H2.o (by rw[aF,htl,hZ]) (by rw[aF,htl];exact bo) (ai _) ?_;intro w9 aR aJ;have H9:=ae aR;have bK:=ae aJ;clear aR aJ))
   exact bodyPost_ret (v:= .agg (RR.map (Value.int .u8)).toArray) (ar (p:=2) (ty:=24) rfl _ _ (p+1) 0 _ _ rfl H9.o Tryz.underlying24 rfl (by rw[aF,htl];exact bo)) rfl ⟨rfl,ag aq.o bK.o (by omega)⟩
theorem mul_any(g off:Nat)(m:Int)(F:List Int)(hF:NO m F)(x y:Int)(hx:cg x)(hy:cg y)(w:World)(hr:Row w g off (F.map (Value.int .u64))):
 Calls Tryz.prog 92 #[.pointer (some ⟨g,off,none⟩),.agg ((words x).map (Value.int .u64)).toArray,.agg ((words y).map (Value.int .u64)).toArray] w fun e w' =>e= .returned (.agg ((words (x*y%m)).map (Value.int .u64)).toArray)∧Keeps w w':=
 FX _ x y (words (x*y%m)) rfl hx hy w (fun L W hl hd hv hk=>by
  have :=F0 g off m F hF L hl hd W (hr.keeps hk)
  rwa[hv]at this)
def un(m x e:Nat):Nat→Nat
 |0=>1
 |j+1=>if e/2^(255 -j)%2=1 then un m x e j*un m x e j%m*x%m else un m x e j*un m x e j%m
theorem Ba{m x e:Nat}(hm:1<m)(he:e<2^256):∀j,j≤256→un m x e j=x^(e/2^(256 -j))%m
 |0,_=>by rw[Nat.sub_zero,Nat.div_eq_of_lt he,Nat.pow_zero,Nat.mod_eq_of_lt hm];rfl
 |j+1,hj=>by
  have ih:=Ba (x:=x) hm he j (by omega)
  have e1:e/2^(256 -j)=e/2^(256 -(j+1))/2:=by
   rw[Nat.div_div_eq_div_mul,←Nat.pow_succ,show(256 -(j+1)).succ=256 -j by omega]
  rw[show 256 -(j+1)=255 -j by omega]at e1⊢
  unfold un
  rw[ih,e1]
  generalize e/2^(255 -j)=k
  have hk:=Nat.div_add_mod k 2
  rcases Nat.mod_two_eq_zero_or_one k with h|h
  ·rw[h,if_neg (by decide),←Nat.mul_mod,←Nat.pow_add,show k/2+k/2=k by omega]
  ·rw[h,if_pos rfl,←Nat.mul_mod,←Nat.pow_add,Nat.mod_mul_mod,←Nat.pow_succ,Nat.succ_eq_add_one,show k/2+k/2+1=k by omega]
theorem F1{m x e:Nat}(hm:1<m)(j:Nat):un m x e j<m:=by
 cases j with
 |zero=>exact hm
 |succ j=>unfold un;split<;>exact Nat.mod_lt _ (by omega)
theorem vl(e:Nat)(i:Nat)(hi:i<256):(words (e:Int)).getD (i/64) 0/2^(i%64)%2=((e/2^i%2:Nat):Int):=by
 rw[dR _ _ (by omega)]
 have h1:((18446744073709551616:Int)^(i/64))=((2^(64*(i/64)):Nat):Int):=by
  rw[show(18446744073709551616:Int)=((2^64:Nat):Int) by decide,←Int.natCast_pow,←Nat.pow_mul]
 have h2:((2:Int)^(i%64))=((2^(i%64):Nat):Int):=by rw[Int.natCast_pow];rfl
 have h3:(18446744073709551616:Int)=((2^64:Nat):Int):=by decide
 rw[h1,h2,h3]
 norm_cast
 have h4:i=64*(i/64)+i%64:=by omega
 conv=>rhs;rw[h4,Nat.pow_add,←Nat.div_div_eq_div_mul]
 generalize e/2^(64*(i/64))=q
 have h5:i%64<64:=Nat.mod_lt _ (by decide)
 generalize i%64=r at *
 rw[show(2^64:Nat)=2^r*2^(64 -r) by rw[←Nat.pow_add,show r+(64 -r)=64 by omega],Nat.mod_mul_right_div_self,show 64 -r=1+(63 -r) by omega,Nat.pow_add,Nat.pow_one,Nat.mod_mul_right_mod]
theorem sS:(2:Nat)^256=115792089237316195423570985008687907853269984665640564039457584007913129639936:=by decide
theorem jl{x:Nat}(h:x<2^256):cg (x:Int):=⟨by omega,by rw[sS]at h;omega⟩
theorem DL:Tryz.prog.built 95 [(0,.int .u64 1)]=some ((words 1).map (Value.int .u64)).toArray:=by kernel_rfl
theorem DM:Tryz.prog.built 95 [(0,.int .u64 2)]=some ((words 2).map (Value.int .u64)).toArray:=by kernel_rfl
def F2(w wr:World)(p:Nat)(X E L:List Int)(Z:List Value):Prop:=Keeps w wr∧Row wr p 0 (X.map (Value.int .u64))∧Row wr (p+1) 0 (E.map (Value.int .u64))∧Row wr (p+1+1) 0 Z∧Row wr (p+1+1+1) 0 (L.map (Value.int .u64))
theorem F3(fv:Value)(m x:Int)(E:List Int)(P:Nat→Int)(bt:Nat→Bool)(hx:cg x)(hE:E.length=4)(KO:∀i,i<4→0≤E.getD i 0∧E.getD i 0<18446744073709551616)(h0:P 0=1)(uB:∀j,cg (P j))
 (hS:∀i,i<256→(E.getD (i/64) 0/2^(i%64)%2=1∧P (256 -i)=P (256 -(i+1))*P (256 -(i+1))%m*x%m∧cg (P (256 -(i+1))*P (256 -(i+1))%m))∨(E.getD (i/64) 0/2^(i%64)%2=0∧P (256 -i)=P (256 -(i+1))*P (256 -(i+1))%m)) (w:World)
 (hM:∀a b W,cg a→cg b→Keeps w W→Calls Tryz.prog 92 #[fv,.agg ((words a).map (Value.int .u64)).toArray,.agg ((words b).map (Value.int .u64)).toArray] W fun e w' =>e= .returned (.agg ((words (a*b%m)).map (Value.int .u64)).toArray)∧Keeps W w'):
 Calls Tryz.prog 121 #[fv,.agg ((words x).map (Value.int .u64)).toArray,.agg (E.map (Value.int .u64)).toArray] w fun e' w' =>e' = .returned (.agg ((words (P 256)).map (Value.int .u64)).toArray)∧Keeps w w':=by
 have HM:=ae hM;have HS:=ae hS;have wQ:=ae uB;have R7:=ae KO;have HE:=ae hE;have R8:=ae hx
 have hxl:=ak x
 have NT:=ae h0
 generalize hX:words x=X at *
 have HX:=ae hX
 have A3:=ae hxl
 obtain⟨T,hT⟩:∃T:Nat→List Int,∀j,T j=words (P j):=⟨fun j=>words (P j),fun _=>rfl⟩
 rw[←hT 256]
 have HT:=ae hT
 have AE:=ae (fun j=>show(T j).length=4 by rw[hT];exact ak _)
 clear hM hS uB KO hE hx h0 hX hxl hT
 go_enter Tryz.func121,Tryz.ntmps121
 go_upto_region 2 with(fail)
 refine iB (fun W hk hra hrb hr2 hr3 hs=> ?_)
 obtain⟨p,hp⟩:∃p,p=w.heap.size:=⟨_,rfl⟩
 rw[←hp]at hra hrb hr2 hr3 hs⊢
 have hkp:w.heap.size≤p:=by omega
 obtain⟨Z,hZ,hrz⟩:∃Z:List Value,Z.length=4∧Row W (p+1+1) 0 Z:=⟨_,rfl,hr2⟩
 have I9:=ae (show F2 w W p X E (T 0) Z from⟨hk,hra,hrb,hrz,by rw[HT.o,NT.o];exact hr3⟩)
 clear hp hra hrb hr2 hr3 hrz hk hs
 go_wp2
 go_loopw [8] (fun c wr=>∃(k:Nat) (z:Int),k≤256∧c= .int .i64 z∧Hid (z=(k:Int) -1)∧Hid (F2 w wr p X E (T (256 -k)) Z)) (fun c _=>(intOf c+1).toNat)
 case atStart=>exact⟨256,255,by omega,rfl,ae (by omega),I9⟩
 case round=>
  obtain⟨k,z,hk8,rfl,HZ,bV⟩:=hrel
  obtain⟨hk9,ez,lF,ij,F5⟩:=bV.o
  have H1:=ae hk9;have H2:=ae ez;have H3:=ae lF;have H4:=ae ij;have H5:=ae F5
  clear bV hk9 ez lF ij F5
  have hkc:k=0∨∃i,k=i+1:=by
   cases k with
   |zero=>exact .inl rfl
   |succ i=>exact .inr ⟨i,rfl⟩
  rcases hkc with rfl|⟨i,rfl⟩
  ·obtain rfl:z= -1:=by have :=HZ.o;omega
   rw[Nat.sub_zero]at H5
   have iz:=AE.o 256
   go_wp2_with (first |(refine aj rfl 95 (.tmp 7) rfl _ 0 rfl ((T 256).map (Value.int .u64)) _ H5.o Tryz.underlying95 rfl (by rw[aF,iz];exact aE) ?_)|(refine wpList_store_row rfl 95 (.tmp 6) (.tmp 31) rfl (p+1+1) 0 rfl Z ((T 256).map (Value.int .u64)) rfl H4.o (by rw[aF,iz,hZ]) (by rw[aF,iz];exact aE) (ai _) ?_;intro w9 aR aJ;have H9:=ae aR;have bK:=ae aJ;clear aR aJ))
   exact bodyPost_ret (v:= .agg ((T 256).map (Value.int .u64)).toArray) (ar (p:=6) (ty:=95) rfl _ _ (p+1+1) 0 _ _ rfl H9.o Tryz.underlying95 rfl (by rw[aF,iz];exact aE)) rfl ⟨rfl,ag H1.o bK.o (by omega)⟩
  ·obtain rfl:z=(i:Int):=by have :=HZ.o;omega
   have hi:i<256:=by omega
   have c1:=H3.o.aT (i/64) (by rw[HE.o];omega)
   have he:=R7.o (i/64) (by omega)
   have hst:=HS.o i hi
   have hpu:=wQ.o (256 -(i+1))
   have HT1:=ae (HT.o (256 -(i+1)))
   have HT2:=ae (HT.o (256 -i))
   have ht1:=AE.o (256 -(i+1))
   have ht2:=AE.o (256 -i)
   generalize O7:E.getD (i/64) 0=ew at *
   have O8:=ae O7
   clear O7
   generalize P (256 -(i+1))=a at *
   generalize P (256 -i)=b at *
   generalize T (256 -(i+1))=TA at *
   generalize hTB:T (256 -i)=TB at *
   have F6:=ae hTB
   clear hTB
   have wN:=ae (fun W hk=>HM.o a a W hpu hpu hk)
   rw[←HT1.o]at wN
   have UC:i%64<64:=Nat.mod_lt _ (by decide)
   have hsl:=ak (a*a%m)
   rcases hst with⟨hb,hst,hu2⟩|⟨hb,hst⟩
   · have jV:=ae (fun W hk=>HM.o (a*a%m) x W hu2 R8.o hk)
     rw[←hst,←HT2.o,HX.o]at jV
     generalize words (a*a%m)=SQ at *
     have hand:bits .and .u64 (ew/2^(i%64)) 1=1:=by
      rw[eU (Int.ediv_nonneg he.1 (Int.le_of_lt (Int.pow_pos (by decide)))) (Int.lt_of_le_of_lt (Int.ediv_le_self _ he.1) he.2)];exact hb
     clear hb hst hu2
     go_upto_region 6 with(first |(refine aj rfl 95 (.tmp 7) rfl _ 0 rfl (TA.map (Value.int .u64)) _ H5.o Tryz.underlying95 rfl (by rw[aF,ht1];exact aE) ?_)|(go_at_call 92;refine(wN.o _ H1.o).mono ?_;rintro e W2 ⟨rfl,hk2⟩;have aq:=ae (H1.o.trans hk2);have JA:=ae (H2.o.keeps hk2);have JB:=ae (H3.o.keeps hk2);have LM:=ae (H4.o.keeps hk2);have LN:=ae (H5.o.keeps hk2);clear hk2)|(refine wpList_store_row rfl 95 (.tmp 7) (.tmp 17) rfl (p+1+1+1) 0 rfl (TA.map (Value.int .u64)) (SQ.map (Value.int .u64)) rfl LN.o (by rw[aF,aF,ht1,hsl]) (by rw[aF,hsl];exact aE) (ai _) ?_;intro W3 aR aJ;have c1:=(JB.o.aG aJ (by omega)).aT (i/64) (by rw[HE.o];omega);rw[O8.o]at c1;have K2:=ae (JA.o.aG aJ (by omega));have K3:=ae (JB.o.aG aJ (by omega));have K4:=ae (LM.o.aG aJ (by omega));have K5:=ae aR;have K1:=ae (ag aq.o aJ (by omega));clear aR aJ))
     go_upto_region 7 with(fail)
     go_wp2_with (first |(refine aj rfl 95 (.tmp 7) rfl _ 0 rfl (SQ.map (Value.int .u64)) _ K5.o Tryz.underlying95 rfl (by rw[aF,hsl];exact aE) ?_)|(refine aj rfl 95 (.tmp 4) rfl _ 0 rfl (X.map (Value.int .u64)) _ K2.o Tryz.underlying95 rfl (by rw[aF,A3.o];exact aE) ?_)|(go_at_call 92;refine(jV.o _ K1.o).mono ?_;rintro e W4 ⟨rfl,hk2⟩;have M1:=ae (K1.o.trans hk2);have M2:=ae (K2.o.keeps hk2);have M3:=ae (K3.o.keeps hk2);have M4:=ae (K4.o.keeps hk2);have M5:=ae (K5.o.keeps hk2);clear hk2)|(refine wpList_store_row rfl 95 (.tmp 7) (.tmp 30) rfl (p+1+1+1) 0 rfl (SQ.map (Value.int .u64)) (TB.map (Value.int .u64)) rfl M5.o (by rw[aF,aF,ht2,hsl]) (by rw[aF,ht2];exact aE) (ai _) ?_;intro W5 aR aJ;have N2:=ae (M2.o.aG aJ (by omega));have N3:=ae (M3.o.aG aJ (by omega));have N4:=ae (M4.o.aG aJ (by omega));have N5:=ae aR;have N1:=ae (ag M1.o aJ (by omega));clear aR aJ))
     go_roundw
     case rel=>exact⟨i,(i:Int) -1,by omega,by first |rfl|go_num,ae rfl,ae ⟨N1.o,N2.o,N3.o,N4.o,by rw[F6.o];exact N5.o⟩⟩
     case measure=>simp[intOf]<;>omega
   ·rw[←hst,←HT2.o]at wN
    have hand:bits .and .u64 (ew/2^(i%64)) 1=0:=by
     rw[eU (Int.ediv_nonneg he.1 (Int.le_of_lt (Int.pow_pos (by decide)))) (Int.lt_of_le_of_lt (Int.ediv_le_self _ he.1) he.2)];exact hb
    obtain⟨SQ,Rs⟩:∃SQ,SQ=TB:=⟨_,rfl⟩
    have hsl:SQ.length=4:=by rw[Rs];exact ht2
    rw[←Rs]at wN
    have Wm:=ae Rs
    clear hb hst Rs
    go_wp2_with (first |(refine aj rfl 95 (.tmp 7) rfl _ 0 rfl (TA.map (Value.int .u64)) _ H5.o Tryz.underlying95 rfl (by rw[aF,ht1];exact aE) ?_)|(go_at_call 92;refine(wN.o _ H1.o).mono ?_;rintro e W2 ⟨rfl,hk2⟩;have aq:=ae (H1.o.trans hk2);have JA:=ae (H2.o.keeps hk2);have JB:=ae (H3.o.keeps hk2);have LM:=ae (H4.o.keeps hk2);have LN:=ae (H5.o.keeps hk2);clear hk2)|(refine wpList_store_row rfl 95 (.tmp 7) (.tmp 17) rfl (p+1+1+1) 0 rfl (TA.map (Value.int .u64)) (SQ.map (Value.int .u64)) rfl LN.o (by rw[aF,aF,ht1,hsl]) (by rw[aF,hsl];exact aE) (ai _) ?_;intro W3 aR aJ;have c1:=(JB.o.aG aJ (by omega)).aT (i/64) (by rw[HE.o];omega);rw[O8.o]at c1;have K2:=ae (JA.o.aG aJ (by omega));have K3:=ae (JB.o.aG aJ (by omega));have K4:=ae (LM.o.aG aJ (by omega));have K5:=ae aR;have K1:=ae (ag aq.o aJ (by omega));clear aR aJ))
    go_roundw
    case rel=>exact⟨i,(i:Int) -1,by omega,by first |rfl|go_num,ae rfl,ae ⟨K1.o,K2.o,K3.o,K4.o,by rw[F6.o,←Wm.o];exact K5.o⟩⟩
    case measure=>simp[intOf]<;>omega
theorem pow_any(g off m:Nat)(F:List Int)(hF:NO (m:Int) F)(x e:Nat)(hx:x<2^256)(he:e<2^256)(w:World)(hr:Row w g off (F.map (Value.int .u64))):
 Calls Tryz.prog 121 #[.pointer (some ⟨g,off,none⟩),.agg ((words (x:Int)).map (Value.int .u64)).toArray,.agg ((words (e:Int)).map (Value.int .u64)).toArray] w fun e' w' =>e' = .returned (.agg ((words ((x^e%m:Nat):Int)).map (Value.int .u64)).toArray)∧Keeps w w':=by
 have hm2:m<2^256:=by have :=hF.mU.2;rw[sS];omega
 have hm1:1<m:=by have :=hF.two;omega
 have hfin:=Ba (x:=x) hm1 he 256 (Nat.le_refl _)
 rw[Nat.sub_self,Nat.pow_zero,Nat.div_one]at hfin
 rw[←hfin]
 refine F3 _ (m:Int) (x:Int) (words (e:Int)) (fun j=>((un m x e j:Nat):Int)) (fun _=>true) (jl hx) (ak _) (cY _) rfl (fun j=>jl (Nat.lt_trans (F1 hm1 j) hm2)) (fun i hi=> ?_) w (fun a b W ha hb hk=>mul_any g off (m:Int) F hF a b ha hb W (hr.keeps hk))
 rw[vl e i hi]
 have e1:256 -i=256 -(i+1)+1:=by omega
 have e2:255 -(256 -(i+1))=i:=by omega
 have hst:un m x e (256 -i)=if e/2^i%2=1 then un m x e (256 -(i+1))*un m x e (256 -(i+1))%m*x%m else un m x e (256 -(i+1))*un m x e (256 -(i+1))%m:=by
  conv=>lhs;rw[e1,un,e2]
 rcases Nat.mod_two_eq_zero_or_one (e/2^i)with h|h
 ·refine .inr ⟨by rw[h];rfl,?_⟩
  rw[hst,h,if_neg (by decide)]
  rw[Int.natCast_emod,Int.natCast_mul]
 ·refine .inl ⟨by rw[h];rfl,?_,?_⟩
  ·rw[hst,h,if_pos rfl,Int.natCast_emod,Int.natCast_mul,Int.natCast_emod,Int.natCast_mul]
  ·rw[←Int.natCast_mul,←Int.natCast_emod]
   exact jl (Nat.lt_trans (Nat.mod_lt _ (by omega)) hm2)
theorem yE(g off m:Nat)(F:List Int)(hF:NO (m:Int) F)(x:Nat)(hx:x<2^256)(w:World)(hr:Row w g off (F.map (Value.int .u64))):
 Calls Tryz.prog 126 #[.pointer (some ⟨g,off,none⟩),.agg ((words (x:Int)).map (Value.int .u64)).toArray] w fun e w' =>e= .returned (.agg ((words ((x^(m -2)%m:Nat):Int)).map (Value.int .u64)).toArray)∧Keeps w w':=by
 have hm2:m<2^256:=by have :=hF.mU.2;rw[sS];omega
 have hm1:2<m:=by have :=hF.two;omega
 have kj:=ae (mt (m:Int) 2 hF.mU ⟨by decide,by decide⟩)
 rw[show(m:Int) -2=((m -2:Nat):Int) by omega]at kj
 have LO:=ae (fun W (hk:Keeps w W)=>pow_any g off m F hF x (m -2) hx (by omega) W (hr.keeps hk))
 have HB2:=ae DM
 have hl:=ak (x:Int)
 have hml:=ak (m:Int)
 have hdl:=ak ((m -2:Nat):Int)
 have hrl:=ak ((x^(m -2)%m:Nat):Int)
 have bY:=ae (show Row w g off ((words (m:Int)).map (Value.int .u64)) by rw[←hF.m4,List.map_take];exact hr.take 4)
 generalize words ((x^(m -2)%m:Nat):Int)=RES at *
 generalize words ((m -2:Nat):Int)=R at *
 generalize words (x:Int)=X at *
 generalize words (m:Int)=MM at *
 generalize decide ((m:Int)<2)=D at *
 generalize words 2=TW at *
 clear hr hx hF hm1 hm2
 go_enter Tryz.func126,Tryz.ntmps126
 go_upto_region 1 with(fail)
 refine bu (fun W hk hr hr2 hs=> ?_)
 obtain⟨p,hp⟩:∃p,p=w.heap.size:=⟨_,rfl⟩
 rw[←hp]at hr hr2 hs⊢
 have hkp:w.heap.size≤p:=by omega
 obtain⟨Z,hZ,hrz⟩:∃Z:List Value,Z.length=4∧Row W (p+1) 0 Z:=⟨_,rfl,hr2⟩
 have HR:=ae (show Row W p 0 (X.map (Value.int .u64))from hr);have HK:=ae hk;have HZ:=ae hrz
 have dK:=ae (bY.o.keeps hk)
 clear hk hr hr2 hrz hp bY
 go_upto_region 2 with(first |(refine aj rfl 95 (.tmp 10) rfl g off rfl (MM.map (Value.int .u64)) _ dK.o Tryz.underlying95 rfl (by rw[aF,hml];exact aE) ?_)|(refine aW (by kernel_rfl) 95 _ rfl _ ?_ _ HB2.o ?_;focus(simp only[List.map_toArray,List.map_cons,List.map_nil];rfl))|(go_at_call 88;refine(kj.o _).mono ?_;rintro e W1 ⟨rfl,hk1⟩;have bw:=ae hk1;clear hk1)|(refine wpList_store_row rfl 95 (.tmp 5) (.tmp 14) rfl W1.heap.size 0 rfl [.int .u64 0,.int .u64 0,.int .u64 0,.int .u64 0] (R.map (Value.int .u64)) rfl (Row.new _ _ _ rfl) (by rw[aF,hdl];rfl) (by rw[aF,hdl];exact aE) (ai _) ?_;intro W2 hr2 hc2;have HR2:=ae hr2;have aq:=ae (ag (ah bw.o _) hc2 bw.o.size);clear hr2 hc2))
 have H3:=HR2
 have HX:=ae (HR.o.keeps aq.o)
 have H2:=ae (HZ.o.keeps aq.o)
 have aq:=ae (HK.o.trans aq.o)
 go_wp2_with (first |(refine aj rfl 95 (.tmp 3) rfl _ 0 rfl (X.map (Value.int .u64)) _ HX.o Tryz.underlying95 rfl (by rw[aF,hl];exact aE) ?_)|(refine aj rfl 95 (.tmp 5) rfl _ 0 rfl (R.map (Value.int .u64)) _ H3.o Tryz.underlying95 rfl (by rw[aF,hdl];exact aE) ?_)|(go_at_call 121;refine(LO.o _ aq.o).mono ?_;rintro e W2 ⟨rfl,hk2⟩;have bS:=ae hk2;clear hk2)|(refine wpList_store_row rfl 95 (.tmp 4) (.tmp 19) rfl (p+1) 0 rfl Z (RES.map (Value.int .u64)) rfl (H2.o.keeps bS.o) (by rw[aF,hrl,hZ]) (by rw[aF,hrl];exact aE) (ai _) ?_;intro w9 aR aJ;have H9:=ae aR;have bK:=ae aJ;clear aR aJ))
 exact bodyPost_ret (v:= .agg (RES.map (Value.int .u64)).toArray) (ar (p:=4) (ty:=95) rfl _ _ (p+1) 0 _ _ rfl H9.o Tryz.underlying95 rfl (by rw[aF,hrl];exact aE)) rfl ⟨rfl,ag (aq.o.trans bS.o) bK.o (by omega)⟩
end Go.Proofs.YtlofddoojkeakaaGreatDoor
