/- hash.Hash160 and the reference's: RIPEMD-160 of SHA-256.. -/
import Derived.Test.YtlofddoojkeakaaGreatDoorGD8
import Derived.Test.YtlofddoojkeakaaGreatDoorGD9
import Derived.Test.YtlofddoojkeakaaGreatDoorGD4
import Derived.Test.YtlofddoojkeakaaGreatDoorGC6
import Derived.Test.YtlofddoojkeakaaGreatDoorGD5
import Derived.Test.YtlofddoojkeakaaGreatDoorGA3
import Derived.Laws.BitsAllLaws
import Derived.Lib.AppendStr
import Derived.Lib.ItoaNum
set_option maxRecDepth 100000
set_option maxHeartbeats 2000000
set_option linter.unusedVariables false
set_option linter.unusedSimpArgs false
namespace Go.Proofs.YtlofddoojkeakaaGreatDoor.j4
open Go Go.RowKit
def fk:List Value:=List.replicate 20 (Value.int .u8 0)
theorem Cc:(Tryz.prog.info? 55).map (·.size)=some 20:=by kernel_rfl
theorem mX(v:Value)(n:Nat)(l:List Int)(w:World)(hr:Rd w 1 v n (l.map (Value.int .u8)))(hz:Bytes l)(hn:n≤35184372088832):
 Calls Tryz.prog 22 #[v] w fun e w' =>e= .returned (.agg ((ef (sha256 l)).map (Value.int .u8)).toArray)∧Keeps w w':=by
 obtain⟨a,cap,rfl⟩:∃a cap,v= .slice a n cap:=by obtain⟨_,a,cap,h,_⟩:=hr;exact⟨a,cap,h⟩
 have HS:=ae hr;have HZ:=ae hz
 clear hr hz
 go_enter Tryz.func22,Tryz.ntmps22
 go_upto_region 1 with(fail)
 obtain⟨p,hp⟩:∃p,p=w.heap.size:=⟨_,rfl⟩
 have hk0:Keeps w (w.alloc (.cells fk.toArray 55)):=av (Keeps.refl w) _
 have hr0:Row (w.alloc (.cells fk.toArray 55)) p 0 fk:=by rw[hp];exact Row.new _ _ _ rfl
 rw[←hp]
 have HP:=ae hp
 clear hp
 refine cf (fun W=>Keeps w W∧Row W p 0 fk) ⟨hk0,hr0⟩ ?_
 clear hk0 hr0
 intro W ⟨hk,hr⟩
 have HK:=ae hk;have HR:=ae hr
 clear hk hr
 have Z1:Hid ((Tryz.prog.info? 90).map (·.size)=some ((sha256 l).map (Value.int .u8)).length):=by
  rw[aF,fz];exact ae Dh
 have Z2:Hid ((Tryz.prog.info? 55).map (·.size)=some ((ef (sha256 l)).map (Value.int .u8)).length):=by
  rw[aF,dE];exact ae Cc
 have Z0:Hid (((sha256 l).map (Value.int .u8)).length=(List.replicate 32 (Value.int .u8 0)).length):=by
  rw[aF,fz];exact ae rfl
 go_upto_region 2 with(first |(go_at_call 43;refine(BW _ n l _ (HS.o.keeps HK.o) HZ.o hn).mono ?_;rintro e W3 ⟨rfl,hk3⟩;have bS:=ae hk3;clear hk3)|(refine wpList_store_row rfl 90 (.tmp 3) (.tmp 5) rfl W3.heap.size 0 rfl (List.replicate 32 (Value.int .u8 0)) _ rfl (Row.new _ _ _ rfl) Z0.o Z1.o (ai _) ?_;intro W4 hr4 hc4;have HR4:=ae hr4;have ky:=ae hc4;clear hr4 hc4))
 have hk4:Keeps w W4:=aD (av (HK.o.trans bS.o) _) ky.o (HK.o.trans bS.o).size
 have up:Row W4 p 0 fk:=((HR.o.keeps bS.o).alloc _).aG ky.o (by have h1:=HR.o.lt (by simp[fk]);have h2:=bS.o.size;omega)
 have gR:=ae hk4;have Il:=ae up
 clear hk4 up ky HR
 go_wp2_with (first |(go_at_call 44;refine(B9 _ 32 (sha256 l) _ (Im HR4.o) (vP l) (by omega)).mono ?_;rintro e W5 ⟨rfl,hk5⟩;have cG:=ae hk5;clear hk5)|(refine wpList_store_row rfl 55 (.tmp 2) (.tmp 7) rfl p 0 rfl _ _ rfl (Il.o.keeps cG.o) (by simp[fk,dE]) Z2.o (ai _) ?_;intro W6 eD hc6;have dM:=ae eD;have gC:=ae hc6;clear eD hc6))
 exact bodyPost_ret (v:= .agg ((ef (sha256 l)).map (Value.int .u8)).toArray) (ar (p:=2) (ty:=55) rfl _ _ p 0 _ _ rfl dM.o Tryz.underlying55 rfl Z2.o) rfl ⟨rfl,aD (gR.o.trans cG.o) gC.o (by have :=HP.o;omega)⟩
theorem Ai(v:Value)(n:Nat)(l:List Int)(w:World)(hr:Rd w 1 v n (l.map (Value.int .u8)))(hz:Bytes l)(hn:n≤35184372088832):
 Calls Tryz.prog 28 #[v] w fun e w' =>e= .returned (.agg ((ef (sha256 l)).map (Value.int .u8)).toArray)∧Keeps w w':=by
 obtain⟨a,cap,rfl⟩:∃a cap,v= .slice a n cap:=by obtain⟨_,a,cap,h,_⟩:=hr;exact⟨a,cap,h⟩
 have HS:=ae hr;have HZ:=ae hz
 clear hr hz
 go_enter Tryz.func28,Tryz.ntmps28
 go_upto_region 1 with(fail)
 obtain⟨p,hp⟩:∃p,p=w.heap.size:=⟨_,rfl⟩
 have hk0:Keeps w (w.alloc (.cells fk.toArray 55)):=av (Keeps.refl w) _
 have hr0:Row (w.alloc (.cells fk.toArray 55)) p 0 fk:=by rw[hp];exact Row.new _ _ _ rfl
 rw[←hp]
 have HP:=ae hp
 clear hp
 refine cf (fun W=>Keeps w W∧Row W p 0 fk) ⟨hk0,hr0⟩ ?_
 clear hk0 hr0
 intro W ⟨hk,hr⟩
 have HK:=ae hk;have HR:=ae hr
 clear hk hr
 have Z1:Hid ((Tryz.prog.info? 24).map (·.size)=some ((sha256 l).map (Value.int .u8)).length):=by
  rw[aF,fz];exact ae MY
 have Z2:Hid ((Tryz.prog.info? 55).map (·.size)=some ((ef (sha256 l)).map (Value.int .u8)).length):=by
  rw[aF,dE];exact ae Cc
 have Z0:Hid (((sha256 l).map (Value.int .u8)).length=(List.replicate 32 (Value.int .u8 0)).length):=by
  rw[aF,fz];exact ae rfl
 go_upto_region 2 with(first |(go_at_call 59;refine(BU _ n l _ (HS.o.keeps HK.o) HZ.o hn).mono ?_;rintro e W3 ⟨rfl,hk3⟩;have bS:=ae hk3;clear hk3)|(refine wpList_store_row rfl 24 (.tmp 3) (.tmp 5) rfl W3.heap.size 0 rfl (List.replicate 32 (Value.int .u8 0)) _ rfl (Row.new _ _ _ rfl) Z0.o Z1.o (ai _) ?_;intro W4 hr4 hc4;have HR4:=ae hr4;have ky:=ae hc4;clear hr4 hc4))
 have hk4:Keeps w W4:=aD (av (HK.o.trans bS.o) _) ky.o (HK.o.trans bS.o).size
 have up:Row W4 p 0 fk:=((HR.o.keeps bS.o).alloc _).aG ky.o (by have h1:=HR.o.lt (by simp[fk]);have h2:=bS.o.size;omega)
 have gR:=ae hk4;have Il:=ae up
 clear hk4 up ky HR
 go_wp2_with (first |(go_at_call 60;refine(Ca _ 32 (sha256 l) _ (Im HR4.o) (vP l) (by omega)).mono ?_;rintro e W5 ⟨rfl,hk5⟩;have cG:=ae hk5;clear hk5)|(refine wpList_store_row rfl 55 (.tmp 2) (.tmp 7) rfl p 0 rfl _ _ rfl (Il.o.keeps cG.o) (by simp[fk,dE]) Z2.o (ai _) ?_;intro W6 eD hc6;have dM:=ae eD;have gC:=ae hc6;clear eD hc6))
 exact bodyPost_ret (v:= .agg ((ef (sha256 l)).map (Value.int .u8)).toArray) (ar (p:=2) (ty:=55) rfl _ _ p 0 _ _ rfl dM.o Tryz.underlying55 rfl Z2.o) rfl ⟨rfl,aD (gR.o.trans cG.o) gC.o (by have :=HP.o;omega)⟩
end Go.Proofs.YtlofddoojkeakaaGreatDoor.j4
namespace Go.Proofs.YtlofddoojkeakaaGreatDoor
open Go Go.RowKit Cv
structure KD where
 d:Int
 fg:List Int
 ch:Int
 cc:List Int
 x:Int
 z:List Int
def KD.cells (k:KD):List Value:=aP k.d k.fg k.ch k.cc (k.x::k.z)
structure KD.ok (k:KD):Prop where
 d:0≤k.d∧k.d<256
 fl:k.fg.length=4
 fb:Bytes k.fg
 ch:0≤k.ch∧k.ch<4294967296
 cl:k.cc.length=32
 cb:Bytes k.cc
 x:Byte k.x
 zl:k.z.length=32
 zb:Bytes k.z
theorem KD.ok.db {k:KD}(h:k.ok):Bytes (k.x::k.z):=fun y hy=>by
 rcases List.mem_cons.1 hy with e|hy
 ·subst e;exact h.x
 ·exact h.zb y hy
theorem KD.ok.dl {k:KD}(h:k.ok):(k.x::k.z).length=33:=by rw[List.length_cons,h.zl]
def K0:KD:=⟨0,Z4,0,cw,0,cw⟩
theorem vW:Bytes cw:=fun y hy=>by
 rw[(List.mem_replicate.1 (show y∈List.replicate 32 0 from hy)).2]
 exact⟨by omega,by omega⟩
theorem gZ:K0.ok:=⟨⟨by decide,by decide⟩,rfl,fun y hy=>by
 rw[(List.mem_replicate.1 (show y∈List.replicate 4 0 from hy)).2]
 exact⟨by omega,by omega⟩,⟨by decide,by decide⟩,rfl,vW,⟨by decide,by decide⟩,rfl,vW⟩
def cF(x:Int)(z:List Int):Bool:=if x=0 then ey (be z)else(eK (x::z)).isSome
def bf(x:Int)(z:List Int):List Int:=if x=0 then li (be z)else x::z
def four(n:Int):List Int:=[n/16777216,n/65536%256,n/256%256,n%256]
theorem lx{n:Int}(h0:0≤n)(h1:n<4294967296):Bytes (four n):=fun y hy=>by
 simp only[four,List.mem_cons,List.not_mem_nil,or_false]at hy
 rcases hy with rfl|rfl|rfl|rfl<;>exact⟨by omega,by omega⟩
def a6(k:KD)(n:Int):List Int:=pD.qz k.cc ((if 2147483648≤n then k.x::k.z else bf k.x k.z)++four n)
theorem jA(k:KD)(n:Int):(a6 k n).length=64:=pD.rF _ _
theorem ib(k:KD)(n:Int):Bytes (a6 k n):=pD.tH _ _
def es(k:KD):List Int:=(j4.ef (sha256 (bf k.x k.z))).take 4
def bG(k:KD)(n:Int):List Int×Int:=if k.x=0 then((0::(eL (be k.z) (be ((a6 k n).take 32))).1),(eL (be k.z) (be ((a6 k n).take 32))).2)else gK (k.x::k.z) (be ((a6 k n).take 32))
def bE(k:KD)(n:Int):KD×Int:=
 if cF k.x k.z=true then
  (if k.d=255 then(K0,2)
   else if 2147483648≤n∧¬k.x=0 then(K0,1)
   else if(bG k n).2=0 then(⟨k.d+1,es k,n,(a6 k n).drop 32,(bG k n).1.headD 0,(bG k n).1.drop 1⟩,0)
   else(K0,7))
 else(K0,3)
def AI:KD→List Int→KD×Int
 |k,[]=>(k,0)
 |k,n::l=>if(bE k n).2=0 then AI (bE k n).1 l else(K0,(bE k n).2)
def iZ(k:KD)(l:List Int):KD×Int:=if cF k.x k.z=true then AI k l else(K0,3)
def xJ(k:KD):KD:=⟨k.d,k.fg,k.ch,k.cc,(bf k.x k.z).headD 0,(bf k.x k.z).drop 1⟩
def eX(k:KD):KD×Int:=if cF k.x k.z=true then(xJ k,0)else(K0,3)
end Go.Proofs.YtlofddoojkeakaaGreatDoor
namespace Go.Proofs.YtlofddoojkeakaaGreatDoor
open Go Go.RowKit Go.Shelf
theorem lD(B b:Nat)(bs:List Value)(s:ByteArray)(w:World)(h:Lib.IsBuilder 78 5 B b bs w)(hlen:bs.length+s.size≤140737488355328)(hBw:B≤w.heap.size):
 Calls Tryz.prog 39 #[.pointer (some ⟨b,0,none⟩),.string s] w fun e w' =>e= .returned (.tuple #[.int .i64 s.size,.nilIface])∧(Lib.BuilderAt 78 5 B b (.pointer (some ⟨b,0,none⟩)) (bs++Lib.strCells s) w'∧Below B w w'∧w.heap.size≤w'.heap.size):=by
 obtain⟨i0,hi,hz0,hz1,hz2⟩:=info_parts jI
 have hck:=check_any B b bs w h
 go_enter Tryz.func39,Tryz.ntmps39
 go_wp2_with (go_at_call 73;refine hck.mono ?_)
 rintro e w1 ⟨rfl,h1,hb1,hk1,hs1⟩
 obtain⟨hB,v,hbk,hown,hne⟩:=h1
 have c0:w1.cell? ⟨b,0,none⟩=some (.pointer (some ⟨b,0,none⟩)):=by rw[Lib.cell_of_heap hbk];rfl
 have c1:w1.cell? ⟨b,1,none⟩=some v:=by rw[Lib.cell_of_heap hbk];rfl
 go_wp2_with (at_builtin;refine Lib.wpList_append_own_string _ rfl _ _ 44 9 rfl B 5 i0 Tryz.underlying44 Tryz.underlying9 hi hz0 hz1 hz2 _ _ _ rfl hown s rfl ?c3 ?c4 ?c5 ?_)
 case c3=>unfold maxLen;omega
 case c4=>omega
 case c5=>have :=hb1.size;omega
 intro v' w2 hown' hgrow _
 have hlt:b<w1.heap.size:=by
  rcases Nat.lt_or_ge b w1.heap.size with h' |h'
  ·exact h'
  ·simp[Array.getElem?_eq_none h']at hbk
 have hb2:w2.heap[b]? =some (.cells #[.pointer (some ⟨b,0,none⟩),v] 78 (0,0)):=by
  rw[hgrow.block b hlt (fun e=>hne e.symm)]
  exact hbk
 have d0:w2.cell? ⟨b,0,none⟩=some (.pointer (some ⟨b,0,none⟩)):=by rw[Lib.cell_of_heap hb2];rfl
 have d1:w2.cell? ⟨b,1,none⟩=some v:=by rw[Lib.cell_of_heap hb2];rfl
 have f1:w2.frozen? ⟨b,1,none⟩=false:=Lib.frozen_of_heap hb2 1
 obtain⟨ao,n',cap,rfl⟩:∃ao n' cap,v' = .slice ao n' cap:=by
  rcases hown'.2 with⟨hv,_⟩|⟨g,cap,cur,hv,_⟩
  ·exact⟨_,_,_,hv⟩
  ·exact⟨_,_,_,hv⟩
 go_wp2
 go_ret2
 refine⟨rfl,?_,?_,?_⟩
 ·exact Lib.BuilderAt.put (T:=78) (e:=5) hB hb2 (bs':=bs++Lib.strCells s) (by simpa[Lib.strCells_length]using hown') (by decide)
 ·exact(hb1.grown hgrow (by have :=hb1.size;omega) (fun k hk=>(hown.lt k hk).1)).setCell (p:=⟨b,1,none⟩) hB _
 · have :=hgrow.size;simp at this⊢;omega
def nI(x:Int):List UInt8:=Lib.decDigits (x%2147483648).toNat
def stepT(x:Int):List UInt8:=47::(nI x++(if 2147483648≤x then[39]else[]))
def tR(l:List Int):List UInt8:=109::l.flatMap stepT
theorem tS{x:Int}(h:2147483648≤x):stepT x=47::nI x++[39]:=by unfold stepT;rw[if_pos h];rfl
theorem tT{x:Int}(h:¬2147483648≤x):stepT x=47::nI x:=by unfold stepT;rw[if_neg h];simp
theorem IN{x:Int}(h0:0≤x)(h1:x<4294967296):bits .andNot .u32 x 2147483648=x%2147483648:=by
 rw[u32_andNot x 2147483648 h0 h1 (by omega) (by omega)]
 have e:(4294967295 -(2147483648:Int).toNat:Nat)=2^31 -1:=by decide
 rw[e,Nat.and_two_pow_sub_one_eq_mod]
 omega
theorem Aj{α:Type}(f:α→List UInt8)(l:List α)(i:Nat):((l.take i).flatMap f).length≤(l.flatMap f).length:=by
 have :l.flatMap f=(l.take i).flatMap f++(l.drop i).flatMap f:=by rw[←List.flatMap_append,List.take_append_drop]
 rw[this,List.length_append];omega
theorem EQ(l:List Int)(i:Nat)(h:i<l.length):(l.take (i+1)).flatMap stepT=(l.take i).flatMap stepT++stepT (l.getD i 0):=by
 rw[List.take_succ_eq_append_getElem h,List.flatMap_append]
 simp[List.getD,h]
theorem byteCells_append(a b:List UInt8):Lib.byteCells (a++b)=Lib.byteCells a++Lib.byteCells b:=by simp[Lib.byteCells]
theorem mY(l:List UInt8):Lib.strCells ⟨l.toArray⟩=Lib.byteCells l:=rfl
theorem IO(v:Value)(n:Nat)(l:List Int)(w:World)(hr:Rd w 1 v n (l.map (Value.int .u32)))(hln:l.length=n)(hx:∀x∈l,0≤x∧x<4294967296)(hn:(tR l).length≤1000000)(hn2:n≤1000000)
 (hf:∀x∈l,∀W,Calls Tryz.prog 40 #[.int .u64 (x%2147483648),.int .i64 10] W fun e w' =>e= .returned (.string ⟨(nI x).toArray⟩)∧w' =W):
 Calls Tryz.prog 19 #[v] w fun e w' =>e= .returned (.string ⟨(tR l).toArray⟩)∧Keeps w w':=by
 obtain⟨a,cap,rfl⟩:∃a c,v= .slice a n c:=by obtain⟨_,a,c,e,_⟩:=hr;exact⟨a,c,e⟩
 have hcell:∀i,i<n→∃g off,a=some ⟨g,off,none⟩∧∀W,Keeps w W→W.cell? ⟨g,off+i,none⟩=some (.int .u32 (l.getD i 0)):=fun i hi=>by
  obtain⟨_,a',cap',e,h2,h3,h4,h5⟩:=hr
  cases e
  cases a with
  |none=>have :=(h4 rfl).1;omega
  |some ad=>
   obtain⟨g,off,rfl,hg,hrow⟩:=h5 ad rfl (by omega)
   exact⟨g,off,rfl,fun W hk=>(hrow.keeps hk).int i (by omega)⟩
 have QW:=ae hcell;have vV:=ae hln;have HX:=ae hx;have HF:=ae hf;have HN:=ae hn
 clear hr hcell hln hx hf hn
 obtain⟨P,hP⟩:∃P,P=tR l:=⟨_,rfl⟩
 rw[←hP]
 have HP:=ae hP
 clear hP
 go_enter Tryz.func19,Tryz.ntmps19
 go_upto_region 2 with(fail)
 refine cf (fun W=>Keeps w W∧Lib.IsBuilder 78 5 w.heap.size w.heap.size (Lib.byteCells []) W∧w.heap.size<W.heap.size) ⟨ah (Keeps.refl w) _,Lib.fresh_isBuilder 78 5 w,by simp⟩ ?_
 intro W0 ⟨hk0,hb0,hs0⟩
 have Jk:=ae hk0;have HB0:=ae hb0;have sI:=ae hs0
 clear hk0 hb0 hs0
 obtain⟨b,hbe⟩:∃b,b=w.heap.size:=⟨_,rfl⟩
 rw[←hbe]at HB0 sI⊢
 have RB:=ae hbe
 clear hbe
 go_upto_region 3 with(go_at_call 38;refine(nU b b _ 109 W0 HB0.o (by simp[Lib.byteCells]) (Nat.le_of_lt sI.o)).mono ?_;rintro e W1 ⟨rfl,hb1,QX,-,hs1⟩;have HB1:=ae hb1;have QY:=ae QX;have NM:=ae hs1;clear hb1 QX hs1)
 have hk1:Below b w W1:=Below.trans (by have :=Jk.o;rw[RB.o];exact this) QY.o
 have bw:=ae hk1
 have HW1:=ae (Nat.lt_of_lt_of_le sI.o NM.o)
 clear hk1 HB0 QY sI NM Jk
 go_wp2
 go_loopw [5,9] (fun _ c wr=>∃i:Nat,i≤n∧c= .int .i64 i∧Hid (Below b w wr)∧Hid (Lib.IsBuilder 78 5 b b (Lib.byteCells (109::(l.take i).flatMap stepT)) wr)∧Hid (b<wr.heap.size)) (fun _ c _=>(n -intOf c).toNat)
 case atStart=>exact⟨0,by omega,rfl,bw,ae (.inr HB1.o),HW1⟩
 case round=>
  obtain⟨i,hi,rfl,nc,K9,Ou⟩:=hrel
  by_cases hlt:i<n
  ·obtain⟨g,off,rfl,hc⟩:=QW.o i hlt
   have hil:i<l.length:=by rw[vV.o];exact hlt
   have hxm:l.getD i 0∈l:=by
    have :l.getD i 0=l[i]:=by simp[List.getD,hil]
    rw[this];exact List.getElem_mem hil
   have cz:=hc wr (by have :=nc.o;rw[RB.o]at this;exact this)
   obtain⟨x0,x1⟩:=HX.o _ hxm
   have VG:=ae (HF.o _ hxm)
   have QZ:=ae (EQ l i hil)
   have hlen:=Aj stepT l (i+1)
   rw[QZ.o]at hlen
   have hlen2:(109::((l.take i).flatMap stepT++stepT (l.getD i 0))).length≤1000000:=by
    have :=HN.o;unfold tR at this;simp only[List.length_cons]at this⊢;omega
   have HLEN:=ae hlen2
   clear hlen hlen2 hc hxm hil
   generalize(l.take i).flatMap stepT=T at *
   generalize l.getD i 0=x at *
   have hand:=IN x0 x1
   have hm0:0≤x%2147483648:=by omega
   have hm1:x%2147483648<2147483648:=by omega
   have hsn:(ByteArray.mk #[47]++ByteArray.mk (nI x).toArray)=ByteArray.mk (47::nI x).toArray:=by
    apply ByteArray.ext;simp
   generalize x%2147483648=y at *
   by_cases hh:2147483648≤x
   ·rw[tS hh]at QZ HLEN
    have hnl:¬9223372036854775807<1+(nI x).length:=by have :=HLEN.o;simp at this;omega
    go_upto_region 7 with(first
     |(go_at_call 40;refine(VG.o _).mono ?_;rintro e W2 ⟨rfl,rfl⟩)
     |(go_at_call 39;refine(lD b b _ ⟨(47::nI x).toArray⟩ _ K9.o (by have :=HLEN.o;simp[Lib.byteCells,ByteArray.size]at this⊢;omega) (Nat.le_of_lt Ou.o)).mono ?_;rintro e W3 ⟨rfl,hb3,IP,hs3⟩;have HB3:=ae hb3;have Nx:=ae IP;have Dd:=ae hs3;clear hb3 IP hs3))
    clear hnl
    go_wp2_with (go_at_call 38;refine(nU b b _ 39 W3 (.inr HB3.o) (by have :=HLEN.o;simp[Lib.byteCells,mY]at this⊢;omega) (Nat.le_of_lt (Nat.lt_of_lt_of_le Ou.o Dd.o))).mono ?_;rintro e W4 ⟨rfl,hb4,Q1,-,hs4⟩;have HB4:=ae hb4;have Uc:=ae Q1;have XY:=ae hs4;clear hb4 Q1 hs4)
    go_roundw
    case rel=>
     refine⟨i+1,by omega,by go_num,ae ((nc.o.trans Nx.o).trans Uc.o),ae (.inr ?_),ae (Nat.lt_of_lt_of_le Ou.o (Nat.le_trans Dd.o XY.o))⟩
     rw[QZ.o]
     have h:=HB4.o
     rw[mY,←byteCells_append]at h
     have e:Lib.byteCells (109::T++47::nI x)++[Value.int .u8 39]=Lib.byteCells (109::(T++(47::nI x++[39]))):=by
      rw[show[Value.int .u8 39]=Lib.byteCells [39]from rfl,←byteCells_append];simp
     rw[e]at h
     exact h
    case measure=>simp[intOf];omega
   ·rw[tT hh]at QZ HLEN
    have hnl:¬9223372036854775807<1+(nI x).length:=by have :=HLEN.o;simp at this;omega
    go_upto_region 7 with(first
     |(go_at_call 40;refine(VG.o _).mono ?_;rintro e W2 ⟨rfl,rfl⟩)
     |(go_at_call 39;refine(lD b b _ ⟨(47::nI x).toArray⟩ _ K9.o (by have :=HLEN.o;simp[Lib.byteCells,ByteArray.size]at this⊢;omega) (Nat.le_of_lt Ou.o)).mono ?_;rintro e W3 ⟨rfl,hb3,IP,hs3⟩;have HB3:=ae hb3;have Nx:=ae IP;have Dd:=ae hs3;clear hb3 IP hs3))
    clear hnl
    go_wp2
    go_roundw
    case rel=>
     refine⟨i+1,by omega,by go_num,ae (nc.o.trans Nx.o),ae (.inr ?_),ae (Nat.lt_of_lt_of_le Ou.o Dd.o)⟩
     rw[QZ.o]
     have h:=HB3.o
     rw[mY,←byteCells_append]at h
     exact h
    case measure=>simp[intOf];omega
  ·obtain rfl:i=n:=by omega
   rw[List.take_of_length_le (by rw[vV.o];exact Nat.le_refl _)]at K9
   have hpt:109::l.flatMap stepT=tR l:=rfl
   rw[hpt,←HP.o]at K9
   clear hpt
   go_wp2_with (go_at_call 41;refine(Tryz.Builder_String_any b b P wr K9.o (Nat.le_of_lt Ou.o)).mono ?_;rintro e W5 ⟨rfl,Q2⟩;have Ud:=ae Q2;clear Q2)
   go_ret
   exact⟨rfl,by have :=nc.o.trans Ud.o;rw[RB.o]at this;exact this⟩
end Go.Proofs.YtlofddoojkeakaaGreatDoor
