/- hash.Sum256, Double, Sum's Twice, and the reference's Double: SHA-256, and twice.. -/
import Derived.Test.YtlofddoojkeakaaGreatDoorGC8
import Derived.Test.YtlofddoojkeakaaGreatDoorGD3
import Derived.Test.YtlofddoojkeakaaGreatDoorGC9
import Derived.Test.YtlofddoojkeakaaGreatDoorGD2
import Derived.Laws.CopyOwn
import Derived.Test.YtlofddoojkeakaaGreatDoorGA2
set_option maxRecDepth 100000
set_option maxHeartbeats 4000000
set_option linter.unusedVariables false
set_option linter.unusedSimpArgs false
namespace Go.Proofs.YtlofddoojkeakaaGreatDoor
open Go Go.RowKit
theorem jw(ws:List Int):Bytes (dI ws):=by
 intro x hx
 simp only[dI,List.mem_flatMap,List.mem_cons,List.not_mem_nil,or_false]at hx
 obtain⟨y,_,h⟩:=hx
 unfold Byte
 rcases h with rfl|rfl|rfl|rfl<;>omega
theorem vP(l:List Int):Bytes (sha256 l):=jw _
theorem fz(l:List Int):(sha256 l).length=32:=bq _
theorem Dh:(Tryz.prog.info? 90).map (·.size)=some 32:=by kernel_rfl
theorem MY:(Tryz.prog.info? 24).map (·.size)=some 32:=by kernel_rfl
theorem BV{W:World}{p:Nat}(h:Row W p 0 gW):jv W p 0 (.slice none 0 0) []:=
 ⟨fun x hx=>by simp at hx,by simp,⟨⟨0,0,0,0,0,0,0,0⟩,false,by unfold St.ok W32;simp,.inr ⟨rfl,rfl⟩,h⟩,Buf.nil _ _,by simp[Value.ownBlock]⟩
def pI:List Value:=List.replicate 32 (Value.int .u8 0)
structure xD (w W:World) (p q:Nat):Prop where
 keeps:Keeps w W
 res:Row W p 0 pI
 sum:jv W q 0 (.slice none 0 0) []
 new:w.heap.size≤p∧p<q
theorem MZ(w:World)(T U:TypeId):xD w ((w.alloc (.cells pI.toArray T)).alloc (.cells gW.toArray U)) w.heap.size (w.heap.size+1):=
 ⟨av (av (Keeps.refl w) _) _,(Row.new _ _ _ rfl).alloc _,by
  have :=Row.new (w:=w.alloc (.cells pI.toArray T)) gW _ U rfl
  rw[World.size_alloc]at this
  exact BV this,Nat.le_refl _,by omega⟩
theorem xD.added {w W W':World}{p q:Nat}{l:List Int}(h:xD w W p q)(ha:pB W W' q 0 (.slice none 0 0) ([]++l)):∃wv,Keeps w W'∧Row W' p 0 pI∧jv W' q 0 wv l:=by
 obtain⟨wv,h1,h2,_⟩:=ha
 refine⟨wv,?_,h.res.aG h2 ?_,h1⟩
 ·exact Below.trans h.keeps (h2.below h.keeps.size (fun k hk e=>by
   rcases e with e|e
   · have :=h.new;omega
   ·simp[Value.ownBlock]at e))
 ·rintro(e|e)
  · have :=h.new;omega
  ·simp[Value.ownBlock]at e
theorem BW(v:Value)(n:Nat)(zs:List Int)(w:World)(hr:Rd w 1 v n (zs.map (Value.int .u8)))(hz:Bytes zs)(hn:n≤35184372088832):
 Calls Tryz.prog 43 #[v] w fun e w' =>e= .returned (.agg ((sha256 zs).map (Value.int .u8)).toArray)∧Keeps w w':=by
 have hzl:zs.length=n:=by have :=hr.1;simpa using this
 obtain⟨a,cap,rfl⟩:∃a cap,v= .slice a n cap:=by obtain⟨_,a,cap,h,_⟩:=hr;exact⟨a,cap,h⟩
 have HR:=ae hr;have HZ:=ae hz;have HL:=ae hzl
 clear hr hz hzl
 go_enter Tryz.func43,Tryz.ntmps43
 go_upto_region 2 with(fail)
 have hf:=MZ w 90 140
 obtain⟨q,hq⟩:∃q,q=w.heap.size+1:=⟨_,rfl⟩
 obtain⟨p,hp⟩:∃p,p=w.heap.size:=⟨_,rfl⟩
 rw[←hq,←hp]at hf⊢
 have HP:=ae hp
 clear hq hp
 refine cf (fun W=>xD w W p q) hf ?_
 clear hf
 intro W hf
 have HF:=ae hf
 clear hf
 go_upto_region 3 with(go_at_call 80;refine(sum_add q 0 _ [] _ n zs _ HF.o.sum (HR.o.keeps HF.o.keeps) HZ.o (by omega) (by simp;omega) (fun h0 e=>by have h1:=HR.o.MQ h0 q e;have h2:=HF.o.new;have h3:=HP.o;omega)).mono ?_;rintro e W2 ⟨rfl,hA⟩;have HA:=ae hA;clear hA)
 obtain⟨wv,hk,hr,hs⟩:=HF.o.added HA.o
 have HK:=ae hk;have HRR:=ae hr;have HS:=ae hs
 clear hk hr hs HA
 have Dg:Hid ((Tryz.prog.info? 90).map (·.size)=some ((sha256 zs).map (Value.int .u8)).length):=by
  rw[aF,fz];exact ae Dh
 go_wp2_with (first |(go_at_call 81;refine(Ig q 0 _ zs _ HS.o (by rw[HL.o];omega)).mono ?_;rintro e W3 ⟨rfl,hk3⟩;have bS:=ae hk3;clear hk3)|(refine wpList_store_row rfl 90 (.tmp 2) (.tmp 6) rfl p 0 rfl _ _ rfl (HRR.o.keeps bS.o) (by simp[pI,fz]) Dg.o (ai _) ?_;intro W4 hr4 hc4;have HR4:=ae hr4;have ky:=ae hc4;clear hr4 hc4))
 exact bodyPost_ret (v:= .agg ((sha256 zs).map (Value.int .u8)).toArray) (ar (p:=2) (ty:=90) rfl _ _ p 0 _ _ rfl HR4.o Tryz.underlying90 rfl Dg.o) rfl ⟨rfl,aD (HK.o.trans bS.o) ky.o (by have :=HP.o;omega)⟩
theorem Im{W:World}{q:Nat}{l:List Int}(h:Row W q 0 ((sha256 l).map (Value.int .u8))):Rd W 1 (.slice (some ⟨q,0,none⟩) 32 32) 32 ((sha256 l).map (Value.int .u8)):=
 Rd.bQ h (by simp[fz]) (h.lt (by intro e;have :=congrArg List.length e;rw[aF,fz]at this;simp at this)) (Nat.le_refl _) (by unfold maxLen;omega)
end Go.Proofs.YtlofddoojkeakaaGreatDoor
namespace Go.Proofs.YtlofddoojkeakaaGreatDoor.pD
open Go Go.RowKit Go.Shelf
theorem Io(w:World):Calls Tryz.prog 75 #[] w fun e w' =>e= .returned (.agg (jG.map (Value.int .u64)).toArray)∧Keeps w w':=by
 go_enter Tryz.func75,Tryz.ntmps75
 go_wp2_with (first |(refine wpList_buildFlatArr rfl 128 85 80 _ rfl .u64 jG Tryz.underlying128 BN (by kernel_rfl) (by kernel_rfl) ?_)|(refine wpList_store_row rfl 128 (.tmp 0) (.tmp 1) rfl w.heap.size 0 rfl (List.replicate 80 (Value.int .u64 0)) (jG.map (Value.int .u64)) rfl (Row.new _ _ _ rfl) (by kernel_rfl) (by kernel_rfl) (ai _) ?_;intro w1 hr hc))
 refine bodyPost_ret (ar (p:=0) (by kernel_rfl) _ _ w.heap.size 0 (jG.map (Value.int .u64)) _ rfl hr Tryz.underlying128 rfl (by kernel_rfl)) rfl ⟨rfl,?_⟩
 exact bU.keeps (((bU.refl (· =w.heap.size) w).alloc _).trans hc) (fun k hk e=>by omega)
theorem P5(v:Int)(h0:0≤v)(h1:v<18446744073709551616):(fJ v 16).reverse=List.replicate 8 0++Az v:=by
 simp[fJ,Az]
 omega
theorem J8(n:Nat)(hn:n<1152921504606846976):tb (17+bN 128 16 n) ((n:Int)*8) 8=dk 128 16 n false:=by
 have h:=P5 ((n:Int)*8) (by omega) (by omega)
 simp only[dk,tb,h,Bool.false_eq_true,if_false]
 simp only[Nat.sub_self,List.drop_zero,List.cons_append]
 rw[←List.append_assoc,show 17+bN 128 16 n -1 -8=bN 128 16 n+8 by omega,←List.replicate_append_replicate]
theorem J9(N:Nat)(v:Int)(hN:17≤N):(tb N v 8).getD (N -9) 0=0∧(tb N v 8).set (N -9) 0=tb N v 8:=by
 have e:(tb N v 8)[N -9]? =some 0:=by
  unfold tb
  rw[List.getElem?_append_left (by simp;omega),show N -9=(N -10)+1 by omega,List.getElem?_cons_succ,List.getElem?_replicate,if_pos (by omega)]
 refine⟨by simp[List.getD,e],?_⟩
 apply List.ext_getElem?
 intro i
 rw[List.getElem?_set]
 split
 · next h=>subst h;rw[e];have :=(List.getElem?_eq_some_iff.1 e).1;simp[this]
 · rfl
theorem Ew(n:Nat)(hn:n<1152921504606846976)(w:World):Calls Tryz.prog 77 #[.int .u64 n,.int .i64 128,.int .i64 16] w fun e w' =>
 e= .returned (.slice (some ⟨w.heap.size,0,none⟩) (17+bN 128 16 n) (17+bN 128 16 n))∧Keeps w w'∧w.heap.size<w'.heap.size∧Row w' w.heap.size 0 ((dk 128 16 n false).map (Value.int .u8)):=by
 have hf:((bN 128 16 n:Nat):Int)=127 -((n:Int)+16)%128:=by unfold bN;omega
 have hf2:bN 128 16 n≤127:=by unfold bN;omega
 obtain⟨i0,hi,hz0,hz1,hz2⟩:=info_parts jI
 have HT:=ae (J8 n hn)
 generalize dk 128 16 n false=FL at *
 generalize bN 128 16 n=f at *
 have HF:=ae hf;clear hf
 go_enter Tryz.func77,Tryz.ntmps77
 go_wp2_with (refine wpList_make_row rfl 44 (.tmp 25) (.tmp 25) rfl 5 i0 (.int .u8 0) 1 Tryz.underlying44 hi hz0 hz1 hz2 rfl .i64 .i64 _ (17+f) rfl rfl (by have :=HF.o;omega) (by omega) (by unfold maxLen;omega) ?_;intro w1 hr hk hsz;have c0:=(hr 0 _ (by rw[Nat.add_comm,List.replicate_succ];rfl)).1;have f0:=(hr 0 _ (by rw[Nat.add_comm,List.replicate_succ];rfl)).2;have HR:=ae hr;clear hr)
 go_loopw [29] (fun c wr=>∃i:Nat,i≤8∧c= .int .i64 i∧Keeps w wr∧w.heap.size<wr.heap.size∧Row wr w.heap.size 0 ((tb (17+f) ((n:Int)*8) i).map (Value.int .u8))) (fun c _=>(8 -intOf c).toNat)
 case atStart=>
  refine⟨0,by omega,rfl,Below.setCell hk (Nat.le_refl _) _,by simpa using hsz,?_⟩
  have :=HR.o.set 0 (by simp;omega) (.int .u8 128)
  rw[show(17+f)=(16+f)+1 by omega,List.replicate_succ]at this
  simpa[tb,Az,show 17+f -1=16+f by omega]using this
 case round=>
  obtain⟨i,E7,rfl,hk2,hsz2,hr⟩:=hrel
  by_cases hlt:i<8
  · have c1:=hr.aT (17+f -1 -i) (by rw[fH _ _ _ (by omega) E7];omega)
    have f1:=hr.bR (17+f -1 -i) (by rw[aF,fH _ _ _ (by omega) E7];omega)
    have hset:=hr.bl (17+f -1 -i) (by rw[fH _ _ _ (by omega) E7];omega) ((n:Int)*8/2^(8*i)%256)
    rw[Fs _ _ _ (by omega) hlt]at hset
    have e8:17+f -1 -i=16+f -i:=by omega
    rw[e8]at c1 f1 hset
    have HS:=ae hset;have HR2:=ae hr;clear hr hset e8
    go_wp2
    go_roundw
    case rel=>exact⟨i+1,by omega,by go_num,Below.setCell hk2 (Nat.le_refl _) _,by simpa using hsz2,HS.o⟩
    case measure=>simp[intOf];omega
  ·obtain rfl:i=8:=by omega
   obtain⟨t1,t2⟩:=J9 (17+f) ((n:Int)*8) (by omega)
   have c1:=hr.aT (17+f -9) (by rw[fH _ _ _ (by omega) E7];omega)
   have f1:=hr.bR (17+f -9) (by rw[aF,fH _ _ _ (by omega) E7];omega)
   have hset:=hr.bl (17+f -9) (by rw[fH _ _ _ (by omega) E7];omega) 0
   rw[t1]at c1
   rw[t2,HT.o]at hset
   have Yw:(n:Int)/2305843009213693952=0:=by omega
   have HS:=ae hset;clear hr hset t1 t2
   go_wp2
   go_ret
   exact⟨rfl,Below.setCell hk2 (Nat.le_refl _) _,by simpa using hsz2,HS.o⟩
def pJ(M:List Int)(s:St){B:Nat}(ys:List (Fin B)):St:=ys.foldl (fun s x=>compress s ((M.drop (128*x.val)).take 128)) s
theorem tE(M:List Int)(s:St){B:Nat}(ys:List (Fin B))(x:Fin B):pJ M s (ys++[x])=compress (pJ M s ys) ((M.drop (128*x.val)).take 128):=by simp[pJ]
theorem tF(M:List Int)(s:St)(B:Nat):∀k,k≤B→pJ M s ((List.finRange B).take k)=fQ s M k
 |0,_=>rfl
 |k+1,h=>by rw[rV (show k<B by omega),tE,tF M s B k (by omega)];rfl
theorem Ex(M:List Int)(s:St)(B:Nat):pJ M s (List.finRange B)=fQ s M B:=by
 have :=tF M s B B (Nat.le_refl _)
 rwa[List.take_of_length_le (by simp)]at this
theorem Ip(M:List Int){s:St}(h:s.ok){B:Nat}(ys:List (Fin B)):(pJ M s ys).ok:=by
 induction ys generalizing s with
 |nil=>exact h
 |cons a r ih=>exact ih (St.rN _ _)
theorem fA{W W':World}{row:Option Nat}{b off:Nat}{vs:List Value}(h:Row W b off vs)(hg:W.grownBy W' row)(hr:∀r,row=some r→∃o:Obj,W.heap[r]? =some o∧o.isCells=false):Row W' b off vs:=by
 by_cases hne:vs=[]
 ·subst hne;intro j v hv;simp at hv
 ·refine h.of_block (hg.block b (h.lt hne) (fun e=> ?_))
  obtain⟨o,ho,hc⟩:=hr b e.symm
  cases vs with
  |nil=>exact hne rfl
  |cons v vs=>
   have :=(h 0 v rfl).1
   cases o<;>simp_all [World.cell?,Obj.isCells]
theorem Ey(B:Nat)(w:World)(hB:w.heap.size≤B)(p2 p3 p4 gm om:Nat)(M:List Int){α:Type}(f:List α→St):OwnFrom B (fun(ys:List α) W=>cQ w W p2 p3 p4 gm om M (f ys)):=fun ys W W' row h hg hr=>by
 have hr2:∀r,row=some r→∃o:Obj,W.heap[r]? =some o∧o.isCells=false:=fun r e=>(hr r e).2
 exact⟨h.keeps.grown hg h.keeps.size (fun k e=>Nat.le_trans hB (hr k e).1),fA h.res hg hr2,fA h.key hg hr2,fA h.st hg hr2,fA h.msg hg hr2,h.new⟩
theorem zP{W:World}{b off:Nat}{v:Value}{vs:List Value}(h:Row W b off (v::vs))(o:Obj)(ho:W.heap[b]? =some o):o.isCells=true:=by
 have :=(h 0 v rfl).1
 cases o<;>simp_all [World.cell?,Obj.isCells]
theorem zQ{B p:Nat}{W W':World}(h:bU (· =p) W W')(hp:∀o,W.heap[p]? =some o→o.isCells=true):KeepsFrom B W W':=
 ⟨h.size,fun k o _ hk ho=>by
   rw[h.block k (Array.getElem?_eq_some_iff.1 hk).1 (fun e=>by have e':k=p:=e;rw[e']at hk;rw[hp o hk]at ho;cases ho)]
   exact hk⟩
theorem oA(v:Value)(n:Nat)(zs:List Int)(w:World)(hr:Rd w 1 v n (zs.map (Value.int .u8)))(hz:Bytes zs)(hn:n≤35184372088832):
 Calls Tryz.prog 42 #[v] w fun e w' =>e= .returned (.agg ((sha512 zs).map (Value.int .u8)).toArray)∧Keeps w w':=by
 have hzl:zs.length=n:=by have :=hr.1;simpa using this
 have BP:bN 128 16 n≤127:=(by unfold bN;omega)
 have hml:(zs++dk 128 16 n false).length=n+(17+bN 128 16 n):=by rw[List.length_append,gX,hzl];omega
 have hmb:Bytes (zs++dk 128 16 n false):=by
  intro x hx
  rcases List.mem_append.1 hx with h|h
  ·exact hz x h
  ·exact jQ 128 16 n false x h
 have hmod:(n+(17+bN 128 16 n))%128=0:=by unfold bN;omega
 have pG:sha512 zs=dI (fQ gj (zs++dk 128 16 n false) ((n+(17+bN 128 16 n))/128)).list:=by unfold sha512 xC;rw[hzl,hml]
 have htail:∀W,Calls Tryz.prog 77 #[.int .u64 n,.int .i64 128,.int .i64 16] W fun e w' =>e= .returned (.slice (some ⟨W.heap.size,0,none⟩) (17+bN 128 16 n) (17+bN 128 16 n))∧Keeps W w'∧W.heap.size<w'.heap.size∧Row w' W.heap.size 0 ((dk 128 16 n false).map (Value.int .u8)):=fun W=>Ew n (by omega) W
 have hclone:∀W,Keeps w W→Calls Tryz.prog 76 #[v] W fun e w' =>∃v',e= .returned v'∧Own W w' v' n zs:=fun W hk=>(clone_any v n zs W (hr.keeps hk) (by omega)).mono (by rintro e w' ⟨v',rfl,h1,h2,h3⟩;exact⟨v',rfl,h1,h2,h3⟩)
 have hfl:(dk 128 16 n false).length=17+bN 128 16 n:=by rw[gX];omega
 rw[pG]
 have zR:=ae htail;have tG:=ae hclone;have J7:=ae hmb;have qY:=ae hml;have rH:=ae hfl
 clear hz hzl htail hclone hmb hml pG hfl
 obtain⟨B,hB⟩:∃B,n+(17+bN 128 16 n)=128*B:=⟨(n+(17+bN 128 16 n))/128,by omega⟩
 rw[show(n+(17+bN 128 16 n))/128=B by omega]
 have P6:=ae hB
 obtain⟨_,a,cap,rfl,_⟩:=hr
 rw[hB]at qY
 have hBb:B≤549755813890:=by omega
 clear hmod hB
 generalize bN 128 16 n=f at *
 generalize dk 128 16 n false=FL at *
 generalize hM:zs++FL=M at *
 have HM:=ae hM
 clear hM
 refine(callsIn_wide (n:=3)).1 (callsIn_of_wp_marks Tryz.func42 rfl trivial (wpIn_wide.2 ?_) rfl)
 simp only[Tryz.ntmps42,List.size_toArray,List.length_cons,List.length_nil,Nat.reduceAdd,Nat.reduceSub,Array.replicate_succ,Array.replicate_zero,List.push_toArray,List.append_toArray,List.nil_append,List.cons_append]
 go_upto_region 1 with(fail)
 refine cf (fun W=>Keeps w W∧w.heap.size<W.heap.size∧Row W w.heap.size 0 (List.replicate 64 (Value.int .u8 0))) ⟨(Keeps.refl _).alloc (Nat.le_refl _) _,by show _<(w.heap.push _).size;rw[Array.size_push];omega,Row.new _ _ _ rfl⟩ ?_
 intro W1 ⟨hk1,hl1,hr1⟩
 have bw:=ae hk1;have HR1:=ae hr1
 clear hk1 hr1
 go_upto_region 2 with(refine wpList_store_row rfl 127 (.tmp 3) (.tmp 11) rfl W1.heap.size 0 rfl (List.replicate 8 (Value.int .u64 0)) (gj.list.map (Value.int .u64)) rfl (Row.new _ _ _ rfl) rfl (by kernel_rfl) (ai _) ?_;intro W2 hr2 hc2;have HR2:=ae hr2;have HC2:=ae hc2;clear hr2 hc2)
 have hk2:Keeps w W2:=aD (av bw.o _) HC2.o (Nat.le_of_lt hl1)
 have tC:Row W2 w.heap.size 0 (List.replicate 64 (Value.int .u8 0)):=(HR1.o.alloc _).aG HC2.o (by omega)
 have hl2:W1.heap.size<W2.heap.size:=HR2.o.lt (by simp[St.list])
 have aq:=ae hk2;have iy:=ae tC
 clear hk2 tC bw HR1 HC2
 obtain⟨p2,hp2⟩:∃p,p=w.heap.size:=⟨_,rfl⟩
 obtain⟨p3,hp3⟩:∃p,p=W1.heap.size:=⟨_,rfl⟩
 rw[←hp2]at iy⊢
 rw[←hp3]at HR2⊢
 have HP2:=ae hp2;have Fl:=ae hp3
 clear hp2 hp3
 go_upto_region 3 with(first |(go_at_call 75;refine(Io _).mono ?_;rintro e Wk ⟨rfl,hkk⟩;have HKK:=ae hkk;clear hkk)|(refine wpList_store_row rfl 128 (.tmp 4) (.tmp 12) rfl Wk.heap.size 0 rfl (List.replicate 80 (Value.int .u64 0)) (jG.map (Value.int .u64)) rfl (Row.new _ _ _ rfl) (by kernel_rfl) (by kernel_rfl) (ai _) ?_;intro W3 hr3 hc3;have HR3:=ae hr3;have fT:=ae hc3;clear hr3 hc3))
 have hpk:p3<Wk.heap.size:=by have :=Fl.o;have :=HKK.o.size;omega
 have hk3:Keeps w W3:=aD (av (aq.o.trans HKK.o) _) fT.o (by have :=aq.o.size;have :=HKK.o.size;omega)
 have zM:Row W3 p2 0 (List.replicate 64 (Value.int .u8 0)):=((iy.o.keeps HKK.o).alloc _).aG fT.o (by have :=HP2.o;have :=Fl.o;omega)
 have zN:Row W3 p3 0 (gj.list.map (Value.int .u64)):=((HR2.o.keeps HKK.o).alloc _).aG fT.o (by omega)
 have hl3:Wk.heap.size<W3.heap.size:=HR3.o.lt (by simp[jG])
 have bS:=ae hk3;have jx:=ae zM;have zO:=ae zN
 clear hk3 zM zN aq iy HR2 HKK fT
 obtain⟨p4,up⟩:∃p,p=Wk.heap.size:=⟨_,rfl⟩
 rw[←up]at HR3 hpk hl3⊢
 clear up
 go_upto_region 4 with(first |(go_at_call 76;refine(tG.o _ bS.o).mono ?_;rintro e W4 ⟨vc,rfl,hO⟩;have HO:=ae (show Own W3 W4 vc n zs from hO);clear hO)|(go_at_call 77;refine(zR.o _).mono ?_;rintro e W5 ⟨rfl,hk5,hl5,dG⟩;have cG:=ae hk5;have ej:=ae dG;clear hk5 dG)|(refine aO rfl (.tmp 14) (.tmp 18) rfl HO.o cG.o rfl _ rfl (17+f) FL (Rd.src (Rd.bQ ej.o (by have :=rH.o;simp;omega) hl5 (by omega) (by unfold maxLen;omega)) Tryz.underlying44 (ai FL)) (by omega) ?_;intro v6 W6 zS TD;have Jh:=ae zS;clear zS TD))
 have zS:=Jh.o
 rw[P6.o,HM.o]at zS
 obtain⟨gm,om,cm,rfl,hcm1,hcm2,hgm,hrm⟩:=zS.buf.form (.inr (by have :=P6.o;omega))
 have hra:cQ w W6 p2 p4 p3 gm om M (fQ gj M 0):=⟨bS.o.trans zS.keeps,jx.o.keeps zS.keeps,HR3.o.keeps zS.keeps,zO.o.keeps zS.keeps,hrm,by have :=zS.new gm rfl;have :=bS.o.size;have :=HP2.o;have :=Fl.o;omega⟩
 have bj:=ae hra
 have P7:=zS.keeps
 have P8:=bS.o
 clear hra hrm zS Jh HO cG ej bS jx zO HR3 zR tG
 have Yx:W3.heap.size≤W6.heap.size∧w.heap.size≤W3.heap.size∧w.heap.size≤W6.heap.size:=⟨P7.size,P8.size,bj.o.keeps.size⟩
 clear P7 P8
 go_upto_region 5 with(go_at_call 78;refine(vJ _ _ _ 128 (by omega) _).mono ?_;rintro e W7 ⟨rfl,rfl⟩)
 refine cf (fun W=>cQ w W p2 p4 p3 gm om M (fQ gj M 0)∧W.cell? ⟨W6.heap.size,0,none⟩=some (.slice (some ⟨gm,om,none⟩) (128*B) cm)∧W.cell? ⟨W6.heap.size+1,0,none⟩=some (.int .i64 128)∧W.heap.size=W6.heap.size+2) ?_ ?_
 ·refine⟨bj.o.step (av (av (Keeps.refl _) _) _),?_,?_,by simp⟩
  · have :=(((Row.new [Value.slice (some ⟨gm,om,none⟩) (128*B) cm] _ 44 rfl:Row (W6.alloc _) _ _ _).alloc (.cells #[.int .i64 128] 3)) 0 _ rfl).1
    rwa[Nat.zero_add]at this
  · have :=((Row.new [Value.int .i64 128] _ 3 rfl:Row ((W6.alloc (.cells #[.slice (some ⟨gm,om,none⟩) (128*B) cm] 44)).alloc _) _ _ _) 0 _ rfl).1
    rwa[Nat.zero_add,World.size_alloc]at this
 intro W7 ⟨Iq,hbs,hbn,hs7⟩
 have zT:=ae Iq
 clear Iq bj
 have hbk:p3<W6.heap.size∧p4<W6.heap.size:=by omega
 generalize W6.heap.size=q6 at *
 generalize W4.heap.size=q4 at *
 generalize TE:Value.agg #[Value.int IntKind.u64 7640891576956012808,Value.int IntKind.u64 13503953896175478587,Value.int IntKind.u64 4354685564936845355,Value.int IntKind.u64 11912009170470909681,Value.int IntKind.u64 5840696475078001361,Value.int IntKind.u64 11170449401992604703,Value.int IntKind.u64 2270897969802886507,Value.int IntKind.u64 6620516959819538809]=TF
 generalize Xc:Value.agg (List.map (Value.int IntKind.u64) jG).toArray=vK
 clear TE Xc
 refine(wpIn_wide (n:=3)).1 (wpIn_rangeFunc_ownG (α:=Fin B) rfl (by omega) (gf:=112) (lb:= #[.pointer (some ⟨q6,0,none⟩),.pointer (some ⟨q6+1,0,none⟩)]) rfl trivial (enters_of Tryz.func112 (by kernel_rfl) rfl)
  (rC _ (by omega) q6 (q6+1) W7.heap.size p3 gm om 128 B cm (by omega) (by omega) (by omega) hcm1 (by omega) (by omega) (by omega) (by omega) W7 (Nat.le_refl _) hbs hbn) (fun h k=>bU.trans h k) (J4.b (Nat.le_refl _)) (Below.refl _ _) (fun _=>rfl)
  (fun ys W=>cQ w W p2 p4 p3 gm om M (pJ M gj ys))
  (fun _ _ _=>False)
  (Ey _ w (by omega) p2 p4 p3 gm om M _)
  (fun _ _ _ _ _ hs _ _=>hs)
  zT.o
  (fun x=>{tmps:= #[.slice a n cap,undef,.pointer (some ⟨p2,0,none⟩),.pointer (some ⟨p3,0,none⟩),.pointer (some ⟨p4,0,none⟩),.slice (some ⟨gm,om,none⟩) (128*B) cm,.slice (some ⟨gm,om+128*x.val,none⟩) 128 128,undef,undef,undef,undef,TF,vK,.slice a n cap,vc,.slice a n cap,.int .i64 n,.int .u64 n,.slice (some ⟨q4,0,none⟩) (17+f) (17+f),.slice (some ⟨gm,om,none⟩) (128*B) cm,.slice (some ⟨gm,om,none⟩) (128*B) cm,.func (.func 112) #[] #[.pointer (some ⟨q6,0,none⟩),.pointer (some ⟨q6+1,0,none⟩)],
   .slice (some ⟨gm,om+128*x.val,none⟩) 128 128,undef,undef,undef,undef,undef,undef,undef,undef,undef,undef,undef,undef,undef,undef,undef,undef,undef,undef,undef,undef,undef,undef,undef,undef],defers:=[]}) ?assign ?body ?done ?stop)
 case assign=>
  intro l x W K hK
  have M0:= @Oper.semAt_some
  gi_wp2
  exact hK
 case body=>
  rintro l pre x W hI hlen
  have hlk:((M.drop (128*x.val)).take 128).length=128:=by have :=qY.o;have :=x.isLt;simp;omega
  have hlb:Bytes ((M.drop (128*x.val)).take 128):=fun y hy=>J7.o y (List.mem_of_mem_drop (List.mem_of_mem_take hy))
  have hok:=Ip M pE pre
  have hrow:Row W gm (om+128*x.val) (((M.drop (128*x.val)).take 128).map (Value.int .u8)):=by
   have :=(hI.msg.drop (128*x.val)).take 128
   rwa[←List.map_drop,←List.map_take]at this
  have hsn:=tE M gj pre x
  generalize pJ M gj pre=s at *
  have TG:=ae hsn;have HI:=ae hI;have Ok:=ae hlk;have xB:=ae hlb;have lL:=ae hok;have bY:=ae hrow
  clear hsn hI hlk hlb hok hrow
  have M0:= @Oper.semAt_some
  dsimp only
  gi_wp2_with (refine⟨trivial,?_⟩;gi_at_call 79;refine(CallsIn.inRound l (callsIn_wide.2 (oN s lL.o _ Ok.o xB.o p3 0 p4 gm (om+128*x.val) 128 (by omega) _ HI.o.st HI.o.key bY.o))).mono ?_;rintro e w2 ⟨rfl,hc,hr2,_⟩;have HC:=ae hc;have HR2:=ae hr2;clear hc hr2)
  refine⟨zQ HC.o (zP HI.o.st),HC.o.mono (fun k _ e=> .inl e),?_⟩
  show cQ w w2 p2 p4 p3 gm om M (pJ M gj (pre++[x]))
  rw[TG.o]
  exact HI.o.aG HC.o HR2.o
 case done=>
  rintro D ys W hD hys hI hK
  rw[hys,Ex]at hI
  have hok:=qx pE M B
  generalize hse:fQ gj M B=s at *
  have hDs:D<W.heap.size:=(Array.getElem?_eq_some_iff.1 hK).1
  have HI:=ae hI;have HK:=ae hK;have lL:=ae hok;have xV:=ae hse
  clear hI hK hok hse hys zT hbs hbn HM rH
  go_upto_region 8 with(fail)
  obtain⟨q,hq⟩:∃q,q=W.heap.size:=⟨_,rfl⟩
  have jy:cQ w (W.alloc (.cells (List.replicate 64 (Value.int .u8 0)).toArray 52)) p2 p4 p3 gm om M s:=HI.o.step (av (Keeps.refl _) _)
  have hrq:Row (W.alloc (.cells (List.replicate 64 (Value.int .u8 0)).toArray 52)) q 0 ((ei s 0).map (Value.int .u8)):=by rw[hq];exact Row.new _ _ _ (by rw[kJ];rfl)
  have rW:w.heap.size≤q∧p2≠q∧p3≠q∧D≠q:=by
   have h1:=HI.o.res.lt (by simp)
   have h3:=HI.o.st.lt (by simp[St.list])
   have h5:=HI.o.keeps.size
   omega
  have P9:(W.alloc (.cells (List.replicate 64 (Value.int .u8 0)).toArray 52)).heap[D]? =some (.deferred (some [])):=by rw[(av (Keeps.refl W) _).block D hDs];exact HK.o
  rw[←hq]
  refine cf (fun W' =>cQ w W' p2 p4 p3 gm om M s∧Row W' q 0 ((ei s 0).map (Value.int .u8))∧W'.heap[D]? =some (.deferred (some []))) ⟨jy,hrq,P9⟩ ?_
  clear jy hrq hq P9
  intro Wa ⟨hra,hrq,hda⟩
  have bj:=ae hra;have pH:=ae hrq;have lW:=ae rW;have TH:=ae hda
  have TI:D<Wa.heap.size:=(Array.getElem?_eq_some_iff.1 hda).1
  clear hra hrq HI rW hda HK
  have Z8:Hid ((Tryz.prog.info? 127).map (·.size)=some (s.list.map (Value.int .u64)).length):=ae nz
  go_upto_region 9 with(refine aj rfl 127 (.tmp 3) rfl p3 0 rfl (s.list.map (Value.int .u64)) _ bj.o.st Tryz.underlying127 rfl Z8.o ?_)
  go_loopw [26] (fun c wr=>∃i:Nat,i≤8∧c= .int .i64 i∧bU (· =q) Wa wr∧Row wr q 0 ((ei s (8*i)).map (Value.int .u8))) (fun c _=>(8 -intOf c).toNat)
  case atStart=>exact⟨0,by omega,rfl,bU.refl _ _,pH.o⟩
  case round=>
   obtain⟨i,hi,rfl,hch,hrt⟩:=hrel
   by_cases hlt:i<8
   · have hix:∀W:World,(Instr.index 127 (.agg (s.list.map (Value.int .u64)).toArray) (.int .i64 (i:Int))).run Tryz.prog W= .ok (.int .u64 (s.list.getD i 0)) W:=fun W=>dr W _ _ 8 _ s.list i Tryz.underlying127 Tryz.underlying85 (by kernel_rfl) (dQ s) hlt
     have hx:=jP lL.o i
     have hset:∀W j,j<8→Row W q 0 ((ei s (8*i+j)).map (Value.int .u8))→Row (W.setCell ⟨q,8*i+j,none⟩ (.int .u8 (s.list.getD i 0/2^(56 -8*j)%256))) q 0 ((ei s (8*i+(j+1))).map (Value.int .u8)):=fun W j hj h=>by
      have :=h.bl (8*i+j) (by rw[cM _ _ (by omega)];omega) (s.list.getD ((8*i+j)/8) 0/2^(56 -8*((8*i+j)%8))%256)
      rw[gl _ _ (by omega)]at this
      rwa[show(8*i+j)/8=i by omega,show(8*i+j)%8=j by omega]at this
     have bx:=ae hset;have dF:=ae hch;have cV:=ae hrt
     clear hset hch hrt
     generalize s.list.getD i 0=x at *
     obtain⟨x0,x1⟩:=hx
     go_wp2
     go_loopw [30] (fun c wr2=>∃j:Nat,j≤8∧c= .int .i64 j∧bU (· =q) Wa wr2∧Row wr2 q 0 ((ei s (8*i+j)).map (Value.int .u8))) (fun c _=>(8 -intOf c).toNat)
     case atStart=>exact⟨0,by omega,rfl,dF.o,cV.o⟩
     case round=>
      obtain⟨j,hj,rfl,hch,hrt⟩:=hrel
      by_cases hlt2:j<8
      · have hfr:=hrt.bR (8*i+j) (by rw[aF,cM _ _ (by omega)];omega)
        have hce:=hrt.aT (8*i+j) (by rw[cM _ _ (by omega)];omega)
        have HS:=ae (bx.o _ j hlt2 hrt);have M6:=ae hch
        clear hch hrt
        go_wp2
        go_roundw
        case rel=>exact⟨j+1,by omega,by go_num,M6.o.setCell (.inr rfl) _,HS.o⟩
        case measure=>simp[intOf];omega
      ·obtain rfl:j=8:=by omega
       have M6:=ae hch;have TJ:=ae hrt
       clear hch hrt
       go_wp2
       go_roundw
       case rel=>exact⟨i+1,by omega,by go_num,M6.o,by rw[show 8*(i+1)=8*i+8 by omega];exact TJ.o⟩
       case measure=>simp[intOf];omega
   ·obtain rfl:i=8:=by omega
    rw[ix]at hrt
    have hw2:=bj.o.res.aG hch lW.o.2.1
    have hkw:=aD bj.o.keeps hch lW.o.1
    have hdw:wr.heap[D]? =some (.deferred (some [])):=by rw[hch.block D TI (fun e=>lW.o.2.2.2 e)];exact TH.o
    have h64:(dI s.list).length=64:=bq _
    have TK:Hid ((Tryz.prog.info? 52).map (·.size)=some ((dI s.list).map (Value.int .u8)).length):=by
     rw[aF,h64];exact ae (by kernel_rfl)
    have hdl:D<wr.heap.size:=(Array.getElem?_eq_some_iff.1 hdw).1
    have HRR:=ae hrt;have HOW:=ae hw2;have aA:=ae hkw;have TL:=ae hdw
    clear hrt hch hw2 hkw hdw
    go_wp2_with (first |(refine aj rfl 52 (.tmp 7) rfl q 0 rfl _ _ HRR.o Tryz.underlying52 rfl TK.o ?_)|(refine wpList_store_row rfl 52 (.tmp 2) (.tmp 46) rfl p2 0 rfl _ _ rfl HOW.o (by simp[h64]) TK.o (ai _) ?_;intro lN iK eh;have cP:=ae iK;have fP:=ae eh;clear iK eh))
    have hK2:lN.heap[D]? =some (.deferred (some [])):=by
     rw[fP.o.block D hdl (fun e=>by have h2:=HP2.o;have e':D=p2:=e;omega)];exact TL.o
    have Qa:Keeps w lN:=Below.trans aA.o (fP.o.below aA.o.size (fun k hk e=>by have :=HP2.o;omega))
    have M7:=ae (fA cP.o (grownBy_putObj' lN D (.deferred none)) (fun r e=>by cases e;exact⟨_,hK2,rfl⟩))
    have Qb:=ae (Below.trans Qa (belowK_b (w:=w) (Nat.le_refl _) lN D _ (.deferred none) (by omega) hK2 rfl rfl))
    clear Qa
    simp only[kP]
    refine⟨by simp,.inl ⟨_,_,rfl,run_takeDeferred hK2,?_⟩⟩
    exact⟨_,ar (p:=2) (ty:=52) rfl _ _ p2 0 _ _ rfl M7.o Tryz.underlying52 rfl TK.o,by rw[xV.o],Qb.o⟩
 case stop=>
  rintro D c pre W _ _ h _
  exact h.elim
end Go.Proofs.YtlofddoojkeakaaGreatDoor.pD
namespace Go.Proofs.YtlofddoojkeakaaGreatDoor.pD
open Go Go.RowKit
theorem Ir:(Tryz.prog.info? 5).map (·.size)=some 1:=by kernel_rfl
def hkey(key:List Int):List Int:=if key.length≤128 then key else sha512 key
theorem mQ(key:List Int):(hkey key).length≤128:=by
 unfold hkey
 split
 · assumption
 ·rw[a7];omega
theorem oB{key:List Int}(h:Bytes key):Bytes (hkey key):=by
 unfold hkey
 split
 ·exact h
 ·exact ja _
def oC(key:List Int):List Int:=hkey key++List.replicate (128 -(hkey key).length) 0
theorem rE(key:List Int):(oC key).length=128:=by have :=mQ key;simp[oC];omega
theorem BZ{key:List Int}(h:Bytes key):Bytes (oC key):=by
 intro x hx
 simp only[oC,List.mem_append,List.mem_replicate]at hx
 rcases hx with hx|⟨_,rfl⟩
 ·exact oB h x hx
 ·unfold Byte;omega
def eN(c:Int)(l:List Int):List Int:=l.map fun x=>bits .xor .u8 x c
theorem mR(c:Int)(l:List Int):(eN c l).length=l.length:=by simp[eN]
theorem xE(op:BinOp)(a b:Int):Byte (bits op .u8 a b):=by
 unfold bits Byte
 split<;>simp only[IntKind.wrap_u8]<;>exact⟨by omega,by omega⟩
theorem ls(c:Int)(l:List Int):Bytes (eN c l):=by
 intro x hx
 obtain⟨y,_,rfl⟩:=List.mem_map.1 hx
 exact xE _ _ _
def qz(key l:List Int):List Int:=sha512 (eN 92 (oC key)++sha512 (eN 54 (oC key)++l))
theorem rF(key l:List Int):(qz key l).length=64:=a7 _
theorem tH(key l:List Int):Bytes (qz key l):=ja _
def qA(c:Int)(l:List Int)(i:Nat):List Int:=eN c (l.take i)++l.drop i
theorem vQ(c:Int)(l:List Int):qA c l 0=l:=by simp[qA,eN]
theorem Ez(c:Int)(l:List Int)(h:l.length=128):qA c l 128=eN c l:=by
 unfold qA
 rw[List.take_of_length_le (by omega),List.drop_eq_nil_of_le (by omega),List.append_nil]
theorem gL(c:Int)(l:List Int)(i:Nat)(h:l.length=128)(hi:i≤128):(qA c l i).length=128:=by simp[qA,eN,h];omega
theorem EA(c:Int)(l:List Int)(i:Nat)(h:l.length=128)(hi:i<128):(qA c l i).getD i 0=l.getD i 0:=by
 simp only[qA,List.getD]
 rw[List.getElem?_append_right (by simp[eN];omega),List.getElem?_drop]
 have e:i+(i -(eN c (l.take i)).length)=i:=by simp[eN];omega
 rw[e]
theorem zU(c:Int)(l:List Int)(i:Nat)(h:l.length=128)(hi:i<128):(qA c l i).set i (bits .xor .u8 (l.getD i 0) c)=qA c l (i+1):=by
 unfold qA
 have hl:(eN c (l.take i)).length=i:=by simp[eN];omega
 rw[List.set_append_right _ _ (by omega),hl,Nat.sub_self]
 have hd:l.drop i=l.getD i 0::l.drop (i+1):=by
  rw[List.drop_eq_getElem_cons (by omega)]
  simp[List.getD,show i<l.length by omega]
 rw[hd,List.set_cons_zero,List.take_succ_eq_append_getElem (by omega)]
 simp only[eN,List.map_append,List.map_cons,List.map_nil,List.append_assoc,List.cons_append,List.nil_append]
 simp only[List.getD,List.getElem?_eq_getElem (show i<l.length by omega),Option.getD_some]
theorem row_block{w:World}{g:Nat}{vs:List Value}{T:TypeId}(h:w.heap[g]? =some (.cells vs.toArray T (0,0))):Row w g 0 vs:=fun j v hv=>by
 rw[Nat.zero_add]
 refine⟨?_,frozen_of_row _ _ _ _ _ h⟩
 rw[cell_of_row _ _ _ _ _ _ h]
 simpa using hv
theorem mS{w:World}{ops:Array Oper}{rest:List Oper}{o:Oper}{a:Act}{Q:Exit→Act→World→Prop}(hgd:o.guard=none)(d s:Operand)
 (ho:o.op= .call {callee:= .builtin .copy,args:= #[d,s],argTypes:= #[44,44]}) (g c1:Nat) (hd:a.eval d= .slice (some ⟨g,0,none⟩) 128 c1) (sa:Option Addr) (n cap:Nat) (hs:a.eval s= .slice sa n cap) (hn:n≤128)
 (cur:List Value) (T:TypeId) (hg:w.heap[g]? =some (.cells cur.toArray T (0,0))) (hcur:cur.length=128) (xs:List Value) (hr:Rd w 1 (.slice sa n cap) n xs) (h1:∀v∈xs,v.oneCell' =true)
 (h:∀w',w'.heap[g]? =some (.cells (xs++cur.drop n).toArray T (0,0))→bU (· =g) w w'→wpList Tryz.prog ops Q rest (a.put o.dst (goInt n)) w'):wpList Tryz.prog ops Q (o::rest) a w:=by
 have hxl:xs.length=n:=by have :=hr.1;simpa using this
 obtain⟨_,a',cap',e,h2,h3,h4,h5⟩:=hr
 cases e
 by_cases h0:n=0
 ·subst h0
  have hx0:xs=[]:=List.eq_nil_of_length_eq_zero hxl
  subst hx0
  exact wpList_copy_nothing hgd d s _ _ ho 5 Tryz.underlying44 Ir _ _ _ _ _ _ hd hs (by simp) (h _ (by simpa using hg) (bU.refl _ _))
 · cases sa with
   |none=>exact absurd (h4 rfl).1 h0
   |some ad=>
    obtain⟨g2,off,rfl,_,hrow⟩:=h5 ad rfl (by omega)
    have hadd:∀j,(⟨g2,off,none⟩:Addr).add j=⟨g2,off+j,none⟩:=fun j=>by unfold Addr.add;split<;>simp_all
    refine wpList_copy_own (w:=w) hgd d s _ _ ho 5 Tryz.underlying44 Ir g 0 128 c1 ⟨g2,off,none⟩ n cap hd hs cur.toArray T hg xs (by rw[hxl];exact(Nat.min_eq_left hn).symm) (fun j v hv=>by rw[hadd];exact(hrow j v hv).1) (by simp;omega) h1 ?_
    rw[hxl]
    refine h _ ?_ ⟨rfl,rfl,rfl,by simp[World.setRow],fun k _ hk=>setRow_other _ _ _ _ hk⟩
    rw[setRow_heap _ _ _ _ _ _ hg]
    simp[hxl]
theorem vS{w W:World}{g N:Nat}{l:List Int}(hk:Keeps w W)(hg:w.heap.size≤g)(hl:l.length=N)(hN:0<N)(UK:N≤1024)(hr:Row W g 0 (l.map (Value.int .u8))):Own w W (.slice (some ⟨g,0,none⟩) N N) N l:=by
 have hlt:g<W.heap.size:=hr.lt (by intro e;have :=congrArg List.length e;rw[aF,hl]at this;simp at this;omega)
 refine⟨hk,⟨by simp[hl],.inr ⟨g,0,N,[],rfl,Nat.le_refl _,by unfold maxLen;omega,by simp[hl],hlt,by simpa using hr⟩⟩,fun g' e=> ?_⟩
 have :g=g':=Option.some.inj e
 omega
theorem Is(ks:List Int)(m:Nat)(hm:m=(hkey ks).length):((hkey ks).map (Value.int .u8))++(List.replicate 128 (Value.int .u8 0)).drop m=(oC ks).map (Value.int .u8):=by
 subst hm
 rw[List.drop_replicate]
 simp only[oC,List.map_append,List.map_replicate]
theorem zV:(List.replicate 128 (Value.int .u8 0)).length=128:=List.length_replicate
theorem zW:(Tryz.prog.info? 52).map (·.size)=some 64:=by kernel_rfl
theorem Ka(w:World)(T:TypeId):((w.alloc (.cells (List.replicate 128 (Value.int .u8 0)).toArray T)).alloc (.cells (List.replicate 128 (Value.int .u8 0)).toArray T)).heap[w.heap.size]? =some (.cells (List.replicate 128 (Value.int .u8 0)).toArray T (0,0))∧
 ((w.alloc (.cells (List.replicate 128 (Value.int .u8 0)).toArray T)).alloc (.cells (List.replicate 128 (Value.int .u8 0)).toArray T)).heap[w.heap.size+1]? =some (.cells (List.replicate 128 (Value.int .u8 0)).toArray T (0,0)):=by
 have h1:=heap_alloc_new w (.cells (List.replicate 128 (Value.int .u8 0)).toArray T)
 have h2:=heap_alloc_new (w.alloc (.cells (List.replicate 128 (Value.int .u8 0)).toArray T)) (.cells (List.replicate 128 (Value.int .u8 0)).toArray T)
 rw[World.size_alloc]at h2
 refine⟨?_,h2⟩
 rw[(av (Keeps.refl (w.alloc (.cells (List.replicate 128 (Value.int .u8 0)).toArray T))) _).block _ (by simp)]
 exact h1
theorem pK(kv bv:Value)(kn n:Nat)(ks zs:List Int)(w:World)(hrk:Rd w 1 kv kn (ks.map (Value.int .u8)))(hbk:Bytes ks)(hkn:kn≤1000000)(hrb:Rd w 1 bv n (zs.map (Value.int .u8)))(hzb:Bytes zs)(hn:n≤1000000):
 Calls Tryz.prog 20 #[kv,bv] w fun e w' =>e= .returned (.agg ((qz ks zs).map (Value.int .u8)).toArray)∧Keeps w w':=by
 have hkl:ks.length=kn:=by have :=hrk.1;simpa using this
 have hzl:zs.length=n:=by have :=hrb.1;simpa using this
 have hks:∀W,Keeps w W→Calls Tryz.prog 42 #[kv] W fun e w' =>e= .returned (.agg ((sha512 ks).map (Value.int .u8)).toArray)∧Keeps W w':=fun W hk=>oA kv kn ks W (hrk.keeps hk) hbk (by omega)
 have hkb:=oB hbk
 have hpb:=BZ hbk
 have hpl:=rE ks
 have hkl2:=mQ ks
 have hkm:=Is ks
 have hhm:qz ks zs=sha512 (eN 92 (oC ks)++sha512 (eN 54 (oC ks)++zs)):=rfl
 have Qc:kn≤128→hkey ks=ks:=fun h=>by unfold hkey;rw[if_pos (by omega)]
 have hkB:¬kn≤128→hkey ks=sha512 ks:=fun h=>by unfold hkey;rw[if_neg (by omega)]
 rw[hhm]
 obtain⟨ka,Qd,rfl⟩:∃a cap,kv= .slice a kn cap:=by obtain⟨_,a,cap,h,_⟩:=hrk;exact⟨a,cap,h⟩
 obtain⟨ba,TN,rfl⟩:∃a cap,bv= .slice a n cap:=by obtain⟨_,a,cap,h,_⟩:=hrb;exact⟨a,cap,h⟩
 have Ej:=ae hrk;have bH:=ae hrb;have TO:=ae hks;have TP:=ae hzb;have kX:=ae hpl;have LJ:=ae hkm;have It:=ae hkl;have EB:=ae hkl2;have jE:=ae Qc;have HKB:=ae hkB;have Ib:=ae hzl
 have HSL:=ae (a7 ks)
 clear hrk hrb hks hzb hbk hkb hpb hpl hkm hhm hkl hkl2 Qc hkB hzl
 generalize oC ks=hp at *
 generalize hkey ks=hk0 at *
 generalize sha512 ks=sk at *
 go_enter Tryz.func20,Tryz.ntmps20
 go_upto_region 1 with(fail)
 obtain⟨p4,up⟩:∃p,p=w.heap.size:=⟨_,rfl⟩
 have hk1:Keeps w (w.alloc (.cells (List.replicate 64 (Value.int .u8 0)).toArray 52)):=av (Keeps.refl w) _
 have hr1:Row (w.alloc (.cells (List.replicate 64 (Value.int .u8 0)).toArray 52)) p4 0 (List.replicate 64 (Value.int .u8 0)):=by rw[up];exact Row.new _ _ _ rfl
 rw[←up]
 have Il:=ae up
 clear up
 refine cf (fun W=>Keeps w W∧Row W p4 0 (List.replicate 64 (Value.int .u8 0))) ⟨hk1,hr1⟩ ?_
 clear hk1 hr1
 intro W1 ⟨hk1,hr1⟩
 have bw:=ae hk1;have HR1:=ae hr1
 clear hk1 hr1
 have hcase:(kn:Int)≤128∨(128:Int)<kn:=by omega
 rcases hcase with hc|hc
 focus
  have e1:=jE.o (by omega)
  have nc:=ae (show Rd W1 1 (.slice ka kn Qd) kn (hk0.map (Value.int .u8)) by rw[e1];exact Ej.o.keeps bw.o)
  have Kb:=ae (show kn=hk0.length by rw[e1,It.o])
  have hkn2:kn≤128:=by omega
  have aA:=bw
  have HR4:=HR1
  clear e1 TO jE HKB bw HR1
  go_upto_region 4 with(fail)
 rotate_left
 focus
  have e1:=HKB.o (by omega)
  go_upto_region 4 with(first |(go_at_call 42;refine(TO.o _ bw.o).mono ?_;rintro e W2 ⟨rfl,hk2⟩;have aq:=ae hk2;clear hk2)|(refine wpList_store_row rfl 52 (.tmp 5) (.tmp 14) rfl W2.heap.size 0 rfl (List.replicate 64 (Value.int .u8 0)) (sk.map (Value.int .u8)) rfl (Row.new _ _ _ rfl) (by rw[aF,HSL.o];rfl) (by rw[aF,HSL.o];exact zW) (ai _) ?_;intro W3 hr3 hc3;have HR3:=ae hr3;have fT:=ae hc3;clear hr3 hc3))
  have hkw:=aD (av (bw.o.trans aq.o) _) fT.o (bw.o.trans aq.o).size
  have hr4:Row W3 p4 0 (List.replicate 64 (Value.int .u8 0)):=((HR1.o.keeps aq.o).alloc _).aG fT.o (by have h1:=HR1.o.lt (by simp);have h2:=aq.o.size;omega)
  have hkr:Rd W3 1 (.slice (some ⟨W2.heap.size,0,none⟩) 64 64) 64 (hk0.map (Value.int .u8)):=by rw[e1];exact Rd.bQ HR3.o (by simp[HSL.o]) (HR3.o.lt (by intro e;have :=congrArg List.length e;rw[aF,HSL.o]at this;simp at this)) (by omega) (by unfold maxLen;omega)
  have Kb:=ae (show 64=hk0.length by rw[e1,HSL.o])
  have aA:=ae hkw;have HR4:=ae hr4;have nc:=ae hkr
  have hkn2:(64:Nat)≤128:=by omega
  clear e1 TO jE HKB bw HR1 aq HR3 fT hkw hr4 hkr
  generalize W2.heap.size=p5 at *
 all_goals
  rename World=>Wk
  go_upto_region 5 with(fail)
  obtain⟨n1,n2⟩:=Ka Wk 88
  have hkk:Keeps Wk ((Wk.alloc (.cells (List.replicate 128 (Value.int .u8 0)).toArray 88)).alloc (.cells (List.replicate 128 (Value.int .u8 0)).toArray 88)):=av (av (Keeps.refl Wk) _) _
  obtain⟨g7,Ve⟩:∃g,g=Wk.heap.size+1:=⟨_,rfl⟩
  obtain⟨g6,Vf⟩:∃g,g=Wk.heap.size:=⟨_,rfl⟩
  have hgg:Wk.heap.size≤g6∧Wk.heap.size≤g7∧g6≠g7∧w.heap.size≤g6∧w.heap.size≤g7:=by have :=aA.o.size;omega
  rw[←Ve]at n2⊢
  rw[←Vf]at n1⊢
  clear Vf Ve
  refine cf (fun W=>Keeps Wk W∧W.heap[g6]? =some (.cells (List.replicate 128 (Value.int .u8 0)).toArray 88 (0,0))∧W.heap[g7]? =some (.cells (List.replicate 128 (Value.int .u8 0)).toArray 88 (0,0))) ⟨hkk,n1,n2⟩ ?_
  clear n1 n2 hkk
  intro W5 ⟨hkk,n1,n2⟩
  have cG:=ae hkk;have N1:=ae n1;have N2:=ae n2;have Iu:=ae hgg
  clear hkk n1 n2 hgg
  go_upto_region 6 with(refine mS rfl (.tmp 16) (.tmp 17) rfl g6 128 rfl _ _ _ rfl hkn2 (List.replicate 128 (Value.int .u8 0)) 88 N1.o zV (hk0.map (Value.int .u8)) (nc.o.keeps cG.o) (ai hk0) ?_;intro W6 h6 hc6;have N6:=ae h6;have gC:=ae hc6;clear h6 hc6)
  have hk6:Keeps Wk W6:=aD cG.o gC.o Iu.o.1
  have Ol:W6.heap[g7]? =some (.cells (List.replicate 128 (Value.int .u8 0)).toArray 88 (0,0)):=by rw[gC.o.block g7 (Array.getElem?_eq_some_iff.1 N2.o).1 (fun e=>Iu.o.2.2.1 e.symm)];exact N2.o
  have iY:=ae hk6;have N7:=ae Ol
  clear hk6 Ol gC cG N1 N2
  go_upto_region 7 with(refine mS rfl (.tmp 19) (.tmp 20) rfl g7 128 rfl _ _ _ rfl hkn2 (List.replicate 128 (Value.int .u8 0)) 88 N7.o zV (hk0.map (Value.int .u8)) (nc.o.keeps iY.o) (ai hk0) ?_;intro W7 h7 po;have N8:=ae h7;have yR:=ae po;clear h7 po)
  have Fa:Keeps Wk W7:=aD iY.o yR.o Iu.o.2.1
  have Vg:W7.heap[g6]? =some (.cells (hp.map (Value.int .u8)).toArray 88 (0,0)):=by
   rw[yR.o.block g6 (Array.getElem?_eq_some_iff.1 N6.o).1 (fun e=>Iu.o.2.2.1 e),←LJ.o _ Kb.o];exact N6.o
  have Ol:W7.heap[g7]? =some (.cells (hp.map (Value.int .u8)).toArray 88 (0,0)):=by
   rw[←LJ.o _ Kb.o];exact N8.o
  have eD:=row_block Vg
  have nJ:=row_block Ol
  rw[←vQ 54 hp]at eD
  rw[←vQ 92 hp]at nJ
  have i8:=ae Fa;have dM:=ae eD;have qf:=ae nJ
  clear Fa Vg Ol eD nJ iY N6 N7 N8 yR nc LJ Kb hkn2
  go_wp2
  go_loopw [22] (fun c wr=>∃i:Nat,i≤128∧c= .int .i64 i∧Keeps Wk wr∧Row wr g6 0 ((qA 54 hp i).map (Value.int .u8))∧Row wr g7 0 ((qA 92 hp i).map (Value.int .u8))) (fun c _=>(128 -intOf c).toNat)
  case atStart=>exact⟨0,by omega,rfl,i8.o,dM.o,qf.o⟩
  case round=>
   obtain⟨i,hi,rfl,hkr,eD,nJ⟩:=hrel
   by_cases hlt:i<128
   · have c6:=eD.aT i (by rw[gL _ _ _ kX.o hi];exact hlt)
     have c7:=nJ.aT i (by rw[gL _ _ _ kX.o hi];exact hlt)
     rw[EA _ _ _ kX.o hlt]at c6 c7
     have f6:=eD.bR i (by rw[aF,gL _ _ _ kX.o hi];exact hlt)
     have f7:=nJ.bR i (by rw[aF,gL _ _ _ kX.o hi];exact hlt)
     have hs6:=eD.bl i (by rw[gL _ _ _ kX.o hi];exact hlt) (bits .xor .u8 (hp.getD i 0) 54)
     rw[zU _ _ _ kX.o hlt]at hs6
     have M8:=Iu.o.2.2.1
     have hs7:=(nJ.other (p:=⟨g6,i,none⟩) (fun e=>M8 e.symm) (.int .u8 (bits .xor .u8 (hp.getD i 0) 54))).bl i (by rw[gL _ _ _ kX.o hi];exact hlt) (bits .xor .u8 (hp.getD i 0) 92)
     rw[zU _ _ _ kX.o hlt]at hs7
     have Xd:=ae (hs6.other (p:=⟨g7,i,none⟩) M8 (.int .u8 (bits .xor .u8 (hp.getD i 0) 92)));have Xe:=ae hs7;have HKK:=ae hkr
     clear hs6 hs7 eD nJ hkr
     generalize hp.getD i 0=x at *
     have Vh:=M8.symm
     go_wp2
     go_roundw
     case rel=>exact⟨i+1,by omega,by go_num,Below.setCell (Below.setCell HKK.o (by have :=Iu.o.1;exact this) _) (by have :=Iu.o.2.1;exact this) _,Xd.o,Xe.o⟩
     case measure=>simp[intOf];omega
   ·obtain rfl:i=128:=by omega
    rw[Ez _ _ kX.o]at eD nJ
    have hkw:Keeps w wr:=aA.o.trans hkr
    have hr4:=HR4.o.keeps hkr
    have hO:=vS (w:=w) hkw Iu.o.2.2.2.1 (by rw[mR,kX.o]) (by omega) (by omega) eD
    have HO:=ae hO;have M9:=ae nJ;have Na:=ae hr4;have Iv:=ae hkw
    clear hkw hr4 hO eD nJ hkr dM qf i8
    have Qe:p4≠g6∧p4≠g7:=by have h1:=HR4.o.lt (by simp);have h2:=Iu.o;omega
    go_upto_region 14 with(first |(refine aO rfl (.tmp 36) (.tmp 37) rfl HO.o (Keeps.refl _) rfl _ rfl n zs (Rd.src (bH.o.keeps Iv.o) Tryz.underlying44 (ai zs)) (by omega) ?_;intro v8 W8 Qf Qg;have Nb:=ae Qf;have Nc:=ae Qg;clear Qf Qg)|(go_at_call 42;refine(oA _ (128+n) (eN 54 hp++zs) _ Nb.o.rd (fun x hx=>by rcases List.mem_append.1 hx with h|h;exact ls 54 hp x h;exact TP.o x h) (by omega)).mono ?_;rintro e W9 ⟨rfl,hk9⟩;have Kc:=ae hk9;clear hk9)|(refine wpList_store_row rfl 52 (.tmp 9) (.tmp 39) rfl W9.heap.size 0 rfl (List.replicate 64 (Value.int .u8 0)) ((sha512 (eN 54 hp++zs)).map (Value.int .u8)) rfl (Row.new _ _ _ rfl) (by rw[aF,a7];rfl) (by rw[aF,a7];exact zW) (ai _) ?_;intro lN iK eh;have cP:=ae iK;have fP:=ae eh;clear iK eh))
    have iz:W8.heap.size≤W9.heap.size:=Kc.o.size
    have RD:wr.heap.size≤W8.heap.size:=Nc.o.1.size
    have Xf:g7<wr.heap.size:=M9.o.lt (by intro e;have :=congrArg List.length e;rw[aF,mR,kX.o]at this;simp at this)
    have Xg:p4<wr.heap.size:=Na.o.lt (by simp)
    have Qh:Row lN g7 0 ((eN 92 hp).map (Value.int .u8)):=(((M9.o.aG Nc.o.1 (fun e=>Iu.o.2.2.1 (Option.some.inj (show some g6=some g7 from e)))).keeps Kc.o).alloc _).aG fP.o (by omega)
    have Qi:Row lN p4 0 (List.replicate 64 (Value.int .u8 0)):=(((Na.o.aG Nc.o.1 (fun e=>Qe.1 (Option.some.inj (show some g6=some p4 from e)).symm)).keeps Kc.o).alloc _).aG fP.o (by omega)
    have hkc:Keeps w lN:=aD (av (Nb.o.keeps.trans Kc.o) _) fP.o (Nb.o.keeps.trans Kc.o).size
    have dP:W9.heap.size<lN.heap.size:=cP.o.lt (by intro e;have :=congrArg List.length e;rw[aF,a7]at this;simp at this)
    have hd1:=a7 (eN 54 hp++zs)
    have Pr:=ae (ja (eN 54 hp++zs))
    generalize hde:sha512 (eN 54 hp++zs)=d1 at *
    have TQ:=ae hde
    clear hde
    have Er:=ae (vS (w:=w) hkc Iu.o.2.2.2.2 (by rw[mR,kX.o]) (by omega) (by omega) Qh)
    have Nd:=ae Qi
    have iX:=ae (show Rd lN 1 (.slice (some ⟨W9.heap.size,0,none⟩) 64 64) 64 (d1.map (Value.int .u8))from Rd.bQ cP.o (by simp[hd1]) dP (by omega) (by unfold maxLen;omega))
    have HD1:=ae hd1
    clear Qh Qi hkc hd1 HO M9 Na Iv Nb Nc Kc fP cP
    generalize W9.heap.size=q9 at *
    refine aB 2 (by kernel_rfl) (by kernel_rfl) ?_
    simp only[List.take_succ_cons,List.take_zero,List.drop_succ_cons,List.drop_zero]
    repeat(first |go_big_quiet_step (fail)|quiet_step (fail))
    refine wpQuiet_nil ?_
    intro _ hw'
    obtain⟨nq,hw''⟩:=hw'
    subst hw''
    go_wp2_with (first |(refine aO rfl (.tmp 40) (.tmp 41) rfl Er.o (Qt.drewN lN nq).keeps rfl _ rfl 64 d1 (Rd.src (iX.o.keeps (Qt.drewN lN nq).keeps) Tryz.underlying44 (ai d1)) (by omega) ?_;intro v12 Di Iw Ix;have Iy:=ae Iw;have Nf:=ae Ix;clear Iw Ix)|(go_at_call 42;refine(oA _ (128+64) (eN 92 hp++d1) _ Iy.o.rd (fun x hx=>by rcases List.mem_append.1 hx with h|h;exact ls 92 hp x h;exact Pr.o x h) (by omega)).mono ?_;rintro e EC ⟨rfl,Iz⟩;have fK:=ae Iz;clear Iz)|(refine wpList_store_row rfl 52 (.tmp 4) (.tmp 43) rfl p4 0 rfl (List.replicate 64 (Value.int .u8 0)) ((sha512 (eN 92 hp++d1)).map (Value.int .u8)) rfl (((Nd.o.drewN nq).aG Nf.o.1 (fun e=>Qe.2 (Option.some.inj (show some g7=some p4 from e)).symm)).keeps fK.o) (by rw[aF,a7];rfl) (by rw[aF,a7];exact zW) (ai _) ?_;intro ED IA mJ;have Ng:=ae IA;have xg:=ae mJ;clear IA mJ))
    exact bodyPost_ret (v:= .agg ((sha512 (eN 92 hp++d1)).map (Value.int .u8)).toArray) (ar (p:=4) (ty:=52) rfl _ _ p4 0 _ _ rfl Ng.o Tryz.underlying52 rfl (by rw[aF,a7];exact zW)) rfl ⟨by rw[TQ.o],aD (Iy.o.keeps.trans fK.o) xg.o (by have :=Il.o;omega)⟩
end Go.Proofs.YtlofddoojkeakaaGreatDoor.pD
