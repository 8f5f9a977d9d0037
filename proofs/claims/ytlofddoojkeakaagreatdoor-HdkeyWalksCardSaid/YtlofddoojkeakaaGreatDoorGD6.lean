/- A region that draws its order, inside a round of a range over a function: its first operations quiet (in a class of worlds), then the last ones as a l. -/
import Derived.Test.YtlofddoojkeakaaGreatDoorGA0
import Derived.OrdersIn
import Derived.TacticsInMore
import Derived.RangeFuncCalls
import Derived.Lib.QuietBelow
import Derived.Sort.QuietThIn
import Derived.Test.YtlofddoojkeakaaGreatDoorGD1
import Derived.Test.YtlofddoojkeakaaGreatDoorGD0
set_option maxRecDepth 100000
set_option maxHeartbeats 800000
set_option linter.unusedVariables false
set_option linter.unusedSimpArgs false
namespace Go.Proofs.YtlofddoojkeakaaGreatDoor
open Go Go.RowKit
section
variable {P:Program} {ops:Array Oper} {md:Region.Mode} {C:World→Prop} {l n:Nat}
def pM(ops:Array Oper):Bool:=ops.all fun o=>match o.op with | .defer _=>false|_=>true
theorem B5(h:pM ops=true){i:Nat}{o:Oper}(hi:ops[i]? =some o):∀c,o.op≠ .defer c:=by
 intro c e
 obtain⟨hlt,rfl⟩:=Array.getElem?_eq_some_iff.1 hi
 have :=Array.all_eq_true.1 h i hlt
 rw[e]at this
 cases this
theorem nG{o:Oper}{a:Act}{K:Act→Prop}{K':Act→World→Prop}{Q':Exit→Act→World→Prop}{w:World}(hd:∀c,o.op≠ .defer c)(hw:C w)(h:∀a w',C w'→K a→K' a w')
 (hh:o.quiet P a C K):o.wpIn (Fence.wide.inRound l) n P a w K' Q':=by
 obtain⟨v,h1,h2⟩:=hh
 have h3:=h1 w hw
 unfold Oper.quietAt at h3
 unfold Oper.wpIn
 refine⟨fun f _=>trivial,?_⟩
 rw[show(Fence.wide.inRound l).round=some l from rfl,Oper.semAt_some _ _ _ hd]
 generalize(execOp a.eval o).run P w=r at *
 cases r with
 |ok x w' =>
  cases x<;>simp only[Oper.quietUpon]at h3<;>simp only[Oper.uponIn]
  case value u=>
   obtain⟨e1,e2⟩:=h3
   rw[e1,e2]
   exact h _ _ hw h2
  case skip=>
   obtain⟨e1,e2⟩:=h3
   rw[e1,←e2]
   exact h _ _ hw h2
  case enter f args=>
   obtain⟨e1,hc⟩:=h3
   rw[e1]
   exact⟨fun hd=>(by cases hd),(CallsIn.inRound l (callsIn_wide.2 hc)).mono fun e w'' ⟨he,hw''⟩=>by subst he;exact h _ _ hw'' h2⟩
 |halt x w' =>simp only[Oper.quietUpon]at h3
theorem nH{i:Nat}{a:Act}{K:Act→Prop}{K':Act→World→Prop}{Q':Exit→Act→World→Prop}{w:World}(hnd:pM ops=true)(hC:C w)(h:∀a w',C w'→K a→K' a w')
 (hh:qOp P ops C i K a):wpOpIn (Fence.wide.inRound l) n P ops Q' i K' a w:=by
 unfold qOp at hh
 unfold wpOpIn
 split
 · rename_i ho;simp only[ho]at hh;exact h _ _ hC hh
 · rename_i o ho
   simp only[ho]at hh
   split
   · rename_i hw;simp only[hw,if_true]at hh;exact nG (B5 hnd ho) hC h hh
   · rename_i hw;simp only[hw]at hh;exact⟨fun f _=>trivial,h _ _ hC hh⟩
theorem kM{k g:Nat}{L:Array Bool→Act→Prop}{Q':Exit→Act→World→Prop}(hnd:pM ops=true)(hL:∀listed a w,C w→L listed a→wpAnyIn (Fence.wide.inRound l) n P md ops Q' g listed a w):
 ∀(f:Nat) (listed:Array Bool) (a:Act) (w:World),C w→m6 P md ops C k L f listed a→wpAnyIn (Fence.wide.inRound l) n P md ops Q' (f+g) listed a w
 |0,listed,a,w,hw,h=>by rw[Nat.zero_add];exact hL _ _ _ hw h
 |f+1,listed,a,w,hw,h=>by
  rw[show f+1+g=(f+g)+1 by omega]
  exact⟨fun h0=>absurd h0 h.1,fun i hi=>nH hnd hw (fun a' w' hw' h' =>kM hnd hL f _ a' w' hw' h') (h.2 i hi).2⟩
theorem mT{F:Fence}{Q':Exit→Act→World→Prop}:∀(lo:List Oper) (k:Nat) (listed:Array Bool) (a:Act) (w:World),(∀j,lo[j]? =ops[k+j]?)→
 Region.seqB md ops lo.length k listed=true→wpListIn F n P ops Q' lo a w→wpAnyIn F n P md ops Q' lo.length listed a w
 |[],_,_,_,_,_,hB,h=>⟨by simpa[Region.seqB]using hB,h⟩
 |o::lo,k,listed,a,w,hl,hB,h=>by
  have h0:ops[k]? =some o:=by simpa using(hl 0).symm
  simp only[List.length_cons,Region.seqB,Bool.and_eq_true,decide_eq_true_eq]at hB
  refine⟨fun h1=>(by rw[hB.1]at h1;cases h1),fun i hi=> ?_⟩
  rw[hB.1]at hi
  have hik:i=k:=by simpa using hi
  subst hik
  have hw:wpOpIn F n P ops Q' i (wpListIn F n P ops Q' lo) a w:=by unfold wpOpIn;simp only[h0];exact h
  exact wpOpIn_mono (fun a' w' h' =>mT lo (i+1) _ a' w' (fun j=>by have :=hl (j+1);simpa[Nat.add_assoc,Nat.add_comm 1 j]using this) hB.2 h') hw
theorem rK{id:Nat}{Q:Exit→Act→World→Prop}{a:Act}{w:World}{lo:List Oper}(k:Nat)(hm:P.follows .mixedOrders=true)(hB:Region.lexTailB .any lo.toArray k=true)(hnd:pM lo.toArray=true)(hC:C {w with drawn:=w.drawn+1})
 (h:wpQuiet P lo.toArray C (fun a' =>∀w',C w'→wpListIn (Fence.wide.inRound l) n P lo.toArray Q (lo.drop k) a' w') (lo.take k) a):(Code.region id lo.toArray true).wpIn (Fence.wide.inRound l) n P Q a w:=by
 simp only[Region.lexTailB,Bool.and_eq_true,decide_eq_true_eq]at hB
 obtain⟨⟨⟨⟨hsel,hn⟩,hs⟩,hc⟩,hlex⟩:=hB
 have hn':k<lo.length:=by simpa using hn
 have htl:(lo.take k).length=k:=by simp;omega
 have hdl:(lo.drop k).length=lo.toArray.size -k:=by simp
 have inv0:HeadInv .any lo.toArray k (Array.replicate lo.toArray.size false):=
  ⟨by simp,fun j oj _ hl=>(by rw[getD_replicate_false]at hl;cases hl),fun t _ ht=>getD_in (by simpa using ht) (getD_replicate_false _ _)⟩
 have H:=mm (md:= .any) (g:=lo.toArray.size -k) hsel hs hc hn (lo.take k) 0 _ a (fun j hj=>by
  have hj':j<k:=by rw[htl]at hj;exact hj
  simp[hj']) (by simpa using htl) inv0 (by rw[htl];exact hlex) h
 refine wpIn_region_any hm ?_
 have :=kM (l:=l) (n:=n) (Q':=Q) (g:=lo.toArray.size -k) hnd (fun listed a' w' hw' hL=>by
  have :=mT (F:=Fence.wide.inRound l) (n:=n) (md:= .any) (Q':=Q) (lo.drop k) k listed a' w' (fun j=>by simp[List.getElem?_drop]) (by rw[hdl];exact hL.1) (hL.2 w' hw')
  rwa[hdl]at this) _ _ _ {w with drawn:=w.drawn+1} hC H
 rw[htl,show k+(lo.toArray.size -k)=lo.toArray.size by omega]at this
 exact this
theorem qC{id:Nat}{Q:Exit→Act→World→Prop}{a:Act}{w:World}{lo:List Oper}(k:Nat)(hm:P.follows .mixedOrders=true)(hB:Region.lexTailB .any lo.toArray k=true)(hnd:pM lo.toArray=true)
 (h:wpQuiet P lo.toArray (fun w' =>∃m,w' =w.drewN m) (fun a' =>∀w',(∃m,w' =w.drewN m)→wpListIn (Fence.wide.inRound l) n P lo.toArray Q (lo.drop k) a' w') (lo.take k) a):(Code.region id lo.toArray true).wpIn (Fence.wide.inRound l) n P Q a w:=
 rK k hm hB hnd ⟨1,rfl⟩ h
end
end Go.Proofs.YtlofddoojkeakaaGreatDoor
namespace Go.Proofs.YtlofddoojkeakaaGreatDoor
open Go Go.RowKit
section
variable {F:Fence} {n:Nat} {P:Program} {ops:Array Oper} {md:Region.Mode}
def pN(md:Region.Mode)(ops:Array Oper):Bool:=(List.range ops.size).all fun i=>match ops[i]? with |some o=>o.after.all fun e=> !Region.binds md e||decide (e.on<i)|none=>true
theorem zZ(h:pN md ops=true){i:Nat}{o:Oper}(hi:ops[i]? =some o)(e:Edge)(he:e∈o.after)(hb:Region.binds md e=true):e.on<i:=by
 have hlt:=(Array.getElem?_eq_some_iff.1 hi).1
 have :=List.all_eq_true.1 h i (List.mem_range.2 hlt)
 rw[hi]at this
 simp only at this
 have h2:=Array.all_eq_true_iff_forall_mem.1 this e he
 simpa[hb]using h2
theorem B6(h:pN md ops=true){listed:Array Bool}(hs:listed.size=ops.size):∀i,i<ops.size→listed.getD i true=false→Region.ready md ops listed≠[]:=by
 intro i
 induction i using Nat.strongRecOn with
 |ind i ih=>
  intro hi hl
  have ho:ops[i]? =some ops[i]:=Array.getElem?_eq_getElem hi
  by_cases hall:∀e∈ops[i].after,Region.binds md e=true→listed.getD e.on false=true
  ·intro e
   have :i∈Region.ready md ops listed:=mem_ready.2 ⟨hl,ops[i],ho,hall⟩
   rw[e]at this
   cases this
  · have :∃e,e∈ops[i].after∧Region.binds md e=true∧listed.getD e.on false=false:=by
     refine Classical.byContradiction fun hn=>hall fun e he hb=> ?_
     cases hx:listed.getD e.on false with
     |true=>rfl
     |false=>exact absurd ⟨e,he,hb,hx⟩ hn
    obtain⟨e,he,hb,hx⟩:=this
    have hlt:=zZ h ho e he hb
    exact ih e.on hlt (by omega) (getD_in (by omega) hx)
theorem count_set{listed:Array Bool}{i:Nat}(h:listed.getD i true=false):(listed.setIfInBounds i true).toList.count false+1=listed.toList.count false:=by
 have hi:i<listed.size:=by
  refine Classical.byContradiction fun hn=> ?_
  rw[Array.getD_eq_getD_getElem?,Array.getElem?_eq_none (by omega)]at h
  cases h
 have hx:listed[i]=false:=by rw[Array.getD_eq_getD_getElem?,Array.getElem?_eq_getElem hi]at h;exact h
 have hx2:listed.toList[i]'(by simpa using hi)=false:=by simpa using hx
 rw[Array.toList_setIfInBounds,List.count_set (by simpa using hi),hx2]
 have :0<listed.toList.count false:=List.count_pos_iff.2 (by rw[←hx2];exact List.getElem_mem _)
 simp only[beq_self_eq_true,if_true,show(true==false)=false from rfl,Bool.false_eq_true,if_false]
 omega
theorem z6{Q:Exit→Act→World→Prop}{Inv:Array Bool→Act→World→Prop}(hlow:pN md ops=true)
 (hstep:∀listed a w i o,listed.size=ops.size→Inv listed a w→ops[i]? =some o→listed.getD i true=false→(∀e∈o.after,Region.binds md e=true→listed.getD e.on false=true)→wpOpIn F n P ops Q i (Inv (listed.setIfInBounds i true)) a w)
 (hend:∀listed a w,listed.size=ops.size→Inv listed a w→(∀i,i<ops.size→listed.getD i false=true)→Q .normal a w):
 ∀(fuel:Nat) (listed:Array Bool) (a:Act) (w:World),listed.size=ops.size→listed.toList.count false≤fuel→Inv listed a w→wpAnyIn F n P md ops Q fuel listed a w:=by
 have hall:∀(listed:Array Bool),listed.size=ops.size→Region.ready md ops listed=[]→∀i,i<ops.size→listed.getD i false=true:=fun listed hs hr i hi=>by
  cases hx:listed.getD i false with
  |true=>rfl
  |false=>exact absurd hr (B6 hlow hs i hi (getD_in (by omega) hx))
 intro fuel
 induction fuel with
 |zero=>
  intro listed a w hs hc hI
  have hr:Region.ready md ops listed=[]:=by
   cases hr:Region.ready md ops listed with
   |nil=>rfl
   |cons j r=>
    obtain⟨hl,_⟩:=mem_ready.1 (show j∈Region.ready md ops listed by rw[hr];exact List.mem_cons_self)
    have :=count_set hl
    omega
  exact⟨hr,hend _ _ _ hs hI (hall _ hs hr)⟩
 |succ fuel ih=>
  intro listed a w hs hc hI
  refine⟨fun hr=>hend _ _ _ hs hI (hall _ hs hr),fun i hi=> ?_⟩
  obtain⟨hl,o,ho,he⟩:=mem_ready.1 hi
  have :=count_set hl
  exact wpOpIn_mono (fun a' w' h' =>ih _ a' w' (by simpa using hs) (by omega) h') (hstep _ _ _ _ _ hs hI ho hl he)
theorem rM{id:Nat}{Q:Exit→Act→World→Prop}{a:Act}{w:World}{Inv:Array Bool→Act→World→Prop}(hm:P.follows .mixedOrders=true)(hlow:pN .any ops=true)
 (h0:Inv (Array.replicate ops.size false) a {w with drawn:=w.drawn+1})
 (hstep:∀listed a w i o,listed.size=ops.size→Inv listed a w→ops[i]? =some o→listed.getD i true=false→(∀e∈o.after,Region.binds .any e=true→listed.getD e.on false=true)→wpOpIn F n P ops Q i (Inv (listed.setIfInBounds i true)) a w)
 (hend:∀listed a w,listed.size=ops.size→Inv listed a w→(∀i,i<ops.size→listed.getD i false=true)→Q .normal a w):(Code.region id ops true).wpIn F n P Q a w:=
 wpIn_region_any hm (z6 hlow hstep hend _ _ _ _ (by simp) (by simp) h0)
variable {l:Nat} {o:Oper} {a:Act} {w w':World} {i:Nat} {K:Act→World→Prop} {Q:Exit→Act→World→Prop}
theorem fB{v:Value}(hi:ops[i]? =some o)(hg:o.guard=none)(hd:∀c,o.op≠ .defer c)(hrun:(execOp a.eval o).run P w= .ok (.value v) w')(h:K (a.put o.dst v) w'):wpOpIn (Fence.wide.inRound l) n P ops Q i K a w:=by
 unfold wpOpIn
 simp only[hi,Region.wanted,hg,if_true]
 refine⟨fun f _=>trivial,?_⟩
 rw[show(Fence.wide.inRound l).round=some l from rfl,Oper.semAt_some _ _ _ hd,hrun]
 exact h
theorem EI(hi:ops[i]? =some o)(hg:o.guard=none)(hd:∀c,o.op≠ .defer c)(hrun:(execOp a.eval o).run P w= .ok .skip w')(h:K (a.put o.dst undef) w'):wpOpIn (Fence.wide.inRound l) n P ops Q i K a w:=by
 unfold wpOpIn
 simp only[hi,Region.wanted,hg,if_true]
 refine⟨fun f _=>trivial,?_⟩
 rw[show(Fence.wide.inRound l).round=some l from rfl,Oper.semAt_some _ _ _ hd,hrun]
 exact h
theorem tK{f:FuncId}{args:Array Value}(hi:ops[i]? =some o)(hg:o.guard=none)(hd:∀c,o.op≠ .defer c)(hrun:(execOp a.eval o).run P w= .ok (.enter f args) w)
 (hc:Calls P f args w fun e w' =>∃v,e= .returned v∧K (a.put o.dst v) w'):wpOpIn (Fence.wide.inRound l) n P ops Q i K a w:=by
 unfold wpOpIn
 simp only[hi,Region.wanted,hg,if_true]
 refine⟨fun f _=>trivial,?_⟩
 rw[show(Fence.wide.inRound l).round=some l from rfl,Oper.semAt_some _ _ _ hd,hrun]
 refine⟨fun hd=>(by cases hd),(CallsIn.inRound l (callsIn_wide.2 hc)).mono ?_⟩
 rintro e w'' ⟨v,rfl,h⟩
 exact h
theorem fL(ty:TypeId)(x:Operand)(ho:o.op= .load ty x)(g off:Nat)(hx:a.eval x= .pointer (some ⟨g,off,none⟩))(cs:List Value)(d:TypeDesc)(hg:Row w g off cs)
 (hu:P.underlying ty=some d) (hd:(match d with | .struct _| .array _ _=>true|_=>false)=true) (hi:(P.info? ty).map (·.size)=some cs.length):(execOp a.eval o).run P w= .ok (.value (.agg cs.toArray)) w:=by
 unfold execOp
 simp only[ho,hx,Instr.loadAt,Instr.sureAddr,Sem.run_bind,Sem.run_pure,Result.andThen_ok,dq w g off ty cs d hg hu hd hi]
theorem iN{listed:Array Bool}{i:Nat}(hi:i<listed.size)(j:Nat):(listed.setIfInBounds i true).getD j false=if i=j then true else listed.getD j false:=by
 simp only[Array.getD_eq_getD_getElem?,Array.getElem?_setIfInBounds]
 split
 ·simp[hi]
 · rfl
theorem tL(a:Act)(d:Nat)(v:Value)(j:Nat):(a.put (some d) v).tmps[j]? =if d=j then(if d<a.tmps.size then some v else none)else a.tmps[j]? :=by
 simp only[Act.put,Array.getElem?_setIfInBounds]
end
end Go.Proofs.YtlofddoojkeakaaGreatDoor
namespace Go.Proofs.YtlofddoojkeakaaGreatDoor.j4
open Go Go.RowKit
def rL:List Nat:=[0,1,2,3,4,5,6,7,8,9,10,11,12,13,14,15,7,4,13,1,10,6,15,3,12,0,9,5,2,14,11,8,3,10,14,4,9,15,8,1,2,7,0,6,13,11,5,12,1,9,11,10,0,8,12,4,13,3,7,15,14,5,6,2,4,0,5,9,7,12,2,10,14,1,3,8,11,6,15,13]
def sL:List Nat:=[11,14,15,12,5,8,7,9,11,13,14,15,6,7,9,8,7,6,8,13,11,9,7,15,7,12,15,9,11,7,13,12,11,13,6,7,14,9,13,15,14,8,13,6,5,12,7,5,11,12,14,15,14,15,9,8,9,14,5,6,8,6,5,12,9,15,5,11,6,8,13,12,5,12,13,14,11,8,5,6]
def kL:List Int:=[0,0x5a827999,0x6ed9eba1,0x8f1bbcdc,0xa953fd4e]
def rR:List Nat:=[5,14,7,0,9,2,11,4,13,6,15,8,1,10,3,12,6,11,3,7,0,13,5,10,14,15,8,12,4,9,1,2,15,5,1,3,7,14,6,9,11,8,12,2,10,0,4,13,8,6,4,1,3,11,15,0,5,12,2,13,9,7,10,14,12,15,10,4,1,5,8,7,6,2,13,14,0,3,9,11]
def sR:List Nat:=[8,9,9,11,13,15,15,5,7,7,8,11,14,14,12,6,9,13,15,7,12,8,9,11,7,7,12,7,6,15,13,11,9,7,15,11,8,6,6,14,12,13,5,14,13,13,7,5,15,5,8,11,14,14,6,14,6,9,12,9,12,5,15,8,8,5,12,9,12,5,14,6,8,13,6,5,15,13,11,11]
def kR:List Int:=[0x50a28be6,0x5c4dd124,0x6d703ef3,0x7a6d76e9,0]
theorem Qw:∀i:Fin 80,rL.getD i.val 0<16:=by decide
theorem Qx:∀i:Fin 80,rR.getD i.val 0<16:=by decide
theorem Qy:∀i:Fin 80,5≤sL.getD i.val 0∧sL.getD i.val 0≤15:=by decide
theorem Qz:∀i:Fin 80,5≤sR.getD i.val 0∧sR.getD i.val 0≤15:=by decide
theorem z7:Words kL:=by unfold Words W32;decide
theorem z8:Words kR:=by unfold Words W32;decide
def ints(l:List Nat):List Int:=l.map fun(n:Nat)=>(n:Int)
theorem bW(l:List Nat):(ints l).length=l.length:=by simp[ints]
theorem qD(l:List Nat)(i:Nat):(ints l).getD i 0=((l.getD i 0:Nat):Int):=by
 simp only[ints,List.getD,List.getElem?_map]
 cases l[i]? <;>rfl
def Nl(x:Int)(k:Nat):Int:=lE x (32 -k)
theorem EJ(x:Int)(k:Nat):W32 (Nl x k):=p8 _ _
def IC(n:Nat)(b c d:Int):Int:=
 match n with
 |0=>bits .xor .u32 (bits .xor .u32 b c) d
 |1=>bits .or .u32 (bits .and .u32 b c) (bits .and .u32 (bits .xor .u32 IntKind.u32.max b) d)
 |2=>bits .xor .u32 (bits .or .u32 b (bits .xor .u32 IntKind.u32.max c)) d
 |3=>bits .or .u32 (bits .and .u32 b d) (bits .andNot .u32 c d)
 |_=>bits .xor .u32 b (bits .or .u32 c (bits .xor .u32 IntKind.u32.max d))
structure S5 where
 (a b c d e:Int)
def S5.list (s:S5):List Int:=[s.a,s.b,s.c,s.d,s.e]
def S5.ok (s:S5):Prop:=W32 s.a∧W32 s.b∧W32 s.c∧W32 s.d∧W32 s.e
def kN(s:S5)(way:Nat)(x k:Int)(sh:Nat):S5:=⟨s.e,(Nl ((s.a+IC way s.b s.c s.d+x+k)%4294967296) sh+s.e)%4294967296,s.b,Nl s.c 10,s.d⟩
theorem Aa{s:S5}(h:s.ok)(way:Nat)(x k:Int)(sh:Nat):(kN s way x k sh).ok:=⟨h.2.2.2.2,mod_range _,h.2.1,EJ _ _,h.2.2.2.1⟩
def way(turned:Bool)(n:Nat):Nat:=if turned then 4 -n/16 else n/16
def cB(rt st:List Nat)(kt:List Int)(turned:Bool)(h:S5)(xs:List Int):Nat→S5
 |0=>h
 |n+1=>kN (cB rt st kt turned h xs n) (way turned n) (xs.getD (rt.getD n 0) 0) (kt.getD (n/16) 0) (st.getD n 0)
theorem fC{rt st:List Nat}{kt:List Int}{turned:Bool}{h:S5}(ho:h.ok)(xs:List Int)(n:Nat):(cB rt st kt turned h xs n).ok:=by
 induction n with
 |zero=>exact ho
 |succ n ih=>exact Aa ih _ _ _ _
def S5.mix3 (h u v:S5):S5:=⟨(h.b+u.c+v.d)%4294967296,(h.c+u.d+v.e)%4294967296,(h.d+u.e+v.a)%4294967296,(h.e+u.a+v.b)%4294967296,(h.a+u.b+v.c)%4294967296⟩
theorem S5.Dj (h u v:S5):(h.mix3 u v).ok:=⟨mod_range _,mod_range _,mod_range _,mod_range _,mod_range _⟩
def pO(l:List Int)(i:Nat):Int:=l.getD (4*i) 0+l.getD (4*i+1) 0*256+l.getD (4*i+2) 0*65536+l.getD (4*i+3) 0*16777216
theorem Ab{l:List Int}(h:Bytes l)(i:Nat):W32 (pO l i):=by
 unfold pO W32
 obtain⟨a0,a1⟩:=h.getD (4*i)
 obtain⟨b0,b1⟩:=h.getD (4*i+1)
 obtain⟨c0,c1⟩:=h.getD (4*i+2)
 obtain⟨d0,d1⟩:=h.getD (4*i+3)
 omega
theorem jz(a b:Int):bits .or .u32 a b=bits .or .u32 b a:=by
 simp[bits,BitVec.or_comm]
theorem ID{a b c d:Int}(ha:Byte a)(hb:Byte b)(hc:Byte c)(hd:Byte d):
 bits .or .u32 (bits .or .u32 (bits .or .u32 a (b*256)) (c*65536)) (d*16777216)=a+b*256+c*65536+d*16777216:=by
 obtain⟨a0,a1⟩:=ha
 obtain⟨b0,b1⟩:=hb
 obtain⟨c0,c1⟩:=hc
 obtain⟨d0,d1⟩:=hd
 rw[jz a,kH 8 (b*256) a (by omega) (by omega) (by omega) (by omega) (by omega) (by omega)]
 rw[jz _ (c*65536),kH 16 (c*65536) (b*256+a) (by omega) (by omega) (by omega) (by omega) (by omega) (by omega)]
 rw[jz _ (d*16777216),kH 24 (d*16777216) (c*65536+(b*256+a)) (by omega) (by omega) (by omega) (by omega) (by omega) (by omega)]
 omega
def fR(l:List Int)(i:Nat):List Int:=(List.range i).map (pO l)++List.replicate (16 -i) 0
theorem fD(l:List Int)(i:Nat)(h:i≤16):(fR l i).length=16:=by simp[fR];omega
theorem Ac(l:List Int)(i:Nat)(h:i<16):(fR l i).set i (pO l i)=fR l (i+1):=by
 unfold fR
 rw[List.set_append_right _ _ (by simp)]
 simp only[aF,List.length_range,Nat.sub_self]
 rw[show 16 -i=(16 -(i+1))+1 by omega,List.replicate_succ,List.set_cons_zero,List.range_succ]
 simp
theorem tM{l:List Int}(h:Bytes l)(i:Nat):Words (fR l i):=by
 intro x hx
 simp only[fR,List.mem_append,List.mem_map,List.mem_replicate]at hx
 rcases hx with⟨j,_,rfl⟩|⟨_,rfl⟩
 ·exact Ab h j
 ·exact⟨by omega,by omega⟩
def block(h:S5)(l:List Int):S5:=h.mix3 (cB rL sL kL false h (fR l 16) 80) (cB rR sR kR true h (fR l 16) 80)
def fE:S5:=⟨0x67452301,0xefcdab89,0x98badcfe,0x10325476,0xc3d2e1f0⟩
theorem pP:fE.ok:=by unfold S5.ok fE W32;decide
def fF(s:S5)(l:List Int):Nat→S5
 |0=>s
 |n+1=>block (fF s l n) ((l.drop (64*n)).take 64)
theorem qE{s:S5}(h:s.ok)(l:List Int)(n:Nat):(fF s l n).ok:=by
 cases n with
 |zero=>exact h
 |succ n=>exact S5.Dj _ _ _
theorem jP{s:S5}(h:s.ok)(i:Nat):W32 (s.list.getD i 0):=by
 obtain⟨h0,h1,h2,h3,h4⟩:=h
 rcases i with _|_|_|_|_|i
 all_goals first |assumption|exact⟨by simp[S5.list],by simp[S5.list]⟩
def dI(ws:List Int):List Int:=(List.range 20).map fun i=>ws.getD (i/4) 0/2^(8*(i%4))%256
theorem bq(ws:List Int):(dI ws).length=20:=by simp[dI]
theorem kI(s:S5)(i:Nat)(hi:i<20):(dI s.list).getD i 0=s.list.getD (i/4) 0/2^(8*(i%4))%256:=by
 simp[dI,List.getD,hi]
theorem jw(ws:List Int):Bytes (dI ws):=by
 intro x hx
 obtain⟨i,_,rfl⟩:=List.mem_map.1 hx
 unfold Byte;omega
def ei(s:S5)(i:Nat):List Int:=(dI s.list).take i++List.replicate (20 -i) 0
theorem kJ(s:S5):ei s 0=List.replicate 20 0:=rfl
theorem ix(s:S5):ei s 20=dI s.list:=by
 unfold ei
 rw[List.take_of_length_le (by rw[bq];omega)];simp
theorem cM(s:S5)(i:Nat)(h:i≤20):(ei s i).length=20:=by simp[ei,bq];omega
theorem gl(s:S5)(i:Nat)(h:i<20):(ei s i).set i (s.list.getD (i/4) 0/2^(8*(i%4))%256)=ei s (i+1):=by
 rw[←kI s i h]
 unfold ei
 rw[List.set_append_right _ _ (by simp[bq];omega)]
 have e:i -((dI s.list).take i).length=0:=by simp[bq];omega
 rw[e,show 20 -i=(20 -(i+1))+1 by omega,List.replicate_succ,List.set_cons_zero]
 have hl:i<(dI s.list).length:=by rw[bq];exact h
 rw[List.take_succ_eq_append_getElem hl,List.append_assoc]
 simp[List.getD,hl]
def xG(l:List Int):List Int:=l++dk 64 8 l.length true
def ef(l:List Int):List Int:=dI (fF fE (xG l) ((xG l).length/64)).list
theorem dE(l:List Int):(ef l).length=20:=bq _
theorem xH(l:List Int):Bytes (ef l):=jw _
theorem dm(x k:Int)(h1:1≤k)(h2:k≤31)(hx:W32 x)(w:World):Calls Tryz.prog 117 #[.int .u32 x,.int .i64 k] w fun e w' =>e= .returned (.int .u32 (Nl x k.toNat))∧w=w':=by
 obtain⟨h3,h4⟩:=hx
 obtain⟨k,rfl⟩:=Int.eq_ofNat_of_zero_le (show 0≤k by omega)
 have hb:bits .and .u64 (k:Int) 31=(k:Int):=(by decide+kernel:∀m:Fin 32,bits .and .u64 (m.val:Int) 31=(m.val:Int)) ⟨k,by omega⟩
 have hr:Nl x k=bits .or .u32 (x*2^k%4294967296) (x/2^(32 -k)):=by
  unfold Nl lE
  rw[show 32 -(32 -k)=k by omega]
 have HR:=ae hr;clear hr
 go_enter Tryz.func117,Tryz.ntmps117
 go_wp2
 go_ret
 exact⟨oK (by simpa using HR.o.symm),rfl⟩
theorem fj(x k:Int)(h1:1≤k)(h2:k≤31)(hx:W32 x)(w:World):Calls Tryz.prog 98 #[.int .u32 x,.int .i64 k] w fun e w' =>e= .returned (.int .u32 (Nl x k.toNat))∧w=w':=bZ x k h1 h2 hx w
theorem Ke(n:Nat)(hn:n≤4)(b c d:Int)(hb:W32 b)(hc:W32 c)(hd:W32 d)(w:World):Calls Tryz.prog 118 #[.int .i64 n,.int .u32 b,.int .u32 c,.int .u32 d] w fun e w' =>e= .returned (.int .u32 (IC n b c d))∧w=w':=by
 obtain⟨b0,b1⟩:=hb
 obtain⟨c0,c1⟩:=hc
 obtain⟨d0,d1⟩:=hd
 have h:n=0∨n=1∨n=2∨n=3∨n=4:=by omega
 rcases h with rfl|rfl|rfl|rfl|rfl
 all_goals
  go_enter Tryz.func118,Tryz.ntmps118
  go_wp2
  go_ret
  exact⟨rfl,rfl⟩
theorem f_any(n:Nat)(hn:n≤4)(b c d:Int)(hb:W32 b)(hc:W32 c)(hd:W32 d)(w:World):Calls Tryz.prog 99 #[.int .i64 n,.int .u32 b,.int .u32 c,.int .u32 d] w fun e w' =>e= .returned (.int .u32 (IC n b c d))∧w=w':=by
 obtain⟨b0,b1⟩:=hb
 obtain⟨c0,c1⟩:=hc
 obtain⟨d0,d1⟩:=hd
 have h:n=0∨n=1∨n=2∨n=3∨n=4:=by omega
 rcases h with rfl|rfl|rfl|rfl|rfl
 all_goals
  go_enter Tryz.func99,Tryz.ntmps99
  go_wp2
  go_ret
  exact⟨rfl,rfl⟩
def bX(rt st:List Nat)(kt:List Int):List Value:=(ints rt).map (Value.int .i64)++((ints st).map (Value.int .i64)++kt.map (Value.int .u32))
structure Ad (rt st:List Nat) (kt:List Int):Prop where
 rl:rt.length=80
 sl:st.length=80
 kl:kt.length=5
 r:∀i,i<80→rt.getD i 0<16
 s:∀i,i<80→5≤st.getD i 0∧st.getD i 0≤15
 k:Words kt
theorem Ae:Ad rL sL kL:=⟨rfl,rfl,rfl,fun i h=>Qw ⟨i,h⟩,fun i h=>Qy ⟨i,h⟩,z7⟩
theorem xI:Ad rR sR kR:=⟨rfl,rfl,rfl,fun i h=>Qx ⟨i,h⟩,fun i h=>Qz ⟨i,h⟩,z8⟩
theorem cN{rt st:List Nat}{kt:List Int}(h:Ad rt st kt):(bX rt st kt).length=165:=by simp[bX,bW,h.rl,h.sl,h.kl]
theorem IE{W:World}{b o:Nat}{rt st:List Nat}{kt:List Int}(h:Ad rt st kt)(hr:Row W b o (bX rt st kt))(i:Nat)(hi:i<80):
 W.cell? ⟨b,o+i,none⟩=some (.int .i64 ((rt.getD i 0:Nat):Int))∧W.cell? ⟨b,o+80+i,none⟩=some (.int .i64 ((st.getD i 0:Nat):Int))∧W.cell? ⟨b,o+160+i/16,none⟩=some (.int .u32 (kt.getD (i/16) 0)):=by
 have hl:=h.rl;have hl2:=h.sl;have hl3:=h.kl
 refine⟨?_,?_,?_⟩
 ·refine(hr i _ ?_).1
  rw[bX,List.getElem?_append_left (by simp[bW,hl];exact hi),List.getElem?_map,←qD]
  simp[List.getD,bW,hl,hi]
 ·rw[Nat.add_assoc]
  refine(hr (80+i) _ ?_).1
  rw[bX,List.getElem?_append_right (by simp[bW,hl]),List.getElem?_append_left (by simp[bW,hl,hl2];exact hi),List.getElem?_map,←qD]
  simp[List.getD,bW,hl,hl2,hi]
 ·rw[Nat.add_assoc]
  refine(hr (160+i/16) _ ?_).1
  rw[bX,List.getElem?_append_right (by simp[bW,hl];omega),List.getElem?_append_right (by simp[bW,hl,hl2];omega),List.getElem?_map]
  simp only[aF,bW,hl,hl2]
  rw[show 160+i/16 -80 -80=i/16 by omega]
  have :i/16<kt.length:=by omega
  simp[List.getD,this]
theorem S5.cells {w:World}{b:Nat}{s:S5}(h:Row w b 0 (s.list.map (Value.int .u32))):w.cell? ⟨b,0,none⟩=some (.int .u32 s.a)∧w.cell? ⟨b,1,none⟩=some (.int .u32 s.b)∧w.cell? ⟨b,2,none⟩=some (.int .u32 s.c)∧w.cell? ⟨b,3,none⟩=some (.int .u32 s.d)
 ∧w.cell? ⟨b,4,none⟩=some (.int .u32 s.e):=
 ⟨h.aT 0 (by simp[S5.list]),h.aT 1 (by simp[S5.list]),h.aT 2 (by simp[S5.list]),h.aT 3 (by simp[S5.list]),h.aT 4 (by simp[S5.list])⟩
theorem AH:(Tryz.prog.info? 143).map (·.size)=some 5:=by kernel_rfl
theorem Dk(m:Int)(h0:0≤m)(h4:m≤4)(b c d:Int)(hb:W32 b)(hc:W32 c)(hd:W32 d)(w:World):Calls Tryz.prog 118 #[.int .i64 m,.int .u32 b,.int .u32 c,.int .u32 d] w fun e w' =>e= .returned (.int .u32 (IC m.toNat b c d))∧w=w':=by
 obtain⟨n,rfl⟩:=Int.eq_ofNat_of_zero_le h0
 exact Ke n (by omega) b c d hb hc hd w
theorem Lb(m:Int)(h0:0≤m)(h4:m≤4)(b c d:Int)(hb:W32 b)(hc:W32 c)(hd:W32 d)(w:World):Calls Tryz.prog 99 #[.int .i64 m,.int .u32 b,.int .u32 c,.int .u32 d] w fun e w' =>e= .returned (.int .u32 (IC m.toNat b c d))∧w=w':=by
 obtain⟨n,rfl⟩:=Int.eq_ofNat_of_zero_le h0
 exact f_any n (by omega) b c d hb hc hd w
theorem Af(rt st:List Nat)(kt:List Int)(T:Ad rt st kt)(turned:Bool)(h:S5)(ho:h.ok)(xs:List Int)(hx:xs.length=16)(hxw:Words xs)(w:World):
 Calls Tryz.prog 85 #[.agg (bX rt st kt).toArray,.agg (h.list.map (Value.int .u32)).toArray,.agg (xs.map (Value.int .u32)).toArray,.bool turned] w fun e w' =>e= .returned (.agg ((cB rt st kt turned h xs 80).list.map (Value.int .u32)).toArray)∧Keeps w w':=by
 have HT:=ae T;have Nm:=ae hxw;have HX:=ae hx
 clear T hxw hx
 go_enter Tryz.func85,Tryz.ntmps85
 go_upto_region 1 with(fail)
 have h1:Keeps w ((((w.alloc (.cells (bX rt st kt).toArray 147)).alloc (.cells (h.list.map (Value.int .u32)).toArray 143)).alloc (.cells (xs.map (Value.int .u32)).toArray 149)).alloc (.cells (List.replicate 5 (Value.int .u32 0)).toArray 143)):=av (av (av (av (Keeps.refl w) _) _) _) _
 obtain⟨W0,hW0⟩:∃W0,W0=((((w.alloc (.cells (bX rt st kt).toArray 147)).alloc (.cells (h.list.map (Value.int .u32)).toArray 143)).alloc (.cells (xs.map (Value.int .u32)).toArray 149)).alloc (.cells (List.replicate 5 (Value.int .u32 0)).toArray 143)):=⟨_,rfl⟩
 have hr4:Row W0 w.heap.size 0 (bX rt st kt):=by rw[hW0];exact(((Row.new _ _ _ rfl).alloc _).alloc _).alloc _
 have dG:Row W0 (w.heap.size+1) 0 (h.list.map (Value.int .u32)):=by
  have :=((Row.new (w:=w.alloc (.cells (bX rt st kt).toArray 147)) (h.list.map (Value.int .u32)) _ 143 rfl).alloc (.cells (xs.map (Value.int .u32)).toArray 149)).alloc (.cells (List.replicate 5 (Value.int .u32 0)).toArray 143)
  rw[World.size_alloc]at this
  rw[hW0];exact this
 have eD:Row W0 (w.heap.size+1+1) 0 (xs.map (Value.int .u32)):=by
  have :=(Row.new (w:=(w.alloc (.cells (bX rt st kt).toArray 147)).alloc (.cells (h.list.map (Value.int .u32)).toArray 143)) (xs.map (Value.int .u32)) _ 149 rfl).alloc (.cells (List.replicate 5 (Value.int .u32 0)).toArray 143)
  rw[World.size_alloc,World.size_alloc]at this
  rw[hW0];exact this
 have B7:Row W0 (w.heap.size+1+1+1) 0 (List.replicate 5 (Value.int .u32 0)):=by
  have :=Row.new (w:=((w.alloc (.cells (bX rt st kt).toArray 147)).alloc (.cells (h.list.map (Value.int .u32)).toArray 143)).alloc (.cells (xs.map (Value.int .u32)).toArray 149)) (List.replicate 5 (Value.int .u32 0)) _ 143 rfl
  rw[World.size_alloc,World.size_alloc,World.size_alloc]at this
  rw[hW0];exact this
 rw[←hW0]at h1
 obtain⟨b4,hb4⟩:∃b,b=w.heap.size:=⟨_,rfl⟩
 obtain⟨b5,hb5⟩:∃b,b=w.heap.size+1:=⟨_,rfl⟩
 obtain⟨b6,hb6⟩:∃b,b=w.heap.size+1+1:=⟨_,rfl⟩
 obtain⟨b8,hb8⟩:∃b,b=w.heap.size+1+1+1:=⟨_,rfl⟩
 rw[←hb8,←hb6,←hb5,←hb4]
 rw[←hb8]at B7;rw[←hb6]at eD;rw[←hb5]at dG;rw[←hb4]at hr4
 refine cf (fun W=>Keeps w W∧Row W b4 0 (bX rt st kt)∧Row W b5 0 (h.list.map (Value.int .u32))∧Row W b6 0 (xs.map (Value.int .u32))∧Row W b8 0 (List.replicate 5 (Value.int .u32 0))) (by subst hW0;exact⟨h1,hr4,dG,eD,B7⟩) ?_
 clear h1 hr4 dG eD B7 hW0 W0
 intro W0 ⟨h1,hr4,dG,eD,B7⟩
 have HP:=ae (show w.heap.size≤b4∧w.heap.size≤b5∧w.heap.size≤b8∧b4≠b5∧b6≠b5∧b8≠b5 by omega)
 clear hb4 hb5 hb6 hb8
 have HK:=ae h1;have HR4:=ae hr4;have ej:=ae dG;have dM:=ae eD;have xO:=ae B7;have HO:=ae ho
 clear h1 hr4 dG eD B7 ho
 go_wp2
 go_loopw [13] (fun c wr=>∃i:Nat,i≤80∧c= .int .i64 i∧bU (· =b5) W0 wr∧Row wr b5 0 ((cB rt st kt turned h xs i).list.map (Value.int .u32))) (fun c _=>(80 -intOf c).toNat)
 case atStart=>exact⟨0,by omega,rfl,bU.refl _ _,ej.o⟩
 case round=>
  obtain⟨i,hi,rfl,hch,hrt⟩:=hrel
  by_cases hlt:i<80
  ·obtain⟨v0,v1,v2,v3,v4⟩:=S5.cells hrt
   obtain⟨t1,t2,t3⟩:=IE HT.o (HR4.o.aG hch HP.o.2.2.2.1) i hlt
   have hrn:=HT.o.r i hlt
   have hsn:=HT.o.s i hlt
   have hcx:=(dM.o.aG hch HP.o.2.2.2.2.1).aT (rt.getD i 0) (by rw[HX.o];exact hrn)
   have hok:=fC (rt:=rt) (st:=st) (kt:=kt) (turned:=turned) HO.o xs i
   have hxi:=Nm.o.getD (rt.getD i 0)
   have hkw:=HT.o.k.getD (i/16)
   have hnx:cB rt st kt turned h xs (i+1)=kN (cB rt st kt turned h xs i) (way turned i) (xs.getD (rt.getD i 0) 0) (kt.getD (i/16) 0) (st.getD i 0):=rfl
   generalize cB rt st kt turned h xs i=r at *
   generalize rt.getD i 0=rn at *
   generalize st.getD i 0=sn at *
   generalize kt.getD (i/16) 0=kk at *
   generalize xs.getD rn 0=xx at *
   obtain⟨ra,rb,rc,rd,re⟩:=r
   have HV:=ae hrt;have yv:=ae hnx;have dF:=ae hch
   clear hrt hnx hch
   obtain⟨o0,o1,o2,o3,o4⟩:=hok
   simp only[Nat.zero_add]at v0 v1 v2 v3 v4 o0 o1 o2 o3 o4 t1 t2 t3
   have a0:=o0.1;have a1:=o0.2;have e0:=o4.1;have e1:=o4.2
   obtain⟨x0,x1⟩:=hxi
   obtain⟨k0,k1⟩:=hkw
   obtain⟨Vk,Vl⟩:=hsn
   cases turned
   · go_wp2
     have hm0:(0:Int)≤(i:Int)/16:=by omega
     have hm4:(i:Int)/16≤4:=by omega
     have hmm:=fun w=>Dk ((i:Int)/16) (by omega) (by omega) rb rc rd o1 o2 o3 w
     have bV:=ae hmm
     clear hmm
     go_quiet (first |(go_at_call 118;first |exact s1 (bV.o _)|exact s2 (bV.o _))|(go_at_call 117;first |exact s1 (dm _ _ (by omega) (by omega) (by constructor<;>omega) _)|exact s2 (dm _ _ (by omega) (by omega) (by constructor<;>omega) _)))
     go_wp2
     refine aB 11 (by kernel_rfl) (by kernel_rfl) ?_
     simp only[List.take_succ_cons,List.take_zero,List.drop_succ_cons,List.drop_zero]
     repeat(first |go_big_quiet_step (((go_at_call 117;first |exact s1 (dm _ _ (by omega) (by omega) (by assumption) _)|exact s2 (dm _ _ (by omega) (by omega) (by assumption) _)|exact q1 (dm _ _ (by omega) (by omega) (by assumption) _)|exact q2 (dm _ _ (by omega) (by omega) (by assumption) _))))|quiet_step (((go_at_call 117;first |exact s1 (dm _ _ (by omega) (by omega) (by assumption) _)|exact s2 (dm _ _ (by omega) (by omega) (by assumption) _)|exact q1 (dm _ _ (by omega) (by omega) (by assumption) _)|exact q2 (dm _ _ (by omega) (by omega) (by assumption) _)))))
     refine wpQuiet_nil ?_
     intro _ hw'
     obtain⟨nq,hw''⟩:=hw'
     subst hw''
     go_wp2_with (refine wpList_store_row rfl 143 (.tmp 5) (.tmp 63) rfl b5 0 rfl _ [_,_,_,_,_] rfl ((HV.o.drewN _).drewN _) rfl AH (by intro v hv;simp only[List.mem_cons,List.not_mem_nil,or_false]at hv;rcases hv with rfl|rfl|rfl|rfl|rfl<;>rfl) ?_;intro w3 hr3 hc3;have HR3:=ae hr3;have fT:=ae hc3;clear hr3 hc3)
     go_roundw
     case rel=>
      refine⟨i+1,by omega,by go_num,(dF.o.trans ((Qt.keeps (by repeat(first |exact Qt.refl _|exact Qt.drewN _ _|refine Qt.trans ?_ (Qt.drewN _ _)))).aG _)).trans fT.o,?_⟩
      rw[yv.o]
      have e1:((4:Int) -(i:Int)/16).toNat=way true i:=by show _=4 -i/16;omega
      have hr:=HR3.o
      first
       |exact hr
       |(rw[e1]at hr;exact hr)
     case measure=>simp[intOf];omega
   · go_wp2
     have hm0:(0:Int)≤(i:Int)/16:=by omega
     have hm4:(i:Int)/16≤4:=by omega
     have hmm:=fun w=>Dk (4 -(i:Int)/16) (by omega) (by omega) rb rc rd o1 o2 o3 w
     have bV:=ae hmm
     clear hmm
     go_quiet (first |(go_at_call 118;first |exact s1 (bV.o _)|exact s2 (bV.o _))|(go_at_call 117;first |exact s1 (dm _ _ (by omega) (by omega) (by constructor<;>omega) _)|exact s2 (dm _ _ (by omega) (by omega) (by constructor<;>omega) _)))
     go_wp2
     refine aB 11 (by kernel_rfl) (by kernel_rfl) ?_
     simp only[List.take_succ_cons,List.take_zero,List.drop_succ_cons,List.drop_zero]
     repeat(first |go_big_quiet_step (((go_at_call 117;first |exact s1 (dm _ _ (by omega) (by omega) (by assumption) _)|exact s2 (dm _ _ (by omega) (by omega) (by assumption) _)|exact q1 (dm _ _ (by omega) (by omega) (by assumption) _)|exact q2 (dm _ _ (by omega) (by omega) (by assumption) _))))|quiet_step (((go_at_call 117;first |exact s1 (dm _ _ (by omega) (by omega) (by assumption) _)|exact s2 (dm _ _ (by omega) (by omega) (by assumption) _)|exact q1 (dm _ _ (by omega) (by omega) (by assumption) _)|exact q2 (dm _ _ (by omega) (by omega) (by assumption) _)))))
     refine wpQuiet_nil ?_
     intro _ hw'
     obtain⟨nq,hw''⟩:=hw'
     subst hw''
     go_wp2_with (refine wpList_store_row rfl 143 (.tmp 5) (.tmp 63) rfl b5 0 rfl _ [_,_,_,_,_] rfl ((HV.o.drewN _).drewN _) rfl AH (by intro v hv;simp only[List.mem_cons,List.not_mem_nil,or_false]at hv;rcases hv with rfl|rfl|rfl|rfl|rfl<;>rfl) ?_;intro w3 hr3 hc3;have HR3:=ae hr3;have fT:=ae hc3;clear hr3 hc3)
     go_roundw
     case rel=>
      refine⟨i+1,by omega,by go_num,(dF.o.trans ((Qt.keeps (by repeat(first |exact Qt.refl _|exact Qt.drewN _ _|refine Qt.trans ?_ (Qt.drewN _ _)))).aG _)).trans fT.o,?_⟩
      rw[yv.o]
      have e1:((4:Int) -(i:Int)/16).toNat=way true i:=by show _=4 -i/16;omega
      have hr:=HR3.o
      first
       |exact hr
       |(rw[e1]at hr;exact hr)
     case measure=>simp[intOf];omega
  ·obtain rfl:i=80:=by omega
   have hok:=fC (rt:=rt) (st:=st) (kt:=kt) (turned:=turned) HO.o xs 80
   generalize hse:cB rt st kt turned h xs 80=r at *
   have xV:=ae hse
   clear hse
   have B7:=xO.o.aG hch HP.o.2.2.2.2.2
   have hkw:=aD HK.o hch HP.o.2.1
   have Z5:Hid ((Tryz.prog.info? 143).map (·.size)=some (r.list.map (Value.int .u32)).length):=ae AH
   have cV:=ae hrt;have TY:=ae B7;have aA:=ae hkw
   clear hrt B7 hkw hch hok
   go_wp2_with (first |(refine aj rfl 143 (.tmp 5) rfl b5 0 rfl _ _ cV.o Tryz.underlying143 rfl Z5.o ?_)|(refine wpList_store_row rfl 143 (.tmp 8) (.tmp 65) rfl b8 0 rfl _ _ rfl TY.o rfl Z5.o (ai _) ?_;intro lN iK eh;have cP:=ae iK;have fP:=ae eh;clear iK eh))
   exact bodyPost_ret (v:= .agg (r.list.map (Value.int .u32)).toArray) (ar (p:=8) (ty:=143) rfl _ _ b8 0 _ _ rfl cP.o Tryz.underlying143 rfl Z5.o) rfl ⟨by rw[xV.o],aD aA.o fP.o HP.o.2.2.1⟩
end Go.Proofs.YtlofddoojkeakaaGreatDoor.j4
