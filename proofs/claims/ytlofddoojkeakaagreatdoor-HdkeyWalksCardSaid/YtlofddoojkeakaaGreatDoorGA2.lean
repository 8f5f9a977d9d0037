/- A slice that may be appended to: what it reads, and that its spare room may be written (Buf); append onto it, from whatever source. -/
import Derived.Test.YtlofddoojkeakaaGreatDoorGA0
import Derived.Deep.AppendSrc
import Derived.Test.YtlofddoojkeakaaGreatDoorGA1
import Derived.Great.BuildSlice
set_option maxRecDepth 100000
set_option linter.unusedVariables false
set_option linter.unusedSimpArgs false
namespace Go.Proofs.YtlofddoojkeakaaGreatDoor
open Go Go.RowKit
def Buf(w:World)(size:Nat)(v:Value)(n:Nat)(xs:List Value):Prop:=
 xs.length=n*size∧((v= .slice none 0 0∧n=0)∨
   ∃g off cap spare,v= .slice (some ⟨g,off,none⟩) n cap∧n≤cap∧cap≤maxLen∧xs.length+spare.length=cap*size∧g<w.heap.size∧Row w g off (xs++spare))
theorem Buf.nil (w:World)(size:Nat):Buf w size (.slice none 0 0) 0 []:=⟨by simp,.inl ⟨rfl,rfl⟩⟩
theorem Buf.aG {S:Nat→Prop}{w w':World}{size:Nat}{v:Value}{n:Nat}{xs:List Value}(h:Buf w size v n xs)(hc:bU S w w')(hs:∀g,v.ownBlock=some g→¬S g):Buf w' size v n xs:=by
 refine⟨h.1,?_⟩
 rcases h.2 with hn|⟨g,off,cap,spare,rfl,h1,h2,h3,h4,h5⟩
 ·exact .inl hn
 ·exact .inr ⟨g,off,cap,spare,rfl,h1,h2,h3,Nat.lt_of_lt_of_le h4 hc.size,h5.aG hc (hs g rfl)⟩
theorem Buf.keeps {w w':World}{size:Nat}{v:Value}{n:Nat}{xs:List Value}(h:Buf w size v n xs)(hc:Keeps w w'):Buf w' size v n xs:=h.aG (hc.aG (fun _=>False)) (fun _ _ h=>h)
theorem Buf.lt {w:World}{size:Nat}{v:Value}{n:Nat}{xs:List Value}(h:Buf w size v n xs){g:Nat}(hg:v.ownBlock=some g):g<w.heap.size:=by
 rcases h.2 with⟨rfl,_⟩|⟨g',off,cap,spare,rfl,h1,h2,h3,h4,h5⟩
 ·simp[Value.ownBlock]at hg
 ·simp[Value.ownBlock]at hg;subst hg;exact h4
theorem Buf.form {w:World}{size:Nat}{v:Value}{n:Nat}{xs:List Value}(h:Buf w size v n xs)(hv:v≠ .slice none 0 0∨0<n):
 ∃g off cap,v= .slice (some ⟨g,off,none⟩) n cap∧n≤cap∧cap≤maxLen∧g<w.heap.size∧Row w g off xs:=by
 rcases h.2 with⟨rfl,h0⟩|⟨g,off,cap,spare,rfl,h1,h2,h3,h4,h5⟩
 ·rcases hv with hv|hv
  ·exact absurd rfl hv
  · omega
 ·refine⟨g,off,cap,rfl,h1,h2,h4,?_⟩
  have :=h5.take xs.length
  rwa[List.take_left]at this
theorem Buf.any {w:World}{size:Nat}{v:Value}{n:Nat}{xs:List Value}(h:Buf w size v n xs):
 ∃a cap,v= .slice a n cap∧n≤cap∧cap≤maxLen∧(a=none→n=0∧cap=0)∧(∀ad,a=some ad→∃g off,ad=⟨g,off,none⟩∧g<w.heap.size∧Row w g off xs):=by
 rcases h.2 with⟨rfl,h0⟩|⟨g,off,cap,spare,rfl,h1,h2,h3,h4,h5⟩
 ·subst h0;exact⟨none,0,rfl,Nat.le_refl _,Nat.zero_le _,fun _=>⟨rfl,rfl⟩,fun ad h=>by cases h⟩
 ·refine⟨_,cap,rfl,h1,h2,fun h=>(by cases h),fun ad h=>⟨g,off,(Option.some.inj h).symm,h4,?_⟩⟩
  have :=h5.take xs.length
  rwa[List.take_left]at this
theorem Buf.Fq {w:World}{base:Nat}{e:TypeId}{size:Nat}{v:Value}{n:Nat}{xs:List Value}(h:w.ownsRow base e size v n xs):Buf w size v n xs:=by
 refine⟨h.1,?_⟩
 rcases h.2 with hn|⟨g,cap,cur,rfl,hb,hg,hnc,hcm,hcs,htake⟩
 ·exact .inl hn
 · have hx:xs++cur.toList.drop (n*size)=cur.toList:=by rw[←htake,List.take_append_drop]
   refine .inr ⟨g,0,cap,cur.toList.drop (n*size),rfl,hnc,hcm,?_,(Array.getElem?_eq_some_iff.1 hg).1,?_⟩
   · have :=congrArg List.length hx
     rw[List.length_append]at this
     rw[this,Array.length_toList,hcs]
   ·rw[hx]
    intro j v hv
    rw[Nat.zero_add]
    exact⟨(cell_of_row _ _ _ _ _ _ hg).trans (by simpa using hv),frozen_of_row _ _ _ _ _ hg⟩
theorem Buf.made {w:World}{size:Nat}(T:TypeId):Buf (w.alloc (.cells #[] T)) size (.slice (some ⟨w.heap.size,0,none⟩) 0 0) 0 []:=
 ⟨by simp,.inr ⟨w.heap.size,0,0,[],rfl,Nat.le_refl _,Nat.zero_le _,by simp,by simp,fun j v hv=>by simp at hv⟩⟩
theorem Row.setCells {w:World}{b off:Nat}:∀(news:List Value) (i:Nat) {w:World} {vs:List Value},Row w b off vs→i+news.length≤vs.length→
 Row (w.setCells b (off+i) news) b off (vs.take i++news++vs.drop (i+news.length))
 |[],i,w,vs,h,hl=>by simpa[World.setCells]using h
 |v::r,i,w,vs,h,hl=>by
  have h1:=h.set i (by simp at hl;omega) v
  have h2:=Row.setCells (w:=w) r (i+1) h1 (by simp at hl⊢;omega)
  rw[World.setCells,show off+i+1=off+(i+1) by omega]
  have hi:i<vs.length:=by simp at hl;omega
  have e:(vs.set i v).take (i+1)++r++(vs.set i v).drop (i+1+r.length)=vs.take i++v::r++vs.drop (i+(v::r).length):=by
   have e1:(vs.set i v).take (i+1)=vs.take i++[v]:=by
    rw[List.take_succ_eq_append_getElem (by simpa using hi),List.take_set_of_le (Nat.le_refl _)]
    simp
   have e2:(vs.set i v).drop (i+1+r.length)=vs.drop (i+(v::r).length):=by
    rw[List.drop_set_of_lt (by omega)]
    rw[show i+1+r.length=i+(v::r).length by simp;omega]
   rw[e1,e2];simp
  rw[e]at h2
  exact h2
theorem dh(b:Nat):∀(news:List Value) (o:Nat) (w:World),bU (· =b) w (w.setCells b o news)
 |[],_,w=>bU.refl _ w
 |v::r,o,w=>bU.trans (b:=w.setCell ⟨b,o,none⟩ v) ((bU.refl (· =b) w).setCell (p:=⟨b,o,none⟩) (.inr rfl) v) (dh b r (o+1) _)
def gG(w:World)(v v':Value):Prop:=v'.ownBlock=v.ownBlock∨∃g,v'.ownBlock=some g∧w.heap.size≤g
section
variable {P:Program}
theorem sj(w:World)(t tx ty e:TypeId)(i:TypeInfo)(z:Value)(size bytes:Nat)(ht:P.underlying t=some (.slice e))(hi:P.info? e=some i)(hz:i.zero=some z)
 (hsize:i.size=size) (hby:i.bytes=bytes) (hzs:z.cells.size=size) (hsz:0<size)
 (v:Value) (n:Nat) (xs:List Value) (hb:Buf w size v n xs) (x:Value) (m:Nat) (news:List Value) (hs:Src P size tx x m news w)
 (h63:n+m≤maxLen) (hbytes:(n+m)*bytes≤140737488355328):
 ∃v' w',(Builtin.append_ #[t,tx] ty #[v,x]).run P w= .ok v' w'∧Buf w' size v' (n+m) (xs++news)∧bU (fun k=>v.ownBlock=some k) w w'∧gG w v v'∧(v' = .slice none 0 0→v= .slice none 0 0∧m=0):=by
 subst hsize
 subst hby
 have hlen:(xs++news).length=(n+m)*i.size:=by rw[List.length_append,hb.1,hs.newsLen,Nat.add_mul]
 have grown:∀(base:Option Addr) (cap:Nat),cap<n+m→(Builtin.firstCells i.size n (.slice base n cap)).run P w.drew= .ok xs.toArray w.drew→v= .slice base n cap→
  ∃v' w',(Builtin.append_ #[t,tx] ty #[v,x]).run P w= .ok v' w'∧Buf w' i.size v' (n+m) (xs++news)∧bU (fun k=>v.ownBlock=some k) w w'∧gG w v v'∧(v' = .slice none 0 0→v= .slice none 0 0∧m=0):=by
  intro base cap hcap hold hv
  subst hv
  have hge:=grownCap_ge w (n+m) cap e
  have hcm:grownCap w (n+m) cap e≤maxLen:=grownCap_le_maxLen w (n+m) cap e h63
  have hr:=run_append_grow_src (P:=P) w t tx ty e i z ht hi hz base n cap xs hold x m news hs hcap (by simp only[maxLen]at h63;omega) (growslice_fits hcap hbytes)
  refine⟨_,_,hr,Buf.Fq (base:=w.heap.size) (e:=e) ⟨hlen,.inr ⟨w.heap.size,_,_,rfl,Nat.le_refl _,heap_alloc_new w.drew _,hge,hcm,?_,?_⟩⟩,(bU.refl _ w).drew.alloc _,.inr ⟨w.heap.size,rfl,Nat.le_refl _⟩,fun h=>by cases h⟩
  ·simp only[Array.size_append,List.size_toArray,size_zeroCells,hzs,hlen,←Nat.add_mul]
   congr 1
   omega
  ·simp only[Array.toList_append,←hlen]
   exact List.take_left
 rcases hb.2 with⟨rfl,rfl⟩|⟨g,off,cap,spare,rfl,h1,h2,h3,h4,h5⟩
 · have hx:xs=[]:=List.eq_nil_of_length_eq_zero (by simpa using hb.1)
   subst hx
   by_cases hm:m=0
   ·subst hm
    have hn:news=[]:=List.eq_nil_of_length_eq_zero (by simpa using hs.newsLen)
    subst hn
    refine⟨.slice none 0 0,w,?_,Buf.nil w i.size,bU.refl _ w,.inl rfl,fun _=>⟨rfl,rfl⟩⟩
    rcases hs.kind with⟨e',hk⟩|hk<;>simp[Builtin.append_,run_underlying ht,run_underlying hk,sizeOf,typeInfo,hi,hs.len,hs.cells]
   ·exact grown none 0 (by omega) (run_firstCells_none w.drew i.size 0 0 0) rfl
 · by_cases hroom:n+m≤cap
   · have hml:n*i.size+m*i.size≤cap*i.size:=by rw[←Nat.add_mul];exact Nat.mul_le_mul_right _ hroom
     have hb1:=hb.1
     have hnl:=hs.newsLen
     have hfit:xs.length+news.length≤(xs++spare).length:=by rw[List.length_append];omega
     have hcell:∀j,j<news.length→(w.cell? ⟨g,off+n*i.size+j,none⟩).isSome=true∧w.frozen? ⟨g,off+n*i.size+j,none⟩=false:=fun j hj=>by
      have hj2:n*i.size+j<(xs++spare).length:=by omega
      have :=h5 (n*i.size+j) (xs++spare)[n*i.size+j] (by simp[hj2])
      rw[←Nat.add_assoc]at this
      exact⟨by rw[this.1];rfl,this.2⟩
     have hr:=run_append_room_src (P:=P) w t tx ty e i ht hi g off n cap x m news hs hroom (fun j hj=>(hcell j hj).1) (fun j hj=>(hcell j hj).2)
     have hrow:=Row.setCells (w:=w) news (n*i.size) h5 (by rw[←hb1];exact hfit)
     have e1:(xs++spare).take (n*i.size)=xs:=by rw[←hb1];exact List.take_left
     have e2:(xs++spare).drop (n*i.size+news.length)=spare.drop news.length:=by
      rw[←hb1,List.drop_append]
      simp
     rw[e1,e2]at hrow
     have hc:=dh g news (off+n*i.size) w
     refine⟨_,_,hr,⟨hlen,.inr ⟨g,off,cap,spare.drop news.length,rfl,hroom,h2,?_,Nat.lt_of_lt_of_le h4 hc.size,hrow⟩⟩,hc.mono (fun k _ hk=>by subst hk;rfl),.inl rfl,fun h=>by cases h⟩
     rw[List.length_append]at hfit⊢
     rw[List.length_drop]
     omega
   ·refine grown (some ⟨g,off,none⟩) cap (by omega) ?_ rfl
    exact run_firstCells_some w.drew i.size n ⟨g,off,none⟩ n cap xs hb.1 (fun j u hu=>by
     have hadd:(⟨g,off,none⟩:Addr).add j=⟨g,off+j,none⟩:=by unfold Addr.add;split<;>simp_all
     rw[hadd]
     have hj:j<xs.length:=by
      by_cases hj:j<xs.length
      ·exact hj
      ·rw[List.getElem?_eq_none (by omega)]at hu;cases hu
     exact(h5 j u (by rw[List.getElem?_append_left hj];exact hu)).1)
theorem en{w:World}{ops:Array Oper}{rest:List Oper}{o:Oper}{a:Act}{Q:Exit→Act→World→Prop}(hgd:o.guard=none)(s x:Operand)(t tx:TypeId)
 (ho:o.op= .call {callee:= .builtin .append,args:= #[s,x],argTypes:= #[t,tx]})
 (e:TypeId) (i:TypeInfo) (z:Value) (size bytes:Nat) (ht:P.underlying t=some (.slice e)) (hi:P.info? e=some i) (hz:i.zero=some z)
 (hsize:i.size=size) (hby:i.bytes=bytes) (hzs:z.cells.size=size) (hsz:0<size)
 (v:Value) (n:Nat) (xs:List Value) (hv:a.eval s=v) (hb:Buf w size v n xs) (xv:Value) (hx:a.eval x=xv) (m:Nat) (news:List Value) (hs:Src P size tx xv m news w)
 (h63:n+m≤maxLen) (hbytes:(n+m)*bytes≤140737488355328)
 (h:∀v' w',Buf w' size v' (n+m) (xs++news)→bU (fun k=>v.ownBlock=some k) w w'→gG w v v'→(v' = .slice none 0 0→v= .slice none 0 0∧m=0)→wpList P ops Q rest (a.put o.dst v') w'):wpList P ops Q (o::rest) a w:=by
 refine wpList_plain hgd fun K hK=> ?_
 obtain⟨v',w',hr,h1,h2,h3,h4⟩:=sj (P:=P) w t tx o.type e i z size bytes ht hi hz hsize hby hzs hsz v n xs hb xv m news hs h63 hbytes
 subst hv hx
 unfold Oper.wp
 simp[execOp,ho,resolve,invoke,builtin,hr,Result.andThen]
 exact hK _ _ (h v' w' h1 h2 h3 h4)
end
theorem Src.row {P:Program}{w:World}{size:Nat}{tx e':TypeId}(hk:P.underlying tx=some (.slice e')){g off n c:Nat}{news:List Value}(hl:news.length=n*size)(hr:Row w g off news)(h1:∀u∈news,u.oneCell' =true):
 Src P size tx (.slice (some ⟨g,off,none⟩) n c) n news w:=
 Src.ofSlice w hk ⟨g,off,none⟩ n c news hl (fun j u hu=>by
  have hadd:(⟨g,off,none⟩:Addr).add j=⟨g,off+j,none⟩:=by unfold Addr.add;split<;>simp_all
  rw[hadd];exact(hr j u hu).1) h1
theorem Row.whole {w:World}{b off:Nat}{olds cs:List Value}(h:Row w b off olds)(hl:cs.length=olds.length):Row (w.setCells b off cs) b off cs:=by
 have :=Row.setCells (w:=w) cs 0 h (by omega)
 simp only[Nat.add_zero,List.take_zero,List.nil_append,Nat.zero_add]at this
 rwa[List.drop_eq_nil_of_le (by omega),List.append_nil]at this
section
variable {P:Program}
theorem run_storeVar_row(w:World)(g off:Nat)(T:TypeId)(olds cs:List Value)(hg:Row w g off olds)(hl:cs.length=olds.length)(hi:(P.info? T).map (·.size)=some cs.length)(h1:∀v∈cs,v.oneCell' =true):
 (storeVar T ⟨g,off,none⟩ (.agg cs.toArray)).run P w= .ok () (w.setCells g off cs):=by
 have hst:=run_storeCells_cells (P:=P) g off cs 0 w (fun j hj=>by
  rw[Nat.add_zero]
  have :=hg j olds[j] (by simp)
  rw[this.1];rfl) (fun j hj=>by
  rw[Nat.add_zero]
  exact(hg j olds[j] (by simp)).2) h1
 simp only[Nat.add_zero]at hst
 cases hq:P.info? T with
 |none=>simp[hq]at hi
 |some x=>
  have hx:x.size=cs.length:=by simpa[hq]using hi
  simp[storeVar,Value.cells,sizeOf,typeInfo,hq,hx,hst]
theorem wpList_store_row{w:World}{ops:Array Oper}{rest:List Oper}{o:Oper}{a:Act}{Q:Exit→Act→World→Prop}(hgd:o.guard=none)(T:TypeId)(x y:Operand)(ho:o.op= .store T x y)
 (g off:Nat) (hx:a.eval x= .pointer (some ⟨g,off,none⟩)) (olds cs:List Value) (hy:a.eval y= .agg cs.toArray) (hg:Row w g off olds) (hl:cs.length=olds.length)
 (hi:(P.info? T).map (·.size)=some cs.length) (h1:∀v∈cs,v.oneCell' =true)
 (h:∀w',Row w' g off cs→bU (· =g) w w'→wpList P ops Q rest (a.put o.dst undef) w'):wpList P ops Q (o::rest) a w:=
 wpList_plain hgd fun _ hK=>by
  unfold Oper.wp execOp
  simp only[ho,hx,hy,Instr.storeAt,Instr.sureAddr,Sem.run_bind,Sem.run_pure,Result.andThen_ok,run_storeVar_row w g off T olds cs hg hl hi h1]
  exact hK _ _ (h _ (hg.whole hl) (dh _ _ _ _))
end
theorem ut(z:Value)(n:Nat):madeCells #[z] n=(List.replicate n z).toArray:=by
 apply Array.ext
 ·simp[madeCells]
 ·intro i h1 h2
  simp[madeCells,Nat.mod_one]
section
variable {P:Program}
theorem wpList_make_row{w:World}{ops:Array Oper}{rest:List Oper}{o:Oper}{a:Act}{Q:Exit→Act→World→Prop}(hgd:o.guard=none)(t:TypeId)(x y:Operand)(ho:o.op= .makeSlice t x y)
 (e:TypeId) (i:TypeInfo) (z:Value) (bytes:Nat) (ht:P.underlying t=some (.slice e)) (hi:P.info? e=some i) (hz:i.zero=some z) (hs:i.size=1) (hby:i.bytes=bytes) (hzc:z.cells= #[z])
 (kl kc:IntKind) (c:Int) (n:Nat) (hx:a.eval x= .int kl c) (hy:a.eval y= .int kc c) (hc:c=(n:Int)) (hbytes:bytes*n≤281474976710656) (h63:n≤maxLen)
 (h:∀w',Row w' w.heap.size 0 (List.replicate n z)→Keeps w w'→w.heap.size<w'.heap.size→wpList P ops Q rest (a.put o.dst (.slice (some ⟨w.heap.size,0,none⟩) n n)) w'):wpList P ops Q (o::rest) a w:=
 wpList_plain hgd fun _ hK=>by
  subst hby hc
  have hr:=run_make (P:=P) w t e i z ht hi hz kl kc (n:Int) (n:Int) (by omega) (Int.le_refl _) (by omega) (by simp only[maxLen]at h63;omega)
  simp only[Int.toNat_natCast,hs,Nat.mul_one,hzc,ut]at hr
  unfold Oper.wp execOp
  simp only[ho,hx,hy,Sem.run_bind,Sem.run_pure,Result.andThen_ok,hr]
  exact hK _ _ (h _ (Row.new _ _ _ rfl) ((Keeps.refl w).alloc (Nat.le_refl _) _) (by simp))
end
def Rd(w:World)(size:Nat)(v:Value)(n:Nat)(xs:List Value):Prop:=
 xs.length=n*size∧∃a cap,v= .slice a n cap∧n≤cap∧cap≤maxLen∧(a=none→n=0∧cap=0)∧(∀ad,a=some ad→0<n→∃g off,ad=⟨g,off,none⟩∧g<w.heap.size∧Row w g off xs)
theorem Buf.rd {w:World}{size:Nat}{v:Value}{n:Nat}{xs:List Value}(h:Buf w size v n xs):Rd w size v n xs:=by
 obtain⟨a,cap,h1,h2,h3,h4,h5⟩:=h.any
 exact⟨h.1,a,cap,h1,h2,h3,h4,fun ad e _=>h5 ad e⟩
theorem Rd.aG {S:Nat→Prop}{w w':World}{size:Nat}{v:Value}{n:Nat}{xs:List Value}(h:Rd w size v n xs)(hc:bU S w w')(hs:∀g,v.ownBlock=some g→¬S g):Rd w' size v n xs:=by
 obtain⟨h0,a,cap,rfl,h2,h3,h4,h5⟩:=h
 refine⟨h0,a,cap,rfl,h2,h3,h4,fun ad e hn=> ?_⟩
 obtain⟨g,off,e2,hg,hr⟩:=h5 ad e hn
 subst e e2
 exact⟨g,off,rfl,Nat.lt_of_lt_of_le hg hc.size,hr.aG hc (hs g rfl)⟩
theorem Rd.keeps {w w':World}{size:Nat}{v:Value}{n:Nat}{xs:List Value}(h:Rd w size v n xs)(hc:Keeps w w'):Rd w' size v n xs:=h.aG (hc.aG (fun _=>False)) (fun _ _ h=>h)
theorem Rd.bQ {w:World}{size g off n cap:Nat}{xs:List Value}(h:Row w g off xs)(hl:xs.length=n*size)(hg:g<w.heap.size)(hn:n≤cap)(hc:cap≤maxLen):Rd w size (.slice (some ⟨g,off,none⟩) n cap) n xs:=
 ⟨hl,_,_,rfl,hn,hc,fun h=>(by cases h),fun ad e _=>⟨g,off,(Option.some.inj e).symm,hg,h⟩⟩
theorem Rd.src {P:Program}{w:World}{size:Nat}{v:Value}{n:Nat}{xs:List Value}(h:Rd w size v n xs){tx e':TypeId}(hk:P.underlying tx=some (.slice e'))(h1:∀u∈xs,u.oneCell' =true):Src P size tx v n xs w:=by
 obtain⟨h0,a,cap,rfl,h2,h3,h4,h5⟩:=h
 cases a with
 |none=>
  obtain⟨rfl,rfl⟩:=h4 rfl
  have hx:xs=[]:=List.eq_nil_of_length_eq_zero (by simpa using h0)
  subst hx
  exact Src.ofNil w hk 0
 |some ad=>
  by_cases hn:n=0
  ·subst hn
   have hx:xs=[]:=List.eq_nil_of_length_eq_zero (by simpa using h0)
   subst hx
   exact Src.ofSlice w hk ad 0 cap [] (by simp) (fun j u hu=>by simp at hu) h1
  ·obtain⟨g,off,rfl,_,hr⟩:=h5 ad rfl (by omega)
   exact Src.row hk h0 hr h1
theorem oO{P:Program}{w:World}{ops:Array Oper}{rest:List Oper}{o:Oper}{a:Act}{Q:Exit→Act→World→Prop}(hgd:o.guard=none)(T:TypeId)(x y:Operand)(ho:o.op= .store T x y)
 (g base i:Nat) (hx:a.eval x= .pointer (some ⟨g,base+i,none⟩)) (vs cs:List Value) (hy:a.eval y= .agg cs.toArray) (hg:Row w g base vs) (hl:i+cs.length≤vs.length)
 (hi:(P.info? T).map (·.size)=some cs.length) (h1:∀v∈cs,v.oneCell' =true)
 (h:∀w',Row w' g base (vs.take i++cs++vs.drop (i+cs.length))→bU (· =g) w w'→wpList P ops Q rest (a.put o.dst undef) w'):wpList P ops Q (o::rest) a w:=
 wpList_plain hgd fun _ hK=>by
  have hg':Row w g (base+i) ((vs.drop i).take cs.length):=(hg.drop i).take _
  unfold Oper.wp execOp
  simp only[ho,hx,hy,Instr.storeAt,Instr.sureAddr,Sem.run_bind,Sem.run_pure,Result.andThen_ok,run_storeVar_row w g (base+i) T _ cs hg' (by simp;omega) hi h1]
  exact hK _ _ (h _ (Row.setCells (w:=w) cs i hg hl) (dh _ _ _ _))
theorem Buf.tail {w:World}{g off n cap k:Nat}{xs:List Value}(h:Buf w 1 (.slice (some ⟨g,off,none⟩) n cap) n xs)(hk:k≤n):Buf w 1 (.slice (some ⟨g,off+k,none⟩) (n -k) (cap -k)) (n -k) (xs.drop k):=by
 have h0:=h.1
 rcases h.2 with⟨hv,_⟩|⟨g',off',cap',spare,hv,h1,h2,h3,h4,h5⟩
 · cases hv
 · cases hv
   refine⟨by rw[List.length_drop];omega,.inr ⟨g,off+k,cap -k,spare,rfl,by omega,by omega,by rw[List.length_drop];omega,h4,?_⟩⟩
   have :=h5.drop k
   rwa[List.drop_append_of_le_length (by omega)]at this
theorem Buf.xZ {w:World}{g off n:Nat}{xs:List Value}(h:Buf w 1 (.slice (some ⟨g,off,none⟩) n n) n xs):Buf w 1 (.slice (some ⟨g,off,none⟩) 0 0) 0 (xs.drop n):=by
 have h0:=h.1
 rcases h.2 with⟨hv,_⟩|⟨g',off',cap',spare,hv,h1,h2,h3,h4,h5⟩
 · cases hv
 · cases hv
   refine⟨by rw[List.length_drop];omega,.inr ⟨g,off,0,[],rfl,Nat.le_refl _,Nat.zero_le _,by rw[List.length_drop];simp;omega,h4,?_⟩⟩
   rw[List.drop_eq_nil_of_le (by omega)]
   intro j v hv;simp at hv
theorem cf{P:Program}{c:Code}{Q:Exit→Act→World→Prop}{a:Act}{E:World}(I:World→Prop)(hE:I E)(h:∀W,I W→Code.wp P c Q a W):Code.wp P c Q a E:=h E hE
end Go.Proofs.YtlofddoojkeakaaGreatDoor
namespace Go.Proofs.YtlofddoojkeakaaGreatDoor
open Go Go.RowKit
def St.agg (s:St):Value:= .agg #[.int .u32 s.a,.int .u32 s.b,.int .u32 s.c,.int .u32 s.d,.int .u32 s.e,.int .u32 s.f,.int .u32 s.g,.int .u32 s.h]
theorem Dt(w:World):Calls Tryz.prog 114 #[] w fun e w' =>e= .returned dN.agg∧Keeps w w':=by
 go_enter Tryz.func114,Tryz.ntmps114
 go_wp2
 exact bodyPost_ret (v:=dN.agg) (by simp[results,Tryz.results114,go_sem];rfl) rfl ⟨rfl,(Keeps.refl _).alloc (Nat.le_refl _) _⟩
theorem x8(w:World):Calls Tryz.prog 115 #[] w fun e w' =>e= .returned (.agg (jF.map (Value.int .u32)).toArray)∧Keeps w w':=by
 go_enter Tryz.func115,Tryz.ntmps115
 go_wp2_with (first |(refine wpList_buildFlatArr rfl 164 23 64 _ rfl .u32 jF Tryz.underlying164 mo (by kernel_rfl) (by kernel_rfl) ?_)|(refine wpList_store_row rfl 164 (.tmp 0) (.tmp 1) rfl w.heap.size 0 rfl (List.replicate 64 (Value.int .u32 0)) (jF.map (Value.int .u32)) rfl (Row.new _ _ _ rfl) (by kernel_rfl) (by kernel_rfl) (ai _) ?_;intro w1 hr hc))
 refine bodyPost_ret (ar (p:=0) (by kernel_rfl) _ _ w.heap.size 0 (jF.map (Value.int .u32)) _ rfl hr Tryz.underlying164 rfl (by kernel_rfl)) rfl ⟨rfl,?_⟩
 exact bU.keeps (((bU.refl (· =w.heap.size) w).alloc _).trans hc) (fun k hk e=>by omega)
theorem jI:(Tryz.prog.info? 5).map (fun i=>(i.zero,i.size,i.bytes))=some (some (.int .u8 0),1,1):=by kernel_rfl
def Az(v:Int):List Int:=[v/72057594037927936%256,v/281474976710656%256,v/1099511627776%256,v/4294967296%256,v/16777216%256,v/65536%256,v/256%256,v%256]
theorem Du(v:Int):Bytes (Az v):=by
 intro x hx
 simp only[Az,List.mem_cons,List.mem_singleton,List.not_mem_nil,or_false]at hx
 unfold Byte
 rcases hx with rfl|rfl|rfl|rfl|rfl|rfl|rfl|rfl<;>omega
def tb(N:Nat)(v:Int)(i:Nat):List Int:=(128::List.replicate (N -1 -i) 0)++(Az v).drop (8 -i)
theorem fH(N:Nat)(v:Int)(i:Nat)(hN:9≤N)(hi:i≤8):(tb N v i).length=N:=by simp[tb,Az];omega
theorem Fs(N:Nat)(v:Int)(i:Nat)(hN:9≤N)(hi:i<8):(tb N v i).set (N -1 -i) (v/2^(8*i)%256)=tb N v (i+1):=by
 unfold tb
 rw[List.set_append_left _ _ (by simp)]
 have e:(128::List.replicate (N -1 -i) (0:Int)).set (N -1 -i) (v/2^(8*i)%256)=(128::List.replicate (N -1 -(i+1)) 0)++[v/2^(8*i)%256]:=by
  rw[show N -1 -i=(N -1 -(i+1))+1 by omega,List.set_cons_succ,List.replicate_succ',List.set_append_right _ _ (by simp)]
  simp
 rw[e,List.append_assoc]
 congr 1
 have :i=0∨i=1∨i=2∨i=3∨i=4∨i=5∨i=6∨i=7:=by omega
 rcases this with rfl|rfl|rfl|rfl|rfl|rfl|rfl|rfl<;>simp[Az]
def bL(n:Nat):Nat:=63 -(n+8)%64
def di(n:Nat):List Int:=128::List.replicate (bL n) 0++Az (n*8)
theorem Dv(n:Nat):tb (9+bL n) ((n:Int)*8) 8=di n:=by simp[tb,di]
theorem x9(n:Nat)(hn:n<1152921504606846976)(w:World):Calls Tryz.prog 77 #[.int .u64 n,.int .i64 64,.int .i64 8] w fun e w' =>
 e= .returned (.slice (some ⟨w.heap.size,0,none⟩) (9+bL n) (9+bL n))∧Keeps w w'∧w.heap.size<w'.heap.size∧Row w' w.heap.size 0 ((di n).map (Value.int .u8)):=by
 have hf:((bL n:Nat):Int)=63 -((n:Int)+8)%64:=by unfold bL;omega
 have hf2:bL n≤63:=by unfold bL;omega
 obtain⟨i0,hi,hz0,hz1,hz2⟩:=info_parts jI
 have HT:=ae (Dv n)
 generalize bL n=f at *
 have HF:=ae hf;clear hf
 go_enter Tryz.func77,Tryz.ntmps77
 go_wp2_with (refine wpList_make_row rfl 44 (.tmp 25) (.tmp 25) rfl 5 i0 (.int .u8 0) 1 Tryz.underlying44 hi hz0 hz1 hz2 rfl .i64 .i64 _ (9+f) rfl rfl (by have :=HF.o;omega) (by omega) (by unfold maxLen;omega) ?_;intro w1 hr hk hsz;have c0:=(hr 0 _ (by rw[Nat.add_comm,List.replicate_succ];rfl)).1;have f0:=(hr 0 _ (by rw[Nat.add_comm,List.replicate_succ];rfl)).2;have HR:=ae hr;clear hr)
 go_loopw [29] (fun c wr=>∃i:Nat,i≤8∧c= .int .i64 i∧Keeps w wr∧w.heap.size<wr.heap.size∧Row wr w.heap.size 0 ((tb (9+f) ((n:Int)*8) i).map (Value.int .u8))) (fun c _=>(8 -intOf c).toNat)
 case atStart=>
  refine⟨0,by omega,rfl,Below.setCell hk (Nat.le_refl _) _,by simpa using hsz,?_⟩
  have :=HR.o.set 0 (by simp;omega) (.int .u8 128)
  rw[show(9+f)=(8+f)+1 by omega,List.replicate_succ]at this
  simpa[tb,Az,show 9+f -1=8+f by omega]using this
 case round=>
  obtain⟨i,E7,rfl,hk2,hsz2,hr⟩:=hrel
  by_cases hlt:i<8
  · have c1:=hr.aT (9+f -1 -i) (by rw[fH _ _ _ (by omega) E7];omega)
    have f1:=hr.bR (9+f -1 -i) (by rw[aF,fH _ _ _ (by omega) E7];omega)
    have hset:=hr.bl (9+f -1 -i) (by rw[fH _ _ _ (by omega) E7];omega) ((n:Int)*8/2^(8*i)%256)
    rw[Fs _ _ _ (by omega) hlt]at hset
    have e8:9+f -1 -i=8+f -i:=by omega
    rw[e8]at c1 f1 hset
    have HS:=ae hset;have HR2:=ae hr;clear hr hset e8
    go_wp2
    go_roundw
    case rel=>exact⟨i+1,by omega,by go_num,Below.setCell hk2 (Nat.le_refl _) _,by simpa using hsz2,HS.o⟩
    case measure=>simp[intOf];omega
  ·obtain rfl:i=8:=by omega
   rw[HT.o]at hr
   have HR2:=ae hr;clear hr
   go_wp2
   go_ret
   exact⟨rfl,hk2,hsz2,HR2.o⟩
theorem clone_nil(w:World):Calls Tryz.prog 76 #[.slice none 0 0] w fun e w' =>e= .returned (.slice none 0 0)∧Keeps w w':=by
 have hq:=fun(W:World)=>Lib.run_eql_slice_nil (P:=Tryz.prog) W 44 5 none 0 0 0 0 Tryz.underlying44
 go_enter Tryz.func76,Tryz.ntmps76
 go_wp2
 go_ret
 exact⟨rfl,Keeps.refl _⟩
theorem AS(ad:Addr)(n cap:Nat)(zs:List Int)(w:World)(hr:Rd w 1 (.slice (some ad) n cap) n (zs.map (Value.int .u8)))(hn:n≤140737488355328):
 Calls Tryz.prog 76 #[.slice (some ad) n cap] w fun e w' =>∃v',e= .returned v'∧Keeps w w'∧Buf w' 1 v' n (zs.map (Value.int .u8))∧∀g,v'.ownBlock=some g→w.heap.size≤g:=by
 have hq:=fun(W:World)=>Lib.run_eql_slice_nil (P:=Tryz.prog) W 44 5 (some ad) n cap 0 0 Tryz.underlying44
 obtain⟨i0,hi,hz0,hz1,hz2⟩:=info_parts jI
 have HR:=ae hr;clear hr
 go_enter Tryz.func76,Tryz.ntmps76
 go_wp2_with (at_builtin;refine en rfl (.tmp 5) (.tmp 6) 44 44 rfl 5 i0 (.int .u8 0) 1 1 Tryz.underlying44 hi hz0 hz1 hz2 rfl (by decide) _ 0 [] rfl (Buf.made _) _ rfl n _ ((HR.o.keeps ((Keeps.refl w).alloc (Nat.le_refl _) _)).src Tryz.underlying44 (ai zs)) (by unfold maxLen;omega) (by omega) ?_;intro v' w1 hb hc hs hnn;have HB:=ae hb;have HC:=ae hc;have HS:=ae hs;clear hb hc hs hnn)
 go_ret
 refine⟨v',rfl,?_,?_,?_⟩
 ·exact bU.keeps (((bU.refl (fun k=>k=w.heap.size) w).alloc _).trans (HC.o.mono (fun k _ h=>(Option.some.inj (show some w.heap.size=some k from h)).symm))) (fun k hk e=>by omega)
 · have :=HB.o;simpa using this
 ·intro g hg
  rcases HS.o with h|⟨g',h1,h2⟩
  · have h':v'.ownBlock=some w.heap.size:=h
    rw[hg]at h';cases h';exact Nat.le_refl _
  ·rw[hg]at h1;cases h1;simp at h2;omega
theorem clone_any(v:Value)(n:Nat)(zs:List Int)(w:World)(hr:Rd w 1 v n (zs.map (Value.int .u8)))(hn:n≤140737488355328):
 Calls Tryz.prog 76 #[v] w fun e w' =>∃v',e= .returned v'∧Keeps w w'∧Buf w' 1 v' n (zs.map (Value.int .u8))∧∀g,v'.ownBlock=some g→w.heap.size≤g:=by
 have hr0:=hr
 obtain⟨h0,a,cap,rfl,h2,h3,h4,h5⟩:=hr0
 cases a with
 |none=>
  obtain⟨rfl,rfl⟩:=h4 rfl
  have hx:zs=[]:=List.eq_nil_of_length_eq_zero (by simpa using h0)
  subst hx
  refine(clone_nil w).mono ?_
  rintro e w' ⟨rfl,hk⟩
  exact⟨_,rfl,hk,Buf.nil _ _,fun g hg=>by simp[Value.ownBlock]at hg⟩
 |some ad=>exact AS ad n cap zs w hr hn
structure Own (w W:World) (v:Value) (n:Nat) (l:List Int):Prop where
 keeps:Keeps w W
 buf:Buf W 1 v n (l.map (Value.int .u8))
 new:∀g,v.ownBlock=some g→w.heap.size≤g
theorem Own.nil (w:World):Own w w (.slice none 0 0) 0 []:=⟨Keeps.refl _,Buf.nil _ _,fun g h=>by simp[Value.ownBlock]at h⟩
theorem Own.made (w:World)(T:TypeId):Own w (w.alloc (.cells #[] T)) (.slice (some ⟨w.heap.size,0,none⟩) 0 0) 0 []:=
 ⟨(Keeps.refl w).alloc (Nat.le_refl _) _,Buf.made T,fun g h=>by simp[Value.ownBlock]at h;omega⟩
theorem Own.step {w W W':World}{v:Value}{n:Nat}{l:List Int}(h:Own w W v n l)(hk:Keeps W W'):Own w W' v n l:=
 ⟨h.keeps.trans hk,h.buf.keeps hk,h.new⟩
theorem Own.rd {w W:World}{v:Value}{n:Nat}{l:List Int}(h:Own w W v n l):Rd W 1 v n (l.map (Value.int .u8)):=h.buf.rd
theorem Own.any {w W:World}{v:Value}{n:Nat}{l:List Int}(h:Own w W v n l):∃a cap,v= .slice a n cap:=by
 obtain⟨a,cap,h1,_⟩:=h.buf.any
 exact⟨a,cap,h1⟩
theorem Own.after {w W w1 w2:World}{v v':Value}{n m:Nat}{l r:List Int}(h:Own w W v n l)(hk:Keeps W w1)(hb:Buf w2 1 v' (n+m) (l.map (Value.int .u8)++r.map (Value.int .u8)))
 (hc:bU (fun k=>v.ownBlock=some k) w1 w2) (hs:gG w1 v v'):Own w w2 v' (n+m) (l++r):=by
 have hk1:=h.keeps.trans hk
 refine⟨Below.trans hk1 (hc.below hk1.size (fun k hk2 e=>by have :=h.new k e;omega)),by rw[List.map_append];exact hb,?_⟩
 intro g hg
 rcases hs with e|⟨g',e1,e2⟩
 ·exact h.new g (by rw[←e];exact hg)
 ·rw[hg]at e1;cases e1;exact Nat.le_trans hk1.size e2
def Grown(w w':World)(v v':Value):Prop:=bU (fun k=>v.ownBlock=some k) w w'∧gG w v v'
def Apart(w:World)(x v:Value):Prop:=∀g,x.ownBlock=some g→g<w.heap.size∧v.ownBlock≠some g
theorem Apart.grown {w w':World}{x v v':Value}(h:Apart w x v)(hg:Grown w w' v v'):Apart w' x v':=by
 intro g e
 obtain⟨h1,h2⟩:=h g e
 refine⟨Nat.lt_of_lt_of_le h1 hg.1.size,?_⟩
 rcases hg.2 with e2|⟨g',e2,e3⟩
 ·rw[e2];exact h2
 ·rw[e2];intro e4;cases e4;omega
theorem Rd.grown {w w':World}{x v v':Value}{size n:Nat}{xs:List Value}(h:Rd w size x n xs)(ha:Apart w x v)(hg:Grown w w' v v'):Rd w' size x n xs:=
 h.aG hg.1 (fun g e e2=>(ha g e).2 e2)
theorem Grown.keeps {w w1 w':World}{v v':Value}(hk:Keeps w w1)(h:Grown w1 w' v v'):Grown w w' v v':=by
 refine⟨(hk.aG _).trans h.1,?_⟩
 rcases h.2 with e|⟨g,e1,e2⟩
 ·exact .inl e
 ·exact .inr ⟨g,e1,Nat.le_trans hk.size e2⟩
theorem aO{w W W1:World}{ops:Array Oper}{rest:List Oper}{o:Oper}{a:Act}{Q:Exit→Act→World→Prop}(hgd:o.guard=none)(s x:Operand)
 (ho:o.op= .call {callee:= .builtin .append,args:= #[s,x],argTypes:= #[44,44]}) {v:Value} {n:Nat} {l:List Int} (hO:Own w W v n l) (hk:Keeps W W1) (hv:a.eval s=v)
 (xv:Value) (hx:a.eval x=xv) (m:Nat) (r:List Int) (hs:Src Tryz.prog 1 44 xv m (r.map (Value.int .u8)) W1) (hn:n+m≤140737488355328)
 (h:∀v' w',Own w w' v' (n+m) (l++r)→Grown W1 w' v v'→wpList Tryz.prog ops Q rest (a.put o.dst v') w'):wpList Tryz.prog ops Q (o::rest) a W1:=by
 obtain⟨i0,hi,hz0,hz1,hz2⟩:=info_parts jI
 exact en hgd s x 44 44 ho 5 i0 (.int .u8 0) 1 1 Tryz.underlying44 hi hz0 hz1 hz2 rfl (by decide) v n _ hv (hO.buf.keeps hk) xv hx m _ hs (by unfold maxLen;omega) (by omega)
  (fun v' w' hb hc hs' _=>h v' w' (hO.after hk hb hc hs') ⟨hc,hs'⟩)
theorem eR{w W:World}{ops:Array Oper}{rest:List Oper}{o:Oper}{a:Act}{Q:Exit→Act→World→Prop}(hgd:o.guard=none)(s x:Operand)
 (ho:o.op= .call {callee:= .builtin .append,args:= #[s,x],argTypes:= #[44,44]}) {v:Value} {n:Nat} {l:List Int} (hO:Own w W v n l) (hv:a.eval s=v)
 (c:Nat) (k:Int) (T:TypeId) (hx:a.eval x= .slice (some ⟨W.heap.size,0,none⟩) 1 c) (hn:n<140737488355328)
 (h:∀v' w',Own w w' v' (n+1) (l++[k])→Grown W w' v v'→wpList Tryz.prog ops Q rest (a.put o.dst v') w'):wpList Tryz.prog ops Q (o::rest) a (W.alloc (.cells #[.int .u8 k] T)):=
 aO hgd s x ho hO ((Keeps.refl W).alloc (Nat.le_refl _) _) hv _ hx 1 [k] (Src.row Tryz.underlying44 (by simp) (Row.new [.int .u8 k] _ T rfl) (ai [k])) (by omega) (fun v' w' h1 h2=>h v' w' h1 (h2.keeps ((Keeps.refl W).alloc (Nat.le_refl _) _)))
def Cq:Value→Nat
 | .slice _ n _=>n
 |_=>0
theorem ya{P:List Int→Prop}(h0:P [])(hs:∀l x,P l→P (l++[x]))(l:List Int):P l:=by
 rw[←List.reverse_reverse l]
 induction l.reverse with
 |nil=>exact h0
 |cons a r ih=>rw[List.reverse_cons];exact hs _ _ ih
def be(l:List Int):Int:=l.foldl (fun a c=>a*256+c) 0
theorem oP(l:List Int)(c:Int):be (l++[c])=be l*256+c:=by simp[be,List.foldl_append]
theorem m7(a b:List Int):be (a++b)=be a*256^b.length+be b:=by
 induction b using ya with
 |h0=>simp[be]
 |hs b c ih=>
  rw[←List.append_assoc,oP,ih,oP,List.length_append,List.length_singleton,Int.pow_succ,Int.add_mul,Int.mul_assoc,Int.add_assoc]
theorem eY{l:List Int}(h:Bytes l):0≤be l∧be l<256^l.length:=by
 induction l using ya with
 |h0=>simp[be]
 |hs b c ih=>
  have hb:=ih (fun x hx=>h x (by simp[hx]))
  have hc:=h c (by simp)
  rw[oP,List.length_append,List.length_singleton,Int.pow_succ]
  obtain⟨h1,h2⟩:=hb
  obtain⟨h3,h4⟩:=hc
  omega
def toB:Nat→Int→List Int
 |0,_=>[]
 |k+1,v=>toB k (v/256)++[v%256]
theorem fr(k:Nat)(v:Int):(toB k v).length=k:=by
 induction k generalizing v with
 |zero=>rfl
 |succ k ih=>simp[toB,ih]
theorem uQ(k:Nat)(v:Int):Bytes (toB k v):=by
 induction k generalizing v with
 |zero=>intro x hx;simp[toB]at hx
 |succ k ih=>
  intro x hx
  simp only[toB,List.mem_append,List.mem_singleton]at hx
  rcases hx with hx|rfl
  ·exact ih _ x hx
  ·exact⟨by omega,by omega⟩
theorem yb(k:Nat)(v:Int)(i:Nat)(h:i<k):(toB k v).getD i 0=v/256^(k -1 -i)%256:=by
 induction k generalizing v i with
 |zero=>omega
 |succ k ih=>
  by_cases hi:i<k
  · have e:(toB (k+1) v).getD i 0=(toB k (v/256)).getD i 0:=by
     simp[toB,List.getD,List.getElem?_append_left,fr,hi]
    rw[e,ih _ _ hi,show k+1 -1 -i=(k -1 -i)+1 by omega,Int.pow_succ',Int.ediv_ediv_of_nonneg (by decide)]
  ·obtain rfl:i=k:=by omega
   simp[toB,List.getD,fr]
def gS(l:List Int)(N i:Nat):List Int:=l.take i++List.replicate (N -i) 0
theorem nX(l:List Int)(N:Nat):gS l N 0=List.replicate N 0:=by simp[gS]
theorem nY(l:List Int)(N:Nat)(h:l.length=N):gS l N N=l:=by simp[gS,←h]
theorem eT(l:List Int)(N i:Nat)(h:l.length=N)(hi:i≤N):(gS l N i).length=N:=by simp[gS,h];omega
theorem m8(l:List Int)(N i:Nat)(h:l.length=N)(hi:i<N):(gS l N i).set i (l.getD i 0)=gS l N (i+1):=by
 have hl:i<l.length:=by omega
 unfold gS
 have e:i -(l.take i).length=0:=by simp;omega
 rw[List.set_append_right _ _ (by simp;omega),e,show N -i=(N -(i+1))+1 by omega,List.replicate_succ,List.set_cons_zero,List.take_succ_eq_append_getElem hl,List.append_assoc]
 simp[List.getD,hl]
def words(v:Int):List Int:=[v%18446744073709551616,v/18446744073709551616%18446744073709551616,v/340282366920938463463374607431768211456%18446744073709551616,v/6277101735386680763835789423207666416102355444464034512896%18446744073709551616]
theorem ak(v:Int):(words v).length=4:=rfl
def ft(u v:Int)(i:Nat):Int:=(u%18446744073709551616^i+v%18446744073709551616^i)/18446744073709551616^i
theorem oQ(i:Nat):(0:Int)<18446744073709551616^i:=Int.pow_pos (by decide)
theorem dR(v:Int)(i:Nat)(h:i<4):(words v).getD i 0=v/18446744073709551616^i%18446744073709551616:=by
 have :i=0∨i=1∨i=2∨i=3:=by omega
 rcases this with rfl|rfl|rfl|rfl<;>simp[words]
theorem dS(u B:Int)(hB:0<B)(i:Nat):u%B^(i+1)=u%B^i+B^i*(u/B^i%B):=by
 have hp:0<B^i:=Int.pow_pos hB
 have h1:=Int.emod_add_mul_ediv u (B^i)
 have h2:=Int.emod_add_mul_ediv (u/B^i) B
 have e:u=(u%B^i+B^i*(u/B^i%B))+B^(i+1)*(u/B^i/B):=by
  have h3:B^(i+1)*(u/B^i/B)=B^i*(B*(u/B^i/B)):=by rw[Int.pow_succ,Int.mul_assoc]
  rw[h3,Int.add_assoc,←Int.mul_add,h2,h1]
 have r1:=Int.emod_nonneg u (Int.ne_of_gt hp)
 have r2:=Int.emod_lt_of_pos u hp
 have r3:=Int.emod_nonneg (u/B^i) (Int.ne_of_gt hB)
 have r4:=Int.emod_lt_of_pos (u/B^i) hB
 conv=>lhs;rw[e]
 rw[Int.add_mul_emod_self_left,Int.emod_eq_of_lt]
 · have :=Int.mul_nonneg (Int.le_of_lt hp) r3
   omega
 · have h5:B^i*(u/B^i%B)≤B^i*(B -1):=Int.mul_le_mul_of_nonneg_left (by omega) (Int.le_of_lt hp)
   have h6:B^i*(B -1)=B^(i+1) -B^i:=by rw[Int.pow_succ,Int.mul_sub,Int.mul_one]
   omega
theorem yc(u v:Int):ft u v 0=0:=by simp[ft,Int.emod_one]
theorem yd(u v:Int)(i:Nat)(h:i<4):
 ((words u).getD i 0+(words v).getD i 0+ft u v i)/18446744073709551616=ft u v (i+1)∧
 ((words u).getD i 0+(words v).getD i 0+ft u v i)%18446744073709551616=(words (u+v)).getD i 0:=by
 have hp:=oQ i
 have key:(words u).getD i 0+(words v).getD i 0+ft u v i=(u%18446744073709551616^(i+1)+v%18446744073709551616^(i+1))/18446744073709551616^i:=by
  rw[dR _ _ h,dR _ _ h,dS u _ (by decide),dS v _ (by decide),ft]
  generalize u%18446744073709551616^i=a
  generalize v%18446744073709551616^i=b
  generalize u/18446744073709551616^i%18446744073709551616=c
  generalize v/18446744073709551616^i%18446744073709551616=d
  rw[show a+18446744073709551616^i*c+(b+18446744073709551616^i*d)=(a+b)+18446744073709551616^i*(c+d) by rw[Int.mul_add];omega,Int.add_mul_ediv_left _ _ (Int.ne_of_gt hp)]
  omega
 refine⟨?_,?_⟩
 ·rw[key,ft,Int.ediv_ediv_of_nonneg (Int.le_of_lt hp),←Int.pow_succ]
 ·rw[key,dR _ _ h]
  have e1:=Int.emod_add_mul_ediv u (18446744073709551616^(i+1))
  have e2:=Int.emod_add_mul_ediv v (18446744073709551616^(i+1))
  generalize hs:u%18446744073709551616^(i+1)+v%18446744073709551616^(i+1)=s
  have e3:u+v=s+18446744073709551616^i*(18446744073709551616*(u/18446744073709551616^(i+1)+v/18446744073709551616^(i+1))):=by
   rw[←Int.mul_assoc,←Int.pow_succ,Nat.succ_eq_add_one,Int.mul_add];omega
  conv=>rhs;rw[e3]
  rw[Int.add_mul_ediv_left _ _ (Int.ne_of_gt hp),Int.add_mul_emod_self_left]
theorem wm(u v:Int)(i:Nat):0≤ft u v i∧ft u v i≤1:=by
 have hp:=oQ i
 have r1:=Int.emod_nonneg u (Int.ne_of_gt hp)
 have r2:=Int.emod_lt_of_pos u hp
 have r3:=Int.emod_nonneg v (Int.ne_of_gt hp)
 have r4:=Int.emod_lt_of_pos v hp
 unfold ft
 refine⟨Int.ediv_nonneg (by omega) (by omega),?_⟩
 have :(u%18446744073709551616^i+v%18446744073709551616^i)/18446744073709551616^i<2:=Int.ediv_lt_of_lt_mul hp (by omega)
 omega
theorem ye{u v:Int}(hu:0≤u)(hu':u<115792089237316195423570985008687907853269984665640564039457584007913129639936)(hv:0≤v)(hv':v<115792089237316195423570985008687907853269984665640564039457584007913129639936):ft u v 4=(u+v)/115792089237316195423570985008687907853269984665640564039457584007913129639936:=by
 unfold ft
 rw[show(18446744073709551616:Int)^4=115792089237316195423570985008687907853269984665640564039457584007913129639936 by decide,Int.emod_eq_of_lt hu hu',Int.emod_eq_of_lt hv hv']
def eE(u v:Int)(i:Nat):Int:= -((u%18446744073709551616^i -v%18446744073709551616^i)/18446744073709551616^i)
theorem wo(u v:Int):eE u v 0=0:=by simp[eE,Int.emod_one]
theorem wq(u v:Int)(i:Nat)(h:i<4):
 -(((words u).getD i 0 -(words v).getD i 0 -eE u v i)/18446744073709551616)=eE u v (i+1)∧
 ((words u).getD i 0 -(words v).getD i 0 -eE u v i)%18446744073709551616=(words (u -v)).getD i 0:=by
 have hp:=oQ i
 have key:(words u).getD i 0 -(words v).getD i 0 -eE u v i=(u%18446744073709551616^(i+1) -v%18446744073709551616^(i+1))/18446744073709551616^i:=by
  rw[dR _ _ h,dR _ _ h,dS u _ (by decide),dS v _ (by decide),eE]
  generalize u%18446744073709551616^i=a
  generalize v%18446744073709551616^i=b
  generalize u/18446744073709551616^i%18446744073709551616=c
  generalize v/18446744073709551616^i%18446744073709551616=d
  rw[show a+18446744073709551616^i*c -(b+18446744073709551616^i*d)=(a -b)+18446744073709551616^i*(c -d) by rw[Int.mul_sub];omega,Int.add_mul_ediv_left _ _ (Int.ne_of_gt hp)]
  omega
 refine⟨?_,?_⟩
 ·rw[key,eE,Int.ediv_ediv_of_nonneg (Int.le_of_lt hp),←Int.pow_succ]
 ·rw[key,dR _ _ h]
  have e1:=Int.emod_add_mul_ediv u (18446744073709551616^(i+1))
  have e2:=Int.emod_add_mul_ediv v (18446744073709551616^(i+1))
  generalize hs:u%18446744073709551616^(i+1) -v%18446744073709551616^(i+1)=s
  have e3:u -v=s+18446744073709551616^i*(18446744073709551616*(u/18446744073709551616^(i+1) -v/18446744073709551616^(i+1))):=by
   rw[←Int.mul_assoc,←Int.pow_succ,Nat.succ_eq_add_one,Int.mul_sub];omega
  conv=>rhs;rw[e3]
  rw[Int.add_mul_ediv_left _ _ (Int.ne_of_gt hp),Int.add_mul_emod_self_left]
theorem uu(u v:Int)(i:Nat):0≤eE u v i∧eE u v i≤1:=by
 have hp:=oQ i
 have r1:=Int.emod_nonneg u (Int.ne_of_gt hp)
 have r2:=Int.emod_lt_of_pos u hp
 have r3:=Int.emod_nonneg v (Int.ne_of_gt hp)
 have r4:=Int.emod_lt_of_pos v hp
 unfold eE
 generalize u%18446744073709551616^i=a at *
 generalize v%18446744073709551616^i=b at *
 generalize(18446744073709551616:Int)^i=M at *
 by_cases h:b≤a
 ·rw[Int.ediv_eq_zero_of_lt (by omega) (by omega)];omega
 · have :(a -b)/M= -1:=by
    rw[show a -b=(a -b+M)+M*(-1) by omega,Int.add_mul_ediv_left _ _ (Int.ne_of_gt hp),Int.ediv_eq_zero_of_lt (by omega) (by omega)];rfl
   omega
theorem wt{u v:Int}(hu:0≤u)(hu':u<115792089237316195423570985008687907853269984665640564039457584007913129639936)(hv:0≤v)(hv':v<115792089237316195423570985008687907853269984665640564039457584007913129639936):eE u v 4=if u<v then 1 else 0:=by
 unfold eE
 rw[show(18446744073709551616:Int)^4=115792089237316195423570985008687907853269984665640564039457584007913129639936 by decide,Int.emod_eq_of_lt hu hu',Int.emod_eq_of_lt hv hv']
 split<;>omega
theorem Ft(l:List Int)(p j:Nat)(v:Int)(h:j<l.length):(l.set p v).getD j 0=if p=j then v else l.getD j 0:=by
 simp only[List.getD,List.getElem?_set]
 split<;>rename_i hp
 ·subst hp;simp[h]
 · rfl
def bit(a:Int)(i:Nat):Int:=a/2^i%2
end Go.Proofs.YtlofddoojkeakaaGreatDoor
