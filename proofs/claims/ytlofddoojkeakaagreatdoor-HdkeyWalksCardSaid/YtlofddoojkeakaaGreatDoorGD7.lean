/- hash.Ripemd's two lines of a block: loads, calls and allocations in whatever order.. -/
import Derived.Test.YtlofddoojkeakaaGreatDoorGD6
import Derived.Test.YtlofddoojkeakaaGreatDoorGA2
import Derived.Great.BuildSlice
import Derived.BigRegion
set_option maxRecDepth 100000
set_option maxHeartbeats 400000
set_option linter.unusedVariables false
set_option linter.unusedSimpArgs false
namespace Go.Proofs.YtlofddoojkeakaaGreatDoor.j4
open Go Go.RowKit
def ptr(x:Nat):Value:= .pointer (some ⟨x,0,none⟩)
def tN:List Value:=List.replicate 5 (Value.int .u32 0)
structure j2 (Wb:World) (T₀:Array Value) (V:Nat→Value) (us vs:List Value) (listed:Array Bool) (a:Act) (w:World):Prop where
 Ot:a.defers=[]
 Lc:a.tmps.size=T₀.size
 base:∀j,j≠10→j≠11→(j<73∨80<j)→a.tmps[j]? =T₀[j]?
 val:∀i,i<8→listed.getD i false=true→a.tmps[73+i]? =some (V i)
 keeps:Keeps Wb w
 one:listed.getD 8 false=true→∃x,a.tmps[10]? =some (ptr x)∧Wb.heap.size≤x∧x<w.heap.size∧Row w x 0 (if listed.getD 10 false then us else tN)
 two:listed.getD 9 false=true→∃y,a.tmps[11]? =some (ptr y)∧Wb.heap.size≤y∧y<w.heap.size∧Row w y 0 (if listed.getD 11 false then vs else tN)
 Kf:listed.getD 10 false=true→listed.getD 8 false=true
 Kg:listed.getD 11 false=true→listed.getD 9 false=true
 ne:∀x,listed.getD 8 false=true→listed.getD 9 false=true→a.tmps[10]? =some (ptr x)→a.tmps[11]? ≠some (ptr x)
variable {Wb:World} {T₀:Array Value} {V:Nat→Value} {us vs:List Value} {listed:Array Bool} {a:Act} {w w':World}
theorem j2.jS (h:j2 Wb T₀ V us vs listed a w)(hs:listed.size=12)(hT:81≤T₀.size)(i:Nat)(hi:i<8)(hk:Keeps w w'):j2 Wb T₀ V us vs (listed.setIfInBounds i true) (a.put (some (73+i)) (V i)) w':=by
 have hg:=fun j=>iN (listed:=listed) (i:=i) (by omega) j
 have g8:(listed.setIfInBounds i true).getD 8 false=listed.getD 8 false:=by rw[hg,if_neg (by omega)]
 have g9:(listed.setIfInBounds i true).getD 9 false=listed.getD 9 false:=by rw[hg,if_neg (by omega)]
 have g10:(listed.setIfInBounds i true).getD 10 false=listed.getD 10 false:=by rw[hg,if_neg (by omega)]
 have g11:(listed.setIfInBounds i true).getD 11 false=listed.getD 11 false:=by rw[hg,if_neg (by omega)]
 have ht:=fun j=>tL a (73+i) (V i) j
 have htz:=h.Lc
 refine⟨h.Ot,by simp[Act.put,h.Lc],?_,?_,h.keeps.trans hk,?_,?_,by rw[g8,g10];exact h.Kf,by rw[g9,g11];exact h.Kg,?_⟩
 ·intro j h1 h2 h3
  rw[ht,if_neg (by omega)]
  exact h.base j h1 h2 h3
 ·intro j hj hl
  rw[ht]
  by_cases e:i=j
  ·subst e;rw[if_pos rfl,if_pos (by omega)]
  ·rw[if_neg (by omega)]
   rw[hg,if_neg e]at hl
   exact h.val j hj hl
 ·rw[g8,g10,ht,if_neg (by omega)]
  intro hl
  obtain⟨x,h1,h2,h3,h4⟩:=h.one hl
  exact⟨x,h1,h2,Nat.lt_of_lt_of_le h3 hk.size,h4.keeps hk⟩
 ·rw[g9,g11,ht,if_neg (by omega)]
  intro hl
  obtain⟨x,h1,h2,h3,h4⟩:=h.two hl
  exact⟨x,h1,h2,Nat.lt_of_lt_of_le h3 hk.size,h4.keeps hk⟩
 ·intro x
  rw[g8,g9,ht,ht,if_neg (by omega),if_neg (by omega)]
  exact h.ne x
theorem nB{x y:Nat}(h:some (ptr x)=some (ptr y)):x=y:=by
 simp only[ptr,Option.some.injEq,Value.pointer.injEq,Addr.mk.injEq,and_true]at h
 exact h
theorem j2.alloc1 (h:j2 Wb T₀ V us vs listed a w)(hs:listed.size=12)(hT:81≤T₀.size)(h8:listed.getD 8 false=false)(T:TypeId):j2 Wb T₀ V us vs (listed.setIfInBounds 8 true) (a.put (some 10) (ptr w.heap.size)) (w.alloc (.cells tN.toArray T)):=by
 have hg:=fun j=>iN (listed:=listed) (i:=8) (by omega) j
 have g9:(listed.setIfInBounds 8 true).getD 9 false=listed.getD 9 false:=by rw[hg,if_neg (by omega)]
 have g10:(listed.setIfInBounds 8 true).getD 10 false=listed.getD 10 false:=by rw[hg,if_neg (by omega)]
 have g11:(listed.setIfInBounds 8 true).getD 11 false=listed.getD 11 false:=by rw[hg,if_neg (by omega)]
 have ht:=fun j=>tL a 10 (ptr w.heap.size) j
 have htz:=h.Lc
 have h10:listed.getD 10 false=false:=by
  cases hx:listed.getD 10 false with
  |false=>rfl
  |true=>rw[h.Kf hx]at h8;cases h8
 have hk:Keeps w (w.alloc (.cells tN.toArray T)):=Below.alloc (Below.refl _ _) (Nat.le_refl _) _
 refine⟨h.Ot,by simp[Act.put,h.Lc],?_,?_,h.keeps.trans hk,?_,?_,by rw[hg 8,if_pos rfl];exact fun _=>rfl,by rw[g9,g11];exact h.Kg,?_⟩
 ·intro j h1 h2 h3
  rw[ht,if_neg (by omega)]
  exact h.base j h1 h2 h3
 ·intro j hj hl
  rw[hg,if_neg (by omega)]at hl
  rw[ht,if_neg (by omega)]
  exact h.val j hj hl
 ·intro _
  refine⟨w.heap.size,by rw[ht,if_pos rfl,if_pos (by omega)],h.keeps.size,by simp,?_⟩
  rw[g10,h10]
  exact Row.new _ _ _ rfl
 ·rw[g9,g11,ht,if_neg (by omega)]
  intro hl
  obtain⟨x,h1,h2,h3,h4⟩:=h.two hl
  exact⟨x,h1,h2,Nat.lt_of_lt_of_le h3 hk.size,h4.keeps hk⟩
 ·intro x _ h9 hx
  rw[hg,if_neg (by omega)]at h9
  rw[ht,if_pos rfl,if_pos (by omega)]at hx
  rw[ht,if_neg (by omega)]
  obtain⟨y,h1,h2,h3,h4⟩:=h.two h9
  have :=nB hx
  rw[h1]
  intro e
  have :=nB e
  omega
theorem j2.alloc2 (h:j2 Wb T₀ V us vs listed a w)(hs:listed.size=12)(hT:81≤T₀.size)(h9:listed.getD 9 false=false)(T:TypeId):j2 Wb T₀ V us vs (listed.setIfInBounds 9 true) (a.put (some 11) (ptr w.heap.size)) (w.alloc (.cells tN.toArray T)):=by
 have hg:=fun j=>iN (listed:=listed) (i:=9) (by omega) j
 have g8:(listed.setIfInBounds 9 true).getD 8 false=listed.getD 8 false:=by rw[hg,if_neg (by omega)]
 have g10:(listed.setIfInBounds 9 true).getD 10 false=listed.getD 10 false:=by rw[hg,if_neg (by omega)]
 have g11:(listed.setIfInBounds 9 true).getD 11 false=listed.getD 11 false:=by rw[hg,if_neg (by omega)]
 have ht:=fun j=>tL a 11 (ptr w.heap.size) j
 have htz:=h.Lc
 have h11:listed.getD 11 false=false:=by
  cases hx:listed.getD 11 false with
  |false=>rfl
  |true=>rw[h.Kg hx]at h9;cases h9
 have hk:Keeps w (w.alloc (.cells tN.toArray T)):=Below.alloc (Below.refl _ _) (Nat.le_refl _) _
 refine⟨h.Ot,by simp[Act.put,h.Lc],?_,?_,h.keeps.trans hk,?_,?_,by rw[g8,g10];exact h.Kf,by rw[hg 9,if_pos rfl];exact fun _=>rfl,?_⟩
 ·intro j h1 h2 h3
  rw[ht,if_neg (by omega)]
  exact h.base j h1 h2 h3
 ·intro j hj hl
  rw[hg,if_neg (by omega)]at hl
  rw[ht,if_neg (by omega)]
  exact h.val j hj hl
 ·rw[g8,g10,ht,if_neg (by omega)]
  intro hl
  obtain⟨x,h1,h2,h3,h4⟩:=h.one hl
  exact⟨x,h1,h2,Nat.lt_of_lt_of_le h3 hk.size,h4.keeps hk⟩
 ·intro _
  refine⟨w.heap.size,by rw[ht,if_pos rfl,if_pos (by omega)],h.keeps.size,by simp,?_⟩
  rw[g11,h11]
  exact Row.new _ _ _ rfl
 ·intro x h8 _ hx
  rw[hg,if_neg (by omega)]at h8
  rw[ht,if_neg (by omega)]at hx
  rw[ht,if_pos rfl,if_pos (by omega)]
  obtain⟨y,h1,h2,h3,h4⟩:=h.one h8
  rw[h1]at hx
  have :=nB hx
  intro e
  have :=nB e
  omega
theorem j2.store1 (h:j2 Wb T₀ V us vs listed a w)(hs:listed.size=12)(h8:listed.getD 8 false=true)(x:Nat)(hx:a.tmps[10]? =some (ptr x))(hr:Row w' x 0 us)(hc:bU (· =x) w w'):j2 Wb T₀ V us vs (listed.setIfInBounds 10 true) (a.put none undef) w':=by
 have hg:=fun j=>iN (listed:=listed) (i:=10) (by omega) j
 have g8:(listed.setIfInBounds 10 true).getD 8 false=listed.getD 8 false:=by rw[hg,if_neg (by omega)]
 have g9:(listed.setIfInBounds 10 true).getD 9 false=listed.getD 9 false:=by rw[hg,if_neg (by omega)]
 have g11:(listed.setIfInBounds 10 true).getD 11 false=listed.getD 11 false:=by rw[hg,if_neg (by omega)]
 obtain⟨x',e1,e2,e3,_⟩:=h.one h8
 rw[hx]at e1
 obtain rfl:=nB e1
 refine⟨h.Ot,h.Lc,h.base,?_,Below.trans h.keeps (hc.below h.keeps.size (fun k hk e=>by omega)),?_,?_,by rw[g8];exact fun _=>h8,by rw[g9,g11];exact h.Kg,?_⟩
 ·intro j hj hl
  rw[hg,if_neg (by omega)]at hl
  exact h.val j hj hl
 ·intro _
  refine⟨x,hx,e2,Nat.lt_of_lt_of_le e3 hc.size,?_⟩
  rw[hg,if_pos rfl]
  exact hr
 ·rw[g9,g11]
  intro hl
  obtain⟨y,h1,h2,h3,h4⟩:=h.two hl
  refine⟨y,h1,h2,Nat.lt_of_lt_of_le h3 hc.size,h4.aG hc (fun e=> ?_)⟩
  have e':y=x:=e
  subst e'
  exact h.ne y h8 hl hx h1
 ·intro z
  rw[g8,g9]
  exact h.ne z
theorem j2.store2 (h:j2 Wb T₀ V us vs listed a w)(hs:listed.size=12)(h9:listed.getD 9 false=true)(x:Nat)(hx:a.tmps[11]? =some (ptr x))(hr:Row w' x 0 vs)(hc:bU (· =x) w w'):j2 Wb T₀ V us vs (listed.setIfInBounds 11 true) (a.put none undef) w':=by
 have hg:=fun j=>iN (listed:=listed) (i:=11) (by omega) j
 have g8:(listed.setIfInBounds 11 true).getD 8 false=listed.getD 8 false:=by rw[hg,if_neg (by omega)]
 have g9:(listed.setIfInBounds 11 true).getD 9 false=listed.getD 9 false:=by rw[hg,if_neg (by omega)]
 have g10:(listed.setIfInBounds 11 true).getD 10 false=listed.getD 10 false:=by rw[hg,if_neg (by omega)]
 obtain⟨x',e1,e2,e3,_⟩:=h.two h9
 rw[hx]at e1
 obtain rfl:=nB e1
 refine⟨h.Ot,h.Lc,h.base,?_,Below.trans h.keeps (hc.below h.keeps.size (fun k hk e=>by omega)),?_,?_,by rw[g8,g10];exact h.Kf,by rw[g9];exact fun _=>h9,?_⟩
 ·intro j hj hl
  rw[hg,if_neg (by omega)]at hl
  exact h.val j hj hl
 ·rw[g8,g10]
  intro hl
  obtain⟨y,h1,h2,h3,h4⟩:=h.one hl
  refine⟨y,h1,h2,Nat.lt_of_lt_of_le h3 hc.size,h4.aG hc (fun e=> ?_)⟩
  have e':y=x:=e
  subst e'
  exact h.ne y hl h9 h1 hx
 ·intro _
  refine⟨x,hx,e2,Nat.lt_of_lt_of_le e3 hc.size,?_⟩
  rw[hg,if_pos rfl]
  exact hr
 ·intro z
  rw[g8,g9]
  exact h.ne z
theorem j2.start (T₀:Array Value)(V:Nat→Value)(us vs:List Value)(w:World):j2 w T₀ V us vs (Array.replicate 12 false) {tmps:=T₀,defers:=[]} {w with drawn:=w.drawn+1}:=by
 have hf:∀j,(Array.replicate 12 false).getD j false=false:=fun j=>getD_replicate_false 12 j
 refine⟨rfl,rfl,fun _ _ _ _=>rfl,fun i _ hl=> ?_,(Qt.drewN w 1).keeps,fun hl=> ?_,fun hl=> ?_,fun hl=> ?_,fun hl=> ?_,fun x hl=> ?_⟩
 all_goals(rw[hf]at hl;cases hl)
theorem fS{a:Act}{j:Nat}{v:Value}(h:a.tmps[j]? =some v):a.eval (.tmp j)=v:=by
 simp[Act.eval,h]
theorem j2.final (h:j2 Wb T₀ V us vs listed a w)(hT:81≤T₀.size)(hall:∀i,i<12→listed.getD i false=true):∃x y,a={tmps:=(((((((((T₀.setIfInBounds 10 (ptr x)).setIfInBounds 11 (ptr y)).setIfInBounds 73 (V 0)).setIfInBounds 74 (V 1)).setIfInBounds 75 (V 2)).setIfInBounds 76 (V 3)).setIfInBounds 77 (V 4)).setIfInBounds 78 (V 5)).setIfInBounds 79 (V 6)).setIfInBounds 80 (V 7),defers:=[]}∧
 Keeps Wb w∧Wb.heap.size≤x∧Wb.heap.size≤y∧x≠y∧x<w.heap.size∧y<w.heap.size∧Row w x 0 us∧Row w y 0 vs:=by
 obtain⟨x,x1,x2,x3,x4⟩:=h.one (hall 8 (by omega))
 obtain⟨y,y1,y2,y3,y4⟩:=h.two (hall 9 (by omega))
 rw[hall 10 (by omega)]at x4
 rw[hall 11 (by omega)]at y4
 refine⟨x,y,?_,h.keeps,x2,y2,fun e=> ?_,x3,y3,x4,y4⟩
 · have hv:=fun i hi=>h.val i hi (hall i (by omega))
   have ht:a.tmps=(((((((((T₀.setIfInBounds 10 (ptr x)).setIfInBounds 11 (ptr y)).setIfInBounds 73 (V 0)).setIfInBounds 74 (V 1)).setIfInBounds 75 (V 2)).setIfInBounds 76 (V 3)).setIfInBounds 77 (V 4)).setIfInBounds 78 (V 5)).setIfInBounds 79 (V 6)).setIfInBounds 80 (V 7):=by
    apply Array.ext_getElem?
    intro j
    simp only[Array.getElem?_setIfInBounds,Array.size_setIfInBounds]
    by_cases Vm:80=j
    ·subst Vm;rw[if_pos rfl,if_pos (by omega)];exact hv 7 (by omega)
    rw[if_neg Vm]
    by_cases Vn:79=j
    ·subst Vn;rw[if_pos rfl,if_pos (by omega)];exact hv 6 (by omega)
    rw[if_neg Vn]
    by_cases Vo:78=j
    ·subst Vo;rw[if_pos rfl,if_pos (by omega)];exact hv 5 (by omega)
    rw[if_neg Vo]
    by_cases Vp:77=j
    ·subst Vp;rw[if_pos rfl,if_pos (by omega)];exact hv 4 (by omega)
    rw[if_neg Vp]
    by_cases Vq:76=j
    ·subst Vq;rw[if_pos rfl,if_pos (by omega)];exact hv 3 (by omega)
    rw[if_neg Vq]
    by_cases Vr:75=j
    ·subst Vr;rw[if_pos rfl,if_pos (by omega)];exact hv 2 (by omega)
    rw[if_neg Vr]
    by_cases Vs:74=j
    ·subst Vs;rw[if_pos rfl,if_pos (by omega)];exact hv 1 (by omega)
    rw[if_neg Vs]
    by_cases Vt:73=j
    ·subst Vt;rw[if_pos rfl,if_pos (by omega)];exact hv 0 (by omega)
    rw[if_neg Vt]
    by_cases e11:11=j
    ·subst e11;rw[if_pos rfl,if_pos (by omega)];exact y1
    rw[if_neg e11]
    by_cases e10:10=j
    ·subst e10;rw[if_pos rfl,if_pos (by omega)];exact x1
    rw[if_neg e10]
    exact h.base j (by omega) (by omega) (by omega)
   have hd:=h.Ot
   obtain⟨t,d⟩:=a
   simp only at ht hd
   rw[ht,hd]
 ·subst e
  exact h.ne x (hall 8 (by omega)) (hall 9 (by omega)) x1 y1
theorem nV{P:Program}{w:World}{o:Oper}{a:Act}(T:TypeId)(x y:Operand)(ho:o.op= .store T x y)(g off:Nat)(hx:a.eval x= .pointer (some ⟨g,off,none⟩))(olds cs:List Value)(hy:a.eval y= .agg cs.toArray)(hg:Row w g off olds)(hl:cs.length=olds.length)
 (hi:(P.info? T).map (·.size)=some cs.length) (h1:∀v∈cs,v.oneCell' =true):∃w',(execOp a.eval o).run P w= .ok .skip w'∧Row w' g off cs∧bU (· =g) w w':=by
 refine⟨_,?_,hg.whole hl,dh _ _ _ _⟩
 unfold execOp
 simp only[ho,hx,hy,Instr.storeAt,Instr.sureAddr,Sem.run_bind,Sem.run_pure,Result.andThen_ok,run_storeVar_row w g off T olds cs hg hl hi h1]
theorem tO{w:World}{o:Oper}{a:Act}(ho:o.op= .alloc 143):(execOp a.eval o).run Tryz.prog w= .ok (.value (ptr w.heap.size)) (w.alloc (.cells tN.toArray 143)):=by
 unfold execOp
 simp only[ho]
 go_simp
 exact⟨rfl,rfl⟩
theorem Ag{w:World}{o:Oper}{a:Act}(t1 t2 t3:Nat)(b:Bool)(ho:o.op= .call {callee:= .value (.func 85),args:= #[.tmp t1,.tmp t2,.tmp t3,.const (.bool b)],argTypes:= #[147,143,149,4]})(v1 v2 v3:Value)
 (h1:a.eval (.tmp t1)=v1) (h2:a.eval (.tmp t2)=v2) (h3:a.eval (.tmp t3)=v3):(execOp a.eval o).run Tryz.prog w= .ok (.enter 85 #[v1,v2,v3,.bool b]) w:=by
 unfold execOp
 simp only[ho]
 go_simp
 exact⟨by simpa[Act.eval]using h1,by simpa[Act.eval]using h2,by simpa[Act.eval]using h3⟩
def IF(s:S5)(xs:List Int)(u v:S5):Nat→Value
 |0=> .agg (bX rL sL kL).toArray
 |1=> .agg (s.list.map (Value.int .u32)).toArray
 |2=> .agg (xs.map (Value.int .u32)).toArray
 |3=> .agg (u.list.map (Value.int .u32)).toArray
 |4=> .agg (bX rR sR kR).toArray
 |5=> .agg (s.list.map (Value.int .u32)).toArray
 |6=> .agg (xs.map (Value.int .u32)).toArray
 |_=> .agg (v.list.map (Value.int .u32)).toArray
theorem oD{P:Program}{w:World}{l n:Nat}{ops:Array Oper}{rest:List Oper}{o:Oper}{a:Act}{Q:Exit→Act→World→Prop}(hgd:o.guard=none)(T:TypeId)(x y:Operand)(ho:o.op= .store T x y)
 (g off:Nat) (hx:a.eval x= .pointer (some ⟨g,off,none⟩)) (olds cs:List Value) (hy:a.eval y= .agg cs.toArray) (hg:Row w g off olds) (hl:cs.length=olds.length)
 (hi:(P.info? T).map (·.size)=some cs.length) (h1:∀v∈cs,v.oneCell' =true)
 (h:∀w',Row w' g off cs→bU (· =g) w w'→wpListIn (Fence.wide.inRound l) n P ops Q rest (a.put o.dst undef) w'):wpListIn (Fence.wide.inRound l) n P ops Q (o::rest) a w:=by
 refine wpListIn_plain hgd fun K hK=> ?_
 obtain⟨w',hrun,hr,hc⟩:=nV (o:=o) T x y ho g off hx olds cs hy hg hl hi h1
 refine⟨fun f _=>trivial,?_⟩
 rw[show(Fence.wide.inRound l).round=some l from rfl,Oper.semAt_some _ _ _ (fun c e=>by rw[ho]at e;cases e),hrun]
 exact hK _ _ (h _ hr hc)
theorem mV{P:Program}{w:World}{l n i:Nat}{ops:Array Oper}{o:Oper}{a:Act}{K:Act→World→Prop}{Q:Exit→Act→World→Prop}(hii:ops[i]? =some o)(hgd:o.guard=none)(T:TypeId)(x y:Operand)(ho:o.op= .store T x y)
 (g off:Nat) (hx:a.eval x= .pointer (some ⟨g,off,none⟩)) (olds cs:List Value) (hy:a.eval y= .agg cs.toArray) (hg:Row w g off olds) (hl:cs.length=olds.length)
 (hi:(P.info? T).map (·.size)=some cs.length) (h1:∀v∈cs,v.oneCell' =true)
 (h:∀w',Row w' g off cs→bU (· =g) w w'→K (a.put o.dst undef) w'):wpOpIn (Fence.wide.inRound l) n P ops Q i K a w:=by
 obtain⟨w',hrun,hr,hc⟩:=nV (o:=o) T x y ho g off hx olds cs hy hg hl hi h1
 exact EI hii hgd (fun c e=>by rw[ho]at e;cases e) hrun (h _ hr hc)
theorem QA:(Tryz.prog.info? 149).map (·.size)=some 16:=by kernel_rfl
end Go.Proofs.YtlofddoojkeakaaGreatDoor.j4
namespace Go.Proofs.YtlofddoojkeakaaGreatDoor.j4
open Go Go.RowKit
theorem lA{P:Program}{ops:Array Oper}{rest:List Oper}{o:Oper}{a:Act}{w:World}{Q:Exit→Act→World→Prop}(hg:o.guard=none)(t:TypeId)(parts:Array (Nat×Operand))(ho:o.op= .build t parts)(vs:List (Nat×Value))(hv:(parts.map fun(i,x)=>(i,a.eval x)).toList=vs)(out:Array Value)
 (hb:P.built t vs=some out) (h:wpList P ops Q rest (a.put o.dst (.agg out)) w):wpList P ops Q (o::rest) a w:=by
 subst hv
 refine wpList_plain hg fun _ hK=> ?_
 unfold Oper.wp execOp
 simp only[ho,Sem.run_bind,run_build w t _ _ hb,Result.andThen_ok]
 exact hK _ _ h
theorem Nn:Tryz.prog.built 147 [(0,.agg ((ints rL).map (Value.int .i64)).toArray),(1,.agg ((ints sL).map (Value.int .i64)).toArray),(2,.agg (kL.map (Value.int .u32)).toArray)]=some (bX rL sL kL).toArray:=by kernel_rfl
theorem No:Tryz.prog.built 147 [(0,.agg ((ints rR).map (Value.int .i64)).toArray),(1,.agg ((ints sR).map (Value.int .i64)).toArray),(2,.agg (kR.map (Value.int .u32)).toArray)]=some (bX rR sR kR).toArray:=by kernel_rfl
theorem jh:(Tryz.prog.info? 147).map (·.size)=some 165:=by kernel_rfl
theorem Kh:(Tryz.prog.info? 145).map (·.size)=some 80:=by kernel_rfl
theorem mW:(Tryz.prog.info? 3).map (·.size)=some 1:=by kernel_rfl
theorem rY:Tryz.zeroCells147.toList.length=165:=by kernel_rfl
theorem lv(rt st:List Nat)(kt:List Int):∀v∈bX rt st kt,v.oneCell' =true:=by
 intro v hv
 simp only[bX,List.mem_append,List.mem_map]at hv
 rcases hv with⟨_,_,rfl⟩|⟨_,_,rfl⟩|⟨_,_,rfl⟩<;>rfl
theorem IG(w:World):Calls Tryz.prog 83 #[] w fun e w' =>e= .returned (.agg (bX rL sL kL).toArray)∧Keeps w w':=by
 have HB:=ae Nn
 have Z:Hid ((Tryz.prog.info? 147).map (·.size)=some (bX rL sL kL).length):=by rw[cN Ae];exact ae jh
 go_enter Tryz.func83,Tryz.ntmps83
 go_upto_region 1 with(fail)
 refine cf (fun W=>Keeps w W∧Row W w.heap.size 0 Tryz.zeroCells147.toList) ⟨av (Keeps.refl w) _,Row.new Tryz.zeroCells147.toList _ _ Array.toArray_toList.symm⟩ ?_
 intro W1 ⟨hk1,hr1⟩
 have bw:=ae hk1;have HR1:=ae hr1
 clear hk1 hr1
 go_wp2_with (first |(refine wpList_buildFlatArrTo rfl 145 3 80 _ rfl .i64 (ints rL) (some 1) rfl Tryz.underlying145 mW (by kernel_rfl) (by kernel_rfl) ?_;simp only[kP])|(refine wpList_buildFlatArrTo rfl 145 3 80 _ rfl .i64 (ints sL) (some 2) rfl Tryz.underlying145 mW (by kernel_rfl) (by kernel_rfl) ?_;simp only[kP])|(refine wpList_buildFlatArrTo rfl 143 23 5 _ rfl .u32 kL (some 3) rfl Tryz.underlying143 mo (by kernel_rfl) (by kernel_rfl) ?_;simp only[kP])|(refine lA rfl 147 _ rfl [(0,.agg ((ints rL).map (Value.int .i64)).toArray),(1,.agg ((ints sL).map (Value.int .i64)).toArray),(2,.agg (kL.map (Value.int .u32)).toArray)] (by kernel_rfl) _ HB.o ?_;simp only[kP])|(refine wpList_store_row rfl 147 (.tmp 0) (.tmp 4) rfl w.heap.size 0 rfl Tryz.zeroCells147.toList (bX rL sL kL) rfl HR1.o (by rw[cN Ae,rY]) Z.o (lv _ _ _) ?_;intro W2 hr2 hc2;have HR2:=ae hr2;have HC2:=ae hc2;clear hr2 hc2))
 exact bodyPost_ret (v:= .agg (bX rL sL kL).toArray) (ar (p:=0) (ty:=147) (by kernel_rfl) _ _ w.heap.size 0 _ _ rfl HR2.o Tryz.underlying147 rfl Z.o) rfl ⟨rfl,aD bw.o HC2.o (Nat.le_refl _)⟩
theorem a8(w:World):Calls Tryz.prog 84 #[] w fun e w' =>e= .returned (.agg (bX rR sR kR).toArray)∧Keeps w w':=by
 have HB:=ae No
 have Z:Hid ((Tryz.prog.info? 147).map (·.size)=some (bX rR sR kR).length):=by rw[cN xI];exact ae jh
 go_enter Tryz.func84,Tryz.ntmps84
 go_upto_region 1 with(fail)
 refine cf (fun W=>Keeps w W∧Row W w.heap.size 0 Tryz.zeroCells147.toList) ⟨av (Keeps.refl w) _,Row.new Tryz.zeroCells147.toList _ _ Array.toArray_toList.symm⟩ ?_
 intro W1 ⟨hk1,hr1⟩
 have bw:=ae hk1;have HR1:=ae hr1
 clear hk1 hr1
 go_wp2_with (first |(refine wpList_buildFlatArrTo rfl 145 3 80 _ rfl .i64 (ints rR) (some 1) rfl Tryz.underlying145 mW (by kernel_rfl) (by kernel_rfl) ?_;simp only[kP])|(refine wpList_buildFlatArrTo rfl 145 3 80 _ rfl .i64 (ints sR) (some 2) rfl Tryz.underlying145 mW (by kernel_rfl) (by kernel_rfl) ?_;simp only[kP])|(refine wpList_buildFlatArrTo rfl 143 23 5 _ rfl .u32 kR (some 3) rfl Tryz.underlying143 mo (by kernel_rfl) (by kernel_rfl) ?_;simp only[kP])|(refine lA rfl 147 _ rfl [(0,.agg ((ints rR).map (Value.int .i64)).toArray),(1,.agg ((ints sR).map (Value.int .i64)).toArray),(2,.agg (kR.map (Value.int .u32)).toArray)] (by kernel_rfl) _ HB.o ?_;simp only[kP])|(refine wpList_store_row rfl 147 (.tmp 0) (.tmp 4) rfl w.heap.size 0 rfl Tryz.zeroCells147.toList (bX rR sR kR) rfl HR1.o (by rw[cN xI,rY]) Z.o (lv _ _ _) ?_;intro W2 hr2 hc2;have HR2:=ae hr2;have HC2:=ae hc2;clear hr2 hc2))
 exact bodyPost_ret (v:= .agg (bX rR sR kR).toArray) (ar (p:=0) (ty:=147) (by kernel_rfl) _ _ w.heap.size 0 _ _ rfl HR2.o Tryz.underlying147 rfl Z.o) rfl ⟨rfl,aD bw.o HC2.o (Nat.le_refl _)⟩
def rv(x0 x1 x2 x3 x4 x5 x6 x7:Int):Nat→List Int
 |0=>[x0,x1,x2,x3,x4,x5,x6,x7]
 |1=>[x7,x1,x2,x3,x4,x5,x6,x0]
 |2=>[x7,x6,x2,x3,x4,x5,x1,x0]
 |3=>[x7,x6,x5,x3,x4,x2,x1,x0]
 |_=>[x7,x6,x5,x4,x3,x2,x1,x0]
theorem EK(x0 x1 x2 x3 x4 x5 x6 x7:Int)(k:Nat):(rv x0 x1 x2 x3 x4 x5 x6 x7 k).length=8:=by unfold rv;split<;>rfl
theorem Ki(x0 x1 x2 x3 x4 x5 x6 x7:Int)(k:Nat)(hk:k<4):((rv x0 x1 x2 x3 x4 x5 x6 x7 k).set k ((rv x0 x1 x2 x3 x4 x5 x6 x7 k).getD (7 -k) 0)).set (7 -k) ((rv x0 x1 x2 x3 x4 x5 x6 x7 k).getD k 0)=rv x0 x1 x2 x3 x4 x5 x6 x7 (k+1):=by
 have :k=0∨k=1∨k=2∨k=3:=by omega
 rcases this with rfl|rfl|rfl|rfl<;>rfl
theorem IH(g off cap:Nat)(hc:8≤cap)(hc2:cap≤maxLen)(x0 x1 x2 x3 x4 x5 x6 x7:Int)(w:World)(hr:Row w g off ([x0,x1,x2,x3,x4,x5,x6,x7].map (Value.int .u8))):
 Calls Tryz.prog 82 #[.slice (some ⟨g,off,none⟩) 8 cap] w fun e w' =>e= .returned (.tuple #[])∧bU (· =g) w w'∧Row w' g off ([x7,x6,x5,x4,x3,x2,x1,x0].map (Value.int .u8))∧Beside w w' g off 8:=by
 unfold maxLen at hc2
 have HR:=ae (show Row w g off ((rv x0 x1 x2 x3 x4 x5 x6 x7 0).map (Value.int .u8))from hr)
 have HE:=ae (show rv x0 x1 x2 x3 x4 x5 x6 x7 4=[x7,x6,x5,x4,x3,x2,x1,x0]from rfl)
 have HL:=ae (EK x0 x1 x2 x3 x4 x5 x6 x7)
 have HS:=ae (Ki x0 x1 x2 x3 x4 x5 x6 x7)
 clear hr
 generalize rv x0 x1 x2 x3 x4 x5 x6 x7=Np at *
 go_enter Tryz.func82,Tryz.ntmps82
 go_wp2
 go_loopw [2,3] (fun ci cj wr=>∃k:Nat,k≤4∧ci= .int .i64 k∧cj= .int .i64 (7 -(k:Int))∧bU (· =g) w wr∧Row wr g off ((Np k).map (Value.int .u8))∧Hid (Beside w wr g off 8)) (fun ci _ _=>(4 -intOf ci).toNat)
 case atStart=>exact⟨0,by omega,rfl,rfl,bU.refl _ _,HR.o,ae (Beside.of_block rfl _ _)⟩
 case round=>
  obtain⟨k,hk,rfl,rfl,hch,hrt,hbs⟩:=hrel
  by_cases hlt:k<4
  · have c1:=hrt.int k (by rw[HL.o];omega)
    have c2:=hrt.int (7 -k) (by rw[HL.o];omega)
    have f1:=hrt.free k (by rw[aF,HL.o];omega)
    have f2:=hrt.free (7 -k) (by rw[aF,HL.o];omega)
    have hset:=(hrt.setInt k (by rw[HL.o];omega) ((Np k).getD (7 -k) 0)).setInt (7 -k) (by rw[List.length_set,HL.o];omega) ((Np k).getD k 0)
    rw[HS.o k hlt]at hset
    have QB:=Beside.trans (Beside.trans hbs.out (Beside.setCell (o:=off) (n:=8) (i:=k) (by omega) (.int .u8 ((Np k).getD (7 -k) 0)))) (Beside.setCell (o:=off) (n:=8) (i:=7 -k) (by omega) (.int .u8 ((Np k).getD k 0)))
    have bx:=ae hset;have dF:=ae hch;have Jn:=ae QB
    clear hset hch hrt hbs QB
    generalize(Np k).getD k 0=y1 at *
    generalize(Np k).getD (7 -k) 0=y2 at *
    have Ol:((7 -k:Nat):Int)=7 -(k:Int):=by omega
    go_wp2
    go_region
    go_wp2
    go_roundw
    case rel=>exact⟨k+1,by omega,by go_num,by go_num,((dF.o.setCell (.inr rfl) _).setCell (.inr rfl) _).drew,bx.o.drew,ae (Jn.o.trans (Beside.of_block rfl _ _))⟩
    case measure=>simp[intOf];omega
  ·obtain rfl:k=4:=by omega
   rw[HE.o]at hrt
   have cV:=ae hrt;have dF:=ae hch
   clear hrt hch
   go_wp2
   go_end0
   exact⟨rfl,dF.o,cV.o,hbs.out⟩
end Go.Proofs.YtlofddoojkeakaaGreatDoor.j4
