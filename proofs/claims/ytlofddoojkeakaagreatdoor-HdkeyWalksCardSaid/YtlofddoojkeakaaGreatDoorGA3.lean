/- Numbers of 256 bits: the reference's Less and Sum.. -/
import Derived.Test.YtlofddoojkeakaaGreatDoorGA2
import Derived.Laws.CopyOwn
import Derived.Deep.Cut
import Derived.Deep.LoopGhost
import Derived.StillTail
import Derived.Deep.RegionHeld3
import Derived.Lib.QuietBelow
import Derived.Stop.BytesEq
import Derived.Laws.Externs
import Derived.Test.YtlofddoojkeakaaGreatDoorGA0
import Derived.BigRegion
import Derived.Deep.DeepCutAuto
import Derived.DeepKeys4
import Derived.DeepKeys
import Derived.Laws.StructEq
set_option linter.unusedVariables false
set_option linter.unusedSimpArgs false
namespace Go.Proofs.YtlofddoojkeakaaGreatDoor
open Go Go.RowKit
theorem ah{w W:World}(h:Keeps w W)(o:Obj):Keeps w (W.alloc o):=Below.alloc h h.size o
theorem ag{w W W':World}{p:Nat}(h:Keeps w W)(c:bU (· =p) W W')(hp:w.heap.size≤p):Keeps w W':=Below.trans h (bU.below c h.size (fun k hk e=>by omega))
theorem b9{w W:World}{p i:Nat}(h:Keeps w W)(hp:w.heap.size≤p)(u:Value):Keeps w (W.setCell ⟨p,i,none⟩ u):=Below.setCell h hp _
theorem cU{P:Program}{c:Code}{Q:Exit→Act→World→Prop}{a:Act}{w:World}{A B C:Array Value}{T U V:TypeId}
 (h:∀W,Keeps w W→Row W w.heap.size 0 A.toList→Row W (w.heap.size+1) 0 B.toList→Row W (w.heap.size+1+1) 0 C.toList→W.heap.size=w.heap.size+3→Code.wp P c Q a W):
 Code.wp P c Q a (((w.alloc (.cells A T)).alloc (.cells B U)).alloc (.cells C V)):=by
 have h0:=Row.new (w:=w) A.toList A T (by simp)
 have h1:=Row.new (w:=w.alloc (.cells A T)) B.toList B U (by simp)
 have h2:=Row.new (w:=(w.alloc (.cells A T)).alloc (.cells B U)) C.toList C V (by simp)
 simp only[World.size_alloc]at h1 h2
 exact h _ (ah (ah (ah (Keeps.refl w) _) _) _) ((h0.alloc _).alloc _) (h1.alloc _) h2 (by simp)
theorem iB{P:Program}{c:Code}{Q:Exit→Act→World→Prop}{a:Act}{w:World}{A B C D:Array Value}{T U V X:TypeId}
 (h:∀W,Keeps w W→Row W w.heap.size 0 A.toList→Row W (w.heap.size+1) 0 B.toList→Row W (w.heap.size+1+1) 0 C.toList→Row W (w.heap.size+1+1+1) 0 D.toList→W.heap.size=w.heap.size+4→Code.wp P c Q a W):
 Code.wp P c Q a ((((w.alloc (.cells A T)).alloc (.cells B U)).alloc (.cells C V)).alloc (.cells D X)):=by
 have h0:=Row.new (w:=w) A.toList A T (by simp)
 have h1:=Row.new (w:=w.alloc (.cells A T)) B.toList B U (by simp)
 have h2:=Row.new (w:=(w.alloc (.cells A T)).alloc (.cells B U)) C.toList C V (by simp)
 have h3:=Row.new (w:=((w.alloc (.cells A T)).alloc (.cells B U)).alloc (.cells C V)) D.toList D X (by simp)
 simp only[World.size_alloc]at h1 h2 h3
 exact h _ (ah (ah (ah (ah (Keeps.refl w) _) _) _) _) (((h0.alloc _).alloc _).alloc _) ((h1.alloc _).alloc _) (h2.alloc _) h3 (by simp)
def Jo(a b:List Int)(j:Nat):Int:=be (a.drop j)+be (b.drop j)
def carry(a b:List Int)(j:Nat):Int:=Jo a b j/256^(32 -j)
def fV(l:List Int)(i j:Nat):Int:=be (((l.take i).drop (24 -8*j)).take 8)
def wst(l:List Int)(i:Nat):List Int:=[fV l i 0,fV l i 1,fV l i 2,fV l i 3]
theorem Fu(l:List Int):wst l 0=[0,0,0,0]:=by simp[wst,fV,be]
theorem yf{l:List Int}(hb:Bytes l)(i j:Nat):0≤fV l i j∧fV l i j<18446744073709551616:=by
 have h:=eY (l:=((l.take i).drop (24 -8*j)).take 8) (fun x h=>hb x (List.mem_of_mem_take (List.mem_of_mem_drop (List.mem_of_mem_take h))))
 have hlen:(((l.take i).drop (24 -8*j)).take 8).length≤8:=by simp;omega
 refine⟨h.1,Int.lt_of_lt_of_le h.2 ?_⟩
 have hp:∀k:Fin 9,(256:Int)^k.val≤18446744073709551616:=by decide
 exact hp ⟨_,by omega⟩
theorem so{l:List Int}(hb:Bytes l)(hl:l.length=32){i:Nat}(h:i<32):fV l (i+1) (3 -i/8)=fV l i (3 -i/8)*256+l.getD i 0∧fV l i (3 -i/8)*256<18446744073709551616∧∀j,j<4→j≠3 -i/8→fV l (i+1) j=fV l i j:=by
 have h8:24 -8*(3 -i/8)=8*(i/8):=by omega
 have hlen:((l.take i).drop (8*(i/8))).length≤7:=by rw[List.length_drop,List.length_take];omega
 refine⟨?_,?_,fun j hj hne=> ?_⟩
 ·unfold fV
  have e:(l.take (i+1)).drop (8*(i/8))=(l.take i).drop (8*(i/8))++[l.getD i 0]:=by
   rw[List.take_succ_eq_append_getElem (by omega),List.drop_append_of_le_length (by rw[List.length_take];omega)]
   simp[List.getD,show i<l.length by omega]
  rw[h8,e]
  generalize(l.take i).drop (8*(i/8))=A at *
  have t1:(A++[l.getD i 0]).take 8=A++[l.getD i 0]:=List.take_of_length_le (by rw[List.length_append,List.length_singleton];omega)
  have t2:A.take 8=A:=List.take_of_length_le (by omega)
  rw[t1,t2,oP]
 · have hr:=eY (l:=((l.take i).drop (8*(i/8))).take 8) (fun x h=>hb x (List.mem_of_mem_take (List.mem_of_mem_drop (List.mem_of_mem_take h))))
   have hlen2:(((l.take i).drop (8*(i/8))).take 8).length≤7:=by rw[List.length_take];omega
   have hp:∀k:Fin 8,(256:Int)^k.val≤72057594037927936:=by decide
   unfold fV
   rw[h8]
   generalize((l.take i).drop (8*(i/8))).take 8=A at *
   have h3:=Int.lt_of_lt_of_le hr.2 (hp ⟨A.length,by omega⟩)
   omega
 ·unfold fV
  by_cases hc:j<3 -i/8
  ·rw[List.drop_eq_nil_of_le (by simp;omega),List.drop_eq_nil_of_le (by simp;omega)]
  · have e:∀m,24 -8*j+8≤m→((l.take m).drop (24 -8*j)).take 8=(l.drop (24 -8*j)).take 8:=by
     intro m hm
     rw[List.drop_take,List.take_take,Nat.min_eq_left (by omega)]
    rw[e i (by omega),e (i+1) (by omega)]
theorem Jp{l:List Int}(hb:Bytes l)(hl:l.length=32){i:Nat}(h:i<32):(wst l i).set (3 -i/8) (fV l i (3 -i/8)*256+l.getD i 0)=wst l (i+1):=by
 obtain⟨h1,_,h3⟩:=so hb hl h
 have hk:3 -i/8=0∨3 -i/8=1∨3 -i/8=2∨3 -i/8=3:=by omega
 rw[←h1]
 unfold wst
 rcases hk with hk|hk|hk|hk<;>rw[hk]at h3⊢ <;>simp only[List.set_cons_zero,List.set_cons_succ]
 ·rw[h3 1 (by omega) (by omega),h3 2 (by omega) (by omega),h3 3 (by omega) (by omega)]
 ·rw[h3 0 (by omega) (by omega),h3 2 (by omega) (by omega),h3 3 (by omega) (by omega)]
 ·rw[h3 0 (by omega) (by omega),h3 1 (by omega) (by omega),h3 3 (by omega) (by omega)]
 ·rw[h3 0 (by omega) (by omega),h3 1 (by omega) (by omega),h3 2 (by omega) (by omega)]
theorem Fv(l:List Int)(i k:Nat)(hk:k<4):(wst l i).getD k 0=fV l i k:=by
 have :k=0∨k=1∨k=2∨k=3:=by omega
 rcases this with rfl|rfl|rfl|rfl<;>rfl
theorem Fw{l:List Int}(hb:Bytes l)(hl:l.length=32):wst l 32=words (be l):=by
 have key:∀j,j≤3→fV l 32 j=be l/18446744073709551616^j%18446744073709551616:=by
  intro j hj
  have e:l=l.take (24 -8*j)++((l.drop (24 -8*j)).take 8++l.drop (32 -8*j)):=by
   have h1:=List.take_append_drop (24 -8*j) l
   have h2:=List.take_append_drop 8 (l.drop (24 -8*j))
   rw[List.drop_drop,show 24 -8*j+8=32 -8*j by omega]at h2
   rw[h2,h1]
  have hmid:(l.drop (24 -8*j)).take 8=((l.take 32).drop (24 -8*j)).take 8:=by rw[List.take_of_length_le (by omega:l.length≤32)]
  have hml:((l.drop (24 -8*j)).take 8).length=8:=by simp;omega
  have htl:(l.drop (32 -8*j)).length=8*j:=by simp;omega
  have ht:=eY (l:=l.drop (32 -8*j)) (fun x h=>hb x (List.mem_of_mem_drop h))
  have hm:=eY (l:=(l.drop (24 -8*j)).take 8) (fun x h=>hb x (List.mem_of_mem_drop (List.mem_of_mem_take h)))
  rw[htl]at ht
  rw[hml]at hm
  have hM:(18446744073709551616:Int)^j=256^(8*j):=by rw[Int.pow_mul];rfl
  rw[fV,←hmid,hM]
  conv=>rhs;rw[e]
  rw[m7,m7,List.length_append,hml,htl]
  generalize be ((l.drop (24 -8*j)).take 8)=B at *
  generalize be (l.drop (32 -8*j))=C at *
  generalize be (l.take (24 -8*j))=A at *
  have hp:(0:Int)<256^(8*j):=Int.pow_pos (by decide)
  rw[Int.pow_add,←Int.mul_assoc,←Int.add_assoc,←Int.add_mul,Int.add_comm _ C,Int.add_mul_ediv_right _ _ (Int.ne_of_gt hp),Int.ediv_eq_zero_of_lt ht.1 ht.2,Int.zero_add]
  omega
 unfold wst words
 rw[key 0 (by omega),key 1 (by omega),key 2 (by omega),key 3 (by omega)]
 simp only[Int.pow_zero,Int.ediv_one]
 rfl
theorem wu(n:Int)(h₀:0≤n)(h₁:n<2^64):IntKind.u64.wrap n=n:=by rw[IntKind.wrap_u64];omega
theorem mp(i:Nat)(x y:Int)(hx₀:0≤x)(hx:x%2^i=0)(hx₁:x<2^64)(hy₀:0≤y)(hy:y<2^i)(hy₁:y<2^64):bits .or .u64 x y=x+y:=
 bits_join .u64 64 (by decide) wu i x y hx₀ hx hx₁ hy₀ hy hy₁
theorem ss(v:Int)(k:Nat)(hk:k<4):(words v).getD k 0=v/256^(8*k)%18446744073709551616:=by
 have :k=0∨k=1∨k=2∨k=3:=by omega
 rcases this with rfl|rfl|rfl|rfl
 ·simp[words]
 · rfl
 · rfl
 · rfl
theorem AU(v:Int)(i:Nat)(hi:i<32):(words v).getD (3 -i/8) 0/2^(56 -8*(i%8))%256=(toB 32 v).getD i 0:=by
 rw[ss _ _ (by omega),yb _ _ _ hi]
 have e:32 -1 -i=8*(3 -i/8)+(7 -i%8):=by omega
 rw[e,Int.pow_add,←Int.ediv_ediv_of_nonneg (Int.pow_nonneg (by decide))]
 generalize v/256^(8*(3 -i/8))=u
 have hr:i%8=0∨i%8=1∨i%8=2∨i%8=3∨i%8=4∨i%8=5∨i%8=6∨i%8=7:=by omega
 rcases hr with hr|hr|hr|hr|hr|hr|hr|hr<;>rw[hr]<;>simp only[Nat.mul_zero,Nat.sub_zero,Nat.sub_self,Int.pow_zero,Int.ediv_one,Nat.reduceMul,Nat.reduceSub,Int.reducePow]<;>omega
theorem cY(v:Int)(k:Nat)(hk:k<4):0≤(words v).getD k 0∧(words v).getD k 0<18446744073709551616:=by
 rw[ss _ _ hk];omega
def OD(x:Int)(i:Nat):Int:=x/2^(56 -8*(i%8))%256
theorem yg(v:Int)(i:Nat)(hi:i<32):OD ((words v).getD (3 -i/8) 0) i=(toB 32 v).getD i 0:=AU v i hi
def sub64Entry:Array Value→Sem Value:=fun args=>do
 let(x,y,b) ←Extern.MathBitsCarry.three "Sub64" args
 pure (Extern.MathBitsCarry.pair ((x+Extern.MathBitsCarry.m64 -y -b)%Extern.MathBitsCarry.m64) (if x<y+b then 1 else 0))
theorem al{P:Program}{fn:Func}{p t:Tmp}{ty:TypeId}(h:fn.results= #[.cell p ty,.tmp t])(tmps:Array Value)(w:World)(g off:Nat)(cs:List Value)(d:TypeDesc)(u:Value)(hu':tmps.getD t undef=u)
 (hp:tmps.getD p undef= .pointer (some ⟨g,off,none⟩)) (hg:Row w g off cs)
 (hu:P.underlying ty=some d) (hd:(match d with | .struct _| .array _ _=>true|_=>false)=true) (hi:(P.info? ty).map (·.size)=some cs.length):
 (results fn tmps).run P w= .ok (.tuple #[.agg cs.toArray,u]) w:=by
 have hp':tmps[p]?.getD undef= .pointer (some ⟨g,off,none⟩):=by simpa using hp
 have ht':tmps[t]?.getD undef=u:=by simpa using hu'
 simp[results,h,hp',ht',asAddr,dq w g off ty cs d hg hu hd hi]
theorem jb(x y c:Int)(hx:0≤x)(hy:0≤y)(hc:0≤c)(hc1:c≤1)(W:World):
 (callFunc 120 #[.int .u64 x,.int .u64 y,.int .u64 c]).run Tryz.prog W= .ok (.value (.tuple #[.int .u64 ((x+y+c)%18446744073709551616),.int .u64 ((x+y+c)/18446744073709551616)])) W:=by
 rw[run_callFunc_extern Tryz.func120 (by kernel_rfl) (by kernel_rfl) (by kernel_rfl) (e:=add64Entry) (by kernel_rfl),run_add64 x y c hx hy hc hc1]
 rfl
theorem Dw(x y c:Int)(hx:0≤x)(hx1:x<18446744073709551616)(hy:0≤y)(hy1:y<18446744073709551616)(hc:0≤c)(hc1:c≤1)(W:World):
 (callFunc 119 #[.int .u64 x,.int .u64 y,.int .u64 c]).run Tryz.prog W= .ok (.value (.tuple #[.int .u64 ((x -y -c)%18446744073709551616),.int .u64 (-((x -y -c)/18446744073709551616))])) W:=by
 obtain⟨X,rfl⟩:=Int.eq_ofNat_of_zero_le hx
 obtain⟨Y,rfl⟩:=Int.eq_ofNat_of_zero_le hy
 obtain⟨k,rfl⟩:=Int.eq_ofNat_of_zero_le hc
 have key:(sub64Entry #[.int .u64 (X:Int),.int .u64 (Y:Int),.int .u64 (k:Int)]).run Tryz.prog W=
  .ok (Extern.MathBitsCarry.pair ((X+Extern.MathBitsCarry.m64 -Y -k)%Extern.MathBitsCarry.m64) (if X<Y+k then 1 else 0)) W:=by
  have :k=0∨k=1:=by omega
  rcases this with rfl|rfl<;>rfl
 rw[run_callFunc_extern Tryz.func119 (by kernel_rfl) (by kernel_rfl) (by kernel_rfl) (e:=sub64Entry) (by kernel_rfl),key]
 simp only[Extern.MathBitsCarry.pair,Extern.MathBitsCarry.m64,Result.andThen_ok]
 have e1:Int.ofNat ((X+2^64 -Y -k)%2^64)=((X:Int) -Y -k)%18446744073709551616:=by
  show(((X+2^64 -Y -k)%2^64:Nat):Int)=_
  omega
 have e2:Int.ofNat (if X<Y+k then 1 else 0)= -(((X:Int) -Y -k)/18446744073709551616):=by
  show((if X<Y+k then 1 else 0:Nat):Int)=_
  split<;>omega
 rw[e1,e2]
def su(r u:Int)(i:Nat):List Int:=(words r).take i++(words u).drop i
theorem qc(r u:Int):su r u 0=words u:=rfl
theorem qd(r u:Int):su r u 4=words r:=rfl
theorem mq(r u:Int)(i:Nat)(h:i≤4):(su r u i).length=4:=by simp[su,ak];omega
theorem sv(r u:Int)(i:Nat)(h:i<4):(su r u i).set i ((words r).getD i 0)=su r u (i+1):=by
 have :i=0∨i=1∨i=2∨i=3:=by omega
 rcases this with rfl|rfl|rfl|rfl<;>rfl
theorem bz{w W:World}(h:Keeps w W):Keeps w W.drew:=Below.drew h
theorem bh{P:Program}{c:Code}{Q:Exit→Act→World→Prop}{a:Act}{w:World}{A:Array Value}{T:TypeId}
 (h:∀W,Keeps w W→Row W w.heap.size 0 A.toList→W.heap.size=w.heap.size+1→Code.wp P c Q a W):
 Code.wp P c Q a (w.alloc (.cells A T)):=
 h _ (ah (Keeps.refl w) _) (Row.new (w:=w) A.toList A T (by simp)) (by simp)
theorem bu{P:Program}{c:Code}{Q:Exit→Act→World→Prop}{a:Act}{w:World}{A B:Array Value}{T U:TypeId}
 (h:∀W,Keeps w W→Row W w.heap.size 0 A.toList→Row W (w.heap.size+1) 0 B.toList→W.heap.size=w.heap.size+2→Code.wp P c Q a W):
 Code.wp P c Q a ((w.alloc (.cells A T)).alloc (.cells B U)):=by
 have h0:=Row.new (w:=w) A.toList A T (by simp)
 have h1:=Row.new (w:=w.alloc (.cells A T)) B.toList B U (by simp)
 simp only[World.size_alloc]at h1
 exact h _ (ah (ah (Keeps.refl w) _) _) (h0.alloc _) h1 (by simp)
theorem dp{P:Program}{ops:Array Oper}{S:World→Prop}{o:Oper}{a:Act}(hw:Region.wanted o (yielded ops a.tmps)=true)(ty:TypeId)(x:Operand)(ho:o.op= .load ty x)
 (g off:Nat) (hx:a.eval x= .pointer (some ⟨g,off,none⟩)) (cs:List Value) (d:TypeDesc) (hS:∀w,S w→Row w g off cs)
 (hu:P.underlying ty=some d) (hd:(match d with | .struct _| .array _ _=>true|_=>false)=true) (hi:(P.info? ty).map (·.size)=some cs.length):YieldsIf P ops S o (.agg cs.toArray) a:=
 .inl ⟨hw,fun w hw' =>by
  unfold execOp
  simp only[ho,hx,Instr.loadAt,Instr.sureAddr,Sem.run_bind,Sem.run_pure,Result.andThen_ok,dq w g off ty cs d (hS w hw') hu hd hi]⟩
theorem de{P:Program}{w:World}{o:Oper}{a:Act}{K:Act→World→Prop}{Q:Exit→Act→World→Prop}(T:TypeId)(x y:Operand)(ho:o.op= .store T x y)
 (g off:Nat) (hx:a.eval x= .pointer (some ⟨g,off,none⟩)) (olds cs:List Value) (hy:a.eval y= .agg cs.toArray) (hg:Row w g off olds) (hl:cs.length=olds.length)
 (hi:(P.info? T).map (·.size)=some cs.length) (h1:∀v∈cs,v.oneCell' =true)
 (h:∀w',Row w' g off cs→bU (· =g) w w'→K (a.put o.dst undef) w'):o.wp P a w K Q:=by
 unfold Oper.wp execOp
 simp only[ho,hx,hy,Instr.storeAt,Instr.sureAddr,Sem.run_bind,Sem.run_pure,Result.andThen_ok,run_storeVar_row w g off T olds cs hg hl hi h1]
 exact h _ (hg.whole hl) (dh _ _ _ _)
theorem aW{P:Program}{ops:Array Oper}{rest:List Oper}{o:Oper}{a:Act}{w:World}{Q:Exit→Act→World→Prop}(hw:Region.wanted o (yielded ops a.tmps)=true)(t:TypeId)(parts:Array (Nat×Operand))(ho:o.op= .build t parts)(vs:List (Nat×Value))(hv:(parts.map fun(i,x)=>(i,a.eval x)).toList=vs)(out:Array Value)
 (hb:P.built t vs=some out) (h:wpList P ops Q rest (a.put o.dst (.agg out)) w):wpList P ops Q (o::rest) a w:=by
 subst hv
 refine BigFrame.wpList_want hw fun _ hK=> ?_
 unfold Oper.wp execOp
 simp only[ho,Sem.run_bind,run_build w t _ _ hb,Result.andThen_ok]
 exact hK _ _ h
theorem kW{P:Program}{ops:Array Oper}{rest:List Oper}{o:Oper}{a:Act}{w:World}{Q:Exit→Act→World→Prop}(hw:Region.wanted o (yielded ops a.tmps)=true)(t t':TypeId)(x y:Operand)(ho:o.op= .binOp .eql t x y t')(A B:Array Value)(hx:a.eval x= .agg A)(hy:a.eval y= .agg B)(r:Bool)
 (hE:∀W,(Op.equalIn 10000 t (.agg A) (.agg B)).run P W= .ok r W) (hm:P.eqGuardType P.depth t=false) (h:wpList P ops Q rest (a.put o.dst (.bool r)) w):wpList P ops Q (o::rest) a w:=
 BigFrame.wpList_want hw fun _ hK=>by
  unfold Oper.wp execOp
  simp only[ho,hx,hy]
  simp only[Sem.run_bind,Sem.run_pure,run_eqGuard_agg _ _ _ _ _ _ _ hm,run_eql_struct,hE,Result.andThen_ok]
  exact hK _ _ h
theorem dO{P:Program}{ops:Array Oper}{rest:List Oper}{o:Oper}{a:Act}{w:World}{Q:Exit→Act→World→Prop}(hw:Region.wanted o (yielded ops a.tmps)=true)(ty:TypeId)(x:Operand)(ho:o.op= .load ty x)
 (g off:Nat) (hx:a.eval x= .pointer (some ⟨g,off,none⟩)) (cs:List Value) (d:TypeDesc) (hg:Row w g off cs)
 (hu:P.underlying ty=some d) (hd:(match d with | .struct _| .array _ _=>true|_=>false)=true) (hi:(P.info? ty).map (·.size)=some cs.length)
 (h:wpList P ops Q rest (a.put o.dst (.agg cs.toArray)) w):wpList P ops Q (o::rest) a w:=
 BigFrame.wpList_want hw fun _ hK=>by
  unfold Oper.wp execOp
  simp only[ho,hx,Instr.loadAt,Instr.sureAddr,Sem.run_bind,Sem.run_pure,Result.andThen_ok,dq w g off ty cs d hg hu hd hi]
  exact hK _ _ h
theorem bD{P:Program}{o:Oper}{a:Act}{w:World}(ty:TypeId)(x:Operand)(ho:o.op= .load ty x)(g off:Nat)(hx:a.eval x= .pointer (some ⟨g,off,none⟩))(cs:List Value)(d:TypeDesc)(hg:Row w g off cs)
 (hu:P.underlying ty=some d) (hd:(match d with | .struct _| .array _ _=>true|_=>false)=true) (hi:(P.info? ty).map (·.size)=some cs.length):(execOp a.eval o).run P w= .ok (.value (.agg cs.toArray)) w:=by
 unfold execOp
 simp only[ho,hx,Instr.loadAt,Instr.sureAddr,Sem.run_bind,Sem.run_pure,Result.andThen_ok,dq w g off ty cs d hg hu hd hi]
theorem cR{P:Program}{o:Oper}{a:Act}{w:World}(t:TypeId)(parts:List (Nat×Operand))(ho:o.op= .build t parts.toArray)(vs:List (Nat×Value))(hv:(parts.map fun(i,x)=>(i,a.eval x))=vs)(out:Array Value)
 (hb:P.built t vs=some out):(execOp a.eval o).run P w= .ok (.value (.agg out)) w:=by
 subst hv
 have h2:P.built t (parts.toArray.map fun(i,x)=>(i,a.eval x)).toList=some out:=by rw[List.map_toArray];exact hb
 unfold execOp
 simp only[ho,Sem.run_bind,run_build w t _ _ h2,Result.andThen_ok,Sem.run_pure]
theorem gx{P:Program}{o:Oper}{a:Act}{w:World}(t t':TypeId)(x y:Operand)(ho:o.op= .binOp .neq t x y t')(A B:Array Value)(hx:a.eval x= .agg A)(hy:a.eval y= .agg B)(r:Bool)
 (hE:∀W,(Op.equalIn 10000 t (.agg A) (.agg B)).run P W= .ok r W) (hm:P.eqGuardType P.depth t=false):(execOp a.eval o).run P w= .ok (.value (.bool (!r))) w:=by
 unfold execOp
 simp only[ho,hx,hy]
 simp only[Sem.run_bind,Sem.run_pure,run_eqGuard_agg _ _ _ _ _ _ _ hm,run_neq_struct,hE,Result.andThen_ok]
theorem qQ{α β:Type}(f:α→Option β)(g:α→β):∀(L:List α),(∀i∈L,f i=some (g i))→L.mapM f=some (L.map g)
 |[],_=>rfl
 |a::L,h=>by
  rw[List.mapM_cons,h a (by simp),qQ f g L (fun i hi=>h i (by simp[hi]))]
  rfl
theorem mr{α β:Type}(f:α→β):∀(L:List α),(L.map (fun i=>[f i])).flatten=L.map f
 |[]=>rfl
 |a::L=>by simp[mr f L]
theorem ww(k:IntKind)(h:List Int):(List.range h.length).map (fun i=>Lit.int k (h.getD i 0))=h.map (Lit.int k):=by
 apply List.ext_getElem
 ·simp
 ·intro i h1 h2
  have h3:i<h.length:=by simpa using h2
  simp[List.getD,h3]
theorem iC(D:Nat)(t e:TypeId)(n:Nat)(k:IntKind)(hu:Tryz.prog.underlying t=some (.array n e))(he:Tryz.prog.underlying e=some (.int k))(e1:Tryz.prog.cellsOf t=n)(e2:Tryz.prog.cellsOf e=1)(xs:List Int)(hl:xs.length=n)(hw:∀x∈xs,(Lit.int k x).wf=true):
 Tryz.prog.keyLits (D+2) t (xs.map (Value.int k))=some (xs.map (Lit.int k)):=by
 have e4:(List.range n).mapM (fun i=>Tryz.prog.keyLits (D+1) e (((xs.map (Value.int k)).drop (i*1)).take 1))=some ((List.range n).map (fun i=>[Lit.int k (xs.getD i 0)])):=by
  refine qQ _ _ _ (fun i hi=> ?_)
  have hi':i<xs.length:=by rw[hl];exact List.mem_range.1 hi
  have e3:((xs.map (Value.int k)).drop (i*1)).take 1=[.int k (xs.getD i 0)]:=by
   rw[Nat.mul_one,List.drop_eq_getElem_cons (by simpa using hi')]
   simp[List.getD,hi']
  have hx:xs.getD i 0∈xs:=by
   have :xs.getD i 0=xs[i]:=by simp[List.getD,hi']
   rw[this];exact List.getElem_mem hi'
  rw[e3]
  unfold Program.keyLits
  rw[he]
  simp only[hw _ hx,and_self,if_true]
 unfold Program.keyLits
 rw[hu]
 simp only[e1,e2]
 rw[if_pos (by rw[aF,hl]),e4,Option.map_some,mr,←hl,ww]
theorem wz{k:IntKind}{h h':List Int}(e:h.map (Lit.int k)=h'.map (Lit.int k)):h=h':=by
 have :=congrArg (List.map (fun l=>match l with |Lit.int _ n=>n|_=>0)) e
 simpa[List.map_map,Function.comp_def]using this
theorem m9(W:World)(t e:TypeId)(n:Nat)(k:IntKind)(hk:Tryz.prog.keyTypeAt 4 t=true)(hu:Tryz.prog.underlying t=some (.array n e))(he:Tryz.prog.underlying e=some (.int k))(e1:Tryz.prog.cellsOf t=n)(e2:Tryz.prog.cellsOf e=1)(xs ys:List Int)(hl:xs.length=n)(hw:∀x∈xs,(Lit.int k x).wf=true)(hl':ys.length=n)(hw':∀x∈ys,(Lit.int k x).wf=true):
 (Op.equalIn 10000 t (.agg (xs.map (Value.int k)).toArray) (.agg (ys.map (Value.int k)).toArray)).run Tryz.prog W= .ok (decide (xs=ys)) W:=by
 have fm:∀(l:List Int),l.length=n→(Value.agg (l.map (Value.int k)).toArray).formed Tryz.prog t=true:=fun l hl=>by
  unfold Value.formed
  rw[hu]
  simp[e1,hl]
 have hd:=run_equalIn_deep (P:=Tryz.prog) 9996 4 t hk
 obtain⟨r,hr,hiff⟩:=hd W 2 2 _ _ _ _ (fm xs hl) (fm ys hl') (iC 0 t e n k hu he e1 e2 xs hl hw) (iC 0 t e n k hu he e1 e2 ys hl' hw')
 suffices key:r=decide (xs=ys) by rw[hr,key]
 clear hr hd
 by_cases hxy:xs=ys
 ·rw[decide_eq_true hxy];exact hiff.2 (by rw[hxy])
 ·rw[decide_eq_false hxy]
  cases r
  · rfl
  ·exact absurd (wz (hiff.1 rfl)) hxy
theorem wf_u64{x:Int}(h0:0≤x)(h1:x<18446744073709551616):(Lit.int .u64 x).wf=true:=by
 unfold Lit.wf
 rw[Bool.and_eq_true,decide_eq_true_eq,decide_eq_true_eq]
 exact⟨show(0:Int)≤x from h0,show x≤(18446744073709551615:Int) by omega⟩
theorem Jq{x:Int}(h0:0≤x)(h1:x<4294967296):(Lit.int .u32 x).wf=true:=by
 unfold Lit.wf
 rw[Bool.and_eq_true,decide_eq_true_eq,decide_eq_true_eq]
 exact⟨show(0:Int)≤x from h0,show x≤(4294967295:Int) by omega⟩
def cg(x:Int):Prop:=0≤x∧x<115792089237316195423570985008687907853269984665640564039457584007913129639936
theorem gp{l:List Int}(h:Bytes l)(hl:l.length=32):cg (be l):=by
 have :=eY h
 rw[hl]at this
 exact⟨this.1,Int.lt_of_lt_of_le this.2 (by decide)⟩
theorem words_wf(x:Int):∀y∈words x,(Lit.int .u64 y).wf=true:=fun y hy=>by
 obtain⟨i,hi,e⟩:=List.getElem_of_mem hy
 have :=cY x i (by rw[ak]at hi;exact hi)
 have e2:(words x).getD i 0=y:=by simp[List.getD,hi,e]
 rw[e2]at this
 exact wf_u64 this.1 this.2
theorem Dx{x y:Int}(hx:cg x)(hy:cg y)(h:words x=words y):x=y:=by
 unfold words at h
 unfold cg at hx hy
 simp only[List.cons.injEq,and_true]at h
 omega
theorem wl{P:Program}{ops:Array Oper}{rest:List Oper}{o:Oper}{a:Act}{w:World}{Q:Exit→Act→World→Prop}{X:List Int}{kd:IntKind}{n g off:Nat}{ty:TypeId}{x:Operand}(hR:Row w g off (X.map (Value.int kd)))(hl:X.length=n)(hgd:o.guard=none:=by rfl)(hop:o.op= .load ty x:=by rfl)(hx:a.eval x= .pointer (some ⟨g,off,none⟩):=by rfl)
 (hu:(match P.underlying ty with |some (.struct _)|some (.array _ _)=>true|_=>false)=true:=by kernel_rfl) (hi:(P.info? ty).map (·.size)=some n:=by kernel_rfl) (h:wpList P ops Q rest (a.put o.dst (.agg (X.map (Value.int kd)).toArray)) w):wpList P ops Q (o::rest) a w:=by
 cases hc:P.underlying ty with
 |none=>rw[hc]at hu;cases hu
 |some d=>
  rw[hc]at hu
  cases d<;>first |exact aj hgd ty x hop g off hx _ _ hR hc rfl (by rw[aF,hl];exact hi) h|exact absurd hu Bool.false_ne_true
theorem ws{P:Program}{ops:Array Oper}{rest:List Oper}{o:Oper}{a:Act}{w:World}{Q:Exit→Act→World→Prop}{X:List Int}{kd:IntKind}{n g:Nat}{ty:TypeId}{x y:Operand}{olds:List Value}(hR:Row w g 0 olds)(hl:X.length=n)(hlo:n=olds.length)(hgd:o.guard=none:=by rfl)(hop:o.op= .store ty x y:=by rfl)(hx:a.eval x= .pointer (some ⟨g,0,none⟩):=by rfl)(hy:a.eval y= .agg (X.map (Value.int kd)).toArray:=by rfl)
 (hi:(P.info? ty).map (·.size)=some n:=by kernel_rfl) (h:∀w',Row w' g 0 (X.map (Value.int kd))→bU (· =g) w w'→wpList P ops Q rest (a.put o.dst undef) w'):wpList P ops Q (o::rest) a w:=
 wpList_store_row hgd ty x y hop g 0 hx olds _ hy hR (by rw[aF,hl,hlo]) (by rw[aF,hl];exact hi) (fun v hv=>by obtain⟨z,_,rfl⟩:=List.mem_map.1 hv;rfl) h
end Go.Proofs.YtlofddoojkeakaaGreatDoor
