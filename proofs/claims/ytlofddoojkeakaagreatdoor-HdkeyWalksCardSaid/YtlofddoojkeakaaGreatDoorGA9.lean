/- A product of two numbers of four words, row by row; the states of field.mul and field.fold. In plain Lean, and Mul64.. -/
import Derived.Test.YtlofddoojkeakaaGreatDoorGA7
import Derived.Test.YtlofddoojkeakaaGreatDoorGA8
set_option linter.unusedVariables false
set_option linter.unusedSimpArgs false
namespace Go.Proofs.YtlofddoojkeakaaGreatDoor
open Go Go.RowKit
theorem uZ(a b:Int)(ha:0≤a∧a<18446744073709551616)(hb:0≤b∧b<18446744073709551616)(w:World):
 Calls Tryz.prog 124 #[.int .u64 a,.int .u64 b] w fun e w' =>e= .returned (.tuple #[.int .u64 (a*b/18446744073709551616),.int .u64 (a*b%18446744073709551616)])∧w' =w:=by
 obtain⟨x,rfl⟩:=Int.eq_ofNat_of_zero_le ha.1
 obtain⟨y,rfl⟩:=Int.eq_ofNat_of_zero_le hb.1
 have :=Tryz.bits_Mul64 x y (by omega) (by omega) w
 simpa using this
structure oZ (x y:Int) (i:Nat) (L:List Int):Prop where
 len:L.length=8
 dg:dj 18446744073709551616 L
 top:∀j,i+4≤j→j<8→L.getD j 0=0
 val:val 18446744073709551616 L=x%18446744073709551616^i*y
structure nL (x y:Int) (i k:Nat) (L:List Int) (c:Int):Prop where
 len:L.length=8
 dg:dj 18446744073709551616 L
 top:∀j,i+4≤j→j<8→L.getD j 0=0
 c0:0≤c
 c1:c<18446744073709551616
 val:val 18446744073709551616 L+c*18446744073709551616^(i+k)=x%18446744073709551616^i*y+x/18446744073709551616^i%18446744073709551616*(y%18446744073709551616^k)*18446744073709551616^i
theorem k5(n j:Nat):(List.replicate n (0:Int)).getD j 0=0:=by
 rw[List.getD,List.getElem?_replicate];split<;>rfl
theorem oZ.zero (x y:Int):oZ x y 0 (List.replicate 8 0):=⟨rfl,dj.zeros (by decide) 8,fun j _ _=>k5 8 j,by rw[jd];simp[Int.emod_one]⟩
theorem oZ.inn {x y:Int}{i:Nat}{L:List Int}(h:oZ x y i L):nL x y i 0 L 0:=⟨h.len,h.dg,h.top,by omega,by omega,nd h.val⟩
theorem je(l:List Int)(p j:Nat)(v:Int)(h:p≠j):(l.set p v).getD j 0=l.getD j 0:=by
 simp only[List.getD,List.getElem?_set_ne h]
theorem nL.step {x y:Int}{i k:Nat}{L:List Int}{c c' t':Int}(h:nL x y i k L c)(hi:i<4)(hk:k<4)(h0:0≤t')(h1:t' <18446744073709551616)(h2:0≤c')(h3:c' <18446744073709551616)
 (e:t' +18446744073709551616*c' =(words x).getD i 0*(words y).getD k 0+c+L.getD (i+k) 0):nL x y i (k+1) (L.set (i+k) t') c' where
 len:=by rw[List.length_set];exact h.len
 dg:=h.dg.set _ h0 h1
 top:=fun j hj hj' =>by rw[je _ _ _ _ (by omega)];exact h.top j hj hj'
 c0:=h2
 c1:=h3
 val:=by
  rw[dR _ _ hi,dR _ _ hk]at e
  exact oW (by decide) (by rw[h.len];omega) rfl h.val e
theorem o8:(18446744073709551616:Int)^4=115792089237316195423570985008687907853269984665640564039457584007913129639936:=by decide
theorem nL.out {x y:Int}{i:Nat}{L:List Int}{c:Int}(h:nL x y i 4 L c)(hi:i<4)(hy:cg y):oZ x y (i+1) (L.set (i+4) c) where
 len:=by rw[List.length_set];exact h.len
 dg:=h.dg.set _ h.c0 h.c1
 top:=fun j hj hj' =>by rw[je _ _ _ _ (by omega)];exact h.top j (by omega) hj'
 val:=Ct (by decide) (by rw[h.len];omega) (h.top _ (by omega) (by omega)) hy.1 (by rw[o8];exact hy.2) h.val
theorem oZ.done {x y:Int}{L:List Int}(h:oZ x y 4 L)(hx:cg x):_root_.Go.Proofs.YtlofddoojkeakaaGreatDoor.val 18446744073709551616 L=x*y:=by
 rw[h.val,o8,Int.emod_eq_of_lt hx.1 hx.2]
def A2(w wr:World)(p:Nat)(X Y L:List Int)(Z:List Value):Prop:=Keeps w wr∧Row wr p 0 (X.map (Value.int .u64))∧Row wr (p+1) 0 (Y.map (Value.int .u64))∧Row wr (p+1+1) 0 Z∧Row wr (p+1+1+1) 0 (L.map (Value.int .u64))
structure NO (m:Int) (F:List Int):Prop where
 len:F.length=7
 m4:F.take 4=words m
 dg:dj 18446744073709551616 (F.drop 4)
 mU:cg m
 dv:val 18446744073709551616 (F.drop 4)+m=115792089237316195423570985008687907853269984665640564039457584007913129639936
 two:115792089237316195423570985008687907853269984665640564039457584007913129639936<2*m
theorem OH:NO PV gT:=⟨rfl,yn,by intro x hx;simp[gT]at hx;omega,oV,by decide,by decide⟩
structure FI (m V:Int) (L:List Int):Prop where
 len:L.length=8
 dg:dj 18446744073709551616 L
 val:val 18446744073709551616 L%m=V%m
structure yr (lo Hn d:Int) (i:Nat) (L:List Int):Prop where
 len:L.length=8
 dg:dj 18446744073709551616 L
 val:val 18446744073709551616 L=lo+Hn%18446744073709551616^i*d
structure nZ (lo Hn d:Int) (i k:Nat) (L:List Int) (c:Int):Prop where
 len:L.length=8
 dg:dj 18446744073709551616 L
 c0:0≤c
 c1:c<18446744073709551616
 val:val 18446744073709551616 L+c*18446744073709551616^(i+k)=lo+Hn%18446744073709551616^i*d+Hn/18446744073709551616^i%18446744073709551616*(d%18446744073709551616^k)*18446744073709551616^i
structure nM (C:Int) (k:Nat) (L:List Int) (c:Int):Prop where
 len:L.length=8
 dg:dj 18446744073709551616 L
 c0:0≤c
 c1:c<18446744073709551616
 val:val 18446744073709551616 L+c*18446744073709551616^k=C
 top:C<18446744073709551616^8
theorem yr.inn {lo Hn d:Int}{i:Nat}{L:List Int}(h:yr lo Hn d i L):nZ lo Hn d i 0 L 0:=⟨h.len,h.dg,by omega,by omega,nd h.val⟩
theorem nZ.step {lo Hn d a b:Int}{i k:Nat}{L:List Int}{c c' t':Int}(h:nZ lo Hn d i k L c)(hi:i<4)(hk:k<3)(ha:a=Hn/18446744073709551616^i%18446744073709551616)(hb:b=d/18446744073709551616^k%18446744073709551616)
 (h0:0≤t') (h1:t' <18446744073709551616) (h2:0≤c') (h3:c' <18446744073709551616)
 (e:t' +18446744073709551616*c' =a*b+c+L.getD (i+k) 0):nZ lo Hn d i (k+1) (L.set (i+k) t') c' where
 len:=by rw[List.length_set];exact h.len
 dg:=h.dg.set _ h0 h1
 c0:=h2
 c1:=h3
 val:=by
  rw[ha]at e
  exact oW (by decide) (by rw[h.len];omega) hb h.val e
theorem FJ{lo Hn d:Int}(h0:0≤lo)(h1:lo<18446744073709551616^4)(h2:0≤Hn)(h3:Hn<18446744073709551616^4)(h4:0≤d)(h5:d<18446744073709551616^3)(i:Nat):lo+Hn%18446744073709551616^i*d<18446744073709551616^8:=by
 have hp:=oQ i
 have e1:=Int.emod_nonneg Hn (Int.ne_of_gt hp)
 have e2:Hn%18446744073709551616^i≤Hn:=by
  have e:=Int.emod_add_mul_ediv Hn (18446744073709551616^i)
  have :0≤18446744073709551616^i*(Hn/18446744073709551616^i):=Int.mul_nonneg (Int.le_of_lt hp) (Int.ediv_nonneg h2 (Int.le_of_lt hp))
  omega
 have e3:Hn%18446744073709551616^i*d≤(18446744073709551616^4 -1)*(18446744073709551616^3 -1):=Int.le_trans (Int.mul_le_mul_of_nonneg_right (show _≤18446744073709551616^4 -1 by omega) h4) (Int.mul_le_mul_of_nonneg_left (by omega) (by decide))
 have e4:(18446744073709551616^4:Int)+(18446744073709551616^4 -1)*(18446744073709551616^3 -1)≤18446744073709551616^8:=by decide
 omega
theorem nZ.out {lo Hn d:Int}{i:Nat}{L:List Int}{c:Int}(h:nZ lo Hn d i 3 L c)(h0:0≤lo)(h1:lo<18446744073709551616^4)(h2:0≤Hn)(h3:Hn<18446744073709551616^4)(h4:0≤d)(h5:d<18446744073709551616^3):
 nM (lo+Hn%18446744073709551616^(i+1)*d) (i+3) L c where
 len:=h.len
 dg:=h.dg
 c0:=h.c0
 c1:=h.c1
 top:=FJ h0 h1 h2 h3 h4 h5 _
 val:=by
  rw[h.val,Int.emod_eq_of_lt h4 h5,dS Hn _ (by decide) i,Int.add_mul]
  have :Hn/18446744073709551616^i%18446744073709551616*d*18446744073709551616^i=18446744073709551616^i*(Hn/18446744073709551616^i%18446744073709551616)*d:=by
   rw[Int.mul_comm (_*d),Int.mul_assoc]
  rw[this];omega
theorem nM.step {C:Int}{k:Nat}{L:List Int}{c c' t':Int}(h:nM C k L c)(hk:k<8)(h0:0≤t')(h1:t' <18446744073709551616)(h2:0≤c')(h3:c' <18446744073709551616)
 (e:t' +18446744073709551616*c' =L.getD k 0+c):nM C (k+1) (L.set k t') c':=
 ⟨by rw[List.length_set];exact h.len,h.dg.set _ h0 h1,h2,h3,mA (by rw[h.len];omega) h.val e,h.top⟩
theorem nM.lt {C:Int}{k:Nat}{L:List Int}{c:Int}(h:nM C k L c)(hc:¬c=0):k<8:=qU (by decide) h.dg h.c0 hc h.val h.top
theorem nM.out {lo Hn d:Int}{i k:Nat}{L:List Int}(h:nM (lo+Hn%18446744073709551616^(i+1)*d) k L 0):yr lo Hn d (i+1) L:=⟨h.len,h.dg,by rw[←h.val];omega⟩
theorem Cu{L:List Int}(h:L.length=8):∃a b c d e f g i,L=[a,b,c,d,e,f,g,i]:=by
 match L,h with
 |[a,b,c,d,e,f,g,i],_=>exact⟨a,b,c,d,e,f,g,i,rfl⟩
theorem yt(a b c d e f g i dd:Int)(h:dj 18446744073709551616 [a,b,c,d,e,f,g,i]):yr (val 18446744073709551616 [a,b,c,d]) (val 18446744073709551616 [e,f,g,i]) dd 0 [a,b,c,d,0,0,0,0]:=by
 refine⟨rfl,?_,?_⟩
 ·intro x hx
  simp only[List.mem_cons,List.not_mem_nil,or_false]at hx
  have h2:=h x
  simp only[List.mem_cons,List.not_mem_nil,or_false]at h2
  rcases hx with hx|hx|hx|hx|hx
  ·exact h2 (by simp[hx])
  ·exact h2 (by simp[hx])
  ·exact h2 (by simp[hx])
  ·exact h2 (by simp[hx])
  · omega
 ·simp[val,Int.emod_one]
theorem OI(a b c d e f g i:Int):val 18446744073709551616 [a,b,c,d,e,f,g,i]=val 18446744073709551616 [a,b,c,d]+115792089237316195423570985008687907853269984665640564039457584007913129639936*val 18446744073709551616 [e,f,g,i]:=by
 simp only[val];omega
theorem vf{m d V lo Hn:Int}(hd:d+m=115792089237316195423570985008687907853269984665640564039457584007913129639936)(hm:0<m)(h:(lo+115792089237316195423570985008687907853269984665640564039457584007913129639936*Hn)%m=V%m)(hH:0<Hn):
 (lo+Hn*d)%m=V%m∧lo+Hn*d<lo+115792089237316195423570985008687907853269984665640564039457584007913129639936*Hn:=by
 rw[←hd]at h⊢
 have e:(d+m)*Hn=Hn*d+m*Hn:=by rw[Int.add_mul,Int.mul_comm d]
 have h1:0<m*Hn:=Int.mul_pos hm hH
 refine⟨?_,by omega⟩
 rw[←h,e,←Int.add_assoc,Int.add_mul_emod_self_left]
theorem Ls{m x:Int}(h0:0≤x)(h1:x<115792089237316195423570985008687907853269984665640564039457584007913129639936)(h2:115792089237316195423570985008687907853269984665640564039457584007913129639936<2*m):(if x<m then x else x -m)=x%m:=by
 split
 ·rw[Int.emod_eq_of_lt h0 (by omega)]
 ·rw[show x=(x -m)+m by omega,Int.add_emod_right,Int.emod_eq_of_lt (by omega) (by omega)];omega
def nf(w wr:World)(p:Nat)(L:List Int)(Z:List Value):Prop:=Keeps w wr∧Row wr p 0 (L.map (Value.int .u64))∧Row wr (p+1) 0 Z
theorem iD(x:Int)(i:Nat):x%4294967296^(i+1)=x%4294967296^i+4294967296^i*(x/4294967296^i%4294967296):=dS x 4294967296 (by decide) i
theorem fe:(4294967296:Int)^8=115792089237316195423570985008687907853269984665640564039457584007913129639936:=by decide
theorem oe(v:Int):ax v=ax (v%115792089237316195423570985008687907853269984665640564039457584007913129639936):=by
 have :=k3 (yq v) (am v)
 rwa[sD]at this
structure mB (x y:Int) (i:Nat) (L:List Int) (b:Int):Prop where
 len:L.length=8
 dg:dj 4294967296 L
 top:∀j,i≤j→j<8→L.getD j 0=0
 b0:0≤b
 b1:b≤1
 val:val 4294967296 L=x%4294967296^i -y%4294967296^i+b*4294967296^i
theorem mB.zero (x y:Int):mB x y 0 (List.replicate 8 0) 0:=⟨rfl,dj.zeros (by decide) 8,fun j _ _=>k5 8 j,by omega,by omega,by rw[jd];simp[Int.emod_one]⟩
theorem mB.step {x y:Int}{i:Nat}{L:List Int}{b b' t':Int}(h:mB x y i L b)(hi:i<8)(h0:0≤t')(h1:t' <4294967296)(hb0:0≤b')(hb1:b'≤1)
 (e:t' =(ax x).getD i 0 -(ax y).getD i 0 -b+4294967296*b'):mB x y (i+1) (L.set i t') b' where
 len:=by rw[List.length_set];exact h.len
 dg:=h.dg.set _ h0 h1
 top:=fun j hj hj' =>by rw[je _ _ _ _ (by omega)];exact h.top j (by omega) hj'
 b0:=hb0
 b1:=hb1
 val:=by
  rw[kZ _ _ _ _ (by rw[h.len];exact hi),h.top i (by omega) hi,h.val,iD x,iD y,e,cr _ _ hi,cr _ _ hi,Int.pow_succ]
  generalize(4294967296:Int)^i=P
  generalize x/P%4294967296=a
  generalize y/P%4294967296=c
  generalize x%P=u
  generalize y%P=v
  rw[Int.mul_comm P a,Int.mul_comm P c,Int.sub_zero,Int.add_mul,Int.sub_mul,Int.sub_mul,Int.mul_comm P 4294967296,←Int.mul_assoc,Int.mul_comm b' 4294967296]
  omega
theorem mB.done {x y:Int}{L:List Int}{b:Int}(h:mB x y 8 L b)(hx:cg x)(hy:cg y):L=ax (x -y):=by
 have hr:=dW (by decide) h.dg
 rw[h.len,fe]at hr
 have hv:=h.val
 rw[fe,Int.emod_eq_of_lt hx.1 hx.2,Int.emod_eq_of_lt hy.1 hy.2]at hv
 have e:=k3 h.dg h.len
 have e2:=oe (x -y)
 have h0:=h.b0;have h1:=h.b1
 have :_root_.Go.Proofs.YtlofddoojkeakaaGreatDoor.val 4294967296 L=(x -y)%115792089237316195423570985008687907853269984665640564039457584007913129639936:=by omega
 rw[e,this,←e2]
structure mC (x y:Int) (i:Nat) (L:List Int) (c:Int):Prop where
 len:L.length=17
 dg:dj 4294967296 L
 top:∀j,i≤j→j<17→L.getD j 0=0
 b0:0≤c
 b1:c≤1
 val:val 4294967296 L+c*4294967296^i=x%4294967296^i+y%4294967296^i
theorem mC.zero (x y:Int):mC x y 0 (List.replicate 17 0) 0:=⟨rfl,dj.zeros (by decide) 17,fun j _ _=>k5 17 j,by omega,by omega,by rw[jd];simp[Int.emod_one]⟩
theorem mC.step {x y:Int}{i:Nat}{L:List Int}{c c' t':Int}(h:mC x y i L c)(hi:i<8)(h0:0≤t')(h1:t' <4294967296)(hb0:0≤c')(hb1:c'≤1)
 (e:t' +4294967296*c' =(ax x).getD i 0+(ax y).getD i 0+c):mC x y (i+1) (L.set i t') c' where
 len:=by rw[List.length_set];exact h.len
 dg:=h.dg.set _ h0 h1
 top:=fun j hj hj' =>by rw[je _ _ _ _ (by omega)];exact h.top j (by omega) hj'
 b0:=hb0
 b1:=hb1
 val:=by
  have hv:=h.val
  rw[kZ _ _ _ _ (by rw[h.len];omega),h.top i (by omega) (by omega),iD x,iD y,Int.pow_succ]
  rw[cr _ _ hi,cr _ _ hi]at e
  generalize(4294967296:Int)^i=P at *
  generalize x/P%4294967296=a at *
  generalize y/P%4294967296=d at *
  generalize x%P=u at *
  generalize y%P=v at *
  have e1:(t' +4294967296*c')*P=(a+d+c)*P:=by rw[e]
  simp only[Int.add_mul]at e1
  have e2:4294967296*c' *P=c' *(P*4294967296):=by rw[Int.mul_comm P,←Int.mul_assoc,Int.mul_comm c']
  rw[Int.mul_comm P a,Int.mul_comm P d,Int.sub_zero]
  omega
theorem mC.done {x y:Int}{L:List Int}{c:Int}(h:mC x y 8 L c)(hx:cg x)(hy:cg y):(L.set 8 c).length=17∧dj 4294967296 (L.set 8 c)∧_root_.Go.Proofs.YtlofddoojkeakaaGreatDoor.val 4294967296 (L.set 8 c)=x+y:=by
 have h0:=h.b0;have h1:=h.b1
 refine⟨by rw[List.length_set];exact h.len,h.dg.set _ h0 (by omega),?_⟩
 have hv:=h.val
 rw[Int.emod_eq_of_lt hx.1 (by rw[fe];exact hx.2),Int.emod_eq_of_lt hy.1 (by rw[fe];exact hy.2)]at hv
 rw[kZ _ _ _ _ (by rw[h.len];omega),h.top 8 (by omega) (by omega),Int.sub_zero,hv]
structure k6 (x y:Int) (i:Nat) (L:List Int):Prop where
 len:L.length=17
 dg:dj 4294967296 L
 top:∀j,i+8≤j→j<17→L.getD j 0=0
 val:val 4294967296 L=x%4294967296^i*y
structure mD (x y:Int) (i k:Nat) (L:List Int) (c:Int):Prop where
 len:L.length=17
 dg:dj 4294967296 L
 top:∀j,i+8≤j→j<17→L.getD j 0=0
 c0:0≤c
 c1:c<4294967296
 val:val 4294967296 L+c*4294967296^(i+k)=x%4294967296^i*y+x/4294967296^i%4294967296*(y%4294967296^k)*4294967296^i
theorem k6.zero (x y:Int):k6 x y 0 (List.replicate 17 0):=⟨rfl,dj.zeros (by decide) 17,fun j _ _=>k5 17 j,by rw[jd];simp[Int.emod_one]⟩
theorem k6.inn {x y:Int}{i:Nat}{L:List Int}(h:k6 x y i L):mD x y i 0 L 0:=⟨h.len,h.dg,h.top,by omega,by omega,nd h.val⟩
theorem mD.step {x y:Int}{i k:Nat}{L:List Int}{c c' t':Int}(h:mD x y i k L c)(hi:i<8)(hk:k<8)(h0:0≤t')(h1:t' <4294967296)(h2:0≤c')(h3:c' <4294967296)
 (e:t' +4294967296*c' =(ax x).getD i 0*(ax y).getD k 0+c+L.getD (i+k) 0):mD x y i (k+1) (L.set (i+k) t') c' where
 len:=by rw[List.length_set];exact h.len
 dg:=h.dg.set _ h0 h1
 top:=fun j hj hj' =>by rw[je _ _ _ _ (by omega)];exact h.top j hj hj'
 c0:=h2
 c1:=h3
 val:=by
  rw[cr _ _ hi,cr _ _ hk]at e
  exact oW (by decide) (by rw[h.len];omega) rfl h.val e
theorem mD.out {x y:Int}{i:Nat}{L:List Int}{c:Int}(h:mD x y i 8 L c)(hi:i<8)(hy:cg y):k6 x y (i+1) (L.set (i+8) c) where
 len:=by rw[List.length_set];exact h.len
 dg:=h.dg.set _ h.c0 h.c1
 top:=fun j hj hj' =>by rw[je _ _ _ _ (by omega)];exact h.top j (by omega) hj'
 val:=Ct (by decide) (by rw[h.len];omega) (h.top _ (by omega) (by omega)) hy.1 (by rw[fe];exact hy.2) h.val
theorem k6.done {x y:Int}{L:List Int}(h:k6 x y 8 L)(hx:cg x):_root_.Go.Proofs.YtlofddoojkeakaaGreatDoor.val 4294967296 L=x*y:=by
 rw[h.val,fe,Int.emod_eq_of_lt hx.1 hx.2]
theorem qV{a b c t:Int}(ha:0≤a∧a<4294967296)(hb:0≤b∧b<4294967296)(hc:0≤c∧c<4294967296)(ht:0≤t∧t<4294967296):
 ∃s:Int,a*b+t+c=s∧0≤a*b∧a*b<18446744073709551616∧a*b+t<18446744073709551616∧0≤s∧s<18446744073709551616∧0≤s%4294967296∧s%4294967296<4294967296∧0≤s/4294967296∧s/4294967296<4294967296∧s%4294967296+4294967296*(s/4294967296)=a*b+c+t:=by
 have h0:0≤a*b:=Int.mul_nonneg ha.1 hb.1
 have h1:a*b≤4294967295*4294967295:=Int.le_trans (Int.mul_le_mul_of_nonneg_right (show a≤4294967295 by omega) hb.1) (Int.mul_le_mul_of_nonneg_left (by omega) (by decide))
 generalize a*b=p at *
 exact⟨_,rfl,by omega⟩
def OJ(w wr:World)(p:Nat)(X Y L:List Int)(Z:List Value):Prop:=Keeps w wr∧Row wr p 0 (X.map (Value.int .u32))∧Row wr (p+1) 0 (Y.map (Value.int .u32))∧Row wr (p+1+1) 0 Z∧Row wr (p+1+1+1) 0 (L.map (Value.int .u32))
def gN(a b:List Int)(i:Nat):List Int:=a.take i++b.drop i
theorem qg(a b:List Int):gN a b 0=b:=by simp[gN]
theorem jL{a b:List Int}{i:Nat}(h:i≤a.length)(h':i≤b.length):(gN a b i).length=b.length:=by simp[gN];omega
theorem o9{a b:List Int}{i:Nat}(h:i<a.length)(h':i<b.length):(gN a b i).set i (a.getD i 0)=gN a b (i+1):=by
 have e:a.getD i 0=a[i]:=by simp[List.getD,h]
 unfold gN
 rw[e,List.drop_eq_getElem_cons h',List.set_append_right _ _ (by simp;omega),List.length_take,Nat.min_eq_left (by omega),Nat.sub_self,List.set_cons_zero,List.take_add_one,List.getElem?_eq_getElem h,Option.toList_some,List.append_assoc,List.singleton_append]
theorem vg{a b:List Int}{i:Nat}(h:i≤a.length)(j:Nat)(hj:i≤j)(h2:j<b.length):(gN a b i).getD j 0=b.getD j 0:=by
 unfold gN
 simp only[List.getD]
 rw[List.getElem?_append_right (by simp;omega),List.getElem?_drop]
 congr 2
 simp;omega
structure sE (m:Int):Prop where
 u:cg m
 d:115792089237316195423570985008687907853269984665640564039457584007913129639936 -m<1361129467683753853853498429727072845824
theorem Lt:sE PV:=⟨oV,by decide⟩
theorem Lu:sE NV:=⟨ff,by decide⟩
theorem sE.two {m:Int}(h:sE m):115792089237316195423570985008687907853269984665640564039457584007913129639936<2*m:=by have :=h.d;omega
def Lv:Nat→Int
 |0=>13407807929942597099574024998205846127479365820592393377723561443721764030073546976801874298166903427690031858186486050853753882811946569946433649006084096
 |1=>315216049571155833698232320801148910440637914163723573343586347233965774171977684891314130039079325126453023922454528
 |2=>7410693711188236507108543040556026102609279018600996098525285376506440296955904
 |3=>115792089237316195423570985008687907940382270597400810686081483510445791772672
 |_=>115792089237316195423570985008687907853269984665640564039457584007913129639936
structure nN (m V:Int) (k:Nat) (L:List Int):Prop where
 len:L.length=17
 dg:dj 4294967296 L
 val:val 4294967296 L%m=V%m
 top:_root_.Go.Proofs.YtlofddoojkeakaaGreatDoor.val 4294967296 L<Lv k
theorem nN.split {m V:Int}{k:Nat}{L:List Int}(h:nN m V k L):_root_.Go.Proofs.YtlofddoojkeakaaGreatDoor.val 4294967296 L=_root_.Go.Proofs.YtlofddoojkeakaaGreatDoor.val 4294967296 (L.take 8)+115792089237316195423570985008687907853269984665640564039457584007913129639936*_root_.Go.Proofs.YtlofddoojkeakaaGreatDoor.val 4294967296 (L.drop 8):=by
 rw[uX _ _ 8 (by rw[h.len];omega),fe]
theorem nN.lo {m V:Int}{k:Nat}{L:List Int}(h:nN m V k L):cg (_root_.Go.Proofs.YtlofddoojkeakaaGreatDoor.val 4294967296 (L.take 8)):=by
 have :=dW (B:=4294967296) (by decide) (h.dg.take 8)
 rw[List.length_take,h.len,show min 8 17=8 from rfl,fe]at this
 exact this
theorem nN.hi {m V:Int}{k:Nat}{L:List Int}(h:nN m V k L):0≤_root_.Go.Proofs.YtlofddoojkeakaaGreatDoor.val 4294967296 (L.drop 8)∧_root_.Go.Proofs.YtlofddoojkeakaaGreatDoor.val 4294967296 (L.drop 8)<4294967296^9:=by
 have :=dW (B:=4294967296) (by decide) (h.dg.drop 8)
 rw[List.length_drop,h.len]at this
 exact this
def wJ(L:List Int)(i:Nat)(F:Bool):Prop:=if F=true then∃j,8≤j∧j<i∧L.getD j 0≠0 else∀j,8≤j→j<i→L.getD j 0=0
theorem wJ.zero (L:List Int):wJ L 8 false:=by
 unfold wJ
 rw[if_neg (by decide)]
 intro j h h';omega
theorem wJ.yes {L:List Int}{i:Nat}(h:wJ L i true):wJ L (i+1) true:=by
 unfold wJ at *
 rw[if_pos rfl]at *
 obtain⟨j,h1,h2,h3⟩:=h
 exact⟨j,h1,by omega,h3⟩
theorem wJ.no {L:List Int}{i:Nat}(hi:8≤i)(h:wJ L i false):wJ L (i+1) (L.getD i 0 !=0):=by
 unfold wJ at *
 rw[if_neg (by decide)]at h
 by_cases hc:L.getD i 0=0
 ·rw[if_neg (by simpa using hc)]
  intro j h1 h2
  by_cases hj:j=i
  ·rw[hj];exact hc
  ·exact h j h1 (by omega)
 ·rw[if_pos (by simpa using hc)]
  exact⟨i,hi,by omega,hc⟩
theorem qW{B:Int}:∀{L:List Int},(∀j,j<L.length→L.getD j 0=0)→val B L=0
 |[],_=>rfl
 |a::L,h=>by
  have h0:=h 0 (by simp)
  have h1:=qW (B:=B) (L:=L) (fun j hj=>by have :=h (j+1) (by simpa using hj);simpa using this)
  simp only[List.getD_cons_zero]at h0
  rw[val,h1,h0,Int.mul_zero,Int.add_zero]
theorem og(L:List Int)(n j:Nat):(L.drop n).getD j 0=L.getD (n+j) 0:=by simp only[List.getD,List.getElem?_drop]
theorem wJ.Lw {L:List Int}(hl:L.length=17)(h:wJ L 17 false):val 4294967296 (L.drop 8)=0:=by
 unfold wJ at h
 rw[if_neg (by decide)]at h
 refine qW (fun j hj=> ?_)
 rw[List.length_drop,hl]at hj
 rw[og]
 exact h _ (by omega) (by omega)
theorem sF{B:Int}(hB:0<B):∀{L:List Int},dj B L→(j:Nat)→L.getD j 0≠0→0<val B L
 |[],_,j,h=>by simp at h
 |a::L,hd,0,h=>by
  have h1:=dW hB (l:=L) (fun x hx=>hd x (by simp[hx]))
  have h2:=hd a (by simp)
  simp only[List.getD_cons_zero]at h
  have :=Int.mul_nonneg (Int.le_of_lt hB) h1.1
  rw[val];omega
 |a::L,hd,j+1,h=>by
  have h1:=sF hB (L:=L) (fun x hx=>hd x (by simp[hx])) j (by simpa using h)
  have h2:=hd a (by simp)
  have :=Int.mul_pos hB h1
  rw[val];omega
theorem wJ.Jt {L:List Int}(hd:dj 4294967296 L)(h:wJ L 17 true):0<val 4294967296 (L.drop 8):=by
 unfold wJ at h
 rw[if_pos rfl]at h
 obtain⟨j,h1,h2,h3⟩:=h
 refine sF (by decide) (hd.drop 8) (j -8) ?_
 rw[og,show 8+(j -8)=j by omega]
 exact h3
structure sG (lo Hn d:Int) (i:Nat) (L:List Int):Prop where
 len:L.length=17
 dg:dj 4294967296 L
 val:val 4294967296 L=lo+Hn%4294967296^i*d
structure qX (lo Hn d:Int) (i k:Nat) (L:List Int) (c:Int):Prop where
 len:L.length=17
 dg:dj 4294967296 L
 c0:0≤c
 c1:c<4294967296
 val:val 4294967296 L+c*4294967296^(i+k)=lo+Hn%4294967296^i*d+Hn/4294967296^i%4294967296*(d%4294967296^k)*4294967296^i
structure wK (C:Int) (k:Nat) (L:List Int) (c:Int):Prop where
 len:L.length=17
 dg:dj 4294967296 L
 c0:0≤c
 c1:c<4294967296
 val:val 4294967296 L+c*4294967296^k=C
 top:C<4294967296^17
theorem sG.inn {lo Hn d:Int}{i:Nat}{L:List Int}(h:sG lo Hn d i L):qX lo Hn d i 0 L 0:=⟨h.len,h.dg,by omega,by omega,nd h.val⟩
theorem qX.step {lo Hn d a b:Int}{i k:Nat}{L:List Int}{c c' t':Int}(h:qX lo Hn d i k L c)(hi:i<9)(hk:k<8)(ha:a=Hn/4294967296^i%4294967296)(hb:b=d/4294967296^k%4294967296)
 (h0:0≤t') (h1:t' <4294967296) (h2:0≤c') (h3:c' <4294967296)
 (e:t' +4294967296*c' =a*b+c+L.getD (i+k) 0):qX lo Hn d i (k+1) (L.set (i+k) t') c' where
 len:=by rw[List.length_set];exact h.len
 dg:=h.dg.set _ h0 h1
 c0:=h2
 c1:=h3
 val:=by
  rw[ha]at e
  exact oW (by decide) (by rw[h.len];omega) hb h.val e
theorem Ju{lo Hn d:Int}(h0:0≤lo)(h1:lo<4294967296^8)(h2:0≤Hn)(h3:Hn<4294967296^9)(h4:0≤d)(h5:d<1361129467683753853853498429727072845824)(i:Nat):lo+Hn%4294967296^i*d<4294967296^17:=by
 have hp:=wE i
 have e1:=Int.emod_nonneg Hn (Int.ne_of_gt hp)
 have e2:Hn%4294967296^i≤Hn:=by
  have e:=Int.emod_add_mul_ediv Hn (4294967296^i)
  have :0≤4294967296^i*(Hn/4294967296^i):=Int.mul_nonneg (Int.le_of_lt hp) (Int.ediv_nonneg h2 (Int.le_of_lt hp))
  omega
 have e3:Hn%4294967296^i*d≤(4294967296^9 -1)*1361129467683753853853498429727072845824:=Int.le_trans (Int.mul_le_mul_of_nonneg_right (show _≤4294967296^9 -1 by omega) h4) (Int.mul_le_mul_of_nonneg_left (by omega) (by decide))
 have e4:(4294967296^8:Int)+(4294967296^9 -1)*1361129467683753853853498429727072845824≤4294967296^17:=by decide
 omega
theorem qX.out {lo Hn d:Int}{i:Nat}{L:List Int}{c:Int}(h:qX lo Hn d i 8 L c)(h0:0≤lo)(h1:lo<4294967296^8)(h2:0≤Hn)(h3:Hn<4294967296^9)(h4:0≤d)(h5:d<1361129467683753853853498429727072845824):
 wK (lo+Hn%4294967296^(i+1)*d) (i+8) L c where
 len:=h.len
 dg:=h.dg
 c0:=h.c0
 c1:=h.c1
 top:=Ju h0 h1 h2 h3 h4 h5 _
 val:=by
  rw[h.val,Int.emod_eq_of_lt h4 (Int.lt_trans h5 (by decide)),iD Hn i,Int.add_mul]
  have :Hn/4294967296^i%4294967296*d*4294967296^i=4294967296^i*(Hn/4294967296^i%4294967296)*d:=by
   rw[Int.mul_comm (_*d),Int.mul_assoc]
  rw[this];omega
theorem wK.step {C:Int}{k:Nat}{L:List Int}{c c' t':Int}(h:wK C k L c)(hk:k<17)(h0:0≤t')(h1:t' <4294967296)(h2:0≤c')(h3:c' <4294967296)
 (e:t' +4294967296*c' =L.getD k 0+c):wK C (k+1) (L.set k t') c':=
 ⟨by rw[List.length_set];exact h.len,h.dg.set _ h0 h1,h2,h3,mA (by rw[h.len];omega) h.val e,h.top⟩
theorem wK.lt {C:Int}{k:Nat}{L:List Int}{c:Int}(h:wK C k L c)(hc:¬c=0):k<17:=qU (by decide) h.dg h.c0 hc h.val h.top
theorem wK.out {lo Hn d:Int}{i k:Nat}{L:List Int}(h:wK (lo+Hn%4294967296^(i+1)*d) k L 0):sG lo Hn d (i+1) L:=⟨h.len,h.dg,by rw[←h.val];omega⟩
theorem sG.next {m V lo Hn:Int}{k:Nat}{L N:List Int}(h:sG lo Hn (115792089237316195423570985008687907853269984665640564039457584007913129639936 -m) 9 N)(hm:sE m)(hs:nN m V k L)(hlo:lo=_root_.Go.Proofs.YtlofddoojkeakaaGreatDoor.val 4294967296 (L.take 8))(hhi:Hn=_root_.Go.Proofs.YtlofddoojkeakaaGreatDoor.val 4294967296 (L.drop 8))(hp:0<Hn):k<4∧nN m V (k+1) N:=by
 have h2:=hs.hi
 have hl:=hs.lo
 have hsp:=hs.split
 have htop:=hs.top
 have hval:=hs.val
 rw[←hlo,←hhi]at hsp
 rw[←hhi]at h2
 rw[←hlo]at hl
 have hv:=h.val
 rw[Int.emod_eq_of_lt h2.1 h2.2]at hv
 have h0:0≤115792089237316195423570985008687907853269984665640564039457584007913129639936 -m:=by have :=hm.u.2;omega
 have h1:=hm.d
 rw[hsp]at hval htop
 obtain⟨f1,f2⟩:=vf (d:=115792089237316195423570985008687907853269984665640564039457584007913129639936 -m) (by omega) (by have :=hm.two;omega) hval hp
 have hk:k<4:=by
  refine Nat.lt_of_not_le fun hk=> ?_
  have :Lv k=115792089237316195423570985008687907853269984665640564039457584007913129639936:=by
   match k,hk with
   |k+4,_=>rfl
  rw[this]at htop
  have :=hl.1
  omega
 refine⟨hk,h.len,h.dg,by rw[hv];exact f1,?_⟩
 rw[hv]
 have hbd:∀Q:Int,Hn≤Q→lo+Hn*(115792089237316195423570985008687907853269984665640564039457584007913129639936 -m)≤lo+Q*1361129467683753853853498429727072845823:=fun Q hQ=>by
  have :Hn*(115792089237316195423570985008687907853269984665640564039457584007913129639936 -m)≤Q*1361129467683753853853498429727072845823:=Int.le_trans (Int.mul_le_mul_of_nonneg_right hQ h0) (Int.mul_le_mul_of_nonneg_left (by omega) (by omega))
  omega
 have hl1:=hl.2
 have hl0:=hl.1
 clear hval hsp hv f1 f2 hs h hm
 match k,hk with
 |0,_=>
  have htop:_<(13407807929942597099574024998205846127479365820592393377723561443721764030073546976801874298166903427690031858186486050853753882811946569946433649006084096:Int):=htop
  have :=hbd 115792089237316195423570985008687907853269984665640564039457584007913129639936 (by omega)
  show _<(315216049571155833698232320801148910440637914163723573343586347233965774171977684891314130039079325126453023922454528:Int)
  omega
 |1,_=>
  have htop:_<(315216049571155833698232320801148910440637914163723573343586347233965774171977684891314130039079325126453023922454528:Int):=htop
  have :=hbd 2722258935367507707706996859454145691648 (by omega)
  show _<(7410693711188236507108543040556026102609279018600996098525285376506440296955904:Int)
  omega
 |2,_=>
  have htop:_<(7410693711188236507108543040556026102609279018600996098525285376506440296955904:Int):=htop
  have :=hbd 64 (by omega)
  show _<(115792089237316195423570985008687907940382270597400810686081483510445791772672:Int)
  omega
 |3,_=>
  have htop:_<(115792089237316195423570985008687907940382270597400810686081483510445791772672:Int):=htop
  have h1':Hn=1:=by omega
  rw[h1']at htop⊢
  show _<(115792089237316195423570985008687907853269984665640564039457584007913129639936:Int)
  omega
end Go.Proofs.YtlofddoojkeakaaGreatDoor
