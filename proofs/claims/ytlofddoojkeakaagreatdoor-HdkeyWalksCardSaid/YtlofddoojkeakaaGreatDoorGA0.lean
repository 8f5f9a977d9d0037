/- Small words used by all my walks: worlds up to draws (Qt), endings, hiding. -/
import Derived.WalkKit
import Derived.Deep.QuietTactic
import Derived.BigQuiet
import Derived.Lib.Hide
import Derived.WalkSpells
import Derived.WalkLawsBesides
import Derived.WalkSmall
import Derived.Test.YtlofddoojkeakaaGreatDoorProg
import Derived.Laws.Rows
import Derived.StillTail
set_option linter.unusedVariables false
set_option linter.unusedSimpArgs false
namespace Go.Proofs.YtlofddoojkeakaaGreatDoor
open Go Go.RowKit
theorem _root_.Go.RowKit.Hid.o {p:Prop}(h:Hid p):p:=h.out
theorem ae{p:Prop}(h:p):Hid p:=Lib.hid h
theorem aF{α β:Type}{f:α→β}{l:List α}:(l.map f).length=l.length:=List.length_map ..
theorem kG{α:Type}:(∀(l:List α) (i:Nat),l.toArray[i]? =l[i]?)∧(∀(a:α) (l:List α) (i:Nat),(a::l)[i+1]? =l[i]?)∧(∀(a:α) (l:List α),(a::l)[0]? =some a):=⟨fun _ _=>List.getElem?_toArray,fun _ _ _=>List.getElem?_cons_succ,fun _ _=>List.getElem?_cons_zero⟩
theorem kP:(∀(a:Act) (d:Tmp) (v:Value),Act.put a (some d) v={a with tmps:=a.tmps.setIfInBounds d v})∧(∀(a:Act) (v:Value),Act.put a none v=a)∧(∀(l:List Value) (i:Nat) (v:Value),l.toArray.setIfInBounds i v=(l.set i v).toArray)∧(∀(a v:Value) (l:List Value),(a::l).set 0 v=v::l)∧(∀(a v:Value) (l:List Value) (n:Nat),(a::l).set (n+1) v=a::l.set n v):=⟨fun _ _ _=>rfl,fun _ _=>rfl,fun _ _ _=>List.setIfInBounds_toArray ..,fun _ _ _=>rfl,fun _ _ _ _=>rfl⟩
end Go.Proofs.YtlofddoojkeakaaGreatDoor
namespace Go.Proofs.YtlofddoojkeakaaGreatDoor
open Go Go.RowKit
theorem fU{a b:Bool}(h:a=b):Ending.returned (.bool a)= .returned (.bool b):=by rw[h]
theorem oK{k:IntKind}{a b:Int}(h:a=b):Ending.returned (.int k a)= .returned (.int k b):=by rw[h]
def Qt(w w':World):Prop:=∃n,w' =w.drewN n
theorem Qt.refl (w:World):Qt w w:=⟨0,rfl⟩
theorem Qt.drewN (w:World)(n:Nat):Qt w (w.drewN n):=⟨n,rfl⟩
theorem Qt.trans {a b c:World}(h:Qt a b)(k:Qt b c):Qt a c:=by
 obtain⟨n,rfl⟩:=h;obtain⟨m,rfl⟩:=k;exact⟨n+m,World.drewN_drewN _ _ _⟩
theorem Qt.below {a b:World}(h:Qt a b)(B:Nat):Below B a b:=by
 obtain⟨n,rfl⟩:=h;exact⟨rfl,rfl,rfl,Nat.le_refl _,fun _ _=>rfl⟩
abbrev Keeps (w w':World):Prop:=Below w.heap.size w w'
theorem Keeps.refl (w:World):Keeps w w:=Below.refl _ _
theorem Keeps.trans {a b c:World}(h:Keeps a b)(k:Keeps b c):Keeps a c:=Below.trans h (Below.mono k h.size)
theorem Qt.keeps {a b:World}(h:Qt a b):Keeps a b:=h.below _
theorem ai{k:IntKind}(zs:List Int):∀u∈zs.map (Value.int k),u.oneCell' =true:=by
 intro u hu
 obtain⟨z,_,rfl⟩:=List.mem_map.1 hu
 rfl
section
variable {P:Program} {f:FuncId} {args:Array Value} {w:World} {a n:Nat} {v:Value}
theorem q1(h:Calls P f args (w.drewN n) fun e w' =>e= .returned v∧Qt (w.drewN n) w'):Calls P f args (w.drewN n) fun e w'' =>e= .returned v∧∃m,w'' =w.drewN m:=
 h.mono fun _ _ ⟨he,m,hm⟩=>⟨he,n+m,by rw[hm,World.drewN_drewN]⟩
theorem q2(h:Calls P f args (w.drewN (a+n)) fun e w' =>e= .returned v∧Qt (w.drewN (a+n)) w'):Calls P f args (w.drewN (a+n)) fun e w'' =>e= .returned v∧∃m,w'' =w.drewN (a+m):=
 h.mono fun _ _ ⟨he,m,hm⟩=>⟨he,n+m,by rw[hm,World.drewN_drewN,Nat.add_assoc]⟩
theorem s1(h:Calls P f args (w.drewN n) fun e w' =>e= .returned v∧w.drewN n=w'):Calls P f args (w.drewN n) fun e w'' =>e= .returned v∧∃m,w'' =w.drewN m:=
 h.mono fun _ _ ⟨he,hm⟩=>⟨he,n,hm.symm⟩
theorem s2(h:Calls P f args (w.drewN (a+n)) fun e w' =>e= .returned v∧w.drewN (a+n)=w'):Calls P f args (w.drewN (a+n)) fun e w'' =>e= .returned v∧∃m,w'' =w.drewN (a+m):=
 h.mono fun _ _ ⟨he,hm⟩=>⟨he,n,hm.symm⟩
end
end Go.Proofs.YtlofddoojkeakaaGreatDoor
namespace Go.Proofs.YtlofddoojkeakaaGreatDoor
open Go Go.RowKit
def W32(x:Int):Prop:=0≤x∧x<4294967296
def lE(x:Int)(n:Nat):Int:=bits .or .u32 (x*2^(32 -n)%4294967296) (x/2^n)
theorem mc(op:BinOp)(a b:Int):W32 (bits op .u32 a b):=by
 unfold bits
 split<;>simp only[IntKind.wrap_u32']<;>exact⟨by omega,by omega⟩
theorem p8(x:Int)(n:Nat):W32 (lE x n):=mc _ _ _
theorem wk(n:Nat)(h1:1≤n)(h2:n≤31):bits .and .u64 (IntKind.u64.wrap (-(n:Int))) 31=((32 -n:Nat):Int):=by
 have h:=(by decide+kernel:∀m:Fin 32,1≤m.val→bits .and .u64 (IntKind.u64.wrap (-(m.val:Int))) 31=((32 -m.val:Nat):Int)) ⟨n,by omega⟩ h1
 exact h
theorem r9(x:Int)(n:Nat)(h1:1≤n)(h2:n≤31)(hx:W32 x)(w:World):Calls Tryz.prog 117 #[.int .u32 x,.int .i64 (-(n:Int))] w fun e w' =>e= .returned (.int .u32 (lE x n))∧w=w':=by
 obtain⟨h3,h4⟩:=hx
 have hb:=wk n h1 h2
 generalize hm:bits .and .u64 (IntKind.u64.wrap (-(n:Int))) 31=m at *
 subst hb
 have e1:32 -(32 -n)=n:=by omega
 have HM:=ae e1;clear e1
 have hm1:1≤32 -n:=by omega
 have hm2:32 -n≤31:=by omega
 have hr:lE x n=bits .or .u32 (x*2^(32 -n)%4294967296) (x/2^(32 -(32 -n))):=by rw[HM.o];rfl
 have HR:=ae hr;clear hr
 generalize 32 -n=k at *
 go_enter Tryz.func117,Tryz.ntmps117
 go_wp2
 go_ret
 exact⟨oK HR.o.symm,rfl⟩
theorem a8(x n:Int)(h1:1≤n)(h2:n≤31)(hx:W32 x)(w:World):Calls Tryz.prog 135 #[.int .u32 x,.int .i64 n] w fun e w' =>e= .returned (.int .u32 (lE x n.toNat))∧w=w':=by
 obtain⟨n,rfl⟩:=Int.eq_ofNat_of_zero_le (show 0≤n by omega)
 go_enter Tryz.func135,Tryz.ntmps135
 go_wp2_with (go_at_call 117;refine(r9 _ _ (by omega) (by omega) hx _).mono ?_;rintro e w' ⟨rfl,rfl⟩)
 go_ret
 exact⟨rfl,rfl⟩
theorem bZ(x m:Int)(h1:1≤m)(h2:m≤31)(hx:W32 x)(w:World):Calls Tryz.prog 98 #[.int .u32 x,.int .i64 m] w fun e w' =>e= .returned (.int .u32 (lE x (32 -m.toNat)))∧w=w':=by
 obtain⟨h3,h4⟩:=hx
 obtain⟨m,rfl⟩:=Int.eq_ofNat_of_zero_le (show 0≤m by omega)
 have hr:lE x (32 -m)=bits .or .u32 (x*2^m%4294967296) (x/2^(32 -m)):=by
  unfold lE
  rw[show 32 -(32 -m)=m by omega]
 have HR:=ae hr;clear hr
 go_enter Tryz.func98,Tryz.ntmps98
 go_wp2
 go_ret
 exact⟨oK HR.o.symm,rfl⟩
def Byte(x:Int):Prop:=0≤x∧x<256
def Bytes(l:List Int):Prop:=∀x∈l,Byte x
theorem Bytes.getD {l:List Int}(h:Bytes l)(j:Nat):Byte (l.getD j 0):=by
 by_cases hj:j<l.length
 · have :l.getD j 0=l[j]:=by simp[hj]
   rw[this];exact h _ (List.getElem_mem hj)
 · have :l.getD j 0=0:=by simp[List.getD,List.getElem?_eq_none (by omega:l.length≤j)]
   rw[this];exact⟨by omega,by omega⟩
def Words(l:List Int):Prop:=∀x∈l,W32 x
theorem Words.getD {l:List Int}(h:Words l)(j:Nat):W32 (l.getD j 0):=by
 by_cases hj:j<l.length
 · have :l.getD j 0=l[j]:=by simp[hj]
   rw[this];exact h _ (List.getElem_mem hj)
 · have :l.getD j 0=0:=by simp[List.getD,List.getElem?_eq_none (by omega:l.length≤j)]
   rw[this];exact⟨by omega,by omega⟩
theorem mod_range(x:Int):W32 (x%4294967296):=⟨by omega,by omega⟩
def word(l:List Int)(i:Nat):Int:=bits .or .u32 (bits .or .u32 (bits .or .u32 (l.getD (4*i) 0*16777216) (l.getD (4*i+1) 0*65536)) (l.getD (4*i+2) 0*256)) (l.getD (4*i+3) 0)
def me(x:Int):Int:=bits .xor .u32 (bits .xor .u32 (lE x 7) (lE x 18)) (x/8)
def mf(x:Int):Int:=bits .xor .u32 (bits .xor .u32 (lE x 17) (lE x 19)) (x/1024)
def j5(ws:List Int)(n:Nat):Int:=(ws.getD (n -16) 0+ws.getD (n -7) 0+me (ws.getD (n -15) 0)+mf (ws.getD (n -2) 0))%4294967296
def sched(l:List Int):Nat→List Int
 |0=>[]
 |n+1=>sched l n++[if n<16 then word l n else j5 (sched l n) n]
theorem bT(l:List Int)(n:Nat):(sched l n).length=n:=by
 induction n with
 |zero=>rfl
 |succ n ih=>simp[sched,ih]
theorem bJ(l:List Int)(n:Nat):Words (sched l n):=by
 induction n with
 |zero=>intro x hx;simp[sched]at hx
 |succ n ih=>
  intro x hx
  simp only[sched,List.mem_append,List.mem_singleton]at hx
  rcases hx with hx|rfl
  ·exact ih x hx
  · split
    ·exact mc _ _ _
    ·exact mod_range _
def dZ(l:List Int)(n:Nat):List Int:=sched l n++List.replicate (64 -n) 0
theorem aS(l:List Int)(n:Nat)(h:n≤64):(dZ l n).length=64:=by simp[dZ,bT];omega
theorem j6(l:List Int)(n j:Nat)(h:j<n):(dZ l n).getD j 0=(sched l n).getD j 0:=by
 simp[dZ,List.getD,List.getElem?_append_left,bT,h]
theorem mg(l:List Int)(n:Nat)(h:n<64)(x:Int)(hx:x=if n<16 then word l n else j5 (sched l n) n):(dZ l n).set n x=dZ l (n+1):=by
 subst hx
 unfold dZ
 rw[List.set_append_right _ _ (by rw[bT];omega)]
 simp only[bT,Nat.sub_self]
 rw[show 64 -n=(64 -(n+1))+1 by omega,List.replicate_succ,List.set_cons_zero]
 rw[sched]
 simp
theorem j7(l:List Int):dZ l 64=sched l 64:=by simp[dZ]
def mh(e:Int):Int:=bits .xor .u32 (bits .xor .u32 (lE e 6) (lE e 11)) (lE e 25)
def sb(a:Int):Int:=bits .xor .u32 (bits .xor .u32 (lE a 2) (lE a 13)) (lE a 22)
def Fn(e f g:Int):Int:=bits .xor .u32 (bits .and .u32 e f) (bits .and .u32 (bits .xor .u32 IntKind.u32.max e) g)
def AO(a b c:Int):Int:=bits .xor .u32 (bits .xor .u32 (bits .and .u32 a b) (bits .and .u32 a c)) (bits .and .u32 b c)
structure St where
 (a b c d e f g h:Int)
def St.list (s:St):List Int:=[s.a,s.b,s.c,s.d,s.e,s.f,s.g,s.h]
def St.ok (s:St):Prop:=W32 s.a∧W32 s.b∧W32 s.c∧W32 s.d∧W32 s.e∧W32 s.f∧W32 s.g∧W32 s.h
def qa(s:St)(k x:Int):Int:=(s.h+mh s.e+Fn s.e s.f s.g+k+x)%4294967296
def AQ(s:St):Int:=(sb s.a+AO s.a s.b s.c)%4294967296
def St.round (s:St)(k x:Int):St:=⟨(qa s k x+AQ s)%4294967296,s.a,s.b,s.c,(s.d+qa s k x)%4294967296,s.e,s.f,s.g⟩
def St.plus (s t:St):St:=⟨(s.a+t.a)%4294967296,(s.b+t.b)%4294967296,(s.c+t.c)%4294967296,(s.d+t.d)%4294967296,(s.e+t.e)%4294967296,(s.f+t.f)%4294967296,(s.g+t.g)%4294967296,(s.h+t.h)%4294967296⟩
theorem St.sc {s:St}(h:s.ok)(k x:Int):(s.round k x).ok:=⟨mod_range _,h.1,h.2.1,h.2.2.1,mod_range _,h.2.2.2.2.1,h.2.2.2.2.2.1,h.2.2.2.2.2.2.1⟩
theorem St.rN (s t:St):(s.plus t).ok:=⟨mod_range _,mod_range _,mod_range _,mod_range _,mod_range _,mod_range _,mod_range _,mod_range _⟩
def jF:List Int:=[0x428a2f98,0x71374491,0xb5c0fbcf,0xe9b5dba5,0x3956c25b,0x59f111f1,0x923f82a4,0xab1c5ed5,0xd807aa98,0x12835b01,0x243185be,0x550c7dc3,0x72be5d74,0x80deb1fe,0x9bdc06a7,0xc19bf174,0xe49b69c1,0xefbe4786,0x0fc19dc6,0x240ca1cc,0x2de92c6f,0x4a7484aa,0x5cb0a9dc,0x76f988da,0x983e5152,0xa831c66d,0xb00327c8,0xbf597fc7,0xc6e00bf3,0xd5a79147,0x06ca6351,0x14292967,0x27b70a85,0x2e1b2138,0x4d2c6dfc,0x53380d13,0x650a7354,0x766a0abb,0x81c2c92e,0x92722c85,0xa2bfe8a1,0xa81a664b,0xc24b8b70,0xc76c51a3,0xd192e819,0xd6990624,0xf40e3585,0x106aa070,0x19a4c116,0x1e376c08,0x2748774c,0x34b0bcb5,0x391c0cb3,0x4ed8aa4a,0x5b9cca4f,0x682e6ff3,0x748f82ee,0x78a5636f,0x84c87814,0x8cc70208,0x90befffa,0xa4506ceb,0xbef9a3f7,0xc67178f2]
def rounds(s:St)(ws:List Int):Nat→St
 |0=>s
 |n+1=>(rounds s ws n).round (jF.getD n 0) (ws.getD n 0)
theorem j8{s:St}(h:s.ok)(ws:List Int)(n:Nat):(rounds s ws n).ok:=by
 induction n with
 |zero=>exact h
 |succ n ih=>exact St.sc ih _ _
def compress(s:St)(l:List Int):St:=s.plus (rounds s (sched l 64) 64)
def dN:St:=⟨0x6a09e667,0xbb67ae85,0x3c6ef372,0xa54ff53a,0x510e527f,0x9b05688c,0x1f83d9ab,0x5be0cd19⟩
theorem j9:dN.ok:=by unfold St.ok dN W32;decide
theorem sd:Words jF:=by unfold Words W32;decide
theorem qO:jF.length=64:=by decide
def bO(s:St)(l:List Int):Nat→St
 |0=>s
 |n+1=>compress (bO s l n) ((l.drop (64*n)).take 64)
theorem gF{s:St}(h:s.ok)(l:List Int)(n:Nat):(bO s l n).ok:=by
 cases n with
 |zero=>exact h
 |succ n=>exact St.rN _ _
theorem AR(s:St)(l:List Int)(q i:Nat):bO s l (q+i)=bO (bO s l q) (l.drop (64*q)) i:=by
 induction i with
 |zero=>rfl
 |succ i ih=>
  rw[←Nat.add_assoc,bO,bO,ih,List.drop_drop,show 64*(q+i)=64*q+64*i by omega]
theorem uq(s:St)(l r:List Int)(q:Nat)(h:64*q≤l.length):bO s (l++r) q=bO s l q:=by
 induction q with
 |zero=>rfl
 |succ q ih=>
  rw[bO,bO,ih (by omega),List.drop_append_of_le_length (by omega),List.take_append_of_le_length (by simp;omega)]
theorem qP(s:St)(l r:List Int)(i:Nat):
 bO (bO s l (l.length/64)) (l.drop (64*(l.length/64))++r) i=bO s (l++r) (l.length/64+i):=by
 rw[AR,uq s l r (l.length/64) (by omega),List.drop_append_of_le_length (by omega)]
def Row(w:World)(b off:Nat)(vs:List Value):Prop:=∀j v,vs[j]? =some v→w.cell? ⟨b,off+j,none⟩=some v∧w.frozen? ⟨b,off+j,none⟩=false
structure bU (S:Nat→Prop) (w w':World):Prop where
 os:w'.os=w.os
 tape:w'.tape=w.tape
 output:w'.output=w.output
 size:w.heap.size≤w'.heap.size
 block:∀k,k<w.heap.size→¬S k→w'.heap[k]? =w.heap[k]?
theorem bU.refl (S:Nat→Prop)(w:World):bU S w w:=⟨rfl,rfl,rfl,Nat.le_refl _,fun _ _ _=>rfl⟩
theorem bU.trans {S:Nat→Prop}{a b c:World}(h:bU S a b)(k:bU S b c):bU S a c:=
 ⟨k.os.trans h.os,k.tape.trans h.tape,k.output.trans h.output,Nat.le_trans h.size k.size,fun i hi hs=>(k.block i (Nat.lt_of_lt_of_le hi h.size) hs).trans (h.block i hi hs)⟩
theorem bU.mono {S T:Nat→Prop}{w w':World}(h:bU S w w')(hs:∀k,k<w.heap.size→S k→T k):bU T w w':=
 ⟨h.os,h.tape,h.output,h.size,fun k hk ht=>h.block k hk (fun hsk=>ht (hs k hk hsk))⟩
theorem Keeps.aG {w w':World}(h:Keeps w w')(S:Nat→Prop):bU S w w':=⟨h.os,h.tape,h.output,h.size,fun k hk _=>h.block k hk⟩
theorem bU.below {S:Nat→Prop}{w w':World}(h:bU S w w'){B:Nat}(hB:B≤w.heap.size)(hs:∀k,k<B→¬S k):Below B w w':=
 ⟨h.os,h.tape,h.output,h.size,fun k hk=>h.block k (Nat.lt_of_lt_of_le hk hB) (hs k hk)⟩
theorem bU.keeps {S:Nat→Prop}{w w':World}(h:bU S w w')(hs:∀k,k<w.heap.size→¬S k):Keeps w w':=h.below (Nat.le_refl _) hs
theorem bU.drewN {S:Nat→Prop}{a w:World}(h:bU S a w)(n:Nat):bU S a (w.drewN n):=h.trans ((Qt.drewN w n).keeps.aG S)
theorem bU.drew {S:Nat→Prop}{a w:World}(h:bU S a w):bU S a w.drew:=h.trans (Keeps.aG (Below.drew (Below.refl _ w)) S)
theorem bU.alloc {S:Nat→Prop}{a w:World}(h:bU S a w)(o:Obj):bU S a (w.alloc o):=h.trans (Keeps.aG (Below.alloc (Below.refl _ w) (Nat.le_refl _) o) S)
theorem bU.setCell {S:Nat→Prop}{a w:World}(h:bU S a w){p:Addr}(hp:a.heap.size≤p.block∨S p.block)(u:Value):bU S a (w.setCell p u):=
 ⟨h.os,h.tape,h.output,by simpa using h.size,fun k hk hs=>by
   have hne:k≠p.block:=by
    intro e
    subst e
    rcases hp with hp|hp
    · omega
    ·exact hs hp
   rw[heap_setCell_other w p k u hne]
   exact h.block k hk hs⟩
theorem Row.lt {w:World}{b off:Nat}{vs:List Value}(h:Row w b off vs)(hne:vs≠[]):b<w.heap.size:=by
 cases vs with
 |nil=>exact absurd rfl hne
 |cons v vs=>exact World.block_lt_of_cell? w _ (h 0 v rfl).1
theorem Row.of_block {w w':World}{b off:Nat}{vs:List Value}(h:Row w b off vs)(hb:w'.heap[b]? =w.heap[b]?):Row w' b off vs:=fun j v hv=>
 ⟨(World.cell?_of_block (w:=w) (a:=⟨b,off+j,none⟩) hb).trans (h j v hv).1,(World.frozen?_of_block (w:=w) (a:=⟨b,off+j,none⟩) hb).trans (h j v hv).2⟩
theorem Row.aG {S:Nat→Prop}{w w':World}{b off:Nat}{vs:List Value}(h:Row w b off vs)(hc:bU S w w')(hs:¬S b):Row w' b off vs:=by
 by_cases hne:vs=[]
 ·subst hne;intro j v hv;simp at hv
 ·exact h.of_block (hc.block b (h.lt hne) hs)
theorem Row.keeps {w w':World}{b off:Nat}{vs:List Value}(h:Row w b off vs)(hc:Keeps w w'):Row w' b off vs:=h.aG (hc.aG (fun _=>False)) (fun h=>h)
theorem Row.alloc {w:World}{b off:Nat}{vs:List Value}(h:Row w b off vs)(o:Obj):Row (w.alloc o) b off vs:=h.keeps ((Keeps.refl w).alloc (Nat.le_refl _) o)
theorem Row.drewN {w:World}{b off:Nat}{vs:List Value}(h:Row w b off vs)(n:Nat):Row (w.drewN n) b off vs:=h
theorem Row.drew {w:World}{b off:Nat}{vs:List Value}(h:Row w b off vs):Row w.drew b off vs:=h
theorem Row.other {w:World}{b off:Nat}{vs:List Value}(h:Row w b off vs){p:Addr}(hp:b≠p.block)(u:Value):Row (w.setCell p u) b off vs:=h.of_block (heap_setCell_other w p b u hp)
theorem Row.set {w:World}{b off:Nat}{vs:List Value}(h:Row w b off vs)(i:Nat)(hi:i<vs.length)(u:Value):Row (w.setCell ⟨b,off+i,none⟩ u) b off (vs.set i u):=fun j v hv=>by
 refine⟨?_,?_⟩
 · by_cases e:i=j
   ·subst e
    rw[List.getElem?_set_self hi]at hv
    cases hv
    exact World.cell?_setCell_same _ _ _ (h i vs[i] (by simp)).1
   ·rw[List.getElem?_set_ne e]at hv
    rw[World.cell?_setCell_other]
    ·exact(h j v hv).1
    ·intro e2
     have :=congrArg Addr.off e2
     simp at this;exact e this
 ·rw[World.frozen?_setCell]
  by_cases e:i=j
  ·subst e;exact(h i vs[i] (by simp)).2
  ·rw[List.getElem?_set_ne e]at hv;exact(h j v hv).2
theorem Row.new {w:World}(vs:List Value)(cs:Array Value)(T:TypeId)(e:cs=vs.toArray):Row (w.alloc (.cells cs T)) w.heap.size 0 vs:=fun j v hv=>by
 subst e
 rw[Nat.zero_add,World.cell?_alloc_at _ _ _ _ rfl,World.frozen?_alloc_at _ _ _ _ rfl]
 exact⟨by simpa using hv,rfl⟩
theorem Row.take {w:World}{b off:Nat}{vs:List Value}(h:Row w b off vs)(n:Nat):Row w b off (vs.take n):=fun j v hv=>h j v (by
 rw[List.getElem?_take]at hv;split at hv
 ·exact hv
 · cases hv)
theorem Row.drop {w:World}{b off:Nat}{vs:List Value}(h:Row w b off vs)(n:Nat):Row w b (off+n) (vs.drop n):=fun j v hv=>by
 rw[List.getElem?_drop]at hv
 rw[Nat.add_assoc];exact h _ _ hv
theorem Row.int {k:IntKind}{w:World}{b off:Nat}{zs:List Int}(h:Row w b off (zs.map (Value.int k)))(j:Nat)(hj:j<zs.length):w.cell? ⟨b,off+j,none⟩=some (.int k (zs.getD j 0)):=
 (h j _ (by simp[List.getD,hj])).1
theorem Row.aT {k:IntKind}{w:World}{b:Nat}{zs:List Int}(h:Row w b 0 (zs.map (Value.int k)))(j:Nat)(hj:j<zs.length):w.cell? ⟨b,j,none⟩=some (.int k (zs.getD j 0)):=by
 have :=h.int j hj;rwa[Nat.zero_add]at this
theorem Row.free {w:World}{b off:Nat}{vs:List Value}(h:Row w b off vs)(j:Nat)(hj:j<vs.length):w.frozen? ⟨b,off+j,none⟩=false:=(h j vs[j] (by simp)).2
theorem Row.bR {w:World}{b:Nat}{vs:List Value}(h:Row w b 0 vs)(j:Nat)(hj:j<vs.length):w.frozen? ⟨b,j,none⟩=false:=by
 have :=h.free j hj;rwa[Nat.zero_add]at this
theorem Row.bl {k:IntKind}{w:World}{b:Nat}{zs:List Int}(h:Row w b 0 (zs.map (Value.int k)))(i:Nat)(hi:i<zs.length)(u:Int):Row (w.setCell ⟨b,i,none⟩ (.int k u)) b 0 ((zs.set i u).map (Value.int k)):=by
 have :=h.set i (by simpa using hi) (.int k u)
 rw[Nat.zero_add]at this
 rwa[List.map_set]
theorem Row.setInt {k:IntKind}{w:World}{b off:Nat}{zs:List Int}(h:Row w b off (zs.map (Value.int k)))(i:Nat)(hi:i<zs.length)(u:Int):Row (w.setCell ⟨b,off+i,none⟩ (.int k u)) b off ((zs.set i u).map (Value.int k)):=by
 have :=h.set i (by simpa using hi) (.int k u)
 rwa[List.map_set]
def Beside(w w':World)(b o n:Nat):Prop:=∀j,(j<o∨o+n≤j)→w'.cell? ⟨b,j,none⟩=w.cell? ⟨b,j,none⟩∧w'.frozen? ⟨b,j,none⟩=w.frozen? ⟨b,j,none⟩
theorem Beside.of_block {w w':World}{b:Nat}(h:w'.heap[b]? =w.heap[b]?)(o n:Nat):Beside w w' b o n:=fun j _=>
 ⟨World.cell?_of_block (w:=w) (a:=⟨b,j,none⟩) h,World.frozen?_of_block (w:=w) (a:=⟨b,j,none⟩) h⟩
theorem Beside.keeps {w w':World}{b:Nat}(h:Keeps w w')(hb:b<w.heap.size)(o n:Nat):Beside w w' b o n:=Beside.of_block (h.block b hb) o n
theorem Beside.trans {a b c:World}{g o n:Nat}(h:Beside a b g o n)(k:Beside b c g o n):Beside a c g o n:=fun j hj=>
 ⟨(k j hj).1.trans (h j hj).1,(k j hj).2.trans (h j hj).2⟩
theorem Beside.setCell {w:World}{b o n i:Nat}(hi:i<n)(u:Value):Beside w (w.setCell ⟨b,o+i,none⟩ u) b o n:=fun j hj=>by
 refine⟨World.cell?_setCell_other _ _ _ _ ?_,World.frozen?_setCell _ _ _ _⟩
 intro e
 have :=congrArg Addr.off e
 simp at this;omega
theorem Row.patch {w w':World}{b base:Nat}{vs cs:List Value}(h:Row w b base vs)(i:Nat)(hc:Row w' b (base+i) cs)(hb:Beside w w' b (base+i) cs.length)(hl:i+cs.length≤vs.length):
 Row w' b base (vs.take i++cs++vs.drop (i+cs.length)):=fun j v hv=>by
 by_cases h1:j<i
 ·rw[List.append_assoc,List.getElem?_append_left (by simp;omega),List.getElem?_take,if_pos h1]at hv
  have e:=hb (base+j) (.inl (by omega))
  exact⟨e.1.trans (h j v hv).1,e.2.trans (h j v hv).2⟩
 · by_cases h2:j<i+cs.length
   ·rw[List.append_assoc,List.getElem?_append_right (by simp;omega),List.getElem?_append_left (by simp;omega)]at hv
    have :=hc (j -i) v (by simpa[Nat.min_eq_left (show i≤vs.length by omega)]using hv)
    rwa[show base+i+(j -i)=base+j by omega]at this
   ·rw[List.getElem?_append_right (by simp;omega),List.getElem?_drop]at hv
    have hv':vs[j]? =some v:=by
     rw[←hv];congr 1;simp;omega
    have e:=hb (base+j) (.inr (by omega))
    exact⟨e.1.trans (h j v hv').1,e.2.trans (h j v hv').2⟩
section
variable {P:Program}
theorem dq(w:World)(g off:Nat)(ty:TypeId)(cs:List Value)(d:TypeDesc)(hg:Row w g off cs)
 (hu:P.underlying ty=some d) (hd:(match d with | .struct _| .array _ _=>true|_=>false)=true) (hi:(P.info? ty).map (·.size)=some cs.length):
 (loadVar ty ⟨g,off,none⟩).run P w= .ok (.agg cs.toArray) w:=by
 have hl:(loadCells ⟨g,off,none⟩ cs.length).run P w= .ok cs.toArray w:=
  run_loadCells_list (P:=P) w ⟨g,off,none⟩ cs (fun j v hv=>by
   have hadd:(⟨g,off,none⟩:Addr).add j=⟨g,off+j,none⟩:=by unfold Addr.add;split<;>simp_all
   rw[hadd]
   exact(hg j v hv).1)
 cases hq:P.info? ty with
 |none=>simp[hq]at hi
 |some i=>
  have hs:i.size=cs.length:=by simpa[hq]using hi
  have hagg:(isAgg ty).run P w= .ok true w:=by
   unfold isAgg
   rw[Sem.run_bind,run_underlying hu w]
   cases d<;>simp_all
  simp[loadVar,Sem.run_bind,hagg,sizeOf,typeInfo,hq,hs,hl]
theorem aj{ops:Array Oper}{rest:List Oper}{o:Oper}{a:Act}{w:World}{Q:Exit→Act→World→Prop}(hgd:o.guard=none)(ty:TypeId)(x:Operand)(ho:o.op= .load ty x)
 (g off:Nat) (hx:a.eval x= .pointer (some ⟨g,off,none⟩)) (cs:List Value) (d:TypeDesc) (hg:Row w g off cs)
 (hu:P.underlying ty=some d) (hd:(match d with | .struct _| .array _ _=>true|_=>false)=true) (hi:(P.info? ty).map (·.size)=some cs.length)
 (h:wpList P ops Q rest (a.put o.dst (.agg cs.toArray)) w):wpList P ops Q (o::rest) a w:=
 wpList_plain hgd fun _ hK=>by
  unfold Oper.wp execOp
  simp only[ho,hx,Instr.loadAt,Instr.sureAddr,Sem.run_bind,Sem.run_pure,Result.andThen_ok,dq w g off ty cs d hg hu hd hi]
  exact hK _ _ h
theorem ar{fn:Func}{p:Tmp}{ty:TypeId}(h:fn.results= #[.cell p ty])(tmps:Array Value)(w:World)(g off:Nat)(cs:List Value)(d:TypeDesc)
 (hp:tmps.getD p undef= .pointer (some ⟨g,off,none⟩)) (hg:Row w g off cs)
 (hu:P.underlying ty=some d) (hd:(match d with | .struct _| .array _ _=>true|_=>false)=true) (hi:(P.info? ty).map (·.size)=some cs.length):
 (results fn tmps).run P w= .ok (.agg cs.toArray) w:=by
 have hp':tmps[p]?.getD undef= .pointer (some ⟨g,off,none⟩):=by simpa using hp
 simp[results,h,hp',asAddr,dq w g off ty cs d hg hu hd hi]
theorem dr(w:World)(T e:TypeId)(n:Nat)(k:IntKind)(zs:List Int)(i:Nat)(hu:P.underlying T=some (.array n e))(he:P.underlying e=some (.int k))(hs:(P.info? e).map (·.size)=some 1)(hl:zs.length=n)(hi:i<n):
 (Instr.index T (.agg (zs.map (Value.int k)).toArray) (.int .i64 (i:Int))).run P w= .ok (.int k (zs.getD i 0)) w:=by
 have hi':i<zs.length:=by omega
 have h1:(0:Int)≤(i:Int)∧(i:Int)<(n:Int):=by omega
 cases hq:P.info? e with
 |none=>simp[hq]at hs
 |some x=>
  have hx:x.size=1:=by simpa[hq]using hs
  simp[Instr.index,run_underlying hu,run_underlying he,asIntOf,h1,go_sem,part,isAgg,sizeOf,typeInfo,hq,hx,List.getD,hi']
  intro hni;omega
end
end Go.Proofs.YtlofddoojkeakaaGreatDoor
namespace Go.Proofs.YtlofddoojkeakaaGreatDoor
open Go
section
variable {P:Program} {ops:Array Oper} {md:Region.Mode} {C:World→Prop}
def m6(P:Program)(md:Region.Mode)(ops:Array Oper)(C:World→Prop)(n:Nat)(L:Array Bool→Act→Prop):Nat→Array Bool→Act→Prop
 |0,listed,a=>L listed a
 |f+1,listed,a=>
  Region.ready md ops listed≠[]∧∀i∈Region.ready md ops listed,i<n∧qOp P ops C i (m6 P md ops C n L f (listed.setIfInBounds i true)) a
theorem mj{n g:Nat}{L:Array Bool→Act→Prop}{Q':Exit→Act→World→Prop}(hL:∀listed a w,C w→L listed a→wpAny P md ops Q' g listed a w):
 ∀(f:Nat) (listed:Array Bool) (a:Act) (w:World),C w→m6 P md ops C n L f listed a→wpAny P md ops Q' (f+g) listed a w
 |0,listed,a,w,hw,h=>by rw[Nat.zero_add];exact hL _ _ _ hw h
 |f+1,listed,a,w,hw,h=>by
  rw[show f+1+g=(f+g)+1 by omega]
  exact⟨fun h0=>absurd h0 h.1,fun i hi=>wpOp_of_qOp hw (fun a' w' hw' h' =>mj hL f _ a' w' hw' h') (h.2 i hi).2⟩
theorem ur{n i:Nat}{oi:Oper}{v:Value}{L:Array Bool→Act→Prop}(hi:ops[i]? =some oi)(hsel:∀(j:Nat) (o:Oper) cs b,ops[j]? =some o→o.op≠ .select cs b)
 (hs:Region.sinkB md ops n=true) (hc:Region.chainB md ops n=true) (hn:n<ops.size) (hin:i<n)
 (hdone:∀listed a,L listed a→∀j∈Region.ready md ops listed,n≤j):
 ∀(f:Nat) (listed:Array Bool) (a:Act),HeadInv md ops n listed→
  (∀j oj,ops[j]? =some oj→j≠i→listed.getD j true=false→(∀e∈oj.after,Region.binds md e=true→e.on≠i)→oi.apart ops oj=true)→
  i∈Region.ready md ops listed→YieldsIn P ops C oi v a→
  m6 P md ops C n L f (listed.setIfInBounds i true) (a.put oi.dst v)→m6 P md ops C n L (f+1) listed a:=by
 intro f
 induction f with
 |zero=>
  intro listed a inv _ hr hy H
  have hun:=(mem_ready.1 hr).1
  refine⟨fun h=>(by rw[h]at hr;cases hr),fun j hj=> ?_⟩
  have hjn:j<n:=by
   rcases Nat.lt_or_ge j n with h|h
   ·exact h
   ·exact absurd hj (tail_waits hs hc hn inv _ i rfl hin hun j h)
  refine⟨hjn,?_⟩
  by_cases hji:j=i
  ·subst hji;exact hy.qOp hi H
  · have :=hdone _ _ H j (ready_mono hj hji)
    omega
 |succ f ih=>
  intro listed a inv hfree hr hy H
  have hun:=(mem_ready.1 hr).1
  refine⟨fun h=>(by rw[h]at hr;cases hr),fun j hj=> ?_⟩
  have hjn:j<n:=by
   rcases Nat.lt_or_ge j n with h|h
   ·exact h
   ·exact absurd hj (tail_waits hs hc hn inv _ i rfl hin hun j h)
  refine⟨hjn,?_⟩
  by_cases hji:j=i
  ·subst hji;exact hy.qOp hi H
  · have h1:=(H.2 j (ready_mono hj hji)).2
    obtain⟨hjun,oj,hoj,hall⟩:=mem_ready.1 hj
    have hnot:∀e∈oj.after,Region.binds md e=true→e.on≠i:=fun e he hb heq=>by
     have h1:=hall e he hb
     rw[heq,getD_both hun]at h1
     cases h1
    have h2:=qOp_put hoj (hfree j oj hoj hji hjun hnot) (fun cs b=>hsel i oi cs b hi) (fun cs b=>hsel j oj cs b hoj) hy h1
    have hfree':∀k ok,ops[k]? =some ok→k≠i→(listed.setIfInBounds j true).getD k true=false→
     (∀e∈ok.after,Region.binds md e=true→e.on≠i)→oi.apart ops ok=true:=fun k ok hk hki hun hno=>by
     refine hfree k ok hk hki ?_ hno
     by_cases hjk:j=k
     ·subst hjk;exact hjun
     ·rw[getD_set_ne true hjk]at hun;exact hun
    refine qOp_mono (fun a' h3=>ih (listed.setIfInBounds j true) a' (inv.set hj hjn) hfree' (ready_mono hr (Ne.symm hji)) h3.1 ?_) h2
    rw[Array.setIfInBounds_comm _ _ hji]
    exact h3.2
theorem mm{n g:Nat}{Lq:Act→Prop}(hsel:Region.noSelect ops=true)(hs:Region.sinkB md ops n=true)(hc:Region.chainB md ops n=true)(hn:n<ops.size):
 ∀(l:List Oper) (k:Nat) (listed:Array Bool) (a:Act),(∀j,j<l.length→l[j]? =ops[k+j]?)→k+l.length=n→HeadInv md ops n listed→
 Region.lexHead md ops g l.length k listed=true→wpQuiet P ops C Lq l a→
 m6 P md ops C n (fun listed' a' =>Region.seqB md ops g n listed' =true∧Lq a') l.length listed a
 |[],k,listed,a,_,hk,_,hB,h=>by
  have :k=n:=by simpa using hk
  subst this
  exact⟨by simpa[Region.lexHead]using hB,h⟩
 |o::l,k,listed,a,hl,hk,inv,hB,h=>by
  have h0:ops[k]? =some o:=by simpa using(hl 0 (by simp)).symm
  simp only[List.length_cons,Region.lexHead,Bool.and_eq_true]at hB
  obtain⟨⟨hr,hf⟩,hB'⟩:=hB
  have hkn:k<n:=by simp only[List.length_cons]at hk;omega
  have hr':k∈Region.ready md ops listed:=by simpa using hr
  have hst:qOp P ops C k (wpQuiet P ops C Lq l) a:=by unfold qOp;simp only[h0];exact h
  obtain⟨v,hy,hK⟩:=yieldsIn_of_qOp h0 hst
  exact ur h0 (Region.noSelect_spec hsel) hs hc hn hkn (fun listed' a' hL=>seqB_ready hL.1) l.length listed a inv (Region.free_spec h0 hf) hr' hy
   (mm hsel hs hc hn l (k+1) _ _ (fun j hj=>by have :=hl (j+1) (by simp;omega);simpa[Nat.add_assoc,Nat.add_comm 1 j]using this) (by simp only[List.length_cons]at hk;omega) (inv.set hr' hkn) hB' hK)
theorem aB{id:Nat}{Q:Exit→Act→World→Prop}{a:Act}{w:World}{l:List Oper}(n:Nat)(hm:P.follows .mixedOrders=true)(hB:Region.lexTailB .any l.toArray n=true)
 (h:wpQuiet P l.toArray (fun w' =>∃m,w' =w.drewN m) (fun a' =>∀w',(∃m,w' =w.drewN m)→wpList P l.toArray Q (l.drop n) a' w') (l.take n) a):(Code.region id l.toArray true).wp P Q a w:=by
 simp only[Region.lexTailB,Bool.and_eq_true,decide_eq_true_eq]at hB
 obtain⟨⟨⟨⟨hsel,hn⟩,hs⟩,hc⟩,hlex⟩:=hB
 have hn':n<l.length:=by simpa using hn
 have htl:(l.take n).length=n:=by simp;omega
 have hdl:(l.drop n).length=l.toArray.size -n:=by simp
 have inv0:HeadInv .any l.toArray n (Array.replicate l.toArray.size false):=
  ⟨by simp,fun j oj _ hl=>(by rw[getD_replicate_false]at hl;cases hl),fun t _ ht=>getD_in (by simpa using ht) (getD_replicate_false _ _)⟩
 have H:=mm (md:= .any) (g:=l.toArray.size -n) hsel hs hc hn (l.take n) 0 _ a (fun j hj=>by
  have hj':j<n:=by rw[htl]at hj;exact hj
  simp[hj']) (by simpa using htl) inv0 (by rw[htl];exact hlex) h
 refine wp_region_any hm ?_
 have :=mj (Q':=Q) (g:=l.toArray.size -n) (fun listed a' w' hw' hL=>by
  have :=wpAny_of_seq (md:= .any) (Q':=Q) (l.drop n) n listed a' w' (fun j=>by simp[List.getElem?_drop]) (by rw[hdl];exact hL.1) (hL.2 w' hw')
  rwa[hdl]at this) _ _ _ {w with drawn:=w.drawn+1} ⟨1,rfl⟩ H
 rw[htl,show n+(l.toArray.size -n)=l.toArray.size by omega]at this
 exact this
end
end Go.Proofs.YtlofddoojkeakaaGreatDoor
