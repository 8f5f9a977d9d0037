/- Rotations of 64 bits: what bits.RotateLeft64, hash.right64 and the reference's rot64 hand back. The count is between 1 and 63.. -/
import Derived.Test.YtlofddoojkeakaaGreatDoorProg
import Derived.Test.YtlofddoojkeakaaGreatDoorGA0
import Derived.Laws.Bits64
import Derived.Test.YtlofddoojkeakaaGreatDoorGC8
import Derived.Laws.BitsAllLaws
import Derived.Laws.BitsLemmas
import Derived.Laws.CopyOwn
import Derived.Deep.Cut
set_option maxRecDepth 100000
set_option maxHeartbeats 2000000
set_option linter.unusedVariables false
set_option linter.unusedSimpArgs false
namespace Go.Proofs.YtlofddoojkeakaaGreatDoor.pD
open Go Go.RowKit
def vO(x:Int):Prop:=0≤x∧x<18446744073709551616
def lE(x:Int)(n:Nat):Int:=bits .or .u64 (x*2^(64 -n)%18446744073709551616) (x/2^n)
theorem tw(op:BinOp)(a b:Int):vO (bits op .u64 a b):=by
 unfold bits
 split<;>simp only[IntKind.wrap_u64]<;>exact⟨by omega,by omega⟩
theorem tz(a b:Int):bits .or .u64 a b=bits .or .u64 b a:=by
 simp[bits,BitVec.or_comm]
theorem p8(x:Int)(n:Nat):vO (lE x n):=tw _ _ _
theorem wk(n:Nat)(h1:1≤n)(h2:n≤63):bits .and .u64 (IntKind.u64.wrap (-(n:Int))) 63=((64 -n:Nat):Int):=by
 have h:=(by decide+kernel:∀m:Fin 64,1≤m.val→bits .and .u64 (IntKind.u64.wrap (-(m.val:Int))) 63=((64 -m.val:Nat):Int)) ⟨n,by omega⟩ h1
 exact h
theorem r9(x:Int)(n:Nat)(h1:1≤n)(h2:n≤63)(hx:vO x)(w:World):Calls Tryz.prog 134 #[.int .u64 x,.int .i64 (-(n:Int))] w fun e w' =>e= .returned (.int .u64 (lE x n))∧w=w':=by
 obtain⟨h3,h4⟩:=hx
 have hb:=wk n h1 h2
 generalize hm:bits .and .u64 (IntKind.u64.wrap (-(n:Int))) 63=m at *
 subst hb
 have e1:64 -(64 -n)=n:=by omega
 have HM:=ae e1;clear e1
 have hm1:1≤64 -n:=by omega
 have hm2:64 -n≤63:=by omega
 have hr:lE x n=bits .or .u64 (x*2^(64 -n)%18446744073709551616) (x/2^(64 -(64 -n))):=by rw[HM.o];rfl
 have HR:=ae hr;clear hr
 generalize 64 -n=k at *
 go_enter Tryz.func134,Tryz.ntmps134
 go_wp2
 go_ret
 exact⟨oK HR.o.symm,rfl⟩
theorem a8(x n:Int)(h1:1≤n)(h2:n≤63)(hx:vO x)(w:World):Calls Tryz.prog 113 #[.int .u64 x,.int .i64 n] w fun e w' =>e= .returned (.int .u64 (lE x n.toNat))∧w=w':=by
 obtain⟨n,rfl⟩:=Int.eq_ofNat_of_zero_le (show 0≤n by omega)
 go_enter Tryz.func113,Tryz.ntmps113
 go_wp2_with (go_at_call 134;refine(r9 _ _ (by omega) (by omega) hx _).mono ?_;rintro e w' ⟨rfl,rfl⟩)
 go_ret
 exact⟨rfl,rfl⟩
theorem bZ(x m:Int)(h1:1≤m)(h2:m≤63)(hx:vO x)(w:World):Calls Tryz.prog 97 #[.int .u64 x,.int .i64 m] w fun e w' =>e= .returned (.int .u64 (lE x m.toNat))∧w=w':=by
 have hR:=p8 x m.toNat
 obtain⟨h3,h4⟩:=hx
 obtain⟨m,rfl⟩:=Int.eq_ofNat_of_zero_le (show 0≤m by omega)
 have hr:lE x m=bits .or .u64 (x/2^m) (x*2^(64 -m)%18446744073709551616):=by
  unfold lE
  exact tz _ _
 have HR:=ae hr;clear hr hR
 go_enter Tryz.func97,Tryz.ntmps97
 go_wp2
 go_ret
 exact⟨oK HR.o.symm,rfl⟩
def Words(l:List Int):Prop:=∀x∈l,vO x
theorem Words.getD {l:List Int}(h:Words l)(j:Nat):vO (l.getD j 0):=by
 by_cases hj:j<l.length
 · have :l.getD j 0=l[j]:=by simp[hj]
   rw[this];exact h _ (List.getElem_mem hj)
 · have :l.getD j 0=0:=by simp[List.getD,List.getElem?_eq_none (by omega:l.length≤j)]
   rw[this];exact⟨by omega,by omega⟩
theorem mod_range(x:Int):vO (x%18446744073709551616):=⟨by omega,by omega⟩
def dy(l:List Int)(t:Nat):Nat→Int
 |0=>0
 |i+1=>(dy l t i*256+l.getD (8*t+i) 0)%18446744073709551616
theorem iL(l:List Int)(t i:Nat):vO (dy l t i):=by
 cases i with
 |zero=>exact⟨by simp[dy],by simp[dy]⟩
 |succ i=>exact⟨by simp only[dy];omega,by simp only[dy];omega⟩
def word(l:List Int)(t:Nat):Int:=dy l t 8
def me(x:Int):Int:=bits .xor .u64 (bits .xor .u64 (lE x 1) (lE x 8)) (x/128)
def mf(x:Int):Int:=bits .xor .u64 (bits .xor .u64 (lE x 19) (lE x 61)) (x/64)
def j5(ws:List Int)(n:Nat):Int:=(ws.getD (n -16) 0+ws.getD (n -7) 0+me (ws.getD (n -15) 0)+mf (ws.getD (n -2) 0))%18446744073709551616
def sched(l:List Int):Nat→List Int
 |0=>[]
 |n+1=>sched l n++[if n<16 then word l n else j5 (sched l n) n]
theorem bT(l:List Int)(n:Nat):(sched l n).length=n:=by
 induction n with
 |zero=>rfl
 |succ n ih=>simp[sched,ih]
theorem bJ(l:List Int)(n:Nat):Words (sched l n):=by
 induction n with
 |zero=>intro x hx;simp[sched]at hx
 |succ n ih=>
  intro x hx
  simp only[sched,List.mem_append,List.mem_singleton]at hx
  rcases hx with hx|rfl
  ·exact ih x hx
  · split
    ·exact iL _ _ _
    ·exact mod_range _
def dZ(l:List Int)(n:Nat):List Int:=sched l n++List.replicate (80 -n) 0
theorem aS(l:List Int)(n:Nat)(h:n≤80):(dZ l n).length=80:=by simp[dZ,bT];omega
theorem j6(l:List Int)(n j:Nat)(h:j<n):(dZ l n).getD j 0=(sched l n).getD j 0:=by
 simp[dZ,List.getD,List.getElem?_append_left,bT,h]
theorem mg(l:List Int)(n:Nat)(h:n<80)(x:Int)(hx:x=if n<16 then word l n else j5 (sched l n) n):(dZ l n).set n x=dZ l (n+1):=by
 subst hx
 unfold dZ
 rw[List.set_append_right _ _ (by rw[bT];omega)]
 simp only[bT,Nat.sub_self]
 rw[show 80 -n=(80 -(n+1))+1 by omega,List.replicate_succ,List.set_cons_zero]
 rw[sched]
 simp
theorem j7(l:List Int):dZ l 80=sched l 80:=by simp[dZ]
def mh(e:Int):Int:=bits .xor .u64 (bits .xor .u64 (lE e 14) (lE e 18)) (lE e 41)
def sb(a:Int):Int:=bits .xor .u64 (bits .xor .u64 (lE a 28) (lE a 34)) (lE a 39)
def Fn(e f g:Int):Int:=bits .xor .u64 (bits .and .u64 e f) (bits .and .u64 (bits .xor .u64 IntKind.u64.max e) g)
def AO(a b c:Int):Int:=bits .xor .u64 (bits .xor .u64 (bits .and .u64 a b) (bits .and .u64 a c)) (bits .and .u64 b c)
structure St where
 (a b c d e f g h:Int)
def St.list (s:St):List Int:=[s.a,s.b,s.c,s.d,s.e,s.f,s.g,s.h]
def St.ok (s:St):Prop:=vO s.a∧vO s.b∧vO s.c∧vO s.d∧vO s.e∧vO s.f∧vO s.g∧vO s.h
def qa(s:St)(k x:Int):Int:=(s.h+mh s.e+Fn s.e s.f s.g+k+x)%18446744073709551616
def AQ(s:St):Int:=(sb s.a+AO s.a s.b s.c)%18446744073709551616
def St.round (s:St)(k x:Int):St:=⟨(qa s k x+AQ s)%18446744073709551616,s.a,s.b,s.c,(s.d+qa s k x)%18446744073709551616,s.e,s.f,s.g⟩
def St.plus (s t:St):St:=⟨(s.a+t.a)%18446744073709551616,(s.b+t.b)%18446744073709551616,(s.c+t.c)%18446744073709551616,(s.d+t.d)%18446744073709551616,(s.e+t.e)%18446744073709551616,(s.f+t.f)%18446744073709551616,(s.g+t.g)%18446744073709551616,(s.h+t.h)%18446744073709551616⟩
theorem St.sc {s:St}(h:s.ok)(k x:Int):(s.round k x).ok:=⟨mod_range _,h.1,h.2.1,h.2.2.1,mod_range _,h.2.2.2.2.1,h.2.2.2.2.2.1,h.2.2.2.2.2.2.1⟩
theorem St.rN (s t:St):(s.plus t).ok:=⟨mod_range _,mod_range _,mod_range _,mod_range _,mod_range _,mod_range _,mod_range _,mod_range _⟩
def jG:List Int:=[0x428a2f98d728ae22,0x7137449123ef65cd,0xb5c0fbcfec4d3b2f,0xe9b5dba58189dbbc,0x3956c25bf348b538,0x59f111f1b605d019,0x923f82a4af194f9b,0xab1c5ed5da6d8118,0xd807aa98a3030242,0x12835b0145706fbe,0x243185be4ee4b28c,0x550c7dc3d5ffb4e2,0x72be5d74f27b896f,0x80deb1fe3b1696b1,0x9bdc06a725c71235,0xc19bf174cf692694,0xe49b69c19ef14ad2,0xefbe4786384f25e3,0x0fc19dc68b8cd5b5,0x240ca1cc77ac9c65,0x2de92c6f592b0275,0x4a7484aa6ea6e483,0x5cb0a9dcbd41fbd4,0x76f988da831153b5,0x983e5152ee66dfab,0xa831c66d2db43210,0xb00327c898fb213f,0xbf597fc7beef0ee4,0xc6e00bf33da88fc2,0xd5a79147930aa725,0x06ca6351e003826f,0x142929670a0e6e70,0x27b70a8546d22ffc,0x2e1b21385c26c926,0x4d2c6dfc5ac42aed,0x53380d139d95b3df,0x650a73548baf63de,0x766a0abb3c77b2a8,0x81c2c92e47edaee6,0x92722c851482353b,0xa2bfe8a14cf10364,0xa81a664bbc423001,0xc24b8b70d0f89791,0xc76c51a30654be30,0xd192e819d6ef5218,0xd69906245565a910,0xf40e35855771202a,0x106aa07032bbd1b8,0x19a4c116b8d2d0c8,0x1e376c085141ab53,0x2748774cdf8eeb99,0x34b0bcb5e19b48a8,0x391c0cb3c5c95a63,0x4ed8aa4ae3418acb,0x5b9cca4f7763e373,0x682e6ff3d6b2b8a3,0x748f82ee5defb2fc,0x78a5636f43172f60,0x84c87814a1f0ab72,0x8cc702081a6439ec,0x90befffa23631e28,0xa4506cebde82bde9,0xbef9a3f7b2c67915,0xc67178f2e372532b,0xca273eceea26619c,0xd186b8c721c0c207,0xeada7dd6cde0eb1e,0xf57d4f7fee6ed178,0x06f067aa72176fba,0x0a637dc5a2c898a6,0x113f9804bef90dae,0x1b710b35131c471b,0x28db77f523047d84,0x32caab7b40c72493,0x3c9ebe0a15c9bebc,0x431d67c49c100d4c,0x4cc5d4becb3e42b6,0x597f299cfc657e2a,0x5fcb6fab3ad6faec,0x6c44198c4a475817]
def rounds(s:St)(ws:List Int):Nat→St
 |0=>s
 |n+1=>(rounds s ws n).round (jG.getD n 0) (ws.getD n 0)
theorem j8{s:St}(h:s.ok)(ws:List Int)(n:Nat):(rounds s ws n).ok:=by
 induction n with
 |zero=>exact h
 |succ n ih=>exact St.sc ih _ _
def compress(s:St)(l:List Int):St:=s.plus (rounds s (sched l 80) 80)
def gj:St:=⟨0x6a09e667f3bcc908,0xbb67ae8584caa73b,0x3c6ef372fe94f82b,0xa54ff53a5f1d36f1,0x510e527fade682d1,0x9b05688c2b3e6c1f,0x1f83d9abfb41bd6b,0x5be0cd19137e2179⟩
theorem pE:gj.ok:=by unfold St.ok gj vO;decide
theorem tA:Words jG:=by unfold Words vO;decide
theorem rD:jG.length=80:=by decide
def fQ(s:St)(l:List Int):Nat→St
 |0=>s
 |n+1=>compress (fQ s l n) ((l.drop (128*n)).take 128)
theorem qx{s:St}(h:s.ok)(l:List Int)(n:Nat):(fQ s l n).ok:=by
 cases n with
 |zero=>exact h
 |succ n=>exact St.rN _ _
end Go.Proofs.YtlofddoojkeakaaGreatDoor.pD
namespace Go.Proofs.YtlofddoojkeakaaGreatDoor
open Go Go.RowKit
theorem Es(n:Int)(h₀:0≤n)(h₁:n<2^32):IntKind.u32.wrap n=n:=by rw[IntKind.wrap_u32];omega
theorem kH(i:Nat)(x y:Int)(hx₀:0≤x)(hx:x%2^i=0)(hx₁:x<2^32)(hy₀:0≤y)(hy:y<2^i)(hy₁:y<2^32):bits .or .u32 x y=x+y:=
 bits_join .u32 32 (by decide) Es i x y hx₀ hx hx₁ hy₀ hy hy₁
theorem Ij{l:List Int}(h:Bytes l)(i:Nat):word l i=l.getD (4*i) 0*16777216+l.getD (4*i+1) 0*65536+l.getD (4*i+2) 0*256+l.getD (4*i+3) 0:=by
 unfold word
 obtain⟨a0,a1⟩:=h.getD (4*i)
 obtain⟨b0,b1⟩:=h.getD (4*i+1)
 obtain⟨c0,c1⟩:=h.getD (4*i+2)
 obtain⟨d0,d1⟩:=h.getD (4*i+3)
 generalize l.getD (4*i) 0=a at *
 generalize l.getD (4*i+1) 0=b at *
 generalize l.getD (4*i+2) 0=c at *
 generalize l.getD (4*i+3) 0=d at *
 rw[kH 24 (a*16777216) (b*65536) (by omega) (by omega) (by omega) (by omega) (by omega) (by omega)]
 rw[kH 16 (a*16777216+b*65536) (c*256) (by omega) (by omega) (by omega) (by omega) (by omega) (by omega)]
 rw[kH 8 (a*16777216+b*65536+c*256) d (by omega) (by omega) (by omega) (by omega) (by omega) (by omega)]
def dy(l:List Int)(t:Nat):Nat→Int
 |0=>0
 |i+1=>(dy l t i*256+l.getD (4*t+i) 0)%4294967296
theorem BM{l:List Int}(h:Bytes l)(t:Nat):dy l t 4=word l t:=by
 rw[Ij h]
 simp only[dy,Nat.add_zero]
 obtain⟨a0,a1⟩:=h.getD (4*t)
 obtain⟨b0,b1⟩:=h.getD (4*t+1)
 obtain⟨c0,c1⟩:=h.getD (4*t+2)
 obtain⟨d0,d1⟩:=h.getD (4*t+3)
 omega
theorem iL(l:List Int)(t i:Nat):W32 (dy l t i):=by
 cases i with
 |zero=>exact⟨by simp[dy],by simp[dy]⟩
 |succ i=>exact⟨by simp only[dy];omega,by simp only[dy];omega⟩
def iM(l:List Int)(t i:Nat):List Int:=(dZ l t).set t (dy l t i)
theorem nt(l:List Int)(t:Nat)(ht:t<64):iM l t 0=dZ l t:=by
 unfold iM dZ
 rw[List.set_append_right _ _ (by rw[bT];omega)]
 simp only[bT,Nat.sub_self]
 rw[show 64 -t=(63 -t)+1 by omega,List.replicate_succ]
 rfl
theorem pF(l:List Int)(t i:Nat):(iM l t i).set t (dy l t (i+1))=iM l t (i+1):=by
 unfold iM;rw[List.set_set]
theorem nu{l:List Int}(h:Bytes l)(t:Nat)(ht:t<16):iM l t 4=dZ l (t+1):=by
 unfold iM
 exact mg l t (by omega) _ (by rw[if_pos ht,BM h])
theorem dV(l:List Int)(t i:Nat)(h:t≤64):(iM l t i).length=64:=by unfold iM;rw[List.length_set,aS _ _ h]
theorem ny(l:List Int)(t i:Nat)(h:t<64):(iM l t i).getD t 0=dy l t i:=by
 unfold iM
 have :t<(dZ l t).length:=by rw[aS _ _ (by omega)];exact h
 simp[List.getD,this]
theorem kI(s:St)(i:Nat)(hi:i<32):(dI s.list).getD i 0=s.list.getD (i/4) 0/2^(24 -8*(i%4))%256:=by
 have :∀x:Int,x%256=x/1%256:=fun x=>by rw[Int.ediv_one]
 obtain⟨a,b,c,d,e,f,g,h⟩:=s
 simp only[dI,St.list]
 rcases i with _|_|_|_|_|_|_|_|_|_|_|_|_|_|_|_|_|_|_|_|_|_|_|_|_|_|_|_|_|_|_|_|i
 all_goals first |rfl|exact this _|omega
theorem bq(s:St):(dI s.list).length=32:=rfl
def ei(s:St)(i:Nat):List Int:=(dI s.list).take i++List.replicate (32 -i) 0
theorem kJ(s:St):ei s 0=List.replicate 32 0:=rfl
theorem ix(s:St):ei s 32=dI s.list:=by
 unfold ei
 rw[List.take_of_length_le (by rw[bq];omega)];simp
theorem cM(s:St)(i:Nat)(h:i≤32):(ei s i).length=32:=by simp[ei,bq];omega
theorem gl(s:St)(i:Nat)(h:i<32):(ei s i).set i (s.list.getD (i/4) 0/2^(24 -8*(i%4))%256)=ei s (i+1):=by
 rw[←kI s i h]
 unfold ei
 rw[List.set_append_right _ _ (by simp[bq];omega)]
 have e:i -((dI s.list).take i).length=0:=by simp[bq];omega
 rw[e,show 32 -i=(32 -(i+1))+1 by omega,List.replicate_succ,List.set_cons_zero]
 have hl:i<(dI s.list).length:=by rw[bq];exact h
 rw[List.take_succ_eq_append_getElem hl,List.append_assoc]
 simp[List.getD,hl]
end Go.Proofs.YtlofddoojkeakaaGreatDoor
namespace Go.Proofs.YtlofddoojkeakaaGreatDoor.pD
open Go Go.RowKit
theorem ke{w:World}{b:Nat}{l:List Int}{i:Nat}(h:Row w b 0 ((dZ l i).map (Value.int .u64)))(hi:i<80)(x:Int)(hx:x=if i<16 then word l i else j5 (sched l i) i):
 Row (w.setCell ⟨b,i,none⟩ (.int .u64 x)) b 0 ((dZ l (i+1)).map (Value.int .u64)):=by
 have :=h.bl i (by rw[aS _ _ (by omega)];exact hi) x
 rwa[mg l i hi x hx]at this
theorem oL:(Tryz.prog.info? 127).map (·.size)=some 8:=by kernel_rfl
theorem se:(Tryz.prog.info? 128).map (·.size)=some 80:=by kernel_rfl
def VB(w:World)(b:Nat)(T:TypeId)(s:St):Prop:=w.heap[b]? =some (.cells #[.int .u64 s.a,.int .u64 s.b,.int .u64 s.c,.int .u64 s.d,.int .u64 s.e,.int .u64 s.f,.int .u64 s.g,.int .u64 s.h] T (0,0))
theorem VB.cells {w:World}{b:Nat}{T:TypeId}{s:St}(h:VB w b T s):w.cell? ⟨b,0,none⟩=some (.int .u64 s.a)∧w.cell? ⟨b,1,none⟩=some (.int .u64 s.b)∧w.cell? ⟨b,2,none⟩=some (.int .u64 s.c)∧w.cell? ⟨b,3,none⟩=some (.int .u64 s.d)
 ∧w.cell? ⟨b,4,none⟩=some (.int .u64 s.e)∧w.cell? ⟨b,5,none⟩=some (.int .u64 s.f)∧w.cell? ⟨b,6,none⟩=some (.int .u64 s.g)∧w.cell? ⟨b,7,none⟩=some (.int .u64 s.h):=by
 unfold VB at h
 simp[World.cell?,h]
theorem Et{w:World}{b o:Nat}{s:St}(h:Row w b o (s.list.map (Value.int .u64))):w.cell? ⟨b,o,none⟩=some (.int .u64 s.a)∧w.cell? ⟨b,o+1,none⟩=some (.int .u64 s.b)∧w.cell? ⟨b,o+2,none⟩=some (.int .u64 s.c)∧w.cell? ⟨b,o+3,none⟩=some (.int .u64 s.d)
 ∧w.cell? ⟨b,o+4,none⟩=some (.int .u64 s.e)∧w.cell? ⟨b,o+5,none⟩=some (.int .u64 s.f)∧w.cell? ⟨b,o+6,none⟩=some (.int .u64 s.g)∧w.cell? ⟨b,o+7,none⟩=some (.int .u64 s.h):=
 ⟨h.int 0 (by simp[St.list]),h.int 1 (by simp[St.list]),h.int 2 (by simp[St.list]),h.int 3 (by simp[St.list]),h.int 4 (by simp[St.list]),h.int 5 (by simp[St.list]),h.int 6 (by simp[St.list]),h.int 7 (by simp[St.list])⟩
theorem BN:(Tryz.prog.info? 85).map (·.size)=some 1:=by kernel_rfl
theorem VB.src {w:World}{b:Nat}{T:TypeId}{s:St}(h:VB w b T s):∀(j:Nat) (v:Value),([.int .u64 s.a,.int .u64 s.b,.int .u64 s.c,.int .u64 s.d,.int .u64 s.e,.int .u64 s.f,.int .u64 s.g]:List Value)[j]? =some v→w.cell? ((⟨b,0,none⟩:Addr).add j)=some v:=by
 obtain⟨h0,h1,h2,h3,h4,h5,h6,h7⟩:=h.cells
 intro j v hv
 have hadd:(⟨b,0,none⟩:Addr).add j=⟨b,j,none⟩:=by unfold Addr.add;split<;>simp_all
 rw[hadd]
 rcases j with _|_|_|_|_|_|_|j<;>simp at hv<;>subst hv<;>assumption
def shifted(s:St):Array Value:= #[.int .u64 s.a,.int .u64 s.a,.int .u64 s.b,.int .u64 s.c,.int .u64 s.d,.int .u64 s.e,.int .u64 s.f,.int .u64 s.g]
theorem nW{w:World}{ops:Array Oper}{rest:List Oper}{o:Oper}{a:Act}{Q:Exit→Act→World→Prop}(hgd:o.guard=none)(d sr:Operand)
 (ho:o.op= .call {callee:= .builtin .copy,args:= #[d,sr],argTypes:= #[181,181]}) (g:Nat) (c1 c2:Nat)
 (hd:a.eval d= .slice (some ⟨g,1,none⟩) 7 c1) (hs:a.eval sr= .slice (some ⟨g,0,none⟩) 7 c2) (T:TypeId) (s:St) (hv:VB w g T s)
 (h:∀w',w'.heap[g]? =some (.cells (shifted s) T (0,0))→bU (· =g) w w'→wpList Tryz.prog ops Q rest (a.put o.dst (.int .i64 7)) w'):wpList Tryz.prog ops Q (o::rest) a w:=by
 refine wpList_copy_own hgd d sr _ _ ho 85 Tryz.underlying181 BN g 1 7 c1 ⟨g,0,none⟩ 7 c2 hd hs _ T hv _ rfl hv.src (by simp) ?_ ?_
 ·intro v hv;simp at hv;rcases hv with rfl|rfl|rfl|rfl|rfl|rfl|rfl<;>rfl
 ·refine h _ ?_ ⟨rfl,rfl,rfl,by simp[World.setRow],fun k _ hk=>setRow_other _ _ _ _ hk⟩
  rw[setRow_heap _ _ _ _ _ _ hv]
  simp[shifted]
theorem jT{w:World}{g:Nat}{T:TypeId}{s:St}(h:w.heap[g]? =some (.cells (shifted s) T (0,0))):
 w.cell? ⟨g,4,none⟩=some (.int .u64 s.d)∧w.cell? ⟨g,0,none⟩=some (.int .u64 s.a)∧w.frozen? ⟨g,4,none⟩=false∧w.frozen? ⟨g,0,none⟩=false:=by
 simp[World.cell?,World.frozen?,h,shifted]
theorem sf{w:World}{g:Nat}{T:TypeId}{s:St}(h:w.heap[g]? =some (.cells (shifted s) T (0,0)))(x y:Int):
 VB ((w.setCell ⟨g,4,none⟩ (.int .u64 x)).setCell ⟨g,0,none⟩ (.int .u64 y)) g T ⟨y,s.a,s.b,s.c,x,s.e,s.f,s.g⟩:=by
 unfold VB
 rw[heap_setCell_same _ _ _ _ _ _ (heap_setCell_same _ _ _ _ _ _ h)]
 simp[shifted]
theorem VB.row {w:World}{b:Nat}{T:TypeId}{s:St}(h:VB w b T s):Row w b 0 (s.list.map (Value.int .u64)):=fun j v hv=>by
 rw[Nat.zero_add]
 refine⟨?_,frozen_of_row _ _ _ _ _ h⟩
 rw[cell_of_row _ _ _ _ _ _ h]
 simpa[St.list]using hv
def iQ(s t:St)(i:Nat):List Int:=(s.plus t).list.take i++s.list.drop i
theorem dQ(s:St):s.list.length=8:=rfl
theorem dH(s t:St)(i:Nat)(h:i≤8):(iQ s t i).length=8:=by simp[iQ,dQ];omega
theorem kf(s t:St)(i:Nat)(h:i<8):(iQ s t i).getD i 0=s.list.getD i 0:=by
 have :i=0∨i=1∨i=2∨i=3∨i=4∨i=5∨i=6∨i=7:=by omega
 rcases this with rfl|rfl|rfl|rfl|rfl|rfl|rfl|rfl<;>rfl
theorem sg(s t:St)(i:Nat)(h:i<8):(iQ s t i).set i ((s.list.getD i 0+t.list.getD i 0)%18446744073709551616)=iQ s t (i+1):=by
 have :i=0∨i=1∨i=2∨i=3∨i=4∨i=5∨i=6∨i=7:=by omega
 rcases this with rfl|rfl|rfl|rfl|rfl|rfl|rfl|rfl<;>rfl
theorem kg(s t:St):iQ s t 0=s.list:=rfl
theorem qb(s t:St):iQ s t 8=(s.plus t).list:=rfl
theorem oM{w:World}{b o:Nat}{s t:St}{i:Nat}(h:Row w b o ((iQ s t i).map (Value.int .u64)))(hi:i<8):
 Row (w.setCell ⟨b,o+i,none⟩ (.int .u64 ((s.list.getD i 0+t.list.getD i 0)%18446744073709551616))) b o ((iQ s t (i+1)).map (Value.int .u64)):=by
 have :=h.setInt i (by rw[dH _ _ _ (by omega)];exact hi) ((s.list.getD i 0+t.list.getD i 0)%18446744073709551616)
 rwa[sg _ _ _ hi]at this
theorem si{w:World}{g:Nat}{T:TypeId}{s:St}(h:w.heap[g]? =some (.cells (shifted s) T (0,0)))(k xx x y:Int)(hx:x=(s.round k xx).e)(hy:y=(s.round k xx).a):
 VB ((w.setCell ⟨g,4,none⟩ (.int .u64 x)).setCell ⟨g,0,none⟩ (.int .u64 y)) g T (s.round k xx):=by
 subst hx hy;exact sf h _ _
theorem Eu(n:Int)(h₀:0≤n)(h₁:n<2^64):IntKind.u64.wrap n=n:=by rw[IntKind.wrap_u64];omega
theorem Ik(i:Nat)(x y:Int)(hx₀:0≤x)(hx:x%2^i=0)(hx₁:x<2^64)(hy₀:0≤y)(hy:y<2^i)(hy₁:y<2^64):bits .or .u64 x y=x+y:=
 bits_join .u64 64 (by decide) Eu i x y hx₀ hx hx₁ hy₀ hy hy₁
def iM(l:List Int)(t i:Nat):List Int:=(dZ l t).set t (dy l t i)
theorem nt(l:List Int)(t:Nat)(ht:t<80):iM l t 0=dZ l t:=by
 unfold iM dZ
 rw[List.set_append_right _ _ (by rw[bT];omega)]
 simp only[bT,Nat.sub_self]
 rw[show 80 -t=(79 -t)+1 by omega,List.replicate_succ]
 rfl
theorem pF(l:List Int)(t i:Nat):(iM l t i).set t (dy l t (i+1))=iM l t (i+1):=by
 unfold iM;rw[List.set_set]
theorem nu(l:List Int)(t:Nat)(ht:t<16):iM l t 8=dZ l (t+1):=by
 unfold iM
 exact mg l t (by omega) _ (by rw[if_pos ht];rfl)
theorem dV(l:List Int)(t i:Nat)(h:t≤80):(iM l t i).length=80:=by unfold iM;rw[List.length_set,aS _ _ h]
theorem ny(l:List Int)(t i:Nat)(h:t<80):(iM l t i).getD t 0=dy l t i:=by
 unfold iM
 have :t<(dZ l t).length:=by rw[aS _ _ (by omega)];exact h
 simp[List.getD,this]
theorem oN(s:St)(hs:s.ok)(l:List Int)(hl:l.length=128)(hb:Bytes l)(bs os bk bb ob cap:Nat)(hcap:128≤cap)(w:World)
 (hcs:Row w bs os (s.list.map (Value.int .u64))) (hck:Row w bk 0 (jG.map (Value.int .u64))) (hcb:Row w bb ob (l.map (Value.int .u8))):
 Calls Tryz.prog 79 #[.pointer (some ⟨bs,os,none⟩),.pointer (some ⟨bk,0,none⟩),.slice (some ⟨bb,ob,none⟩) 128 cap] w fun e w' =>e= .returned (.tuple #[])∧bU (· =bs) w w'∧Row w' bs os ((compress s l).list.map (Value.int .u64))∧Beside w w' bs os 8:=by
 have Fo:=ae hcs;have Ox:=ae hck;have Ro:=ae hcb;have HB:=ae hb
 clear hcs hck hcb hb
 go_enter Tryz.func79,Tryz.ntmps79
 go_wp2
 go_loopw [20] (fun c wr=>∃i:Nat,i≤80∧c= .int .i64 i∧Keeps w wr∧w.heap.size<wr.heap.size∧Row wr w.heap.size 0 ((dZ l i).map (Value.int .u64))) (fun c _=>(80 -intOf c).toNat)
 case atStart=>exact⟨0,by omega,rfl,(Keeps.refl w).alloc (Nat.le_refl _) _,by simp,Row.new _ _ _ (by simp only[dZ,sched];first |rfl|kernel_rfl)⟩
 case round=>
  obtain⟨i,hi,rfl,hk,hsz,hr⟩:=hrel
  by_cases hlt:i<80
  · by_cases h16:i<16
    · have hcb:=Ro.o.keeps hk
      rw[←nt l i (by omega)]at hr
      have HR:=ae hr;have HK:=ae hk;have Xa:=ae hcb
      clear hr hcb hk
      have hsl1:(8:Int)*i+8≤cap:=by omega
      go_wp2
      go_loopw [33] (fun c wr2=>∃k:Nat,k≤8∧c= .int .i64 k∧Keeps w wr2∧w.heap.size<wr2.heap.size∧Row wr2 w.heap.size 0 ((iM l i k).map (Value.int .u64))) (fun c _=>(8 -intOf c).toNat)
      case atStart=>exact⟨0,by omega,rfl,HK.o,hsz,HR.o⟩
      case round=>
       obtain⟨k,hk8,rfl,hkk,hsz2,hrk⟩:=hrel
       by_cases J5:k<8
       · have hcb:=Ro.o.keeps hkk
         have c0:=hcb.int (8*i+k) (by omega)
         rw[←Nat.add_assoc]at c0
         have b0:=HB.o.getD (8*i+k)
         have hd:=hrk.aT i (by rw[dV _ _ _ hi];exact hlt)
         have hf:=hrk.bR i (by rw[aF,dV _ _ _ hi];exact hlt)
         rw[ny _ _ _ hlt]at hd
         have hxr:=iL l i k
         have hst:dy l i (k+1)=(dy l i k*256+l.getD (8*i+k) 0)%18446744073709551616:=rfl
         have hset:=hrk.bl i (by rw[dV _ _ _ hi];exact hlt) (dy l i (k+1))
         rw[pF]at hset
         generalize l.getD (8*i+k) 0=y at *
         generalize dy l i k=x at *
         obtain⟨b00,b01⟩:=b0
         obtain⟨x0,x1⟩:=hxr
         have hor:bits .or .u64 (IntKind.u64.wrap (x*256)) y=x*256%18446744073709551616+y:=(by rw[IntKind.wrap_u64];exact Ik 8 (x*256%18446744073709551616) y (by omega) (by omega) (by omega) (by omega) (by omega) (by omega))
         have hst2:dy l i (k+1)=x*256%18446744073709551616+y:=by rw[hst];omega
         have HST:=ae hst2;have bx:=ae hset
         clear hst hst2 hset hcb hrk
         go_wp2
         go_roundw
         case rel=>exact⟨k+1,by omega,by go_num,Below.setCell hkk (Nat.le_refl _) _,by simpa using hsz2,by rw[←HST.o];exact bx.o⟩
         case measure=>simp[intOf];omega
       ·obtain rfl:k=8:=by omega
        rw[nu l i h16]at hrk
        go_wp2
        go_roundw
        case rel=>exact⟨i+1,by omega,by go_num,hkk,hsz2,hrk⟩
        case measure=>simp[intOf];omega
    · have hd:=hr.aT i (by rw[aS _ _ hi];exact hlt)
      have hf:=hr.bR i (by simp[aS _ _ hi];exact hlt)
      have c16:=hr.aT (i -16) (by rw[aS _ _ hi];omega)
      have c7:=hr.aT (i -7) (by rw[aS _ _ hi];omega)
      have c15:=hr.aT (i -15) (by rw[aS _ _ hi];omega)
      have c2:=hr.aT (i -2) (by rw[aS _ _ hi];omega)
      rw[j6 _ _ _ (by omega)]at c16 c7 c15 c2
      have w16:=(bJ l i).getD (i -16)
      have w7:=(bJ l i).getD (i -7)
      have Fp:=(bJ l i).getD (i -15)
      have w2:=(bJ l i).getD (i -2)
      have HR:=ae hr;clear hr
      have HW:Hid (j5 (sched l i) i=((sched l i).getD (i -16) 0+(sched l i).getD (i -7) 0+me ((sched l i).getD (i -15) 0)+mf ((sched l i).getD (i -2) 0))%18446744073709551616):=ae rfl
      generalize(sched l i).getD (i -16) 0=y0 at *
      generalize(sched l i).getD (i -7) 0=y1 at *
      generalize(sched l i).getD (i -15) 0=y2 at *
      generalize(sched l i).getD (i -2) 0=y3 at *
      have W2:=Fp
      have W3:=w2
      obtain⟨b20,Oy⟩:=Fp
      obtain⟨Oz,OB⟩:=w2
      go_wp2
      go_quiet (fail)
      go_wp2
      refine aB 29 (by kernel_rfl) (by kernel_rfl) ?_
      simp only[List.take_succ_cons,List.take_zero,List.drop_succ_cons,List.drop_zero]
      repeat(first |go_big_quiet_step (((go_at_call 113;first |exact s1 (a8 _ _ (by omega) (by omega) (by assumption) _)|exact s2 (a8 _ _ (by omega) (by omega) (by assumption) _)|exact q1 (a8 _ _ (by omega) (by omega) (by assumption) _)|exact q2 (a8 _ _ (by omega) (by omega) (by assumption) _))))|quiet_step (((go_at_call 113;first |exact s1 (a8 _ _ (by omega) (by omega) (by assumption) _)|exact s2 (a8 _ _ (by omega) (by omega) (by assumption) _)|exact q1 (a8 _ _ (by omega) (by omega) (by assumption) _)|exact q2 (a8 _ _ (by omega) (by omega) (by assumption) _)))))
      refine wpQuiet_nil ?_
      intro _ hw'
      obtain⟨nq,hw''⟩:=hw'
      subst hw''
      go_wp2
      go_roundw
      case rel=>exact⟨i+1,by omega,by go_num,Below.setCell (hk.trans ((Qt.drewN wr _).keeps)) (Nat.le_refl _) _,by simpa using hsz,ke (HR.o.drewN _) hlt _ (by rw[if_neg h16,HW.o];unfold me mf;simp only[IntKind.wrap_u64];omega)⟩
      case measure=>simp[intOf];omega
  ·obtain rfl:i=80:=by omega
   rw[j7]at hr
   obtain⟨w1,hw1⟩:∃w1,w1=wr:=⟨_,rfl⟩
   subst hw1
   have hcs:Row w1 bs os [.int .u64 s.a,.int .u64 s.b,.int .u64 s.c,.int .u64 s.d,.int .u64 s.e,.int .u64 s.f,.int .u64 s.g,.int .u64 s.h]:=Fo.o.keeps hk
   have hck:=Ox.o.keeps hk
   have Ev:(sched l 80).length=80:=bT l 80
   have hfin:(compress s l).list=(s.plus (rounds s (sched l 80) 80)).list:=rfl
   have xY:=bJ l 80
   generalize sched l 80=ws at *
   have z1:(Tryz.prog.info? 127).map (·.size)=some ([.int .u64 s.a,.int .u64 s.b,.int .u64 s.c,.int .u64 s.d,.int .u64 s.e,.int .u64 s.f,.int .u64 s.g,.int .u64 s.h]:List Value).length:=oL
   have z2:(Tryz.prog.info? 128).map (·.size)=some (ws.map (Value.int .u64)).length:=by rw[aF,Ev];exact se
   have J6:=ae Ev;have HR:=ae hr;have HC:=ae hcs;have HK:=ae hck;have HF:=ae hfin;have Ln:=ae xY
   have Z1:=ae z1;have Z2:=ae z2;clear z1 z2 Ev hr hcs hck hfin xY
   go_upto_region 13 with(fail)
   go_wp2_with (first |(refine aj rfl 127 (.tmp 86) rfl bs os rfl _ _ (by first |exact HC.o|exact HC.o.alloc _) Tryz.underlying127 rfl Z1.o ?_)|(refine aj rfl 128 (.tmp 6) rfl w.heap.size 0 rfl _ _ (by first |exact HR.o|exact HR.o.alloc _) Tryz.underlying128 rfl Z2.o ?_))
   go_loopw [89] (fun c wr=>∃i:Nat,i≤80∧c= .int .i64 i∧Keeps w wr∧w1.heap.size<wr.heap.size∧VB wr w1.heap.size 127 (rounds s ws i)) (fun c _=>(80 -intOf c).toNat)
   case atStart=>exact⟨0,by omega,rfl,hk.trans ((Keeps.refl w1).alloc (Nat.le_refl _) _),by simp,by unfold VB;exact heap_alloc_new _ _⟩
   case round=>
    obtain⟨i,hi,rfl,hk2,hsz2,hv⟩:=hrel
    by_cases hlt:i<80
    ·obtain⟨v0,v1,v2,v3,v4,v5,v6,v7⟩:=hv.cells
     have hix:∀W:World,(Instr.index 128 (.agg (ws.map (Value.int .u64)).toArray) (.int .i64 (i:Int))).run Tryz.prog W= .ok (.int .u64 (ws.getD i 0)) W:=fun W=>dr W _ _ 80 _ ws i Tryz.underlying128 Tryz.underlying85 (by kernel_rfl) J6.o hlt
     have hkc:=(Ox.o.keeps hk2).aT i (by rw[rD];exact hlt)
     have hok:=j8 hs ws i
     have hwi:=Ln.o.getD i
     have hkw:=tA.getD i
     have hrd:rounds s ws (i+1)=(rounds s ws i).round (jG.getD i 0) (ws.getD i 0):=rfl
     generalize jG.getD i 0=kk at *
     generalize ws.getD i 0=xx at *
     generalize rounds s ws i=r at *
     obtain⟨ra,rb,rc,rd,re,rf,rg,rh⟩:=r
     have HV:=ae hv;have iX:=ae hrd;clear hv hrd
     obtain⟨o0,o1,o2,o3,o4,o5,o6,o7⟩:=hok
     simp only at v0 v1 v2 v3 v4 v5 v6 v7 o0 o1 o2 o3 o4 o5 o6 o7
     have a0:=o0.1;have a1:=o0.2;have e0:=o4.1;have e1:=o4.2
     go_wp2
     go_quiet (fail)
     go_wp2
     go_quiet (((go_at_call 113;first |exact s1 (a8 _ _ (by omega) (by omega) (by assumption) _)|exact s2 (a8 _ _ (by omega) (by omega) (by assumption) _)|exact q1 (a8 _ _ (by omega) (by omega) (by assumption) _)|exact q2 (a8 _ _ (by omega) (by omega) (by assumption) _))))
     go_wp2
     go_quiet (((go_at_call 113;first |exact s1 (a8 _ _ (by omega) (by omega) (by assumption) _)|exact s2 (a8 _ _ (by omega) (by omega) (by assumption) _)|exact q1 (a8 _ _ (by omega) (by omega) (by assumption) _)|exact q2 (a8 _ _ (by omega) (by omega) (by assumption) _))))
     go_wp2
     refine aB 2 (by kernel_rfl) (by kernel_rfl) ?_
     simp only[List.take_succ_cons,List.take_zero,List.drop_succ_cons,List.drop_zero]
     repeat(first |go_big_quiet_step (fail)|quiet_step (fail))
     refine wpQuiet_nil ?_
     intro _ hw'
     obtain⟨nq,hw''⟩:=hw'
     subst hw''
     go_wp2_with (refine nW rfl (.tmp 151) (.tmp 152) rfl w1.heap.size 7 8 rfl rfl _ ⟨ra,rb,rc,rd,re,rf,rg,rh⟩ HV.o ?_;intro w3 hv3 hc3;obtain⟨x4,x0,f4,f0⟩:=jT hv3;have Cp:=ae hv3;have fT:=ae hc3;clear hv3 hc3)
     go_roundw
     case rel=>
      refine⟨i+1,by omega,by go_num,?_,?_,?_⟩
      ·exact(((((hk2.trans (Qt.keeps (by repeat(first |exact Qt.refl _|exact Qt.drewN _ _|refine Qt.trans ?_ (Qt.drewN _ _))))).aG (· =w1.heap.size)).trans fT.o).setCell (.inr rfl) _).setCell (.inr rfl) _).below (Nat.le_refl _) (fun k hk' e=>by omega)
      · have :=fT.o.size;simp at this⊢;omega
      ·rw[iX.o]
       refine si Cp.o kk xx _ _ ?_ ?_
       ·simp only[St.round,qa,mh,Fn,IntKind.wrap_u64];omega
       ·simp only[St.round,qa,AQ,mh,sb,Fn,AO,IntKind.wrap_u64];omega
     case measure=>simp[intOf];omega
    ·obtain rfl:i=80:=by omega
     obtain⟨w2,hw2⟩:∃w2,w2=wr:=⟨_,rfl⟩
     subst hw2
     have hbs:bs<w.heap.size:=Fo.o.lt (by simp[St.list])
     have hne:bs≠w1.heap.size:=by have :=hk.size;omega
     have hrow:=Fo.o.keeps hk2
     have OC:=hv.row
     generalize rounds s ws 80=r at *
     rw[←kg s r]at hrow
     have HRW:=ae hrow;have HV:=ae OC
     clear hrow hv OC
     go_wp2
     go_loopw [164] (fun c wr=>∃i:Nat,i≤8∧c= .int .i64 i∧bU (· =bs) w wr∧Row wr bs os ((iQ s r i).map (Value.int .u64))∧Row wr w1.heap.size 0 (r.list.map (Value.int .u64))∧Hid (Beside w wr bs os 8)) (fun c _=>(8 -intOf c).toNat)
     case atStart=>exact⟨0,by omega,rfl,hk2.aG _,HRW.o,HV.o,ae (Beside.keeps hk2 hbs _ _)⟩
     case round=>
      obtain⟨i,hi,rfl,hch,hr1,hr2,Jn⟩:=hrel
      by_cases hlt:i<8
      · have c1:=hr1.int i (by rw[dH _ _ _ hi];exact hlt)
        rw[kf _ _ _ hlt]at c1
        have f1:=hr1.free i (by rw[aF,dH _ _ _ hi];exact hlt)
        have c2:=hr2.aT i (by rw[dQ];exact hlt)
        have R1:=ae hr1;have R2:=ae hr2;have dF:=ae hch;clear hr1 hr2 hch
        have HM:=ae (fun(W:World) (hW:Row W bs os ((iQ s r i).map (Value.int .u64)))=>oM hW hlt)
        generalize s.list.getD i 0=x1 at *
        generalize r.list.getD i 0=x2 at *
        go_wp2
        refine aB 11 (by kernel_rfl) (by kernel_rfl) ?_
        simp only[List.take_succ_cons,List.take_zero,List.drop_succ_cons,List.drop_zero]
        repeat(first |go_big_quiet_step (fail)|quiet_step (fail))
        refine wpQuiet_nil ?_
        intro _ hw'
        obtain⟨nq,hw''⟩:=hw'
        subst hw''
        go_wp2
        go_roundw
        case rel=>exact⟨i+1,by omega,by go_num,(dF.o.trans (Keeps.aG (Qt.keeps (by repeat(first |exact Qt.refl _|exact Qt.drewN _ _|refine Qt.trans ?_ (Qt.drewN _ _)))) _)).setCell (.inr rfl) _,HM.o _ (R1.o.drewN _),(R2.o.drewN _).other hne.symm _,ae (Jn.o.trans (Beside.trans (b:=wr.drewN _) (Beside.of_block rfl _ _) (Beside.setCell hlt _)))⟩
        case measure=>simp[intOf];omega
      ·obtain rfl:i=8:=by omega
       rw[qb]at hr1
       have RH:Hid (Row wr bs os ((compress s l).list.map (Value.int .u64))):=by rw[HF.o];exact hr1
       have dF:=ae hch
       clear hr1 hr2 hch
       go_wp2
       go_end0
       exact⟨rfl,dF.o,RH.o,Jn.o⟩
end Go.Proofs.YtlofddoojkeakaaGreatDoor.pD
