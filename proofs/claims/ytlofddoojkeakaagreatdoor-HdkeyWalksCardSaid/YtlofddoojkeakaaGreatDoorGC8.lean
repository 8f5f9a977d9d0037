/- hash.Sum's Hash: the digest of all that has come, that of SHA-256; the Sum stays as it was.. -/
import Derived.Test.YtlofddoojkeakaaGreatDoorGC7
import Derived.Deep.RegionHeld3
set_option maxRecDepth 100000
set_option maxHeartbeats 1600000
set_option linter.unusedVariables false
set_option linter.unusedSimpArgs false
namespace Go.Proofs.YtlofddoojkeakaaGreatDoor
open Go Go.RowKit
theorem wp_store_row{P:Program}{w:World}{o:Oper}{a:Act}{K:Act→World→Prop}{Q:Exit→Act→World→Prop}(T:TypeId)(x y:Operand)(ho:o.op= .store T x y)
 (g off:Nat) (hx:a.eval x= .pointer (some ⟨g,off,none⟩)) (olds cs:List Value) (hy:a.eval y= .agg cs.toArray) (hg:Row w g off olds) (hl:cs.length=olds.length)
 (hi:(P.info? T).map (·.size)=some cs.length) (h1:∀v∈cs,v.oneCell' =true)
 (h:∀w',Row w' g off cs→bU (· =g) w w'→K (a.put o.dst undef) w'):o.wp P a w K Q:=by
 unfold Oper.wp execOp
 simp only[ho,hx,hy,Instr.storeAt,Instr.sureAddr,Sem.run_bind,Sem.run_pure,Result.andThen_ok,run_storeVar_row w g off T olds cs hg hl hi h1]
 exact h _ (hg.whole hl) (dh _ _ _ _)
def dI(ws:List Int):List Int:=ws.flatMap fun x=>[x/16777216%256,x/65536%256,x/256%256,x%256]
def sha256(l:List Int):List Int:=dI (bO dN (l++di l.length) ((l++di l.length).length/64)).list
theorem vH{w:World}{b o:Nat}{wv wv':Value}{l:List Int}(h:jv w b o wv l)(st:St)(bg:Bool)(hst:bg=true∧st=bO dN l (l.length/64)∨bg=false∧l=[])(hok:st.ok){W:World}{b':Nat}
 (hr:Row W b' 0 (st.list.map (Value.int .u32)++[wv',.int .u64 l.length,.bool bg])) (hb:Buf W 1 wv' (l.length%64) ((l.drop (64*(l.length/64))).map (Value.int .u8))) (hne:wv'.ownBlock≠some b'):jv W b' 0 wv' l:=
 ⟨h.bytes,h.small,⟨st,bg,hok,hst,hr⟩,hb,hne⟩
theorem pC(n:Nat):Bytes (di n):=by
 intro x hx
 simp only[di,List.cons_append,List.mem_cons,List.mem_append,List.mem_replicate]at hx
 rcases hx with rfl|⟨_,rfl⟩|hx
 ·exact⟨by omega,by omega⟩
 ·exact⟨by omega,by omega⟩
 ·exact Du _ x hx
theorem j1(n:Nat):(di n).length=9+bL n:=by simp[di,Az];omega
theorem kF(n:Nat):bL n≤63:=by unfold bL;omega
def zL(W:World)(b o:Nat)(s:St)(wv:Value)(n:Nat)(bg:Bool):Prop:=
 W.cell? ⟨b,o,none⟩=some (.int .u32 s.a)∧W.cell? ⟨b,o+1,none⟩=some (.int .u32 s.b)∧W.cell? ⟨b,o+2,none⟩=some (.int .u32 s.c)∧W.cell? ⟨b,o+3,none⟩=some (.int .u32 s.d)∧
 W.cell? ⟨b,o+4,none⟩=some (.int .u32 s.e)∧W.cell? ⟨b,o+5,none⟩=some (.int .u32 s.f)∧W.cell? ⟨b,o+6,none⟩=some (.int .u32 s.g)∧W.cell? ⟨b,o+7,none⟩=some (.int .u32 s.h)∧
 W.cell? ⟨b,o+8,none⟩=some wv∧W.cell? ⟨b,o+9,none⟩=some (.int .u64 n)∧W.cell? ⟨b,o+10,none⟩=some (.bool bg)
theorem En{W:World}{b o:Nat}{s:St}{wv:Value}{n:Nat}{bg:Bool}(h:Row W b o (s.list.map (Value.int .u32)++[wv,.int .u64 n,.bool bg])):zL W b o s wv n bg:=
 ⟨(h 0 _ rfl).1,(h 1 _ rfl).1,(h 2 _ rfl).1,(h 3 _ rfl).1,(h 4 _ rfl).1,(h 5 _ rfl).1,(h 6 _ rfl).1,(h 7 _ rfl).1,(h 8 _ rfl).1,(h 9 _ rfl).1,(h 10 _ rfl).1⟩
def gW:List Value:=[.int .u32 0,.int .u32 0,.int .u32 0,.int .u32 0,.int .u32 0,.int .u32 0,.int .u32 0,.int .u32 0,.slice none 0 0,.int .u64 0,.bool false]
theorem De{W e:World}{p T:Nat}(h:Keeps (W.alloc (.cells #[.int .u32 0,.int .u32 0,.int .u32 0,.int .u32 0,.int .u32 0,.int .u32 0,.int .u32 0,.int .u32 0,.slice none 0 0,.int .u64 0,.bool false] T)).drew e)(hp:p=W.heap.size):Row e p 0 gW:=by
 have r0:Row (W.alloc (.cells #[.int .u32 0,.int .u32 0,.int .u32 0,.int .u32 0,.int .u32 0,.int .u32 0,.int .u32 0,.int .u32 0,.slice none 0 0,.int .u64 0,.bool false] T)) W.heap.size 0 gW:=Row.new gW _ T (by simp[gW])
 have r1:=r0.drew
 rw[hp];exact r1.keeps h
theorem If{s:St}{a:Option Addr}{n m:Nat}{k:Int}{bg:Bool}:∀v∈s.list.map (Value.int .u32)++[Value.slice a n m,.int .u64 k,.bool bg],v.oneCell' =true:=by
 intro v hv
 simp only[St.list,List.map_cons,List.map_nil,List.cons_append,List.nil_append,List.mem_cons,List.not_mem_nil,or_false]at hv
 rcases hv with rfl|rfl|rfl|rfl|rfl|rfl|rfl|rfl|rfl|rfl|rfl<;>rfl
theorem bM{w W:World}(h:Keeps w W):Keeps w W.drew:=h.trans ((Qt.drewN W 1).below _)
theorem av{w W:World}(h:Keeps w W)(o:Obj):Keeps w (W.alloc o):=Below.alloc h h.size o
theorem aD{w W W':World}{p:Nat}(h:Keeps w W)(c:bU (· =p) W W')(hp:w.heap.size≤p):Keeps w W':=Below.trans h (bU.below c h.size (fun k hk e=>by omega))
theorem lq{w W:World}{b o:Nat}{s:St}{wv:Value}{n:Nat}{bg:Bool}(h:Row w b o (s.list.map (Value.int .u32)++[wv,.int .u64 n,.bool bg]))(k:Keeps w W):
 W.cell? ⟨b,o,none⟩=some (.int .u32 s.a)∧W.cell? ⟨b,o+1,none⟩=some (.int .u32 s.b)∧W.cell? ⟨b,o+2,none⟩=some (.int .u32 s.c)∧W.cell? ⟨b,o+3,none⟩=some (.int .u32 s.d)∧
 W.cell? ⟨b,o+4,none⟩=some (.int .u32 s.e)∧W.cell? ⟨b,o+5,none⟩=some (.int .u32 s.f)∧W.cell? ⟨b,o+6,none⟩=some (.int .u32 s.g)∧W.cell? ⟨b,o+7,none⟩=some (.int .u32 s.h)∧
 W.cell? ⟨b,o+8,none⟩=some wv∧W.cell? ⟨b,o+9,none⟩=some (.int .u64 n)∧W.cell? ⟨b,o+10,none⟩=some (.bool bg)∧Keeps w W:=
 have r:=h.keeps k
 ⟨(r 0 _ rfl).1,(r 1 _ rfl).1,(r 2 _ rfl).1,(r 3 _ rfl).1,(r 4 _ rfl).1,(r 5 _ rfl).1,(r 6 _ rfl).1,(r 7 _ rfl).1,(r 8 _ rfl).1,(r 9 _ rfl).1,(r 10 _ rfl).1,k⟩
theorem jv.aG {S:Nat→Prop}{w w':World}{b o:Nat}{wv:Value}{l:List Int}(h:jv w b o wv l)(hc:bU S w w')(hb:¬S b)(hs:∀g,wv.ownBlock=some g→¬S g):jv w' b o wv l:=by
 obtain⟨h1,h2,⟨st,bg,h3,h4,h5⟩,h6,h7⟩:=h
 exact⟨h1,h2,⟨st,bg,h3,h4,h5.aG hc hb⟩,h6.aG hc hs,h7⟩
theorem jv.keeps {w w':World}{b o:Nat}{wv:Value}{l:List Int}(h:jv w b o wv l)(hc:Keeps w w'):jv w' b o wv l:=
 h.aG (hc.aG (fun _=>False)) (fun h=>h) (fun _ _ h=>h)
structure rU (w W:World) (p:Nat) (v:Value) (l:List Int):Prop where
 keeps:Keeps w W
 new:w.heap.size<p
 sum:jv W p 0 v l
 out:Row W w.heap.size 0 (List.replicate 32 (Value.int .u8 0))
 own:∀g,v.ownBlock=some g→w.heap.size<g
structure Df (w W:World) (p:Nat) (l:List Int) (s:St):Prop where
 keeps:Keeps w W
 new:w.heap.size<p
 ok:s.ok
 val:dI s.list=sha256 l
 cells:Row W p 0 (s.list.map (Value.int .u32))
 out:Row W w.heap.size 0 (List.replicate 32 (Value.int .u8 0))
theorem rU.done {w W6 W7 W8:World}{p:Nat}{v:Value}{l:List Int}(h:rU w W6 p v l)(hk:Keeps W6 W7)(ha:pB W7 W8 p 0 v (l++di l.length)):∃s,Df w W8 p l s:=by
 obtain⟨wv',⟨_,_,⟨s,bg,hok,hst,hrow⟩,_,_⟩,hc,_⟩:=ha
 have hst2:s=bO dN (l++di l.length) ((l++di l.length).length/64):=by
  rcases hst with⟨_,h⟩|⟨_,h⟩
  ·exact h
  · have h2:=congrArg List.length h
    rw[List.length_append,j1]at h2
    simp at h2
 have hw7:Keeps w W7:=h.keeps.trans hk
 have hwp:¬(w.heap.size=p∨v.ownBlock=some w.heap.size):=by
  rintro(e|e)
  · have :=h.new;omega
  · have :=h.own _ e;omega
 refine⟨s,⟨Below.trans hw7 (hc.below hw7.size ?_),h.new,hok,by rw[hst2];rfl,?_,(h.out.keeps hk).aG hc hwp⟩⟩
 ·rintro k hk2 (e|e)
  · have :=h.new;omega
  · have :=h.own _ e;omega
 · have :=hrow.take 8
   simpa[St.list]using this
def BI(s:St)(i:Nat):List Int:=dI (s.list.take i)++List.replicate (32 -4*i) 0
theorem vI(s:St):BI s 8=dI s.list:=by simp[BI,St.list]
theorem rB(s:St)(i:Nat)(hi:i≤8):(BI s i).length=32:=by
 rcases i with _|_|_|_|_|_|_|_|_|i
 all_goals first |rfl|omega
theorem Eo(s:St)(i:Nat)(hi:i<8):((((BI s i).set (4*i) (s.list.getD i 0/16777216%256)).set (4*i+1) (s.list.getD i 0/65536%256)).set (4*i+2) (s.list.getD i 0/256%256)).set (4*i+3) (s.list.getD i 0%256)=BI s (i+1):=by
 rcases i with _|_|_|_|_|_|_|_|i
 all_goals first |rfl|omega
theorem jP{s:St}(h:s.ok)(i:Nat):W32 (s.list.getD i 0):=by
 obtain⟨h0,h1,h2,h3,h4,h5,h6,h7⟩:=h
 rcases i with _|_|_|_|_|_|_|_|i
 all_goals first |exact h0|exact h1|exact h2|exact h3|exact h4|exact h5|exact h6|exact h7|exact⟨by simp[St.list],by simp[St.list]⟩
theorem J3{W:World}{q n:Nat}(h:Row W q 0 ((di n).map (Value.int .u8)))(hq:q<W.heap.size):Rd W 1 (.slice (some ⟨q,0,none⟩) (9+bL n) (9+bL n)) (9+bL n) ((di n).map (Value.int .u8)):=
 ⟨by simp[j1],_,_,rfl,Nat.le_refl _,by have :=kF n;unfold maxLen;omega,fun e=>(by cases e),fun ad e _=>⟨q,0,(Option.some.inj e).symm,hq,h⟩⟩
theorem Ig(b o:Nat)(wv:Value)(l:List Int)(w:World)(hs:jv w b o wv l)(hsm:l.length<576460752303423488):
 Calls Tryz.prog 81 #[.pointer (some ⟨b,o,none⟩)] w fun e w' =>e= .returned (.agg ((sha256 l).map (Value.int .u8)).toArray)∧Keeps w w':=by
 have HS:=ae hs
 obtain⟨hby,hlen,⟨st,bg,hok,hst,hrow⟩,hbuf,hap⟩:=hs
 obtain⟨wa,wc,rfl,_⟩:=hbuf.any
 have hcl:=clone_any (.slice wa (l.length%64) wc) (l.length%64) (l.drop (64*(l.length/64)))
 have hbb:b<w.heap.size:=hrow.lt (by simp)
 have HR:=ae hrow;have HB:=ae hbuf;have HST:=ae hst;have lL:=ae hok;have AB:=ae hcl
 clear hrow hbuf hst hok hcl hby hap
 go_enter Tryz.func81,Tryz.ntmps81
 go_upto_region 1 with(fail)
 refine cf (fun W=>Keeps w W∧w.heap.size<W.heap.size∧Row W w.heap.size 0 (List.replicate 32 (Value.int .u8 0))) ⟨(Keeps.refl _).alloc (Nat.le_refl _) _,by show _<(w.heap.push _).size;rw[Array.size_push];omega,Row.new _ _ _ rfl⟩ ?_
 intro w1 ⟨hk1,hlt1,hr1⟩
 have bw:=ae hk1;have HR1:=ae hr1
 have hc:=En (HR.o.keeps hk1)
 clear hk1 hr1
 unfold zL at hc
 obtain⟨c0,c1,c2,c3,c4,c5,c6,c7,c8,c9,c10⟩:=hc
 refine wp_region_held_drew (S:=(fun W=>W.cell? ⟨b,o,none⟩=some (.int .u32 st.a)∧W.cell? ⟨b,o+1,none⟩=some (.int .u32 st.b)∧W.cell? ⟨b,o+2,none⟩=some (.int .u32 st.c)∧W.cell? ⟨b,o+3,none⟩=some (.int .u32 st.d)∧W.cell? ⟨b,o+4,none⟩=some (.int .u32 st.e)∧W.cell? ⟨b,o+5,none⟩=some (.int .u32 st.f)∧W.cell? ⟨b,o+6,none⟩=some (.int .u32 st.g)∧W.cell? ⟨b,o+7,none⟩=some (.int .u32 st.h)∧W.cell? ⟨b,o+8,none⟩=some (.slice wa (l.length%64) wc)∧W.cell? ⟨b,o+9,none⟩=some (.int .u64 l.length)∧W.cell? ⟨b,o+10,none⟩=some (.bool bg)∧Keeps w W)) (by kernel_rfl) ?_ (fun hHeld=> ?_)
 focus((try dsimp only);(refine lq HR.o ?_;go_split_ands;first |exact bM bw.o|exact av (by assumption) _|exact av (bM bw.o) _|exact bM (av bw.o _)|exact aD (by assumption) gC.o (Nat.le_of_lt hlt1)|exact aD (by assumption) gC.o (Nat.le_trans (Nat.le_of_lt hlt1) cG.o.size)|exact aD (by assumption) gC.o (by assumption)|exact Keeps.trans (by assumption) cG.o))
 refine wpAnyH_take (i:=0) (oi:= ?_) (v:= ?_) ?_ ?_ ?_ ?_ ?_ (Or.inl ⟨?_,?_⟩) ?_ ?_
 rotate_left 2
 focus(simp only[kG];exact rfl)
 iterate 3 focus kernel_rfl
 focus(exact fun _ _ _ h=>h)
 focus rfl
 focus((intro w hSw;(try dsimp only at hSw);go_simp)<;>with_reducible rfl)
 focus assumption
 try simp only[kP]
 refine wpAnyH_take (i:=1) (oi:= ?_) (v:= ?_) ?_ ?_ ?_ ?_ ?_ (Or.inl ⟨?_,?_⟩) ?_ ?_
 rotate_left 2
 focus(simp only[kG];exact rfl)
 iterate 3 focus kernel_rfl
 focus(exact fun _ _ _ h=>h)
 focus rfl
 focus((intro w hSw;(try dsimp only at hSw);go_simp)<;>with_reducible rfl)
 focus assumption
 try simp only[kP]
 refine wpAnyH_take (i:=2) (oi:= ?_) (v:= ?_) ?_ ?_ ?_ ?_ ?_ (Or.inl ⟨?_,?_⟩) ?_ ?_
 rotate_left 2
 focus(simp only[kG];exact rfl)
 iterate 3 focus kernel_rfl
 focus(exact fun _ _ _ h=>h)
 focus rfl
 focus((intro w hSw;(try dsimp only at hSw);go_simp)<;>with_reducible rfl)
 focus assumption
 try simp only[kP]
 refine wpAnyH_take (i:=3) (oi:= ?_) (v:= ?_) ?_ ?_ ?_ ?_ ?_ (Or.inl ⟨?_,?_⟩) ?_ ?_
 rotate_left 2
 focus(simp only[kG];exact rfl)
 iterate 3 focus kernel_rfl
 focus(exact fun _ _ _ h=>h)
 focus rfl
 focus((intro w hSw;(try dsimp only at hSw);go_simp)<;>with_reducible rfl)
 focus assumption
 try simp only[kP]
 refine wpAnyH_take (i:=4) (oi:= ?_) (v:= ?_) ?_ ?_ ?_ ?_ ?_ (Or.inl ⟨?_,?_⟩) ?_ ?_
 rotate_left 2
 focus(simp only[kG];exact rfl)
 iterate 3 focus kernel_rfl
 focus(exact fun _ _ _ h=>h)
 focus rfl
 focus((intro w hSw;(try dsimp only at hSw);go_simp)<;>with_reducible rfl)
 focus assumption
 try simp only[kP]
 refine wpAnyH_take (i:=5) (oi:= ?_) (v:= ?_) ?_ ?_ ?_ ?_ ?_ (Or.inl ⟨?_,?_⟩) ?_ ?_
 rotate_left 2
 focus(simp only[kG];exact rfl)
 iterate 3 focus kernel_rfl
 focus(exact fun _ _ _ h=>h)
 focus rfl
 focus((intro w hSw;(try dsimp only at hSw);go_simp)<;>with_reducible rfl)
 focus assumption
 try simp only[kP]
 refine wpAnyH_take (i:=6) (oi:= ?_) (v:= ?_) ?_ ?_ ?_ ?_ ?_ (Or.inl ⟨?_,?_⟩) ?_ ?_
 rotate_left 2
 focus(simp only[kG];exact rfl)
 iterate 3 focus kernel_rfl
 focus(exact fun _ _ _ h=>h)
 focus rfl
 focus((intro w hSw;(try dsimp only at hSw);go_simp)<;>with_reducible rfl)
 focus assumption
 try simp only[kP]
 refine wpAnyH_take (i:=7) (oi:= ?_) (v:= ?_) ?_ ?_ ?_ ?_ ?_ (Or.inl ⟨?_,?_⟩) ?_ ?_
 rotate_left 2
 focus(simp only[kG];exact rfl)
 iterate 3 focus kernel_rfl
 focus(exact fun _ _ _ h=>h)
 focus rfl
 focus((intro w hSw;(try dsimp only at hSw);go_simp)<;>with_reducible rfl)
 focus assumption
 try simp only[kP]
 refine wpAnyH_take (i:=9) (oi:= ?_) (v:= ?_) ?_ ?_ ?_ ?_ ?_ (Or.inl ⟨?_,?_⟩) ?_ ?_
 rotate_left 2
 focus(simp only[kG];exact rfl)
 iterate 3 focus kernel_rfl
 focus(exact fun _ _ _ h=>h)
 focus rfl
 focus((intro w hSw;(try dsimp only at hSw);go_simp)<;>with_reducible rfl)
 focus assumption
 try simp only[kP]
 refine wpAnyH_take (i:=10) (oi:= ?_) (v:= ?_) ?_ ?_ ?_ ?_ ?_ (Or.inl ⟨?_,?_⟩) ?_ ?_
 rotate_left 2
 focus(simp only[kG];exact rfl)
 iterate 3 focus kernel_rfl
 focus(exact fun _ _ _ h=>h)
 focus rfl
 focus((intro w hSw;(try dsimp only at hSw);go_simp)<;>with_reducible rfl)
 focus assumption
 try simp only[kP]
 refine wpAnyH_take (i:=11) (oi:= ?_) (v:= ?_) ?_ ?_ ?_ ?_ ?_ (Or.inl ⟨?_,?_⟩) ?_ ?_
 rotate_left 2
 focus(simp only[kG];exact rfl)
 iterate 3 focus kernel_rfl
 focus(exact fun _ _ _ h=>h)
 focus rfl
 focus((intro w hSw;(try dsimp only at hSw);go_simp)<;>with_reducible rfl)
 focus assumption
 try simp only[kP]
 refine wpAnyH_take (i:=12) (oi:= ?_) (v:= ?_) ?_ ?_ ?_ ?_ ?_ (Or.inl ⟨?_,?_⟩) ?_ ?_
 rotate_left 2
 focus(simp only[kG];exact rfl)
 iterate 3 focus kernel_rfl
 focus(exact fun _ _ _ h=>h)
 focus rfl
 focus((intro w hSw;(try dsimp only at hSw);go_simp)<;>with_reducible rfl)
 focus assumption
 try simp only[kP]
 refine wpAnyH_take (i:=13) (oi:= ?_) (v:= ?_) ?_ ?_ ?_ ?_ ?_ (Or.inl ⟨?_,?_⟩) ?_ ?_
 rotate_left 2
 focus(simp only[kG];exact rfl)
 iterate 3 focus kernel_rfl
 focus(exact fun _ _ _ h=>h)
 focus rfl
 focus((intro w hSw;(try dsimp only at hSw);go_simp)<;>with_reducible rfl)
 focus assumption
 try simp only[kP]
 refine wpAnyH_take (i:=14) (oi:= ?_) (v:= ?_) ?_ ?_ ?_ ?_ ?_ (Or.inl ⟨?_,?_⟩) ?_ ?_
 rotate_left 2
 focus(simp only[kG];exact rfl)
 iterate 3 focus kernel_rfl
 focus(exact fun _ _ _ h=>h)
 focus rfl
 focus((intro w hSw;(try dsimp only at hSw);go_simp)<;>with_reducible rfl)
 focus assumption
 try simp only[kP]
 refine wpAnyH_take (i:=15) (oi:= ?_) (v:= ?_) ?_ ?_ ?_ ?_ ?_ (Or.inl ⟨?_,?_⟩) ?_ ?_
 rotate_left 2
 focus(simp only[kG];exact rfl)
 iterate 3 focus kernel_rfl
 focus(exact fun _ _ _ h=>h)
 focus rfl
 focus((intro w hSw;(try dsimp only at hSw);go_simp)<;>with_reducible rfl)
 focus assumption
 try simp only[kP]
 refine wpAnyH_take (i:=16) (oi:= ?_) (v:= ?_) ?_ ?_ ?_ ?_ ?_ (Or.inl ⟨?_,?_⟩) ?_ ?_
 rotate_left 2
 focus(simp only[kG];exact rfl)
 iterate 3 focus kernel_rfl
 focus(exact fun _ _ _ h=>h)
 focus rfl
 focus((intro w hSw;(try dsimp only at hSw);go_simp)<;>with_reducible rfl)
 focus assumption
 try simp only[kP]
 refine wpAnyH_ready (rs:=[8,18]) (by kernel_rfl) (by simp) ?_
 refine AllReadyH.cons (o:= ?_) ?_ (fun K hK=> ?_) ?_
 rotate_left 1
 focus(simp only[kG];exact rfl)
 rw[if_pos (by rfl)]
 go_simp
 go_at_call 76;refine(AB.o _ (HB.o.rd.aG (Keeps.aG (by go_split_ands;assumption) (fun _=>False)) (fun _ _ h=>h)) (by omega)).mono ?_;rintro e W5 ⟨v',rfl,hk5,hb5,PZ⟩;obtain⟨va,vc,rfl,hv2⟩:=hb5.any;clear hv2;have MV:=ae PZ;have MW:=ae hb5;have cG:=ae hk5;clear PZ hb5;first |(have P0:=De (p:=w1.heap.size) hk5 rfl;have HF:=ae P0;clear P0 hk5)|clear hk5
 refine hK.out _ _ ?_ ?_
 focus((try dsimp only);(refine lq HR.o ?_;go_split_ands;first |exact bM bw.o|exact av (by assumption) _|exact av (bM bw.o) _|exact bM (av bw.o _)|exact aD (by assumption) gC.o (Nat.le_of_lt hlt1)|exact aD (by assumption) gC.o (Nat.le_trans (Nat.le_of_lt hlt1) cG.o.size)|exact aD (by assumption) gC.o (by assumption)|exact Keeps.trans (by assumption) cG.o))
 clear hK K hHeld
 intro hHeld
 try simp only[kP]
 refine wpAnyH_take (i:=17) (oi:= ?_) (v:= ?_) ?_ ?_ ?_ ?_ ?_ (Or.inl ⟨?_,?_⟩) ?_ ?_
 rotate_left 2
 focus(simp only[kG];exact rfl)
 iterate 3 focus kernel_rfl
 focus(exact fun _ _ _ h=>h)
 focus rfl
 focus((intro w hSw;(try dsimp only at hSw);go_simp)<;>with_reducible rfl)
 focus assumption
 try simp only[kP]
 refine wpAnyH_ready (rs:=[18]) (by kernel_rfl) (by simp) ?_
 refine AllReadyH.cons (o:= ?_) ?_ (fun K hK=> ?_) ?_
 rotate_left 1
 focus(simp only[kG];exact rfl)
 rw[if_pos (by rfl)]
 go_simp
 refine hK.out _ _ ?_ ?_
 focus((try dsimp only);(refine lq HR.o ?_;go_split_ands;first |exact bM bw.o|exact av (by assumption) _|exact av (bM bw.o) _|exact bM (av bw.o _)|exact aD (by assumption) gC.o (Nat.le_of_lt hlt1)|exact aD (by assumption) gC.o (Nat.le_trans (Nat.le_of_lt hlt1) cG.o.size)|exact aD (by assumption) gC.o (by assumption)|exact Keeps.trans (by assumption) cG.o))
 clear hK K hHeld
 intro hHeld
 try simp only[kP]
 refine wpAnyH_ready (rs:=[19]) (by kernel_rfl) (by simp) ?_
 refine AllReadyH.cons (o:= ?_) ?_ (fun K hK=> ?_) ?_
 rotate_left 1
 focus(simp only[kG];exact rfl)
 rw[if_pos (by rfl)]
 refine wp_store_row 140 (.tmp 3) (.tmp 24) rfl _ 0 rfl gW (st.list.map (Value.int .u32)++[.slice va (l.length%64) vc,.int .u64 l.length,.bool bg]) rfl (by first |exact HF.o|exact Row.new gW _ _ rfl) rfl (by kernel_rfl) If ?_;intro W6 eD hc6;have dM:=ae eD;have gC:=ae hc6;clear eD hc6
 refine hK.out _ _ ?_ ?_
 focus((try dsimp only);(refine lq HR.o ?_;go_split_ands;first |exact bM bw.o|exact av (by assumption) _|exact av (bM bw.o) _|exact bM (av bw.o _)|exact aD (by assumption) gC.o (Nat.le_of_lt hlt1)|exact aD (by assumption) gC.o (Nat.le_trans (Nat.le_of_lt hlt1) cG.o.size)|exact aD (by assumption) gC.o (by assumption)|exact Keeps.trans (by assumption) cG.o))
 clear hK K hHeld
 intro hHeld
 try simp only[kP]
 refine wpAnyH_done (by kernel_rfl) ?_ _
 rotate_left
 exact AllReadyH.nil
 exact AllReadyH.nil
 refine AllReadyH.cons (o:= ?_) ?_ (fun K hK=> ?_) ?_
 rotate_left 1
 focus(simp only[kG];exact rfl)
 rw[if_pos (by rfl)]
 go_simp
 refine hK.out _ _ ?_ ?_
 focus((try dsimp only);(refine lq HR.o ?_;go_split_ands;first |exact bM bw.o|exact av (by assumption) _|exact av (bM bw.o) _|exact bM (av bw.o _)|exact aD (by assumption) gC.o (Nat.le_of_lt hlt1)|exact aD (by assumption) gC.o (Nat.le_trans (Nat.le_of_lt hlt1) cG.o.size)|exact aD (by assumption) gC.o (by assumption)|exact Keeps.trans (by assumption) cG.o))
 clear hK K hHeld
 intro hHeld
 try simp only[kP]
 refine wpAnyH_ready (rs:=[8]) (by kernel_rfl) (by simp) ?_
 refine AllReadyH.cons (o:= ?_) ?_ (fun K hK=> ?_) ?_
 rotate_left 1
 focus(simp only[kG];exact rfl)
 rw[if_pos (by rfl)]
 go_simp
 go_at_call 76;refine(AB.o _ (HB.o.rd.aG (Keeps.aG (by go_split_ands;assumption) (fun _=>False)) (fun _ _ h=>h)) (by omega)).mono ?_;rintro e W5 ⟨v',rfl,hk5,hb5,PZ⟩;obtain⟨va,vc,rfl,hv2⟩:=hb5.any;clear hv2;have MV:=ae PZ;have MW:=ae hb5;have cG:=ae hk5;clear PZ hb5;first |(have P0:=De (p:=w1.heap.size) hk5 rfl;have HF:=ae P0;clear P0 hk5)|clear hk5
 refine hK.out _ _ ?_ ?_
 focus((try dsimp only);(refine lq HR.o ?_;go_split_ands;first |exact bM bw.o|exact av (by assumption) _|exact av (bM bw.o) _|exact bM (av bw.o _)|exact aD (by assumption) gC.o (Nat.le_of_lt hlt1)|exact aD (by assumption) gC.o (Nat.le_trans (Nat.le_of_lt hlt1) cG.o.size)|exact aD (by assumption) gC.o (by assumption)|exact Keeps.trans (by assumption) cG.o))
 clear hK K hHeld
 intro hHeld
 try simp only[kP]
 refine wpAnyH_take (i:=17) (oi:= ?_) (v:= ?_) ?_ ?_ ?_ ?_ ?_ (Or.inl ⟨?_,?_⟩) ?_ ?_
 rotate_left 2
 focus(simp only[kG];exact rfl)
 iterate 3 focus kernel_rfl
 focus(exact fun _ _ _ h=>h)
 focus rfl
 focus((intro w hSw;(try dsimp only at hSw);go_simp)<;>with_reducible rfl)
 focus assumption
 try simp only[kP]
 refine wpAnyH_ready (rs:=[19]) (by kernel_rfl) (by simp) ?_
 refine AllReadyH.cons (o:= ?_) ?_ (fun K hK=> ?_) ?_
 rotate_left 1
 focus(simp only[kG];exact rfl)
 rw[if_pos (by rfl)]
 refine wp_store_row 140 (.tmp 3) (.tmp 24) rfl _ 0 rfl gW (st.list.map (Value.int .u32)++[.slice va (l.length%64) vc,.int .u64 l.length,.bool bg]) rfl (by first |exact HF.o|exact Row.new gW _ _ rfl) rfl (by kernel_rfl) If ?_;intro W6 eD hc6;have dM:=ae eD;have gC:=ae hc6;clear eD hc6
 refine hK.out _ _ ?_ ?_
 focus((try dsimp only);(refine lq HR.o ?_;go_split_ands;first |exact bM bw.o|exact av (by assumption) _|exact av (bM bw.o) _|exact bM (av bw.o _)|exact aD (by assumption) gC.o (Nat.le_of_lt hlt1)|exact aD (by assumption) gC.o (Nat.le_trans (Nat.le_of_lt hlt1) cG.o.size)|exact aD (by assumption) gC.o (by assumption)|exact Keeps.trans (by assumption) cG.o))
 clear hK K hHeld
 intro hHeld
 try simp only[kP]
 refine wpAnyH_done (by kernel_rfl) ?_ _
 rotate_left
 exact AllReadyH.nil
 exact AllReadyH.nil
 exact AllReadyH.nil
 focus
  have hb6:Buf W6 1 (.slice va (l.length%64) vc) (l.length%64) ((l.drop (64*(l.length/64))).map (Value.int .u8)):=(MW.o.aG ((av (Keeps.refl _) _).aG (fun _=>False)) (fun _ _ h=>h)).aG gC.o (fun g hg e=>by have :=MW.o.lt hg;omega)
  have hkk:Keeps w W6:=aD (av (bw.o.trans ((bM (Keeps.refl _)).trans cG.o)) _) gC.o (Nat.le_trans (Nat.le_of_lt hlt1) cG.o.size)
  have hp1:w1.heap.size≤W5.heap.size:=cG.o.size
  have hm:rU w W6 W5.heap.size (.slice va (l.length%64) vc) l:=⟨hkk,by omega,vH HS.o st bg HST.o lL.o dM.o hb6 (fun e=>by have :=MW.o.lt e;omega),(((HR1.o.drew.keeps cG.o).alloc _).aG gC.o (by omega)),fun g hg=>Nat.lt_of_lt_of_le hlt1 (MV.o g hg)⟩
  obtain⟨p,hp⟩:∃p,p=W5.heap.size:=⟨_,rfl⟩
  rw[←hp]at hm⊢
  have HM:=ae hm
  clear hm hb6 hkk hp1 hp dM gC cG MW MV
 rotate_left
 focus
  have hsz:w1.heap.size<W5.heap.size:=Nat.lt_of_lt_of_le (by show _<(w1.heap.push _).size;rw[Array.size_push];omega) cG.o.size
  have K8:∀g,(Value.slice va (l.length%64) vc).ownBlock=some g→w1.heap.size<g:=fun g hg=>Nat.lt_of_lt_of_le (by show _<(w1.heap.push _).size;rw[Array.size_push];omega) (MV.o g hg)
  have hb6:Buf W6 1 (.slice va (l.length%64) vc) (l.length%64) ((l.drop (64*(l.length/64))).map (Value.int .u8)):=MW.o.aG gC.o (fun g hg e=>by have :=K8 g hg;omega)
  have hk5:Keeps w W5:=(bM (av bw.o _)).trans cG.o
  have hkk:Keeps w W6:=aD hk5 gC.o (Nat.le_of_lt hlt1)
  have hm:rU w W6 w1.heap.size (.slice va (l.length%64) vc) l:=⟨hkk,by omega,vH HS.o st bg HST.o lL.o dM.o hb6 (fun e=>by have :=K8 _ e;omega),(((HR1.o.alloc _).drew.keeps cG.o).aG gC.o (by omega)),fun g hg=>Nat.lt_trans hlt1 (K8 g hg)⟩
  obtain⟨p,hp⟩:∃p,p=w1.heap.size:=⟨_,rfl⟩
  rw[←hp]at hm⊢
  have HM:=ae hm
  clear hm hb6 hkk hsz K8 hk5 hp dM gC cG MW MV HF
 all_goals
  have hm:=HM.o
  have hpw:p<W6.heap.size:=by
   obtain⟨_,_,⟨_,_,_,_,hr⟩,_⟩:=hm.sum
   exact hr.lt (by simp)
  have d9:W6.cell? ⟨p,9,none⟩=some (.int .u64 l.length):=by
   obtain⟨_,_,⟨_,_,_,_,hr⟩,_⟩:=hm.sum
   have :=(hr 9 _ rfl).1
   rwa[Nat.zero_add]at this
  have WY:W6.cell? ⟨b,o+9,none⟩=some (.int .u64 l.length):=(((HR.o).keeps hm.keeps) 9 _ rfl).1
  clear hm
  go_upto_region 3 with(first |(go_at_call 77;refine(x9 l.length (by omega) _).mono ?_;rintro e W7 ⟨rfl,Fa,P1,nJ⟩;have i8:=ae Fa;have qf:=ae nJ;clear Fa nJ)|(go_at_call 80;refine(sum_add p 0 _ l _ _ (di l.length) _ (HM.o.sum.keeps i8.o) (J3 qf.o P1) (pC _) (by have :=kF l.length;omega) (by have :=kF l.length;omega) (fun _ e=>absurd (Option.some.inj e) (Nat.ne_of_gt hpw))).mono ?_;rintro e W8 ⟨rfl,hA⟩;have HA:=ae hA;clear hA))
  obtain⟨s,hs8⟩:=HM.o.done i8.o HA.o
  have HO:=ae hs8
  clear hs8 HM i8 HA qf P1 d9 WY hpw
  go_upto_region 4 with(fail)
  refine cf (fun W=>Df w W p l s∧W8.heap.size<W.heap.size∧Row W W8.heap.size 0 ((BI s 0).map (Value.int .u8))) ⟨⟨av HO.o.keeps _,HO.o.new,HO.o.ok,HO.o.val,HO.o.cells.alloc _,HO.o.out.alloc _⟩,by show _<(W8.heap.push _).size;rw[Array.size_push];omega,Row.new _ _ _ rfl⟩ ?_
  intro W9 ⟨Vb,iz,aR⟩
  have hpq:p<W8.heap.size:=HO.o.cells.lt (by simp[St.list])
  obtain⟨q,hq⟩:∃q,q=W8.heap.size:=⟨_,rfl⟩
  rw[←hq]at iz aR hpq⊢
  have Ih:=ae Vb;have lr:=ae aR
  clear Vb aR HO hq
  go_wp2_with (refine aj rfl 138 (.tmp 31) rfl p 0 rfl _ _ Ih.o.cells Tryz.underlying138 rfl (by simpa[St.list]using MR) ?_)
  go_loopw [33] (fun c wr=>∃i:Nat,i≤8∧c= .int .i64 i∧bU (· =q) W9 wr∧Row wr q 0 ((BI s i).map (Value.int .u8))) (fun c _=>(8 -intOf c).toNat)
  case atStart=>exact⟨0,by omega,rfl,bU.refl _ _,lr.o⟩
  case round=>
   obtain⟨i,hi,rfl,hch,hr⟩:=hrel
   by_cases hlt:i<8
   · have hix:∀W:World,(Instr.index 138 (.agg (s.list.map (Value.int .u32)).toArray) (.int .i64 (i:Int))).run Tryz.prog W= .ok (.int .u32 (s.list.getD i 0)) W:=fun W=>dr W _ _ 8 _ s.list i Tryz.underlying138 Tryz.underlying23 (by kernel_rfl) rfl hlt
     have Tv:=rB s i hi
     have e0:=hr.aT (4*i) (by omega)
     have e1:=hr.aT (4*i+1) (by omega)
     have e2:=hr.aT (4*i+2) (by omega)
     have e3:=hr.aT (4*i+3) (by omega)
     have g0:=hr.bR (4*i) (by simp;omega)
     have g1:=hr.bR (4*i+1) (by simp;omega)
     have g2:=hr.bR (4*i+2) (by simp;omega)
     have g3:=hr.bR (4*i+3) (by simp;omega)
     have hx:W32 (s.list.getD i 0):=jP Ih.o.ok i
     have Tw:=ae (Eo s i hlt)
     have dF:=ae hch
     clear hch
     generalize s.list.getD i 0=x at *
     obtain⟨hx0,hx1⟩:=hx
     have hset:=(((hr.bl (4*i) (by omega) (x/16777216%256)).bl (4*i+1) (by simp;omega) (x/65536%256)).bl (4*i+2) (by simp;omega) (x/256%256)).bl (4*i+3) (by simp;omega) (x%256)
     rw[Tw.o,show x/16777216%256=x/16777216 by omega]at hset
     have bx:=ae hset
     clear hr hset
     go_wp2
     go_roundw
     case rel=>exact⟨i+1,by omega,by go_num,(((dF.o.setCell (.inr rfl) _).setCell (.inr rfl) _).setCell (.inr rfl) _).setCell (.inr rfl) _,bx.o⟩
     case measure=>simp[intOf];omega
   ·obtain rfl:i=8:=by omega
    rw[vI,Ih.o.val]at hr
    have HRR:=ae hr;have dF:=ae hch
    have HOW:=ae (Ih.o.out.aG hch (fun e=>by have :=Ih.o.new;omega))
    have h32:(sha256 l).length=32:=by rw[←Ih.o.val,←vI];exact rB s 8 (by omega)
    have Dg:Hid ((Tryz.prog.info? 90).map (·.size)=some ((sha256 l).map (Value.int .u8)).length):=by
     rw[aF,h32];exact ae (by kernel_rfl)
    have aA:=ae (Below.trans Ih.o.keeps (hch.below Ih.o.keeps.size (fun k hk e=>by have :=Ih.o.new;omega)))
    clear hr hch
    go_wp2_with (first |(refine aj rfl 90 (.tmp 4) rfl q 0 rfl _ _ HRR.o Tryz.underlying90 rfl Dg.o ?_)|(refine wpList_store_row rfl 90 (.tmp 2) (.tmp 64) rfl _ 0 rfl _ _ rfl HOW.o (by simp[h32]) Dg.o (ai _) ?_;intro lN iK eh;have cP:=ae iK;have fP:=ae eh;clear iK eh))
    exact bodyPost_ret (v:= .agg ((sha256 l).map (Value.int .u8)).toArray) (ar (p:=2) (ty:=90) rfl _ _ w.heap.size 0 _ _ rfl cP.o Tryz.underlying90 rfl Dg.o) rfl ⟨rfl,Below.trans aA.o (fP.o.below aA.o.size (fun k hk e=>by omega))⟩
end Go.Proofs.YtlofddoojkeakaaGreatDoor
