/- hash.state256's step: one block of 64 bytes is taken as SHA-256 says, whatever the state and the block; the state alone is written.. -/
import Derived.Test.YtlofddoojkeakaaGreatDoorGA0
import Derived.Laws.CopyOwn
import Derived.Deep.Cut
set_option maxRecDepth 100000
set_option maxHeartbeats 2000000
set_option linter.unusedVariables false
set_option linter.unusedSimpArgs false
namespace Go.Proofs.YtlofddoojkeakaaGreatDoor
open Go Go.RowKit
theorem ke{w:World}{b:Nat}{l:List Int}{i:Nat}(h:Row w b 0 ((dZ l i).map (Value.int .u32)))(hi:i<64)(x:Int)(hx:x=if i<16 then word l i else j5 (sched l i) i):
 Row (w.setCell ⟨b,i,none⟩ (.int .u32 x)) b 0 ((dZ l (i+1)).map (Value.int .u32)):=by
 have :=h.bl i (by rw[aS _ _ (by omega)];exact hi) x
 rwa[mg l i hi x hx]at this
theorem oL:(Tryz.prog.info? 138).map (·.size)=some 8:=by kernel_rfl
theorem se:(Tryz.prog.info? 164).map (·.size)=some 64:=by kernel_rfl
def VB(w:World)(b:Nat)(T:TypeId)(s:St):Prop:=w.heap[b]? =some (.cells #[.int .u32 s.a,.int .u32 s.b,.int .u32 s.c,.int .u32 s.d,.int .u32 s.e,.int .u32 s.f,.int .u32 s.g,.int .u32 s.h] T (0,0))
theorem VB.cells {w:World}{b:Nat}{T:TypeId}{s:St}(h:VB w b T s):w.cell? ⟨b,0,none⟩=some (.int .u32 s.a)∧w.cell? ⟨b,1,none⟩=some (.int .u32 s.b)∧w.cell? ⟨b,2,none⟩=some (.int .u32 s.c)∧w.cell? ⟨b,3,none⟩=some (.int .u32 s.d)
 ∧w.cell? ⟨b,4,none⟩=some (.int .u32 s.e)∧w.cell? ⟨b,5,none⟩=some (.int .u32 s.f)∧w.cell? ⟨b,6,none⟩=some (.int .u32 s.g)∧w.cell? ⟨b,7,none⟩=some (.int .u32 s.h):=by
 unfold VB at h
 simp[World.cell?,h]
theorem Row.eight {w:World}{b o:Nat}{s:St}(h:Row w b o (s.list.map (Value.int .u32))):w.cell? ⟨b,o,none⟩=some (.int .u32 s.a)∧w.cell? ⟨b,o+1,none⟩=some (.int .u32 s.b)∧w.cell? ⟨b,o+2,none⟩=some (.int .u32 s.c)∧w.cell? ⟨b,o+3,none⟩=some (.int .u32 s.d)
 ∧w.cell? ⟨b,o+4,none⟩=some (.int .u32 s.e)∧w.cell? ⟨b,o+5,none⟩=some (.int .u32 s.f)∧w.cell? ⟨b,o+6,none⟩=some (.int .u32 s.g)∧w.cell? ⟨b,o+7,none⟩=some (.int .u32 s.h):=
 ⟨h.int 0 (by simp[St.list]),h.int 1 (by simp[St.list]),h.int 2 (by simp[St.list]),h.int 3 (by simp[St.list]),h.int 4 (by simp[St.list]),h.int 5 (by simp[St.list]),h.int 6 (by simp[St.list]),h.int 7 (by simp[St.list])⟩
theorem mo:(Tryz.prog.info? 23).map (·.size)=some 1:=by kernel_rfl
theorem VB.src {w:World}{b:Nat}{T:TypeId}{s:St}(h:VB w b T s):∀(j:Nat) (v:Value),([.int .u32 s.a,.int .u32 s.b,.int .u32 s.c,.int .u32 s.d,.int .u32 s.e,.int .u32 s.f,.int .u32 s.g]:List Value)[j]? =some v→w.cell? ((⟨b,0,none⟩:Addr).add j)=some v:=by
 obtain⟨h0,h1,h2,h3,h4,h5,h6,h7⟩:=h.cells
 intro j v hv
 have hadd:(⟨b,0,none⟩:Addr).add j=⟨b,j,none⟩:=by unfold Addr.add;split<;>simp_all
 rw[hadd]
 rcases j with _|_|_|_|_|_|_|j<;>simp at hv<;>subst hv<;>assumption
def shifted(s:St):Array Value:= #[.int .u32 s.a,.int .u32 s.a,.int .u32 s.b,.int .u32 s.c,.int .u32 s.d,.int .u32 s.e,.int .u32 s.f,.int .u32 s.g]
theorem nW{w:World}{ops:Array Oper}{rest:List Oper}{o:Oper}{a:Act}{Q:Exit→Act→World→Prop}(hgd:o.guard=none)(d sr:Operand)
 (ho:o.op= .call {callee:= .builtin .copy,args:= #[d,sr],argTypes:= #[46,46]}) (g:Nat) (c1 c2:Nat)
 (hd:a.eval d= .slice (some ⟨g,1,none⟩) 7 c1) (hs:a.eval sr= .slice (some ⟨g,0,none⟩) 7 c2) (T:TypeId) (s:St) (hv:VB w g T s)
 (h:∀w',w'.heap[g]? =some (.cells (shifted s) T (0,0))→bU (· =g) w w'→wpList Tryz.prog ops Q rest (a.put o.dst (.int .i64 7)) w'):wpList Tryz.prog ops Q (o::rest) a w:=by
 refine wpList_copy_own hgd d sr _ _ ho 23 Tryz.underlying46 mo g 1 7 c1 ⟨g,0,none⟩ 7 c2 hd hs _ T hv _ rfl hv.src (by simp) ?_ ?_
 ·intro v hv;simp at hv;rcases hv with rfl|rfl|rfl|rfl|rfl|rfl|rfl<;>rfl
 ·refine h _ ?_ ⟨rfl,rfl,rfl,by simp[World.setRow],fun k _ hk=>setRow_other _ _ _ _ hk⟩
  rw[setRow_heap _ _ _ _ _ _ hv]
  simp[shifted]
theorem jT{w:World}{g:Nat}{T:TypeId}{s:St}(h:w.heap[g]? =some (.cells (shifted s) T (0,0))):
 w.cell? ⟨g,4,none⟩=some (.int .u32 s.d)∧w.cell? ⟨g,0,none⟩=some (.int .u32 s.a)∧w.frozen? ⟨g,4,none⟩=false∧w.frozen? ⟨g,0,none⟩=false:=by
 simp[World.cell?,World.frozen?,h,shifted]
theorem sf{w:World}{g:Nat}{T:TypeId}{s:St}(h:w.heap[g]? =some (.cells (shifted s) T (0,0)))(x y:Int):
 VB ((w.setCell ⟨g,4,none⟩ (.int .u32 x)).setCell ⟨g,0,none⟩ (.int .u32 y)) g T ⟨y,s.a,s.b,s.c,x,s.e,s.f,s.g⟩:=by
 unfold VB
 rw[heap_setCell_same _ _ _ _ _ _ (heap_setCell_same _ _ _ _ _ _ h)]
 simp[shifted]
theorem VB.row {w:World}{b:Nat}{T:TypeId}{s:St}(h:VB w b T s):Row w b 0 (s.list.map (Value.int .u32)):=fun j v hv=>by
 rw[Nat.zero_add]
 refine⟨?_,frozen_of_row _ _ _ _ _ h⟩
 rw[cell_of_row _ _ _ _ _ _ h]
 simpa[St.list]using hv
def iQ(s t:St)(i:Nat):List Int:=(s.plus t).list.take i++s.list.drop i
theorem dQ(s:St):s.list.length=8:=rfl
theorem dH(s t:St)(i:Nat)(h:i≤8):(iQ s t i).length=8:=by simp[iQ,dQ];omega
theorem kf(s t:St)(i:Nat)(h:i<8):(iQ s t i).getD i 0=s.list.getD i 0:=by
 have :i=0∨i=1∨i=2∨i=3∨i=4∨i=5∨i=6∨i=7:=by omega
 rcases this with rfl|rfl|rfl|rfl|rfl|rfl|rfl|rfl<;>rfl
theorem sg(s t:St)(i:Nat)(h:i<8):(iQ s t i).set i ((s.list.getD i 0+t.list.getD i 0)%4294967296)=iQ s t (i+1):=by
 have :i=0∨i=1∨i=2∨i=3∨i=4∨i=5∨i=6∨i=7:=by omega
 rcases this with rfl|rfl|rfl|rfl|rfl|rfl|rfl|rfl<;>rfl
theorem kg(s t:St):iQ s t 0=s.list:=rfl
theorem qb(s t:St):iQ s t 8=(s.plus t).list:=rfl
theorem oM{w:World}{b o:Nat}{s t:St}{i:Nat}(h:Row w b o ((iQ s t i).map (Value.int .u32)))(hi:i<8):
 Row (w.setCell ⟨b,o+i,none⟩ (.int .u32 ((s.list.getD i 0+t.list.getD i 0)%4294967296))) b o ((iQ s t (i+1)).map (Value.int .u32)):=by
 have :=h.setInt i (by rw[dH _ _ _ (by omega)];exact hi) ((s.list.getD i 0+t.list.getD i 0)%4294967296)
 rwa[sg _ _ _ hi]at this
theorem si{w:World}{g:Nat}{T:TypeId}{s:St}(h:w.heap[g]? =some (.cells (shifted s) T (0,0)))(k xx x y:Int)(hx:x=(s.round k xx).e)(hy:y=(s.round k xx).a):
 VB ((w.setCell ⟨g,4,none⟩ (.int .u32 x)).setCell ⟨g,0,none⟩ (.int .u32 y)) g T (s.round k xx):=by
 subst hx hy;exact sf h _ _
theorem oN(s:St)(hs:s.ok)(l:List Int)(hl:l.length=64)(hb:Bytes l)(bs os bk bb ob cap:Nat)(w:World)
 (hcs:Row w bs os (s.list.map (Value.int .u32))) (hck:Row w bk 0 (jF.map (Value.int .u32))) (hcb:Row w bb ob (l.map (Value.int .u8))):
 Calls Tryz.prog 116 #[.pointer (some ⟨bs,os,none⟩),.pointer (some ⟨bk,0,none⟩),.slice (some ⟨bb,ob,none⟩) 64 cap] w fun e w' =>e= .returned (.tuple #[])∧bU (· =bs) w w'∧Row w' bs os ((compress s l).list.map (Value.int .u32))∧Beside w w' bs os 8:=by
 have Fo:=ae hcs;have Ox:=ae hck;have Ro:=ae hcb;have HB:=ae hb
 clear hcs hck hcb hb
 go_enter Tryz.func116,Tryz.ntmps116
 go_wp2
 go_loopw [18] (fun c wr=>∃i:Nat,i≤64∧c= .int .i64 i∧Keeps w wr∧w.heap.size<wr.heap.size∧Row wr w.heap.size 0 ((dZ l i).map (Value.int .u32))) (fun c _=>(64 -intOf c).toNat)
 case atStart=>exact⟨0,by omega,rfl,(Keeps.refl w).alloc (Nat.le_refl _) _,by simp,Row.new _ _ _ (by simp[dZ,sched])⟩
 case round=>
  obtain⟨i,hi,rfl,hk,hsz,hr⟩:=hrel
  by_cases hlt:i<64
  · by_cases h16:i<16
    · have hcb:=Ro.o.keeps hk
      have c0:=hcb.int (4*i) (by omega)
      have c1:=hcb.int (4*i+1) (by omega)
      have c2:=hcb.int (4*i+2) (by omega)
      have c3:=hcb.int (4*i+3) (by omega)
      have b0:=HB.o.getD (4*i)
      have b1:=HB.o.getD (4*i+1)
      have b2:=HB.o.getD (4*i+2)
      have b3:=HB.o.getD (4*i+3)
      have hd:=hr.aT i (by rw[aS _ _ hi];exact hlt)
      have hf:=hr.bR i (by simp[aS _ _ hi];exact hlt)
      have HR:=ae hr;clear hr hcb
      have HW:Hid (word l i=bits .or .u32 (bits .or .u32 (bits .or .u32 (l.getD (4*i) 0*16777216) (l.getD (4*i+1) 0*65536)) (l.getD (4*i+2) 0*256)) (l.getD (4*i+3) 0)):=ae rfl
      generalize l.getD (4*i) 0=y0 at *
      generalize l.getD (4*i+1) 0=y1 at *
      generalize l.getD (4*i+2) 0=y2 at *
      generalize l.getD (4*i+3) 0=y3 at *
      obtain⟨b00,b01⟩:=b0
      obtain⟨b10,b11⟩:=b1
      obtain⟨b20,Oy⟩:=b2
      obtain⟨Oz,OB⟩:=b3
      go_wp2
      refine aB 35 (by kernel_rfl) (by kernel_rfl) ?_
      simp only[List.take_succ_cons,List.take_zero,List.drop_succ_cons,List.drop_zero]
      repeat(first |go_big_quiet_step (fail)|quiet_step (fail))
      refine wpQuiet_nil ?_
      intro _ hw'
      obtain⟨nq,hw''⟩:=hw'
      subst hw''
      go_wp2
      go_roundw
      case rel=>exact⟨i+1,by omega,by go_num,Below.setCell (hk.trans (Qt.drewN wr nq).keeps) (Nat.le_refl _) _,by simpa using hsz,ke (HR.o.drewN nq) hlt _ (by rw[if_pos h16,HW.o])⟩
      case measure=>simp[intOf];omega
    · have hd:=hr.aT i (by rw[aS _ _ hi];exact hlt)
      have hf:=hr.bR i (by simp[aS _ _ hi];exact hlt)
      have c16:=hr.aT (i -16) (by rw[aS _ _ hi];omega)
      have c7:=hr.aT (i -7) (by rw[aS _ _ hi];omega)
      have c15:=hr.aT (i -15) (by rw[aS _ _ hi];omega)
      have c2:=hr.aT (i -2) (by rw[aS _ _ hi];omega)
      rw[j6 _ _ _ (by omega)]at c16 c7 c15 c2
      have w16:=(bJ l i).getD (i -16)
      have w7:=(bJ l i).getD (i -7)
      have Fp:=(bJ l i).getD (i -15)
      have w2:=(bJ l i).getD (i -2)
      have HR:=ae hr;clear hr
      have HW:Hid (j5 (sched l i) i=((sched l i).getD (i -16) 0+(sched l i).getD (i -7) 0+me ((sched l i).getD (i -15) 0)+mf ((sched l i).getD (i -2) 0))%4294967296):=ae rfl
      generalize(sched l i).getD (i -16) 0=y0 at *
      generalize(sched l i).getD (i -7) 0=y1 at *
      generalize(sched l i).getD (i -15) 0=y2 at *
      generalize(sched l i).getD (i -2) 0=y3 at *
      have W2:=Fp
      have W3:=w2
      obtain⟨b20,Oy⟩:=Fp
      obtain⟨Oz,OB⟩:=w2
      go_wp2
      go_quiet (fail)
      go_wp2
      refine aB 29 (by kernel_rfl) (by kernel_rfl) ?_
      simp only[List.take_succ_cons,List.take_zero,List.drop_succ_cons,List.drop_zero]
      repeat(first |go_big_quiet_step (((go_at_call 135;first |exact s1 (a8 _ _ (by omega) (by omega) (by assumption) _)|exact s2 (a8 _ _ (by omega) (by omega) (by assumption) _)|exact q1 (a8 _ _ (by omega) (by omega) (by assumption) _)|exact q2 (a8 _ _ (by omega) (by omega) (by assumption) _))))|quiet_step (((go_at_call 135;first |exact s1 (a8 _ _ (by omega) (by omega) (by assumption) _)|exact s2 (a8 _ _ (by omega) (by omega) (by assumption) _)|exact q1 (a8 _ _ (by omega) (by omega) (by assumption) _)|exact q2 (a8 _ _ (by omega) (by omega) (by assumption) _)))))
      refine wpQuiet_nil ?_
      intro _ hw'
      obtain⟨nq,hw''⟩:=hw'
      subst hw''
      go_wp2
      go_roundw
      case rel=>exact⟨i+1,by omega,by go_num,Below.setCell (hk.trans ((Qt.drewN wr _).keeps)) (Nat.le_refl _) _,by simpa using hsz,ke (HR.o.drewN _) hlt _ (by rw[if_neg h16,HW.o];unfold me mf;simp)⟩
      case measure=>simp[intOf];omega
  ·obtain rfl:i=64:=by omega
   rw[j7]at hr
   obtain⟨w1,hw1⟩:∃w1,w1=wr:=⟨_,rfl⟩
   subst hw1
   have hcs:Row w1 bs os [.int .u32 s.a,.int .u32 s.b,.int .u32 s.c,.int .u32 s.d,.int .u32 s.e,.int .u32 s.f,.int .u32 s.g,.int .u32 s.h]:=Fo.o.keeps hk
   have hck:=Ox.o.keeps hk
   have Ds:(sched l 64).length=64:=bT l 64
   have hfin:(compress s l).list=(s.plus (rounds s (sched l 64) 64)).list:=rfl
   have xY:=bJ l 64
   generalize sched l 64=ws at *
   have z1:(Tryz.prog.info? 138).map (·.size)=some ([.int .u32 s.a,.int .u32 s.b,.int .u32 s.c,.int .u32 s.d,.int .u32 s.e,.int .u32 s.f,.int .u32 s.g,.int .u32 s.h]:List Value).length:=oL
   have z2:(Tryz.prog.info? 164).map (·.size)=some (ws.map (Value.int .u32)).length:=by rw[aF,Ds];exact se
   have Jm:=ae Ds;have HR:=ae hr;have HC:=ae hcs;have HK:=ae hck;have HF:=ae hfin;have Ln:=ae xY
   have Z1:=ae z1;have Z2:=ae z2;clear z1 z2 Ds hr hcs hck hfin xY
   go_upto_region 9 with(fail)
   go_wp2_with (first |(refine aj rfl 138 (.tmp 97) rfl bs os rfl _ _ (by first |exact HC.o|exact HC.o.alloc _) Tryz.underlying138 rfl Z1.o ?_)|(refine aj rfl 164 (.tmp 6) rfl w.heap.size 0 rfl _ _ (by first |exact HR.o|exact HR.o.alloc _) Tryz.underlying164 rfl Z2.o ?_))
   go_loopw [100] (fun c wr=>∃i:Nat,i≤64∧c= .int .i64 i∧Keeps w wr∧w1.heap.size<wr.heap.size∧VB wr w1.heap.size 138 (rounds s ws i)) (fun c _=>(64 -intOf c).toNat)
   case atStart=>exact⟨0,by omega,rfl,hk.trans ((Keeps.refl w1).alloc (Nat.le_refl _) _),by simp,by unfold VB;exact heap_alloc_new _ _⟩
   case round=>
    obtain⟨i,hi,rfl,hk2,hsz2,hv⟩:=hrel
    by_cases hlt:i<64
    ·obtain⟨v0,v1,v2,v3,v4,v5,v6,v7⟩:=hv.cells
     have hix:∀W:World,(Instr.index 164 (.agg (ws.map (Value.int .u32)).toArray) (.int .i64 (i:Int))).run Tryz.prog W= .ok (.int .u32 (ws.getD i 0)) W:=fun W=>dr W _ _ 64 _ ws i Tryz.underlying164 Tryz.underlying23 (by kernel_rfl) Jm.o hlt
     have hkc:=(Ox.o.keeps hk2).aT i (by rw[qO];exact hlt)
     have hok:=j8 hs ws i
     have hwi:=Ln.o.getD i
     have hkw:=sd.getD i
     have hrd:rounds s ws (i+1)=(rounds s ws i).round (jF.getD i 0) (ws.getD i 0):=rfl
     generalize jF.getD i 0=kk at *
     generalize ws.getD i 0=xx at *
     generalize rounds s ws i=r at *
     obtain⟨ra,rb,rc,rd,re,rf,rg,rh⟩:=r
     have HV:=ae hv;have iX:=ae hrd;clear hv hrd
     obtain⟨o0,o1,o2,o3,o4,o5,o6,o7⟩:=hok
     simp only at v0 v1 v2 v3 v4 v5 v6 v7 o0 o1 o2 o3 o4 o5 o6 o7
     have a0:=o0.1;have a1:=o0.2;have e0:=o4.1;have e1:=o4.2
     go_wp2
     go_quiet (fail)
     go_wp2
     go_quiet (((go_at_call 135;first |exact s1 (a8 _ _ (by omega) (by omega) (by assumption) _)|exact s2 (a8 _ _ (by omega) (by omega) (by assumption) _)|exact q1 (a8 _ _ (by omega) (by omega) (by assumption) _)|exact q2 (a8 _ _ (by omega) (by omega) (by assumption) _))))
     go_wp2
     go_quiet (((go_at_call 135;first |exact s1 (a8 _ _ (by omega) (by omega) (by assumption) _)|exact s2 (a8 _ _ (by omega) (by omega) (by assumption) _)|exact q1 (a8 _ _ (by omega) (by omega) (by assumption) _)|exact q2 (a8 _ _ (by omega) (by omega) (by assumption) _))))
     go_wp2
     refine aB 2 (by kernel_rfl) (by kernel_rfl) ?_
     simp only[List.take_succ_cons,List.take_zero,List.drop_succ_cons,List.drop_zero]
     repeat(first |go_big_quiet_step (fail)|quiet_step (fail))
     refine wpQuiet_nil ?_
     intro _ hw'
     obtain⟨nq,hw''⟩:=hw'
     subst hw''
     go_wp2_with (refine nW rfl (.tmp 162) (.tmp 163) rfl w1.heap.size 7 8 rfl rfl _ ⟨ra,rb,rc,rd,re,rf,rg,rh⟩ HV.o ?_;intro w3 hv3 hc3;obtain⟨x4,x0,f4,f0⟩:=jT hv3;have Cp:=ae hv3;have fT:=ae hc3;clear hv3 hc3)
     go_roundw
     case rel=>
      refine⟨i+1,by omega,by go_num,?_,?_,?_⟩
      ·exact(((((hk2.trans (Qt.keeps (by repeat(first |exact Qt.refl _|exact Qt.drewN _ _|refine Qt.trans ?_ (Qt.drewN _ _))))).aG (· =w1.heap.size)).trans fT.o).setCell (.inr rfl) _).setCell (.inr rfl) _).below (Nat.le_refl _) (fun k hk' e=>by omega)
      · have :=fT.o.size;simp at this⊢;omega
      ·rw[iX.o]
       refine si Cp.o kk xx _ _ ?_ ?_
       ·simp only[St.round,qa,mh,Fn];omega
       ·simp only[St.round,qa,AQ,mh,sb,Fn,AO];omega
     case measure=>simp[intOf];omega
    ·obtain rfl:i=64:=by omega
     obtain⟨w2,hw2⟩:∃w2,w2=wr:=⟨_,rfl⟩
     subst hw2
     have hbs:bs<w.heap.size:=Fo.o.lt (by simp[St.list])
     have hne:bs≠w1.heap.size:=by have :=hk.size;omega
     have hrow:=Fo.o.keeps hk2
     have OC:=hv.row
     generalize rounds s ws 64=r at *
     rw[←kg s r]at hrow
     have HRW:=ae hrow;have HV:=ae OC
     clear hrow hv OC
     go_wp2
     go_loopw [175] (fun c wr=>∃i:Nat,i≤8∧c= .int .i64 i∧bU (· =bs) w wr∧Row wr bs os ((iQ s r i).map (Value.int .u32))∧Row wr w1.heap.size 0 (r.list.map (Value.int .u32))∧Hid (Beside w wr bs os 8)) (fun c _=>(8 -intOf c).toNat)
     case atStart=>exact⟨0,by omega,rfl,hk2.aG _,HRW.o,HV.o,ae (Beside.keeps hk2 hbs _ _)⟩
     case round=>
      obtain⟨i,hi,rfl,hch,hr1,hr2,Jn⟩:=hrel
      by_cases hlt:i<8
      · have c1:=hr1.int i (by rw[dH _ _ _ hi];exact hlt)
        rw[kf _ _ _ hlt]at c1
        have f1:=hr1.free i (by rw[aF,dH _ _ _ hi];exact hlt)
        have c2:=hr2.aT i (by rw[dQ];exact hlt)
        have R1:=ae hr1;have R2:=ae hr2;have dF:=ae hch;clear hr1 hr2 hch
        have HM:=ae (fun(W:World) (hW:Row W bs os ((iQ s r i).map (Value.int .u32)))=>oM hW hlt)
        generalize s.list.getD i 0=x1 at *
        generalize r.list.getD i 0=x2 at *
        go_wp2
        refine aB 11 (by kernel_rfl) (by kernel_rfl) ?_
        simp only[List.take_succ_cons,List.take_zero,List.drop_succ_cons,List.drop_zero]
        repeat(first |go_big_quiet_step (fail)|quiet_step (fail))
        refine wpQuiet_nil ?_
        intro _ hw'
        obtain⟨nq,hw''⟩:=hw'
        subst hw''
        go_wp2
        go_roundw
        case rel=>exact⟨i+1,by omega,by go_num,(dF.o.trans (Keeps.aG (Qt.keeps (by repeat(first |exact Qt.refl _|exact Qt.drewN _ _|refine Qt.trans ?_ (Qt.drewN _ _)))) _)).setCell (.inr rfl) _,HM.o _ (R1.o.drewN _),(R2.o.drewN _).other hne.symm _,ae (Jn.o.trans (Beside.trans (b:=wr.drewN _) (Beside.of_block rfl _ _) (Beside.setCell hlt _)))⟩
        case measure=>simp[intOf];omega
      ·obtain rfl:i=8:=by omega
       rw[qb]at hr1
       have RH:Hid (Row wr bs os ((compress s l).list.map (Value.int .u32))):=by rw[HF.o];exact hr1
       have dF:=ae hch
       clear hr1 hr2 hch
       go_wp2
       go_end0
       exact⟨rfl,dF.o,RH.o,Jn.o⟩
end Go.Proofs.YtlofddoojkeakaaGreatDoor
