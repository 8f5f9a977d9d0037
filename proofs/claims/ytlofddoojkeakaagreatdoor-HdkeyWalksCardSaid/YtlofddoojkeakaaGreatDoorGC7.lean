/- hash.Sum's Add: what has come so far, and more: the state is that of all whole blocks, what waits is the rest.. -/
import Derived.Test.YtlofddoojkeakaaGreatDoorGA2
import Derived.Deep.Cut
import Derived.Deep.LoopGhost
set_option maxRecDepth 100000
set_option maxHeartbeats 800000
set_option linter.unusedVariables false
set_option linter.unusedSimpArgs false
namespace Go.Proofs.YtlofddoojkeakaaGreatDoor
open Go Go.RowKit
theorem Rd.MP {S:Nat→Prop}{w w':World}{size:Nat}{v:Value}{n:Nat}{xs:List Value}(h:Rd w size v n xs)(hc:bU S w w')(hs:0<n→∀g,v.ownBlock=some g→¬S g):Rd w' size v n xs:=by
 obtain⟨h0,a,cap,rfl,h2,h3,h4,h5⟩:=h
 refine⟨h0,a,cap,rfl,h2,h3,h4,fun ad e hn=> ?_⟩
 obtain⟨g,off,e2,hg,hr⟩:=h5 ad e hn
 subst e e2
 exact⟨g,off,rfl,Nat.lt_of_lt_of_le hg hc.size,hr.aG hc (hs hn g rfl)⟩
theorem Rd.MQ {w:World}{size:Nat}{v:Value}{n:Nat}{xs:List Value}(h:Rd w size v n xs)(hn:0<n):∀g,v.ownBlock=some g→g<w.heap.size:=by
 obtain⟨h0,a,cap,rfl,h2,h3,h4,h5⟩:=h
 intro g hg
 cases a with
 |none=>have :=(h4 rfl).1;omega
 |some ad=>
  obtain⟨g',off,e2,hg',_⟩:=h5 ad rfl hn
  subst e2
  have e3:g' =g:=Option.some.inj hg
  omega
structure jv (w:World) (b o:Nat) (wv:Value) (l:List Int):Prop where
 bytes:Bytes l
 small:l.length<1152921504606846976
 st:∃(st:St) (bg:Bool),st.ok∧(bg=true∧st=bO dN l (l.length/64)∨bg=false∧l=[])∧Row w b o (st.list.map (Value.int .u32)++[wv,.int .u64 l.length,.bool bg])
 buf:Buf w 1 wv (l.length%64) ((l.drop (64*(l.length/64))).map (Value.int .u8))
 apart:wv.ownBlock≠some b
def pB(w w':World)(b o:Nat)(wv:Value)(l:List Int):Prop:=
 ∃wv',jv w' b o wv' l∧bU (fun k=>k=b∨wv.ownBlock=some k) w w'∧∀g,wv'.ownBlock=some g→wv.ownBlock=some g∨w.heap.size≤g
theorem MR:(Tryz.prog.info? 138).map (·.size)=some 8:=oL
structure Ia (W0 W:World) (b o:Nat) (wv:Value) (l:List Int) (a:Option Addr) (m cap:Nat) (zs:List Int):Prop where
 aG:bU (fun k=>k=b∨wv.ownBlock=some k) W0 W
 row:Row W b o ((bO dN l (l.length/64)).list.map (Value.int .u32)++[wv,.int .u64 l.length,.bool true])
 buf:Buf W 1 wv (l.length%64) ((l.drop (64*(l.length/64))).map (Value.int .u8))
 rd:Rd W 1 (.slice a m cap) m (zs.map (Value.int .u8))
structure Mid (W0 W:World) (b o:Nat) (wv:Value) (wn:Nat) (ws:List Int) (s:St) (N:Int) (v:Value) (m:Nat) (zs:List Int):Prop where
 aG:bU (fun k=>k=b∨wv.ownBlock=some k) W0 W
 row:Row W b o (s.list.map (Value.int .u32)++[wv,.int .u64 N,.bool true])
 buf:Buf W 1 wv wn (ws.map (Value.int .u8))
 rd:Rd W 1 v m (zs.map (Value.int .u8))
structure U9 (W0 W:World) (b o:Nat) (wb:Option Nat) (v:Value) (n:Nat) (L:List Int) (s:St) (N:Int):Prop where
 aG:bU (fun k=>k=b∨wb=some k) W0 W
 row:Row W b o (s.list.map (Value.int .u32)++[v,.int .u64 N,.bool true])
 buf:Buf W 1 v n (L.map (Value.int .u8))
 ne:v.ownBlock≠some b
 old:∀g,v.ownBlock=some g→wb=some g∨W0.heap.size≤g
structure Lp (W0 W:World) (b o bk:Nat) (wb:Option Nat) (L:List Int) (s:St) (N:Int) (i:Nat) (a:Option Addr) (n c:Nat):Prop where
 aG:bU (fun k=>k=b∨wb=some k) W0 W
 row:Row W b o ((bO s L i).list.map (Value.int .u32)++[.slice a n c,.int .u64 N,.bool true])
 buf:Buf W 1 (.slice a n c) n ((L.drop (64*i)).map (Value.int .u8))
 ne:(Value.slice a n c).ownBlock≠some b
 WU:(Value.slice a n c).ownBlock≠some bk
 old:∀g,(Value.slice a n c).ownBlock=some g→wb=some g∨W0.heap.size≤g
 key:Row W bk 0 (jF.map (Value.int .u32))
 new:W0.heap.size≤bk
 nb:bk≠b
 len:n+64*i=L.length
 cap:n≤c∧c≤maxLen
theorem Lp.next {W0 W w4:World}{b o bk:Nat}{wb:Option Nat}{L:List Int}{s:St}{N:Int}{i:Nat}{a:Option Addr}{n c:Nat}(h:Lp W0 W b o bk wb L s N i a n c)
 (hst:Row w4 b o ((bO s L (i+1)).list.map (Value.int .u32)++[.slice a n c,.int .u64 N,.bool true])) (hc4:bU (· =b) W w4) (a':Option Addr) (n' c':Nat)
 (hbuf:Buf W 1 (.slice a' n' c') n' ((L.drop (64*(i+1))).map (Value.int .u8))) (hob:(Value.slice a' n' c').ownBlock=(Value.slice a n c).ownBlock) (hn:n' +64=n) (hcap:n'≤c'∧c'≤maxLen):
 Lp W0 (w4.setCell ⟨b,o+8,none⟩ (.slice a' n' c')) b o bk wb L s N (i+1) a' n' c':=by
 have hc:bU (· =b) W (w4.setCell ⟨b,o+8,none⟩ (.slice a' n' c')):=hc4.setCell (p:=⟨b,o+8,none⟩) (.inr rfl) _
 have hne:(Value.slice a' n' c').ownBlock≠some b:=by rw[hob];exact h.ne
 exact⟨h.aG.trans (hc.mono (fun k _ e=> .inl e)),hst.set 8 (by simp[St.list]) _,hbuf.aG hc (fun g hg e=>hne (by rw[hg,e])),hne,by rw[hob];exact h.WU,fun g hg=>h.old g (by rw[←hob];exact hg),
  h.key.aG hc h.nb,h.new,h.nb,by have :=h.len;omega,hcap⟩
theorem xy(b o:Nat)(wa:Option Addr)(wn wc:Nat)(l:List Int)(a:Option Addr)(m cap:Nat)(zs:List Int)(w:World)(st:St)(hst:st=bO dN l (l.length/64))
 (hby:Bytes l) (hlen:l.length<1152921504606846976) (hrow:Row w b o (st.list.map (Value.int .u32)++[.slice wa wn wc,.int .u64 l.length,.bool true]))
 (hbuf:Buf w 1 (.slice wa wn wc) (l.length%64) ((l.drop (64*(l.length/64))).map (Value.int .u8))) (hap:(Value.slice wa wn wc).ownBlock≠some b)
 (hr:Rd w 1 (.slice a m cap) m (zs.map (Value.int .u8)))
 (hz:Bytes zs) (hm:m≤70368744177664) (hsm:l.length+m<1152921504606846976) (hne:0<m→(Value.slice a m cap).ownBlock≠some b):
 Calls Tryz.prog 80 #[.pointer (some ⟨b,o,none⟩),.slice a m cap] w fun e w' =>e= .returned (.tuple #[])∧pB w w' b o (.slice wa wn wc) (l++zs):=by
 have hzl:zs.length=m:=by simpa using hr.1
 subst hst
 have c10:=(hrow 10 _ rfl).1
 have HB0:Hid (Ia w w b o (.slice wa wn wc) l a m cap zs):=ae ⟨bU.refl _ _,hrow,hbuf,hr⟩
 have Jz:=ae hby;have HZ:=ae hz;have Ib:=ae hzl;have xT:=ae hap;have JY:=ae hne
 clear hby hz hzl hrow hbuf hr hap hne
 go_enter Tryz.func80,Tryz.ntmps80
 go_upto_region 2 with(fail)
 refine cf (fun W=>Ia w W b o (.slice wa wn wc) l a m cap zs) HB0.o (fun W hW=> ?_)
 clear HB0 c10
 obtain⟨hch,hrow,hbuf,hrd⟩:=hW
 have c8:=(hrow 8 _ rfl).1
 have c9:=(hrow 9 _ rfl).1
 have f8:=(hrow 8 _ rfl).2
 have f9:=(hrow 9 _ rfl).2
 have hwn:wn=l.length%64:=by
  rcases hbuf.2 with⟨h,h0⟩|⟨g,off,cp,sp,h,_⟩
  · cases h;exact h0.symm
  · cases h;rfl
 have PW:wn<64:=by omega
 rw[←hwn]at hbuf
 have bY:=ae hrow;have ln:=ae hbuf;have iX:=ae hrd;have dF:=ae hch;have JZ:=ae hwn
 clear hrow hbuf hrd hch hwn
 obtain⟨i0,hi,hz0,hz1,hz2⟩:=info_parts jI
 go_upto_region 3 with(fail)
 have hb':b<W.heap.size:=by have :=block_lt_of_cell c8;exact this
 refine cf (fun W1=>Mid w W1 b o (.slice wa wn wc) wn (l.drop (64*(l.length/64))) (bO dN l (l.length/64)) ((l.length:Int)+(m:Int)) (.slice a m cap) m zs) ⟨dF.o.setCell (.inr (.inl rfl)) _,bY.o.set 9 (by simp[St.list]) _,
  ln.o.aG ((bU.refl (· =b) W).setCell (p:=⟨b,o+9,none⟩) (.inr rfl) _) (fun g hg e=>xT.o (by rw[hg,e])),iX.o.MP ((bU.refl (· =b) W).setCell (p:=⟨b,o+9,none⟩) (.inr rfl) _) (fun h0 g hg e=>JY.o h0 (by rw[hg,e]))⟩ (fun W1 hW1=> ?_)
 clear c8 c9 f8 f9 bY ln iX dF hb'
 obtain⟨hch,hrow,hbuf,hrd⟩:=hW1
 have c8:=(hrow 8 _ rfl).1
 have f8:=(hrow 8 _ rfl).2
 have bY:=ae hrow;have ln:=ae hbuf;have iX:=ae hrd;have dF:=ae hch
 clear hrow hbuf hrd hch
 go_upto_region 4 with(at_builtin;refine en rfl (.tmp 31) (.tmp 32) 44 44 rfl 5 i0 (.int .u8 0) 1 1 Tryz.underlying44 hi hz0 hz1 hz2 rfl (by decide) _ wn _ rfl ln.o _ rfl m _ (iX.o.src Tryz.underlying44 (ai zs)) (by unfold maxLen;omega) (by omega) ?_;intro v3 W3 hb3 hc3 hs3 hnn;clear hnn;rw[←List.map_append]at hb3;obtain⟨a3,cap3,rfl,Ic,MS,hn3,MT⟩:=hb3.any;clear MT hn3;have BG:bU (fun k=>(Value.slice wa wn wc).ownBlock=some k) W1 W3:=hc3;have Id:gG W1 (Value.slice wa wn wc) (Value.slice a3 (wn+m) cap3):=hs3;have q8:=(bY.o.aG BG (fun e=>xT.o e)) 8 _ rfl;have g8:=q8.1;have k8:=q8.2;clear q8;have HB3:=ae hb3;have fT:=ae BG;have Dd:=ae Id;clear hb3 hc3 hs3 BG Id)
 have hL:(l.drop (64*(l.length/64))++zs).length=wn+m:=by rw[List.length_append,List.length_drop,Ib.o,JZ.o];omega
 have hb1:b<W1.heap.size:=block_lt_of_cell c8
 have xA:(Value.slice a3 (wn+m) cap3).ownBlock≠some b:=by
  rcases Dd.o with h|⟨g,h,hg⟩
  ·rw[h];exact xT.o
  ·rw[h];intro e;cases e;omega
 have zH:∀g,(Value.slice a3 (wn+m) cap3).ownBlock=some g→(Value.slice wa wn wc).ownBlock=some g∨w.heap.size≤g:=by
  intro g hg
  rcases Dd.o with h|⟨g',h,hg'⟩
  ·exact .inl (by rw[←h,hg])
  ·rw[hg]at h;cases h;exact .inr (Nat.le_trans dF.o.size hg')
 refine cf (fun W4=>U9 w W4 b o (Value.slice wa wn wc).ownBlock (.slice a3 (wn+m) cap3) (wn+m) (l.drop (64*(l.length/64))++zs) (bO dN l (l.length/64)) ((l.length:Int)+(m:Int)))
  ⟨(dF.o.trans (fT.o.mono (fun k _ h=> .inr h))).setCell (.inr (.inl rfl)) _,(bY.o.aG fT.o (fun e=>xT.o e)).set 8 (by simp[St.list]) _,HB3.o.aG ((bU.refl (· =b) W3).setCell (p:=⟨b,o+8,none⟩) (.inr rfl) _) (fun g hg e=>xA (by rw[hg,e])),xA,zH⟩ (fun W4 Tm=> ?_)
 clear c8 f8 g8 k8 bY ln iX dF HB3 fT Dd xA zH
 obtain⟨hch,hrow,hbuf,BH,zI⟩:=Tm
 have bY:=ae hrow;have ln:=ae hbuf;have dF:=ae hch;have Ie:=ae BH;have zJ:=ae zI;have Lz:=ae hL
 clear hrow hbuf hch BH zI hL
 go_wp2_with (first |(go_at_call 115;refine(x8 _).mono ?_;rintro e W5 ⟨rfl,hk5⟩;have cG:=ae hk5;clear hk5)|(refine wpList_store_row rfl 164 (.tmp 4) (.tmp 36) rfl W5.heap.size 0 rfl (List.replicate 64 (Value.int .u32 0)) (jF.map (Value.int .u32)) rfl (Row.new _ _ _ rfl) (by kernel_rfl) (by kernel_rfl) (ai _) ?_;intro W6 eD hc6;have dM:=ae eD;have gC:=ae hc6;clear eD hc6))
 have J0:Keeps W4 W6:=bU.keeps (((cG.o.aG (· =W5.heap.size)).alloc _).trans gC.o) (fun k hk e=>by have :=cG.o.size;omega)
 have hsz5:=cG.o.size
 have hb4:b<W4.heap.size:=bY.o.lt (by simp[St.list])
 have h0:Lp w W6 b o W5.heap.size (Value.slice wa wn wc).ownBlock (l.drop (64*(l.length/64))++zs) (bO dN l (l.length/64)) ((l.length:Int)+(m:Int)) 0 a3 (wn+m) cap3:=
  ⟨dF.o.trans (J0.aG _),bY.o.keeps J0,ln.o.keeps J0,Ie.o,fun e=>by have :=ln.o.lt e;omega,zJ.o,dM.o,Nat.le_trans dF.o.size hsz5,by omega,by rw[Lz.o];rfl,Ic,MS⟩
 have H0:=ae h0;clear h0 J0
 generalize hwb:(Value.slice wa wn wc).ownBlock=wb at *
 have hfin:bO (bO dN l (l.length/64)) (l.drop (64*(l.length/64))++zs) ((wn+m)/64)=bO dN (l++zs) ((l++zs).length/64):=by
  rw[qP];congr 1;rw[List.length_append,Ib.o];have :=JZ.o;omega
 have hdr:(l.drop (64*(l.length/64))++zs).drop (64*((wn+m)/64))=(l++zs).drop (64*((l++zs).length/64)):=by
  have e1:(l++zs).length/64=l.length/64+(wn+m)/64:=by rw[List.length_append,Ib.o];have :=JZ.o;omega
  have e2:(l++zs).drop (64*(l.length/64))=l.drop (64*(l.length/64))++zs:=List.drop_append_of_le_length (by omega)
  rw[e1,Nat.mul_add,←List.drop_drop,e2]
 have hbl:Bytes (l.drop (64*(l.length/64))++zs):=fun x hx=>by
  rcases List.mem_append.1 hx with h|h
  ·exact Jz.o x (List.mem_of_mem_drop h)
  ·exact HZ.o x h
 have jX:=ae hfin;have HDR:=ae hdr;have rO:=ae hbl;have PX:=ae hwb;clear hfin hdr hbl hwb
 have hok0:=gF j9 l (l.length/64)
 generalize l.drop (64*(l.length/64))++zs=L at *
 generalize bO dN l (l.length/64)=s0 at *
 have MU:=ae hok0;clear hok0
 clear ln bY Ie zJ cG dM gC hsz5 hb4
 go_frame
 go_loopg [43] ((wn+m)/64) (fun gk s43 wr=>∃(i:Nat) (a:Option Addr) (n c:Nat),i+gk=(wn+m)/64∧Lp w wr b o W5.heap.size wb L s0 ((l.length:Int)+(m:Int)) i a n c)
 case atStart=>exact⟨0,a3,wn+m,cap3,by omega,H0.o⟩
 case round=>
  obtain⟨i,aa,n,c,hig,hlp⟩:=hrel
  have PY:=ae hlp
  obtain⟨l1,l2,l3,l4,l5,l6,l7,l8,l9,l10,Tn⟩:=hlp
  have hll:=Lz.o
  have c8:=(l2 8 _ rfl).1
  have f8:=(l2 8 _ rfl).2
  by_cases h64:64≤n
  ·obtain⟨g,off,cc,he,_,_,hg,hrg⟩:=l3.form (.inr (by omega))
   obtain⟨rfl,rfl⟩:aa=some ⟨g,off,none⟩∧c=cc:=by cases he;exact⟨rfl,rfl⟩
   clear he
   have hx:Row wr g off (((L.drop (64*i)).take 64).map (Value.int .u8)):=by rw[List.map_take];exact hrg.take 64
   have hxl:((L.drop (64*i)).take 64).length=64:=by simp;omega
   have hxb:Bytes ((L.drop (64*i)).take 64):=fun x hx=>rO.o x (List.mem_of_mem_drop (List.mem_of_mem_take hx))
   have hstep:=fun nq=>oN (bO s0 L i) (gF MU.o L i) _ hxl hxb b o W5.heap.size g off c (wr.drewN nq) ((l2.take 8).drewN nq) (l7.drewN nq) (hx.drewN nq)
   have HST:=ae hstep;have L1:=ae l1;have L2:=ae l2;have L3:=ae l3;have L4:=ae l4;have L5:=ae l5;have L6:=ae l6;have L7:=ae l7;have J1:=ae l10;have qw:=ae hll
   clear hstep l1 l2 l3 l4 l5 l6 l7 l10 hll hx hxl hxb hrg
   obtain⟨Tp,Tq⟩:=Tn
   by_cases hc:c=64
   ·obtain rfl:n=64:=by omega
    subst hc
    go_wp2
    refine aB 8 (by kernel_rfl) (by kernel_rfl) ?_
    simp only[List.take_succ_cons,List.take_zero,List.drop_succ_cons,List.drop_zero]
    repeat(first |go_big_quiet_step (fail)|quiet_step (fail))
    refine wpQuiet_nil ?_
    intro _ hw'
    obtain⟨nq,hw''⟩:=hw'
    subst hw''
    go_wp2_with (go_at_call 116;refine(HST.o _).mono ?_;rintro e w4 ⟨rfl,hc4,hr4,hb4⟩;have q4:=L2.o.patch (w:=wr) 0 hr4 (Beside.trans (b:=wr.drewN nq) (Beside.of_block rfl _ _) hb4) (by simp[St.list]);have d8:=(q4 8 _ rfl).1;have Tr:=(q4 8 _ rfl).2;have Q4:=ae q4;have ky:=ae hc4;clear q4 hc4 hr4 hb4)
    go_roundg (gk -1)
    case measure=>have e1:=J1.o;have e2:=qw.o;omega
    case rel=>
     have e1:=J1.o
     have e2:=qw.o
     have hbf:=L3.o.xZ
     simp only[←List.map_drop,List.drop_drop,show 64*i+64=64*(i+1) by omega]at hbf
     exact⟨i+1,_,_,_,by omega,PY.o.next Q4.o ((bU.drewN (bU.refl _ wr) nq).trans ky.o) _ _ _ hbf rfl (by omega) ⟨Nat.le_refl _,Nat.zero_le _⟩⟩
   · have hc':64<c:=by omega
     clear hc
     go_wp2
     refine aB 8 (by kernel_rfl) (by kernel_rfl) ?_
     simp only[List.take_succ_cons,List.take_zero,List.drop_succ_cons,List.drop_zero]
     repeat(first |go_big_quiet_step (fail)|quiet_step (fail))
     refine wpQuiet_nil ?_
     intro _ hw'
     obtain⟨nq,hw''⟩:=hw'
     subst hw''
     go_wp2_with (go_at_call 116;refine(HST.o _).mono ?_;rintro e w4 ⟨rfl,hc4,hr4,hb4⟩;have q4:=L2.o.patch (w:=wr) 0 hr4 (Beside.trans (b:=wr.drewN nq) (Beside.of_block rfl _ _) hb4) (by simp[St.list]);have d8:=(q4 8 _ rfl).1;have Tr:=(q4 8 _ rfl).2;have Q4:=ae q4;have ky:=ae hc4;clear q4 hc4 hr4 hb4)
     go_roundg (gk -1)
     case measure=>have e1:=J1.o;have e2:=qw.o;omega
     case rel=>
      have e1:=J1.o
      have e2:=qw.o
      have hbf:=L3.o.tail (k:=64) h64
      simp only[←List.map_drop,List.drop_drop,show 64*i+64=64*(i+1) by omega]at hbf
      exact⟨i+1,_,_,_,by omega,PY.o.next Q4.o ((bU.drewN (bU.refl _ wr) nq).trans ky.o) _ _ _ hbf rfl (by omega) ⟨by omega,by omega⟩⟩
  · have hgk:gk=0:=by omega
    subst hgk
    have HLEN:=ae l10;have L1:=ae l1;have L2:=ae l2;have L3:=ae l3;have L4:=ae l4;have L6:=ae l6;have qw:=ae hll;have Ts:=ae hig
    clear l1 l2 l3 l4 l5 l6 l7 l10 hll hig
    go_wp2
    go_end0
    have e0:=Ts.o
    have e1:=HLEN.o
    have e2:=qw.o
    have e4:=Ib.o
    have e5:=JZ.o
    have hi1:i=(wn+m)/64:=by omega
    subst hi1
    have hN:((l++zs).length:Int)=(l.length:Int)+(m:Int):=by rw[List.length_append,e4];omega
    have hnn:n=(l++zs).length%64:=by rw[List.length_append,e4];omega
    refine⟨rfl,_,⟨?_,by rw[List.length_append,e4];exact hsm,⟨_,true,gF j9 _ _,.inl ⟨rfl,rfl⟩,?_⟩,?_,L4.o⟩,?_,?_⟩
    ·intro x hx
     rcases List.mem_append.1 hx with h|h
     ·exact Jz.o x h
     ·exact HZ.o x h
    ·rw[hN,←jX.o];exact L2.o
    ·rw[←hnn,←HDR.o];exact L3.o
    ·rw[PX.o];exact L1.o
    ·rw[PX.o];exact L6.o
theorem zK(b o:Nat)(wa:Option Addr)(wn wc:Nat)(l:List Int)(a:Option Addr)(m cap:Nat)(zs:List Int)(w:World)(st:St)(hl0:l=[])
 (hby:Bytes l) (hlen:l.length<1152921504606846976) (hrow:Row w b o (st.list.map (Value.int .u32)++[.slice wa wn wc,.int .u64 l.length,.bool false]))
 (hbuf:Buf w 1 (.slice wa wn wc) (l.length%64) ((l.drop (64*(l.length/64))).map (Value.int .u8))) (hap:(Value.slice wa wn wc).ownBlock≠some b)
 (hr:Rd w 1 (.slice a m cap) m (zs.map (Value.int .u8)))
 (hz:Bytes zs) (hm:m≤70368744177664) (hsm:l.length+m<1152921504606846976) (hne:0<m→(Value.slice a m cap).ownBlock≠some b):
 Calls Tryz.prog 80 #[.pointer (some ⟨b,o,none⟩),.slice a m cap] w fun e w' =>e= .returned (.tuple #[])∧pB w w' b o (.slice wa wn wc) (l++zs):=by
 have hzl:zs.length=m:=by simpa using hr.1
 have c10:=(hrow 10 _ rfl).1
 have Jz:=ae hby;have HZ:=ae hz;have Ib:=ae hzl;have xT:=ae hap;have JY:=ae hne;have WW:=ae hl0
 have HRW:=ae hrow;have Va:=ae hbuf;have HRR:=ae hr
 clear hby hz hzl hrow hbuf hr hap hne hl0
 go_enter Tryz.func80,Tryz.ntmps80
 go_upto_region 2 with(first |(go_at_call 114;refine(Dt _).mono ?_;rintro e W5 ⟨rfl,hk5⟩;have cG:=ae hk5;clear hk5)|(refine oO rfl 138 (.tmp 14) (.tmp 12) rfl b o 0 rfl _ (dN.list.map (Value.int .u32)) rfl (HRW.o.keeps cG.o) (by simp[St.list]) (by kernel_rfl) (ai _) ?_;intro W6 eD hc6;have d10:=(eD 10 _ rfl).1;have Tt:=(eD 10 _ rfl).2;have dM:=ae eD;have gC:=ae hc6;clear eD hc6))
 have J2:bU (· =b) w (W6.setCell ⟨b,o+10,none⟩ (.bool true)):=((cG.o.aG _).trans gC.o).setCell (p:=⟨b,o+10,none⟩) (.inr rfl) _
 refine cf (fun W=>Ia w W b o (.slice wa wn wc) l a m cap zs)
  ⟨J2.mono (fun k _ e=> .inl e),by have e0:bO dN l (l.length/64)=dN:=by rw[WW.o];rfl
                                   rw[e0];exact dM.o.set 10 (by simp[St.list]) _,Va.o.aG J2 (fun g hg e=>xT.o (by rw[hg,e])),HRR.o.MP J2 (fun h0 g hg e=>JY.o h0 (by rw[hg,e]))⟩ (fun W hW=> ?_)
 clear c10 d10 Tt cG gC dM J2 HRW Va HRR
 obtain⟨hch,hrow,hbuf,hrd⟩:=hW
 have c8:=(hrow 8 _ rfl).1
 have c9:=(hrow 9 _ rfl).1
 have f8:=(hrow 8 _ rfl).2
 have f9:=(hrow 9 _ rfl).2
 have hwn:wn=l.length%64:=by
  rcases hbuf.2 with⟨h,h0⟩|⟨g,off,cp,sp,h,_⟩
  · cases h;exact h0.symm
  · cases h;rfl
 have PW:wn<64:=by omega
 rw[←hwn]at hbuf
 have bY:=ae hrow;have ln:=ae hbuf;have iX:=ae hrd;have dF:=ae hch;have JZ:=ae hwn
 clear hrow hbuf hrd hch hwn
 obtain⟨i0,hi,hz0,hz1,hz2⟩:=info_parts jI
 go_upto_region 3 with(fail)
 have hb':b<W.heap.size:=by have :=block_lt_of_cell c8;exact this
 refine cf (fun W1=>Mid w W1 b o (.slice wa wn wc) wn (l.drop (64*(l.length/64))) (bO dN l (l.length/64)) ((l.length:Int)+(m:Int)) (.slice a m cap) m zs) ⟨dF.o.setCell (.inr (.inl rfl)) _,bY.o.set 9 (by simp[St.list]) _,
  ln.o.aG ((bU.refl (· =b) W).setCell (p:=⟨b,o+9,none⟩) (.inr rfl) _) (fun g hg e=>xT.o (by rw[hg,e])),iX.o.MP ((bU.refl (· =b) W).setCell (p:=⟨b,o+9,none⟩) (.inr rfl) _) (fun h0 g hg e=>JY.o h0 (by rw[hg,e]))⟩ (fun W1 hW1=> ?_)
 clear c8 c9 f8 f9 bY ln iX dF hb'
 obtain⟨hch,hrow,hbuf,hrd⟩:=hW1
 have c8:=(hrow 8 _ rfl).1
 have f8:=(hrow 8 _ rfl).2
 have bY:=ae hrow;have ln:=ae hbuf;have iX:=ae hrd;have dF:=ae hch
 clear hrow hbuf hrd hch
 go_upto_region 4 with(at_builtin;refine en rfl (.tmp 31) (.tmp 32) 44 44 rfl 5 i0 (.int .u8 0) 1 1 Tryz.underlying44 hi hz0 hz1 hz2 rfl (by decide) _ wn _ rfl ln.o _ rfl m _ (iX.o.src Tryz.underlying44 (ai zs)) (by unfold maxLen;omega) (by omega) ?_;intro v3 W3 hb3 hc3 hs3 hnn;clear hnn;rw[←List.map_append]at hb3;obtain⟨a3,cap3,rfl,Ic,MS,hn3,MT⟩:=hb3.any;clear MT hn3;have BG:bU (fun k=>(Value.slice wa wn wc).ownBlock=some k) W1 W3:=hc3;have Id:gG W1 (Value.slice wa wn wc) (Value.slice a3 (wn+m) cap3):=hs3;have q8:=(bY.o.aG BG (fun e=>xT.o e)) 8 _ rfl;have g8:=q8.1;have k8:=q8.2;clear q8;have HB3:=ae hb3;have fT:=ae BG;have Dd:=ae Id;clear hb3 hc3 hs3 BG Id)
 have hL:(l.drop (64*(l.length/64))++zs).length=wn+m:=by rw[List.length_append,List.length_drop,Ib.o,JZ.o];omega
 have hb1:b<W1.heap.size:=block_lt_of_cell c8
 have xA:(Value.slice a3 (wn+m) cap3).ownBlock≠some b:=by
  rcases Dd.o with h|⟨g,h,hg⟩
  ·rw[h];exact xT.o
  ·rw[h];intro e;cases e;omega
 have zH:∀g,(Value.slice a3 (wn+m) cap3).ownBlock=some g→(Value.slice wa wn wc).ownBlock=some g∨w.heap.size≤g:=by
  intro g hg
  rcases Dd.o with h|⟨g',h,hg'⟩
  ·exact .inl (by rw[←h,hg])
  ·rw[hg]at h;cases h;exact .inr (Nat.le_trans dF.o.size hg')
 refine cf (fun W4=>U9 w W4 b o (Value.slice wa wn wc).ownBlock (.slice a3 (wn+m) cap3) (wn+m) (l.drop (64*(l.length/64))++zs) (bO dN l (l.length/64)) ((l.length:Int)+(m:Int)))
  ⟨(dF.o.trans (fT.o.mono (fun k _ h=> .inr h))).setCell (.inr (.inl rfl)) _,(bY.o.aG fT.o (fun e=>xT.o e)).set 8 (by simp[St.list]) _,HB3.o.aG ((bU.refl (· =b) W3).setCell (p:=⟨b,o+8,none⟩) (.inr rfl) _) (fun g hg e=>xA (by rw[hg,e])),xA,zH⟩ (fun W4 Tm=> ?_)
 clear c8 f8 g8 k8 bY ln iX dF HB3 fT Dd xA zH
 obtain⟨hch,hrow,hbuf,BH,zI⟩:=Tm
 have bY:=ae hrow;have ln:=ae hbuf;have dF:=ae hch;have Ie:=ae BH;have zJ:=ae zI;have Lz:=ae hL
 clear hrow hbuf hch BH zI hL
 go_wp2_with (first |(go_at_call 115;refine(x8 _).mono ?_;rintro e W5 ⟨rfl,hk5⟩;have cG:=ae hk5;clear hk5)|(refine wpList_store_row rfl 164 (.tmp 4) (.tmp 36) rfl W5.heap.size 0 rfl (List.replicate 64 (Value.int .u32 0)) (jF.map (Value.int .u32)) rfl (Row.new _ _ _ rfl) (by kernel_rfl) (by kernel_rfl) (ai _) ?_;intro W6 eD hc6;have dM:=ae eD;have gC:=ae hc6;clear eD hc6))
 have J0:Keeps W4 W6:=bU.keeps (((cG.o.aG (· =W5.heap.size)).alloc _).trans gC.o) (fun k hk e=>by have :=cG.o.size;omega)
 have hsz5:=cG.o.size
 have hb4:b<W4.heap.size:=bY.o.lt (by simp[St.list])
 have h0:Lp w W6 b o W5.heap.size (Value.slice wa wn wc).ownBlock (l.drop (64*(l.length/64))++zs) (bO dN l (l.length/64)) ((l.length:Int)+(m:Int)) 0 a3 (wn+m) cap3:=
  ⟨dF.o.trans (J0.aG _),bY.o.keeps J0,ln.o.keeps J0,Ie.o,fun e=>by have :=ln.o.lt e;omega,zJ.o,dM.o,Nat.le_trans dF.o.size hsz5,by omega,by rw[Lz.o];rfl,Ic,MS⟩
 have H0:=ae h0;clear h0 J0
 generalize hwb:(Value.slice wa wn wc).ownBlock=wb at *
 have hfin:bO (bO dN l (l.length/64)) (l.drop (64*(l.length/64))++zs) ((wn+m)/64)=bO dN (l++zs) ((l++zs).length/64):=by
  rw[qP];congr 1;rw[List.length_append,Ib.o];have :=JZ.o;omega
 have hdr:(l.drop (64*(l.length/64))++zs).drop (64*((wn+m)/64))=(l++zs).drop (64*((l++zs).length/64)):=by
  have e1:(l++zs).length/64=l.length/64+(wn+m)/64:=by rw[List.length_append,Ib.o];have :=JZ.o;omega
  have e2:(l++zs).drop (64*(l.length/64))=l.drop (64*(l.length/64))++zs:=List.drop_append_of_le_length (by omega)
  rw[e1,Nat.mul_add,←List.drop_drop,e2]
 have hbl:Bytes (l.drop (64*(l.length/64))++zs):=fun x hx=>by
  rcases List.mem_append.1 hx with h|h
  ·exact Jz.o x (List.mem_of_mem_drop h)
  ·exact HZ.o x h
 have jX:=ae hfin;have HDR:=ae hdr;have rO:=ae hbl;have PX:=ae hwb;clear hfin hdr hbl hwb
 have hok0:=gF j9 l (l.length/64)
 generalize l.drop (64*(l.length/64))++zs=L at *
 generalize bO dN l (l.length/64)=s0 at *
 have MU:=ae hok0;clear hok0
 clear ln bY Ie zJ cG dM gC hsz5 hb4
 go_frame
 go_loopg [43] ((wn+m)/64) (fun gk s43 wr=>∃(i:Nat) (a:Option Addr) (n c:Nat),i+gk=(wn+m)/64∧Lp w wr b o W5.heap.size wb L s0 ((l.length:Int)+(m:Int)) i a n c)
 case atStart=>exact⟨0,a3,wn+m,cap3,by omega,H0.o⟩
 case round=>
  obtain⟨i,aa,n,c,hig,hlp⟩:=hrel
  have PY:=ae hlp
  obtain⟨l1,l2,l3,l4,l5,l6,l7,l8,l9,l10,Tn⟩:=hlp
  have hll:=Lz.o
  have c8:=(l2 8 _ rfl).1
  have f8:=(l2 8 _ rfl).2
  by_cases h64:64≤n
  ·obtain⟨g,off,cc,he,_,_,hg,hrg⟩:=l3.form (.inr (by omega))
   obtain⟨rfl,rfl⟩:aa=some ⟨g,off,none⟩∧c=cc:=by cases he;exact⟨rfl,rfl⟩
   clear he
   have hx:Row wr g off (((L.drop (64*i)).take 64).map (Value.int .u8)):=by rw[List.map_take];exact hrg.take 64
   have hxl:((L.drop (64*i)).take 64).length=64:=by simp;omega
   have hxb:Bytes ((L.drop (64*i)).take 64):=fun x hx=>rO.o x (List.mem_of_mem_drop (List.mem_of_mem_take hx))
   have hstep:=fun nq=>oN (bO s0 L i) (gF MU.o L i) _ hxl hxb b o W5.heap.size g off c (wr.drewN nq) ((l2.take 8).drewN nq) (l7.drewN nq) (hx.drewN nq)
   have HST:=ae hstep;have L1:=ae l1;have L2:=ae l2;have L3:=ae l3;have L4:=ae l4;have L5:=ae l5;have L6:=ae l6;have L7:=ae l7;have J1:=ae l10;have qw:=ae hll
   clear hstep l1 l2 l3 l4 l5 l6 l7 l10 hll hx hxl hxb hrg
   obtain⟨Tp,Tq⟩:=Tn
   by_cases hc:c=64
   ·obtain rfl:n=64:=by omega
    subst hc
    go_wp2
    refine aB 8 (by kernel_rfl) (by kernel_rfl) ?_
    simp only[List.take_succ_cons,List.take_zero,List.drop_succ_cons,List.drop_zero]
    repeat(first |go_big_quiet_step (fail)|quiet_step (fail))
    refine wpQuiet_nil ?_
    intro _ hw'
    obtain⟨nq,hw''⟩:=hw'
    subst hw''
    go_wp2_with (go_at_call 116;refine(HST.o _).mono ?_;rintro e w4 ⟨rfl,hc4,hr4,hb4⟩;have q4:=L2.o.patch (w:=wr) 0 hr4 (Beside.trans (b:=wr.drewN nq) (Beside.of_block rfl _ _) hb4) (by simp[St.list]);have d8:=(q4 8 _ rfl).1;have Tr:=(q4 8 _ rfl).2;have Q4:=ae q4;have ky:=ae hc4;clear q4 hc4 hr4 hb4)
    go_roundg (gk -1)
    case measure=>have e1:=J1.o;have e2:=qw.o;omega
    case rel=>
     have e1:=J1.o
     have e2:=qw.o
     have hbf:=L3.o.xZ
     simp only[←List.map_drop,List.drop_drop,show 64*i+64=64*(i+1) by omega]at hbf
     exact⟨i+1,_,_,_,by omega,PY.o.next Q4.o ((bU.drewN (bU.refl _ wr) nq).trans ky.o) _ _ _ hbf rfl (by omega) ⟨Nat.le_refl _,Nat.zero_le _⟩⟩
   · have hc':64<c:=by omega
     clear hc
     go_wp2
     refine aB 8 (by kernel_rfl) (by kernel_rfl) ?_
     simp only[List.take_succ_cons,List.take_zero,List.drop_succ_cons,List.drop_zero]
     repeat(first |go_big_quiet_step (fail)|quiet_step (fail))
     refine wpQuiet_nil ?_
     intro _ hw'
     obtain⟨nq,hw''⟩:=hw'
     subst hw''
     go_wp2_with (go_at_call 116;refine(HST.o _).mono ?_;rintro e w4 ⟨rfl,hc4,hr4,hb4⟩;have q4:=L2.o.patch (w:=wr) 0 hr4 (Beside.trans (b:=wr.drewN nq) (Beside.of_block rfl _ _) hb4) (by simp[St.list]);have d8:=(q4 8 _ rfl).1;have Tr:=(q4 8 _ rfl).2;have Q4:=ae q4;have ky:=ae hc4;clear q4 hc4 hr4 hb4)
     go_roundg (gk -1)
     case measure=>have e1:=J1.o;have e2:=qw.o;omega
     case rel=>
      have e1:=J1.o
      have e2:=qw.o
      have hbf:=L3.o.tail (k:=64) h64
      simp only[←List.map_drop,List.drop_drop,show 64*i+64=64*(i+1) by omega]at hbf
      exact⟨i+1,_,_,_,by omega,PY.o.next Q4.o ((bU.drewN (bU.refl _ wr) nq).trans ky.o) _ _ _ hbf rfl (by omega) ⟨by omega,by omega⟩⟩
  · have hgk:gk=0:=by omega
    subst hgk
    have HLEN:=ae l10;have L1:=ae l1;have L2:=ae l2;have L3:=ae l3;have L4:=ae l4;have L6:=ae l6;have qw:=ae hll;have Ts:=ae hig
    clear l1 l2 l3 l4 l5 l6 l7 l10 hll hig
    go_wp2
    go_end0
    have e0:=Ts.o
    have e1:=HLEN.o
    have e2:=qw.o
    have e4:=Ib.o
    have e5:=JZ.o
    have hi1:i=(wn+m)/64:=by omega
    subst hi1
    have hN:((l++zs).length:Int)=(l.length:Int)+(m:Int):=by rw[List.length_append,e4];omega
    have hnn:n=(l++zs).length%64:=by rw[List.length_append,e4];omega
    refine⟨rfl,_,⟨?_,by rw[List.length_append,e4];exact hsm,⟨_,true,gF j9 _ _,.inl ⟨rfl,rfl⟩,?_⟩,?_,L4.o⟩,?_,?_⟩
    ·intro x hx
     rcases List.mem_append.1 hx with h|h
     ·exact Jz.o x h
     ·exact HZ.o x h
    ·rw[hN,←jX.o];exact L2.o
    ·rw[←hnn,←HDR.o];exact L3.o
    ·rw[PX.o];exact L1.o
    ·rw[PX.o];exact L6.o
theorem sum_add(b o:Nat)(wv:Value)(l:List Int)(v:Value)(m:Nat)(zs:List Int)(w:World)(hs:jv w b o wv l)(hr:Rd w 1 v m (zs.map (Value.int .u8)))
 (hz:Bytes zs) (hm:m≤70368744177664) (hsm:l.length+m<1152921504606846976) (hne:0<m→v.ownBlock≠some b):
 Calls Tryz.prog 80 #[.pointer (some ⟨b,o,none⟩),v] w fun e w' =>e= .returned (.tuple #[])∧pB w w' b o wv (l++zs):=by
 obtain⟨hby,hlen,⟨st,bg,hok,hst,hrow⟩,hbuf,hap⟩:=hs
 obtain⟨wa,wc,rfl,_⟩:=hbuf.any
 have hr0:=hr
 obtain⟨_,a,cap,rfl,_⟩:=hr0
 rcases hst with⟨rfl,hst⟩|⟨rfl,hst⟩
 ·exact xy b o wa _ wc l a m cap zs w st hst hby hlen hrow hbuf hap hr hz hm hsm hne
 ·exact zK b o wa _ wc l a m cap zs w st hst hby hlen hrow hbuf hap hr hz hm hsm hne
end Go.Proofs.YtlofddoojkeakaaGreatDoor
