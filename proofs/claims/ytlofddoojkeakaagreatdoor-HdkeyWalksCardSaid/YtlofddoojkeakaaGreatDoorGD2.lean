/- The reference's SHA-512 (strongboxref02.Sum512) is SHA-512.. -/
import Derived.Test.YtlofddoojkeakaaGreatDoorGD0
import Derived.Test.YtlofddoojkeakaaGreatDoorGD1
set_option maxRecDepth 100000
set_option maxHeartbeats 4000000
set_option linter.unusedVariables false
set_option linter.unusedSimpArgs false
namespace Go.Proofs.YtlofddoojkeakaaGreatDoor.pD
open Go Go.RowKit
theorem tB(v:Int)(k:Nat):Bytes (fJ v k):=by
 induction k with
 |zero=>intro x hx;simp[fJ]at hx
 |succ k ih=>
  intro x hx
  rcases List.mem_append.1 hx with h|h
  ·exact ih x h
  ·rw[List.mem_singleton.1 h];unfold Byte;omega
theorem jQ(size len n:Nat)(low:Bool):Bytes (dk size len n low):=by
 intro x hx
 simp only[dk,List.mem_cons,List.mem_append,List.mem_replicate]at hx
 rcases hx with rfl|⟨_,rfl⟩|hx
 ·unfold Byte;omega
 ·unfold Byte;omega
 · cases low
   ·exact tB _ _ x (by simpa using hx)
   ·exact tB _ _ x (by simpa using hx)
def dI(ws:List Int):List Int:=(List.range 64).map fun i=>ws.getD (i/8) 0/2^(56 -8*(i%8))%256
theorem bq(ws:List Int):(dI ws).length=64:=by simp[dI]
theorem kI(s:St)(i:Nat)(hi:i<64):(dI s.list).getD i 0=s.list.getD (i/8) 0/2^(56 -8*(i%8))%256:=by
 simp[dI,List.getD,hi]
theorem jw(ws:List Int):Bytes (dI ws):=by
 intro x hx
 obtain⟨i,_,rfl⟩:=List.mem_map.1 hx
 unfold Byte;omega
def ei(s:St)(i:Nat):List Int:=(dI s.list).take i++List.replicate (64 -i) 0
theorem kJ(s:St):ei s 0=List.replicate 64 0:=rfl
theorem ix(s:St):ei s 64=dI s.list:=by
 unfold ei
 rw[List.take_of_length_le (by rw[bq];omega)];simp
theorem cM(s:St)(i:Nat)(h:i≤64):(ei s i).length=64:=by simp[ei,bq];omega
theorem gl(s:St)(i:Nat)(h:i<64):(ei s i).set i (s.list.getD (i/8) 0/2^(56 -8*(i%8))%256)=ei s (i+1):=by
 rw[←kI s i h]
 unfold ei
 rw[List.set_append_right _ _ (by simp[bq];omega)]
 have e:i -((dI s.list).take i).length=0:=by simp[bq];omega
 rw[e,show 64 -i=(64 -(i+1))+1 by omega,List.replicate_succ,List.set_cons_zero]
 have hl:i<(dI s.list).length:=by rw[bq];exact h
 rw[List.take_succ_eq_append_getElem hl,List.append_assoc]
 simp[List.getD,hl]
theorem jP{s:St}(h:s.ok)(i:Nat):vO (s.list.getD i 0):=by
 obtain⟨h0,h1,h2,h3,h4,h5,h6,h7⟩:=h
 rcases i with _|_|_|_|_|_|_|_|i
 all_goals first |assumption|exact⟨by simp[St.list],by simp[St.list]⟩
def xC(l:List Int):List Int:=l++dk 128 16 l.length false
def sha512(l:List Int):List Int:=dI (fQ gj (xC l) ((xC l).length/128)).list
theorem a7(l:List Int):(sha512 l).length=64:=bq _
theorem ja(l:List Int):Bytes (sha512 l):=jw _
structure cQ (w W:World) (p2 p3 p4 gm om:Nat) (M:List Int) (s:St):Prop where
 keeps:Keeps w W
 res:Row W p2 0 (List.replicate 64 (Value.int .u8 0))
 key:Row W p3 0 (jG.map (Value.int .u64))
 st:Row W p4 0 (s.list.map (Value.int .u64))
 msg:Row W gm om (M.map (Value.int .u8))
 new:w.heap.size≤p4∧p2≠p4∧p3≠p4∧gm≠p4
theorem cQ.step {w W W':World}{p2 p3 p4 gm om:Nat}{M:List Int}{s:St}(h:cQ w W p2 p3 p4 gm om M s)(hk:Keeps W W'):cQ w W' p2 p3 p4 gm om M s:=
 ⟨h.keeps.trans hk,h.res.keeps hk,h.key.keeps hk,h.st.keeps hk,h.msg.keeps hk,h.new⟩
theorem cQ.aG {w W W':World}{p2 p3 p4 gm om:Nat}{M:List Int}{s s':St}(h:cQ w W p2 p3 p4 gm om M s)(hc:bU (· =p4) W W')(hr:Row W' p4 0 (s'.list.map (Value.int .u64))):cQ w W' p2 p3 p4 gm om M s':=
 ⟨aD h.keeps hc h.new.1,h.res.aG hc h.new.2.1,h.key.aG hc h.new.2.2.1,hr,h.msg.aG hc h.new.2.2.2,h.new⟩
theorem cQ.other {w W W':World}{p2 p3 p4 gm om q:Nat}{M:List Int}{s:St}(h:cQ w W p2 p3 p4 gm om M s)(hc:bU (· =q) W W')(hq:w.heap.size≤q)(h2:p2≠q)(h3:p3≠q)(h4:p4≠q)(hg:gm≠q):cQ w W' p2 p3 p4 gm om M s:=
 ⟨aD h.keeps hc hq,h.res.aG hc h2,h.key.aG hc h3,h.st.aG hc h4,h.msg.aG hc hg,h.new⟩
theorem BO{w:World}{b:Nat}{s:St}(h:Row w b 0 (s.list.map (Value.int .u64))):w.cell? ⟨b,0,none⟩=some (.int .u64 s.a)∧w.cell? ⟨b,1,none⟩=some (.int .u64 s.b)∧w.cell? ⟨b,2,none⟩=some (.int .u64 s.c)∧w.cell? ⟨b,3,none⟩=some (.int .u64 s.d)
 ∧w.cell? ⟨b,4,none⟩=some (.int .u64 s.e)∧w.cell? ⟨b,5,none⟩=some (.int .u64 s.f)∧w.cell? ⟨b,6,none⟩=some (.int .u64 s.g)∧w.cell? ⟨b,7,none⟩=some (.int .u64 s.h):=by
 have :=Et h
 simpa using this
theorem qy{w:World}{b:Nat}{s:St}(k xx x y:Int)(h:Row w b 0 [.int .u64 y,.int .u64 s.a,.int .u64 s.b,.int .u64 s.c,.int .u64 x,.int .u64 s.e,.int .u64 s.f,.int .u64 s.g])
 (hx:x=(s.round k xx).e) (hy:y=(s.round k xx).a):Row w b 0 ((s.round k xx).list.map (Value.int .u64)):=by
 subst hx hy;exact h
theorem nz:(Tryz.prog.info? 127).map (·.size)=some 8:=by kernel_rfl
theorem oy(v:Value)(n:Nat)(zs:List Int)(w:World)(hr:Rd w 1 v n (zs.map (Value.int .u8)))(hz:Bytes zs)(hn:n≤35184372088832):
 Calls Tryz.prog 58 #[v] w fun e w' =>e= .returned (.agg ((sha512 zs).map (Value.int .u8)).toArray)∧Keeps w w':=by
 have hzl:zs.length=n:=by have :=hr.1;simpa using this
 have BP:bN 128 16 n≤127:=(by unfold bN;omega)
 have hml:(zs++dk 128 16 n false).length=n+(17+bN 128 16 n):=by rw[List.length_append,gX,hzl];omega
 have hmb:Bytes (zs++dk 128 16 n false):=by
  intro x hx
  rcases List.mem_append.1 hx with h|h
  ·exact hz x h
  ·exact jQ 128 16 n false x h
 have hmod:(n+(17+bN 128 16 n))%128=0:=by unfold bN;omega
 have pG:sha512 zs=dI (fQ gj (zs++dk 128 16 n false) ((n+(17+bN 128 16 n))/128)).list:=by unfold sha512 xC;rw[hzl,hml]
 have fO:∀W,Keeps w W→Calls Tryz.prog 96 #[v,.int .i64 128,.int .i64 16,.bool false] W fun e w' =>∃v',e= .returned v'∧Own W w' v' (n+(1+bN 128 16 n+16)) (zs++dk 128 16 n false):=fun W h=>tv 128 16 (.inr ⟨rfl,rfl⟩) false v n zs W (hr.keeps h) (by omega)
 simp only[show n+(1+bN 128 16 n+16)=n+(17+bN 128 16 n) by omega]at fO
 rw[pG]
 have mP:=ae fO;have J7:=ae hmb;have qY:=ae hml
 clear hr hz hzl fO hmb hml pG
 obtain⟨B,hB⟩:∃B,n+(17+bN 128 16 n)=128*B:=⟨(n+(17+bN 128 16 n))/128,by omega⟩
 rw[show(n+(17+bN 128 16 n))/128=B by omega]
 rw[hB]at mP qY
 generalize zs++dk 128 16 n false=M at *
 have hBb:B≤549755813890:=by omega
 clear hmod BP
 go_enter Tryz.func58,Tryz.ntmps58
 go_upto_region 1 with(fail)
 refine cf (fun W=>Keeps w W∧w.heap.size<W.heap.size∧Row W w.heap.size 0 (List.replicate 64 (Value.int .u8 0))) ⟨(Keeps.refl _).alloc (Nat.le_refl _) _,by show _<(w.heap.push _).size;rw[Array.size_push];omega,Row.new _ _ _ rfl⟩ ?_
 intro W1 ⟨hk1,hl1,hr1⟩
 have bw:=ae hk1;have HR1:=ae hr1
 clear hk1 hr1
 go_upto_region 2 with(first |(refine wpList_buildFlatArr rfl 128 85 80 _ rfl .u64 jG Tryz.underlying128 BN (by kernel_rfl) (by kernel_rfl) ?_)|(refine wpList_store_row rfl 128 (.tmp 3) (.tmp 20) rfl W1.heap.size 0 rfl (List.replicate 80 (Value.int .u64 0)) (jG.map (Value.int .u64)) rfl (Row.new _ _ _ rfl) (by kernel_rfl) (by kernel_rfl) (ai _) ?_;intro W2 hr2 hc2;have HR2:=ae hr2;have HC2:=ae hc2;clear hr2 hc2))
 have hk2:Keeps w W2:=aD (av bw.o _) HC2.o (Nat.le_of_lt hl1)
 have tC:Row W2 w.heap.size 0 (List.replicate 64 (Value.int .u8 0)):=(HR1.o.alloc _).aG HC2.o (by omega)
 have hl2:W1.heap.size<W2.heap.size:=HR2.o.lt (by simp[jG])
 have aq:=ae hk2;have iy:=ae tC
 clear hk2 tC bw HR1 HC2
 obtain⟨p2,hp2⟩:∃p,p=w.heap.size:=⟨_,rfl⟩
 obtain⟨p3,hp3⟩:∃p,p=W1.heap.size:=⟨_,rfl⟩
 rw[←hp2]at iy⊢
 rw[←hp3]at HR2⊢
 have HP2:=ae hp2;have Fl:=ae hp3
 clear hp2 hp3
 go_upto_region 3 with(refine wpList_store_row rfl 127 (.tmp 4) (.tmp 21) rfl W2.heap.size 0 rfl (List.replicate 8 (Value.int .u64 0)) (gj.list.map (Value.int .u64)) rfl (Row.new _ _ _ rfl) rfl (by kernel_rfl) (ai _) ?_;intro W3 hr3 hc3;have HR3:=ae hr3;have fT:=ae hc3;clear hr3 hc3)
 have up:W2.heap.size<W3.heap.size:=HR3.o.lt (by simp[St.list])
 have hk3:Keeps w W3:=aD (av aq.o _) fT.o aq.o.size
 have zM:Row W3 p2 0 (List.replicate 64 (Value.int .u8 0)):=(iy.o.alloc _).aG fT.o (by have :=HP2.o;omega)
 have zN:Row W3 p3 0 (jG.map (Value.int .u64)):=(HR2.o.alloc _).aG fT.o (by have :=Fl.o;omega)
 have bS:=ae hk3;have jx:=ae zM;have zO:=ae zN
 clear hk3 zM zN aq iy HR2 fT
 obtain⟨p4,BQ⟩:∃p,p=W2.heap.size:=⟨_,rfl⟩
 rw[←BQ]at HR3 up⊢
 have Il:=ae BQ
 clear BQ
 go_upto_region 4 with(go_at_call 96;refine(mP.o _ bS.o).mono ?_;rintro e W4 ⟨vm,rfl,hO⟩;have HO:=ae hO;clear hO)
 obtain⟨gm,om,cm,rfl,hcm1,hcm2,hgm,hrm⟩:=HO.o.buf.form (.inr (by omega))
 have hra:cQ w W4 p2 p3 p4 gm om M (fQ gj M 0):=⟨bS.o.trans HO.o.keeps,jx.o.keeps HO.o.keeps,zO.o.keeps HO.o.keeps,HR3.o.keeps HO.o.keeps,hrm,by have :=HO.o.new gm rfl;have :=bS.o.size;have :=HP2.o;have :=Fl.o;have :=Il.o;omega⟩
 have bj:=ae hra
 clear hra hrm HO bS jx zO HR3 mP
 go_wp2
 go_loopw [6] (fun c wr=>∃i:Nat,i≤B∧c= .int .i64 (128*(i:Int))∧cQ w wr p2 p3 p4 gm om M (fQ gj M i)) (fun c _=>(128*B -intOf c).toNat)
 case atStart=>exact⟨0,by omega,by go_num,bj.o⟩
 case round=>
  obtain⟨i,hi,rfl,hra⟩:=hrel
  have nA:=ae hra
  clear hra bj
  by_cases hlt:i<B
  · have hl:((M.drop (128*i)).take 128).length=128:=by have :=qY.o;simp;omega
    have hlb:Bytes ((M.drop (128*i)).take 128):=fun x hx=>J7.o x (List.mem_of_mem_drop (List.mem_of_mem_take hx))
    have hok:=qx pE M i
    have hnx:fQ gj M (i+1)=compress (fQ gj M i) ((M.drop (128*i)).take 128):=rfl
    have hlr:∀W s,cQ w W p2 p3 p4 gm om M s→Row W gm (om+128*i) (((M.drop (128*i)).take 128).map (Value.int .u8)):=fun W s h=>by
     have :=(h.msg.drop (128*i)).take 128
     rwa[←List.map_drop,←List.map_take]at this
    generalize(M.drop (128*i)).take 128=l at *
    generalize fQ gj M i=s at *
    have yv:=ae hnx;have lL:=ae hok;have xB:=ae hlb;have HL:=ae hl;have Jg:=ae hlr
    clear hnx hok hlb hl hlr
    go_upto_region 8 with(fail)
    obtain⟨q,hq⟩:∃q,q=wr.heap.size:=⟨_,rfl⟩
    have jy:cQ w (wr.alloc (.cells (List.replicate 80 (Value.int .u64 0)).toArray 128)) p2 p3 p4 gm om M s:=nA.o.step (av (Keeps.refl _) _)
    have hrq:Row (wr.alloc (.cells (List.replicate 80 (Value.int .u64 0)).toArray 128)) q 0 ((dZ l 0).map (Value.int .u64)):=by rw[hq];exact Row.new _ _ _ (by simp[dZ,sched])
    have rW:w.heap.size≤q∧p2≠q∧p3≠q∧p4≠q∧gm≠q:=by
     have h1:=nA.o.res.lt (by simp)
     have h2:=nA.o.key.lt (by simp[jG])
     have h3:=nA.o.st.lt (by simp[St.list])
     have h4:=(Jg.o wr s nA.o).lt (by intro e;have :=congrArg List.length e;rw[aF,HL.o]at this;simp at this)
     have h5:=nA.o.keeps.size
     omega
    have hwq:q<(wr.alloc (.cells (List.replicate 80 (Value.int .u64 0)).toArray 128)).heap.size:=by rw[hq];simp
    rw[←hq]
    refine cf (fun W=>cQ w W p2 p3 p4 gm om M s∧q<W.heap.size∧Row W q 0 ((dZ l 0).map (Value.int .u64))) ⟨jy,hwq,hrq⟩ ?_
    clear jy hwq hrq hq
    intro Wa ⟨hra,hqa,hrq⟩
    have bj:=ae hra;have pH:=ae hrq;have lW:=ae rW
    clear hra hrq nA rW
    have dK:=ae (Jg.o Wa s bj.o)
    clear Jg
    go_wp2
    go_loopw [8] (fun c wr=>∃t:Nat,t≤16∧c= .int .i64 t∧bU (· =q) Wa wr∧Row wr q 0 ((dZ l t).map (Value.int .u64))) (fun c _=>(16 -intOf c).toNat)
    case atStart=>exact⟨0,by omega,rfl,bU.refl _ _,pH.o⟩
    case round=>
     obtain⟨t,ht,rfl,hch,hrt⟩:=hrel
     by_cases hlt2:t<16
     ·rw[←nt l t (by omega)]at hrt
      have cV:=ae hrt;have dF:=ae hch
      clear hrt hch
      go_wp2
      go_loopw [9] (fun c wr=>∃k:Nat,k≤8∧c= .int .i64 k∧bU (· =q) Wa wr∧Row wr q 0 ((iM l t k).map (Value.int .u64))) (fun c _=>(8 -intOf c).toNat)
      case atStart=>exact⟨0,by omega,rfl,dF.o,cV.o⟩
      case round=>
       obtain⟨k,hk,rfl,hch,hrt⟩:=hrel
       by_cases hlt3:k<8
       · have hcm:=(dK.o.aG hch lW.o.2.2.2.2).int (8*t+k) (by have :=HL.o;omega)
         have hcq:=hrt.aT t (by rw[dV _ _ _ (by omega)];omega)
         have hcf:=hrt.bR t (by rw[aF,dV _ _ _ (by omega)];omega)
         rw[ny _ _ _ (by omega)]at hcq
         rw[show om+128*i+(8*t+k)=om+(128*i+8*t+k) by omega]at hcm
         have hib:128*(i:Int)+8*t+k<128*B:=by omega
         have hbb:=xB.o.getD (8*t+k)
         have xY:=iL l t k
         have hset:=fun nq=>(hrt.drewN nq).bl t (by rw[dV _ _ _ (by omega)];omega) (dy l t (k+1))
         simp only[pF]at hset
         have HST:=ae (show dy l t (k+1)=(dy l t k*256+l.getD (8*t+k) 0)%18446744073709551616 from rfl)
         have bx:=ae hset;have dF:=ae hch
         clear hset hch hrt
         generalize l.getD (8*t+k) 0=y at *
         generalize dy l t k=x at *
         obtain⟨y0,y1⟩:=hbb
         obtain⟨x0,x1⟩:=xY
         go_wp2
         refine aB 17 (by kernel_rfl) (by kernel_rfl) ?_
         simp only[List.take_succ_cons,List.take_zero,List.drop_succ_cons,List.drop_zero]
         repeat(first |go_big_quiet_step (fail)|quiet_step (fail))
         refine wpQuiet_nil ?_
         intro _ hw'
         obtain⟨nq,hw''⟩:=hw'
         subst hw''
         go_wp2
         go_roundw
         case rel=>exact⟨k+1,by omega,by go_num,(dF.o.trans ((Qt.drewN wr nq).keeps.aG _)).setCell (.inr rfl) _,by rw[show IntKind.u64.wrap (IntKind.u64.wrap (x*256)+y)=dy l t (k+1) by rw[HST.o];simp only[IntKind.wrap_u64];omega];exact bx.o _⟩
         case measure=>simp[intOf];omega
       ·obtain rfl:k=8:=by omega
        rw[nu l t hlt2]at hrt
        have cV:=ae hrt;have dF:=ae hch
        clear hrt hch
        go_wp2
        go_roundw
        case rel=>exact⟨t+1,by omega,by go_num,dF.o,cV.o⟩
        case measure=>simp[intOf];omega
     ·obtain rfl:t=16:=by omega
      have cV:=ae hrt;have dF:=ae hch
      clear hrt hch
      go_wp2
      go_loopw [10] (fun c wr=>∃t:Nat,16≤t∧t≤80∧c= .int .i64 t∧bU (· =q) Wa wr∧Row wr q 0 ((dZ l t).map (Value.int .u64))) (fun c _=>(80 -intOf c).toNat)
      case atStart=>exact⟨16,by omega,by omega,rfl,dF.o,cV.o⟩
      case round=>
       obtain⟨t,TC,ht,rfl,hch,hr⟩:=hrel
       by_cases hlt2:t<80
       · have hd:=hr.aT t (by rw[aS _ _ ht];exact hlt2)
         have hf:=hr.bR t (by simp[aS _ _ ht];exact hlt2)
         have c16:=hr.aT (t -16) (by rw[aS _ _ ht];omega)
         have c7:=hr.aT (t -7) (by rw[aS _ _ ht];omega)
         have c15:=hr.aT (t -15) (by rw[aS _ _ ht];omega)
         have c2:=hr.aT (t -2) (by rw[aS _ _ ht];omega)
         rw[j6 _ _ _ (by omega)]at c16 c7 c15 c2
         have Fp:=(bJ l t).getD (t -15)
         have w2:=(bJ l t).getD (t -2)
         have w16:=(bJ l t).getD (t -16)
         have w7:=(bJ l t).getD (t -7)
         have bx:=fun(nq:Nat) (x:Int) (hx:x=j5 (sched l t) t)=>ke (hr.drewN nq) hlt2 x (by rw[if_neg (by omega)];exact hx)
         have HW:Hid (j5 (sched l t) t=((sched l t).getD (t -16) 0+(sched l t).getD (t -7) 0+me ((sched l t).getD (t -15) 0)+mf ((sched l t).getD (t -2) 0))%18446744073709551616):=ae rfl
         have HS2:=ae bx;have dF:=ae hch
         clear hr bx hch
         generalize(sched l t).getD (t -16) 0=y0 at *
         generalize(sched l t).getD (t -7) 0=y1 at *
         generalize(sched l t).getD (t -15) 0=y2 at *
         generalize(sched l t).getD (t -2) 0=y3 at *
         have xU:=Fp
         have Xb:=w2
         obtain⟨b20,Oy⟩:=Fp
         obtain⟨Oz,OB⟩:=w2
         obtain⟨b00,b01⟩:=w16
         obtain⟨b10,b11⟩:=w7
         go_wp2
         go_quiet (((go_at_call 97;first |exact s1 (bZ _ _ (by omega) (by omega) (by assumption) _)|exact s2 (bZ _ _ (by omega) (by omega) (by assumption) _)|exact q1 (bZ _ _ (by omega) (by omega) (by assumption) _)|exact q2 (bZ _ _ (by omega) (by omega) (by assumption) _))))
         go_wp2
         go_quiet (((go_at_call 97;first |exact s1 (bZ _ _ (by omega) (by omega) (by assumption) _)|exact s2 (bZ _ _ (by omega) (by omega) (by assumption) _)|exact q1 (bZ _ _ (by omega) (by omega) (by assumption) _)|exact q2 (bZ _ _ (by omega) (by omega) (by assumption) _))))
         go_wp2
         refine aB 15 (by kernel_rfl) (by kernel_rfl) ?_
         simp only[List.take_succ_cons,List.take_zero,List.drop_succ_cons,List.drop_zero]
         repeat(first |go_big_quiet_step (fail)|quiet_step (fail))
         refine wpQuiet_nil ?_
         intro _ hw'
         obtain⟨nq,hw''⟩:=hw'
         subst hw''
         go_wp2
         go_roundw
         case rel=>
          exact⟨t+1,by omega,by omega,by go_num,(dF.o.trans ((Qt.keeps (by repeat(first |exact Qt.refl _|exact Qt.drewN _ _|refine Qt.trans ?_ (Qt.drewN _ _)))).aG _)).setCell (.inr rfl) _,HS2.o _ _ (by rw[HW.o];unfold me mf;(try simp only[IntKind.wrap_u64]);omega)⟩
         case measure=>simp[intOf];omega
       ·obtain rfl:t=80:=by omega
        rw[j7]at hr
        obtain⟨Wb,P4⟩:∃Wb,Wb=wr:=⟨_,rfl⟩
        subst P4
        have hrb:cQ w Wb p2 p3 p4 gm om M s:=bj.o.other hch lW.o.1 lW.o.2.1 lW.o.2.2.1 lW.o.2.2.2.1 lW.o.2.2.2.2
        have Ev:(sched l 80).length=80:=bT l 80
        have hfin:compress s l=s.plus (rounds s (sched l 80) 80):=rfl
        have xY:=bJ l 80
        generalize sched l 80=ws at *
        have J6:=ae Ev;have HRW:=ae hr;have bH:=ae hrb;have HF:=ae hfin;have Ln:=ae xY
        clear Ev hr hrb hfin xY hch cV dF bj pH dK
        have Z8:Hid ((Tryz.prog.info? 127).map (·.size)=some (s.list.map (Value.int .u64)).length):=ae nz
        go_upto_region 22 with(first |(refine aj rfl 127 (.tmp 4) rfl p4 0 rfl (s.list.map (Value.int .u64)) _ bH.o.st Tryz.underlying127 rfl Z8.o ?_)|(refine wpList_store_row rfl 127 (.tmp 13) (.tmp 108) rfl Wb.heap.size 0 rfl (List.replicate 8 (Value.int .u64 0)) (s.list.map (Value.int .u64)) rfl (Row.new _ _ _ rfl) rfl Z8.o (ai _) ?_;intro Wc hrc hcc;have el:=ae hrc;have Fm:=ae hcc;clear hrc hcc))
        obtain⟨q2,hq2⟩:∃q,q=Wb.heap.size:=⟨_,rfl⟩
        have hqq:q<q2:=by rw[hq2];exact HRW.o.lt (by intro e;have :=congrArg List.length e;rw[aF,J6.o]at this;simp at this)
        have oz:w.heap.size≤q2∧p2≠q2∧p3≠q2∧p4≠q2∧gm≠q2:=by
         have h1:=bH.o.res.lt (by simp)
         have h2:=bH.o.key.lt (by simp[jG])
         have h3:=bH.o.st.lt (by simp[St.list])
         have h4:=bH.o.msg.lt (by intro e;have :=congrArg List.length e;rw[aF,qY.o]at this;simp at this;omega)
         have h5:=bH.o.keeps.size
         omega
        rw[←hq2]at el Fm⊢
        have hrc:cQ w Wc p2 p3 p4 gm om M s:=(bH.o.step (av (Keeps.refl _) _)).other Fm.o oz.1 oz.2.1 oz.2.2.1 oz.2.2.2.1 oz.2.2.2.2
        have hrw:Row Wc q 0 (ws.map (Value.int .u64)):=(HRW.o.alloc _).aG Fm.o (by omega)
        clear hq2 bH HRW Fm
        have tD:=ae hrc;have HRW:=ae hrw;have BR:=ae oz
        clear hrc hrw oz
        go_wp2
        go_loopw [14] (fun c wr=>∃t:Nat,t≤80∧c= .int .i64 t∧bU (· =q2) Wc wr∧Row wr q2 0 ((rounds s ws t).list.map (Value.int .u64))) (fun c _=>(80 -intOf c).toNat)
        case atStart=>exact⟨0,by omega,rfl,bU.refl _ _,el.o⟩
        case round=>
         obtain⟨t,ht,rfl,hch,hv⟩:=hrel
         by_cases hlt2:t<80
         ·obtain⟨v0,v1,v2,v3,v4,v5,v6,v7⟩:=BO hv
          have hkc:=(tD.o.key.aG hch BR.o.2.2.1).aT t (by rw[rD];exact hlt2)
          have hwc:=(HRW.o.aG hch (by omega)).aT t (by rw[J6.o];exact hlt2)
          have hok:=j8 lL.o ws t
          have hwi:=Ln.o.getD t
          have hkw:=tA.getD t
          have hrd:rounds s ws (t+1)=(rounds s ws t).round (jG.getD t 0) (ws.getD t 0):=rfl
          generalize jG.getD t 0=kk at *
          generalize ws.getD t 0=xx at *
          generalize rounds s ws t=r at *
          obtain⟨ra,rb,rc,rd,re,rf,rg,rh⟩:=r
          have HV:=ae hv;have iX:=ae hrd;have dF:=ae hch
          clear hv hrd hch
          obtain⟨o0,o1,o2,o3,o4,o5,o6,o7⟩:=hok
          simp only at v0 v1 v2 v3 v4 v5 v6 v7 o0 o1 o2 o3 o4 o5 o6 o7
          have a0:=o0.1;have a1:=o0.2;have e0:=o4.1;have e1:=o4.2
          go_wp2
          go_quiet (((go_at_call 97;first |exact s1 (bZ _ _ (by omega) (by omega) (by assumption) _)|exact s2 (bZ _ _ (by omega) (by omega) (by assumption) _)|exact q1 (bZ _ _ (by omega) (by omega) (by assumption) _)|exact q2 (bZ _ _ (by omega) (by omega) (by assumption) _))))
          go_wp2
          go_quiet (((go_at_call 97;first |exact s1 (bZ _ _ (by omega) (by omega) (by assumption) _)|exact s2 (bZ _ _ (by omega) (by omega) (by assumption) _)|exact q1 (bZ _ _ (by omega) (by omega) (by assumption) _)|exact q2 (bZ _ _ (by omega) (by omega) (by assumption) _))))
          go_wp2_with (refine wpList_store_row rfl 127 (.tmp 13) (.tmp 196) rfl q2 0 rfl _ [_,_,_,_,_,_,_,_] rfl (HV.o.drewN _) rfl nz (by intro v hv;simp only[List.mem_cons,List.not_mem_nil,or_false]at hv;rcases hv with rfl|rfl|rfl|rfl|rfl|rfl|rfl|rfl<;>rfl) ?_;intro w3 hr3 hc3;have HR3:=ae hr3;have fT:=ae hc3;clear hr3 hc3)
          go_roundw
          case rel=>
           refine⟨t+1,by omega,by go_num,(dF.o.trans ((Qt.keeps (by repeat(first |exact Qt.refl _|exact Qt.drewN _ _|refine Qt.trans ?_ (Qt.drewN _ _)))).aG _)).trans fT.o,?_⟩
           rw[iX.o]
           refine qy kk xx _ _ HR3.o ?_ ?_
           ·simp only[St.round,qa,mh,Fn,IntKind.wrap_u64];omega
           ·simp only[St.round,qa,AQ,mh,sb,Fn,AO,IntKind.wrap_u64];omega
          case measure=>simp[intOf];omega
         ·obtain rfl:t=80:=by omega
          obtain⟨Wd,hWd⟩:∃Wd,Wd=wr:=⟨_,rfl⟩
          subst hWd
          have hrd:cQ w Wd p2 p3 p4 gm om M s:=tD.o.other hch BR.o.1 BR.o.2.1 BR.o.2.2.1 BR.o.2.2.2.1 BR.o.2.2.2.2
          generalize rounds s ws 80=r at *
          have hst:=hrd.st
          rw[←kg s r]at hst
          have iX:=ae hrd;have HST:=ae hst;have HV:=ae hv
          clear hrd hst hv hch tD HRW el
          go_wp2
          go_loopw [17] (fun c wr=>∃t:Nat,t≤8∧c= .int .i64 t∧bU (· =p4) Wd wr∧Row wr p4 0 ((iQ s r t).map (Value.int .u64))) (fun c _=>(8 -intOf c).toNat)
          case atStart=>exact⟨0,by omega,rfl,bU.refl _ _,HST.o⟩
          case round=>
           obtain⟨t,ht,rfl,hch,hr1⟩:=hrel
           by_cases hlt2:t<8
           · have c1:=hr1.aT t (by rw[dH _ _ _ ht];exact hlt2)
             rw[kf _ _ _ hlt2]at c1
             have f1:=hr1.bR t (by rw[aF,dH _ _ _ ht];exact hlt2)
             have c2:=(HV.o.aG hch (Ne.symm BR.o.2.2.2.1)).aT t (by rw[dQ];exact hlt2)
             have bx:=ae (fun nq=>oM (o:=0) (hr1.drewN nq) hlt2)
             have dF:=ae hch
             clear hr1 hch
             generalize s.list.getD t 0=y1 at *
             generalize r.list.getD t 0=y2 at *
             go_wp2
             refine aB 9 (by kernel_rfl) (by kernel_rfl) ?_
             simp only[List.take_succ_cons,List.take_zero,List.drop_succ_cons,List.drop_zero]
             repeat(first |go_big_quiet_step (fail)|quiet_step (fail))
             refine wpQuiet_nil ?_
             intro _ hw'
             obtain⟨nq,hw''⟩:=hw'
             subst hw''
             go_wp2
             go_roundw
             case rel=>exact⟨t+1,by omega,by go_num,(dF.o.trans ((Qt.keeps (by repeat(first |exact Qt.refl _|exact Qt.drewN _ _|refine Qt.trans ?_ (Qt.drewN _ _)))).aG _)).setCell (.inr rfl) _,by simpa[IntKind.wrap_u64]using bx.o nq⟩
             case measure=>simp[intOf];omega
           ·obtain rfl:t=8:=by omega
            have hra:=iX.o.aG hch (s':=s.plus r) hr1
            rw[←HF.o,←yv.o]at hra
            have ME:=ae hra
            clear hra hr1 hch
            go_wp2
            go_roundw
            case rel=>exact⟨i+1,by omega,by go_num,ME.o⟩
            case measure=>simp[intOf];omega
  ·obtain rfl:i=B:=by omega
   have hok:=qx pE M i
   generalize hse:fQ gj M i=s at *
   have lL:=ae hok;have bH:=ae nA.o;have xV:=ae hse
   clear hok nA hse
   go_upto_region 33 with(fail)
   obtain⟨q,hq⟩:∃q,q=wr.heap.size:=⟨_,rfl⟩
   have jy:cQ w (wr.alloc (.cells (List.replicate 64 (Value.int .u8 0)).toArray 52)) p2 p3 p4 gm om M s:=bH.o.step (av (Keeps.refl _) _)
   have hrq:Row (wr.alloc (.cells (List.replicate 64 (Value.int .u8 0)).toArray 52)) q 0 ((ei s 0).map (Value.int .u8)):=by rw[hq];exact Row.new _ _ _ (by simp[ei])
   have rW:w.heap.size≤q∧p2≠q∧p4≠q:=by
    have h1:=bH.o.res.lt (by simp)
    have h3:=bH.o.st.lt (by simp[St.list])
    have h5:=bH.o.keeps.size
    omega
   rw[←hq]
   refine cf (fun W=>cQ w W p2 p3 p4 gm om M s∧Row W q 0 ((ei s 0).map (Value.int .u8))) ⟨jy,hrq⟩ ?_
   clear jy hrq hq
   intro Wa ⟨hra,hrq⟩
   have bj:=ae hra;have pH:=ae hrq;have lW:=ae rW
   clear hra hrq bH rW
   go_wp2
   go_loopw [19] (fun c wr=>∃t:Nat,t≤64∧c= .int .i64 t∧bU (· =q) Wa wr∧Row wr q 0 ((ei s t).map (Value.int .u8))) (fun c _=>(64 -intOf c).toNat)
   case atStart=>exact⟨0,by omega,rfl,bU.refl _ _,pH.o⟩
   case round=>
    obtain⟨t,ht,rfl,hch,hrt⟩:=hrel
    by_cases hlt2:t<64
    · have hcs:=(bj.o.st.aG hch lW.o.2.2).aT (t/8) (by rw[dQ];omega)
      have hfr:=hrt.bR t (by rw[aF,cM _ _ (by omega)];omega)
      have hce:=hrt.aT t (by rw[cM _ _ (by omega)];omega)
      have hset:=hrt.bl t (by rw[cM _ _ (by omega)];omega) (s.list.getD (t/8) 0/2^(56 -8*(t%8))%256)
      rw[gl _ _ hlt2]at hset
      have hx:=jP lL.o (t/8)
      have bx:=ae hset;have dF:=ae hch
      clear hset hch hrt
      generalize s.list.getD (t/8) 0=x at *
      obtain⟨x0,x1⟩:=hx
      go_wp2
      go_roundw
      case rel=>exact⟨t+1,by omega,by go_num,dF.o.setCell (.inr rfl) _,bx.o⟩
      case measure=>simp[intOf];omega
    ·obtain rfl:t=64:=by omega
     rw[ix]at hrt
     have hw2:=bj.o.res.aG hch lW.o.2.1
     have hkw:=aD bj.o.keeps hch lW.o.1
     have h32:(dI s.list).length=64:=bq _
     have Dg:Hid ((Tryz.prog.info? 52).map (·.size)=some ((dI s.list).map (Value.int .u8)).length):=by
      rw[aF,h32];exact ae (by kernel_rfl)
     have HRR:=ae hrt;have HOW:=ae hw2;have aA:=ae hkw
     clear hrt hch hw2 hkw
     go_wp2_with (first |(refine aj rfl 52 (.tmp 18) rfl q 0 rfl _ _ HRR.o Tryz.underlying52 rfl Dg.o ?_)|(refine wpList_store_row rfl 52 (.tmp 2) (.tmp 227) rfl p2 0 rfl _ _ rfl HOW.o (by simp[h32]) Dg.o (ai _) ?_;intro lN iK eh;have cP:=ae iK;have fP:=ae eh;clear iK eh))
     exact bodyPost_ret (v:= .agg ((dI s.list).map (Value.int .u8)).toArray) (ar (p:=2) (ty:=52) rfl _ _ p2 0 _ _ rfl cP.o Tryz.underlying52 rfl Dg.o) rfl ⟨by rw[xV.o],Below.trans aA.o (fP.o.below aA.o.size (fun k hk e=>by have :=HP2.o;omega))⟩
end Go.Proofs.YtlofddoojkeakaaGreatDoor.pD
