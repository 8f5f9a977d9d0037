/- curve's group: unpack. -/
import Derived.Test.YtlofddoojkeakaaGreatDoorGC2
import Derived.Test.YtlofddoojkeakaaGreatDoorGC3
set_option maxRecDepth 100000
set_option maxHeartbeats 8000000
set_option linter.unusedVariables false
set_option linter.unusedSimpArgs false
namespace Go.Proofs.YtlofddoojkeakaaGreatDoor
open Go Go.RowKit Cv
theorem ot{x:Int}(h0:0≤x)(h1:x<256):bits .andNot .u8 x 1=x -x%2:=by
 obtain⟨n,rfl⟩:=Int.eq_ofNat_of_zero_le h0
 have :∀k:Fin 256,bits .andNot .u8 (k.val:Int) 1=(k.val:Int) -(k.val:Int)%2:=by decide+kernel
 exact this ⟨n,by omega⟩
theorem Hm{x:Int}(h0:0≤x)(h1:x<256):bits .and .u8 x 1=x%2:=by
 obtain⟨n,rfl⟩:=Int.eq_ofNat_of_zero_le h0
 have :∀k:Fin 256,bits .and .u8 (k.val:Int) 1=(k.val:Int)%2:=by decide+kernel
 exact this ⟨n,by omega⟩
def j0:List Int:=List.replicate 12 0
theorem zr(gv:Value)(sa:Option Addr)(n cap:Nat)(hn:¬n=33)(hn2:(n:Int)<9223372036854775808)(w:World):
 Calls Tryz.prog 52 #[gv,.slice sa n cap] w fun e w' =>e= .returned (.tuple #[.agg (j0.map (Value.int .u64)).toArray,.bool false])∧Keeps w w':=by
 have z1:((n:Int)!=33)=true:=by rw[bne_iff_ne];omega
 go_enter Tryz.func52,Tryz.ntmps52
 go_upto_region 1 with(fail)
 refine bh (fun W hk hra hs=> ?_)
 obtain⟨p,hp⟩:∃p,p=w.heap.size:=⟨_,rfl⟩
 rw[←hp]at hra hs⊢
 have hkp:w.heap.size≤p:=by omega
 obtain⟨Zr,du,hrz⟩:∃Zr:List Value,Zr.length=12∧Row W p 0 Zr:=⟨_,rfl,hra⟩
 have aA:=ae hk;have ap:=ae hrz
 clear hp hra hrz hk hs
 go_wp2_with (refine wpList_store_row rfl 107 (.tmp 4) (.tmp 17) rfl _ 0 rfl Zr (j0.map (Value.int .u64)) rfl ap.o (by rw[du];rfl) cI (ai _) ?_;intro W2 hr2 hc2;have HN:=ae hr2;have HC:=ae hc2;clear hr2 hc2)
 exact bodyPost_ret (al (p:=4) (t:=5) (ty:=107) rfl _ _ p 0 _ _ _ rfl rfl HN.o Tryz.underlying107 rfl cI) rfl ⟨rfl,ag aA.o HC.o (by omega)⟩
theorem Bx(gv:Value)(g off cap:Nat)(l:List Int)(hl:l.length=33)(hb:Bytes l)(hbad:¬l.getD 0 0 -l.getD 0 0%2=2)(w:World)(hg:Row w g off (l.map (Value.int .u8))):
 Calls Tryz.prog 52 #[gv,.slice (some ⟨g,off,none⟩) 33 cap] w fun e w' =>e= .returned (.tuple #[.agg (j0.map (Value.int .u64)).toArray,.bool false])∧Keeps w w':=by
 have hb0:=hb.getD 0
 have HG:=ae hg
 have hl0:0<l.length:=by omega
 clear hg hb
 go_enter Tryz.func52,Tryz.ntmps52
 go_upto_region 1 with(fail)
 refine bh (fun W hk hra hs=> ?_)
 obtain⟨p,hp⟩:∃p,p=w.heap.size:=⟨_,rfl⟩
 rw[←hp]at hra hs⊢
 have hkp:w.heap.size≤p:=by omega
 obtain⟨Zr,du,hrz⟩:∃Zr:List Value,Zr.length=12∧Row W p 0 Zr:=⟨_,rfl,hra⟩
 have aA:=ae hk;have ap:=ae hrz
 have c0:=(HG.o.keeps hk).int 0 hl0
 rw[Nat.add_zero]at c0
 clear hp hra hrz hk hs HG hl0 hl
 generalize l.getD 0 0=b0 at *
 have hand:bits .andNot .u8 b0 1=b0 -b0%2:=ot hb0.1 (by have :=hb0.2;omega)
 have z1:(b0 -b0%2 !=2)=true:=by rw[bne_iff_ne];exact hbad
 clear hbad hb0
 go_wp2_with (refine wpList_store_row rfl 107 (.tmp 4) (.tmp 17) rfl _ 0 rfl Zr (j0.map (Value.int .u64)) rfl ap.o (by rw[du];rfl) cI (ai _) ?_;intro W2 hr2 hc2;have HN:=ae hr2;have HC:=ae hc2;clear hr2 hc2)
 exact bodyPost_ret (al (p:=4) (t:=5) (ty:=107) rfl _ _ p 0 _ _ _ rfl rfl HN.o Tryz.underlying107 rfl cI) rfl ⟨rfl,ag aA.o HC.o (by omega)⟩
theorem Ee(gg g off cap:Nat)(l XL:List Int)(hl:l.length=33)(hb:Bytes l)(hok:l.getD 0 0 -l.getD 0 0%2=2)(CY:XL.length=4)(w:World)(hg:Row w g off (l.map (Value.int .u8)))(hcap:33≤cap)(hcap2:cap<9223372036854775808)
 (hN:∀v W,Rd W 1 v 32 ((l.drop 1).map (Value.int .u8))→Calls Tryz.prog 47 #[v] W fun e w' =>e= .returned (.agg (XL.map (Value.int .u64)).toArray)∧Keeps W w')
 (hB:∀W,Keeps w W→Calls Tryz.prog 48 #[.pointer (some ⟨gg,0,none⟩),.agg (XL.map (Value.int .u64)).toArray] W fun e w' =>e= .returned (.bool false)∧Keeps W w'):
 Calls Tryz.prog 52 #[.pointer (some ⟨gg,0,none⟩),.slice (some ⟨g,off,none⟩) 33 cap] w fun e w' =>e= .returned (.tuple #[.agg (j0.map (Value.int .u64)).toArray,.bool false])∧Keeps w w':=by
 have E8:=ae hN;have rO:=ae hB;clear hN hB
 have hb0:=hb.getD 0
 have HG:=ae hg
 have hl0:0<l.length:=by omega
 have hgl:g<w.heap.size:=hg.lt (by intro e;have :=congrArg List.length e;rw[aF,hl]at this;cases this)
 have HL:=ae hl
 clear hg hb hl
 go_enter Tryz.func52,Tryz.ntmps52
 go_upto_region 1 with(fail)
 refine bh (fun W hk hra hs=> ?_)
 obtain⟨p,hp⟩:∃p,p=w.heap.size:=⟨_,rfl⟩
 rw[←hp]at hra hs hgl⊢
 have hkp:w.heap.size≤p:=by omega
 obtain⟨Zr,du,hrz⟩:∃Zr:List Value,Zr.length=12∧Row W p 0 Zr:=⟨_,rfl,hra⟩
 have aA:=ae hk;have ap:=ae hrz
 have wA:=ae (fun W' (hk':Keeps w W')=>(HG.o.keeps hk').int 0 hl0)
 have c0:=wA.o W hk
 rw[Nat.add_zero]at c0
 have HR1:=ae (show Row W g (off+1) ((l.drop 1).map (Value.int .u8)) by have :=(HG.o.keeps hk).drop 1;rwa[←List.map_drop]at this)
 have MG:=ae (show(l.drop 1).length=32 by rw[List.length_drop,HL.o])
 have hgW:g<W.heap.size:=by omega
 clear hp hra hrz hk hs hl0
 generalize hB0:l.getD 0 0=b0 at *
 have HB0:=ae hB0
 generalize l.drop 1=LD at *
 have hand:bits .andNot .u8 b0 1=b0 -b0%2:=ot hb0.1 (by have :=hb0.2;omega)
 have z1:(b0 -b0%2 !=2)=false:=by rw[bne_eq_false_iff_eq];exact hok
 have K9:=ae hb0
 clear hok hb0 hB0
 go_upto_region 4 with(first |(go_at_call 47;refine(E8.o _ _ (Rd.bQ HR1.o (by simp[MG.o]) hgW (by omega) (by unfold maxLen;omega))).mono ?_;rintro e V1 ⟨rfl,hk1⟩;have aH:=ae hk1;clear hk1)|(refine ws (g:=V1.heap.size) (olds:=aL) (Row.new _ _ _ rfl) CY rfl (h:= ?_);intro W2 hr2 hc2;have HN:=ae hr2;have aq:=ae (ag (ah aH.o _) hc2 aH.o.size);clear hr2 hc2))
 have hq:W.heap.size≤V1.heap.size:=aH.o.size
 have hpq:p<V1.heap.size:=Nat.lt_of_lt_of_le (ap.o.lt (by intro e;rw[e]at du;cases du)) hq
 generalize V1.heap.size=q at *
 have ap:=ae (ap.o.keeps aq.o)
 have aA:=ae (aA.o.trans aq.o)
 have bB:=HN
 refine au 5 [] [0,1,2,3,4] (fun _=>aL) (by kernel_rfl) (by kernel_rfl) (by intro i hi;cases hi) ?_
 iterate 3 refine kp (h:= ?_)
 refine kl (fun wS hS=>(bB.o.keeps hS)) CY (h:= ?_)
 refine kc (hc:=by exact fun wS hS=>rO.o wS (aA.o.trans hS)) (h:= ?_)
 refine aI ?_
 intro GG V2 hk1 hG
 clear hG
 simp only[aZ,br,ct,kD,kG,kP,Option.bind_some]
 have ap:=ae (ap.o.keeps hk1)
 have aA:=ae (aA.o.trans hk1)
 have bB:=ae (bB.o.keeps hk1)
 clear hk1
 go_wp2_with (refine wpList_store_row rfl 107 (.tmp 4) (.tmp 27) rfl _ 0 rfl Zr (j0.map (Value.int .u64)) rfl ap.o (by rw[du];rfl) cI (ai _) ?_;intro W2 hr2 hc2;have HN:=ae hr2;have HC:=ae hc2;clear hr2 hc2)
 exact bodyPost_ret (al (p:=4) (t:=5) (ty:=107) rfl _ _ p 0 _ _ _ rfl rfl HN.o Tryz.underlying107 rfl cI) rfl ⟨rfl,ag aA.o HC.o (by omega)⟩
theorem By(gg g off cap:Nat)(l XL:List Int)(hl:l.length=33)(hb:Bytes l)(hok:l.getD 0 0 -l.getD 0 0%2=2)(CY:XL.length=4)(w:World)(hg:Row w g off (l.map (Value.int .u8)))(hcap:33≤cap)(hcap2:cap<9223372036854775808)
 (hN:∀v W,Rd W 1 v 32 ((l.drop 1).map (Value.int .u8))→Calls Tryz.prog 47 #[v] W fun e w' =>e= .returned (.agg (XL.map (Value.int .u64)).toArray)∧Keeps W w')
 (hB:∀W,Keeps w W→Calls Tryz.prog 48 #[.pointer (some ⟨gg,0,none⟩),.agg (XL.map (Value.int .u64)).toArray] W fun e w' =>e= .returned (.bool true)∧Keeps W w') (LC:List Int) (d:Bool) (U4:LC.length=12)
 (PH:∀b,b=l.getD 0 0→∀W,Keeps w W→Calls Tryz.prog 91 #[.pointer (some ⟨gg,0,none⟩),.agg (XL.map (Value.int .u64)).toArray,.int .u64 (b%2)] W fun e w' =>e= .returned (.tuple #[.agg (LC.map (Value.int .u64)).toArray,.bool d])∧Keeps W w'):
 Calls Tryz.prog 52 #[.pointer (some ⟨gg,0,none⟩),.slice (some ⟨g,off,none⟩) 33 cap] w fun e w' =>e= .returned (.tuple #[.agg (LC.map (Value.int .u64)).toArray,.bool d])∧Keeps w w':=by
 have E8:=ae hN;have rO:=ae hB;clear hN hB
 have PI:=ae PH;clear PH
 have hb0:=hb.getD 0
 have HG:=ae hg
 have hl0:0<l.length:=by omega
 have hgl:g<w.heap.size:=hg.lt (by intro e;have :=congrArg List.length e;rw[aF,hl]at this;cases this)
 have HL:=ae hl
 clear hg hb hl
 go_enter Tryz.func52,Tryz.ntmps52
 go_upto_region 1 with(fail)
 refine bh (fun W hk hra hs=> ?_)
 obtain⟨p,hp⟩:∃p,p=w.heap.size:=⟨_,rfl⟩
 rw[←hp]at hra hs hgl⊢
 have hkp:w.heap.size≤p:=by omega
 obtain⟨Zr,du,hrz⟩:∃Zr:List Value,Zr.length=12∧Row W p 0 Zr:=⟨_,rfl,hra⟩
 have aA:=ae hk;have ap:=ae hrz
 have wA:=ae (fun W' (hk':Keeps w W')=>(HG.o.keeps hk').int 0 hl0)
 have c0:=wA.o W hk
 rw[Nat.add_zero]at c0
 have HR1:=ae (show Row W g (off+1) ((l.drop 1).map (Value.int .u8)) by have :=(HG.o.keeps hk).drop 1;rwa[←List.map_drop]at this)
 have MG:=ae (show(l.drop 1).length=32 by rw[List.length_drop,HL.o])
 have hgW:g<W.heap.size:=by omega
 clear hp hra hrz hk hs hl0
 generalize hB0:l.getD 0 0=b0 at *
 have HB0:=ae hB0
 generalize l.drop 1=LD at *
 have hand:bits .andNot .u8 b0 1=b0 -b0%2:=ot hb0.1 (by have :=hb0.2;omega)
 have z1:(b0 -b0%2 !=2)=false:=by rw[bne_eq_false_iff_eq];exact hok
 have K9:=ae hb0
 have hand2:bits .and .u8 b0 1=b0%2:=Hm hb0.1 (by have :=hb0.2;omega)
 have PI:=ae (fun W' hk' =>PI.o b0 (by first |rfl|exact hB0.symm) W' hk')
 clear hok hb0 hB0
 go_upto_region 4 with(first |(go_at_call 47;refine(E8.o _ _ (Rd.bQ HR1.o (by simp[MG.o]) hgW (by omega) (by unfold maxLen;omega))).mono ?_;rintro e V1 ⟨rfl,hk1⟩;have aH:=ae hk1;clear hk1)|(refine ws (g:=V1.heap.size) (olds:=aL) (Row.new _ _ _ rfl) CY rfl (h:= ?_);intro W2 hr2 hc2;have HN:=ae hr2;have aq:=ae (ag (ah aH.o _) hc2 aH.o.size);clear hr2 hc2))
 have hq:W.heap.size≤V1.heap.size:=aH.o.size
 have hpq:p<V1.heap.size:=Nat.lt_of_lt_of_le (ap.o.lt (by intro e;rw[e]at du;cases du)) hq
 generalize V1.heap.size=q at *
 have ap:=ae (ap.o.keeps aq.o)
 have aA:=ae (aA.o.trans aq.o)
 have bB:=HN
 refine au 5 [] [0,1,2,3,4] (fun _=>aL) (by kernel_rfl) (by kernel_rfl) (by intro i hi;cases hi) ?_
 iterate 3 refine kp (h:= ?_)
 refine kl (fun wS hS=>(bB.o.keeps hS)) CY (h:= ?_)
 refine kc (hc:=by exact fun wS hS=>rO.o wS (aA.o.trans hS)) (h:= ?_)
 refine aI ?_
 intro GG V2 hk1 hG
 clear hG
 simp only[aZ,br,ct,kD,kG,kP,Option.bind_some]
 have ap:=ae (ap.o.keeps hk1)
 have aA:=ae (aA.o.trans hk1)
 have bB:=ae (bB.o.keeps hk1)
 clear hk1
 go_upto_region 6 with(fail)
 obtain⟨hb0,hb1⟩:=K9.o
 have hwr:IntKind.u64.wrap (b0%2)=b0%2:=by rw[IntKind.wrap_u64];omega
 refine au 10 [] [0,1,2,3,4,5,6,7,8,9] (fun _=>aL) (by kernel_rfl) (by kernel_rfl) (by intro i hi;cases hi) ?_
 refine kp (h:= ?_)
 refine kl (fun wS hS=>(bB.o.keeps hS)) CY (h:= ?_)
 iterate 2 refine kp (h:= ?_)
 refine kp (hx:=by(intro wS hS;have c9:=wA.o wS (aA.o.trans hS);rw[Nat.add_zero]at c9;go_simp)<;>with_reducible rfl) (h:= ?_)
 iterate 2 refine kp (h:= ?_)
 refine kc (hc:=by exact fun wS hS=>PI.o wS (aA.o.trans hS)) (h:= ?_)
 iterate 2 refine kp (h:= ?_)
 refine aI ?_
 intro GG V3 hk1 hG
 clear hG
 simp only[aZ,br,ct,kD,kG,kP,Option.bind_some]
 have ap:=ae (ap.o.keeps hk1)
 have aA:=ae (aA.o.trans hk1)
 clear hk1
 go_wp2_with (refine ws ap.o U4 (by rw[du]) (h:= ?_);intro W2 hr2 hc2;have HN:=ae hr2;have HC:=ae hc2;clear hr2 hc2)
 exact bodyPost_ret (al (p:=4) (t:=5) (ty:=107) rfl _ _ p 0 _ _ _ rfl rfl HN.o Tryz.underlying107 rfl (by rw[aF,U4];exact cI)) rfl ⟨rfl,ag aA.o HC.o (by omega)⟩
def eK(l:List Int):Option J:=if l.length=33∧l.getD 0 0 -l.getD 0 0%2=2∧be (l.drop 1)<PV then(iF (be (l.drop 1)).toNat (l.getD 0 0%2).toNat).map (fun y=>⟨(be (l.drop 1)).toNat,y,1⟩)else none
def mL(l:List Int):List Int:=match eK l with
 |some a=>iU a
 |none=>j0
theorem py(l:List Int):(mL l).length=12:=by unfold mL;split<;>rfl
theorem Da{l:List Int}{a:J}(hb:Bytes l)(h:eK l=some a):a.ok∧a.z=1∧On (fp a.x) (fp a.y):=by
 unfold eK at h
 split at h
 · rename_i hc
   cases hl:iF (be (l.drop 1)).toNat (l.getD 0 0%2).toNat with
   |none=>rw[hl]at h;cases h
   |some y=>
    rw[hl]at h
    cases h
    have ho:=yN hl
    have hx:=eY (l:=l.drop 1) (fun x h=>hb x (List.mem_of_mem_drop h))
    have h3:=hc.2.2
    rw[nQ]at h3
    exact⟨⟨by dsimp only;omega,ho.2,(by decide:1<bn)⟩,rfl,ho.1⟩
 · cases h
theorem tr(g:Nat)(v:Value)(l:List Int)(hb:Bytes l)(w:World)(hr:Row w g 0 cW)(hv:Rd w 1 v l.length (l.map (Value.int .u8))):
 Calls Tryz.prog 52 #[.pointer (some ⟨g,0,none⟩),v] w fun e w' =>e= .returned (.tuple #[.agg ((mL l).map (Value.int .u64)).toArray,.bool (eK l).isSome])∧Keeps w w':=by
 obtain⟨_,sa,cap,rfl,h2,h3,h4,h5⟩:=hv
 have hsz:cap<9223372036854775808:=by unfold maxLen at h3;omega
 by_cases hl:l.length=33
 · cases sa with
   |none=>have :=(h4 rfl).1;omega
   |some ad=>
    obtain⟨g2,off,rfl,hg2,hrow⟩:=h5 ad rfl (by omega)
    rw[hl]at h2⊢
    have hx:=eY (l:=l.drop 1) (fun x h=>hb x (List.mem_of_mem_drop h))
    have hx2:=gp (l:=l.drop 1) (fun x h=>hb x (List.mem_of_mem_drop h)) (by rw[List.length_drop,hl])
    have hb0:=hb.getD 0
    by_cases hok:l.getD 0 0 -l.getD 0 0%2=2
    · have hN:=fun v W hr=>gH v (l.drop 1) W hr (fun x h=>hb x (List.mem_of_mem_drop h)) (by rw[List.length_drop,hl])
      have hB:=fun W (hk:Keeps w W)=>jc g 0 PV (be (l.drop 1)) oV hx2 W (mx (hr.keeps hk))
      by_cases hp:be (l.drop 1)<PV
      ·rw[decide_eq_true hp]at hB
       have he:eK l=(iF (be (l.drop 1)).toNat (l.getD 0 0%2).toNat).map (fun y=>⟨(be (l.drop 1)).toNat,y,1⟩):=by unfold eK;rw[if_pos ⟨hl,hok,hp⟩]
       have hc:mL l=kC (be (l.drop 1)).toNat (l.getD 0 0%2).toNat:=by
        unfold mL kC
        rw[he]
        cases iF (be (l.drop 1)).toNat (l.getD 0 0%2).toNat<;>rfl
       have hd:(eK l).isSome=(iF (be (l.drop 1)).toNat (l.getD 0 0%2).toNat).isSome:=by rw[he];simp
       rw[hc,hd]
       have hxn:words (be (l.drop 1))=nw (be (l.drop 1)).toNat:=by unfold nw;rw[Int.toNat_of_nonneg hx.1]
       rw[hxn]at hN hB
       exact By g g2 off cap l (nw (be (l.drop 1)).toNat) hl hb hok rfl w hrow h2 hsz hN hB _ _ (Eb _ _) (fun b hb' W hk=>by
        have :=zn g (be (l.drop 1)).toNat (l.getD 0 0%2).toNat (by rw[nQ]at hp;omega) W (hr.keeps hk)
        rw[hb']
        rwa[Int.toNat_of_nonneg (by omega)]at this)
      ·rw[decide_eq_false hp]at hB
       have he:eK l=none:=by unfold eK;rw[if_neg (fun h=>hp h.2.2)]
       have hc:mL l=j0:=by unfold mL;rw[he]
       rw[hc,he]
       exact Ee g g2 off cap l _ hl hb hok (ak _) w hrow h2 hsz hN hB
    · have he:eK l=none:=by unfold eK;rw[if_neg (fun h=>hok h.2.1)]
      have hc:mL l=j0:=by unfold mL;rw[he]
      rw[hc,he]
      exact Bx _ g2 off cap l hl hb hok w hrow
 · have he:eK l=none:=by unfold eK;rw[if_neg (fun h=>hl h.1)]
   have hc:mL l=j0:=by unfold mL;rw[he]
   rw[hc,he]
   exact zr _ sa l.length cap hl (by omega) w
def iV(x o:Nat):List Int:=match iF x o with
 |some y=>nk ⟨x,y,1⟩
 |none=>eG
theorem Ef(y:Nat)(hy:y<bn)(w:World):
 Calls Tryz.prog 102 #[.agg #[.int .u32 0,.int .u32 0,.int .u32 0,.int .u32 0,.int .u32 0,.int .u32 0,.int .u32 0,.int .u32 0],.agg ((dz y).map (Value.int .u32)).toArray,.agg ((dz bn).map (Value.int .u32)).toArray] w fun e w' =>e= .returned (.agg ((dz ((bn -y)%bn)).map (Value.int .u32)).toArray)∧Keeps w w':=by
 have :=jg 0 y (by decide) hy w
 rw[show((dz 0).map (Value.int .u32)).toArray= #[.int .u32 0,.int .u32 0,.int .u32 0,.int .u32 0,.int .u32 0,.int .u32 0,.int .u32 0,.int .u32 0] by simp[dz,ax,List.range_succ]]at this
 have e:fs 0 y=(bn -y)%bn:=by unfold fs;rw[Nat.mod_eq_of_lt hy,Nat.zero_add]
 rwa[e]at this
theorem Eg(x e:Nat)(hx:x<bn)(he:e<2^256)(w:World):
 Calls Tryz.prog 106 #[.agg ((dz x).map (Value.int .u32)).toArray,.agg ((dz e).map (Value.int .u32)).toArray,.agg ((dz bn).map (Value.int .u32)).toArray] w fun e' w' =>e' = .returned (.agg ((dz (e7 x e)).map (Value.int .u32)).toArray)∧Keeps w w':=by
 have :=yF bn pu x e (Nat.lt_trans hx (by decide)) he w
 rwa[←ni he]at this
theorem xo:Tryz.prog.built 67 [(0,.int .u32 7)]=some ((dz 7).map (Value.int .u32)).toArray:=by kernel_rfl
theorem vF(x o:Nat)(hx:x<bn)(ho:o<2)(w:World):
 Calls Tryz.prog 70 #[.agg ((dz x).map (Value.int .u32)).toArray,.bool (o==1)] w fun e w' =>e= .returned (.tuple #[.agg ((iV x o).map (Value.int .u32)).toArray,.bool (iF x o).isSome])∧Keeps w w':=by
 have hS:ig x<bn:=eb _ _
 have hY:e7 (ig x) ld<bn:=pn _ _ q_lt
 have h1:=fun W=>cT x x hx hx W
 have h2:=fun W=>cT (fm x x) x (bI _ _) hx W
 have h3:∀W,Calls Tryz.prog 63 #[.agg ((dz (fm (fm x x) x)).map (Value.int .u32)).toArray,.agg ((dz 7).map (Value.int .u32)).toArray,.agg ((dz bn).map (Value.int .u32)).toArray] W fun e w' =>e= .returned (.agg ((dz (ig x)).map (Value.int .u32)).toArray)∧Keeps W w':=fun W=>dA _ 7 (bI _ _) (by decide) W
 have h7:=fun W=>Eg (ig x) ld hS q_lt W
 have h8:=fun W=>cT _ _ hY hY W
 have hE:=kY ((fm (e7 (ig x) ld) (e7 (ig x) ld):Nat):Int) ((ig x:Nat):Int) (dx (bI _ _)) (dx hS)
 have K8:=fun W=>Ef _ hY W
 have ga:iF x o=if fm (e7 (ig x) ld) (e7 (ig x) ld)=ig x then some (if e7 (ig x) ld%2=o then e7 (ig x) ld else(bn -e7 (ig x) ld)%bn)else none:=rfl
 have hpar:=CZ (e7 (ig x) ld)
 refine Bw (dz x) (dz (fm x x)) (dz (fm (fm x x) x)) (dz (ig x)) (dz 7) (dz bn) (dz ld) (dz (e7 (ig x) ld)) (dz (fm (e7 (ig x) ld) (e7 (ig x) ld))) (dz 1) (dz ((bn -e7 (ig x) ld)%bn)) (iV x o) (o==1) _ (cA _) (cA _) (cA _) (cA _) (cA _) (cA _) (cA _) (by rw[nQ];rfl) (by rw[show(PV+1)/2/2=((ld:Nat):Int) by decide];rfl) (cS _ 0 (by decide)) w xo Bp (fun W=>xj W) h1 h2 h3 h7 h8 K8 _ hE ?_
 generalize e7 (ig x) ld=y at *
 have hdec:decide (((fm y y:Nat):Int)=((ig x:Nat):Int))=decide (fm y y=ig x):=by
  by_cases e:fm y y=ig x
  ·rw[e];simp
  ·rw[decide_eq_false e,decide_eq_false (fun h=>e (by exact_mod_cast h))]
 rw[hdec,hpar]
 by_cases Ja:fm y y=ig x
 ·rw[if_pos Ja]at ga
  rw[decide_eq_true Ja]
  have h2':y%2<2:=Nat.mod_lt _ (by decide)
  by_cases hp:y%2=o
  ·rw[if_pos hp]at ga
   have hc:iV x o=nk ⟨x,y,1⟩:=by unfold iV;rw[ga]
   refine .inr (.inl ⟨rfl,?_,hc,by rw[ga];rfl⟩)
   rw[hp]
   have :o=0∨o=1:=by omega
   rcases this with rfl|rfl<;>rfl
  ·rw[if_neg hp]at ga
   have hc:iV x o=nk ⟨x,(bn -y)%bn,1⟩:=by unfold iV;rw[ga]
   refine .inr (.inr ⟨rfl,?_,hc,by rw[ga];rfl⟩)
   generalize y%2=z at *
   have :(o=0∧z=1)∨(o=1∧z=0):=by omega
   rcases this with⟨rfl,rfl⟩|⟨rfl,rfl⟩<;>rfl
 ·rw[if_neg Ja]at ga
  rw[decide_eq_false Ja]
  have hc:iV x o=eG:=by unfold iV;rw[ga]
  exact .inl ⟨rfl,hc,by rw[ga];rfl⟩
theorem Eh:Tryz.prog.built 67 [(0,.int .u32 385357720),(1,.int .u32 1509065051),(2,.int .u32 768485593),(3,.int .u32 43777243),(4,.int .u32 3464956679),(5,.int .u32 1436574357),(6,.int .u32 4191992748),(7,.int .u32 2042521214)]=some ((dz CP).map (Value.int .u32)).toArray:=by kernel_rfl
theorem JV(GX PT:List Int)(nF:PT.length=24)(w:World)(hB:Tryz.prog.built 67 [(0,.int .u32 385357720),(1,.int .u32 1509065051),(2,.int .u32 768485593),(3,.int .u32 43777243),(4,.int .u32 3464956679),(5,.int .u32 1436574357),(6,.int .u32 4191992748),(7,.int .u32 2042521214)]=some (GX.map (Value.int .u32)).toArray)
 (hL:∀W,Calls Tryz.prog 70 #[.agg (GX.map (Value.int .u32)).toArray,.bool false] W fun e w' =>e= .returned (.tuple #[.agg (PT.map (Value.int .u32)).toArray,.bool true])∧Keeps W w'):
 Calls Tryz.prog 67 #[] w fun e w' =>e= .returned (.agg (PT.map (Value.int .u32)).toArray)∧Keeps w w':=by
 have HB:=ae hB;have HL:=ae hL;clear hB hL
 go_enter Tryz.func67,Tryz.ntmps67
 go_upto_region 1 with(fail)
 refine bh (fun W hk hra hs=> ?_)
 obtain⟨p,hp⟩:∃p,p=w.heap.size:=⟨_,rfl⟩
 rw[←hp]at hra hs⊢
 have hkp:w.heap.size≤p:=by omega
 obtain⟨Zr,du,hrz⟩:∃Zr:List Value,Zr.length=24∧Row W p 0 Zr:=⟨_,rfl,hra⟩
 have aA:=ae hk;have ap:=ae hrz
 clear hp hra hrz hk hs
 go_upto_region 2 with(first |(refine aW (by kernel_rfl) 67 _ rfl _ ?_ _ HB.o ?_;focus(simp only[List.map_toArray,List.map_cons,List.map_nil];rfl))|(go_at_call 70;refine(HL.o _).mono ?_;rintro e V1 ⟨rfl,hk1⟩;have aH:=ae hk1;clear hk1)|(refine ws (g:=V1.heap.size) (olds:=(eG.map (Value.int .u32))) (Row.new _ _ _ rfl) nF rfl (h:= ?_);intro W2 hr2 hc2;have HN:=ae hr2;have aq:=ae (ag (ah aH.o _) hc2 aH.o.size);clear hr2 hc2))
 have ap:=ae (ap.o.keeps aq.o)
 have aA:=ae (aA.o.trans aq.o)
 go_wp2_with (first |(refine wl HN.o nF (h:= ?_))|(refine ws ap.o nF (by rw[du]) (h:= ?_);intro W3 hr2 hc2;have Bt:=ae hr2;have HC:=ae hc2;clear hr2 hc2))
 exact bodyPost_ret (ar (p:=0) (ty:=70) rfl _ _ p 0 _ _ rfl Bt.o Tryz.underlying70 rfl (by rw[aF,nF];exact dn)) rfl ⟨rfl,ag aA.o HC.o (by omega)⟩
theorem Ho(w:World):Calls Tryz.prog 67 #[] w fun e w' =>e= .returned (.agg ((nk gJ).map (Value.int .u32)).toArray)∧Keeps w w':=
 JV (dz CP) (nk gJ) (nr _) w Eh (fun W=>by
  have :=vF CP 0 (by decide) (by decide) W
  have hc:iV CP 0=nk gJ:=by unfold iV;rw[sX];rfl
  rw[hc,sX]at this
  exact this)
theorem xp(sa:Option Addr)(n cap:Nat)(hn:¬n=33)(hn2:(n:Int)<9223372036854775808)(w:World):
 Calls Tryz.prog 34 #[.slice sa n cap] w fun e w' =>e= .returned (.tuple #[.agg (eG.map (Value.int .u32)).toArray,.bool false])∧Keeps w w':=by
 have z1:((n:Int)!=33)=true:=by rw[bne_iff_ne];omega
 go_enter Tryz.func34,Tryz.ntmps34
 go_upto_region 1 with(fail)
 refine bh (fun W hk hra hs=> ?_)
 obtain⟨p,hp⟩:∃p,p=w.heap.size:=⟨_,rfl⟩
 rw[←hp]at hra hs⊢
 have hkp:w.heap.size≤p:=by omega
 obtain⟨Zr,du,hrz⟩:∃Zr:List Value,Zr.length=24∧Row W p 0 Zr:=⟨_,rfl,hra⟩
 have aA:=ae hk;have ap:=ae hrz
 clear hp hra hrz hk hs
 go_wp2_with (refine wpList_store_row rfl 70 (.tmp 2) (.tmp 27) rfl _ 0 rfl Zr (eG.map (Value.int .u32)) rfl ap.o (by rw[du];rfl) dn (ai _) ?_;intro W2 hr2 hc2;have HN:=ae hr2;have HC:=ae hc2;clear hr2 hc2)
 exact bodyPost_ret (al (p:=2) (t:=3) (ty:=70) rfl _ _ p 0 _ _ _ rfl rfl HN.o Tryz.underlying70 rfl dn) rfl ⟨rfl,ag aA.o HC.o (by omega)⟩
theorem zt(g off cap:Nat)(l:List Int)(hl:l.length=33)(hbad:¬l.getD 0 0=2∧¬l.getD 0 0=3)(w:World)(hg:Row w g off (l.map (Value.int .u8))):
 Calls Tryz.prog 34 #[.slice (some ⟨g,off,none⟩) 33 cap] w fun e w' =>e= .returned (.tuple #[.agg (eG.map (Value.int .u32)).toArray,.bool false])∧Keeps w w':=by
 have HG:=ae hg
 have hl0:0<l.length:=by omega
 clear hg
 go_enter Tryz.func34,Tryz.ntmps34
 go_upto_region 1 with(fail)
 refine bh (fun W hk hra hs=> ?_)
 obtain⟨p,hp⟩:∃p,p=w.heap.size:=⟨_,rfl⟩
 rw[←hp]at hra hs⊢
 have hkp:w.heap.size≤p:=by omega
 obtain⟨Zr,du,hrz⟩:∃Zr:List Value,Zr.length=24∧Row W p 0 Zr:=⟨_,rfl,hra⟩
 have aA:=ae hk;have ap:=ae hrz
 have c0:=(HG.o.keeps hk).int 0 hl0
 rw[Nat.add_zero]at c0
 clear hp hra hrz hk hs HG hl0 hl
 generalize l.getD 0 0=b0 at *
 have z1:(b0 !=2)=true:=by rw[bne_iff_ne];exact hbad.1
 have z2:(b0 !=3)=true:=by rw[bne_iff_ne];exact hbad.2
 clear hbad
 go_wp2_with (refine wpList_store_row rfl 70 (.tmp 2) (.tmp 27) rfl _ 0 rfl Zr (eG.map (Value.int .u32)) rfl ap.o (by rw[du];rfl) dn (ai _) ?_;intro W2 hr2 hc2;have HN:=ae hr2;have HC:=ae hc2;clear hr2 hc2)
 exact bodyPost_ret (al (p:=2) (t:=3) (ty:=70) rfl _ _ p 0 _ _ _ rfl rfl HN.o Tryz.underlying70 rfl dn) rfl ⟨rfl,ag aA.o HC.o (by omega)⟩
theorem Bz(g off cap:Nat)(l XL M:List Int)(hl:l.length=33)(hok:l.getD 0 0=2∨l.getD 0 0=3)(w:World)(hg:Row w g off (l.map (Value.int .u8)))(hcap:33≤cap)(hcap2:cap<9223372036854775808)(d:Bool)(RT:List Int)(ro:RT.length=24)(lt:Bool)
 (hN:∀v W,Rd W 1 v 32 ((l.drop 1).map (Value.int .u8))→Calls Tryz.prog 33 #[v] W fun e w' =>e= .returned (.agg (XL.map (Value.int .u32)).toArray)∧Keeps W w')
 (hP:∀W,Calls Tryz.prog 69 #[] W fun e w' =>e= .returned (.agg (M.map (Value.int .u32)).toArray)∧Keeps W w')
 (hB:∀W,Calls Tryz.prog 61 #[.agg (XL.map (Value.int .u32)).toArray,.agg (M.map (Value.int .u32)).toArray] W fun e w' =>e= .returned (.bool lt)∧Keeps W w')
 (hcase:(lt=false∧RT=eG∧d=false)∨(lt=true∧∀W,Calls Tryz.prog 70 #[.agg (XL.map (Value.int .u32)).toArray,.bool (l.getD 0 0==3)] W fun e w' =>e= .returned (.tuple #[.agg (RT.map (Value.int .u32)).toArray,.bool d])∧Keeps W w')):
 Calls Tryz.prog 34 #[.slice (some ⟨g,off,none⟩) 33 cap] w fun e w' =>e= .returned (.tuple #[.agg (RT.map (Value.int .u32)).toArray,.bool d])∧Keeps w w':=by
 have E8:=ae hN;have rO:=ae hB;have HP:=ae hP;clear hN hB hP
 have HG:=ae hg
 have hl0:0<l.length:=by omega
 have hgl:g<w.heap.size:=hg.lt (by intro e;have :=congrArg List.length e;rw[aF,hl]at this;cases this)
 have HL:=ae hl
 have iI:=ae hcase
 clear hg hl hcase
 go_enter Tryz.func34,Tryz.ntmps34
 go_upto_region 1 with(fail)
 refine bh (fun W hk hra hs=> ?_)
 obtain⟨p,hp⟩:∃p,p=w.heap.size:=⟨_,rfl⟩
 rw[←hp]at hra hs hgl⊢
 have hkp:w.heap.size≤p:=by omega
 obtain⟨Zr,du,hrz⟩:∃Zr:List Value,Zr.length=24∧Row W p 0 Zr:=⟨_,rfl,hra⟩
 have aA:=ae hk;have ap:=ae hrz
 have wA:=ae (fun W' (hk':Keeps w W')=>(HG.o.keeps hk').int 0 hl0)
 have c0:=wA.o W hk
 rw[Nat.add_zero]at c0
 have HR1:=ae (show Row W g (off+1) ((l.drop 1).map (Value.int .u8)) by have :=(HG.o.keeps hk).drop 1;rwa[←List.map_drop]at this)
 have MG:=ae (show(l.drop 1).length=32 by rw[List.length_drop,HL.o])
 have hgW:g<W.heap.size:=by omega
 clear hp hra hrz hk hs hl0 HL HG
 generalize l.getD 0 0=b0 at *
 generalize l.drop 1=LD at *
 rcases iI.o with⟨rfl,rfl,rfl⟩|⟨rfl,PH⟩
 ·clear iI
  rcases hok with rfl|rfl
  all_goals
   go_upto_region 2 with(first |(go_at_call 33;refine(E8.o _ _ (Rd.bQ HR1.o (by simp[MG.o]) hgW (by omega) (by unfold maxLen;omega))).mono ?_;rintro e V1 ⟨rfl,hk1⟩;have aH:=ae hk1;clear hk1)|(go_at_call 69;refine(HP.o _).mono ?_;rintro e V2 ⟨rfl,hk1⟩;have iT:=ae hk1;clear hk1)|(go_at_call 61;refine(rO.o _).mono ?_;rintro e V3 ⟨rfl,hk1⟩;have Cp:=ae hk1;clear hk1))
   have ap:=ae (((ap.o.keeps aH.o).keeps iT.o).keeps Cp.o)
   have aA:=ae (((aA.o.trans aH.o).trans iT.o).trans Cp.o)
   go_wp2_with (refine wpList_store_row rfl 70 (.tmp 2) (.tmp 27) rfl _ 0 rfl Zr (eG.map (Value.int .u32)) rfl ap.o (by rw[du];rfl) dn (ai _) ?_;intro W2 hr2 hc2;have HN:=ae hr2;have HC:=ae hc2;clear hr2 hc2)
   exact bodyPost_ret (al (p:=2) (t:=3) (ty:=70) rfl _ _ p 0 _ _ _ rfl rfl HN.o Tryz.underlying70 rfl dn) rfl ⟨rfl,ag aA.o HC.o (by omega)⟩
 · have PI:=ae PH
   clear iI PH
   have RB:=ae (show∃bb,bb=(b0==3)from⟨_,rfl⟩)
   rcases hok with rfl|rfl
   all_goals
    go_upto_region 3 with(first |(go_at_call 33;refine(E8.o _ _ (Rd.bQ HR1.o (by simp[MG.o]) hgW (by omega) (by unfold maxLen;omega))).mono ?_;rintro e V1 ⟨rfl,hk1⟩;have aH:=ae hk1;clear hk1)|(go_at_call 69;refine(HP.o _).mono ?_;rintro e V2 ⟨rfl,hk1⟩;have iT:=ae hk1;clear hk1)|(go_at_call 61;refine(rO.o _).mono ?_;rintro e V3 ⟨rfl,hk1⟩;have Cp:=ae hk1;clear hk1))
    have ap:=ae (((ap.o.keeps aH.o).keeps iT.o).keeps Cp.o)
    have aA:=ae (((aA.o.trans aH.o).trans iT.o).trans Cp.o)
    have HR1:=ae (((HR1.o.keeps aH.o).keeps iT.o).keeps Cp.o)
    have hgW:g<V3.heap.size:=Nat.lt_of_lt_of_le hgW (Nat.le_trans aH.o.size (Nat.le_trans iT.o.size Cp.o.size))
    have hcap1:¬cap=1:=by omega
    have iX:=ae (fun W' (hk:Keeps V3 W')=>show Rd W' 1 (.slice (some ⟨g,off+1,none⟩) 32 (cap -1)) 32 (LD.map (Value.int .u8))from Rd.bQ (HR1.o.keeps hk) (by simp[MG.o]) (Nat.lt_of_lt_of_le hgW hk.size) (by omega) (by unfold maxLen;omega))
    refine au 10 [] [0,1,2,3,4,5,6,7,8,9] (fun _=>[]) (by kernel_rfl) (by kernel_rfl) (by intro i hi;cases hi) ?_
    iterate 2 refine kp (h:= ?_)
    refine kc (hc:=by exact fun wS hS=>E8.o _ wS (iX.o wS hS)) (h:= ?_)
    iterate 2 refine kp (h:= ?_)
    refine kp (hx:=by(intro wS hS;have c9:=wA.o wS (aA.o.trans hS);rw[Nat.add_zero]at c9;go_simp)<;>with_reducible rfl) (h:= ?_)
    refine kp (h:= ?_)
    refine kc (hc:=by exact fun wS hS=>PI.o wS) (h:= ?_)
    iterate 2 refine kp (h:= ?_)
    refine aI ?_
    intro GG V4 hk1 hG
    clear hG
    simp only[aZ,br,ct,kD,kG,kP,Option.bind_some]
    have ap:=ae (ap.o.keeps hk1)
    have aA:=ae (aA.o.trans hk1)
    clear hk1
    go_wp2_with (refine ws ap.o ro (by rw[du]) (h:= ?_);intro W2 hr2 hc2;have HN:=ae hr2;have HC:=ae hc2;clear hr2 hc2)
    exact bodyPost_ret (al (p:=2) (t:=3) (ty:=70) rfl _ _ p 0 _ _ _ rfl rfl HN.o Tryz.underlying70 rfl (by rw[aF,ro];exact dn)) rfl ⟨rfl,ag aA.o HC.o (by omega)⟩
def iJ(l:List Int):List Int:=match eK l with
 |some a=>nk a
 |none=>eG
theorem kE(l:List Int):(iJ l).length=24:=by unfold iJ;split<;>first |exact nr _|rfl
theorem rx(v:Value)(l:List Int)(hb:Bytes l)(w:World)(hv:Rd w 1 v l.length (l.map (Value.int .u8))):
 Calls Tryz.prog 34 #[v] w fun e w' =>e= .returned (.tuple #[.agg ((iJ l).map (Value.int .u32)).toArray,.bool (eK l).isSome])∧Keeps w w':=by
 obtain⟨_,sa,cap,rfl,h2,h3,h4,h5⟩:=hv
 have hsz:cap<9223372036854775808:=by unfold maxLen at h3;omega
 by_cases hl:l.length=33
 · cases sa with
   |none=>have :=(h4 rfl).1;omega
   |some ad=>
    obtain⟨g2,off,rfl,hg2,hrow⟩:=h5 ad rfl (by omega)
    rw[hl]at h2⊢
    have hx:=eY (l:=l.drop 1) (fun x h=>hb x (List.mem_of_mem_drop h))
    have hx2:=gp (l:=l.drop 1) (fun x h=>hb x (List.mem_of_mem_drop h)) (by rw[List.length_drop,hl])
    have hb0:=hb.getD 0
    by_cases hok:l.getD 0 0 -l.getD 0 0%2=2
    · have hok':l.getD 0 0=2∨l.getD 0 0=3:=by omega
      have hN:=fun v W hr=>jK v (l.drop 1) W hr (fun x h=>hb x (List.mem_of_mem_drop h)) (by rw[List.length_drop,hl])
      have hB:=fun W=>fy (be (l.drop 1)) PV hx2 oV W
      refine Bz g2 off cap l (ax (be (l.drop 1))) (ax PV) hl hok' w hrow h2 hsz _ _ (kE l) _ hN (fun W=>FV W) hB ?_
      by_cases hp:be (l.drop 1)<PV
      · have he:eK l=(iF (be (l.drop 1)).toNat (l.getD 0 0%2).toNat).map (fun y=>⟨(be (l.drop 1)).toNat,y,1⟩):=by unfold eK;rw[if_pos ⟨hl,hok,hp⟩]
        have hc:iJ l=iV (be (l.drop 1)).toNat (l.getD 0 0%2).toNat:=by
         unfold iJ iV
         rw[he]
         cases iF (be (l.drop 1)).toNat (l.getD 0 0%2).toNat<;>rfl
        have hd:(eK l).isSome=(iF (be (l.drop 1)).toNat (l.getD 0 0%2).toNat).isSome:=by rw[he];simp
        rw[hc,hd,decide_eq_true hp]
        have hxn:ax (be (l.drop 1))=dz (be (l.drop 1)).toNat:=by unfold dz;rw[Int.toNat_of_nonneg hx.1]
        have ho:(l.getD 0 0==3)=((l.getD 0 0%2).toNat==1):=by rcases hok' with h|h<;>rw[h]<;>rfl
        rw[hxn,ho]
        exact .inr ⟨rfl,fun W=>vF _ _ (by rw[nQ]at hp;omega) (by omega) W⟩
      · have he:eK l=none:=by unfold eK;rw[if_neg (fun h=>hp h.2.2)]
        have hc:iJ l=eG:=by unfold iJ;rw[he]
        rw[hc,he,decide_eq_false hp]
        exact .inl ⟨rfl,rfl,rfl⟩
    · have he:eK l=none:=by unfold eK;rw[if_neg (fun h=>hok h.2.1)]
      have hc:iJ l=eG:=by unfold iJ;rw[he]
      rw[hc,he]
      exact zt g2 off cap l hl (by omega) w hrow
 · have he:eK l=none:=by unfold eK;rw[if_neg (fun h=>hl h.1)]
   have hc:iJ l=eG:=by unfold iJ;rw[he]
   rw[hc,he]
   exact xp sa l.length cap hl (by omega) w
end Go.Proofs.YtlofddoojkeakaaGreatDoor
