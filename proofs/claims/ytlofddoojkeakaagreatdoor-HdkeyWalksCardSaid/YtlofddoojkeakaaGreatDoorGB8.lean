/- curve's group on numbers: infinite, double, add. -/
import Derived.Test.YtlofddoojkeakaaGreatDoorGB7
import Derived.Test.YtlofddoojkeakaaGreatDoorGB6
import Derived.Test.YtlofddoojkeakaaGreatDoorGB0
set_option maxRecDepth 100000
set_option maxHeartbeats 8000000
set_option linter.unusedVariables false
set_option linter.unusedSimpArgs false
namespace Go.Proofs.YtlofddoojkeakaaGreatDoor
open Go Go.RowKit Cv
def nw(x:Nat):List Int:=words (x:Int)
def iU(a:J):List Int:=nw a.x++nw a.y++nw a.z
theorem CU(a:J):(iU a).length=12:=rfl
theorem nQ:PV=((bn:Nat):Int):=by decide
theorem dx{x:Nat}(h:x<bn):cg (x:Int):=jl (Nat.lt_trans h (by decide))
theorem Mt{w:World}{g:Nat}(h:Row w g 0 cW):Row w g 0 (gT.map (Value.int .u64)):=h.take 7
theorem tg:NO ((bn:Nat):Int) gT:=by rw[←nQ];exact OH
theorem GR:NV=((Jd:Nat):Int):=by decide
theorem aX(g:Nat)(x y:Nat)(hx:x<bn)(hy:y<bn)(w:World)(hr:Row w g 0 cW):
 Calls Tryz.prog 92 #[.pointer (some ⟨g,0,none⟩),.agg ((nw x).map (Value.int .u64)).toArray,.agg ((nw y).map (Value.int .u64)).toArray] w fun e w' =>e= .returned (.agg ((nw (fm x y)).map (Value.int .u64)).toArray)∧Keeps w w':=by
 have :=mul_any g 0 _ _ tg x y (dx hx) (dx hy) w (Mt hr)
 have e:((x:Int)*(y:Int)%((bn:Nat):Int))=((fm x y:Nat):Int):=by unfold fm;rw[Int.natCast_emod,Int.natCast_mul]
 rwa[e]at this
theorem eI(g:Nat)(x y:Nat)(hx:x<bn)(hy:y<bn)(w:World)(hr:Row w g 0 cW):
 Calls Tryz.prog 49 #[.pointer (some ⟨g,0,none⟩),.agg ((nw x).map (Value.int .u64)).toArray,.agg ((nw y).map (Value.int .u64)).toArray] w fun e w' =>e= .returned (.agg ((nw (fa x y)).map (Value.int .u64)).toArray)∧Keeps w w':=by
 have :=add_any g 0 ((bn:Nat):Int) x y tg.mU ⟨by omega,by omega⟩ ⟨by omega,by omega⟩ w (by rw[←nQ];exact mx hr)
 have e:(((x:Int)+(y:Int))%((bn:Nat):Int))=((fa x y:Nat):Int):=by unfold fa;rw[Int.natCast_emod,Int.natCast_add]
 rwa[e]at this
theorem eJ(g:Nat)(x y:Nat)(hx:x<bn)(hy:y<bn)(w:World)(hr:Row w g 0 cW):
 Calls Tryz.prog 93 #[.pointer (some ⟨g,0,none⟩),.agg ((nw x).map (Value.int .u64)).toArray,.agg ((nw y).map (Value.int .u64)).toArray] w fun e w' =>e= .returned (.agg ((nw (fs x y)).map (Value.int .u64)).toArray)∧Keeps w w':=by
 have :=Js g 0 ((bn:Nat):Int) x y tg.mU ⟨by omega,by omega⟩ ⟨by omega,by omega⟩ w (by rw[←nQ];exact mx hr)
 have e:(((x:Int) -(y:Int))%((bn:Nat):Int))=((fs x y:Nat):Int):=by
  unfold fs
  rw[Int.natCast_emod,Nat.mod_eq_of_lt hy,Int.natCast_add,Int.natCast_sub (by omega),show(x:Int)+(((bn:Nat):Int) -(y:Int))=(x:Int) -(y:Int)+((bn:Nat):Int) by omega,Int.add_emod_right]
 rwa[e]at this
theorem GT(g:Nat)(Z:List Int)(lZ:Z.length=4)(d:Bool)(w:World)(hZ:Row w g 8 (Z.map (Value.int .u64)))(hz:∀W,Calls Tryz.prog 50 #[.agg (Z.map (Value.int .u64)).toArray] W fun e w' =>e= .returned (.bool d)∧Keeps W w'):
 Calls Tryz.prog 56 #[.pointer (some ⟨g,0,none⟩)] w fun e w' =>e= .returned (.bool d)∧Keeps w w':=by
 have HZ:=ae hZ;have Wx:=ae hz;clear hZ hz
 go_enter Tryz.func56,Tryz.ntmps56
 go_wp2_with (first |(refine aj rfl 95 (.tmp 5) rfl g 8 rfl (Z.map (Value.int .u64)) _ HZ.o Tryz.underlying95 rfl (by rw[aF,lZ];exact aE) ?_)|(go_at_call 50;refine(Wx.o _).mono ?_;rintro e V1 ⟨rfl,hk1⟩;have aH:=ae hk1;clear hk1))
 go_ret
 exact⟨rfl,aH.o⟩
theorem mI(g:Nat)(a:J)(w:World)(h:a.z<bn)(hr:Row w g 0 ((iU a).map (Value.int .u64))):Calls Tryz.prog 56 #[.pointer (some ⟨g,0,none⟩)] w fun e w' =>e= .returned (.bool (decide (a.z=0)))∧Keeps w w':=by
 have :=GT g (nw a.z) rfl (decide (((a.z:Nat):Int)=0)) w (row3 (X:=nw a.x) (Y:=nw a.y) (Z:=nw a.z) rfl rfl rfl hr).2.2 (fun W=>fd _ (dx h) W)
 have e:decide (((a.z:Nat):Int)=0)=decide (a.z=0):=by
  by_cases h0:a.z=0
  ·rw[h0];rfl
  ·rw[decide_eq_false h0,decide_eq_false (by omega)]
 rwa[e]at this
theorem ep(g:Nat)(a:J)(w:World)(h:a.z<bn)(hz:¬a.z=0)(hr:Row w g 0 ((iU a).map (Value.int .u64))):Calls Tryz.prog 56 #[.pointer (some ⟨g,0,none⟩)] w fun e w' =>e= .returned (.bool false)∧Keeps w w':=by
 have :=mI g a w h hr
 rwa[decide_eq_false hz]at this
theorem lh(g:Nat)(a:J)(w:World)(h:a.z<bn)(hz:a.z=0)(hr:Row w g 0 ((iU a).map (Value.int .u64))):Calls Tryz.prog 56 #[.pointer (some ⟨g,0,none⟩)] w fun e w' =>e= .returned (.bool true)∧Keeps w w':=by
 have :=mI g a w h hr
 rwa[decide_eq_true hz]at this
theorem zc(gv:Value)(gg:Nat)(hgv:gv= .pointer (some ⟨gg,0,none⟩))(PT:List Int)(nF:PT.length=12)(w:World)
 (kA:∀g W,Row W g 0 (PT.map (Value.int .u64))→Calls Tryz.prog 56 #[.pointer (some ⟨g,0,none⟩)] W fun e w' =>e= .returned (.bool true)∧Keeps W w'):
 Calls Tryz.prog 94 #[gv,.agg (PT.map (Value.int .u64)).toArray] w fun e w' =>e= .returned (.agg (PT.map (Value.int .u64)).toArray)∧Keeps w w':=by
 subst hgv
 have qq:=ae kA;clear kA
 go_enter Tryz.func94,Tryz.ntmps94
 go_upto_region 1 with(fail)
 refine bu (fun W hk hra hrb hs=> ?_)
 obtain⟨p,hp⟩:∃p,p=w.heap.size:=⟨_,rfl⟩
 rw[←hp]at hra hrb hs⊢
 have hkp:w.heap.size≤p:=by omega
 obtain⟨Zr,du,hrz⟩:∃Zr:List Value,Zr.length=12∧Row W (p+1) 0 Zr:=⟨_,rfl,hrb⟩
 have bj:=ae (show Row W p 0 (PT.map (Value.int .u64))from hra)
 have aA:=ae hk;have ap:=ae hrz
 clear hp hra hrb hrz hk hs
 go_wp2_with (first |(go_at_call 56;refine(qq.o p _ bj.o).mono ?_;rintro e V1 ⟨rfl,hk1⟩;have aH:=ae hk1;clear hk1)|(refine aj rfl 107 (.tmp 3) rfl _ 0 rfl (PT.map (Value.int .u64)) _ (bj.o.keeps aH.o) Tryz.underlying107 rfl (by rw[aF,nF];exact cI) ?_)|(refine wpList_store_row rfl 107 (.tmp 4) (.tmp 17) rfl _ 0 rfl Zr (PT.map (Value.int .u64)) rfl (ap.o.keeps aH.o) (by rw[aF,nF,du]) (by rw[aF,nF];exact cI) (ai _) ?_;intro W2 hr2 hc2;have HN:=ae hr2;have HC:=ae hc2;clear hr2 hc2))
 exact bodyPost_ret (ar (p:=4) (ty:=107) rfl _ _ (p+1) 0 _ _ rfl HN.o Tryz.underlying107 rfl (by rw[aF,nF];exact cI)) rfl ⟨rfl,ag (aA.o.trans aH.o) HC.o (by omega)⟩
theorem CV(g:Nat)(a:J)(h:a.ok)(w:World)(hr:Row w g 0 cW):
 Calls Tryz.prog 94 #[.pointer (some ⟨g,0,none⟩),.agg ((iU a).map (Value.int .u64)).toArray] w fun e w' =>e= .returned (.agg ((iU (lG a)).map (Value.int .u64)).toArray)∧Keeps w w':=by
 by_cases hz:a.z=0
 · have e:lG a=a:=by unfold lG;rw[if_pos hz]
   rw[e]
   exact zc _ g rfl (iU a) (CU a) w (fun g' W hW=>lh g' a W h.2.2 hz hW)
 · skip
   obtain⟨c1,hc1⟩:∃v,v=fm a.y a.y:=⟨_,rfl⟩
   have Fi:c1<bn:=by rw[hc1];exact bI _ _
   obtain⟨c2,hc2⟩:∃v,v=fm a.x c1:=⟨_,rfl⟩
   have xh:c2<bn:=by rw[hc2];exact bI _ _
   obtain⟨c3,hc3⟩:∃v,v=fa c2 c2:=⟨_,rfl⟩
   have D0:c3<bn:=by rw[hc3];exact eb _ _
   obtain⟨c4,hc4⟩:∃v,v=fa c2 c2:=⟨_,rfl⟩
   have GU:c4<bn:=by rw[hc4];exact eb _ _
   obtain⟨c5,hc5⟩:∃v,v=fa c3 c4:=⟨_,rfl⟩
   have GV:c5<bn:=by rw[hc5];exact eb _ _
   obtain⟨c6,hc6⟩:∃v,v=fm a.x a.x:=⟨_,rfl⟩
   have Fj:c6<bn:=by rw[hc6];exact bI _ _
   obtain⟨c7,po⟩:∃v,v=fa c6 c6:=⟨_,rfl⟩
   have JM:c7<bn:=by rw[po];exact eb _ _
   obtain⟨c8,hc8⟩:∃v,v=fa c7 c6:=⟨_,rfl⟩
   have GY:c8<bn:=by rw[hc8];exact eb _ _
   obtain⟨c9,aJ⟩:∃v,v=fm c8 c8:=⟨_,rfl⟩
   have CW:c9<bn:=by rw[aJ];exact bI _ _
   obtain⟨c10,eh⟩:∃v,v=fa c5 c5:=⟨_,rfl⟩
   have th:c10<bn:=by rw[eh];exact eb _ _
   obtain⟨c11,ti⟩:∃v,v=fs c9 c10:=⟨_,rfl⟩
   have D1:c11<bn:=by rw[ti];exact eZ _ _
   obtain⟨c12,hc12⟩:∃v,v=fm c1 c1:=⟨_,rfl⟩
   have xi:c12<bn:=by rw[hc12];exact bI _ _
   obtain⟨c13,hc13⟩:∃v,v=fa c12 c12:=⟨_,rfl⟩
   have Bm:c13<bn:=by rw[hc13];exact eb _ _
   obtain⟨c14,mJ⟩:∃v,v=fa c12 c12:=⟨_,rfl⟩
   have D3:c14<bn:=by rw[mJ];exact eb _ _
   obtain⟨c15,tj⟩:∃v,v=fa c13 c14:=⟨_,rfl⟩
   have D4:c15<bn:=by rw[tj];exact eb _ _
   obtain⟨c16,hc16⟩:∃v,v=fm a.y a.z:=⟨_,rfl⟩
   have D5:c16<bn:=by rw[hc16];exact bI _ _
   obtain⟨c17,hc17⟩:∃v,v=fs c5 c11:=⟨_,rfl⟩
   have GZ:c17<bn:=by rw[hc17];exact eZ _ _
   obtain⟨c18,hc18⟩:∃v,v=fm c8 c17:=⟨_,rfl⟩
   have G0:c18<bn:=by rw[hc18];exact bI _ _
   obtain⟨c19,hc19⟩:∃v,v=fa c15 c15:=⟨_,rfl⟩
   have G2:c19<bn:=by rw[hc19];exact eb _ _
   obtain⟨c20,tk⟩:∃v,v=fs c18 c19:=⟨_,rfl⟩
   have JN:c20<bn:=by rw[tk];exact eZ _ _
   obtain⟨c21,hc21⟩:∃v,v=fa c16 c16:=⟨_,rfl⟩
   have JO:c21<bn:=by rw[hc21];exact eb _ _
   refine GE g _ _ _ (nw c1) (nw c2) (nw c3) (nw c4) (nw c5) (nw c6) (nw c7) (nw c8) (nw c9) (nw c10) (nw c11) (nw c12) (nw c13) (nw c14) (nw c15) (nw c16) (nw c17) (nw c18) (nw c19) (nw c20) (nw c21) (iU a) (iU (lG a)) rfl ?_ (ak _) (ak _) (ak _) (ak _) (ak _) (ak _) (ak _) (ak _) (ak _) (ak _) (ak _) (ak _) (ak _) (ak _) (ak _) (ak _) (ak _) (ak _) (ak _) (ak _) (ak _) (ak _) (ak _) (ak _) w (fun g' W hW=>ep g' a W (h.2.2) hz hW) (fun W hk=>by rw[hc1];exact aX g _ _ h.2.1 h.2.1 W (hr.keeps hk)) (fun W hk=>by rw[hc2];exact aX g _ _ h.1 Fi W (hr.keeps hk)) (fun W hk=>by rw[hc3];exact eI g _ _ xh xh W (hr.keeps hk)) (fun W hk=>by rw[hc4];exact eI g _ _ xh xh W (hr.keeps hk)) (fun W hk=>by rw[hc5];exact eI g _ _ D0 GU W (hr.keeps hk)) (fun W hk=>by rw[hc6];exact aX g _ _ h.1 h.1 W (hr.keeps hk)) (fun W hk=>by rw[po];exact eI g _ _ Fj Fj W (hr.keeps hk)) (fun W hk=>by rw[hc8];exact eI g _ _ JM Fj W (hr.keeps hk)) (fun W hk=>by rw[aJ];exact aX g _ _ GY GY W (hr.keeps hk)) (fun W hk=>by rw[eh];exact eI g _ _ GV GV W (hr.keeps hk)) (fun W hk=>by rw[ti];exact eJ g _ _ CW th W (hr.keeps hk)) (fun W hk=>by rw[hc12];exact aX g _ _ Fi Fi W (hr.keeps hk)) (fun W hk=>by rw[hc13];exact eI g _ _ xi xi W (hr.keeps hk)) (fun W hk=>by rw[mJ];exact eI g _ _ xi xi W (hr.keeps hk)) (fun W hk=>by rw[tj];exact eI g _ _ Bm D3 W (hr.keeps hk)) (fun W hk=>by rw[hc16];exact aX g _ _ h.2.1 h.2.2 W (hr.keeps hk)) (fun W hk=>by rw[hc17];exact eJ g _ _ GV D1 W (hr.keeps hk)) (fun W hk=>by rw[hc18];exact aX g _ _ GY GZ W (hr.keeps hk)) (fun W hk=>by rw[hc19];exact eI g _ _ D4 D4 W (hr.keeps hk)) (fun W hk=>by rw[tk];exact eJ g _ _ G0 G2 W (hr.keeps hk)) (fun W hk=>by rw[hc21];exact eI g _ _ D5 D5 W (hr.keeps hk))
   subst hc21 tk hc19 hc18 hc17 hc16 tj mJ hc13 hc12 ti eh aJ hc8 po hc6 hc5 hc4 hc3 hc2 hc1
   unfold lG
   rw[if_neg hz]
   rfl
def dz(x:Nat):List Int:=ax (x:Int)
def nk(a:J):List Int:=dz a.x++dz a.y++dz a.z
theorem cA(x:Nat):(dz x).length=8:=am _
theorem nr(a:J):(nk a).length=24:=by unfold nk;rw[List.length_append,List.length_append,cA,cA,cA]
theorem pu:sE ((bn:Nat):Int):=by rw[←nQ];exact Lt
theorem xj(w:World):Calls Tryz.prog 69 #[] w fun e w' =>e= .returned (.agg ((dz bn).map (Value.int .u32)).toArray)∧Keeps w w':=by
 have :=FV w
 rwa[nQ]at this
theorem cT(x y:Nat)(hx:x<bn)(hy:y<bn)(w:World):
 Calls Tryz.prog 101 #[.agg ((dz x).map (Value.int .u32)).toArray,.agg ((dz y).map (Value.int .u32)).toArray,.agg ((dz bn).map (Value.int .u32)).toArray] w fun e w' =>e= .returned (.agg ((dz (fm x y)).map (Value.int .u32)).toArray)∧Keeps w w':=by
 have :=yA _ x y pu (dx hx) (dx hy) w
 have e:((x:Int)*(y:Int)%((bn:Nat):Int))=((fm x y:Nat):Int):=by unfold fm;rw[Int.natCast_emod,Int.natCast_mul]
 rwa[e]at this
theorem dA(x y:Nat)(hx:x<bn)(hy:y<bn)(w:World):
 Calls Tryz.prog 63 #[.agg ((dz x).map (Value.int .u32)).toArray,.agg ((dz y).map (Value.int .u32)).toArray,.agg ((dz bn).map (Value.int .u32)).toArray] w fun e w' =>e= .returned (.agg ((dz (fa x y)).map (Value.int .u32)).toArray)∧Keeps w w':=by
 have :=yz _ x y pu (dx hx) (dx hy) w
 have e:(((x:Int)+(y:Int))%((bn:Nat):Int))=((fa x y:Nat):Int):=by unfold fa;rw[Int.natCast_emod,Int.natCast_add]
 rwa[e]at this
theorem jg(x y:Nat)(hx:x<bn)(hy:y<bn)(w:World):
 Calls Tryz.prog 102 #[.agg ((dz x).map (Value.int .u32)).toArray,.agg ((dz y).map (Value.int .u32)).toArray,.agg ((dz bn).map (Value.int .u32)).toArray] w fun e w' =>e= .returned (.agg ((dz (fs x y)).map (Value.int .u32)).toArray)∧Keeps w w':=by
 have :=FW ((bn:Nat):Int) x y pu.u ⟨by omega,by omega⟩ ⟨by omega,by omega⟩ w
 have e:(((x:Int) -(y:Int))%((bn:Nat):Int))=((fs x y:Nat):Int):=by
  unfold fs
  rw[Int.natCast_emod,Nat.mod_eq_of_lt hy,Int.natCast_add,Int.natCast_sub (by omega),show(x:Int)+(((bn:Nat):Int) -(y:Int))=(x:Int) -(y:Int)+((bn:Nat):Int) by omega,Int.add_emod_right]
 rwa[e]at this
theorem qu(a b:J)(h:a.ok)(h':b.ok)(w:World):
 Calls Tryz.prog 65 #[.agg ((nk a).map (Value.int .u32)).toArray,.agg ((nk b).map (Value.int .u32)).toArray] w fun e w' =>e= .returned (.agg ((nk (fN a b)).map (Value.int .u32)).toArray)∧Keeps w w':=by
 obtain⟨c2,hc2⟩:∃v,v=fm a.x b.x:=⟨_,rfl⟩
 have xh:c2<bn:=by rw[hc2];exact bI _ _
 obtain⟨c3,hc3⟩:∃v,v=fm a.y b.y:=⟨_,rfl⟩
 have D0:c3<bn:=by rw[hc3];exact bI _ _
 obtain⟨c4,hc4⟩:∃v,v=fm a.z b.z:=⟨_,rfl⟩
 have GU:c4<bn:=by rw[hc4];exact bI _ _
 obtain⟨c5,hc5⟩:∃v,v=fa a.x a.y:=⟨_,rfl⟩
 have GV:c5<bn:=by rw[hc5];exact eb _ _
 obtain⟨c6,hc6⟩:∃v,v=fa b.x b.y:=⟨_,rfl⟩
 have Fj:c6<bn:=by rw[hc6];exact eb _ _
 obtain⟨c7,po⟩:∃v,v=fm c5 c6:=⟨_,rfl⟩
 have JM:c7<bn:=by rw[po];exact bI _ _
 obtain⟨c8,hc8⟩:∃v,v=fa c2 c3:=⟨_,rfl⟩
 have GY:c8<bn:=by rw[hc8];exact eb _ _
 obtain⟨c9,aJ⟩:∃v,v=fs c7 c8:=⟨_,rfl⟩
 have CW:c9<bn:=by rw[aJ];exact eZ _ _
 obtain⟨c10,eh⟩:∃v,v=fa a.y a.z:=⟨_,rfl⟩
 have th:c10<bn:=by rw[eh];exact eb _ _
 obtain⟨c11,ti⟩:∃v,v=fa b.y b.z:=⟨_,rfl⟩
 have D1:c11<bn:=by rw[ti];exact eb _ _
 obtain⟨c12,hc12⟩:∃v,v=fm c10 c11:=⟨_,rfl⟩
 have xi:c12<bn:=by rw[hc12];exact bI _ _
 obtain⟨c13,hc13⟩:∃v,v=fa c3 c4:=⟨_,rfl⟩
 have Bm:c13<bn:=by rw[hc13];exact eb _ _
 obtain⟨c14,mJ⟩:∃v,v=fs c12 c13:=⟨_,rfl⟩
 have D3:c14<bn:=by rw[mJ];exact eZ _ _
 obtain⟨c15,tj⟩:∃v,v=fa a.x a.z:=⟨_,rfl⟩
 have D4:c15<bn:=by rw[tj];exact eb _ _
 obtain⟨c16,hc16⟩:∃v,v=fa b.x b.z:=⟨_,rfl⟩
 have D5:c16<bn:=by rw[hc16];exact eb _ _
 obtain⟨c17,hc17⟩:∃v,v=fm c15 c16:=⟨_,rfl⟩
 have GZ:c17<bn:=by rw[hc17];exact bI _ _
 obtain⟨c18,hc18⟩:∃v,v=fa c2 c4:=⟨_,rfl⟩
 have G0:c18<bn:=by rw[hc18];exact eb _ _
 obtain⟨c19,hc19⟩:∃v,v=fs c17 c18:=⟨_,rfl⟩
 have G2:c19<bn:=by rw[hc19];exact eZ _ _
 obtain⟨c20,tk⟩:∃v,v=fa c2 c2:=⟨_,rfl⟩
 have JN:c20<bn:=by rw[tk];exact eb _ _
 obtain⟨c21,hc21⟩:∃v,v=fa c20 c2:=⟨_,rfl⟩
 have JO:c21<bn:=by rw[hc21];exact eb _ _
 obtain⟨KZ,hc22⟩:∃v,v=fm 21 c4:=⟨_,rfl⟩
 have JP:KZ<bn:=by rw[hc22];exact bI _ _
 obtain⟨c23,Bo⟩:∃v,v=fa c3 KZ:=⟨_,rfl⟩
 have Mu:c23<bn:=by rw[Bo];exact eb _ _
 obtain⟨c24,hc24⟩:∃v,v=fs c3 KZ:=⟨_,rfl⟩
 have Pm:c24<bn:=by rw[hc24];exact eZ _ _
 obtain⟨c25,hc25⟩:∃v,v=fm 21 c19:=⟨_,rfl⟩
 have Pn:c25<bn:=by rw[hc25];exact bI _ _
 obtain⟨SY,Mv⟩:∃v,v=fm c9 c24:=⟨_,rfl⟩
 have SZ:SY<bn:=by rw[Mv];exact bI _ _
 obtain⟨S0,hc27⟩:∃v,v=fm c14 c25:=⟨_,rfl⟩
 have S4:S0<bn:=by rw[hc27];exact bI _ _
 obtain⟨c28,hc28⟩:∃v,v=fs SY S0:=⟨_,rfl⟩
 have Wy:c28<bn:=by rw[hc28];exact eZ _ _
 obtain⟨c29,hc29⟩:∃v,v=fm c24 c23:=⟨_,rfl⟩
 have S6:c29<bn:=by rw[hc29];exact bI _ _
 obtain⟨S7,Mw⟩:∃v,v=fm c25 c21:=⟨_,rfl⟩
 have S8:S7<bn:=by rw[Mw];exact bI _ _
 obtain⟨c31,hc31⟩:∃v,v=fa c29 S7:=⟨_,rfl⟩
 have Wz:c31<bn:=by rw[hc31];exact eb _ _
 obtain⟨c32,hc32⟩:∃v,v=fm c23 c14:=⟨_,rfl⟩
 have S9:c32<bn:=by rw[hc32];exact bI _ _
 obtain⟨Ta,Mx⟩:∃v,v=fm c21 c9:=⟨_,rfl⟩
 have Tb:Ta<bn:=by rw[Mx];exact bI _ _
 obtain⟨c34,hc34⟩:∃v,v=fa c32 Ta:=⟨_,rfl⟩
 have WA:c34<bn:=by rw[hc34];exact eb _ _
 refine plus_walk _ _ _ _ _ _ (dz 21) (dz bn) (dz c2) (dz c3) (dz c4) (dz c5) (dz c6) (dz c7) (dz c8) (dz c9) (dz c10) (dz c11) (dz c12) (dz c13) (dz c14) (dz c15) (dz c16) (dz c17) (dz c18) (dz c19) (dz c20) (dz c21) (dz KZ) (dz c23) (dz c24) (dz c25) (dz SY) (dz S0) (dz c28) (dz c29) (dz S7) (dz c31) (dz c32) (dz Ta) (dz c34) (nk a) (nk b) (nk (fN a b)) rfl rfl ?_ DS DR (am _) (am _) (am _) (am _) (am _) (am _) (am _) (am _) (am _) (am _) (am _) (am _) (am _) (am _) (am _) (am _) (am _) (am _) (am _) (am _) (am _) (am _) (am _) (am _) (am _) (am _) (am _) (am _) (am _) (am _) (am _) (am _) (am _) (am _) (am _) (am _) (am _) (am _) (am _) (am _) w (fun W _=>xj W) (fun W hk=>by rw[hc2];exact cT _ _ h.1 h'.1 W) (fun W hk=>by rw[hc3];exact cT _ _ h.2.1 h'.2.1 W) (fun W hk=>by rw[hc4];exact cT _ _ h.2.2 h'.2.2 W) (fun W hk=>by rw[hc5];exact dA _ _ h.1 h.2.1 W) (fun W hk=>by rw[hc6];exact dA _ _ h'.1 h'.2.1 W) (fun W hk=>by rw[po];exact cT _ _ GV Fj W) (fun W hk=>by rw[hc8];exact dA _ _ xh D0 W) (fun W hk=>by rw[aJ];exact jg _ _ JM GY W) (fun W hk=>by rw[eh];exact dA _ _ h.2.1 h.2.2 W) (fun W hk=>by rw[ti];exact dA _ _ h'.2.1 h'.2.2 W) (fun W hk=>by rw[hc12];exact cT _ _ th D1 W) (fun W hk=>by rw[hc13];exact dA _ _ D0 GU W) (fun W hk=>by rw[mJ];exact jg _ _ xi Bm W) (fun W hk=>by rw[tj];exact dA _ _ h.1 h.2.2 W) (fun W hk=>by rw[hc16];exact dA _ _ h'.1 h'.2.2 W) (fun W hk=>by rw[hc17];exact cT _ _ D4 D5 W) (fun W hk=>by rw[hc18];exact dA _ _ xh GU W) (fun W hk=>by rw[hc19];exact jg _ _ GZ G0 W) (fun W hk=>by rw[tk];exact dA _ _ xh xh W) (fun W hk=>by rw[hc21];exact dA _ _ JN xh W) (fun W hk=>by rw[hc22];exact cT _ _ (by decide:21<bn) GU W) (fun W hk=>by rw[Bo];exact dA _ _ D0 JP W) (fun W hk=>by rw[hc24];exact jg _ _ D0 JP W) (fun W hk=>by rw[hc25];exact cT _ _ (by decide:21<bn) G2 W) (fun W hk=>by rw[Mv];exact cT _ _ CW Pm W) (fun W hk=>by rw[hc27];exact cT _ _ D3 Pn W) (fun W hk=>by rw[hc28];exact jg _ _ SZ S4 W) (fun W hk=>by rw[hc29];exact cT _ _ Pm Mu W) (fun W hk=>by rw[Mw];exact cT _ _ Pn JO W) (fun W hk=>by rw[hc31];exact dA _ _ S6 S8 W) (fun W hk=>by rw[hc32];exact cT _ _ Mu D3 W) (fun W hk=>by rw[Mx];exact cT _ _ JO CW W) (fun W hk=>by rw[hc34];exact dA _ _ S9 Tb W)
 subst hc34 Mx hc32 hc31 Mw hc29 hc28 hc27 Mv hc25 hc24 Bo hc22 hc21 tk hc19 hc18 hc17 hc16 tj mJ hc13 hc12 ti eh aJ hc8 po hc6 hc5 hc4 hc3 hc2
 rfl
theorem Bp:Tryz.prog.built 67 [(0,.int .u32 1)]=some ((dz 1).map (Value.int .u32)).toArray:=by kernel_rfl
theorem D6(w:World):Calls Tryz.prog 103 #[] w fun e w' =>e= .returned (.agg ((nk ⟨0,1,0⟩).map (Value.int .u32)).toArray)∧Keeps w w':=by
 have e0:nk ⟨0,1,0⟩=([0,0,0,0,0,0,0,0,1,0,0,0,0,0,0,0,0,0,0,0,0,0,0,0]:List Int):=by simp[nk,dz,ax,List.range_succ]
 rw[e0]
 go_enter Tryz.func103,Tryz.ntmps103
 go_upto_region 1 with(fail)
 refine bh (fun W hk hr hs=> ?_)
 obtain⟨Z,hZ,hrz⟩:∃Z:List Value,Z.length=24∧Row W w.heap.size 0 Z:=⟨_,rfl,hr⟩
 have HR:=ae hrz;have HK:=ae hk
 clear hk hr hrz hs e0
 go_wp2_with (refine wpList_store_row rfl 70 (.tmp 0) (.tmp 4) rfl w.heap.size 0 rfl Z (([0,0,0,0,0,0,0,0,1,0,0,0,0,0,0,0,0,0,0,0,0,0,0,0]:List Int).map (Value.int .u32)) rfl HR.o (by rw[hZ];rfl) dn (ai _) ?_;intro w9 aR aJ;have H9:=ae aR;have bK:=ae aJ;clear aR aJ)
 exact bodyPost_ret (v:= .agg (([0,0,0,0,0,0,0,0,1,0,0,0,0,0,0,0,0,0,0,0,0,0,0,0]:List Int).map (Value.int .u32)).toArray) (ar (p:=0) (ty:=70) rfl _ _ w.heap.size 0 _ _ rfl H9.o Tryz.underlying70 rfl dn) rfl ⟨rfl,ag HK.o bK.o (Nat.le_refl _)⟩
def zd(w wr:World)(p q:Nat)(X Y L:List Int)(Z:List Value):Prop:=Keeps w wr∧Row wr p 0 (X.map (Value.int .u32))∧Row wr (p+1) 0 (Y.map (Value.int .u32))∧Row wr (p+1+1) 0 Z∧Row wr q 0 (L.map (Value.int .u32))∧p+1+1<q
theorem zd.keeps {w wr w':World}{p q:Nat}{X Y L:List Int}{Z:List Value}(h:zd w wr p q X Y L Z)(hk:Keeps wr w'):zd w w' p q X Y L Z:=
 ⟨h.1.trans hk,h.2.1.keeps hk,h.2.2.1.keeps hk,h.2.2.2.1.keeps hk,h.2.2.2.2.1.keeps hk,h.2.2.2.2.2⟩
theorem zd.put {w wr w':World}{p q:Nat}{X Y L L':List Int}{Z:List Value}(h:zd w wr p q X Y L Z)(hp:w.heap.size≤p)(hc:bU (· =q) wr w')(hr:Row w' q 0 (L'.map (Value.int .u32))):zd w w' p q X Y L' Z:=
 have h6:=h.2.2.2.2.2
 ⟨ag h.1 hc (by omega),h.2.1.aG hc (by omega),h.2.2.1.aG hc (by omega),h.2.2.2.1.aG hc (by omega),hr,h6⟩
theorem ze(PA E:List Int)(T D F:Nat→List Int)(bt:Nat→Bool)(Po:PA.length=24)(hE:E.length=8)(hTL:∀j,(T j).length=24)(Pp:∀j,(D j).length=24)
 (hS:∀i,i<256→(bt i=true∧T (256 -i)=F (256 -(i+1)))∨(bt i=false∧T (256 -i)=D (256 -(i+1)))) (w:World)
 (hB:∀(i:Nat) W,i<256→Calls Tryz.prog 104 #[.agg (E.map (Value.int .u32)).toArray,.int .i64 i] W fun e w' =>e= .returned (.bool (bt i))∧Keeps W w')
 (hZ:∀W,Calls Tryz.prog 103 #[] W fun e w' =>e= .returned (.agg ((T 0).map (Value.int .u32)).toArray)∧Keeps W w')
 (hD:∀j W,Calls Tryz.prog 65 #[.agg ((T j).map (Value.int .u32)).toArray,.agg ((T j).map (Value.int .u32)).toArray] W fun e w' =>e= .returned (.agg ((D j).map (Value.int .u32)).toArray)∧Keeps W w')
 (hF:∀j W,Calls Tryz.prog 65 #[.agg ((D j).map (Value.int .u32)).toArray,.agg (PA.map (Value.int .u32)).toArray] W fun e w' =>e= .returned (.agg ((F j).map (Value.int .u32)).toArray)∧Keeps W w'):
 Calls Tryz.prog 66 #[.agg (E.map (Value.int .u32)).toArray,.agg (PA.map (Value.int .u32)).toArray] w fun e' w' =>e' = .returned (.agg ((T 256).map (Value.int .u32)).toArray)∧Keeps w w':=by
 have HM:=ae hD;have WB:=ae hF;have HB:=ae hB;have HS:=ae hS;have HE:=ae hE;have Tc:=ae Po;have My:=ae hZ
 have AE:=ae hTL;have yu:=ae Pp
 clear hD hF hB hS hE Po hZ hTL Pp
 have hl0:=AE.o 0
 go_enter Tryz.func66,Tryz.ntmps66
 go_upto_region 1 with(fail)
 refine cU (fun W hk hra hrb hr2 hs=> ?_)
 obtain⟨p,hp⟩:∃p,p=w.heap.size:=⟨_,rfl⟩
 rw[←hp]at hra hrb hr2 hs⊢
 have hkp:w.heap.size≤p:=by omega
 obtain⟨Z,hZ,hrz⟩:∃Z:List Value,Z.length=24∧Row W (p+1+1) 0 Z:=⟨_,rfl,hr2⟩
 have hps:p+1+1<W.heap.size:=by omega
 have bj:=ae (show Row W p 0 (E.map (Value.int .u32))from hra);have bH:=ae (show Row W (p+1) 0 (PA.map (Value.int .u32))from hrb);have aV:=ae hrz;have HK:=ae hk
 clear hp hra hrb hr2 hrz hk hs
 go_upto_region 2 with(first |(go_at_call 103;refine(My.o _).mono ?_;rintro e W1 ⟨rfl,hk1⟩;have bw:=ae hk1;clear hk1)|((with_reducible refine aY 70 (.tmp 5) (.tmp 7) ?_);refine wpList_store_row rfl 70 (.tmp 5) (.tmp 7) rfl W1.heap.size 0 rfl ((List.replicate 24 0).map (Value.int .u32)) ((T 0).map (Value.int .u32)) rfl (Row.new _ _ _ rfl) (by rw[aF,hl0];rfl) (by rw[aF,hl0];exact dn) (ai _) ?_;intro W2 hr2 hc2;have HR2:=ae hr2;have aq:=ae (ag (ah bw.o _) hc2 bw.o.size);clear hr2 hc2))
 have I9:=ae (show zd w W2 p W1.heap.size E PA (T 0) Z from⟨HK.o.trans aq.o,bj.o.keeps aq.o,bH.o.keeps aq.o,aV.o.keeps aq.o,HR2.o,Nat.lt_of_lt_of_le hps bw.o.size⟩)
 generalize W1.heap.size=q at *
 clear bj bH aV HK bw aq HR2 hps
 have hq6:=I9.o.2.2.2.2.2
 go_wp2
 go_loopw [6] (fun c wr=>∃(k:Nat) (z:Int),k≤256∧c= .int .i64 z∧Hid (z=(k:Int) -1)∧Hid (zd w wr p q E PA (T (256 -k)) Z)) (fun c _=>(intOf c+1).toNat)
 case atStart=>exact⟨256,255,by omega,rfl,ae (by omega),I9⟩
 case round=>
  obtain⟨k,z,hk8,rfl,HZ,bV⟩:=hrel
  have hkc:k=0∨∃i,k=i+1:=by
   cases k with
   |zero=>exact .inl rfl
   |succ i=>exact .inr ⟨i,rfl⟩
  rcases hkc with rfl|⟨i,rfl⟩
  ·obtain rfl:z= -1:=by have :=HZ.o;omega
   rw[Nat.sub_zero]at bV
   have iz:=AE.o 256
   go_wp2_with (first |((with_reducible refine aQ 70 (.tmp 5) ?_);refine aj rfl 70 (.tmp 5) rfl _ 0 rfl ((T 256).map (Value.int .u32)) _ bV.o.2.2.2.2.1 Tryz.underlying70 rfl (by rw[aF,iz];exact dn) ?_)|((with_reducible refine aY 70 (.tmp 4) (.tmp 21) ?_);refine wpList_store_row rfl 70 (.tmp 4) (.tmp 21) rfl (p+1+1) 0 rfl Z ((T 256).map (Value.int .u32)) rfl bV.o.2.2.2.1 (by rw[aF,iz,hZ]) (by rw[aF,iz];exact dn) (ai _) ?_;intro w9 aR aJ;have H9:=ae aR;have bK:=ae aJ;clear aR aJ))
   exact bodyPost_ret (v:= .agg ((T 256).map (Value.int .u32)).toArray) (ar (p:=4) (ty:=70) rfl _ _ (p+1+1) 0 _ _ rfl H9.o Tryz.underlying70 rfl (by rw[aF,iz];exact dn)) rfl ⟨rfl,ag bV.o.1 bK.o (by omega)⟩
  ·obtain rfl:z=(i:Int):=by have :=HZ.o;omega
   have hi:i<256:=by omega
   have hst:=HS.o i hi
   have O9:=ae (fun W=>HB.o i W hi)
   have ht1:=AE.o (256 -(i+1))
   have ht2:=AE.o (256 -i)
   have hsl:=yu.o (256 -(i+1))
   have wN:=ae (HM.o (256 -(i+1)))
   have jV:=ae (WB.o (256 -(i+1)))
   generalize bt i=bb at *
   generalize T (256 -(i+1))=TA at *
   generalize D (256 -(i+1))=SQ at *
   generalize F (256 -(i+1))=FF at *
   generalize hTB:T (256 -i)=TB at *
   have F6:=ae hTB
   clear hTB
   rcases hst with⟨rfl,rfl⟩|⟨rfl,rfl⟩
   · go_upto_region 6 with(first |((with_reducible refine aQ 70 (.tmp 5) ?_);refine aj rfl 70 (.tmp 5) rfl _ 0 rfl (TA.map (Value.int .u32)) _ bV.o.2.2.2.2.1 Tryz.underlying70 rfl (by rw[aF,ht1];exact dn) ?_)|(go_at_call 65;refine(wN.o _).mono ?_;rintro e W2 ⟨rfl,hk2⟩;have aq:=ae (bV.o.keeps hk2);clear hk2)|((with_reducible refine aY 70 (.tmp 5) (.tmp 14) ?_);refine wpList_store_row rfl 70 (.tmp 5) (.tmp 14) rfl q 0 rfl (TA.map (Value.int .u32)) (SQ.map (Value.int .u32)) rfl aq.o.2.2.2.2.1 (by rw[aF,aF,ht1,hsl]) (by rw[aF,hsl];exact dn) (ai _) ?_;intro W3 aR aJ;have bS:=ae (aq.o.put hkp aJ aR);clear aR aJ))
     go_upto_region 7 with(first |((with_reducible refine aQ 67 (.tmp 2) ?_);refine aj rfl 67 (.tmp 2) rfl _ 0 rfl (E.map (Value.int .u32)) _ bS.o.2.1 Tryz.underlying67 rfl (by rw[aF,HE.o];exact bm) ?_)|(go_at_call 104;refine(O9.o _).mono ?_;rintro e W4 ⟨rfl,hk2⟩;have gR:=ae (bS.o.keeps hk2);clear hk2))
     go_wp2_with (first |((with_reducible refine aQ 70 (.tmp 5) ?_);refine aj rfl 70 (.tmp 5) rfl _ 0 rfl (SQ.map (Value.int .u32)) _ gR.o.2.2.2.2.1 Tryz.underlying70 rfl (by rw[aF,hsl];exact dn) ?_)|((with_reducible refine aQ 70 (.tmp 3) ?_);refine aj rfl 70 (.tmp 3) rfl _ 0 rfl (PA.map (Value.int .u32)) _ gR.o.2.2.1 Tryz.underlying70 rfl (by rw[aF,Tc.o];exact dn) ?_)|(go_at_call 65;refine(jV.o _).mono ?_;rintro e W5 ⟨rfl,hk2⟩;have cG:=ae (gR.o.keeps hk2);clear hk2)|((with_reducible refine aY 70 (.tmp 5) (.tmp 20) ?_);refine wpList_store_row rfl 70 (.tmp 5) (.tmp 20) rfl q 0 rfl (SQ.map (Value.int .u32)) (TB.map (Value.int .u32)) rfl cG.o.2.2.2.2.1 (by rw[aF,aF,ht2,hsl]) (by rw[aF,ht2];exact dn) (ai _) ?_;intro W6 aR aJ;have iY:=ae (cG.o.put hkp aJ aR);clear aR aJ))
     go_roundw
     case rel=>exact⟨i,(i:Int) -1,by omega,by first |rfl|go_num,ae rfl,by rw[F6.o];exact iY⟩
     case measure=>simp[intOf]<;>omega
   · go_upto_region 6 with(first |((with_reducible refine aQ 70 (.tmp 5) ?_);refine aj rfl 70 (.tmp 5) rfl _ 0 rfl (TA.map (Value.int .u32)) _ bV.o.2.2.2.2.1 Tryz.underlying70 rfl (by rw[aF,ht1];exact dn) ?_)|(go_at_call 65;refine(wN.o _).mono ?_;rintro e W2 ⟨rfl,hk2⟩;have aq:=ae (bV.o.keeps hk2);clear hk2)|((with_reducible refine aY 70 (.tmp 5) (.tmp 14) ?_);refine wpList_store_row rfl 70 (.tmp 5) (.tmp 14) rfl q 0 rfl (TA.map (Value.int .u32)) (TB.map (Value.int .u32)) rfl aq.o.2.2.2.2.1 (by rw[aF,aF,ht1,ht2]) (by rw[aF,ht2];exact dn) (ai _) ?_;intro W3 aR aJ;have bS:=ae (aq.o.put hkp aJ aR);clear aR aJ))
     go_wp2_with (first |((with_reducible refine aQ 67 (.tmp 2) ?_);refine aj rfl 67 (.tmp 2) rfl _ 0 rfl (E.map (Value.int .u32)) _ bS.o.2.1 Tryz.underlying67 rfl (by rw[aF,HE.o];exact bm) ?_)|(go_at_call 104;refine(O9.o _).mono ?_;rintro e W4 ⟨rfl,hk2⟩;have gR:=ae (bS.o.keeps hk2);clear hk2))
     go_roundw
     case rel=>exact⟨i,(i:Int) -1,by omega,by first |rfl|go_num,ae rfl,by rw[F6.o];exact gR⟩
     case measure=>simp[intOf]<;>omega
theorem tm(k:Nat)(a:J)(j:Nat):(cu k a j).ok:=nh k j
theorem tn(k:Nat)(a:J)(hk:k<2^256)(h:a.ok)(w:World):
 Calls Tryz.prog 66 #[.agg ((dz k).map (Value.int .u32)).toArray,.agg ((nk a).map (Value.int .u32)).toArray] w fun e w' =>e= .returned (.agg ((nk (cu k a 256)).map (Value.int .u32)).toArray)∧Keeps w w':=by
 refine ze (nk a) (dz k) (fun j=>nk (cu k a j)) (fun j=>nk (fN (cu k a j) (cu k a j))) (fun j=>nk (fN (fN (cu k a j) (cu k a j)) a)) (fun i=>decide ((dz k).getD (i/32) 0/2^(i%32)%2=1)) (nr _) (cA _) (fun j=>nr _) (fun j=>nr _) (fun i hi=> ?_) w
  (fun i W hi=>yB _ (cA _) (cS _) i hi W) (fun W=>D6 W) (fun j W=>qu _ _ (tm k a j) (tm k a j) W) (fun j W=>qu _ _ (pk _ _) h W)
 have e1:256 -i=256 -(i+1)+1:=by omega
 have e2:255 -(256 -(i+1))=i:=by omega
 have hst:cu k a (256 -i)=if k/2^i%2=1 then fN (fN (cu k a (256 -(i+1))) (cu k a (256 -(i+1)))) a else fN (cu k a (256 -(i+1))) (cu k a (256 -(i+1))):=by
  conv=>lhs;rw[e1,cu,e2]
 unfold dz
 rw[sP k i hi]
 rcases Nat.mod_two_eq_zero_or_one (k/2^i)with h|h
 ·refine .inr ⟨by rw[h];rfl,?_⟩
  rw[hst,h,if_neg (by decide)]
 ·refine .inl ⟨by rw[h];rfl,?_⟩
  rw[hst,h,if_pos rfl]
end Go.Proofs.YtlofddoojkeakaaGreatDoor
