/- The program's AddPublic. -/
import Derived.Test.YtlofddoojkeakaaGreatDoorGC5
import Derived.Test.YtlofddoojkeakaaGreatDoorGB0
import Derived.Test.YtlofddoojkeakaaGreatDoorGA7
import Derived.Laws.CopyOwn
import Derived.Laws.Cover3
import Derived.Test.YtlofddoojkeakaaGreatDoorGA8
import Derived.Test.YtlofddoojkeakaaGreatDoorGA2
import Derived.Lib.OthersKept
import Derived.Laws.Externs
import Derived.RangeFuncNested
import Derived.RangeFuncBound
import Derived.RangeFuncCalls
import Derived.RangeFuncLeaves
import Derived.RangeFuncWrites
import Derived.RangeFuncBox
import Derived.Shelf.Abstract
import Derived.WalkKit
import Derived.OwnWalkIn
import Derived.TacticsInMore
import Derived.LoopNIn
import Derived.LoopIn
set_option maxRecDepth 100000
set_option maxHeartbeats 8000000
set_option linter.unusedVariables false
set_option linter.unusedSimpArgs false
namespace Go.Proofs.YtlofddoojkeakaaGreatDoor
open Go Go.RowKit Cv
def rT:List Value:=[.int .u64 0,.int .u64 0,.int .u64 0,.int .u64 0,.int .u64 0,.int .u64 0,.int .u64 0,.int .u64 0,.int .u64 0,.int .u64 0,.int .u64 0,.int .u64 0]
def zeros24:List Value:=[.int .u32 0,.int .u32 0,.int .u32 0,.int .u32 0,.int .u32 0,.int .u32 0,.int .u32 0,.int .u32 0,.int .u32 0,.int .u32 0,.int .u32 0,.int .u32 0,.int .u32 0,.int .u32 0,.int .u32 0,.int .u32 0,.int .u32 0,.int .u32 0,.int .u32 0,.int .u32 0,.int .u32 0,.int .u32 0,.int .u32 0,.int .u32 0]
theorem Ek{o:Oper}(hg:o.guard=none)(ho:o.op= .alloc 107):fW Tryz.prog o rT:=⟨hg,107,fun a w=>by
 unfold execOp
 simp only[ho]
 go_simp
 exact⟨rfl,rfl⟩⟩
theorem El{o:Oper}(hg:o.guard=none)(ho:o.op= .alloc 70):fW Tryz.prog o zeros24:=⟨hg,70,fun a w=>by
 unfold execOp
 simp only[ho]
 go_simp
 exact⟨rfl,rfl⟩⟩
def gK(pub:List Int)(t:Int):List Int×Int:=if t<NV then(match eK pub with
 |none=>(bA,3)
 |some a=>if(gO a (cC t.toNat gJ 256)).z=0 then(bA,7)else(Hl (gU (gO a (cC t.toNat gJ 256))).1 (gU (gO a (cC t.toNat gJ 256))).2,0))else(bA,1)
theorem mM:bA.length=33:=rfl
theorem gi:Bytes bA:=fun y hy=>by
 rw[(List.mem_replicate.1 (show y∈List.replicate 33 0 from hy)).2]
 exact⟨by omega,by omega⟩
theorem jN(pub:List Int)(t:Int):(¬t<NV∧gK pub t=(bA,1))∨(t<NV∧eK pub=none∧gK pub t=(bA,3))∨
 (t<NV∧∃a,eK pub=some a∧(((gO a (cC t.toNat gJ 256)).z=0∧gK pub t=(bA,7))∨(¬(gO a (cC t.toNat gJ 256)).z=0∧gK pub t=(Hl (gU (gO a (cC t.toNat gJ 256))).1 (gU (gO a (cC t.toNat gJ 256))).2,0)))):=by
 unfold gK
 by_cases h1:t<NV
 ·rw[if_pos h1]
  cases hu:eK pub with
  |none=>exact .inr (.inl ⟨h1,rfl,rfl⟩)
  |some a=>
   refine .inr (.inr ⟨h1,a,rfl,?_⟩)
   dsimp only
   by_cases hz:(gO a (cC t.toNat gJ 256)).z=0
   ·exact .inl ⟨hz,by rw[if_pos hz]⟩
   ·exact .inr ⟨hz,by rw[if_neg hz]⟩
 ·exact .inl ⟨h1,by rw[if_neg h1]⟩
theorem eM(pub:List Int)(t:Int):(gK pub t).1.length=33:=by
 rcases jN pub t with⟨_,h⟩|⟨_,_,h⟩|⟨_,a,_,⟨_,h⟩|⟨_,h⟩⟩<;>rw[h]
 ·exact mM
 ·exact mM
 ·exact mM
 ·exact Db _ _
theorem zC(pub:List Int)(t:Int):Bytes (gK pub t).1:=by
 rcases jN pub t with⟨_,h⟩|⟨_,_,h⟩|⟨_,a,_,⟨_,h⟩|⟨_,h⟩⟩<;>rw[h]
 ·exact gi
 ·exact gi
 ·exact gi
 ·exact vG _ _
theorem mN(PB B T UP GJ TM SM RES:List Int)(lt ub z:Bool)(er:Int)(lP:PB.length=33)(lB:B.length=32)(lT:T.length=4)(lU:UP.length=12)(lS:SM.length=12)(lR:RES.length=33)(w:World)
 (Hr:∀v W,Rd W 1 v 32 (B.map (Value.int .u8))→Calls Tryz.prog 47 #[v] W fun e w' =>e= .returned (.agg (T.map (Value.int .u64)).toArray)∧Keeps W w')
 (hBel:∀g W,Row W g 0 cW→Calls Tryz.prog 48 #[.pointer (some ⟨g,7,none⟩),.agg (T.map (Value.int .u64)).toArray] W fun e w' =>e= .returned (.bool lt)∧Keeps W w')
 (Hu:∀g v W,Row W g 0 cW→Rd W 1 v 33 (PB.map (Value.int .u8))→Calls Tryz.prog 52 #[.pointer (some ⟨g,0,none⟩),v] W fun e w' =>e= .returned (.tuple #[.agg (UP.map (Value.int .u64)).toArray,.bool ub])∧Keeps W w')
 (hcase:(lt=false∧RES=bA∧er=1)∨(lt=true∧ub=false∧RES=bA∧er=3)∨(lt=true∧ub=true∧
  (∀g W,Row W g 0 cW→Calls Tryz.prog 55 #[.pointer (some ⟨g,0,none⟩)] W fun e w' =>e= .returned (.agg (GJ.map (Value.int .u64)).toArray)∧Keeps W w')∧
  (∀g W,Row W g 0 cW→Calls Tryz.prog 54 #[.pointer (some ⟨g,0,none⟩),.agg (T.map (Value.int .u64)).toArray,.agg (GJ.map (Value.int .u64)).toArray] W fun e w' =>e= .returned (.agg (TM.map (Value.int .u64)).toArray)∧Keeps W w')∧
  (∀g W,Row W g 0 cW→Calls Tryz.prog 53 #[.pointer (some ⟨g,0,none⟩),.agg (UP.map (Value.int .u64)).toArray,.agg (TM.map (Value.int .u64)).toArray] W fun e w' =>e= .returned (.agg (SM.map (Value.int .u64)).toArray)∧Keeps W w')∧
  (∀g W,Row W g 0 (SM.map (Value.int .u64))→Calls Tryz.prog 56 #[.pointer (some ⟨g,0,none⟩)] W fun e w' =>e= .returned (.bool z)∧Keeps W w')∧
  ((z=true∧RES=bA∧er=7)∨(z=false∧er=0∧∀g W,Row W g 0 cW→Calls Tryz.prog 57 #[.pointer (some ⟨g,0,none⟩),.agg (SM.map (Value.int .u64)).toArray] W fun e w' =>e= .returned (.agg (RES.map (Value.int .u8)).toArray)∧Keeps W w')))):
 Calls Tryz.prog 25 #[.agg (PB.map (Value.int .u8)).toArray,.agg (B.map (Value.int .u8)).toArray] w fun e w' =>e= .returned (.tuple #[.agg (RES.map (Value.int .u8)).toArray,.int .i64 er])∧Keeps w w':=by
 have DB:=ae Hr;have JX:=ae hBel;have ML:=ae Hu;have iI:=ae hcase;have FH:=ae ko
 clear Hr hBel Hu hcase
 go_enter Tryz.func25,Tryz.ntmps25
 go_upto_region 1 with(fail)
 refine cU (fun W hk hra hrb hrc hs=> ?_)
 obtain⟨p,hp⟩:∃p,p=w.heap.size:=⟨_,rfl⟩
 rw[←hp]at hra hrb hrc hs⊢
 have hkp:w.heap.size≤p:=by omega
 obtain⟨Zr,du,hrz⟩:∃Zr:List Value,Zr.length=33∧Row W (p+1+1) 0 Zr:=⟨_,rfl,hrc⟩
 have mO:=ae (show Row W p 0 (PB.map (Value.int .u8))from hra);have bH:=ae (show Row W (p+1) 0 (B.map (Value.int .u8))from hrb);have aA:=ae hk;have ap:=ae hrz
 have AA:p+1<W.heap.size:=by omega
 clear hp hk hra hrb hrc hrz hs
 go_upto_region 2 with(go_at_call 45;refine(FH.o _).mono ?_;rintro e W1 ⟨g,rfl,hk1,hgg,hrow⟩;have bw:=ae hk1;have bY:=ae hrow;clear hk1 hrow)
 have mO:=ae (mO.o.keeps bw.o);have bH:=ae (bH.o.keeps bw.o)
 have ap:=ae (ap.o.keeps bw.o)
 have aA:=ae (aA.o.trans bw.o)
 have PQ:p+1<W1.heap.size:=Nat.lt_of_lt_of_le AA bw.o.size
 clear bw
 go_upto_region 3 with(first |(go_at_call 47;refine(DB.o _ _ (Rd.bQ bH.o (by simp[lB]) PQ (by omega) (by unfold maxLen;omega))).mono ?_;rintro e W4 ⟨rfl,hk2⟩;have gR:=ae hk2;clear hk2)|(refine ws (g:=W4.heap.size) (olds:=aL) (Row.new _ _ _ rfl) lT rfl (h:= ?_);intro W5 hr2 hc2;have cV:=ae hr2;have cG:=ae (ag (ah gR.o _) hc2 gR.o.size);clear hr2 hc2))
 generalize W4.heap.size=r at *
 have bY:=ae (bY.o.keeps cG.o)
 have ap:=ae (ap.o.keeps cG.o);have mO:=ae (mO.o.keeps cG.o)
 have aA:=ae (aA.o.trans cG.o)
 have MN:p+1<W5.heap.size:=Nat.lt_of_lt_of_le PQ cG.o.size
 clear cG gR bH
 refine au 5 [] [0,1,2,3,4] (fun _=>[]) (by kernel_rfl) (by kernel_rfl) (by intro i hi;cases hi) ?_
 iterate 3 refine kp (h:= ?_)
 refine kl (fun wS hS=>(cV.o.keeps hS)) lT (h:= ?_)
 refine kc (hc:=by exact fun wS hS=>JX.o g wS (bY.o.keeps hS)) (h:= ?_)
 refine aI ?_
 intro GG V4 hk1 hG
 clear hG
 simp only[aZ,br,ct,kD,kG,kP,Option.bind_some]
 have bY:=ae (bY.o.keeps hk1)
 have ap:=ae (ap.o.keeps hk1);have mO:=ae (mO.o.keeps hk1);have cV:=ae (cV.o.keeps hk1)
 have aA:=ae (aA.o.trans hk1)
 have Tj:p+1<V4.heap.size:=Nat.lt_of_lt_of_le MN hk1.size
 clear hk1
 rcases iI.o with⟨rfl,rfl,rfl⟩|hrest
 · go_wp2_with (refine wpList_store_row rfl 25 (.tmp 4) (.tmp 20) rfl _ 0 rfl Zr (bA.map (Value.int .u8)) rfl ap.o (by rw[du];rfl) bF (ai _) ?_;intro W8 hr2 hc2;have HN:=ae hr2;have HC:=ae hc2;clear hr2 hc2)
   exact bodyPost_ret (al (p:=4) (t:=5) (ty:=25) rfl _ _ (p+1+1) 0 _ _ _ rfl rfl HN.o Tryz.underlying25 rfl bF) rfl ⟨rfl,ag aA.o HC.o (by omega)⟩
 ·obtain rfl:lt=true:=by rcases hrest with h|h<;>exact h.1
  have zD:=ae hrest
  clear hrest iI
  go_upto_region 6 with(first |(go_at_call 52;refine(ML.o g _ _ bY.o (Rd.bQ mO.o (by simp[lP]) (by omega) (by omega) (by unfold maxLen;omega))).mono ?_;rintro e W6 ⟨rfl,hk2⟩;have iY:=ae hk2;clear hk2)|(refine ws (g:=W6.heap.size) (olds:=rT) (Row.new _ _ _ rfl) lU rfl (h:= ?_);intro W7 hr2 hc2;have e9:=ae hr2;have i8:=ae (ag (ah iY.o _) hc2 iY.o.size);clear hr2 hc2))
  generalize W6.heap.size=u at *
  have bY:=ae (bY.o.keeps i8.o)
  have ap:=ae (ap.o.keeps i8.o);have cV:=ae (cV.o.keeps i8.o)
  have aA:=ae (aA.o.trans i8.o)
  clear i8 iY mO
  rcases zD.o with⟨_,rfl,rfl,rfl⟩|⟨_,rfl,hBase,Hv,hAdd,Hw,hc2⟩
  · go_wp2_with (refine wpList_store_row rfl 25 (.tmp 4) (.tmp 29) rfl _ 0 rfl Zr (bA.map (Value.int .u8)) rfl ap.o (by rw[du];rfl) bF (ai _) ?_;intro W8 hr2 hc2;have HN:=ae hr2;have HC:=ae hc2;clear hr2 hc2)
    exact bodyPost_ret (al (p:=4) (t:=5) (ty:=25) rfl _ _ (p+1+1) 0 _ _ _ rfl rfl HN.o Tryz.underlying25 rfl bF) rfl ⟨rfl,ag aA.o HC.o (by omega)⟩
  · have Tk:=ae hBase;have Tl:=ae Hv;have HAD:=ae hAdd;have uT:=ae Hw;have HC2:=ae hc2
    clear hBase Hv hAdd Hw hc2 zD
    go_upto_region 8 with(fail)
    refine au 9 [8] [0,1,2,3,4,5,6,7] (fun _=>rT) (by kernel_rfl) (by kernel_rfl) (by intro i hi;simp only[List.mem_cons,List.not_mem_nil,or_false]at hi;(first |(rcases hi with rfl|rfl)|subst hi)<;>exact⟨_,rfl,Ek rfl rfl⟩) ?_
    refine kp (h:= ?_)
    refine kl (fun wS hS=>(e9.o.keeps hS)) lU (h:= ?_)
    refine kp (h:= ?_)
    refine kl (fun wS hS=>(cV.o.keeps hS)) lT (h:= ?_)
    refine kp (h:= ?_)
    refine kc (hc:=by exact fun wS hS=>Tk.o g wS (bY.o.keeps hS)) (h:= ?_)
    refine kc (hc:=by exact fun wS hS=>Tl.o g wS (bY.o.keeps hS)) (h:= ?_)
    refine kc (hc:=by exact fun wS hS=>HAD.o g wS (bY.o.keeps hS)) (h:= ?_)
    refine aI ?_
    intro GG V5 hk1 hG
    obtain⟨ha6,vC,hd6⟩:=hG 8 (by simp)
    clear hd6
    simp only[aZ,br,ct,kD,kG,kP,Option.bind_some]
    generalize GG 8=g3 at *
    clear hG
    have Ea:=ae vC
    have aH:=ae hk1;clear hk1 vC
    go_upto_region 9 with(refine ws (g:=_) (olds:=rT) Ea.o lS rfl (h:= ?_);intro W6 hr2 hc2;have gQ:=ae hr2;have iY:=ae (ag aH.o hc2 ha6);clear hr2 hc2)
    have ap:=ae (ap.o.keeps iY.o);have bY:=ae (bY.o.keeps iY.o)
    have aA:=ae (aA.o.trans iY.o)
    rcases HC2.o with⟨rfl,rfl,rfl⟩|⟨rfl,rfl,Hx⟩
    · go_wp2_with (first |(go_at_call 56;refine(uT.o g3 _ gQ.o).mono ?_;rintro e W7 ⟨rfl,hk1⟩;have i8:=ae hk1;clear hk1)|(refine wpList_store_row rfl 25 (.tmp 4) (.tmp 39) rfl _ 0 rfl Zr (bA.map (Value.int .u8)) rfl (ap.o.keeps i8.o) (by rw[du];rfl) bF (ai _) ?_;intro W8 hr2 hc2;have HN:=ae hr2;have HC:=ae hc2;clear hr2 hc2))
      exact bodyPost_ret (al (p:=4) (t:=5) (ty:=25) rfl _ _ (p+1+1) 0 _ _ _ rfl rfl HN.o Tryz.underlying25 rfl bF) rfl ⟨rfl,ag (aA.o.trans i8.o) HC.o (by omega)⟩
    · have xr:=ae Hx
      clear Hx HC2
      go_upto_region 11 with(first |(go_at_call 56;refine(uT.o g3 _ gQ.o).mono ?_;rintro e W7 ⟨rfl,hk1⟩;have i8:=ae hk1;clear hk1))
      have ap:=ae (ap.o.keeps i8.o);have gQ:=ae (gQ.o.keeps i8.o);have bY:=ae (bY.o.keeps i8.o)
      have aA:=ae (aA.o.trans i8.o)
      go_wp2_with (first |(refine wl gQ.o lS (h:= ?_))|(go_at_call 57;refine(xr.o g _ bY.o).mono ?_;rintro e W8 ⟨rfl,hk1⟩;have jM:=ae hk1;clear hk1)|(refine ws (ap.o.keeps jM.o) lR (by rw[du]) (h:= ?_);intro W9 hr2 hc2;have HN:=ae hr2;have HC:=ae hc2;clear hr2 hc2))
      exact bodyPost_ret (al (p:=4) (t:=5) (ty:=25) rfl _ _ (p+1+1) 0 _ _ _ rfl rfl HN.o Tryz.underlying25 rfl (by rw[aF,lR];exact bF)) rfl ⟨rfl,ag (aA.o.trans jM.o) HC.o (by omega)⟩
theorem zE{t:Int}(h0:0≤t)(h:t<NV):t.toNat<2^256∧t.toNat<Jd∧((t.toNat:Nat):Int)=t:=by
 have :=GR;have :=JH
 exact⟨by omega,by omega,by omega⟩
theorem ov(PB B:List Int)(hP:Bytes PB)(hB:Bytes B)(lP:PB.length=33)(lB:B.length=32)(w:World):
 Calls Tryz.prog 25 #[.agg (PB.map (Value.int .u8)).toArray,.agg (B.map (Value.int .u8)).toArray] w fun e w' =>e= .returned (.tuple #[.agg ((gK PB (be B)).1.map (Value.int .u8)).toArray,.int .i64 (gK PB (be B)).2])∧Keeps w w':=by
 have ht:=gp hB lB
 have MO:=fun g v W hr (hv:Rd W 1 v 33 (PB.map (Value.int .u8)))=>tr g v PB hP W hr (by rw[lP];exact hv)
 rcases jN PB (be B)with⟨h1,h2⟩|⟨h1,h2,h3⟩|⟨h1,a,h2,hc⟩
 ·exact mN PB B (words (be B)) (mL PB) [] [] (List.replicate 12 0) _ (decide (be B<NV)) (eK PB).isSome false _ lP lB (ak _) (py _) rfl (eM _ _) w
   (fun v W hr=>gH v B W hr hB lB) (fun g W hr=>jc g 7 NV (be B) ff ht W (km hr)) MO (.inl ⟨decide_eq_false h1,by rw[h2],by rw[h2]⟩)
 ·exact mN PB B (words (be B)) (mL PB) [] [] (List.replicate 12 0) _ (decide (be B<NV)) (eK PB).isSome false _ lP lB (ak _) (py _) rfl (eM _ _) w
   (fun v W hr=>gH v B W hr hB lB) (fun g W hr=>jc g 7 NV (be B) ff ht W (km hr)) MO (.inr (.inl ⟨decide_eq_true h1,by rw[h2];rfl,by rw[h3],by rw[h3]⟩))
 ·obtain⟨n1,n2,n3⟩:=zE ht.1 h1
  have hok:=(Da hP h2).1
  have hT:words (be B)=nw (be B).toNat:=by unfold nw;rw[n3]
  have hup:mL PB=iU a:=by unfold mL;rw[h2]
  have Hy:=w6 hok (dX (be B).toNat ku 256)
  have PS:=fun g W hr=>times_any g (be B).toNat gJ n1 ku W hr
  rw[←hT]at PS
  refine mN PB B (words (be B)) (mL PB) (iU gJ) (iU (cC (be B).toNat gJ 256)) (iU (gO a (cC (be B).toNat gJ 256))) _ (decide (be B<NV)) (eK PB).isSome (decide ((gO a (cC (be B).toNat gJ 256)).z=0)) _ lP lB (ak _) (py _) (CU _) (eM _ _) w
   (fun v W hr=>gH v B W hr hB lB) (fun g W hr=>jc g 7 NV (be B) ff ht W (km hr)) MO (.inr (.inr ⟨decide_eq_true h1,by rw[h2];rfl,fun g W hr=>zo g W hr,PS,fun g W hr=>by rw[hup];exact zg g _ _ hok (dX _ ku 256) W hr,fun g W hr=>mI g _ W Hy.2.2 hr,?_⟩))
  rcases hc with⟨hz,he⟩|⟨hz,he⟩
  ·exact .inl ⟨decide_eq_true hz,by rw[he],by rw[he]⟩
  ·exact .inr ⟨decide_eq_false hz,by rw[he],fun g W hr=>by rw[he];exact zp g _ Hy W hr⟩
theorem lj(PB B T NN UP GJ TM S1 S2 S3 SM RES:List Int)(lt ub z:Bool)(er:Int)(lP:PB.length=33)(lB:B.length=32)(lT:T.length=8)(lU:UP.length=24)(U6:S1.length=8)(U7:S2.length=8)(RC:S3.length=8)(hSM:SM=S1++S2++S3)(lR:RES.length=33)(w:World)
 (U8:∀v W,Rd W 1 v 32 (B.map (Value.int .u8))→Calls Tryz.prog 33 #[v] W fun e w' =>e= .returned (.agg (T.map (Value.int .u32)).toArray)∧Keeps W w')
 (hN:∀W,Calls Tryz.prog 62 #[] W fun e w' =>e= .returned (.agg (NN.map (Value.int .u32)).toArray)∧Keeps W w')
 (PO:∀W,Calls Tryz.prog 61 #[.agg (T.map (Value.int .u32)).toArray,.agg (NN.map (Value.int .u32)).toArray] W fun e w' =>e= .returned (.bool lt)∧Keeps W w')
 (Hu:∀v W,Rd W 1 v 33 (PB.map (Value.int .u8))→Calls Tryz.prog 34 #[v] W fun e w' =>e= .returned (.tuple #[.agg (UP.map (Value.int .u32)).toArray,.bool ub])∧Keeps W w')
 (hcase:(lt=false∧RES=bA∧er=1)∨(lt=true∧ub=false∧RES=bA∧er=3)∨(lt=true∧ub=true∧
  (∀W,Calls Tryz.prog 67 #[] W fun e w' =>e= .returned (.agg (GJ.map (Value.int .u32)).toArray)∧Keeps W w')∧
  (∀W,Calls Tryz.prog 66 #[.agg (T.map (Value.int .u32)).toArray,.agg (GJ.map (Value.int .u32)).toArray] W fun e w' =>e= .returned (.agg (TM.map (Value.int .u32)).toArray)∧Keeps W w')∧
  (∀W,Calls Tryz.prog 65 #[.agg (UP.map (Value.int .u32)).toArray,.agg (TM.map (Value.int .u32)).toArray] W fun e w' =>e= .returned (.agg (SM.map (Value.int .u32)).toArray)∧Keeps W w')∧
  (∀W,(Op.equalIn 10000 67 (.agg (S3.map (Value.int .u32)).toArray) (.agg La)).run Tryz.prog W= .ok z W)∧
  ((z=true∧RES=bA∧er=7)∨(z=false∧er=0∧∀W,Calls Tryz.prog 68 #[.agg (SM.map (Value.int .u32)).toArray] W fun e w' =>e= .returned (.agg (RES.map (Value.int .u8)).toArray)∧Keeps W w')))):
 Calls Tryz.prog 31 #[.agg (PB.map (Value.int .u8)).toArray,.agg (B.map (Value.int .u8)).toArray] w fun e w' =>e= .returned (.tuple #[.agg (RES.map (Value.int .u8)).toArray,.int .i64 er])∧Keeps w w':=by
 have lS:SM.length=24:=by rw[hSM];exact lf U6 U7 RC
 have WS:=ae hSM
 have Ti:=ae U8;have PP:=ae hN;have p7:=ae PO;have ML:=ae Hu;have iI:=ae hcase
 clear U8 hN PO Hu hcase hSM
 go_enter Tryz.func31,Tryz.ntmps31
 go_upto_region 1 with(fail)
 refine cU (fun W hk hra hrb hrc hs=> ?_)
 obtain⟨p,hp⟩:∃p,p=w.heap.size:=⟨_,rfl⟩
 rw[←hp]at hra hrb hrc hs⊢
 have hkp:w.heap.size≤p:=by omega
 obtain⟨Zr,du,hrz⟩:∃Zr:List Value,Zr.length=33∧Row W (p+1+1) 0 Zr:=⟨_,rfl,hrc⟩
 have mO:=ae (show Row W p 0 (PB.map (Value.int .u8))from hra);have bH:=ae (show Row W (p+1) 0 (B.map (Value.int .u8))from hrb);have aA:=ae hk;have ap:=ae hrz
 have AA:p+1<W.heap.size:=by omega
 clear hp hk hra hrb hrc hrz hs
 go_upto_region 2 with(first |(go_at_call 33;refine(Ti.o _ _ (Rd.bQ bH.o (by simp[lB]) AA (by omega) (by unfold maxLen;omega))).mono ?_;rintro e W4 ⟨rfl,hk2⟩;have gR:=ae hk2;clear hk2)|(refine ws (g:=W4.heap.size) (olds:=cD) (Row.new _ _ _ rfl) lT rfl (h:= ?_);intro W5 hr2 hc2;have cV:=ae hr2;have cG:=ae (ag (ah gR.o _) hc2 gR.o.size);clear hr2 hc2))
 generalize W4.heap.size=r at *
 have ap:=ae (ap.o.keeps cG.o);have mO:=ae (mO.o.keeps cG.o)
 have aA:=ae (aA.o.trans cG.o)
 have MN:p+1<W5.heap.size:=Nat.lt_of_lt_of_le AA cG.o.size
 clear cG gR bH
 refine au 3 [] [0,1,2] (fun _=>[]) (by kernel_rfl) (by kernel_rfl) (by intro i hi;cases hi) ?_
 refine kl (fun wS hS=>(cV.o.keeps hS)) lT (h:= ?_)
 refine kc (hc:=by exact fun wS hS=>PP.o wS) (h:= ?_)
 refine kc (hc:=by exact fun wS hS=>p7.o wS) (h:= ?_)
 refine aI ?_
 intro GG V4 hk1 hG
 clear hG
 simp only[aZ,br,ct,kD,kG,kP,Option.bind_some]
 have ap:=ae (ap.o.keeps hk1);have mO:=ae (mO.o.keeps hk1);have cV:=ae (cV.o.keeps hk1)
 have aA:=ae (aA.o.trans hk1)
 have Tj:p+1<V4.heap.size:=Nat.lt_of_lt_of_le MN hk1.size
 clear hk1
 rcases iI.o with⟨rfl,rfl,rfl⟩|hrest
 · go_wp2_with (refine wpList_store_row rfl 25 (.tmp 4) (.tmp 16) rfl _ 0 rfl Zr (bA.map (Value.int .u8)) rfl ap.o (by rw[du];rfl) bF (ai _) ?_;intro W8 hr2 hc2;have HN:=ae hr2;have HC:=ae hc2;clear hr2 hc2)
   exact bodyPost_ret (al (p:=4) (t:=5) (ty:=25) rfl _ _ (p+1+1) 0 _ _ _ rfl rfl HN.o Tryz.underlying25 rfl bF) rfl ⟨rfl,ag aA.o HC.o (by omega)⟩
 ·obtain rfl:lt=true:=by rcases hrest with h|h<;>exact h.1
  have zD:=ae hrest
  clear hrest iI
  go_upto_region 5 with(first |(go_at_call 34;refine(ML.o _ _ (Rd.bQ mO.o (by simp[lP]) (by omega) (by omega) (by unfold maxLen;omega))).mono ?_;rintro e W6 ⟨rfl,hk2⟩;have iY:=ae hk2;clear hk2)|(refine ws (g:=W6.heap.size) (olds:=zeros24) (Row.new _ _ _ rfl) lU rfl (h:= ?_);intro W7 hr2 hc2;have e9:=ae hr2;have i8:=ae (ag (ah iY.o _) hc2 iY.o.size);clear hr2 hc2))
  generalize W6.heap.size=u at *
  have ap:=ae (ap.o.keeps i8.o);have cV:=ae (cV.o.keeps i8.o)
  have aA:=ae (aA.o.trans i8.o)
  clear i8 iY mO
  rcases zD.o with⟨_,rfl,rfl,rfl⟩|⟨_,rfl,hBase,Hv,hAdd,Hw,hc2⟩
  · go_wp2_with (refine wpList_store_row rfl 25 (.tmp 4) (.tmp 24) rfl _ 0 rfl Zr (bA.map (Value.int .u8)) rfl ap.o (by rw[du];rfl) bF (ai _) ?_;intro W8 hr2 hc2;have HN:=ae hr2;have HC:=ae hc2;clear hr2 hc2)
    exact bodyPost_ret (al (p:=4) (t:=5) (ty:=25) rfl _ _ (p+1+1) 0 _ _ _ rfl rfl HN.o Tryz.underlying25 rfl bF) rfl ⟨rfl,ag aA.o HC.o (by omega)⟩
  · have Tk:=ae hBase;have Tl:=ae Hv;have HAD:=ae hAdd;have uT:=ae Hw;have HC2:=ae hc2
    clear hBase Hv hAdd Hw hc2 zD
    go_upto_region 7 with(fail)
    refine au 6 [5] [0,1,2,3,4] (fun _=>zeros24) (by kernel_rfl) (by kernel_rfl) (by intro i hi;simp only[List.mem_cons,List.not_mem_nil,or_false]at hi;(first |(rcases hi with rfl|rfl)|subst hi)<;>exact⟨_,rfl,El rfl rfl⟩) ?_
    refine kl (fun wS hS=>(e9.o.keeps hS)) lU (h:= ?_)
    refine kl (fun wS hS=>(cV.o.keeps hS)) lT (h:= ?_)
    refine kc (hc:=by exact fun wS hS=>Tk.o wS) (h:= ?_)
    refine kc (hc:=by exact fun wS hS=>Tl.o wS) (h:= ?_)
    refine kc (hc:=by exact fun wS hS=>HAD.o wS) (h:= ?_)
    refine aI ?_
    intro GG V5 hk1 hG
    obtain⟨ha6,vC,hd6⟩:=hG 5 (by simp)
    clear hd6
    simp only[aZ,br,ct,kD,kG,kP,Option.bind_some]
    generalize GG 5=g3 at *
    clear hG
    have Ea:=ae vC
    have aH:=ae hk1;clear hk1 vC
    go_upto_region 8 with(refine ws (g:=_) (olds:=zeros24) Ea.o lS rfl (h:= ?_);intro W6 hr2 hc2;have gQ:=ae hr2;have iY:=ae (ag aH.o hc2 ha6);clear hr2 hc2)
    have ap:=ae (ap.o.keeps iY.o)
    have aA:=ae (aA.o.trans iY.o)
    have HR3:=ae (row3 U6 U7 RC (by have h:=gQ.o;rwa[WS.o]at h)).2.2
    rcases HC2.o with⟨rfl,rfl,rfl⟩|⟨rfl,rfl,Hx⟩
    · go_wp2_with (first |(refine wl HR3.o RC (h:= ?_))|((with_reducible refine iE .eql 67 67 (.tmp 31) (.tmp 32) ?_);refine kW (by kernel_rfl) 67 67 (.tmp 31) (.tmp 32) rfl _ La rfl rfl true uT.o (by kernel_rfl) ?_)|(refine wpList_store_row rfl 25 (.tmp 4) (.tmp 34) rfl _ 0 rfl Zr (bA.map (Value.int .u8)) rfl ap.o (by rw[du];rfl) bF (ai _) ?_;intro W8 hr2 hc2;have HN:=ae hr2;have HC:=ae hc2;clear hr2 hc2))
      exact bodyPost_ret (al (p:=4) (t:=5) (ty:=25) rfl _ _ (p+1+1) 0 _ _ _ rfl rfl HN.o Tryz.underlying25 rfl bF) rfl ⟨rfl,ag aA.o HC.o (by omega)⟩
    · have xr:=ae Hx
      clear Hx HC2
      go_wp2_with (first |(refine wl HR3.o RC (h:= ?_))|((with_reducible refine iE .eql 67 67 (.tmp 31) (.tmp 32) ?_);refine kW (by kernel_rfl) 67 67 (.tmp 31) (.tmp 32) rfl _ La rfl rfl false uT.o (by kernel_rfl) ?_)|(refine wl gQ.o lS (h:= ?_))|(go_at_call 68;refine(xr.o _).mono ?_;rintro e W8 ⟨rfl,hk1⟩;have jM:=ae hk1;clear hk1)|(refine ws (ap.o.keeps jM.o) lR (by rw[du]) (h:= ?_);intro W9 hr2 hc2;have HN:=ae hr2;have HC:=ae hc2;clear hr2 hc2))
      exact bodyPost_ret (al (p:=4) (t:=5) (ty:=25) rfl _ _ (p+1+1) 0 _ _ _ rfl rfl HN.o Tryz.underlying25 rfl (by rw[aF,lR];exact bF)) rfl ⟨rfl,ag (aA.o.trans jM.o) HC.o (by omega)⟩
theorem Hz{a:J}(hok:a.ok)(hz:a.z=1)(hon:On (fp a.x) (fp a.y)){k:Nat}(hk:k<2^256):
 ((fN a (cu k gJ 256)).z=0↔(gO a (cC k gJ 256)).z=0)∧kr (fN a (cu k gJ 256))=gU (gO a (cC k gJ 256))∧(gO a (cC k gJ 256)).jr (eB (.fq (fp a.x) (fp a.y)) (iq gP k)):=by
 obtain⟨x,y,z⟩:=a
 dsimp only at hz hon⊢
 subst hz
 have h1:=CM hok (dX k ku 256) (P:= .fq (fp x) (fp y)) (Q:=iq gP k) hon (CQ k) Gg (xd ku yO Gi hk)
 have h2:=sW (a:=⟨x,y,1⟩) (b:=cu k gJ 256) (P:= .fq (fp x) (fp y)) (Q:=iq gP k) hon (CQ k) Gh (yP yO KS hk)
 have o1:=w6 hok (dX k ku 256)
 have o2:=pk ⟨x,y,1⟩ (cu k gJ 256)
 exact⟨by rw[Pf o2 h2,xa o1 h1],by rw[yM o2 h2,yL o1 h1],h1⟩
theorem zF(PB B:List Int)(hP:Bytes PB)(hB:Bytes B)(lP:PB.length=33)(lB:B.length=32)(w:World):
 Calls Tryz.prog 31 #[.agg (PB.map (Value.int .u8)).toArray,.agg (B.map (Value.int .u8)).toArray] w fun e w' =>e= .returned (.tuple #[.agg ((gK PB (be B)).1.map (Value.int .u8)).toArray,.int .i64 (gK PB (be B)).2])∧Keeps w w':=by
 have ht:=gp hB lB
 have MO:=fun v W (hv:Rd W 1 v 33 (PB.map (Value.int .u8)))=>rx v PB hP W (by rw[lP];exact hv)
 rcases jN PB (be B)with⟨h1,h2⟩|⟨h1,h2,h3⟩|⟨h1,a,h2,hc⟩
 ·exact lj PB B (ax (be B)) (ax NV) (iJ PB) [] [] (dz 0) (dz 0) (dz 0) _ _ (decide (be B<NV)) (eK PB).isSome false _ lP lB (am _) (kE _) (cA _) (cA _) (cA _) rfl (eM _ _) w
   (fun v W hr=>jK v B W hr hB lB) (fun W=>sx W) (fun W=>fy _ _ ht ff W) MO (.inl ⟨decide_eq_false h1,by rw[h2],by rw[h2]⟩)
 ·exact lj PB B (ax (be B)) (ax NV) (iJ PB) [] [] (dz 0) (dz 0) (dz 0) _ _ (decide (be B<NV)) (eK PB).isSome false _ lP lB (am _) (kE _) (cA _) (cA _) (cA _) rfl (eM _ _) w
   (fun v W hr=>jK v B W hr hB lB) (fun W=>sx W) (fun W=>fy _ _ ht ff W) MO (.inr (.inl ⟨decide_eq_true h1,by rw[h2];rfl,by rw[h3],by rw[h3]⟩))
 ·obtain⟨n1,n2,n3⟩:=zE ht.1 h1
  obtain⟨hok,hz1,hon⟩:=Da hP h2
  obtain⟨b1,b2,_⟩:=Hz hok hz1 hon n1
  have hT:ax (be B)=dz (be B).toNat:=by unfold dz;rw[n3]
  have hup:iJ PB=nk a:=by unfold iJ;rw[h2]
  have Hy:=pk a (cu (be B).toNat gJ 256)
  have PS:=fun W=>tn (be B).toNat gJ n1 ku W
  rw[←hT]at PS
  have hE:=kY (((fN a (cu (be B).toNat gJ 256)).z:Nat):Int) 0 (dx Hy.2.2) ⟨by omega,by decide⟩
  rw[Ht]at hE
  refine lj PB B (ax (be B)) (ax NV) (iJ PB) (nk gJ) (nk (cu (be B).toNat gJ 256)) (dz (fN a (cu (be B).toNat gJ 256)).x) (dz (fN a (cu (be B).toNat gJ 256)).y) (dz (fN a (cu (be B).toNat gJ 256)).z) (nk (fN a (cu (be B).toNat gJ 256))) _ (decide (be B<NV)) (eK PB).isSome (decide ((((fN a (cu (be B).toNat gJ 256)).z:Nat):Int)=0)) _ lP lB (am _) (kE _) (cA _) (cA _) (cA _) rfl (eM _ _) w
   (fun v W hr=>jK v B W hr hB lB) (fun W=>sx W) (fun W=>fy _ _ ht ff W) MO (.inr (.inr ⟨decide_eq_true h1,by rw[h2];rfl,fun W=>Ho W,PS,fun W=>by rw[hup];exact qu _ _ hok (nh _ 256) W,hE,?_⟩))
  rcases hc with⟨hz,he⟩|⟨hz,he⟩
  ·exact .inl ⟨decide_eq_true (by rw[b1.2 hz];rfl),by rw[he],by rw[he]⟩
  ·refine .inr ⟨decide_eq_false (fun h=>hz (b1.1 (by exact_mod_cast h))),by rw[he],fun W=> ?_⟩
   rw[he,←b2]
   exact vE _ Hy W
end Go.Proofs.YtlofddoojkeakaaGreatDoor
namespace Go.Proofs.YtlofddoojkeakaaGreatDoor
open Go Go.RowKit
def aP(d:Int)(fg:List Int)(ch:Int)(cc da:List Int):List Value:= .int .u8 d::(fg.map (Value.int .u8)++(.int .u32 ch::(cc.map (Value.int .u8)++da.map (Value.int .u8))))
theorem bp{d:Int}{fg:List Int}{ch:Int}{cc da:List Int}(h1:fg.length=4)(h2:cc.length=32)(h3:da.length=33):(aP d fg ch cc da).length=71:=by simp[aP,h1,h2,h3]
theorem pz(d:Int)(fg:List Int)(ch:Int)(cc da:List Int):∀v∈aP d fg ch cc da,v.oneCell' =true:=by
 intro v hv
 simp only[aP,List.mem_cons,List.mem_append,List.mem_map]at hv
 rcases hv with rfl|⟨x,_,rfl⟩|rfl|⟨x,_,rfl⟩|⟨x,_,rfl⟩<;>rfl
theorem nR(d:Int){fg:List Int}(ch:Int){cc:List Int}(da:List Int)(h1:fg.length=4)(h2:cc.length=32):(aP d fg ch cc da).drop 38=da.map (Value.int .u8):=by
 have e:aP d fg ch cc da=(.int .u8 d::(fg.map (Value.int .u8)++(.int .u32 ch::cc.map (Value.int .u8))))++da.map (Value.int .u8):=by simp[aP]
 rw[e,List.drop_left' (by simp[h1,h2])]
theorem uH(d:Int){fg:List Int}(ch:Int)(cc da:List Int)(h1:fg.length=4)(i:Nat)(x:Int)(hi:i<cc.length):(aP d fg ch cc da).set (6+i) (.int .u8 x)=aP d fg ch (cc.set i x) da:=by
 have e:∀cc:List Int,aP d fg ch cc da=(.int .u8 d::(fg.map (Value.int .u8)++[.int .u32 ch]))++(cc.map (Value.int .u8)++da.map (Value.int .u8)):=fun cc=>by simp[aP]
 rw[e,e,List.set_append_right _ _ (by simp[h1]),show 6+i -(.int .u8 d::(fg.map (Value.int .u8)++[Value.int .u32 ch])).length=i by simp[h1],List.set_append_left _ _ (by simpa using hi),List.map_set]
theorem uI(d:Int){fg:List Int}(ch:Int){cc:List Int}(da:List Int)(h1:fg.length=4)(h2:cc.length=32)(i:Nat)(x:Int):(aP d fg ch cc da).set (38+i) (.int .u8 x)=aP d fg ch cc (da.set i x):=by
 have e:∀da:List Int,aP d fg ch cc da=(.int .u8 d::(fg.map (Value.int .u8)++(.int .u32 ch::cc.map (Value.int .u8))))++da.map (Value.int .u8):=fun da=>by simp[aP]
 rw[e,e,List.set_append_right _ _ (by simp[h1,h2]),show 38+i -(.int .u8 d::(fg.map (Value.int .u8)++(.int .u32 ch::cc.map (Value.int .u8)))).length=i by simp[h1,h2],List.map_set]
theorem key_data{w:World}{p:Nat}{d:Int}{fg:List Int}{ch:Int}{cc da:List Int}(h:Row w p 0 (aP d fg ch cc da))(h1:fg.length=4)(h2:cc.length=32):Row w p 38 (da.map (Value.int .u8)):=by
 have :=h.drop 38
 rwa[nR d ch da h1 h2,Nat.zero_add]at this
theorem i9{d:Int}{fg:List Int}{ch:Int}{cc da:List Int}(h1:fg.length=4)(h2:cc.length=32)(h3:da.length=33):(Tryz.prog.info? 29).map (·.size)=some (aP d fg ch cc da).length:=by rw[bp h1 h2 h3];kernel_rfl
theorem Dc{d:Int}{fg:List Int}{ch:Int}{cc da:List Int}(h1:fg.length=4)(h2:cc.length=32)(h3:da.length=33):(Tryz.prog.info? 27).map (·.size)=some (aP d fg ch cc da).length:=by rw[bp h1 h2 h3];kernel_rfl
variable {d:Int} {fg:List Int} {ch:Int} {cc z:List Int}
theorem rz(h1:fg.length=4)(h2:cc.length=32)(w:World):Calls Tryz.prog 10 #[.agg (aP d fg ch cc (0::z)).toArray] w fun e w' =>e= .returned (.bool true)∧Keeps w w':=by
 have HD:=ae (fun(W:World) (p:Nat) (hr:Row W p 0 (aP d fg ch cc (0::z)))=>(key_data hr h1 h2 0 (.int .u8 0) rfl).1)
 generalize aP d fg ch cc (0::z)=X at *
 go_enter Tryz.func10,Tryz.ntmps10
 go_upto_region 1 with(fail)
 refine bh (fun W hk hr hs=> ?_)
 have AG:=HD.o _ _ (show Row W w.heap.size 0 X from by simpa using hr)
 have HK:=ae hk
 clear hk hr hs
 go_wp2
 go_ret
 exact⟨by first |rfl|exact fU (by simp),HK.o⟩
theorem BE(h1:fg.length=4)(h2:cc.length=32)(hz:z.length=32)(w:World):Calls Tryz.prog 24 #[.agg (aP d fg ch cc (0::z)).toArray] w fun e w' =>e= .returned (.agg (z.map (Value.int .u8)).toArray)∧Keeps w w':=by
 have HD:=ae (fun(W:World) (p:Nat) (hr:Row W p 0 (aP d fg ch cc (0::z)))=>(by have :=(key_data hr h1 h2).drop 1;simpa using this:Row W p 39 (z.map (Value.int .u8))))
 generalize aP d fg ch cc (0::z)=X at *
 have hsp:=fun W=>run_arrayAt (P:=Tryz.prog) (w:=W) 24 5 32 (some ⟨w.heap.size,39,none⟩) 32 32 Tryz.underlying24 (Nat.le_refl _)
 go_enter Tryz.func24,Tryz.ntmps24
 go_upto_region 1 with(fail)
 refine bu (fun W hk hr hr2 hs=> ?_)
 have HR:=ae (HD.o _ _ (show Row W w.heap.size 0 X from by simpa using hr))
 obtain⟨Z,hZ,hrz⟩:∃Z:List Value,Z.length=32∧Row W (w.heap.size+1) 0 Z:=⟨_,rfl,hr2⟩
 have aV:=ae hrz;have HK:=ae hk
 clear hk hr hr2 hrz
 go_wp2_with (first |(refine aj rfl 24 (.tmp 5) rfl w.heap.size 39 rfl _ _ HR.o Tryz.underlying24 rfl (by rw[aF,hz];exact bo) ?_)|(refine wpList_store_row rfl 24 (.tmp 2) (.tmp 6) rfl (w.heap.size+1) 0 rfl Z (z.map (Value.int .u8)) rfl aV.o (by rw[aF,hz,hZ]) (by rw[aF,hz];exact bo) (ai _) ?_;intro w9 aR aJ;have H9:=ae aR;have bK:=ae aJ;clear aR aJ))
 exact bodyPost_ret (v:= .agg (z.map (Value.int .u8)).toArray) (ar (p:=2) (ty:=24) rfl _ _ (w.heap.size+1) 0 _ _ rfl H9.o Tryz.underlying24 rfl (by rw[aF,hz];exact bo)) rfl ⟨rfl,ag HK.o bK.o (by omega)⟩
theorem HJ(h1:fg.length=4)(h2:cc.length=32)(hz:z.length=32)(hb:Bytes z)(w:World):Calls Tryz.prog 35 #[.agg (aP d fg ch cc (0::z)).toArray] w fun e w' =>e= .returned (.bool (ey (be z)))∧Keeps w w':=by
 have HP:=ae (fun W=>rz (d:=d) (ch:=ch) (z:=z) h1 h2 W)
 have HS:=ae (fun W=>BE (d:=d) (ch:=ch) h1 h2 hz W)
 have HV:=ae (fun W=>uW z hb hz W)
 have ZK:=ae (i9 (d:=d) (ch:=ch) (da:=0::z) h1 h2 (by simp[hz]))
 generalize aP d fg ch cc (0::z)=X at *
 generalize ey (be z)=KB at *
 go_enter Tryz.func35,Tryz.ntmps35
 go_upto_region 1 with(fail)
 refine bh (fun W hk hr hs=> ?_)
 have HR:=ae (show Row W w.heap.size 0 X from by simpa using hr);have HK:=ae hk
 clear hk hr hs
 go_wp2_with (first |(refine aj rfl 29 (.tmp 1) rfl w.heap.size 0 rfl _ _ (by first |exact HR.o|exact HR.o.keeps bw.o) Tryz.underlying29 rfl ZK.o ?_)|(go_at_call 10;refine(HP.o _).mono ?_;rintro e W1 ⟨rfl,hk1⟩;have bw:=ae hk1;clear hk1)|(go_at_call 24;refine(HS.o _).mono ?_;rintro e W2 ⟨rfl,hk2⟩;have aq:=ae hk2;clear hk2)|(go_at_call 71;refine(HV.o _).mono ?_;rintro e W3 ⟨rfl,hk3⟩;have bS:=ae hk3;clear hk3))
 go_ret
 exact⟨rfl,((HK.o.trans bw.o).trans aq.o).trans bS.o⟩
def jO(l:List Int)(i:Nat):List Int:=l.take i++List.replicate (32 -i) 0
theorem ll(l:List Int):jO l 0=List.replicate 32 0:=by simp[jO]
theorem lm{l:List Int}(h:l.length=32):jO l 32=l:=by simp[jO,←h]
theorem eW{l:List Int}{i:Nat}(h:l.length=32)(hi:i≤32):(jO l i).length=32:=by simp[jO,h];omega
theorem ns{l:List Int}{i:Nat}(h:l.length=32)(hi:i<32):(jO l i).set i (l.getD i 0)=jO l (i+1):=by
 have hl:i<l.length:=by omega
 unfold jO
 have e:i -(l.take i).length=0:=by simp;omega
 rw[List.set_append_right _ _ (by simp;omega),e,show 32 -i=(32 -(i+1))+1 by omega,List.replicate_succ,List.set_cons_zero,List.take_succ_eq_append_getElem hl,List.append_assoc]
 simp[List.getD,hl]
theorem rA(h1:fg.length=4)(h2:cc.length=32)(hz:z.length=32)(w:World):Calls Tryz.prog 30 #[.agg (aP d fg ch cc (0::z)).toArray] w fun e w' =>e= .returned (.agg (z.map (Value.int .u8)).toArray)∧Keeps w w':=by
 have HD:=ae (fun(W:World) (p:Nat) (hr:Row W p 0 (aP d fg ch cc (0::z)))=>(by have :=(key_data hr h1 h2).drop 1;simpa using this:Row W p 39 (z.map (Value.int .u8))))
 generalize aP d fg ch cc (0::z)=X at *
 go_enter Tryz.func30,Tryz.ntmps30
 go_upto_region 2 with(fail)
 refine cU (fun W hk hr hr2 hr3 hs=> ?_)
 obtain⟨p,hp⟩:∃p,p=w.heap.size:=⟨_,rfl⟩
 rw[←hp]at hr hr2 hr3 hs⊢
 have hkp:w.heap.size≤p:=by omega
 have HR:=ae (HD.o _ _ (show Row W p 0 X from by simpa using hr))
 obtain⟨Z,hZ,hrz⟩:∃Z:List Value,Z.length=32∧Row W (p+1) 0 Z:=⟨_,rfl,hr2⟩
 have aV:=ae hrz;have HK:=ae hk
 have HR3:=ae (show Row W (p+1+1) 0 ((jO z 0).map (Value.int .u8)) by rw[ll];exact hr3)
 clear hk hr hr2 hr3 hrz hp hs
 go_wp2
 go_loopw [4] (fun c wr=>∃i:Nat,i≤32∧c= .int .i64 i∧Hid (Keeps w wr)∧Hid (Row wr p 39 (z.map (Value.int .u8)))∧Hid (Row wr (p+1) 0 Z)∧Hid (Row wr (p+1+1) 0 ((jO z i).map (Value.int .u8)))) (fun c _=>(32 -intOf c).toNat)
 case atStart=>exact⟨0,by omega,rfl,HK,HR,aV,HR3⟩
 case round=>
  obtain⟨i,hi,rfl,nc,HA,HB,HC⟩:=hrel
  by_cases hlt:i<32
  · have c1:=HA.o.int i (by rw[hz];exact hlt)
    have c1':wr.cell? ⟨p,38+(i+1),none⟩=some (.int .u8 (z.getD i 0)):=by rw[show 38+(i+1)=39+i by omega];exact c1
    have c3:=HC.o.aT i (by rw[eW hz hi];exact hlt)
    have f3:=HC.o.bR i (by rw[aF,eW hz hi];exact hlt)
    have hs:=HC.o.bl i (by rw[eW hz hi];exact hlt) (z.getD i 0)
    rw[ns hz hlt]at hs
    have HS:=ae hs
    clear hs
    generalize z.getD i 0=y at *
    go_wp2
    go_roundw
    case rel=>exact⟨i+1,by omega,by go_num,ae (b9 nc.o (by omega) _),ae (HA.o.other (by simp;omega) _),ae (HB.o.other (by simp) _),HS⟩
    case measure=>simp[intOf];omega
  ·obtain rfl:i=32:=by omega
   rw[lm hz]at HC
   go_wp2_with (first |(refine aj rfl 24 (.tmp 3) rfl (p+1+1) 0 rfl _ _ HC.o Tryz.underlying24 rfl (by rw[aF,hz];exact bo) ?_)|(refine wpList_store_row rfl 24 (.tmp 2) (.tmp 16) rfl (p+1) 0 rfl Z (z.map (Value.int .u8)) rfl HB.o (by rw[aF,hz,hZ]) (by rw[aF,hz];exact bo) (ai _) ?_;intro w9 aR aJ;have H9:=ae aR;have bK:=ae aJ;clear aR aJ))
   exact bodyPost_ret (v:= .agg (z.map (Value.int .u8)).toArray) (ar (p:=2) (ty:=24) rfl _ _ (p+1) 0 _ _ rfl H9.o Tryz.underlying24 rfl (by rw[aF,hz];exact bo)) rfl ⟨rfl,ag nc.o bK.o (by omega)⟩
theorem Em(h1:fg.length=4)(h2:cc.length=32)(hz:z.length=32)(hb:Bytes z)(w:World):Calls Tryz.prog 11 #[.agg (aP d fg ch cc (0::z)).toArray] w fun e w' =>e= .returned (.bool (ey (be z)))∧Keeps w w':=by
 have HD:=ae (fun(W:World) (p:Nat) (hr:Row W p 0 (aP d fg ch cc (0::z)))=>(key_data hr h1 h2 0 (.int .u8 0) rfl).1)
 have HS:=ae (fun W=>rA (d:=d) (ch:=ch) h1 h2 hz W)
 have HO:=ae (fun(v:Value) W hr=>jK v z W hr hb hz)
 have WT:=ae (fun W=>sy (be z) (gp hb hz) W)
 have ZK:=ae (Dc (d:=d) (ch:=ch) (da:=0::z) h1 h2 (by simp[hz]))
 generalize aP d fg ch cc (0::z)=X at *
 generalize ey (be z)=KB at *
 generalize ax (be z)=Y at *
 go_enter Tryz.func11,Tryz.ntmps11
 go_upto_region 1 with(fail)
 refine bh (fun W hk hr hs=> ?_)
 have hr:Row W w.heap.size 0 X:=by simpa using hr
 have AG:=HD.o _ _ hr
 have HR:=ae hr;have HK:=ae hk
 clear hk hr hs
 go_upto_region 3 with(first |(refine aj rfl 27 (.tmp 1) rfl w.heap.size 0 rfl _ _ HR.o Tryz.underlying27 rfl ZK.o ?_)|(go_at_call 30;refine(HS.o _).mono ?_;rintro e W2 ⟨rfl,hk2⟩;have aq:=ae hk2;clear hk2)|(refine wpList_store_row rfl 24 (.tmp 3) (.tmp 11) rfl W2.heap.size 0 rfl (List.replicate 32 (Value.int .u8 0)) (z.map (Value.int .u8)) rfl (Row.new _ _ _ rfl) (by rw[aF,hz];rfl) (by rw[aF,hz];exact bo) (ai _) ?_;intro W3 hr3 hc3;have HR3:=ae hr3;have bS:=ae (ag (ah (Keeps.refl W2) _) hc3 (Nat.le_refl _));clear hr3 hc3))
 have iX:=ae (show Rd W3 1 (.slice (some ⟨W2.heap.size,0,none⟩) 32 32) 32 (z.map (Value.int .u8))from Rd.bQ HR3.o (by simp[hz]) (HR3.o.lt (by intro e;have :=congrArg List.length e;simp[hz]at this)) (Nat.le_refl _) (by unfold maxLen;omega))
 clear AG
 generalize W2.heap.size=q at *
 go_wp2_with (first |(go_at_call 33;refine(HO.o _ _ iX.o).mono ?_;rintro e W4 ⟨rfl,hk4⟩;have gR:=ae hk4;clear hk4)|(go_at_call 32;refine(WT.o _).mono ?_;rintro e W5 ⟨rfl,hk5⟩;have cG:=ae hk5;clear hk5))
 go_ret
 exact⟨rfl,(((HK.o.trans aq.o).trans bS.o).trans gR.o).trans cG.o⟩
end Go.Proofs.YtlofddoojkeakaaGreatDoor
namespace Go.Proofs.YtlofddoojkeakaaGreatDoor
open Go Go.RowKit Go.Shelf
theorem pA:(Tryz.prog.info? 78).map (·.size)=some 2:=by kernel_rfl
theorem xu:liesAt Tryz.prog Tryz.prog.depth 78 (2/Tryz.prog.cellsOf 78) 0 78 1=true:=by kernel_rfl
theorem BF(b:Nat)(w:World)(h0:w.cell? ⟨b,0,none⟩=some (.pointer (some ⟨b,0,none⟩))):
 Calls Tryz.prog 73 #[.pointer (some ⟨b,0,none⟩)] w fun e w' =>e= .returned (.tuple #[])∧w' =w:=by
 obtain⟨j,hj,_⟩:=Option.map_eq_some_iff.1 pA
 go_enter Tryz.func73,Tryz.ntmps73
 go_wp2
 rw[Lib.run_neq_ptr_same w _ Tryz.underlying76 hj]
 go_wp2
 go_end0
 exact⟨rfl,rfl⟩
theorem zG(b:Nat)(w:World)(h0:w.cell? ⟨b,0,none⟩=some (.pointer none))(hsh:w.shape? b=some (78,2))(hfz:w.frozen? ⟨b,0,none⟩=false):
 Calls Tryz.prog 73 #[.pointer (some ⟨b,0,none⟩)] w fun e w' =>e= .returned (.tuple #[])∧w' =w.setCell ⟨b,0,none⟩ (.pointer (some ⟨b,0,none⟩)):=by
 obtain⟨j,hj,hjs⟩:=Option.map_eq_some_iff.1 pA
 go_enter Tryz.func73,Tryz.ntmps73
 go_wp2
 rw[Lib.run_to_unsafe w ⟨b,0,none⟩ Tryz.underlying76 Tryz.underlying173 hj (by rw[hjs];decide) hsh (Nat.zero_lt_succ 1)]
 simp only[Result.andThen]
 rw[Oper.upon_value]
 go_wp2
 rw[run_callFunc_extern Tryz.func107 (by kernel_rfl) (by kernel_rfl) (by kernel_rfl) (e:=Extern.AbiNoEscape.same) (by kernel_rfl)]
 rw[Lib.run_noEscape]
 simp only[Result.andThen]
 rw[Oper.upon_value]
 go_wp2
 rw[Lib.run_from_unsafe w ⟨b,0,none⟩ Tryz.underlying173 Tryz.underlying76 hj hsh xu]
 simp only[Result.andThen]
 rw[Oper.upon_value]
 go_wp2
 go_end0
 exact⟨rfl,rfl⟩
theorem check_any(B b:Nat)(bs:List Value)(w:World)(h:Lib.IsBuilder 78 5 B b bs w):
 Calls Tryz.prog 73 #[.pointer (some ⟨b,0,none⟩)] w fun e w' =>e= .returned (.tuple #[])∧(Lib.BuilderAt 78 5 B b (.pointer (some ⟨b,0,none⟩)) bs w'∧Below B w w'∧Lib.OthersKept 5 (some b) w w'∧w.heap.size≤w'.heap.size):=by
 rcases h with h|h
 ·refine(zG b w h.cell0 h.shape h.frozen0).mono ?_
  rintro e w' ⟨rfl,rfl⟩
  exact⟨rfl,h.used _,(Below.refl B w).setCell (p:=⟨b,0,none⟩) h.1 _,(Lib.OthersKept.refl _ _ w).setCell ⟨b,0,none⟩ rfl _,by simp⟩
 ·refine(BF b w h.cell0).mono ?_
  rintro e w' ⟨rfl,rfl⟩
  exact⟨rfl,h,Below.refl B _,Lib.OthersKept.refl _ _ _,Nat.le_refl _⟩
theorem nU(B b:Nat)(bs:List Value)(c:Int)(w:World)(h:Lib.IsBuilder 78 5 B b bs w)(hlen:bs.length+1≤140737488355328)(hBw:B≤w.heap.size):
 Calls Tryz.prog 38 #[.pointer (some ⟨b,0,none⟩),.int .u8 c] w fun e w' =>e= .returned .nilIface∧(Lib.BuilderAt 78 5 B b (.pointer (some ⟨b,0,none⟩)) (bs++[.int .u8 c]) w'∧Below B w w'∧Lib.OthersKept 5 (some b) w w'∧w.heap.size≤w'.heap.size):=by
 obtain⟨i0,hi,hz0,hz1,hz2⟩:=info_parts jI
 have hck:=check_any B b bs w h
 go_enter Tryz.func38,Tryz.ntmps38
 go_wp2_with (go_at_call 73;refine hck.mono ?_)
 rintro e w1 ⟨rfl,h1,hb1,hk1,hs1⟩
 obtain⟨hB,v,hbk,hown,hne⟩:=h1
 have c0:w1.cell? ⟨b,0,none⟩=some (.pointer (some ⟨b,0,none⟩)):=by rw[Lib.cell_of_heap hbk];rfl
 have c1:w1.cell? ⟨b,1,none⟩=some v:=by rw[Lib.cell_of_heap hbk];rfl
 go_wp2_with (at_builtin;refine wpList_append_own _ rfl _ _ 44 rfl B 5 i0 (.int .u8 0) 1 1 Tryz.underlying44 hi hz0 hz1 hz2 rfl (by decide) _ _ _ rfl (hown.alloc _) ⟨w1.heap.size,0,none⟩ 1 1 [.int .u8 c] rfl rfl ?c1 ?c2 ?c3 ?c4 ?c5 ?_)
 case c1=>
  intro j u hj
  match j,hj with
  |0,hj=>simp at hj;subst hj;simp[Addr.add]
 case c2=>intro u hu;simp at hu;subst hu;rfl
 case c3=>unfold maxLen;omega
 case c4=>omega
 case c5=>have :=hb1.size;simp;omega
 intro v' w2 hown' hgrow _
 have hlt:b<w1.heap.size:=by
  rcases Nat.lt_or_ge b w1.heap.size with h' |h'
  ·exact h'
  ·simp[Array.getElem?_eq_none h']at hbk
 have hb2:w2.heap[b]? =some (.cells #[.pointer (some ⟨b,0,none⟩),v] 78 (0,0)):=by
  rw[hgrow.block b (by simp;omega) (fun e=>hne e.symm),Lib.alloc_old w1 _ b hlt]
  exact hbk
 have d0:w2.cell? ⟨b,0,none⟩=some (.pointer (some ⟨b,0,none⟩)):=by rw[Lib.cell_of_heap hb2];rfl
 have d1:w2.cell? ⟨b,1,none⟩=some v:=by rw[Lib.cell_of_heap hb2];rfl
 have f1:w2.frozen? ⟨b,1,none⟩=false:=Lib.frozen_of_heap hb2 1
 obtain⟨g,cap,rfl⟩:∃g cap,v' = .slice (some ⟨g,0,none⟩) (bs.length+1) cap:=by
  rcases hown'.2 with⟨_,h0⟩|⟨g,cap,cur,hv,_⟩
  · omega
  ·exact⟨g,cap,hv⟩
 go_wp2
 go_ret
 refine⟨rfl,?_,?_,((hk1.alloc _).grown hgrow ?_).setCell ⟨b,1,none⟩ rfl _,?_⟩
 ·exact Lib.BuilderAt.put (T:=78) (e:=5) hB hb2 (bs':=bs++[.int .u8 c]) (by simpa using hown') (by decide)
 ·exact((hb1.alloc (by have :=hb1.size;omega) _).grown hgrow (by have :=hb1.size;simp;omega) (fun k hk=>(hown.lt k hk).1)).setCell (p:=⟨b,1,none⟩) hB _
 ·exact Lib.ownsRowF_kind (World.ownsRowF_of (hown.alloc _))
 · have :=hgrow.size;simp at this⊢;omega
end Go.Proofs.YtlofddoojkeakaaGreatDoor
