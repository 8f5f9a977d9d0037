/- strongboxlaw06.HdkeySteps: the walk. -/
import Derived.Test.YtlofddoojkeakaaGreatDoorGE5
import Derived.Laws.BytesArg
import Derived.Test.YtlofddoojkeakaaGreatDoorGC5
import Derived.SizedLaws
import Derived.Deep.Slices
import Derived.Test.YtlofddoojkeakaaGreatDoorGE1
import Derived.Test.YtlofddoojkeakaaGreatDoorGA2
set_option maxRecDepth 100000
set_option maxHeartbeats 16000000
set_option linter.unusedVariables false
set_option linter.unusedSimpArgs false
namespace Go.Proofs.YtlofddoojkeakaaGreatDoor
open Go Go.RowKit Cv
theorem ul(W:World)(l:List Int)(hb:Bytes l)(hl:l.length=33):(Op.equalIn 10000 25 (.agg (l.map (Value.int .u8)).toArray) (.agg (l.map (Value.int .u8)).toArray)).run Tryz.prog W= .ok true W:=by
 rw[m9 W 25 5 33 .u8 (by kernel_rfl) Tryz.underlying25 Tryz.underlying5 (by kernel_rfl) (by kernel_rfl) l l hl (fun x hx=>iW (hb x hx)) hl (fun x hx=>iW (hb x hx)),decide_eq_true rfl]
theorem um(W:World)(l:List Int)(hb:Bytes l)(hl:l.length=32):(Op.equalIn 10000 24 (.agg (l.map (Value.int .u8)).toArray) (.agg (l.map (Value.int .u8)).toArray)).run Tryz.prog W= .ok true W:=by
 rw[m9 W 24 5 32 .u8 (by kernel_rfl) Tryz.underlying24 Tryz.underlying5 (by kernel_rfl) (by kernel_rfl) l l hl (fun x hx=>iW (hb x hx)) hl (fun x hx=>iW (hb x hx)),decide_eq_true rfl]
theorem Cn(k S Q:KD)(n eS eP eQ eC:Int)(PV RP SC:List Int)(gv:Bool)(hk:k.ok)(hS:S.ok)(hQ:Q.ok)(lP:PV.length=33)(bP:Bytes PV)(VP:RP.length=33)(lC:SC.length=32)(bC:Bytes SC)(w:World)
 (h1:∀W,Calls Tryz.prog 7 #[.agg k.cells.toArray,.int .u32 n] W fun e w' =>e= .returned (.tuple #[.agg S.cells.toArray,.int .i64 eS])∧Keeps W w')
 (h2:∀W,Calls Tryz.prog 8 #[.agg k.cells.toArray,.int .u32 n] W fun e w' =>e= .returned (.tuple #[.agg S.cells.toArray,.int .i64 eS])∧Keeps W w')
 (h3:∀W,Calls Tryz.prog 11 #[.agg k.cells.toArray] W fun e w' =>e= .returned (.bool gv)∧Keeps W w')
 (h4:∀W,Calls Tryz.prog 12 #[.agg k.cells.toArray] W fun e w' =>e= .returned (.tuple #[.agg (PV.map (Value.int .u8)).toArray,.int .i64 eP])∧Keeps W w')
 (h5:∀W,Calls Tryz.prog 13 #[.agg k.cells.toArray] W fun e w' =>e= .returned (.tuple #[.agg Q.cells.toArray,.int .i64 eQ])∧Keeps W w')
 (h6:∀W,Calls Tryz.prog 14 #[.agg k.cells.toArray] W fun e w' =>e= .returned (.tuple #[.agg (SC.map (Value.int .u8)).toArray,.int .i64 eC])∧Keeps W w')
 (h7:∀W,Calls Tryz.prog 15 #[.agg k.cells.toArray] W fun e w' =>e= .returned (.agg (RP.map (Value.int .u8)).toArray)∧Keeps W w')
 (hc:(gv=false∧eP=3∧eQ=3∧eC=3∧PV=bA∧Q=K0∧SC=ce)∨
  (gv=true∧eP=0∧eQ=0∧RP=PV∧(Q.x::Q.z)=PV∧k.cells.take 38++PV.map (Value.int .u8)++k.cells.drop (38+(PV.map (Value.int .u8)).length)=Q.cells∧((¬k.x=0∧eC=1∧SC=ce)∨(k.x=0∧eC=0∧SC=k.z)))):
 Calls Tryz.prog 3 #[.agg k.cells.toArray,.int .u32 n] w fun e w' =>e= .returned (.bool true)∧Keeps w w':=by
 have Up:=ae vY
 have HOW:=ae (fun W=>Dm k hk W)
 have Uq:=ae (fun W=>Ch S hS W)
 have Yg:=ae (fun W=>Ch Q hQ W)
 have Rg:=ae (fun W=>gM k hk W)
 have H1:=ae h1;have H2:=ae h2;have H3:=ae h3;have H4:=ae h4;have H5:=ae h5;have H6:=ae h6;have H7:=ae h7
 have ZK:=ae hk.sz;have ZR:=ae hk.AL;have LK:=ae (show k.cells.length=K0.cells.length from hk.len);have OK:=ae k.one
 have ZS:=ae hS.sz;have VQ:=ae hS.AL;have LS:=ae (show S.cells.length=K0.cells.length from hS.len);have OS:=ae S.one
 have ZQ:=ae hQ.sz;have Yh:=ae hQ.AL;have LQ:=ae (show Q.cells.length=K0.cells.length from hQ.len);have OQ:=ae Q.one
 have Ur:=ae (fun W=>oE W S hS)
 have Us:=ae (fun W=>oE W Q hQ)
 have Ut:=ae (fun W=>ET W K0 gZ)
 have Uu:=ae (fun W=>ul W PV bP lP)
 have Yi:=ae (fun W=>um W SC bC lC)
 have Rh:=ae (fun W=>ul W bA gi rfl)
 have Lm:=ae (fun W=>um W ce gb rfl)
 have Yj:=ae (fun(e:(Q.x::Q.z)=PV)=>show(Q.cells.drop 38).take 33=PV.map (Value.int .u8) by rw[(qH hQ).2.2.2.2,e])
 have Am:=ae (fun(W:World) (p:Nat) (hr:Row W p 0 k.cells)=>And.intro (hk.row39 hr) (hk.qG hr))
 have lZ:=hk.zl
 have Fo:=ae hc
 have Uv:=ae hk.len
 clear h1 h2 h3 h4 h5 h6 h7 hc hk hS hQ
 generalize k.cells=KC at *
 generalize S.cells=SK at *
 have hxx:(k.x=0∧decide (k.x=0)=true∧(k.x==0)=true∧(k.x !=0)=false)∨(¬k.x=0∧decide (k.x=0)=false∧(k.x==0)=false∧(k.x !=0)=true):=by
  by_cases hx:k.x=0
  ·exact .inl ⟨hx,decide_eq_true hx,by rw[beq_iff_eq];exact hx,by rw[hx];rfl⟩
  ·exact .inr ⟨hx,decide_eq_false hx,by rw[beq_eq_false_iff_ne];exact hx,by rw[bne_iff_ne];exact hx⟩
 generalize k.x=kx at *
 rcases hxx with⟨hx,hx1,hx2,hx3⟩|⟨hx,hx1,hx2,hx3⟩
 all_goals
  rw[hx1]at Rg
  have HX:=ae hx
  clear hx hx1
  go_enter Tryz.func3,Tryz.ntmps3
  go_upto_region 1 with(fail)
  refine bh (fun W hk hr hs=> ?_)
  have HR0:=ae (show Row W w.heap.size 0 KC from by simpa using hr);have Jk:=ae hk
  obtain⟨p,hp⟩:∃p,p=w.heap.size:=⟨_,rfl⟩
  have K7:=ae (show w.heap.size≤p by omega)
  rw[←hp]at HR0⊢
  clear hk hr hs hp
  go_upto_region 3 with(go_at_call 5;refine(Up.o _).mono ?_;rintro e W1 ⟨rfl,hk1⟩;have bw:=ae hk1;clear hk1)
  have HR1:=ae (HR0.o.keeps bw.o)
  have jE:=ae (Jk.o.trans bw.o)
  clear HR0 Jk bw
  go_upto_region 4 with(first
   |(refine aj rfl 27 (.tmp 2) rfl p 0 rfl _ _ HR1.o Tryz.underlying27 rfl ZR.o ?_)
   |(go_at_call 6;refine(HOW.o _).mono ?_;rintro e W2 ⟨rfl,hk2⟩;have aq:=ae hk2;clear hk2)
   |(refine wpList_store_row rfl 29 (.tmp 5) (.tmp 20) rfl W2.heap.size 0 rfl K0.cells KC rfl (Row.new _ _ _ rfl) LK.o ZK.o OK.o ?_;intro W3 hr3 hc3;have bB:=ae hr3;have bS:=ae (ag (ah (Keeps.refl W2) _) hc3 (Nat.le_refl _));clear hr3 hc3))
  generalize W2.heap.size=px at *
  have gE:=ae (aq.o.trans bS.o)
  have HR:=ae (HR1.o.keeps gE.o);have aA:=ae (jE.o.trans gE.o)
  clear aq bS gE jE HR1
  go_upto_region 5 with(first
   |(refine aj rfl 29 (.tmp 5) rfl px 0 rfl _ _ bB.o Tryz.underlying29 rfl ZK.o ?_)
   |(go_at_call 7;refine(H1.o _).mono ?_;rintro e W4 ⟨rfl,hk2⟩;have aq:=ae hk2;clear hk2)
   |(refine wpList_store_row rfl 29 (.tmp 6) (.tmp 25) rfl W4.heap.size 0 rfl K0.cells SK rfl (Row.new _ _ _ rfl) LS.o ZS.o OS.o ?_;intro W5 hr3 hc3;have gQ:=ae hr3;have bS:=ae (ag (ah (Keeps.refl W4) _) hc3 (Nat.le_refl _));clear hr3 hc3))
  generalize W4.heap.size=ps at *
  have gE:=ae (aq.o.trans bS.o)
  have HR:=ae (HR.o.keeps gE.o);have bB:=ae (bB.o.keeps gE.o);have aA:=ae (aA.o.trans gE.o)
  clear aq bS gE
  go_upto_region 6 with(first
   |(refine aj rfl 27 (.tmp 2) rfl p 0 rfl _ _ HR.o Tryz.underlying27 rfl ZR.o ?_)
   |(go_at_call 8;refine(H2.o _).mono ?_;rintro e W6 ⟨rfl,hk2⟩;have aq:=ae hk2;clear hk2)
   |(refine wpList_store_row rfl 27 (.tmp 8) (.tmp 31) rfl W6.heap.size 0 rfl K0.cells SK rfl (Row.new _ _ _ rfl) LS.o VQ.o OS.o ?_;intro W7 hr3 hc3;have cV:=ae hr3;have bS:=ae (ag (ah (Keeps.refl W6) _) hc3 (Nat.le_refl _));clear hr3 hc3))
  generalize W6.heap.size=pt at *
  have gE:=ae (aq.o.trans bS.o)
  have HR:=ae (HR.o.keeps gE.o);have bB:=ae (bB.o.keeps gE.o);have gQ:=ae (gQ.o.keeps gE.o);have aA:=ae (aA.o.trans gE.o)
  clear aq bS gE
  refine au 17 [] [0,1,2,3,4,5,6,7,8,9,10,11,12,13,14,15,16] (fun _=>[]) (by kernel_rfl) (by kernel_rfl) (by intro i hi;cases hi) ?_
  refine kp (hx:=by intro wS hS;(refine bD 29 (.tmp 6) ?_ ps 0 ?_ _ _ (gQ.o.keeps hS) Tryz.underlying29 rfl ZS.o)<;>rfl) (h:= ?_)
  refine kc (hc:=by exact fun wS hS=>Uq.o wS) (h:= ?_)
  refine kp (hx:=by intro wS hS;(refine bD 27 (.tmp 8) ?_ pt 0 ?_ _ _ (cV.o.keeps hS) Tryz.underlying27 rfl VQ.o)<;>rfl) (h:= ?_)
  refine kp (hx:=by intro wS hS;(refine gx 27 27 (.tmp 34) (.tmp 35) ?_ _ _ ?_ ?_ true Ur.o (by kernel_rfl))<;>rfl) (h:= ?_)
  iterate 6 refine kp (h:= ?_)
  refine kp (hx:=by intro wS hS;(refine bD 29 (.tmp 5) ?_ px 0 ?_ _ _ (bB.o.keeps hS) Tryz.underlying29 rfl ZK.o)<;>rfl) (h:= ?_)
  refine kc (hc:=by exact fun wS hS=>Rg.o wS) (h:= ?_)
  iterate 2 refine kp (h:= ?_)
  refine kp (hx:=by(intro wS hS;have AG:=(Am.o _ _ (HR.o.keeps hS)).2;go_simp)<;>with_reducible rfl) (h:= ?_)
  iterate 2 refine kp (h:= ?_)
  refine aI ?_
  intro GG V1 hk1 hG
  clear hG
  simp only[aZ,br,ct,kD,kG,kP,Option.bind_some]
  have HR:=ae (HR.o.keeps hk1);have bB:=ae (bB.o.keeps hk1);have aA:=ae (aA.o.trans hk1)
  clear hk1 gQ cV
  go_upto_region 9 with(first
   |(refine aj rfl 27 (.tmp 2) rfl p 0 rfl _ _ HR.o Tryz.underlying27 rfl ZR.o ?_)
   |(go_at_call 11;refine(H3.o _).mono ?_;rintro e W8 ⟨rfl,hk2⟩;have jM:=ae hk2;clear hk2))
  have HR:=ae (HR.o.keeps jM.o);have bB:=ae (bB.o.keeps jM.o);have aA:=ae (aA.o.trans jM.o)
  clear jM
  go_upto_region 10 with(first
   |(refine aj rfl 29 (.tmp 5) rfl px 0 rfl _ _ bB.o Tryz.underlying29 rfl ZK.o ?_)
   |(go_at_call 12;refine(H4.o _).mono ?_;rintro e W4 ⟨rfl,hk2⟩;have aq:=ae hk2;clear hk2)
   |(refine ws (g:=W4.heap.size) (olds:=(bA.map (Value.int .u8))) (Row.new _ _ _ rfl) lP rfl (h:= ?_);intro W5 hr3 hc3;have mO:=ae hr3;have bS:=ae (ag (ah (Keeps.refl W4) _) hc3 (Nat.le_refl _));clear hr3 hc3))
  generalize W4.heap.size=pp at *
  have gE:=ae (aq.o.trans bS.o)
  have HR:=ae (HR.o.keeps gE.o);have bB:=ae (bB.o.keeps gE.o);have aA:=ae (aA.o.trans gE.o)
  clear aq bS gE
  go_upto_region 11 with(first
   |(refine aj rfl 29 (.tmp 5) rfl px 0 rfl _ _ bB.o Tryz.underlying29 rfl ZK.o ?_)
   |(go_at_call 13;refine(H5.o _).mono ?_;rintro e W4 ⟨rfl,hk2⟩;have aq:=ae hk2;clear hk2)
   |(refine wpList_store_row rfl 29 (.tmp 12) (.tmp 61) rfl W4.heap.size 0 rfl K0.cells Q.cells rfl (Row.new _ _ _ rfl) LQ.o ZQ.o OQ.o ?_;intro W5 hr3 hc3;have pH:=ae hr3;have bS:=ae (ag (ah (Keeps.refl W4) _) hc3 (Nat.le_refl _));clear hr3 hc3))
  generalize W4.heap.size=pq at *
  have gE:=ae (aq.o.trans bS.o)
  have HR:=ae (HR.o.keeps gE.o);have bB:=ae (bB.o.keeps gE.o);have mO:=ae (mO.o.keeps gE.o);have aA:=ae (aA.o.trans gE.o)
  clear aq bS gE
  go_upto_region 12 with(first
   |(refine aj rfl 29 (.tmp 5) rfl px 0 rfl _ _ bB.o Tryz.underlying29 rfl ZK.o ?_)
   |(go_at_call 14;refine(H6.o _).mono ?_;rintro e W4 ⟨rfl,hk2⟩;have aq:=ae hk2;clear hk2)
   |(refine ws (g:=W4.heap.size) (olds:=(ce.map (Value.int .u8))) (Row.new _ _ _ rfl) lC rfl (h:= ?_);intro W5 hr3 hc3;have tD:=ae hr3;have bS:=ae (ag (ah (Keeps.refl W4) _) hc3 (Nat.le_refl _));clear hr3 hc3))
  generalize W4.heap.size=pc at *
  have gE:=ae (aq.o.trans bS.o)
  have HR:=ae (HR.o.keeps gE.o);have mO:=ae (mO.o.keeps gE.o);have pH:=ae (pH.o.keeps gE.o);have aA:=ae (aA.o.trans gE.o)
  clear aq bS gE bB
  rcases Fo.o with⟨rfl,rfl,rfl,rfl,rfl,rfl,rfl⟩|⟨rfl,rfl,rfl,rfl,VR,hput,hend⟩
  ·clear Fo
   go_wp2_with (first
    |(refine dO (by kernel_rfl) 25 (.tmp 11) rfl pp 0 rfl _ _ mO.o Tryz.underlying25 rfl bF ?_)
    |(refine dO (by kernel_rfl) 29 (.tmp 12) rfl pq 0 rfl _ _ pH.o Tryz.underlying29 rfl ZQ.o ?_)
    |(refine dO (by kernel_rfl) 24 (.tmp 14) rfl pc 0 rfl _ _ tD.o Tryz.underlying24 rfl bo ?_)
    |((with_reducible refine ji 29 _ ?_);refine aW (by kernel_rfl) 29 _ rfl [] ?_ _ ex ?_;focus rfl)
    |((with_reducible refine iE .eql 25 25 (.tmp 81) (.tmp 82) ?_);refine kW (by kernel_rfl) 25 25 (.tmp 81) (.tmp 82) rfl _ _ rfl rfl true Rh.o (by kernel_rfl) ?_)
    |((with_reducible refine iE .eql 29 29 (.tmp 86) (.tmp 87) ?_);refine kW (by kernel_rfl) 29 29 (.tmp 86) (.tmp 87) rfl _ _ rfl rfl true Ut.o (by kernel_rfl) ?_)
    |((with_reducible refine iE .eql 24 24 (.tmp 91) (.tmp 92) ?_);refine kW (by kernel_rfl) 24 24 (.tmp 91) (.tmp 92) rfl _ _ rfl rfl true Lm.o (by kernel_rfl) ?_))
   go_ret
   exact⟨by first |rfl|exact fU (by simp),aA.o⟩
  · have NL:=ae hend
    have Kq:=ae hput
    have Yk:=ae VR
    clear hput hend VR Fo
    go_upto_region 15 with(first
     |(refine aj rfl 27 (.tmp 2) rfl p 0 rfl _ _ HR.o Tryz.underlying27 rfl ZR.o ?_)
     |(refine wpList_store_row rfl 27 (.tmp 16) (.tmp 95) rfl _ 0 rfl K0.cells KC rfl (Row.new _ _ _ rfl) LK.o ZR.o OK.o ?_;intro W6 hr3 hc3;have HRW:=ae hr3;have bS:=ae (ag (ah (Keeps.refl W5) _) hc3 (Nat.le_refl _));clear hr3 hc3))
    obtain⟨pw,hpw⟩:∃pw,pw=W5.heap.size:=⟨_,rfl⟩
    rw[←hpw]at HRW⊢
    have VS:pw<W6.heap.size:=HRW.o.lt (fun e=>by have :=Uv.o;rw[e]at this;cases this)
    have Uw:=ae (show w.heap.size≤pw by have :=aA.o.size;omega)
    have Yl:pp<pw:=by rw[hpw];exact mO.o.lt (aM lP)
    have Ym:pq<pw:=by rw[hpw];exact pH.o.lt (fun e=>by have :=LQ.o;rw[e]at this;cases this)
    have Yn:pc<pw:=by rw[hpw];exact tD.o.lt (aM lC)
    have Yo:p<pw:=by rw[hpw];exact HR.o.lt (fun e=>by have :=Uv.o;rw[e]at this;cases this)
    have HR:=ae (HR.o.keeps bS.o);have mO:=ae (mO.o.keeps bS.o);have pH:=ae (pH.o.keeps bS.o);have tD:=ae (tD.o.keeps bS.o);have aA:=ae (aA.o.trans bS.o)
    clear bS hpw
    go_upto_region 16 with(first
     |(refine aj rfl 27 (.tmp 2) rfl p 0 rfl _ _ HR.o Tryz.underlying27 rfl ZR.o ?_)
     |(go_at_call 15;refine(H7.o _).mono ?_;rintro e W8 ⟨rfl,hk2⟩;have jM:=ae hk2;have Ri:=ae (HRW.o.keeps hk2);clear hk2)
     |(refine gw rfl 25 (.tmp 98) (.tmp 97) rfl pw 38 rfl KC (RP.map (Value.int .u8)) rfl Ri.o (by rw[aF,VP,Uv.o];decide) (by rw[aF,VP];exact bF) (ai _) ?_;intro W9 dG hc5;have el:=ae (show Row W9 pw 0 Q.cells by rw[←Kq.o];exact dG);have bK:=ae hc5;clear dG hc5))
    have HR:=ae ((HR.o.keeps jM.o).aG bK.o (by omega));have mO:=ae ((mO.o.keeps jM.o).aG bK.o (by omega));have pH:=ae ((pH.o.keeps jM.o).aG bK.o (by omega));have tD:=ae ((tD.o.keeps jM.o).aG bK.o (by omega));have aA:=ae (ag (aA.o.trans jM.o) bK.o Uw.o)
    clear jM bK Ri HRW Kq
    have Rj:Row W9 pw 38 (RP.map (Value.int .u8)):=by
     have :=(el.o.drop 38).take 33
     rw[Nat.zero_add]at this
     have e:(Q.cells.drop 38).take 33=RP.map (Value.int .u8):=Yj.o Yk.o
     rwa[e]at this
    have Rk:=ae Rj
    clear Rj
    refine au 17 [] [0,1,2,3,4,5,6,7,8,9,10,11,12,13,14,15,16] (fun _=>[]) (by kernel_rfl) (by kernel_rfl) (by intro i hi;cases hi) ?_
    iterate 7 refine kp (h:= ?_)
    refine kl (fun wS hS=>(mO.o.keeps hS)) lP (h:= ?_)
    refine kp (h:= ?_)
    refine kl (fun wS hS=>(Rk.o.keeps hS)) lP (h:= ?_)
    refine kp (hx:=by intro wS hS;(refine gx 25 25 (.tmp 106) (.tmp 108) ?_ _ _ ?_ ?_ true Uu.o (by kernel_rfl))<;>rfl) (h:= ?_)
    iterate 2 refine kp (h:= ?_)
    refine kp (hx:=by intro wS hS;(refine bD 29 (.tmp 12) ?_ pq 0 ?_ _ _ (pH.o.keeps hS) Tryz.underlying29 rfl ZQ.o)<;>rfl) (h:= ?_)
    refine kc (hc:=by exact fun wS hS=>Yg.o wS) (h:= ?_)
    refine kp (hx:=by intro wS hS;(refine bD 27 (.tmp 16) ?_ pw 0 ?_ _ _ (el.o.keeps hS) Tryz.underlying27 rfl Yh.o)<;>rfl) (h:= ?_)
    refine kp (hx:=by intro wS hS;(refine gx 27 27 (.tmp 113) (.tmp 114) ?_ _ _ ?_ ?_ true Us.o (by kernel_rfl))<;>rfl) (h:= ?_)
    refine aI ?_
    intro GG V2 hk1 hG
    clear hG
    simp only[aZ,br,ct,kD,kG,kP,Option.bind_some]
    have HR:=ae (HR.o.keeps hk1);have tD:=ae (tD.o.keeps hk1);have aA:=ae (aA.o.trans hk1)
    have Yp:pc<V2.heap.size:=Nat.lt_of_lt_of_le (tD.o.lt (aM lC)) (Nat.le_refl _)
    clear hk1 mO pH el Rk
    obtain⟨VT,AG⟩:=Am.o _ _ HR.o
    have Yq:=ae VT
    clear VT
    rcases NL.o with⟨hx,rfl,rfl⟩|⟨hx,rfl,rfl⟩
    all_goals try exact absurd HX.o hx
    all_goals try exact absurd hx HX.o
    first
    |(have hguard:=hx3.trans (rfl:true=true)
      clear hguard
      clear hx NL
      go_wp2_with (first
       |(refine dO (by kernel_rfl) 24 (.tmp 14) rfl pc 0 rfl _ _ tD.o Tryz.underlying24 rfl bo ?_)
       |((with_reducible refine iE .eql 24 24 (.tmp 124) (.tmp 125) ?_);refine kW (by kernel_rfl) 24 24 (.tmp 124) (.tmp 125) rfl _ _ rfl rfl true Lm.o (by kernel_rfl) ?_))
      go_ret
      exact⟨by first |rfl|exact fU (by simp),aA.o⟩)
    |(clear hx NL
      go_upto_region 20 with(fail)
      have Ux:=ae (fun W (hS:Keeps V2 W)=>run_convert_bytes_arg (P:=Tryz.prog) W 44 5 Tryz.underlying44 Tryz.underlying5 pc 0 32 32 k.z lZ (fun i hi=>(tD.o.keeps hS).int i (by rw[lZ];exact hi)) 9 Tryz.underlying9)
      have Uy:=ae (fun W (hS:Keeps V2 W)=>run_convert_bytes_arg (P:=Tryz.prog) W 44 5 Tryz.underlying44 Tryz.underlying5 p 39 32 32 k.z lZ (fun i hi=>(Yq.o.keeps hS).int i (by rw[lZ];exact hi)) 9 Tryz.underlying9)
      clear AG
      refine au 10 [] [0,1,2,3,4,5,6,7,8,9] (fun _=>[]) (by kernel_rfl) (by kernel_rfl) (by intro i hi;cases hi) ?_
      iterate 4 refine kp (h:= ?_)
      refine kp (hx:=by(intro wS hS;have hcv:=Ux.o wS hS;go_simp)<;>with_reducible rfl) (h:= ?_)
      iterate 2 refine kp (h:= ?_)
      refine kp (hx:=by(intro wS hS;have hcv:=Uy.o wS hS;go_simp)<;>with_reducible rfl) (h:= ?_)
      iterate 2 refine kp (h:= ?_)
      refine aI ?_
      intro GG V3 hk1 hG
      clear hG
      simp only[aZ,br,ct,kD,kG,kP,Option.bind_some]
      have aH:=ae (aA.o.trans hk1);clear hk1
      go_wp2
      go_ret
      exact⟨by first |rfl|exact fU (by simp),aH.o⟩)
theorem E5(k:KD)(hk:k.ok)(n:Int)(h0:0≤n)(h1:n<4294967296)(w:World):
 Calls Tryz.prog 3 #[.agg k.cells.toArray,.int .u32 n] w fun e w' =>e= .returned (.bool true)∧Keeps w w':=by
 have hsl:(oF k).1.length=32∧Bytes (oF k).1:=by
  unfold oF
  split
  · split
    ·exact⟨hk.zl,hk.zb⟩
    ·exact⟨rfl,gb⟩
  ·exact⟨rfl,gb⟩
 have hpb:Bytes (cX k).1:=by
  unfold cX
  split
  ·exact fM hk
  ·exact gi
 refine Cn k (bE k n).1 (eX k).1 n (bE k n).2 (cX k).2 (eX k).2 (oF k).2 (cX k).1 (bf k.x k.z) (oF k).1 (cF k.x k.z) hk (p6 hk h0 h1) (Cf hk) (Ce hk) hpb (dB hk) hsl.1 hsl.2 w
  (fun W=>wi k hk n h0 h1 W) (fun W=>wj k hk n h0 h1 W) (fun W=>rZ k hk W) (fun W=>ly k hk W) (fun W=>IT k hk W) (fun W=>EX k hk W) (fun W=>Ap k hk W) ?_
 by_cases hg:cF k.x k.z=true
 ·refine .inr ⟨hg,?_,?_,?_,?_,?_,?_⟩
  ·unfold cX;rw[if_pos hg]
  ·unfold eX;rw[if_pos hg]
  ·unfold cX;rw[if_pos hg]
  ·unfold cX eX;rw[if_pos hg,if_pos hg];exact EU hk
  ·unfold cX eX;rw[if_pos hg,if_pos hg];exact An k hk
  ·unfold oF
   rw[if_pos hg]
   by_cases hx:k.x=0
   ·exact .inr ⟨hx,by rw[if_pos hx],by rw[if_pos hx]⟩
   ·exact .inl ⟨hx,by rw[if_neg hx],by rw[if_neg hx]⟩
 ·refine .inl ⟨by simpa using hg,?_,?_,?_,?_,?_,?_⟩
  ·unfold cX;rw[if_neg hg]
  ·unfold eX;rw[if_neg hg]
  ·unfold oF;rw[if_neg hg]
  ·unfold cX;rw[if_neg hg]
  ·unfold eX;rw[if_neg hg]
  ·unfold oF;rw[if_neg hg]
end Go.Proofs.YtlofddoojkeakaaGreatDoor
namespace Go.Proofs.YtlofddoojkeakaaGreatDoor
open Go Go.RowKit Go.ChangeShapes Go.WideShapes Go.ChangeAt Go.Deep
theorem KE{α:Type}[Inhabited α]{m:Nat}{p:Nat→α→Prop}(h:∀i,i<m→∃v,p i v):∃V:Nat→α,∀i,i<m→p i (V i):=by
 classical
 exact⟨fun i=>if h':i<m then(h i h').choose else default,fun i hi=>by simp only[hi,dite_true];exact(h i hi).choose_spec⟩
section
variable {H:Type} {enc:TypeId×Value→H} {W:World} {ps:List MemPlace}
structure AN (enc:TypeId×Value→H) (W:World) (ps:List MemPlace) (n:Nat) (t:TypeId) (cs:List Value) (x:DataW H×List MemPlace):Prop where
 rd:DataW.trod enc Tryz.prog W 0 (fun _=>true) true n t cs=some x
 sub:∀p∈x.2,p∈ps
 Rl:∀k∈x.1.weights Tryz.prog t,k≤reachBytes
theorem weightsAll_mem{P:Program}{e:TypeId}{l:List (DataW H)}{d:DataW H}(hd:d∈l){k:Nat}(hk:k∈d.weights P e):k∈DataW.weightsAll P e l:=by
 induction l with
 |nil=>cases hd
 |cons a r ih=>
  simp only[DataW.weightsAll,List.mem_append]
  rcases List.mem_cons.1 hd with rfl|h
  ·exact .inl hk
  ·exact .inr (ih h)
theorem AN.fields {n:Nat}{t:TypeId}{cs:List Value}{x:DataW H×List MemPlace}{fs:Array Field}(h:AN enc W ps n t cs x)(ht:Tryz.prog.underlying t=some (.struct fs)):
 ∃m,cs.length=Tryz.prog.cellsOf t∧∀(j:Nat) (f:Field),fs[j]? =some f→∃y,AN enc W ps m f.type ((cs.drop f.offset).take (Tryz.prog.cellsOf f.type)) y:=by
 obtain⟨xs,m,-,hx,hl,hxl,hf⟩:=DataW.trod_struct ht h.rd
 refine⟨m,hl,fun j f hj=> ?_⟩
 have hjl:j<fs.size:=(Array.getElem?_eq_some_iff.1 hj).1
 have hy:xs[j]? =some (xs[j]'(by omega)):=List.getElem?_eq_getElem (by omega)
 have hs:=h.sub;have hw:=h.Rl
 rw[hx]at hs hw
 refine⟨_,(hf j f hj).trans hy,fun p hp=>hs p (List.mem_flatMap.2 ⟨_,List.getElem_mem _,hp⟩),fun k hk=>hw k ?_⟩
 simp only[DataW.weights,ht]
 exact DataW.weights_mem_each (j:=j) (by rw[List.getElem?_map,Array.getElem?_toList,hj];rfl) (by rw[List.getElem?_map,hy];rfl) k hk
theorem AN.elems {n c:Nat}{t e:TypeId}{cs:List Value}{x:DataW H×List MemPlace}(h:AN enc W ps n t cs x)(ht:Tryz.prog.underlying t=some (.array c e)):
 ∃m,cs.length=Tryz.prog.cellsOf t∧∀(j:Nat),j<c→∃y,AN enc W ps m e ((cs.drop (j*Tryz.prog.cellsOf e)).take (Tryz.prog.cellsOf e)) y:=by
 obtain⟨xs,m,-,hx,hl,hxl,hf⟩:=DataW.trod_array ht h.rd
 refine⟨m,hl,fun j hj=> ?_⟩
 have hy:xs[j]? =some (xs[j]'(by omega)):=List.getElem?_eq_getElem (by omega)
 have hs:=h.sub;have hw:=h.Rl
 rw[hx]at hs hw
 refine⟨_,(hf j hj).trans hy,fun p hp=>hs p (List.mem_flatMap.2 ⟨_,List.getElem_mem _,hp⟩),fun k hk=>hw k ?_⟩
 simp only[DataW.weights,ht]
 exact weightsAll_mem (List.mem_map.2 ⟨_,List.getElem_mem _,rfl⟩) hk
theorem AN.int {n:Nat}{t:TypeId}{k:IntKind}{cs:List Value}{x:DataW H×List MemPlace}(h:AN enc W ps n t cs x)(ht:Tryz.prog.underlying t=some (.int k)):∃z,cs=[.int k z]∧(Lit.int k z).wf=true:=by
 obtain⟨z,h1,_,h2⟩:=DataW.trod_int ht h.rd
 exact⟨z,h1,h2⟩
theorem uP{α:Type}(l:List α)(j:Nat)(x:α)(h:(l.drop j).take 1=[x]):l[j]? =some x:=by
 have :=congrArg (fun m:List α=>m[0]?) h
 simpa using this
theorem AN.ints {n c:Nat}{t e:TypeId}{k:IntKind}{cs:List Value}{x:DataW H×List MemPlace}(h:AN enc W ps n t cs x)(ht:Tryz.prog.underlying t=some (.array c e))(he:Tryz.prog.underlying e=some (.int k))
 (e1:Tryz.prog.cellsOf t=c) (e2:Tryz.prog.cellsOf e=1):∃zs:List Int,cs=zs.map (Value.int k)∧zs.length=c∧∀z∈zs,(Lit.int k z).wf=true:=by
 obtain⟨m,hl,hi⟩:=h.elems ht
 rw[e1]at hl
 obtain⟨Z,hZ⟩:=KE (α:=Int) (p:=fun j z=>cs[j]? =some (.int k z)∧(Lit.int k z).wf=true) (m:=c) (fun j hj=>by
  obtain⟨y,hy⟩:=hi j hj
  rw[e2,Nat.mul_one]at hy
  obtain⟨z,h1,h2⟩:=hy.int he
  exact⟨z,uP _ _ _ h1,h2⟩)
 refine⟨(List.range c).map Z,?_,by simp,fun z hz=> ?_⟩
 ·apply List.ext_getElem?
  intro i
  by_cases hi:i<c
  ·rw[(hZ i hi).1]
   simp[hi]
  ·rw[List.getElem?_eq_none (by omega),List.getElem?_eq_none (by simp;omega)]
 ·obtain⟨i,hi,rfl⟩:=List.mem_map.1 hz
  exact(hZ i (List.mem_range.1 hi)).2
end
end Go.Proofs.YtlofddoojkeakaaGreatDoor
namespace Go.Proofs.YtlofddoojkeakaaGreatDoor
open Go Go.RowKit Go.ChangeShapes Go.WideShapes Go.ChangeAt Go.Deep
theorem I5:Tryz.prog.cellsOf 23=1:=by kernel_rfl
theorem Dr{H:Type}{enc:TypeId×Value→H}{W:World}{ps:List MemPlace}{n:Nat}{cs:List Value}{x:DataW H×List MemPlace}(h:AN enc W ps n 27 cs x):∃k:KD,cs=k.cells∧k.ok:=by
 obtain⟨m,hl,hf⟩:=h.fields Tryz.underlying27
 have f0:Tryz.prog.cellsOf 5=1:=by kernel_rfl
 have f1:Tryz.prog.cellsOf 22=4:=by kernel_rfl
 have f2:Tryz.prog.cellsOf 23=1:=by kernel_rfl
 have f3:Tryz.prog.cellsOf 24=32:=by kernel_rfl
 have f4:Tryz.prog.cellsOf 25=33:=by kernel_rfl
 have f5:Tryz.prog.cellsOf 27=71:=by kernel_rfl
 obtain⟨y0,h0⟩:=hf 0 _ rfl
 obtain⟨y1,h1⟩:=hf 1 _ rfl
 obtain⟨y2,h2⟩:=hf 2 _ rfl
 obtain⟨y3,h3⟩:=hf 3 _ rfl
 obtain⟨y4,h4⟩:=hf 4 _ rfl
 have h0:AN enc W ps m 5 ((cs.drop 0).take (Tryz.prog.cellsOf 5)) y0:=h0
 have h1:AN enc W ps m 22 ((cs.drop 1).take (Tryz.prog.cellsOf 22)) y1:=h1
 have h2:AN enc W ps m 23 ((cs.drop 5).take (Tryz.prog.cellsOf 23)) y2:=h2
 have h3:AN enc W ps m 24 ((cs.drop 6).take (Tryz.prog.cellsOf 24)) y3:=h3
 have h4:AN enc W ps m 25 ((cs.drop 38).take (Tryz.prog.cellsOf 25)) y4:=h4
 rw[f0]at h0;rw[f1]at h1;rw[f2]at h2;rw[f3]at h3;rw[f4]at h4;rw[f5]at hl
 obtain⟨d,e0,w0⟩:=h0.int Tryz.underlying5
 obtain⟨fg,e1,l1,w1⟩:=h1.ints Tryz.underlying22 Tryz.underlying5 f1 f0
 obtain⟨ch,e2,w2⟩:=h2.int Tryz.underlying23
 obtain⟨cc,e3,l3,w3⟩:=h3.ints Tryz.underlying24 Tryz.underlying5 f3 f0
 obtain⟨da,e4,l4,w4⟩:=h4.ints Tryz.underlying25 Tryz.underlying5 f4 f0
 have b:∀(l:List Int),(∀z∈l,(Lit.int .u8 z).wf=true)→Bytes l:=fun l h z hz=>by
  have :=bounds_u8 (h z hz)
  exact⟨by omega,by omega⟩
 have ed:da=da.headD 0::da.drop 1:=pS l4
 have bd:=b da w4
 have hd0:0≤d∧d<256:=by have :=bounds_u8 w0;omega
 have hd2:0≤ch∧ch<4294967296:=by have :=bounds_u32 w2;omega
 refine⟨⟨d,fg,ch,cc,da.headD 0,da.drop 1⟩,?_,hd0,l1,b fg w1,hd2,l3,b cc w3,?_,by rw[List.length_drop,l4],fun z hz=>bd z (List.mem_of_mem_drop hz)⟩
 ·rw[dt]
  show cs=[Value.int .u8 d]++(fg.map (Value.int .u8)++([Value.int .u32 ch]++(cc.map (Value.int .u8)++(da.headD 0::da.drop 1).map (Value.int .u8))))
  rw[←ed,←e0,←e1,←e2,←e3,←e4]
  have s:∀(i j:Nat),(cs.drop i).take j++cs.drop (i+j)=cs.drop i:=fun i j=>by
   rw[←List.drop_drop];exact List.take_append_drop j _
  have s4:(cs.drop 38).take 33=cs.drop 38:=List.take_of_length_le (by rw[List.length_drop];omega)
  rw[s4,s 6 32,s 5 1,s 1 4,s 0 1]
  rfl
 ·refine bd _ ?_
  show da.headD 0∈da
  cases da with
  |nil=>cases l4
  |cons a l=>exact List.mem_cons_self
theorem I6{H:Type}{enc:TypeId×Value→H}{W:World}{base:Nat}{v:Value}{d:DataW H}{p ps:List MemPlace}(hv:Value.okWide Tryz.prog W .any base 46 v)(h:DataW.Trod enc Tryz.prog W 0 (fun _=>true) true 46 v d p)
 (hfz:W.noneFrozen ps) (hp:∀x∈p,x∈ps):∃a len cap,∃zs:List Int,v= .slice a len cap∧Rd W 1 v len (zs.map (Value.int .u32))∧∀x∈zs,0≤x∧x<4294967296:=by
 obtain⟨a0,len,cap,rfl⟩:=okWide_slice Tryz.underlying46 hv
 obtain⟨fuel,hf⟩:=h
 rcases open_ints Tryz.underlying46 Tryz.underlying23 I5 hf with⟨hcs,hx⟩|⟨a,len',cap',zs,hcs,_,hl,hm,hz,hx,hcell,hwz⟩
 ·simp[Value.cells]at hcs
  obtain⟨rfl,rfl,rfl⟩:=hcs
  exact⟨none,0,0,[],rfl,MI W .u32,fun x hx=>by simp at hx⟩
 ·simp[Value.cells]at hcs
  obtain⟨rfl,rfl,rfl⟩:=hcs
  simp only[Prod.mk.injEq]at hx
  obtain⟨_,rfl⟩:=hx
  simp only[if_true]at hz
  refine⟨some a,len,cap,zs.take len,rfl,MH hl hm hz hcell hfz hp,fun x hx=> ?_⟩
  have :=bounds_u32 (hwz x (List.mem_of_mem_take hx))
  omega
end Go.Proofs.YtlofddoojkeakaaGreatDoor
namespace Go.Proofs.YtlofddoojkeakaaGreatDoor
open Go Go.RowKit
structure qM (z:Nat) (w W:World) (v:Value) (n:Nat) (xs:List Value):Prop where
 keeps:Keeps w W
 buf:Buf W z v n xs
 new:∀g,v.ownBlock=some g→w.heap.size≤g
theorem qM.made {z:Nat}{w W:World}(hk:Keeps w W)(T:TypeId):qM z w (W.alloc (.cells #[] T)) (.slice (some ⟨W.heap.size,0,none⟩) 0 0) 0 []:=
 ⟨hk.alloc hk.size _,Buf.made T,fun g h=>by simp[Value.ownBlock]at h;have :=hk.size;omega⟩
theorem qM.rd {z:Nat}{w W:World}{v:Value}{n:Nat}{xs:List Value}(h:qM z w W v n xs):Rd W z v n xs:=h.buf.rd
theorem qM.any {z:Nat}{w W:World}{v:Value}{n:Nat}{xs:List Value}(h:qM z w W v n xs):∃a cap,v= .slice a n cap:=by
 obtain⟨a,cap,h1,_⟩:=h.buf.any
 exact⟨a,cap,h1⟩
theorem qM.after {z:Nat}{w W w1 w2:World}{v v':Value}{n m:Nat}{xs ys:List Value}(h:qM z w W v n xs)(hk:Keeps W w1)(hb:Buf w2 z v' (n+m) (xs++ys))
 (hc:bU (fun k=>v.ownBlock=some k) w1 w2) (hs:gG w1 v v'):qM z w w2 v' (n+m) (xs++ys):=by
 have hk1:=h.keeps.trans hk
 refine⟨Below.trans hk1 (hc.below hk1.size (fun k hk2 e=>by have :=h.new k e;omega)),hb,?_⟩
 intro g hg
 rcases hs with e|⟨g',e1,e2⟩
 ·exact h.new g (by rw[←e];exact hg)
 ·rw[hg]at e1;cases e1;exact Nat.le_trans hk1.size e2
def qN(P:Program)(e:TypeId)(z b:Nat):Prop:=(P.info? e).map (fun i=>(i.zero.map (·.cells.size),i.size,i.bytes))=some (some z,z,b)
theorem qN.parts {P:Program}{e:TypeId}{z b:Nat}(h:qN P e z b):∃i zv,P.info? e=some i∧i.zero=some zv∧i.size=z∧i.bytes=b∧zv.cells.size=z:=by
 unfold qN at h
 cases hi:P.info? e with
 |none=>rw[hi]at h;cases h
 |some i=>
  rw[hi]at h
  simp only[Option.map_some,Option.some.injEq,Prod.mk.injEq]at h
  obtain⟨h1,h2,h3⟩:=h
  cases hz:i.zero with
  |none=>rw[hz]at h1;cases h1
  |some zv=>
   rw[hz]at h1
   exact⟨i,zv,rfl,hz,h2,h3,by simpa using h1⟩
theorem Ay{P:Program}{w W W1:World}{ops:Array Oper}{rest:List Oper}{o:Oper}{a:Act}{Q:Exit→Act→World→Prop}(hgd:o.guard=none)(s x:Operand)(t:TypeId)
 (ho:o.op= .call {callee:= .builtin .append,args:= #[s,x],argTypes:= #[t,t]}) (e:TypeId) (z b:Nat) (ht:P.underlying t=some (.slice e)) (hE:qN P e z b) (hz:0<z)
 {v:Value} {n:Nat} {xs:List Value} (hO:qM z w W v n xs) (hk:Keeps W W1) (hv:a.eval s=v)
 (xv:Value) (hx:a.eval x=xv) (m:Nat) (news:List Value) (hs:Src P z t xv m news W1) (hn:n+m≤1000000000) (hb:b≤100000)
 (h:∀v' w',qM z w w' v' (n+m) (xs++news)→Grown W1 w' v v'→wpList P ops Q rest (a.put o.dst v') w'):wpList P ops Q (o::rest) a W1:=by
 obtain⟨i,zv,hi,hz0,hz1,hz2,hz3⟩:=hE.parts
 have hmul:(n+m)*b≤1000000000*100000:=Nat.mul_le_mul hn hb
 exact en hgd s x t t ho e i zv z b ht hi hz0 hz1 hz2 hz3 hz v n xs hv (hO.buf.keeps hk) xv hx m news hs (by unfold maxLen;omega) (by omega)
  (fun v' w' hb' hc hs' _=>h v' w' (hO.after hk hb' hc hs') ⟨hc,hs'⟩)
end Go.Proofs.YtlofddoojkeakaaGreatDoor
namespace Go.Proofs.YtlofddoojkeakaaGreatDoor
open Go Go.RowKit Cv
theorem KF:qN Tryz.prog 23 1 4:=by unfold qN;kernel_rfl
theorem KG{k:IntKind}{W:World}{a:Option Addr}{n cap:Nat}{l:List Int}(h:Rd W 1 (.slice a n cap) n (l.map (Value.int k)))(m:Nat)(hm:m≤n):Rd W 1 (.slice a m cap) m ((l.take m).map (Value.int k)):=by
 have hl:l.length=n:=by have :=h.1;simpa using this
 obtain⟨_,a',cap',e,h2,h3,h4,h5⟩:=h
 cases e
 refine⟨by simp;omega,a,cap,rfl,by omega,h3,fun e=>by have :=h4 e;omega,fun ad e hn=> ?_⟩
 obtain⟨g,off,e2,hg,hr⟩:=h5 ad e (by omega)
 exact⟨g,off,e2,hg,by rw[List.map_take];exact hr.take m⟩
theorem Co(k A:KD)(eA:Int)(hk:k.ok)(hA:A.ok)(a:Option Addr)(n0 n c:Nat)(l:List Int)(w:World)(hr:Rd w 1 (.slice a n c) n (l.map (Value.int .u32)))
 (hn:(4<n0∧n=4)∨(¬4<n0∧n0=n)) (hcap:n0≤c) (hcx:c≤9223372036854775807)
 (h1:∀v W,Rd W 1 v n (l.map (Value.int .u32))→Calls Tryz.prog 16 #[.agg k.cells.toArray,v] W fun e w' =>e= .returned (.tuple #[.agg A.cells.toArray,.int .i64 eA])∧Keeps W w')
 (h2:∀v W,Rd W 1 v n (l.map (Value.int .u32))→Calls Tryz.prog 17 #[.agg k.cells.toArray,v] W fun e w' =>e= .returned (.tuple #[.agg A.cells.toArray,.int .i64 eA])∧Keeps W w'):
 Calls Tryz.prog 4 #[.agg k.cells.toArray,.slice a n0 c] w fun e w' =>e= .returned (.bool true)∧Keeps w w':=by
 have hnx:n≤4:=by omega
 have iX:=ae (fun W (hk:Keeps w W)=>hr.keeps hk)
 have Up:=ae vY
 have HOW:=ae (fun W=>Dm k hk W)
 have Uq:=ae (fun W=>Ch A hA W)
 have H1:=ae h1;have H2:=ae h2
 have vV:=ae (show l.length=n by have :=hr.1;simpa using this)
 have AB:=ae (nD hr)
 have ZR:=ae hk.AL
 have ZA:=ae hA.sz;have VU:=ae hA.AL;have LA:=ae (show A.cells.length=K0.cells.length from hA.len);have OA:=ae A.one
 have Ur:=ae (fun W=>oE W A hA)
 clear hr h1 h2 hk hA
 generalize k.cells=KC at *
 generalize A.cells=AC at *
 rcases hn with⟨hb,he⟩|⟨hb,he2⟩
 all_goals
  first |(have he3:=he2.symm;subst he3)|(have Ul:=ae he;clear he)
  go_enter Tryz.func4,Tryz.ntmps4
  go_upto_region 1 with(fail)
  refine bh (fun W hk hr hs=> ?_)
  have HR0:=ae (show Row W w.heap.size 0 KC from by simpa using hr);have Jk:=ae hk
  obtain⟨p,hp⟩:∃p,p=w.heap.size:=⟨_,rfl⟩
  rw[←hp]at HR0⊢
  clear hk hr hs hp
  go_upto_region 5 with(go_at_call 5;refine(Up.o _).mono ?_;rintro e W1 ⟨rfl,hk1⟩;have bw:=ae hk1;clear hk1)
  try rw[←Ul.o]
  clear hb
  have HR1:=ae (HR0.o.keeps bw.o)
  have jE:=ae (Jk.o.trans bw.o)
  clear HR0 Jk bw
  have hS1:W1.heap.size=W1.heap.size:=rfl
  go_upto_region 6 with(refine Ay rfl (.tmp 18) (.tmp 19) 46 rfl 23 1 4 Tryz.underlying46 KF (by decide) (qM.made (Keeps.refl W1) _) (Keeps.refl _) rfl _ rfl n (l.map (Value.int .u32)) ((iX.o _ (jE.o.alloc jE.o.size _)).src Tryz.underlying46 (ai _)) (by omega) (by decide) ?_;intro v2 W2 hO2 hG2;clear hG2;obtain⟨a2,c2,rfl⟩:=hO2.any;have Er:=ae hO2;clear hO2)
  have hO3:qM 1 W1 W2 (.slice a2 n c2) n (l.map (Value.int .u32)):=by
   have :=Er.o
   rwa[List.nil_append,Nat.zero_add]at this
  have nA:=ae hO3.rd
  have Yr:=ae (nD hO3.rd)
  have aq:=ae hO3.keeps
  clear hO3 Er hS1
  have HKB:=ae (jE.o.trans aq.o);have HR2:=ae (HR1.o.keeps aq.o)
  clear jE aq HR1
  go_upto_region 7 with(first
   |(refine aj rfl 27 (.tmp 2) rfl p 0 rfl _ _ HR2.o Tryz.underlying27 rfl ZR.o ?_)
   |(go_at_call 6;refine(HOW.o _).mono ?_;rintro e W3 ⟨rfl,hk2⟩;have bS:=ae hk2;clear hk2)
   |(go_at_call 16;refine(H1.o _ _ (nA.o.keeps bS.o)).mono ?_;rintro e W4 ⟨rfl,hk2⟩;have gR:=ae hk2;clear hk2)
   |(refine wpList_store_row rfl 29 (.tmp 6) (.tmp 26) rfl W4.heap.size 0 rfl K0.cells AC rfl (Row.new _ _ _ rfl) LA.o ZA.o OA.o ?_;intro W5 hr3 hc3;have bj:=ae hr3;have cG:=ae (ag (ah (Keeps.refl W4) _) hc3 (Nat.le_refl _));clear hr3 hc3))
  generalize W4.heap.size=pa at *
  have KH:=ae ((bS.o.trans gR.o).trans cG.o)
  have B4:=ae (HKB.o.trans KH.o);have ej:=ae (HR2.o.keeps KH.o)
  clear bS gR cG HKB HR2
  go_upto_region 8 with(first
   |(refine aj rfl 27 (.tmp 2) rfl p 0 rfl _ _ ej.o Tryz.underlying27 rfl ZR.o ?_)
   |(go_at_call 17;refine(H2.o _ _ (iX.o _ B4.o)).mono ?_;rintro e W6 ⟨rfl,hk2⟩;have iY:=ae hk2;clear hk2)
   |(refine wpList_store_row rfl 27 (.tmp 8) (.tmp 32) rfl W6.heap.size 0 rfl K0.cells AC rfl (Row.new _ _ _ rfl) LA.o VU.o OA.o ?_;intro W7 hr3 hc3;have bH:=ae hr3;have i8:=ae (ag (ah (Keeps.refl W6) _) hc3 (Nat.le_refl _));clear hr3 hc3))
  generalize W6.heap.size=pb at *
  have KI:=ae (iY.o.trans i8.o)
  have zT:=ae (bj.o.keeps KI.o)
  have VV:=ae (B4.o.trans KI.o);have Rm:=ae (KH.o.trans KI.o)
  clear iY i8 KI B4 bj ej KH
  refine cL (S:=fun W=>Hid ((fun W' =>Keeps W7 W') W)) 8 (by kernel_rfl) (by kernel_rfl) ?_ (fun hHeld=> ?_)
  focus exact ae (bz (Keeps.refl _))
  refine lt 0 (hx:=by intro wD hSw;(have hSw:=hSw.out);(refine bD 29 (.tmp 6) ?_ pa 0 ?_ _ _ (zT.o.keeps hSw) Tryz.underlying29 rfl ZA.o)<;>rfl) (h:= ?_)
  refine lt 2 (hx:=by intro wD hSw;(have hSw:=hSw.out);(refine bD 27 (.tmp 8) ?_ pb 0 ?_ _ _ (bH.o.keeps hSw) Tryz.underlying27 rfl VU.o)<;>rfl) (h:= ?_)
  refine ay (i:=1) (o:= ?_) (by kernel_rfl) (by kernel_rfl) ?_ ?_
  rotate_left 1
  focus(simp only[kG];exact rfl)
  go_wp2_with (go_at_call 9;refine(Uq.o _).mono ?_;rintro r W8 ⟨rfl,Fa⟩;have jM:=ae (hHeld.out.trans Fa);clear Fa)
  try dsimp only[aN]
  refine⟨?_,fun hHeld=> ?_⟩
  focus(exact ae (jM.o))
  try simp only[kP]
  refine lt 3 (hx:=by intro wD hSw;(have hSw:=hSw.out);(refine gx 27 27 (.tmp 35) (.tmp 36) ?_ _ _ ?_ ?_ true Ur.o (by kernel_rfl))<;>rfl) (h:= ?_)
  refine lt 4 (h:= ?_)
  refine lt 5 (h:= ?_)
  refine lt 6 (h:= ?_)
  refine lt 7 (h:= ?_)
  refine aU (by kernel_rfl) ?_
  try simp only[List.drop_succ_cons,List.drop_zero]
  go_wp2
  have Rn:=ae (VV.o.trans hHeld.out);have RG:=ae (Rm.o.trans hHeld.out)
  refine cf (fun W=>Keeps w W∧Keeps W2 W) ⟨Rn.o,RG.o⟩ ?_
  clear hHeld VV Rn RG zT bH Rm jM
  rintro W9 ⟨hk8,hk9⟩
  have Rn:=ae hk8;have RG:=ae hk9
  clear hk8 hk9
  go_loopw [45] (fun ci wr=>∃i:Nat,i≤n∧ci= .int .i64 i∧Hid (Keeps W9 wr)) (fun ci _=>(n -intOf ci).toNat)
  case atStart=>exact⟨0,by omega,rfl,ae (Keeps.refl _)⟩
  case round=>
   obtain⟨i,hi,rfl,nc⟩:=hrel
   by_cases hlt:i<n
   ·obtain⟨g,off,rfl,hc⟩:=AB.o i hlt
    obtain⟨g2,off2,rfl,hc2⟩:=Yr.o i hlt
    have HZ1:=ae (fun W (hk:Keeps wr W)=>hc W ((Rn.o.trans nc.o).trans hk))
    have HZ2:=ae (fun W (hk:Keeps wr W)=>hc2 W ((RG.o.trans nc.o).trans hk))
    clear hc hc2
    generalize l.getD i 0=x at *
    go_upto_region 13 with(fail)
    refine au 8 [] [0,1,2,3,4,5,6,7] (fun _=>[]) (by kernel_rfl) (by kernel_rfl) (by intro i hi;cases hi) ?_
    iterate 3 refine kp (h:= ?_)
    refine kp (hx:=by(intro wS hS;have cz:=HZ2.o wS hS;go_simp)<;>with_reducible rfl) (h:= ?_)
    iterate 3 refine kp (h:= ?_)
    refine kp (hx:=by(intro wS hS;have cz:=HZ1.o wS hS;go_simp)<;>with_reducible rfl) (h:= ?_)
    refine aI ?_
    intro GG V1 hk1 hG
    clear hG
    simp only[aZ,br,ct,kD,kG,kP,Option.bind_some]
    have aH:=ae (nc.o.trans hk1);clear hk1
    go_wp2
    go_roundw
    case rel=>exact⟨i+1,by omega,by go_num,aH⟩
    case measure=>simp[intOf];omega
   ·obtain rfl:i=n:=by omega
    go_wp2
    go_ret
    exact⟨rfl,Rn.o.trans nc.o⟩
theorem E6(k:KD)(hk:k.ok)(a:Option Addr)(n0 c:Nat)(l0:List Int)(w:World)(hr:Rd w 1 (.slice a n0 c) n0 (l0.map (Value.int .u32)))(hl:Nums l0):
 Calls Tryz.prog 4 #[.agg k.cells.toArray,.slice a n0 c] w fun e w' =>e= .returned (.bool true)∧Keeps w w':=by
 have hcc:n0≤c∧c≤9223372036854775807:=by
  obtain⟨_,a',c',e,h2,h3,_⟩:=hr
  cases e
  unfold maxLen at h3
  exact⟨h2,by omega⟩
 have hsp:∃(l:List Int) (n:Nat),Rd w 1 (.slice a n c) n (l.map (Value.int .u32))∧Nums l∧((4<n0∧n=4)∨(¬4<n0∧n0=n)):=by
  by_cases h3:4<n0
  ·exact⟨l0.take 4,4,KG hr 4 (by omega),fun x hx=>hl x (List.mem_of_mem_take hx),.inl ⟨h3,rfl⟩⟩
  ·exact⟨l0,n0,hr,hl,.inr ⟨h3,rfl⟩⟩
 obtain⟨l,n,hrd,hln,hcs⟩:=hsp
 refine Co k (iZ k l).1 (iZ k l).2 hk (I4 hk hln) a n0 n c l w hrd hcs hcc.1 hcc.2 (fun v W hv=> ?_) (fun v W hv=> ?_)
 ·obtain⟨a',c',rfl⟩:∃a c,v= .slice a n c:=by obtain⟨_,a,c,e,_⟩:=hv;exact⟨a,c,e⟩
  exact E3 k hk a' n c' l W hv hln
 ·obtain⟨a',c',rfl⟩:∃a c,v= .slice a n c:=by obtain⟨_,a,c,e,_⟩:=hv;exact⟨a,c,e⟩
  exact E4 k hk a' n c' l W hv hln
end Go.Proofs.YtlofddoojkeakaaGreatDoor
