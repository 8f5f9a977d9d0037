/- curve's group: a point so often. -/
import Derived.Test.YtlofddoojkeakaaGreatDoorGB9
import Derived.Test.YtlofddoojkeakaaGreatDoorGB8
set_option maxRecDepth 100000
set_option maxHeartbeats 8000000
set_option linter.unusedVariables false
set_option linter.unusedSimpArgs false
namespace Go.Proofs.YtlofddoojkeakaaGreatDoor
open Go Go.RowKit Cv
def G4(w wr:World)(p:Nat)(X E L:List Int)(Z:List Value):Prop:=Keeps w wr∧Row wr p 0 (X.map (Value.int .u64))∧Row wr (p+1) 0 (E.map (Value.int .u64))∧Row wr (p+1+1) 0 Z∧Row wr (p+1+1+1) 0 (L.map (Value.int .u64))
theorem Bq(gv:Value)(PA E:List Int)(T D F:Nat→List Int)(Po:PA.length=12)(hE:E.length=4)(KO:∀i,i<4→0≤E.getD i 0∧E.getD i 0<18446744073709551616)(h0:T 0=List.replicate 12 0)(hTL:∀j,(T j).length=12)(Pp:∀j,(D j).length=12)
 (hS:∀i,i<256→(E.getD (i/64) 0/2^(i%64)%2=1∧T (256 -i)=F (256 -(i+1)))∨(E.getD (i/64) 0/2^(i%64)%2=0∧T (256 -i)=D (256 -(i+1)))) (w:World)
 (hD:∀j W,Keeps w W→Calls Tryz.prog 94 #[gv,.agg ((T j).map (Value.int .u64)).toArray] W fun e w' =>e= .returned (.agg ((D j).map (Value.int .u64)).toArray)∧Keeps W w')
 (hF:∀j W,Keeps w W→Calls Tryz.prog 53 #[gv,.agg ((D j).map (Value.int .u64)).toArray,.agg (PA.map (Value.int .u64)).toArray] W fun e w' =>e= .returned (.agg ((F j).map (Value.int .u64)).toArray)∧Keeps W w'):
 Calls Tryz.prog 54 #[gv,.agg (E.map (Value.int .u64)).toArray,.agg (PA.map (Value.int .u64)).toArray] w fun e' w' =>e' = .returned (.agg ((T 256).map (Value.int .u64)).toArray)∧Keeps w w':=by
 have HM:=ae hD;have jV:=ae hF;have HS:=ae hS;have R7:=ae KO;have HE:=ae hE;have Tc:=ae Po
 have HT0:=ae h0;have AE:=ae hTL;have yu:=ae Pp
 clear hD hF hS KO hE Po h0 hTL Pp
 go_enter Tryz.func54,Tryz.ntmps54
 go_upto_region 2 with(fail)
 refine iB (fun W hk hra hrb hr2 hr3 hs=> ?_)
 obtain⟨p,hp⟩:∃p,p=w.heap.size:=⟨_,rfl⟩
 rw[←hp]at hra hrb hr2 hr3 hs⊢
 have hkp:w.heap.size≤p:=by omega
 obtain⟨Z,hZ,hrz⟩:∃Z:List Value,Z.length=12∧Row W (p+1+1) 0 Z:=⟨_,rfl,hr2⟩
 have I9:=ae (show G4 w W p E PA (T 0) Z from⟨hk,hra,hrb,hrz,by rw[HT0.o];exact hr3⟩)
 clear hp hra hrb hr2 hr3 hrz hk hs
 go_wp2
 go_loopw [8] (fun c wr=>∃(k:Nat) (z:Int),k≤256∧c= .int .i64 z∧Hid (z=(k:Int) -1)∧Hid (G4 w wr p E PA (T (256 -k)) Z)) (fun c _=>(intOf c+1).toNat)
 case atStart=>exact⟨256,255,by omega,rfl,ae (by omega),I9⟩
 case round=>
  obtain⟨k,z,hk8,rfl,HZ,bV⟩:=hrel
  obtain⟨hk9,ez,lF,ij,F5⟩:=bV.o
  have H1:=ae hk9;have H2:=ae ez;have H3:=ae lF;have H4:=ae ij;have H5:=ae F5
  clear bV hk9 ez lF ij F5
  have hkc:k=0∨∃i,k=i+1:=by
   cases k with
   |zero=>exact .inl rfl
   |succ i=>exact .inr ⟨i,rfl⟩
  rcases hkc with rfl|⟨i,rfl⟩
  ·obtain rfl:z= -1:=by have :=HZ.o;omega
   rw[Nat.sub_zero]at H5
   have iz:=AE.o 256
   go_wp2_with (first |(refine aj rfl 107 (.tmp 7) rfl _ 0 rfl ((T 256).map (Value.int .u64)) _ H5.o Tryz.underlying107 rfl (by rw[aF,iz];exact cI) ?_)|(refine wpList_store_row rfl 107 (.tmp 6) (.tmp 29) rfl (p+1+1) 0 rfl Z ((T 256).map (Value.int .u64)) rfl H4.o (by rw[aF,iz,hZ]) (by rw[aF,iz];exact cI) (ai _) ?_;intro w9 aR aJ;have H9:=ae aR;have bK:=ae aJ;clear aR aJ))
   exact bodyPost_ret (v:= .agg ((T 256).map (Value.int .u64)).toArray) (ar (p:=6) (ty:=107) rfl _ _ (p+1+1) 0 _ _ rfl H9.o Tryz.underlying107 rfl (by rw[aF,iz];exact cI)) rfl ⟨rfl,ag H1.o bK.o (by omega)⟩
  ·obtain rfl:z=(i:Int):=by have :=HZ.o;omega
   have hi:i<256:=by omega
   have c1:=H2.o.aT (i/64) (by rw[HE.o];omega)
   have he:=R7.o (i/64) (by omega)
   have hst:=HS.o i hi
   have ht1:=AE.o (256 -(i+1))
   have ht2:=AE.o (256 -i)
   have hsl:=yu.o (256 -(i+1))
   have wN:=ae (HM.o (256 -(i+1)))
   have xQ:=ae (jV.o (256 -(i+1)))
   generalize O7:E.getD (i/64) 0=ew at *
   have O8:=ae O7
   clear O7
   generalize T (256 -(i+1))=TA at *
   generalize D (256 -(i+1))=SQ at *
   generalize F (256 -(i+1))=FF at *
   generalize hTB:T (256 -i)=TB at *
   have F6:=ae hTB
   clear hTB
   have UC:i%64<64:=Nat.mod_lt _ (by decide)
   rcases hst with⟨hb,rfl⟩|⟨hb,rfl⟩
   · have hand:bits .and .u64 (ew/2^(i%64)) 1=1:=by
      rw[eU (Int.ediv_nonneg he.1 (Int.le_of_lt (Int.pow_pos (by decide)))) (Int.lt_of_le_of_lt (Int.ediv_le_self _ he.1) he.2)];exact hb
     clear hb
     go_upto_region 6 with(first |(refine aj rfl 107 (.tmp 7) rfl _ 0 rfl (TA.map (Value.int .u64)) _ H5.o Tryz.underlying107 rfl (by rw[aF,ht1];exact cI) ?_)|(go_at_call 94;refine(wN.o _ H1.o).mono ?_;rintro e W2 ⟨rfl,hk2⟩;have aq:=ae (H1.o.trans hk2);have JA:=ae (H2.o.keeps hk2);have JB:=ae (H3.o.keeps hk2);have LM:=ae (H4.o.keeps hk2);have LN:=ae (H5.o.keeps hk2);clear hk2)|(refine wpList_store_row rfl 107 (.tmp 7) (.tmp 15) rfl (p+1+1+1) 0 rfl (TA.map (Value.int .u64)) (SQ.map (Value.int .u64)) rfl LN.o (by rw[aF,aF,ht1,hsl]) (by rw[aF,hsl];exact cI) (ai _) ?_;intro W3 aR aJ;have c1:=(JA.o.aG aJ (by omega)).aT (i/64) (by rw[HE.o];omega);rw[O8.o]at c1;have K2:=ae (JA.o.aG aJ (by omega));have K3:=ae (JB.o.aG aJ (by omega));have K4:=ae (LM.o.aG aJ (by omega));have K5:=ae aR;have K1:=ae (ag aq.o aJ (by omega));clear aR aJ))
     go_upto_region 7 with(fail)
     go_wp2_with (first |(refine aj rfl 107 (.tmp 7) rfl _ 0 rfl (SQ.map (Value.int .u64)) _ K5.o Tryz.underlying107 rfl (by rw[aF,hsl];exact cI) ?_)|(refine aj rfl 107 (.tmp 5) rfl _ 0 rfl (PA.map (Value.int .u64)) _ K3.o Tryz.underlying107 rfl (by rw[aF,Tc.o];exact cI) ?_)|(go_at_call 53;refine(xQ.o _ K1.o).mono ?_;rintro e W4 ⟨rfl,hk2⟩;have M1:=ae (K1.o.trans hk2);have M2:=ae (K2.o.keeps hk2);have M3:=ae (K3.o.keeps hk2);have M4:=ae (K4.o.keeps hk2);have M5:=ae (K5.o.keeps hk2);clear hk2)|(refine wpList_store_row rfl 107 (.tmp 7) (.tmp 28) rfl (p+1+1+1) 0 rfl (SQ.map (Value.int .u64)) (TB.map (Value.int .u64)) rfl M5.o (by rw[aF,aF,ht2,hsl]) (by rw[aF,ht2];exact cI) (ai _) ?_;intro W5 aR aJ;have N2:=ae (M2.o.aG aJ (by omega));have N3:=ae (M3.o.aG aJ (by omega));have N4:=ae (M4.o.aG aJ (by omega));have N5:=ae aR;have N1:=ae (ag M1.o aJ (by omega));clear aR aJ))
     go_roundw
     case rel=>exact⟨i,(i:Int) -1,by omega,by first |rfl|go_num,ae rfl,ae ⟨N1.o,N2.o,N3.o,N4.o,by rw[F6.o];exact N5.o⟩⟩
     case measure=>simp[intOf]<;>omega
   · have hand:bits .and .u64 (ew/2^(i%64)) 1=0:=by
      rw[eU (Int.ediv_nonneg he.1 (Int.le_of_lt (Int.pow_pos (by decide)))) (Int.lt_of_le_of_lt (Int.ediv_le_self _ he.1) he.2)];exact hb
     clear hb
     go_wp2_with (first |(refine aj rfl 107 (.tmp 7) rfl _ 0 rfl (TA.map (Value.int .u64)) _ H5.o Tryz.underlying107 rfl (by rw[aF,ht1];exact cI) ?_)|(go_at_call 94;refine(wN.o _ H1.o).mono ?_;rintro e W2 ⟨rfl,hk2⟩;have aq:=ae (H1.o.trans hk2);have JA:=ae (H2.o.keeps hk2);have JB:=ae (H3.o.keeps hk2);have LM:=ae (H4.o.keeps hk2);have LN:=ae (H5.o.keeps hk2);clear hk2)|(refine wpList_store_row rfl 107 (.tmp 7) (.tmp 15) rfl (p+1+1+1) 0 rfl (TA.map (Value.int .u64)) (TB.map (Value.int .u64)) rfl LN.o (by rw[aF,aF,ht1,hsl]) (by rw[aF,hsl];exact cI) (ai _) ?_;intro W3 aR aJ;have c1:=(JA.o.aG aJ (by omega)).aT (i/64) (by rw[HE.o];omega);rw[O8.o]at c1;have K2:=ae (JA.o.aG aJ (by omega));have K3:=ae (JB.o.aG aJ (by omega));have K4:=ae (LM.o.aG aJ (by omega));have K5:=ae aR;have K1:=ae (ag aq.o aJ (by omega));clear aR aJ))
     go_roundw
     case rel=>exact⟨i,(i:Int) -1,by omega,by first |rfl|go_num,ae rfl,ae ⟨K1.o,K2.o,K3.o,K4.o,by rw[F6.o];exact K5.o⟩⟩
     case measure=>simp[intOf]<;>omega
theorem times_any(g:Nat)(k:Nat)(a:J)(hk:k<2^256)(h:a.ok)(w:World)(hr:Row w g 0 cW):
 Calls Tryz.prog 54 #[.pointer (some ⟨g,0,none⟩),.agg ((nw k).map (Value.int .u64)).toArray,.agg ((iU a).map (Value.int .u64)).toArray] w fun e w' =>e= .returned (.agg ((iU (cC k a 256)).map (Value.int .u64)).toArray)∧Keeps w w':=by
 refine Bq _ (iU a) (nw k) (fun j=>iU (cC k a j)) (fun j=>iU (lG (cC k a j))) (fun j=>iU (gO (lG (cC k a j)) a)) rfl rfl (cY _) (show iU ⟨0,0,0⟩=_ by decide) (fun j=>rfl) (fun j=>rfl) (fun i hi=> ?_) w
  (fun j W hk=>CV g _ (dX k h j) W (hr.keeps hk)) (fun j W hk=>zg g _ _ (pj (dX k h j)) h W (hr.keeps hk))
 have e1:256 -i=256 -(i+1)+1:=by omega
 have e2:255 -(256 -(i+1))=i:=by omega
 have hst:cC k a (256 -i)=if k/2^i%2=1 then gO (lG (cC k a (256 -(i+1)))) a else lG (cC k a (256 -(i+1))):=by
  conv=>lhs;rw[e1,cC,e2]
 unfold nw
 rw[vl k i hi]
 rcases Nat.mod_two_eq_zero_or_one (k/2^i)with h|h
 ·refine .inr ⟨by rw[h];rfl,?_⟩
  rw[hst,h,if_neg (by decide)]
 ·refine .inl ⟨by rw[h];rfl,?_⟩
  rw[hst,h,if_pos rfl]
theorem ru{P:Program}{fn:Func}{p q:Tmp}{ty Oi:TypeId}(h:fn.results= #[.cell p ty,.cell q Oi])(tmps:Array Value)(w:World)(g off g2 off2:Nat)(cs cs2:List Value)(d d2:TypeDesc)
 (hp:tmps.getD p undef= .pointer (some ⟨g,off,none⟩)) (hg:Row w g off cs) (hu:P.underlying ty=some d) (hd:(match d with | .struct _| .array _ _=>true|_=>false)=true) (hi:(P.info? ty).map (·.size)=some cs.length)
 (hq:tmps.getD q undef= .pointer (some ⟨g2,off2,none⟩)) (hg2:Row w g2 off2 cs2) (hu2:P.underlying Oi=some d2) (hd2:(match d2 with | .struct _| .array _ _=>true|_=>false)=true) (hi2:(P.info? Oi).map (·.size)=some cs2.length):
 (results fn tmps).run P w= .ok (.tuple #[.agg cs.toArray,.agg cs2.toArray]) w:=by
 have hp':tmps[p]?.getD undef= .pointer (some ⟨g,off,none⟩):=by simpa using hp
 have hq':tmps[q]?.getD undef= .pointer (some ⟨g2,off2,none⟩):=by simpa using hq
 simp[results,h,hp',hq',asAddr,dq w g off ty cs d hg hu hd hi,dq w g2 off2 Oi cs2 d2 hg2 hu2 hd2 hi2]
theorem D7(gg:Nat)(X Y Z C1 C2 C3 C4 C5 PT:List Int)(ql:PT=X++Y++Z)(lX:X.length=4)(lY:Y.length=4)(lZ:Z.length=4)(fX:C1.length=4)(lH:C2.length=4)(oI:C3.length=4)(sY:C4.length=4)(Bg:C5.length=4)(w:World)
 (h1:∀W,Keeps w W→Calls Tryz.prog 126 #[.pointer (some ⟨gg,0,none⟩),.agg (Z.map (Value.int .u64)).toArray] W fun e w' =>e= .returned (.agg (C1.map (Value.int .u64)).toArray)∧Keeps W w') (h2:∀W,Keeps w W→Calls Tryz.prog 92 #[.pointer (some ⟨gg,0,none⟩),.agg (C1.map (Value.int .u64)).toArray,.agg (C1.map (Value.int .u64)).toArray] W fun e w' =>e= .returned (.agg (C2.map (Value.int .u64)).toArray)∧Keeps W w') (h3:∀W,Keeps w W→Calls Tryz.prog 92 #[.pointer (some ⟨gg,0,none⟩),.agg (X.map (Value.int .u64)).toArray,.agg (C2.map (Value.int .u64)).toArray] W fun e w' =>e= .returned (.agg (C3.map (Value.int .u64)).toArray)∧Keeps W w') (h4:∀W,Keeps w W→Calls Tryz.prog 92 #[.pointer (some ⟨gg,0,none⟩),.agg (C1.map (Value.int .u64)).toArray,.agg (C2.map (Value.int .u64)).toArray] W fun e w' =>e= .returned (.agg (C4.map (Value.int .u64)).toArray)∧Keeps W w') (h5:∀W,Keeps w W→Calls Tryz.prog 92 #[.pointer (some ⟨gg,0,none⟩),.agg (Y.map (Value.int .u64)).toArray,.agg (C4.map (Value.int .u64)).toArray] W fun e w' =>e= .returned (.agg (C5.map (Value.int .u64)).toArray)∧Keeps W w'):
 Calls Tryz.prog 95 #[.pointer (some ⟨gg,0,none⟩),.agg (PT.map (Value.int .u64)).toArray] w fun e w' =>e= .returned (.tuple #[.agg (C3.map (Value.int .u64)).toArray,.agg (C5.map (Value.int .u64)).toArray])∧Keeps w w':=by
 have dT:=ae h1;clear h1
 have HC2:=ae h2;clear h2
 have fT:=ae h3;clear h3
 have ky:=ae h4;clear h4
 have fY:=ae h5;clear h5
 have nF:PT.length=12:=by rw[ql];exact lf lX lY lZ
 have kV:=ae ql
 clear ql
 go_enter Tryz.func95,Tryz.ntmps95
 go_upto_region 1 with(fail)
 refine cU (fun W hk hra hrb hrc hs=> ?_)
 obtain⟨p,hp⟩:∃p,p=w.heap.size:=⟨_,rfl⟩
 rw[←hp]at hra hrb hrc hs⊢
 have hkp:w.heap.size≤p:=by omega
 obtain⟨Zr,du,hrz⟩:∃Zr:List Value,Zr.length=4∧Row W (p+1) 0 Zr:=⟨_,rfl,hrb⟩
 obtain⟨Zs,hZs,hrs⟩:∃Zs:List Value,Zs.length=4∧Row W (p+1+1) 0 Zs:=⟨_,rfl,hrc⟩
 have bj:=ae (show Row W p 0 (PT.map (Value.int .u64))from hra)
 have aA:=ae hk;have ap:=ae hrz;have ju:=ae hrs
 clear hp hra hrb hrz hrc hrs hk hs
 have bB:=ae (row3 lX lY lZ (by have h:=bj.o;rwa[kV.o]at h)).1
 have cE:=ae (row3 lX lY lZ (by have h:=bj.o;rwa[kV.o]at h)).2.1
 have aV:=ae (row3 lX lY lZ (by have h:=bj.o;rwa[kV.o]at h)).2.2
 go_upto_region 2 with(fail)
 go_upto_region 3 with(first |(refine wl aV.o lZ (h:= ?_))|(go_at_call 126;refine(dT.o _ aA.o).mono ?_;rintro e V1 ⟨rfl,hk1⟩;have aH:=ae hk1;clear hk1)|(refine ws (g:=V1.heap.size) (olds:=aL) (Row.new _ _ _ rfl) fX rfl (h:= ?_);intro W2 hr2 hc2;have HN:=ae hr2;have HB:=ae (show _≤_ from(aH.o).size);have aq:=ae (ag (ah (aH.o) _) hc2 (aH.o).size);clear hr2 hc2))
 generalize V1.heap.size=g1 at *
 have zh:=Nat.lt_of_lt_of_le (ju.o.lt (by intro e;rw[e]at hZs;cases hZs)) HB.o
 have bj:=ae (bj.o.keeps aq.o)
 have bB:=ae (bB.o.keeps aq.o)
 have cE:=ae (cE.o.keeps aq.o)
 have aV:=ae (aV.o.keeps aq.o)
 have ap:=ae (ap.o.keeps aq.o)
 have ju:=ae (ju.o.keeps aq.o)
 have aA:=ae (aA.o.trans aq.o)
 have cK:=HN
 go_upto_region 4 with(first |(refine wl cK.o fX (h:= ?_))|(refine wl cK.o fX (h:= ?_))|(go_at_call 92;refine(HC2.o _ aA.o).mono ?_;rintro e V1 ⟨rfl,hk1⟩;have aH:=ae hk1;clear hk1)|(refine ws (g:=V1.heap.size) (olds:=aL) (Row.new _ _ _ rfl) lH rfl (h:= ?_);intro W2 hr2 hc2;have HN:=ae hr2;have HB:=ae (show _≤_ from(aH.o).size);have aq:=ae (ag (ah (aH.o) _) hc2 (aH.o).size);clear hr2 hc2))
 generalize V1.heap.size=g2 at *
 have DZ:=Nat.lt_of_lt_of_le (cK.o.lt (aM fX)) HB.o
 have bj:=ae (bj.o.keeps aq.o)
 have bB:=ae (bB.o.keeps aq.o)
 have cE:=ae (cE.o.keeps aq.o)
 have aV:=ae (aV.o.keeps aq.o)
 have ap:=ae (ap.o.keeps aq.o)
 have ju:=ae (ju.o.keeps aq.o)
 have cK:=ae (cK.o.keeps aq.o)
 have aA:=ae (aA.o.trans aq.o)
 have cO:=HN
 refine au 13 [] [0,1,2,3,4,5,6,7,8,9,10,11,12] (fun _=>aL) (by kernel_rfl) (by kernel_rfl) (by intro i hi;cases hi) ?_
 iterate 2 refine kp (h:= ?_)
 refine kl (fun wS hS=>(bB.o.keeps hS)) lX (h:= ?_)
 refine kl (fun wS hS=>(cO.o.keeps hS)) lH (h:= ?_)
 refine kc (hc:=by exact fun wS hS=>fT.o wS (aA.o.trans hS)) (h:= ?_)
 iterate 2 refine kp (h:= ?_)
 refine kl (fun wS hS=>(cE.o.keeps hS)) lY (h:= ?_)
 refine kp (h:= ?_)
 refine kl (fun wS hS=>(cK.o.keeps hS)) fX (h:= ?_)
 refine kl (fun wS hS=>(cO.o.keeps hS)) lH (h:= ?_)
 refine kc (hc:=by exact fun wS hS=>ky.o wS (aA.o.trans hS)) (h:= ?_)
 refine kc (hc:=by exact fun wS hS=>fY.o wS (aA.o.trans hS)) (h:= ?_)
 refine aI ?_
 intro GG V1 hk1 hG
 simp only[aZ,br,ct,kD,kG,kP,Option.bind_some]
 clear hG
 have aH:=ae hk1;clear hk1
 go_wp2_with (first |(refine ws (ap.o.keeps aH.o) oI (by rw[du]) (h:= ?_);intro W2 hr2 hc2;have eu:=ae hr2;have dT:=ae hc2;clear hr2 hc2)|(refine ws ((ju.o.keeps aH.o).aG dT.o (by omega)) Bg (by rw[hZs]) (h:= ?_);intro W3 hr2 hc2;have mH:=ae hr2;have HC2:=ae hc2;clear hr2 hc2))
 exact bodyPost_ret (ru (p:=4) (q:=5) (ty:=95) (Oi:=95) rfl _ _ (p+1) 0 (p+1+1) 0 _ _ _ _ rfl (eu.o.aG HC2.o (by omega)) Tryz.underlying95 rfl (by rw[aF,oI];exact aE) rfl mH.o Tryz.underlying95 rfl (by rw[aF,Bg];exact aE)) rfl ⟨rfl,ag (ag (aA.o.trans aH.o) dT.o (by omega)) HC2.o (by omega)⟩
theorem G5(g:Nat)(x:Nat)(hx:x<bn)(w:World)(hr:Row w g 0 cW):
 Calls Tryz.prog 126 #[.pointer (some ⟨g,0,none⟩),.agg ((nw x).map (Value.int .u64)).toArray] w fun e w' =>e= .returned (.agg ((nw (fi x)).map (Value.int .u64)).toArray)∧Keeps w w':=by
 have :=yE g 0 bn _ tg x (Nat.lt_trans hx (by decide)) w (Mt hr)
 rwa[←ni (by decide:bn -2<2^256)]at this
theorem G6(g:Nat)(a:J)(h:a.ok)(w:World)(hr:Row w g 0 cW):
 Calls Tryz.prog 95 #[.pointer (some ⟨g,0,none⟩),.agg ((iU a).map (Value.int .u64)).toArray] w fun e w' =>e= .returned (.tuple #[.agg ((nw (gU a).1).map (Value.int .u64)).toArray,.agg ((nw (gU a).2).map (Value.int .u64)).toArray])∧Keeps w w':=by
 have hi:fi a.z<bn:=pn _ _ (by decide)
 exact D7 g _ _ _ (nw (fi a.z)) (nw (fm (fi a.z) (fi a.z))) _ (nw (fm (fi a.z) (fm (fi a.z) (fi a.z)))) _ (iU a) rfl rfl rfl rfl rfl rfl rfl rfl rfl w
  (fun W hk=>G5 g a.z h.2.2 W (hr.keeps hk)) (fun W hk=>aX g _ _ hi hi W (hr.keeps hk)) (fun W hk=>aX g _ _ h.1 (bI _ _) W (hr.keeps hk)) (fun W hk=>aX g _ _ hi (bI _ _) W (hr.keeps hk)) (fun W hk=>aX g _ _ h.2.1 (bI _ _) W (hr.keeps hk))
theorem Br(X Y Z M W9 C3 C5 PT:List Int)(ql:PT=X++Y++Z)(lX:X.length=8)(lY:Y.length=8)(lZ:Z.length=8)(lM:M.length=8)(Te:W9.length=8)(oI:C3.length=8)(Bg:C5.length=8)(w:World)
 (hP:∀W,Keeps w W→Calls Tryz.prog 69 #[] W fun e w' =>e= .returned (.agg (M.map (Value.int .u32)).toArray)∧Keeps W w')
 (hI:∀W,Keeps w W→Calls Tryz.prog 128 #[.agg (Z.map (Value.int .u32)).toArray,.agg (M.map (Value.int .u32)).toArray] W fun e w' =>e= .returned (.agg (W9.map (Value.int .u32)).toArray)∧Keeps W w')
 (hX:∀W,Keeps w W→Calls Tryz.prog 101 #[.agg (X.map (Value.int .u32)).toArray,.agg (W9.map (Value.int .u32)).toArray,.agg (M.map (Value.int .u32)).toArray] W fun e w' =>e= .returned (.agg (C3.map (Value.int .u32)).toArray)∧Keeps W w')
 (hY:∀W,Keeps w W→Calls Tryz.prog 101 #[.agg (Y.map (Value.int .u32)).toArray,.agg (W9.map (Value.int .u32)).toArray,.agg (M.map (Value.int .u32)).toArray] W fun e w' =>e= .returned (.agg (C5.map (Value.int .u32)).toArray)∧Keeps W w'):
 Calls Tryz.prog 105 #[.agg (PT.map (Value.int .u32)).toArray] w fun e w' =>e= .returned (.tuple #[.agg (C3.map (Value.int .u32)).toArray,.agg (C5.map (Value.int .u32)).toArray])∧Keeps w w':=by
 have HP:=ae hP;have HI:=ae hI;have HX:=ae hX;have HY:=ae hY
 clear hP hI hX hY
 have nF:PT.length=24:=by rw[ql];exact lf lX lY lZ
 have kV:=ae ql
 clear ql
 go_enter Tryz.func105,Tryz.ntmps105
 go_upto_region 1 with(fail)
 refine cU (fun W hk hra hrb hrc hs=> ?_)
 obtain⟨p,hp⟩:∃p,p=w.heap.size:=⟨_,rfl⟩
 rw[←hp]at hra hrb hrc hs⊢
 have hkp:w.heap.size≤p:=by omega
 obtain⟨Zr,du,hrz⟩:∃Zr:List Value,Zr.length=8∧Row W (p+1) 0 Zr:=⟨_,rfl,hrb⟩
 obtain⟨Zs,hZs,hrs⟩:∃Zs:List Value,Zs.length=8∧Row W (p+1+1) 0 Zs:=⟨_,rfl,hrc⟩
 have bj:=ae (show Row W p 0 (PT.map (Value.int .u32))from hra)
 have aA:=ae hk;have ap:=ae hrz;have ju:=ae hrs
 clear hp hra hrb hrz hrc hrs hk hs
 have bB:=ae (row3 lX lY lZ (by have h:=bj.o;rwa[kV.o]at h)).1
 have cE:=ae (row3 lX lY lZ (by have h:=bj.o;rwa[kV.o]at h)).2.1
 have aV:=ae (row3 lX lY lZ (by have h:=bj.o;rwa[kV.o]at h)).2.2
 refine au 5 [4] [0,1,2,3] (fun _=>cD) (by kernel_rfl) (by kernel_rfl) (by intro i hi;simp only[List.mem_cons,List.not_mem_nil,or_false]at hi;(first |(rcases hi with rfl|rfl)|subst hi)<;>exact⟨_,rfl,gB rfl rfl⟩) ?_
 refine kp (h:= ?_)
 refine kl (fun wS hS=>(aV.o.keeps hS)) lZ (h:= ?_)
 refine kc (hc:=by exact fun wS hS=>HP.o wS (aA.o.trans hS)) (h:= ?_)
 refine kc (hc:=by exact fun wS hS=>HI.o wS (aA.o.trans hS)) (h:= ?_)
 refine aI ?_
 intro GG V1 hk1 hG
 obtain⟨UU,JQ,hd4⟩:=hG 4 (by simp)
 clear hd4
 simp only[aZ,br,ct,kD,kG,kP,Option.bind_some]
 generalize GG 4=g1 at *
 clear hG
 have WD:=ae JQ;have HB4:=ae (show _≤_ from UU)
 clear JQ UU
 have aH:=ae hk1;clear hk1
 go_upto_region 2 with(first |(refine ws (g:=_) (olds:=cD) WD.o Te rfl (h:= ?_);intro W2 hr2 hc2;have eu:=ae hr2;have dT:=ae hc2;clear hr2 hc2))
 have HN:=eu;have HB:=HB4
 have aq:=ae (ag aH.o dT.o HB.o)
 have zh:=Nat.lt_of_lt_of_le (ju.o.lt (by intro e;rw[e]at hZs;cases hZs)) HB.o
 have bj:=ae (bj.o.keeps aq.o)
 have bB:=ae (bB.o.keeps aq.o)
 have cE:=ae (cE.o.keeps aq.o)
 have aV:=ae (aV.o.keeps aq.o)
 have ap:=ae (ap.o.keeps aq.o)
 have ju:=ae (ju.o.keeps aq.o)
 have aA:=ae (aA.o.trans aq.o)
 have Ps:=HN
 refine au 10 [] [0,1,2,3,4,5,6,7,8,9] (fun _=>cD) (by kernel_rfl) (by kernel_rfl) (by intro i hi;cases hi) ?_
 refine kp (h:= ?_)
 refine kl (fun wS hS=>(bB.o.keeps hS)) lX (h:= ?_)
 refine kl (fun wS hS=>(Ps.o.keeps hS)) Te (h:= ?_)
 refine kc (hc:=by exact fun wS hS=>HP.o wS (aA.o.trans hS)) (h:= ?_)
 refine kc (hc:=by exact fun wS hS=>HX.o wS (aA.o.trans hS)) (h:= ?_)
 refine kp (h:= ?_)
 refine kl (fun wS hS=>(cE.o.keeps hS)) lY (h:= ?_)
 refine kl (fun wS hS=>(Ps.o.keeps hS)) Te (h:= ?_)
 refine kc (hc:=by exact fun wS hS=>HP.o wS (aA.o.trans hS)) (h:= ?_)
 refine kc (hc:=by exact fun wS hS=>HY.o wS (aA.o.trans hS)) (h:= ?_)
 refine aI ?_
 intro GG V1 hk1 hG
 simp only[aZ,br,ct,kD,kG,kP,Option.bind_some]
 clear hG
 have aH:=ae hk1;clear hk1
 go_wp2_with (first |(refine ws (ap.o.keeps aH.o) oI (by rw[du]) (h:= ?_);intro W2 hr2 hc2;have eu:=ae hr2;have dT:=ae hc2;clear hr2 hc2)|(refine ws ((ju.o.keeps aH.o).aG dT.o (by omega)) Bg (by rw[hZs]) (h:= ?_);intro W3 hr2 hc2;have mH:=ae hr2;have HC2:=ae hc2;clear hr2 hc2))
 exact bodyPost_ret (ru (p:=2) (q:=3) (ty:=67) (Oi:=67) rfl _ _ (p+1) 0 (p+1+1) 0 _ _ _ _ rfl (eu.o.aG HC2.o (by omega)) Tryz.underlying67 rfl (by rw[aF,oI];exact bm) rfl mH.o Tryz.underlying67 rfl (by rw[aF,Bg];exact bm)) rfl ⟨rfl,ag (ag (aA.o.trans aH.o) dT.o (by omega)) HC2.o (by omega)⟩
theorem D8(x:Nat)(hx:x<bn)(w:World):
 Calls Tryz.prog 128 #[.agg ((dz x).map (Value.int .u32)).toArray,.agg ((dz bn).map (Value.int .u32)).toArray] w fun e w' =>e= .returned (.agg ((dz (fi x)).map (Value.int .u32)).toArray)∧Keeps w w':=by
 have :=wR bn pu x (Nat.lt_trans hx (by decide)) w
 rwa[←ni (by decide:bn -2<2^256)]at this
theorem D9(a:J)(h:a.ok)(w:World):
 Calls Tryz.prog 105 #[.agg ((nk a).map (Value.int .u32)).toArray] w fun e w' =>e= .returned (.tuple #[.agg ((dz (kr a).1).map (Value.int .u32)).toArray,.agg ((dz (kr a).2).map (Value.int .u32)).toArray])∧Keeps w w':=by
 have hi:fi a.z<bn:=pn _ _ (by decide)
 exact Br _ _ _ (dz bn) (dz (fi a.z)) _ _ (nk a) rfl (cA _) (cA _) (cA _) (cA _) (cA _) (cA _) (cA _) w
  (fun W _=>xj W) (fun W hk=>D8 a.z h.2.2 W) (fun W hk=>cT _ _ h.1 hi W) (fun W hk=>cT _ _ h.2.1 hi W)
end Go.Proofs.YtlofddoojkeakaaGreatDoor
