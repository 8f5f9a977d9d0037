/- curve's two fields; whether bytes are a key. -/
import Derived.Test.YtlofddoojkeakaaGreatDoorGA4
import Derived.Test.YtlofddoojkeakaaGreatDoorGA6
import Derived.Test.YtlofddoojkeakaaGreatDoorGA0
import Derived.Lib.QuietBelow
set_option maxRecDepth 100000
set_option maxHeartbeats 2000000
set_option linter.unusedVariables false
set_option linter.unusedSimpArgs false
namespace Go.Proofs.YtlofddoojkeakaaGreatDoor
open Go Go.RowKit
def gT:List Int:=[18446744069414583343,18446744073709551615,18446744073709551615,18446744073709551615,4294968273,0,0]
def jU:List Int:=[13822214165235122497,13451932020343611451,18446744073709551614,18446744073709551615,4624529908474429119,4994812053365940164,1]
def PV:Int:=115792089237316195423570985008687907853269984665640564039457584007908834671663
theorem oV:cg PV:=by unfold cg PV;exact⟨by decide,by decide⟩
theorem yn:gT.take 4=words PV:=by decide+kernel
theorem FE:jU.take 4=words NV:=by decide+kernel
theorem yo:(Tryz.prog.info? 101).map (·.size)=some 7:=by kernel_rfl
theorem wG:Tryz.prog.built 95 [(0,.int .u64 18446744069414583343),(1,.int .u64 18446744073709551615),(2,.int .u64 18446744073709551615),(3,.int .u64 18446744073709551615)]=some #[.int .u64 18446744069414583343,.int .u64 18446744073709551615,.int .u64 18446744073709551615,.int .u64 18446744073709551615]:=by kernel_rfl
theorem uw:Tryz.prog.built 99 [(0,.int .u64 4294968273),(1,.int .u64 0),(2,.int .u64 0)]=some #[.int .u64 4294968273,.int .u64 0,.int .u64 0]:=by kernel_rfl
theorem ux:Tryz.prog.built 101 [(0,.agg #[.int .u64 18446744069414583343,.int .u64 18446744073709551615,.int .u64 18446744073709551615,.int .u64 18446744073709551615]),(1,.agg #[.int .u64 4294968273,.int .u64 0,.int .u64 0])]=some (gT.map (Value.int .u64)).toArray:=by kernel_rfl
theorem wH:Tryz.prog.built 95 [(0,.int .u64 13822214165235122497),(1,.int .u64 13451932020343611451),(2,.int .u64 18446744073709551614),(3,.int .u64 18446744073709551615)]=some #[.int .u64 13822214165235122497,.int .u64 13451932020343611451,.int .u64 18446744073709551614,.int .u64 18446744073709551615]:=by kernel_rfl
theorem uy:Tryz.prog.built 99 [(0,.int .u64 4624529908474429119),(1,.int .u64 4994812053365940164),(2,.int .u64 1)]=some #[.int .u64 4624529908474429119,.int .u64 4994812053365940164,.int .u64 1]:=by kernel_rfl
theorem uz:Tryz.prog.built 101 [(0,.agg #[.int .u64 13822214165235122497,.int .u64 13451932020343611451,.int .u64 18446744073709551614,.int .u64 18446744073709551615]),(1,.agg #[.int .u64 4624529908474429119,.int .u64 4994812053365940164,.int .u64 1])]=some (jU.map (Value.int .u64)).toArray:=by kernel_rfl
theorem yp:Tryz.prog.built 103 [(0,.agg (gT.map (Value.int .u64)).toArray),(1,.agg (jU.map (Value.int .u64)).toArray)]=some ((gT++jU).map (Value.int .u64)).toArray:=by kernel_rfl
theorem A0(w:World):Calls Tryz.prog 86 #[] w fun e w' =>e= .returned (.agg (gT.map (Value.int .u64)).toArray)∧Keeps w w':=by
 have HB:=ae ux
 have hl:gT.length=7:=rfl
 generalize gT=X at *
 go_enter Tryz.func86,Tryz.ntmps86
 go_upto_region 1 with(fail)
 refine bh (fun W hk hr hs=> ?_)
 obtain⟨Z,hZ,hrz⟩:∃Z:List Value,Z.length=7∧Row W w.heap.size 0 Z:=⟨_,rfl,hr⟩
 have HR:=ae hrz;have HK:=ae hk
 clear hk hr hrz hs
 go_wp2_with (first |(refine aW (by kernel_rfl) 95 _ rfl _ ?_ _ wG ?_;focus(simp only[List.map_toArray,List.map_cons,List.map_nil];rfl))|(refine aW (by kernel_rfl) 99 _ rfl _ ?_ _ uw ?_;focus(simp only[List.map_toArray,List.map_cons,List.map_nil];rfl))|(refine aW (by kernel_rfl) 101 _ rfl _ ?_ _ HB.o ?_;focus(simp only[List.map_toArray,List.map_cons,List.map_nil];rfl))|(refine ws HR.o hl (by rw[hZ]) (h:= ?_);intro w9 aR aJ;have H9:=ae aR;have bK:=ae aJ;clear aR aJ))
 exact bodyPost_ret (v:= .agg (X.map (Value.int .u64)).toArray) (ar (p:=0) (ty:=101) rfl _ _ w.heap.size 0 _ _ rfl H9.o Tryz.underlying101 rfl (by rw[aF,hl];exact yo)) rfl ⟨rfl,ag HK.o bK.o (Nat.le_refl _)⟩
theorem A1(w:World):Calls Tryz.prog 87 #[] w fun e w' =>e= .returned (.agg (jU.map (Value.int .u64)).toArray)∧Keeps w w':=by
 have HB:=ae uz
 have hl:jU.length=7:=rfl
 generalize jU=X at *
 go_enter Tryz.func87,Tryz.ntmps87
 go_upto_region 1 with(fail)
 refine bh (fun W hk hr hs=> ?_)
 obtain⟨Z,hZ,hrz⟩:∃Z:List Value,Z.length=7∧Row W w.heap.size 0 Z:=⟨_,rfl,hr⟩
 have HR:=ae hrz;have HK:=ae hk
 clear hk hr hrz hs
 go_wp2_with (first |(refine aW (by kernel_rfl) 95 _ rfl _ ?_ _ wH ?_;focus(simp only[List.map_toArray,List.map_cons,List.map_nil];rfl))|(refine aW (by kernel_rfl) 99 _ rfl _ ?_ _ uy ?_;focus(simp only[List.map_toArray,List.map_cons,List.map_nil];rfl))|(refine aW (by kernel_rfl) 101 _ rfl _ ?_ _ HB.o ?_;focus(simp only[List.map_toArray,List.map_cons,List.map_nil];rfl))|(refine ws HR.o hl (by rw[hZ]) (h:= ?_);intro w9 aR aJ;have H9:=ae aR;have bK:=ae aJ;clear aR aJ))
 exact bodyPost_ret (v:= .agg (X.map (Value.int .u64)).toArray) (ar (p:=0) (ty:=101) rfl _ _ w.heap.size 0 _ _ rfl H9.o Tryz.underlying101 rfl (by rw[aF,hl];exact yo)) rfl ⟨rfl,ag HK.o bK.o (Nat.le_refl _)⟩
def cW:List Value:=(gT++jU).map (Value.int .u64)
theorem mx{w:World}{g:Nat}(h:Row w g 0 cW):Row w g 0 ((words PV).map (Value.int .u64)):=by
 have :=h.take 4
 rwa[show cW.take 4=(words PV).map (Value.int .u64) by rw[←yn];rfl]at this
theorem km{w:World}{g:Nat}(h:Row w g 0 cW):Row w g 7 ((words NV).map (Value.int .u64)):=by
 have :=(h.drop 7).take 4
 rwa[show(cW.drop 7).take 4=(words NV).map (Value.int .u64) by rw[←FE];rfl,Nat.zero_add]at this
theorem ko(w:World):Calls Tryz.prog 45 #[] w fun e w' =>∃g,e= .returned (.pointer (some ⟨g,0,none⟩))∧Keeps w w'∧w.heap.size≤g∧Row w' g 0 cW:=by
 have HB:=ae (show Tryz.prog.built 103 [(0,.agg (gT.map (Value.int .u64)).toArray),(1,.agg (jU.map (Value.int .u64)).toArray)]=some cW.toArray from yp)
 have HP:=ae A0
 have HN:=ae A1
 generalize gT.map (Value.int .u64)=X at *
 generalize jU.map (Value.int .u64)=Y at *
 generalize cW=G at *
 go_enter Tryz.func45,Tryz.ntmps45
 go_wp2_with (first |(go_at_call 86;refine(HP.o _).mono ?_;rintro e W1 ⟨rfl,hk1⟩;have bw:=ae hk1;clear hk1)|(go_at_call 87;refine(HN.o _).mono ?_;rintro e W2 ⟨rfl,hk2⟩;have aq:=ae hk2;clear hk2)|(refine aW (by kernel_rfl) 103 _ rfl _ ?_ _ HB.o ?_;focus(simp only[List.map_toArray,List.map_cons,List.map_nil];rfl)))
 go_ret
 exact⟨_,rfl,ah (bw.o.trans aq.o) _,(bw.o.trans aq.o).size,Row.new _ _ _ rfl⟩
theorem bo:(Tryz.prog.info? 24).map (·.size)=some 32:=by kernel_rfl
theorem sA(g:Nat)(l:List Int)(hb:Bytes l)(hl:l.length=32)(w:World)(hr:Row w g 0 cW):
 Calls Tryz.prog 46 #[.pointer (some ⟨g,0,none⟩),.agg (l.map (Value.int .u8)).toArray] w fun e w' =>e= .returned (.tuple #[.agg ((words (be l)).map (Value.int .u64)).toArray,.bool (ey (be l))])∧Keeps w w':=by
 have hx:=gp hb hl
 have DB:=ae (fun(v:Value) W hr=>gH v l W hr hb hl)
 have HZ:=ae (fd (be l) hx)
 have rO:=ae (fun W (hk:Keeps w W)=>jc g 7 NV (be l) ff hx W ((km hr).keeps hk))
 have hcase:(be l=0∧ey (be l)=false)∨(¬be l=0∧ey (be l)=decide (be l<NV)):=by
  by_cases h:be l=0
  ·exact .inl ⟨h,uV h⟩
  ·exact .inr ⟨h,ym hx h⟩
 have hwl:=ak (be l)
 clear hr
 generalize words (be l)=X at *
 generalize ey (be l)=KB at *
 rcases hcase with⟨h0,rfl⟩|⟨h0,rfl⟩
 ·rw[decide_eq_true h0]at HZ
  clear h0 hx rO
  go_enter Tryz.func46,Tryz.ntmps46
  go_upto_region 1 with(fail)
  refine bu (fun W hk hra hrb hs=> ?_)
  obtain⟨p,hp⟩:∃p,p=w.heap.size:=⟨_,rfl⟩
  rw[←hp]at hra hrb hs⊢
  have hkp:w.heap.size≤p:=by omega
  obtain⟨Z,RM,hrz⟩:∃Z:List Value,Z.length=4∧Row W (p+1) 0 Z:=⟨_,rfl,hrb⟩
  have bj:=ae (show Row W p 0 (l.map (Value.int .u8))from hra);have aV:=ae hrz;have HK:=ae hk
  have iX:=ae (show Rd W 1 (.slice (some ⟨p,0,none⟩) 32 32) 32 (l.map (Value.int .u8))from Rd.bQ bj.o (by simp[hl]) (by omega) (Nat.le_refl _) (by unfold maxLen;omega))
  have AA:p+1<W.heap.size:=by omega
  clear hp hra hrb hrz hk hs
  go_upto_region 2 with(first |(go_at_call 47;refine(DB.o _ _ iX.o).mono ?_;rintro e W1 ⟨rfl,hk1⟩;have bw:=ae hk1;clear hk1)|(refine wpList_store_row rfl 95 (.tmp 6) (.tmp 8) rfl W1.heap.size 0 rfl [.int .u64 0,.int .u64 0,.int .u64 0,.int .u64 0] (X.map (Value.int .u64)) rfl (Row.new _ _ _ rfl) (by rw[aF,hwl];rfl) (by rw[aF,hwl];exact aE) (ai _) ?_;intro W2 hr2 hc2;have HR2:=ae hr2;have aq:=ae (ag (ah (Keeps.refl W1) _) hc2 (Nat.le_refl _));clear hr2 hc2))
  have hq:p+1<W1.heap.size:=Nat.lt_of_lt_of_le AA bw.o.size
  generalize W1.heap.size=q at *
  have aA:=ae ((HK.o.trans bw.o).trans aq.o)
  have FA:=ae (aV.o.keeps (bw.o.trans aq.o))
  refine cL (S:=fun W=>Hid ((fun W' =>Keeps w W'∧Row W' q 0 (X.map (Value.int .u64))∧∃Z:List Value,Z.length=4∧Row W' (p+1) 0 Z) W)) 12 (by kernel_rfl) (by kernel_rfl) ?_ (fun hHeld=> ?_)
  focus exact ae ⟨bz aA.o,HR2.o.drew,Z,RM,FA.o.drew⟩
  refine lt 0 (hx:=by intro wD hSw;(have hSw:=hSw.out);(refine bD 95 (.tmp 6) ?_ q 0 ?_ _ _ hSw.2.1 Tryz.underlying95 rfl (by rw[aF,hwl];exact aE))<;>rfl) (h:= ?_)
  refine lt 1 (hx:=by intro wD hSw;(have hSw:=hSw.out);(refine bD 95 (.tmp 6) ?_ q 0 ?_ _ _ hSw.2.1 Tryz.underlying95 rfl (by rw[aF,hwl];exact aE))<;>rfl) (h:= ?_)
  refine ay (i:=2) (o:= ?_) (by kernel_rfl) (by kernel_rfl) ?_ ?_
  rotate_left 1
  focus(simp only[kG];exact rfl)
  go_wp2_with (go_at_call 50;refine(HZ.o _).mono ?_;rintro r W5 ⟨rfl,hk5⟩;have cG:=ae hk5;clear hk5)
  try dsimp only[aN]
  refine⟨?_,fun hHeld=> ?_⟩
  focus(exact ae (⟨hHeld.out.1.trans cG.o,hHeld.out.2.1.keeps cG.o,hHeld.out.2.2.imp (fun _ h=>⟨h.1,h.2.keeps cG.o⟩)⟩))
  try simp only[kP]
  refine lt 3 (h:= ?_)
  refine lt 4 (h:= ?_)
  refine KK 5 (h:= ?_)
  refine KK 6 (h:= ?_)
  refine KK 7 (h:= ?_)
  refine KK 8 (h:= ?_)
  refine KK 9 (h:= ?_)
  refine lt 10 (h:= ?_)
  obtain⟨Z2,hZ2,sB⟩:=hHeld.out.2.2
  have wI:=ae sB
  clear sB
  refine ay (i:=11) (o:= ?_) (by kernel_rfl) (by kernel_rfl) ?_ ?_
  rotate_left 1
  focus(simp only[kG];exact rfl)
  go_wp2_with (refine ws wI.o hwl (by rw[hZ2]) (h:= ?_);intro w9 aR aJ;have H9:=ae aR;have bK:=ae aJ;clear aR aJ)
  try dsimp only[aN]
  refine⟨?_,fun hHeld=> ?_⟩
  focus(exact ae (⟨ag hHeld.out.1 bK.o (by omega),hHeld.out.2.1.aG bK.o (by omega),_,by rw[aF,hwl],H9.o⟩))
  try simp only[kP]
  refine aU (by kernel_rfl) ?_
  try simp only[List.drop_succ_cons,List.drop_zero]
  go_wp2
  exact bodyPost_ret (al (p:=4) (t:=5) (ty:=95) rfl _ _ (p+1) 0 _ _ _ rfl rfl H9.o Tryz.underlying95 rfl (by rw[aF,hwl];exact aE)) rfl ⟨by first |rfl|(congr 2),hHeld.out.1⟩
 ·rw[decide_eq_false h0]at HZ
  clear h0 hx
  generalize decide (be l<NV)=D at *
  go_enter Tryz.func46,Tryz.ntmps46
  go_upto_region 1 with(fail)
  refine bu (fun W hk hra hrb hs=> ?_)
  obtain⟨p,hp⟩:∃p,p=w.heap.size:=⟨_,rfl⟩
  rw[←hp]at hra hrb hs⊢
  have hkp:w.heap.size≤p:=by omega
  obtain⟨Z,RM,hrz⟩:∃Z:List Value,Z.length=4∧Row W (p+1) 0 Z:=⟨_,rfl,hrb⟩
  have bj:=ae (show Row W p 0 (l.map (Value.int .u8))from hra);have aV:=ae hrz;have HK:=ae hk
  have iX:=ae (show Rd W 1 (.slice (some ⟨p,0,none⟩) 32 32) 32 (l.map (Value.int .u8))from Rd.bQ bj.o (by simp[hl]) (by omega) (Nat.le_refl _) (by unfold maxLen;omega))
  have AA:p+1<W.heap.size:=by omega
  clear hp hra hrb hrz hk hs
  go_upto_region 2 with(first |(go_at_call 47;refine(DB.o _ _ iX.o).mono ?_;rintro e W1 ⟨rfl,hk1⟩;have bw:=ae hk1;clear hk1)|(refine wpList_store_row rfl 95 (.tmp 6) (.tmp 8) rfl W1.heap.size 0 rfl [.int .u64 0,.int .u64 0,.int .u64 0,.int .u64 0] (X.map (Value.int .u64)) rfl (Row.new _ _ _ rfl) (by rw[aF,hwl];rfl) (by rw[aF,hwl];exact aE) (ai _) ?_;intro W2 hr2 hc2;have HR2:=ae hr2;have aq:=ae (ag (ah (Keeps.refl W1) _) hc2 (Nat.le_refl _));clear hr2 hc2))
  have hq:p+1<W1.heap.size:=Nat.lt_of_lt_of_le AA bw.o.size
  generalize W1.heap.size=q at *
  have aA:=ae ((HK.o.trans bw.o).trans aq.o)
  have FA:=ae (aV.o.keeps (bw.o.trans aq.o))
  refine cL (S:=fun W=>Hid ((fun W' =>Keeps w W'∧Row W' q 0 (X.map (Value.int .u64))∧∃Z:List Value,Z.length=4∧Row W' (p+1) 0 Z) W)) 12 (by kernel_rfl) (by kernel_rfl) ?_ (fun hHeld=> ?_)
  focus exact ae ⟨bz aA.o,HR2.o.drew,Z,RM,FA.o.drew⟩
  refine lt 0 (hx:=by intro wD hSw;(have hSw:=hSw.out);(refine bD 95 (.tmp 6) ?_ q 0 ?_ _ _ hSw.2.1 Tryz.underlying95 rfl (by rw[aF,hwl];exact aE))<;>rfl) (h:= ?_)
  refine lt 1 (hx:=by intro wD hSw;(have hSw:=hSw.out);(refine bD 95 (.tmp 6) ?_ q 0 ?_ _ _ hSw.2.1 Tryz.underlying95 rfl (by rw[aF,hwl];exact aE))<;>rfl) (h:= ?_)
  refine ay (i:=2) (o:= ?_) (by kernel_rfl) (by kernel_rfl) ?_ ?_
  rotate_left 1
  focus(simp only[kG];exact rfl)
  go_wp2_with (go_at_call 50;refine(HZ.o _).mono ?_;rintro r W5 ⟨rfl,hk5⟩;have cG:=ae hk5;clear hk5)
  try dsimp only[aN]
  refine⟨?_,fun hHeld=> ?_⟩
  focus(exact ae (⟨hHeld.out.1.trans cG.o,hHeld.out.2.1.keeps cG.o,hHeld.out.2.2.imp (fun _ h=>⟨h.1,h.2.keeps cG.o⟩)⟩))
  try simp only[kP]
  refine lt 3 (h:= ?_)
  refine lt 4 (h:= ?_)
  refine lt 5 (h:= ?_)
  refine lt 6 (h:= ?_)
  refine lt 7 (h:= ?_)
  refine lt 8 (hx:=by intro wD hSw;(have hSw:=hSw.out);(refine bD 95 (.tmp 6) ?_ q 0 ?_ _ _ hSw.2.1 Tryz.underlying95 rfl (by rw[aF,hwl];exact aE))<;>rfl) (h:= ?_)
  refine ay (i:=9) (o:= ?_) (by kernel_rfl) (by kernel_rfl) ?_ ?_
  rotate_left 1
  focus(simp only[kG];exact rfl)
  go_wp2_with (go_at_call 48;refine(rO.o _ hHeld.out.1).mono ?_;rintro r W6 ⟨rfl,hk6⟩;have iY:=ae hk6;clear hk6)
  try dsimp only[aN]
  refine⟨?_,fun hHeld=> ?_⟩
  focus(exact ae (⟨hHeld.out.1.trans iY.o,hHeld.out.2.1.keeps iY.o,hHeld.out.2.2.imp (fun _ h=>⟨h.1,h.2.keeps iY.o⟩)⟩))
  try simp only[kP]
  refine lt 10 (h:= ?_)
  obtain⟨Z2,hZ2,sB⟩:=hHeld.out.2.2
  have wI:=ae sB
  clear sB
  refine ay (i:=11) (o:= ?_) (by kernel_rfl) (by kernel_rfl) ?_ ?_
  rotate_left 1
  focus(simp only[kG];exact rfl)
  go_wp2_with (refine ws wI.o hwl (by rw[hZ2]) (h:= ?_);intro w9 aR aJ;have H9:=ae aR;have bK:=ae aJ;clear aR aJ)
  try dsimp only[aN]
  refine⟨?_,fun hHeld=> ?_⟩
  focus(exact ae (⟨ag hHeld.out.1 bK.o (by omega),hHeld.out.2.1.aG bK.o (by omega),_,by rw[aF,hwl],H9.o⟩))
  try simp only[kP]
  refine aU (by kernel_rfl) ?_
  try simp only[List.drop_succ_cons,List.drop_zero]
  go_wp2
  exact bodyPost_ret (al (p:=4) (t:=5) (ty:=95) rfl _ _ (p+1) 0 _ _ _ rfl rfl H9.o Tryz.underlying95 rfl (by rw[aF,hwl];exact aE)) rfl ⟨by first |rfl|(congr 2),hHeld.out.1⟩
theorem uW(l:List Int)(hb:Bytes l)(hl:l.length=32)(w:World):
 Calls Tryz.prog 71 #[.agg (l.map (Value.int .u8)).toArray] w fun e w' =>e= .returned (.bool (ey (be l)))∧Keeps w w':=by
 have HKEY:=ae (fun g W hr=>sA g l hb hl W hr)
 have FH:=ae ko
 have hwl:=ak (be l)
 generalize words (be l)=X at *
 generalize ey (be l)=KB at *
 go_enter Tryz.func71,Tryz.ntmps71
 go_upto_region 1 with(fail)
 refine bh (fun W hk hr hs=> ?_)
 have HR:=ae (show Row W w.heap.size 0 (l.map (Value.int .u8))from hr);have HK:=ae hk
 clear hk hr hs
 generalize w.heap.size=p at *
 go_cut [4] (fun s4 wx=>Keeps W wx∧s4= .bool KB)
 case first =>
  refine wp_region_held_drew (S:=(fun W' =>Keeps W W')) (by kernel_rfl) ?_ (fun hHeld=> ?_)
  focus((try dsimp only);exact bz (Keeps.refl _))
  generalize W.drew=W0 at hHeld⊢
  refine wpAnyH_take (i:=1) (oi:= ?_) (v:= ?_) ?_ ?_ ?_ ?_ ?_ ?_ ?_ ?_
  rotate_left 2
  focus(simp only[kG];exact rfl)
  iterate 3 focus kernel_rfl
  focus(exact fun _ _ _ h=>h)
  focus(refine dp ?_ 24 (.tmp 1) ?_ p 0 ?_ (l.map (Value.int .u8)) _ ?_ Tryz.underlying24 ?_ (by rw[aF,hl];exact bo)<;>first |rfl|exact(fun w hw=>HR.o.keeps hw))
  focus assumption
  try simp only[kP]
  refine wpAnyH_ready (rs:=[0,6]) (by kernel_rfl) (by simp) ?_
  refine AllReadyH.cons (o:= ?_) ?_ (fun K hK=> ?_) ?_
  rotate_left 1
  focus(simp only[kG];exact rfl)
  ·rw[if_pos (by rfl)]
   go_simp;go_at_call 45;refine(FH.o _).mono ?_;rintro e W1 ⟨g,rfl,hk1,hgg,hrow⟩
   refine hK.out _ _ ?_ ?_
   focus((try dsimp only);first |exact Keeps.trans (by assumption) (by assumption)|exact ah (by assumption) _|exact hHeld|exact ag (by assumption) aJ jD)
   clear hK K hHeld
   intro hHeld
   try simp only[kP]
   refine wpAnyH_ready (rs:=[2,6]) (by kernel_rfl) (by simp) ?_
   refine AllReadyH.cons (o:= ?_) ?_ (fun K hK=> ?_) ?_
   rotate_left 1
   focus(simp only[kG];exact rfl)
   ·rw[if_pos (by rfl)]
    go_simp;go_at_call 46;refine(HKEY.o g _ (by first |exact hrow|exact hrow.keeps (ah (Keeps.refl _) _))).mono ?_;rintro e W2 ⟨rfl,hk2⟩
    refine hK.out _ _ ?_ ?_
    focus((try dsimp only);first |exact Keeps.trans (by assumption) (by assumption)|exact ah (by assumption) _|exact hHeld|exact ag (by assumption) aJ jD)
    clear hK K hHeld
    intro hHeld
    try simp only[kP]
    refine wpAnyH_take (i:=3) (oi:= ?_) (v:= ?_) ?_ ?_ ?_ ?_ ?_ (Or.inl ⟨?_,?_⟩) ?_ ?_
    rotate_left 2
    focus(simp only[kG];exact rfl)
    iterate 3 focus kernel_rfl
    focus(exact fun _ _ _ h=>h)
    focus rfl
    focus((intro w hSw;(try dsimp only at hSw);go_simp)<;>with_reducible rfl)
    focus assumption
    try simp only[kP]
    refine wpAnyH_take (i:=4) (oi:= ?_) (v:= ?_) ?_ ?_ ?_ ?_ ?_ (Or.inl ⟨?_,?_⟩) ?_ ?_
    rotate_left 2
    focus(simp only[kG];exact rfl)
    iterate 3 focus kernel_rfl
    focus(exact fun _ _ _ h=>h)
    focus rfl
    focus((intro w hSw;(try dsimp only at hSw);go_simp)<;>with_reducible rfl)
    focus assumption
    try simp only[kP]
    refine wpAnyH_take (i:=5) (oi:= ?_) (v:= ?_) ?_ ?_ ?_ ?_ ?_ (Or.inl ⟨?_,?_⟩) ?_ ?_
    rotate_left 2
    focus(simp only[kG];exact rfl)
    iterate 3 focus kernel_rfl
    focus(exact fun _ _ _ h=>h)
    focus rfl
    focus((intro w hSw;(try dsimp only at hSw);go_simp)<;>with_reducible rfl)
    focus assumption
    try simp only[kP]
    refine wpAnyH_ready (rs:=[6]) (by kernel_rfl) (by simp) ?_
    refine AllReadyH.cons (o:= ?_) ?_ (fun K hK=> ?_) ?_
    rotate_left 1
    focus(simp only[kG];exact rfl)
    ·rw[if_pos (by rfl)]
     go_simp;have jD:=hHeld.size
     refine hK.out _ _ ?_ ?_
     focus((try dsimp only);first |exact Keeps.trans (by assumption) (by assumption)|exact ah (by assumption) _|exact hHeld|exact ag (by assumption) aJ jD)
     clear hK K hHeld
     intro hHeld
     try simp only[kP]
     refine wpAnyH_ready (rs:=[7]) (by kernel_rfl) (by simp) ?_
     refine AllReadyH.cons (o:= ?_) ?_ (fun K hK=> ?_) ?_
     rotate_left 1
     focus(simp only[kG];exact rfl)
     ·rw[if_pos (by rfl)]
      refine de 95 (.tmp 3) (.tmp 9) rfl _ 0 rfl [.int .u64 0,.int .u64 0,.int .u64 0,.int .u64 0] (X.map (Value.int .u64)) rfl (by first |exact Row.new _ _ _ rfl|exact(Row.new _ _ _ rfl).keeps hk2|exact((Row.new _ _ _ rfl).keeps hk1).keeps hk2) (by simp[hwl]) (by rw[aF,hwl];exact aE) (ai _) ?_;intro W9 aR aJ
      refine hK.out _ _ ?_ ?_
      focus((try dsimp only);first |exact Keeps.trans (by assumption) (by assumption)|exact ah (by assumption) _|exact hHeld|exact ag (by assumption) aJ jD)
      clear hK K hHeld
      intro hHeld
      try simp only[kP]
      refine wpAnyH_ready (rs:=[8]) (by kernel_rfl) (by simp) ?_
      refine AllReadyH.cons (o:= ?_) ?_ (fun K hK=> ?_) ?_
      rotate_left 1
      focus(simp only[kG];exact rfl)
      ·rw[if_pos (by rfl)]
       go_simp
       refine hK.out _ _ ?_ ?_
       focus((try dsimp only);first |exact Keeps.trans (by assumption) (by assumption)|exact ah (by assumption) _|exact hHeld|exact ag (by assumption) aJ jD)
       clear hK K hHeld
       intro hHeld
       try simp only[kP]
       refine wpAnyH_done (by kernel_rfl) ?_ _
       (go_wp2;go_meet;case rel=>exact⟨by assumption,rfl⟩)
      exact AllReadyH.nil
     exact AllReadyH.nil
    exact AllReadyH.nil
   refine AllReadyH.cons (o:= ?_) ?_ (fun K hK=> ?_) ?_
   rotate_left 1
   focus(simp only[kG];exact rfl)
   ·rw[if_pos (by rfl)]
    go_simp;have jD:=hHeld.size
    refine hK.out _ _ ?_ ?_
    focus((try dsimp only);first |exact Keeps.trans (by assumption) (by assumption)|exact ah (by assumption) _|exact hHeld|exact ag (by assumption) aJ jD)
    clear hK K hHeld
    intro hHeld
    try simp only[kP]
    refine wpAnyH_ready (rs:=[2]) (by kernel_rfl) (by simp) ?_
    refine AllReadyH.cons (o:= ?_) ?_ (fun K hK=> ?_) ?_
    rotate_left 1
    focus(simp only[kG];exact rfl)
    ·rw[if_pos (by rfl)]
     go_simp;go_at_call 46;refine(HKEY.o g _ (by first |exact hrow|exact hrow.keeps (ah (Keeps.refl _) _))).mono ?_;rintro e W2 ⟨rfl,hk2⟩
     refine hK.out _ _ ?_ ?_
     focus((try dsimp only);first |exact Keeps.trans (by assumption) (by assumption)|exact ah (by assumption) _|exact hHeld|exact ag (by assumption) aJ jD)
     clear hK K hHeld
     intro hHeld
     try simp only[kP]
     refine wpAnyH_take (i:=3) (oi:= ?_) (v:= ?_) ?_ ?_ ?_ ?_ ?_ (Or.inl ⟨?_,?_⟩) ?_ ?_
     rotate_left 2
     focus(simp only[kG];exact rfl)
     iterate 3 focus kernel_rfl
     focus(exact fun _ _ _ h=>h)
     focus rfl
     focus((intro w hSw;(try dsimp only at hSw);go_simp)<;>with_reducible rfl)
     focus assumption
     try simp only[kP]
     refine wpAnyH_take (i:=4) (oi:= ?_) (v:= ?_) ?_ ?_ ?_ ?_ ?_ (Or.inl ⟨?_,?_⟩) ?_ ?_
     rotate_left 2
     focus(simp only[kG];exact rfl)
     iterate 3 focus kernel_rfl
     focus(exact fun _ _ _ h=>h)
     focus rfl
     focus((intro w hSw;(try dsimp only at hSw);go_simp)<;>with_reducible rfl)
     focus assumption
     try simp only[kP]
     refine wpAnyH_take (i:=5) (oi:= ?_) (v:= ?_) ?_ ?_ ?_ ?_ ?_ (Or.inl ⟨?_,?_⟩) ?_ ?_
     rotate_left 2
     focus(simp only[kG];exact rfl)
     iterate 3 focus kernel_rfl
     focus(exact fun _ _ _ h=>h)
     focus rfl
     focus((intro w hSw;(try dsimp only at hSw);go_simp)<;>with_reducible rfl)
     focus assumption
     try simp only[kP]
     refine wpAnyH_ready (rs:=[7]) (by kernel_rfl) (by simp) ?_
     refine AllReadyH.cons (o:= ?_) ?_ (fun K hK=> ?_) ?_
     rotate_left 1
     focus(simp only[kG];exact rfl)
     ·rw[if_pos (by rfl)]
      refine de 95 (.tmp 3) (.tmp 9) rfl _ 0 rfl [.int .u64 0,.int .u64 0,.int .u64 0,.int .u64 0] (X.map (Value.int .u64)) rfl (by first |exact Row.new _ _ _ rfl|exact(Row.new _ _ _ rfl).keeps hk2|exact((Row.new _ _ _ rfl).keeps hk1).keeps hk2) (by simp[hwl]) (by rw[aF,hwl];exact aE) (ai _) ?_;intro W9 aR aJ
      refine hK.out _ _ ?_ ?_
      focus((try dsimp only);first |exact Keeps.trans (by assumption) (by assumption)|exact ah (by assumption) _|exact hHeld|exact ag (by assumption) aJ jD)
      clear hK K hHeld
      intro hHeld
      try simp only[kP]
      refine wpAnyH_ready (rs:=[8]) (by kernel_rfl) (by simp) ?_
      refine AllReadyH.cons (o:= ?_) ?_ (fun K hK=> ?_) ?_
      rotate_left 1
      focus(simp only[kG];exact rfl)
      ·rw[if_pos (by rfl)]
       go_simp
       refine hK.out _ _ ?_ ?_
       focus((try dsimp only);first |exact Keeps.trans (by assumption) (by assumption)|exact ah (by assumption) _|exact hHeld|exact ag (by assumption) aJ jD)
       clear hK K hHeld
       intro hHeld
       try simp only[kP]
       refine wpAnyH_done (by kernel_rfl) ?_ _
       (go_wp2;go_meet;case rel=>exact⟨by assumption,rfl⟩)
      exact AllReadyH.nil
     exact AllReadyH.nil
    exact AllReadyH.nil
   exact AllReadyH.nil
  refine AllReadyH.cons (o:= ?_) ?_ (fun K hK=> ?_) ?_
  rotate_left 1
  focus(simp only[kG];exact rfl)
  ·rw[if_pos (by rfl)]
   go_simp;have jD:=hHeld.size
   refine hK.out _ _ ?_ ?_
   focus((try dsimp only);first |exact Keeps.trans (by assumption) (by assumption)|exact ah (by assumption) _|exact hHeld|exact ag (by assumption) aJ jD)
   clear hK K hHeld
   intro hHeld
   try simp only[kP]
   refine wpAnyH_ready (rs:=[0]) (by kernel_rfl) (by simp) ?_
   refine AllReadyH.cons (o:= ?_) ?_ (fun K hK=> ?_) ?_
   rotate_left 1
   focus(simp only[kG];exact rfl)
   ·rw[if_pos (by rfl)]
    go_simp;go_at_call 45;refine(FH.o _).mono ?_;rintro e W1 ⟨g,rfl,hk1,hgg,hrow⟩
    refine hK.out _ _ ?_ ?_
    focus((try dsimp only);first |exact Keeps.trans (by assumption) (by assumption)|exact ah (by assumption) _|exact hHeld|exact ag (by assumption) aJ jD)
    clear hK K hHeld
    intro hHeld
    try simp only[kP]
    refine wpAnyH_ready (rs:=[2]) (by kernel_rfl) (by simp) ?_
    refine AllReadyH.cons (o:= ?_) ?_ (fun K hK=> ?_) ?_
    rotate_left 1
    focus(simp only[kG];exact rfl)
    ·rw[if_pos (by rfl)]
     go_simp;go_at_call 46;refine(HKEY.o g _ (by first |exact hrow|exact hrow.keeps (ah (Keeps.refl _) _))).mono ?_;rintro e W2 ⟨rfl,hk2⟩
     refine hK.out _ _ ?_ ?_
     focus((try dsimp only);first |exact Keeps.trans (by assumption) (by assumption)|exact ah (by assumption) _|exact hHeld|exact ag (by assumption) aJ jD)
     clear hK K hHeld
     intro hHeld
     try simp only[kP]
     refine wpAnyH_take (i:=3) (oi:= ?_) (v:= ?_) ?_ ?_ ?_ ?_ ?_ (Or.inl ⟨?_,?_⟩) ?_ ?_
     rotate_left 2
     focus(simp only[kG];exact rfl)
     iterate 3 focus kernel_rfl
     focus(exact fun _ _ _ h=>h)
     focus rfl
     focus((intro w hSw;(try dsimp only at hSw);go_simp)<;>with_reducible rfl)
     focus assumption
     try simp only[kP]
     refine wpAnyH_take (i:=4) (oi:= ?_) (v:= ?_) ?_ ?_ ?_ ?_ ?_ (Or.inl ⟨?_,?_⟩) ?_ ?_
     rotate_left 2
     focus(simp only[kG];exact rfl)
     iterate 3 focus kernel_rfl
     focus(exact fun _ _ _ h=>h)
     focus rfl
     focus((intro w hSw;(try dsimp only at hSw);go_simp)<;>with_reducible rfl)
     focus assumption
     try simp only[kP]
     refine wpAnyH_take (i:=5) (oi:= ?_) (v:= ?_) ?_ ?_ ?_ ?_ ?_ (Or.inl ⟨?_,?_⟩) ?_ ?_
     rotate_left 2
     focus(simp only[kG];exact rfl)
     iterate 3 focus kernel_rfl
     focus(exact fun _ _ _ h=>h)
     focus rfl
     focus((intro w hSw;(try dsimp only at hSw);go_simp)<;>with_reducible rfl)
     focus assumption
     try simp only[kP]
     refine wpAnyH_ready (rs:=[7]) (by kernel_rfl) (by simp) ?_
     refine AllReadyH.cons (o:= ?_) ?_ (fun K hK=> ?_) ?_
     rotate_left 1
     focus(simp only[kG];exact rfl)
     ·rw[if_pos (by rfl)]
      refine de 95 (.tmp 3) (.tmp 9) rfl _ 0 rfl [.int .u64 0,.int .u64 0,.int .u64 0,.int .u64 0] (X.map (Value.int .u64)) rfl (by first |exact Row.new _ _ _ rfl|exact(Row.new _ _ _ rfl).keeps hk2|exact((Row.new _ _ _ rfl).keeps hk1).keeps hk2) (by simp[hwl]) (by rw[aF,hwl];exact aE) (ai _) ?_;intro W9 aR aJ
      refine hK.out _ _ ?_ ?_
      focus((try dsimp only);first |exact Keeps.trans (by assumption) (by assumption)|exact ah (by assumption) _|exact hHeld|exact ag (by assumption) aJ jD)
      clear hK K hHeld
      intro hHeld
      try simp only[kP]
      refine wpAnyH_ready (rs:=[8]) (by kernel_rfl) (by simp) ?_
      refine AllReadyH.cons (o:= ?_) ?_ (fun K hK=> ?_) ?_
      rotate_left 1
      focus(simp only[kG];exact rfl)
      ·rw[if_pos (by rfl)]
       go_simp
       refine hK.out _ _ ?_ ?_
       focus((try dsimp only);first |exact Keeps.trans (by assumption) (by assumption)|exact ah (by assumption) _|exact hHeld|exact ag (by assumption) aJ jD)
       clear hK K hHeld
       intro hHeld
       try simp only[kP]
       refine wpAnyH_done (by kernel_rfl) ?_ _
       (go_wp2;go_meet;case rel=>exact⟨by assumption,rfl⟩)
      exact AllReadyH.nil
     exact AllReadyH.nil
    exact AllReadyH.nil
   exact AllReadyH.nil
  exact AllReadyH.nil
 case rest=>
  obtain⟨hk,rfl⟩:=hcut
  have aA:=ae (HK.o.trans hk)
  clear hk
  go_wp2
  go_ret
  exact⟨rfl,aA.o⟩
def val(B:Int):List Int→Int
 |[]=>0
 |a::l=>a+B*val B l
def dj(B:Int)(l:List Int):Prop:=∀x∈l,0≤x∧x<B
theorem dj.getD {B:Int}{l:List Int}(h:dj B l){i:Nat}(hi:i<l.length):0≤l.getD i 0∧l.getD i 0<B:=by
 have :l.getD i 0=l[i]:=by simp[List.getD,hi]
 rw[this];exact h _ (List.getElem_mem hi)
theorem dj.set {B:Int}{l:List Int}(h:dj B l)(j:Nat){r:Int}(h0:0≤r)(h1:r<B):dj B (l.set j r):=fun x hx=>by
 rcases List.mem_or_eq_of_mem_set hx with hx|rfl
 ·exact h _ hx
 ·exact⟨h0,h1⟩
theorem dj.take {B:Int}{l:List Int}(h:dj B l)(n:Nat):dj B (l.take n):=fun x hx=>h x (List.mem_of_mem_take hx)
theorem dj.drop {B:Int}{l:List Int}(h:dj B l)(n:Nat):dj B (l.drop n):=fun x hx=>h x (List.mem_of_mem_drop hx)
theorem dj.append {B:Int}{a b:List Int}(h:dj B a)(h':dj B b):dj B (a++b):=fun x hx=>by
 rcases List.mem_append.1 hx with hx|hx
 ·exact h x hx
 ·exact h' x hx
theorem dj.zeros {B:Int}(hB:0<B)(n:Nat):dj B (List.replicate n 0):=fun x hx=>by
 have :=List.eq_of_mem_replicate hx
 omega
theorem kZ(B:Int)(r:Int):∀(l:List Int) (j:Nat),j<l.length→val B (l.set j r)=val B l+(r -l.getD j 0)*B^j
 |[],_,h=>by simp at h
 |a::l,0,_=>by simp[val];omega
 |a::l,j+1,h=>by
  have ih:=kZ B r l j (by simpa using h)
  simp only[List.set_cons_succ,val,List.getD_cons_succ,ih,Int.pow_succ,Int.mul_add]
  rw[show B*((r -l.getD j 0)*B^j)=(r -l.getD j 0)*(B^j*B) by rw[Int.mul_comm B,Int.mul_assoc]]
  omega
theorem val_append(B:Int)(b:List Int):∀(a:List Int),val B (a++b)=val B a+B^a.length*val B b
 |[]=>by simp[val]
 |x::a=>by
  simp only[List.cons_append,val,val_append B b a,List.length_cons,Int.pow_succ,Int.mul_add]
  rw[show B^a.length*B*val B b=B*(B^a.length*val B b) by rw[Int.mul_comm (B^a.length) B,Int.mul_assoc]]
  omega
theorem jd(B:Int):∀n,val B (List.replicate n 0)=0
 |0=>rfl
 |n+1=>by rw[List.replicate_succ,val,jd B n];simp
theorem dW{B:Int}(hB:0<B):∀{l:List Int},dj B l→0≤val B l∧val B l<B^l.length
 |[],_=>by simp[val]
 |a::l,h=>by
  have ih:=dW hB (l:=l) (fun x hx=>h x (by simp[hx]))
  have ha:=h a (by simp)
  simp only[val,List.length_cons,Int.pow_succ]
  have h1:0≤B*val B l:=Int.mul_nonneg (Int.le_of_lt hB) ih.1
  have h2:B*val B l≤B*(B^l.length -1):=Int.mul_le_mul_of_nonneg_left (by omega) (Int.le_of_lt hB)
  have h3:B*(B^l.length -1)=B^l.length*B -B:=by rw[Int.mul_sub,Int.mul_one,Int.mul_comm]
  omega
theorem uX(B:Int)(l:List Int)(n:Nat)(h:n≤l.length):val B l=val B (l.take n)+B^n*val B (l.drop n):=by
 conv=>lhs;rw[←List.take_append_drop n l]
 rw[val_append,List.length_take,Nat.min_eq_left h]
theorem my{B:Int}(hB:0<B){l:List Int}(h:dj B l){j:Nat}(hj:j<l.length):l.getD j 0=val B l/B^j%B:=by
 have hp:0<B^j:=Int.pow_pos hB
 have h1:=dW hB (h.take j)
 rw[List.length_take,Nat.min_eq_left (by omega)]at h1
 rw[uX B l j (by omega),Int.add_mul_ediv_left _ _ (Int.ne_of_gt hp),Int.ediv_eq_zero_of_lt h1.1 h1.2,Int.zero_add,List.drop_eq_getElem_cons hj,val,Int.add_mul_emod_self_left]
 have :l.getD j 0=l[j]:=by simp[List.getD,hj]
 have h2:=h.getD hj
 rw[←this,Int.emod_eq_of_lt h2.1 h2.2]
theorem oW{B:Int}{L:List Int}{i k:Nat}{a b c c' t' T0 y:Int}(hB:0<B)(hl:i+k<L.length)(hb:b=y/B^k%B)
 (h:val B L+c*B^(i+k)=T0+a*(y%B^k)*B^i) (e:t' +B*c' =a*b+c+L.getD (i+k) 0):val B (L.set (i+k) t')+c' *B^(i+(k+1))=T0+a*(y%B^(k+1))*B^i:=by
 rw[kZ B t' L (i+k) hl,dS y B hB k,←hb]
 have e1:c' *B^(i+(k+1))=(B*c')*B^(i+k):=by rw[←Nat.add_assoc,Int.pow_succ,Int.mul_comm B c',Int.mul_assoc,Int.mul_comm B]
 have e2:a*(y%B^k+B^k*b)*B^i=a*(y%B^k)*B^i+(a*b)*B^(i+k):=by
  rw[Int.mul_add,Int.add_mul,Int.pow_add]
  congr 1
  rw[Int.mul_comm (B^k) b,←Int.mul_assoc a,Int.mul_assoc (a*b),Int.mul_comm (B^k)]
 rw[e1,e2,←Int.add_assoc,←h]
 have e3:(t' -L.getD (i+k) 0)*B^(i+k)+B*c' *B^(i+k)=c*B^(i+k)+a*b*B^(i+k):=by
  rw[←Int.add_mul,←Int.add_mul]
  congr 1
  omega
 omega
theorem mA{B:Int}{L:List Int}{k:Nat}{c c' t' C:Int}(hl:k<L.length)(h:val B L+c*B^k=C)(e:t' +B*c' =L.getD k 0+c):val B (L.set k t')+c' *B^(k+1)=C:=by
 rw[kZ B t' L k hl,←h]
 have e1:c' *B^(k+1)=(B*c')*B^k:=by rw[Int.pow_succ,Int.mul_comm B c',Int.mul_assoc,Int.mul_comm B]
 have e3:(t' -L.getD k 0)*B^k+B*c' *B^k=c*B^k:=by
  rw[←Int.add_mul]
  congr 1
  omega
 rw[e1]
 omega
theorem sC{B:Int}{L:List Int}{k:Nat}{c C:Int}(hB:0<B)(hd:dj B L)(hc:0≤c)(h:val B L+c*B^k=C)(hC:C<B^k):c=0:=by
 have h1:=(dW hB hd).1
 refine Classical.byContradiction fun hne=> ?_
 have h2:B^k*1≤B^k*c:=Int.mul_le_mul_of_nonneg_left (by omega) (Int.le_of_lt (Int.pow_pos hB))
 rw[Int.mul_comm (B^k) c]at h2
 omega
theorem Cs{B:Int}(h:1≤B){n:Nat}:∀{k:Nat},n≤k→B^n≤B^k
 |0,h' =>by obtain rfl:n=0:=by omega
            exact Int.le_refl _
 |k+1,h' =>by
  by_cases e:n=k+1
  ·subst e;exact Int.le_refl _
  · have h1:=Cs h (n:=n) (k:=k) (by omega)
    have h2:0<B^k:=Int.pow_pos (by omega)
    have h3:B^k*1≤B^k*B:=Int.mul_le_mul_of_nonneg_left h (Int.le_of_lt h2)
    rw[Int.pow_succ]
    omega
theorem qU{B:Int}{L:List Int}{k n:Nat}{c C:Int}(hB:1≤B)(hd:dj B L)(hc:0≤c)(hc0:¬c=0)(h:val B L+c*B^k=C)(hC:C<B^n):k<n:=by
 refine Nat.lt_of_not_le fun hle=>hc0 (sC (by omega) hd hc h (Int.lt_of_lt_of_le hC ?_))
 exact Cs hB hle
theorem nd{B:Int}{L:List Int}{i:Nat}{T0 a y:Int}(h:val B L=T0):val B L+0*B^(i+0)=T0+a*(y%B^0)*B^i:=by simp[h,Int.emod_one]
theorem Ct{B:Int}{L:List Int}{i n:Nat}{c x y:Int}(hB:0<B)(hl:i+n<L.length)(h0:L.getD (i+n) 0=0)(hy:0≤y)(hy':y<B^n)
 (h:val B L+c*B^(i+n)=x%B^i*y+x/B^i%B*(y%B^n)*B^i):val B (L.set (i+n) c)=x%B^(i+1)*y:=by
 rw[kZ B c L _ hl,h0,Int.sub_zero,h,Int.emod_eq_of_lt hy hy',dS x B hB i,Int.add_mul]
 congr 1
 rw[Int.mul_comm (B^i),Int.mul_assoc,Int.mul_assoc,Int.mul_comm y]
theorem DC{l:List Int}(h:dj 18446744073709551616 l)(hl:l.length=4):l=words (val 18446744073709551616 l):=by
 apply List.ext_getElem (by rw[hl,ak])
 intro j h1 h2
 have e:=my (by decide) h h1
 have e2:=dR (val 18446744073709551616 l) j (by omega)
 rw[←e2]at e
 simpa[List.getD,h1,h2]using e
theorem yq(v:Int):dj 4294967296 (ax v):=fun x hx=>by
 obtain⟨i,hi,rfl⟩:=List.mem_map.1 hx
 omega
theorem k3{l:List Int}(h:dj 4294967296 l)(hl:l.length=8):l=ax (val 4294967296 l):=by
 apply List.ext_getElem (by rw[hl,am])
 intro j h1 h2
 have e:=my (by decide) h h1
 have e2:=cr (val 4294967296 l) j (by omega)
 rw[←e2]at e
 simpa[List.getD,h1,h2]using e
theorem sD(v:Int):val 4294967296 (ax v)=v%115792089237316195423570985008687907853269984665640564039457584007913129639936:=by
 simp[ax,List.range_succ,val]
 omega
theorem uY{a b c t:Int}(ha:0≤a∧a<18446744073709551616)(hb:0≤b∧b<18446744073709551616)(hc:0≤c∧c<18446744073709551616)(ht:0≤t∧t<18446744073709551616):
 ∃hi lo lo1 c1 t1 c2:Int,a*b/18446744073709551616=hi∧a*b%18446744073709551616=lo∧(lo+c+0)/18446744073709551616=c1∧(lo+c+0)%18446744073709551616=lo1∧(t+lo1+0)/18446744073709551616=c2∧(t+lo1+0)%18446744073709551616=t1∧
  0≤hi∧hi+c1<18446744073709551616∧0≤lo∧lo<18446744073709551616∧0≤lo1∧lo1<18446744073709551616∧0≤c1∧c1≤1∧0≤c2∧c2≤1∧0≤t1∧t1<18446744073709551616∧hi+c1+c2<18446744073709551616∧t1+18446744073709551616*(hi+c1+c2)=a*b+c+t:=by
 have h0:0≤a*b:=Int.mul_nonneg ha.1 hb.1
 have h1:a*b≤18446744073709551615*18446744073709551615:=Int.le_trans (Int.mul_le_mul_of_nonneg_right (show a≤18446744073709551615 by omega) hb.1) (Int.mul_le_mul_of_nonneg_left (by omega) (by decide))
 generalize a*b=p at *
 refine⟨_,_,_,_,_,_,rfl,rfl,rfl,rfl,rfl,rfl,?_⟩
 omega
theorem oX(k:IntKind)(x y:Int):bits .or k x y=bits .or k y x:=by
 unfold bits;simp only[BitVec.or_comm]
theorem k4(b:BitVec 64):IntKind.u64.wrap (b.toNat:Int)=(b.toNat:Int):=by
 have :=b.isLt
 rw[IntKind.wrap_u64];omega
theorem nK(x y:Int):0≤bits .or .u64 x y∧bits .or .u64 x y<18446744073709551616:=by
 have e:bits .or .u64 x y=(((BitVec.ofInt 64 x|||BitVec.ofInt 64 y):BitVec 64).toNat:Int):=k4 _
 rw[e]
 have :=(BitVec.ofInt 64 x|||BitVec.ofInt 64 y).isLt
 omega
theorem oY{x:Int}(h0:0≤x)(h1:x<18446744073709551616):BitVec.ofInt 64 x=0#64↔x=0:=by
 constructor
 ·intro h
  have :=congrArg BitVec.toNat h
  rw[BitVec.toNat_ofInt]at this
  simp at this
  omega
 ·rintro rfl;rfl
theorem fI{x y:Int}(h0:0≤x)(h1:x<18446744073709551616)(h2:0≤y)(h3:y<18446744073709551616):bits .or .u64 x y=0↔x=0∧y=0:=by
 have e:bits .or .u64 x y=(((BitVec.ofInt 64 x|||BitVec.ofInt 64 y):BitVec 64).toNat:Int):=k4 _
 rw[e,←oY h0 h1,←oY h2 h3,←BitVec.or_eq_zero_iff]
 constructor
 ·intro h
  apply BitVec.eq_of_toNat_eq
  simpa using h
 ·intro h
  rw[h];rfl
theorem eU{x:Int}(h0:0≤x)(h1:x<18446744073709551616):bits .and .u64 x 1=x%2:=by
 have e:bits .and .u64 x 1=(((BitVec.ofInt 64 x&&& BitVec.ofInt 64 1):BitVec 64).toNat:Int):=k4 _
 rw[e,BitVec.toNat_and,BitVec.toNat_ofInt,BitVec.toNat_ofInt]
 obtain⟨n,rfl⟩:=Int.eq_ofNat_of_zero_le h0
 have e1:((n:Int)%((2^64:Nat):Int)).toNat=n:=by omega
 have e2:((1:Int)%((2^64:Nat):Int)).toNat=1:=by decide
 rw[e1,e2,Nat.and_one_is_mod]
 omega
end Go.Proofs.YtlofddoojkeakaaGreatDoor
