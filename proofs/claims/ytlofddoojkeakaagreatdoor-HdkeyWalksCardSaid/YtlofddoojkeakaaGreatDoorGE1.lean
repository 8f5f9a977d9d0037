/- strongboxlaw06.awake: yes. strongboxlaw06.Told. -/
import Derived.Test.YtlofddoojkeakaaGreatDoorGD5
import Derived.Test.YtlofddoojkeakaaGreatDoorGE0
import Derived.Test.YtlofddoojkeakaaGreatDoorGC5
import Derived.Test.YtlofddoojkeakaaGreatDoorGA6
set_option maxRecDepth 100000
set_option maxHeartbeats 4000000
set_option linter.unusedVariables false
set_option linter.unusedSimpArgs false
namespace Go.Proofs.YtlofddoojkeakaaGreatDoor
open Go Go.RowKit Go.Shelf
theorem vX(i:Nat)(h:i<100)(W:World):Calls Tryz.prog 40 #[.int .u64 i,.int .i64 10] W fun e w' =>e= .returned (.string ⟨(Lib.decDigits i).toArray⟩)∧w' =W:=by
 have h0:(i:Int)<100:=by omega
 have hin:Calls Tryz.prog 74 #[.int .u64 i,.int .i64 10] W fun e w' =>e= .returned (.string ⟨(Lib.decDigits i).toArray⟩)∧w' =W:=by
  go_enter Tryz.func74,Tryz.ntmps74
  go_wp2_with (go_at_call 108;refine(Tryz.internal_strconv_small i h W).mono ?_;rintro e w' ⟨rfl,rfl⟩)
  go_ret
  exact⟨rfl,rfl⟩
 have uT:=ae hin
 clear hin
 go_enter Tryz.func40,Tryz.ntmps40
 go_wp2_with (go_at_call 74;refine uT.o.mono ?_;rintro e w' ⟨rfl,rfl⟩)
 go_ret
 exact⟨rfl,rfl⟩
theorem IQ:nI 2147483648=[48]:=by
 unfold nI
 rw[show((2147483648:Int)%2147483648).toNat=0 by decide,Lib.decDigits,dif_pos (by omega)];rfl
theorem Ko:nI 1=[49]:=by
 unfold nI
 rw[show((1:Int)%2147483648).toNat=1 by decide,Lib.decDigits,dif_pos (by omega)];rfl
theorem Ak:tR [2147483648,1]=[109,47,48,39,47,49]:=by
 unfold tR
 rw[List.flatMap_cons,List.flatMap_cons,List.flatMap_nil,tS (by decide),tT (by decide),IQ,Ko];rfl
def jB:List Int:=[0,1,2,3,4,5,6,7,8,9,10,11,12,13,14,15]
theorem Dl:ey (be ((il jB).take 32))=true∧((il jB).take 32).getD 0 0=232:=by decide+kernel
theorem Kp:jR jB=(cJ ((il jB).drop 32) ((il jB).take 32),0):=by
 unfold jR
 rw[if_pos (show B2 jB.length=true from rfl),if_pos Dl.1]
theorem IR(g:Nat)(W:World)(hr:Row W g 0 (([2147483648,1]:List Int).map (Value.int .u32)))(hg:g<W.heap.size):Calls Tryz.prog 19 #[.slice (some ⟨g,0,none⟩) 2 2] W fun e w' =>e= .returned (.string ⟨#[109,47,48,39,47,49]⟩)∧Keeps W w':=by
 have h:=IO (.slice (some ⟨g,0,none⟩) 2 2) 2 [2147483648,1] W (Rd.bQ hr rfl hg (Nat.le_refl _) (by unfold maxLen;omega)) rfl (fun x hx=>by
  simp only[List.mem_cons,List.not_mem_nil,or_false]at hx
  rcases hx with rfl|rfl<;>exact⟨by omega,by omega⟩) (by rw[Ak];decide) (by omega) (fun x hx W=>by
  simp only[List.mem_cons,List.not_mem_nil,or_false]at hx
  rcases hx with rfl|rfl
  · have :=vX 0 (by omega) W
    exact this
  · have :=vX 1 (by omega) W
    exact this)
 rw[Ak]at h
 exact h
theorem vY(w:World):Calls Tryz.prog 5 #[] w fun e w' =>e= .returned (.bool true)∧Keeps w w':=by
 have hcl:((il jB).drop 32).length=32:=by rw[List.length_drop,lu]
 have hzl:((il jB).take 32).length=32:=by rw[List.length_take,lu];omega
 have HM:=ae (fun(W:World) (v:Value) (hr:Rd W 1 v 16 (jB.map (Value.int .u8)))=>B3 v 16 jB W hr (by unfold Bytes Byte jB;decide) rfl)
 have Ny:=Dl.2
 rw[Kp]at HM
 simp only at HM
 generalize(il jB).drop 32=CC at *
 generalize(il jB).take 32=ZZ at *
 obtain⟨Z',rfl⟩:∃Z',ZZ=232::Z':=by
  cases ZZ with
  |nil=>cases hzl
  |cons x r=>simp[List.getD]at Ny;exact⟨r,by rw[Ny]⟩
 clear Ny
 have xP:=ae (xF hcl hzl)
 have vV:=ae (gY hcl hzl)
 have Jj:=ae (kK CC (232::Z'))
 have EO:=ae (fun W=>(show Calls Tryz.prog 10 #[.agg (cJ CC (232::Z')).toArray] W _ from rz (d:=0) (ch:=0) (fg:=Z4) rfl hcl W))
 have HD:=ae (fun(W:World) (p:Nat) (hr:Row W p 0 (cJ CC (232::Z')))=>(key_data hr rfl hcl 1 (.int .u8 232) rfl).1)
 generalize cJ CC (232::Z')=K at *
 clear hcl hzl
 go_enter Tryz.func5,Tryz.ntmps5
 have gQ:=ae (show Rd (w.alloc (.cells (jB.map (Value.int .u8)).toArray 5)) 1 (.slice (some ⟨w.heap.size,0,none⟩) 16 16) 16 (jB.map (Value.int .u8))from Rd.bQ (Row.new _ _ _ rfl) rfl (by simp) (by omega) (by unfold maxLen;omega))
 go_upto_region 2 with(first
  |(go_at_call 18;refine(HM.o _ _ gQ.o).mono ?_;rintro e W2 ⟨rfl,hk2⟩;have aq:=ae hk2;clear hk2)
  |(refine wpList_store_row rfl 29 (.tmp 1) (.tmp 6) rfl W2.heap.size 0 rfl (cJ cw cw) K rfl (Row.new _ _ _ rfl) vV.o xP.o Jj.o ?_;intro W3 hr3 hc3;have HR3:=ae hr3;have bS:=ae (ag (ah (Keeps.refl W2) _) hc3 (Nat.le_refl _));clear hr3 hc3))
 have aA:=ae (show Keeps w W3 from(Keeps.trans (ah (Keeps.refl w) _) aq.o).trans bS.o)
 clear aq bS gQ HM vV Jj
 generalize W2.heap.size=q at *
 have hTL:(ByteArray.mk #[109,47,48,39,47,49]).toList=[109,47,48,39,47,49]:=by decide+kernel
 go_wp2_with (first
  |(refine dO (by kernel_rfl) 29 (.tmp 1) rfl q 0 rfl _ _ HR3.o Tryz.underlying29 rfl xP.o ?_)
  |(go_at_call 10;refine(EO.o _).mono ?_;rintro e W4 ⟨rfl,hk4⟩;have gR:=ae hk4;have YD:=HD.o _ _ (HR3.o.keeps hk4);clear hk4)
  |(go_at_call 19;refine(IR _ _ (Row.new _ _ _ rfl) (by simp)).mono ?_;rintro e W5 ⟨rfl,hk5⟩;have cG:=ae (show Keeps W4 W5 from Keeps.trans (ah (Keeps.refl W4) _) hk5);clear hk5))
 go_ret
 exact⟨by first |rfl|exact fU (by simp),(aA.o.trans gR.o).trans cG.o⟩
end Go.Proofs.YtlofddoojkeakaaGreatDoor
namespace Go.Proofs.YtlofddoojkeakaaGreatDoor
open Go Go.RowKit
theorem rG(off:Nat):∀(new:List Value) (k:Nat) (pre olds post:List Value),olds.length=new.length→pre.length=off+k→
 (new.zipIdx k).foldl (fun(cs:Array Value) (x:Value×Nat)=>cs.setIfInBounds (off+x.2) x.1) (pre++olds++post).toArray=(pre++new++post).toArray
 |[],k,pre,olds,post,h,_=>by
  obtain rfl:olds=[]:=List.eq_nil_of_length_eq_zero (by simpa using h)
  rfl
 |v::new,k,pre,[],post,h,_=>by simp at h
 |v::new,k,pre,u::olds,post,h,hp=>by
  rw[List.zipIdx_cons,List.foldl_cons]
  have e:(pre++u::olds++post).toArray.setIfInBounds (off+k) v=((pre++[v])++olds++post).toArray:=by
   rw[List.setIfInBounds_toArray,←hp]
   simp
  show List.foldl _ ((pre++u::olds++post).toArray.setIfInBounds (off+k) v) _=_
  rw[e,rG off new (k+1) (pre++[v]) olds post (by simpa using h) (by simp;omega)]
  simp
theorem ev(place:Nat→Option (Nat×Nat))(pre olds post new:List Value)(i:Nat)(v:Value)(rest:List (Nat×Value))(hv:v.cells=new.toArray)(hl:olds.length=new.length)(hp:place i=some (pre.length,new.length)):
 Instr.fill place (pre++olds++post).toArray ((i,v)::rest)=Instr.fill place (pre++new++post).toArray rest:=by
 have h0:=rG pre.length new 0 pre olds post hl (by omega)
 rw[Instr.fill,hp]
 simp only[hv]
 rw[if_neg (by simp;omega)]
 congr 1
 rw[←h0,←Array.foldl_toList]
 simp
theorem Le:(Tryz.prog.info? 22).map (·.size)=some 4:=by kernel_rfl
theorem pR(D:Nat)(t:TypeId)(k:IntKind)(x:Int)(hu:Tryz.prog.underlying t=some (.int k))(hw:(Lit.int k x).wf=true):Tryz.prog.keyLits (D+1) t [.int k x]=some [.int k x]:=by
 unfold Program.keyLits
 rw[hu]
 simp only[hw,and_self,if_true]
theorem iW{x:Int}(h:Byte x):(Lit.int .u8 x).wf=true:=by
 obtain⟨h0,h1⟩:=h
 unfold Lit.wf
 rw[Bool.and_eq_true,decide_eq_true_eq,decide_eq_true_eq]
 exact⟨show(0:Int)≤x from h0,show x≤(255:Int) by omega⟩
end Go.Proofs.YtlofddoojkeakaaGreatDoor
namespace Go.Proofs.YtlofddoojkeakaaGreatDoor
open Go Go.RowKit Cv
theorem gw{P:Program}{w:World}{ops:Array Oper}{rest:List Oper}{o:Oper}{a:Act}{Q:Exit→Act→World→Prop}(hgd:o.guard=none)(T:TypeId)(x y:Operand)(ho:o.op= .store T x y)
 (g off:Nat) (hx:a.eval x= .pointer (some ⟨g,off,none⟩)) (vs cs:List Value) (hy:a.eval y= .agg cs.toArray) (hg:Row w g 0 vs) (hl:off+cs.length≤vs.length)
 (hi:(P.info? T).map (·.size)=some cs.length) (h1:∀v∈cs,v.oneCell' =true)
 (h:∀w',Row w' g 0 (vs.take off++cs++vs.drop (off+cs.length))→bU (· =g) w w'→wpList P ops Q rest (a.put o.dst undef) w'):wpList P ops Q (o::rest) a w:=
 wpList_plain hgd fun _ hK=>by
  have hsub:Row w g off ((vs.drop off).take cs.length):=by
   have :=(hg.drop off).take cs.length
   rwa[Nat.zero_add]at this
  unfold Oper.wp execOp
  simp only[ho,hx,hy,Instr.storeAt,Instr.sureAddr,Sem.run_bind,Sem.run_pure,Result.andThen_ok,run_storeVar_row w g off T _ cs hsub (by rw[List.length_take,List.length_drop];omega) hi h1]
  have :=Row.setCells (w:=w) cs off hg hl
  rw[Nat.zero_add]at this
  exact hK _ _ (h _ this (dh _ _ _ _))
theorem KD.ok.len {k:KD}(h:k.ok):k.cells.length=71:=bp h.fl h.cl h.dl
theorem KD.one (k:KD):∀v∈k.cells,v.oneCell' =true:=pz _ _ _ _ _
theorem KD.ok.sz {k:KD}(h:k.ok):(Tryz.prog.info? 29).map (·.size)=some k.cells.length:=i9 h.fl h.cl h.dl
theorem KD.ok.row38 {k:KD}(h:k.ok){W:World}{p:Nat}(hr:Row W p 0 k.cells):Row W p 38 ((k.x::k.z).map (Value.int .u8)):=key_data hr h.fl h.cl
theorem KD.ok.row39 {k:KD}(h:k.ok){W:World}{p:Nat}(hr:Row W p 0 k.cells):Row W p 39 (k.z.map (Value.int .u8)):=by have :=(h.row38 hr).drop 1;simpa using this
theorem KD.ok.qG {k:KD}(h:k.ok){W:World}{p:Nat}(hr:Row W p 0 k.cells):W.cell? ⟨p,38,none⟩=some (.int .u8 k.x):=(h.row38 hr 0 (.int .u8 k.x) rfl).1
theorem gM(k:KD)(h:k.ok)(w:World):Calls Tryz.prog 10 #[.agg k.cells.toArray] w fun e w' =>e= .returned (.bool (decide (k.x=0)))∧Keeps w w':=by
 have HD:=ae (fun(W:World) (p:Nat) (hr:Row W p 0 k.cells)=>h.qG hr)
 generalize k.cells=X at *
 generalize k.x=x at *
 clear h
 go_enter Tryz.func10,Tryz.ntmps10
 go_upto_region 1 with(fail)
 refine bh (fun W hk hr hs=> ?_)
 have AG:=HD.o _ _ (show Row W w.heap.size 0 X from by simpa using hr)
 have HK:=ae hk
 clear hk hr hs
 go_wp2
 go_ret
 exact⟨by first |rfl|exact fU (by simp)|(rw[show(x==0)=decide (x=0)from rfl]),HK.o⟩
theorem kQ(k:KD)(h:k.ok)(w:World):Calls Tryz.prog 24 #[.agg k.cells.toArray] w fun e w' =>e= .returned (.agg (k.z.map (Value.int .u8)).toArray)∧Keeps w w':=by
 have HD:=ae (fun(W:World) (p:Nat) (hr:Row W p 0 k.cells)=>h.row39 hr)
 have hz:=h.zl
 generalize k.cells=X at *
 generalize k.z=z at *
 clear h
 have hsp:=fun W=>run_arrayAt (P:=Tryz.prog) (w:=W) 24 5 32 (some ⟨w.heap.size,39,none⟩) 32 32 Tryz.underlying24 (Nat.le_refl _)
 go_enter Tryz.func24,Tryz.ntmps24
 go_upto_region 1 with(fail)
 refine bu (fun W hk hr hr2 hs=> ?_)
 have HR:=ae (HD.o _ _ (show Row W w.heap.size 0 X from by simpa using hr))
 obtain⟨Z,hZ,hrz⟩:∃Z:List Value,Z.length=32∧Row W (w.heap.size+1) 0 Z:=⟨_,rfl,hr2⟩
 have aV:=ae hrz;have HK:=ae hk
 clear hk hr hr2 hrz
 go_wp2_with (first |(refine aj rfl 24 (.tmp 5) rfl w.heap.size 39 rfl _ _ HR.o Tryz.underlying24 rfl (by rw[aF,hz];exact bo) ?_)|(refine wpList_store_row rfl 24 (.tmp 2) (.tmp 6) rfl (w.heap.size+1) 0 rfl Z (z.map (Value.int .u8)) rfl aV.o (by rw[aF,hz,hZ]) (by rw[aF,hz];exact bo) (ai _) ?_;intro w9 aR aJ;have H9:=ae aR;have bK:=ae aJ;clear aR aJ))
 exact bodyPost_ret (v:= .agg (z.map (Value.int .u8)).toArray) (ar (p:=2) (ty:=24) rfl _ _ (w.heap.size+1) 0 _ _ rfl H9.o Tryz.underlying24 rfl (by rw[aF,hz];exact bo)) rfl ⟨rfl,ag HK.o bK.o (by omega)⟩
theorem Cd(k:KD)(h:k.ok)(w:World):Calls Tryz.prog 35 #[.agg k.cells.toArray] w fun e w' =>e= .returned (.bool (cF k.x k.z))∧Keeps w w':=by
 have HP:=ae (fun W=>gM k h W)
 have HS:=ae (fun W=>kQ k h W)
 have HV:=ae (fun W=>uW k.z h.zb h.zl W)
 have HI:=ae (fun(v:Value) W (hv:Rd W 1 v 33 ((k.x::k.z).map (Value.int .u8)))=>Ei v (k.x::k.z) h.db W (by rw[h.dl];exact hv))
 have HD:=ae (fun(W:World) (p:Nat) (hr:Row W p 0 k.cells)=>h.row38 hr)
 have ZK:=ae h.sz
 have hdl:=h.dl
 have hne:k.cells≠[]:=fun e=>by have :=h.len;rw[e]at this;cases this
 have hcase:(k.x=0∧cF k.x k.z=ey (be k.z))∨(¬k.x=0∧cF k.x k.z=(eK (k.x::k.z)).isSome):=by
  by_cases hx:k.x=0
  ·exact .inl ⟨hx,by unfold cF;rw[if_pos hx]⟩
  ·exact .inr ⟨hx,by unfold cF;rw[if_neg hx]⟩
 generalize k.cells=X at *
 generalize k.z=z at *
 generalize k.x=x at *
 clear h
 rcases hcase with⟨hx,he⟩|⟨hx,he⟩
 ·rw[he]
  rw[decide_eq_true hx]at HP
  clear he hx HI
  generalize ey (be z)=KB at *
  go_enter Tryz.func35,Tryz.ntmps35
  go_upto_region 1 with(fail)
  refine bh (fun W hk hr hs=> ?_)
  have HR:=ae (show Row W w.heap.size 0 X from by simpa using hr);have HK:=ae hk
  clear hk hr hs
  go_wp2_with (first |(refine aj rfl 29 (.tmp 1) rfl w.heap.size 0 rfl _ _ (by first |exact HR.o|exact HR.o.keeps bw.o) Tryz.underlying29 rfl ZK.o ?_)|(go_at_call 10;refine(HP.o _).mono ?_;rintro e W1 ⟨rfl,hk1⟩;have bw:=ae hk1;clear hk1)|(go_at_call 24;refine(HS.o _).mono ?_;rintro e W2 ⟨rfl,hk2⟩;have aq:=ae hk2;clear hk2)|(go_at_call 71;refine(HV.o _).mono ?_;rintro e W3 ⟨rfl,hk3⟩;have bS:=ae hk3;clear hk3))
  go_ret
  exact⟨rfl,((HK.o.trans bw.o).trans aq.o).trans bS.o⟩
 ·rw[he]
  rw[decide_eq_false hx]at HP
  clear he hx HV HS
  generalize(eK (x::z)).isSome=KB at *
  go_enter Tryz.func35,Tryz.ntmps35
  go_upto_region 1 with(fail)
  refine bh (fun W hk hr hs=> ?_)
  have HR:=ae (show Row W w.heap.size 0 X from by simpa using hr);have HK:=ae hk
  have hlt:w.heap.size<W.heap.size:=by omega
  clear hk hr hs
  go_wp2_with (first |(refine aj rfl 29 (.tmp 1) rfl w.heap.size 0 rfl _ _ (by first |exact HR.o|exact HR.o.keeps bw.o) Tryz.underlying29 rfl ZK.o ?_)|(go_at_call 10;refine(HP.o _).mono ?_;rintro e W1 ⟨rfl,hk1⟩;have bw:=ae hk1;have iX:=ae (show Rd W1 1 (.slice (some ⟨w.heap.size,38,none⟩) 33 33) 33 ((x::z).map (Value.int .u8))from Rd.bQ (HD.o _ _ (HR.o.keeps hk1)) (by rw[aF,hdl]) (Nat.lt_of_lt_of_le hlt hk1.size) (Nat.le_refl _) (by unfold maxLen;omega));clear hk1)|(go_at_call 72;refine(HI.o _ _ iX.o).mono ?_;rintro e W3 ⟨rfl,hk3⟩;have bS:=ae hk3;clear hk3))
  go_ret
  exact⟨rfl,(HK.o.trans bw.o).trans bS.o⟩
def cX(k:KD):List Int×Int:=if cF k.x k.z=true then(bf k.x k.z,0)else(bA,3)
theorem ER{x:Int}{z:List Int}(h:cF x z=true)(h0:x=0):ey (be z)=true:=by unfold cF at h;rwa[if_pos h0]at h
theorem dB{k:KD}(h:k.ok):(bf k.x k.z).length=33:=by
 unfold bf
 split
 ·exact zu _
 ·exact h.dl
theorem fM{k:KD}(h:k.ok):Bytes (bf k.x k.z):=by
 unfold bf
 split
 ·exact BD _
 ·exact h.db
theorem Ce{k:KD}(h:k.ok):(cX k).1.length=33:=by
 unfold cX
 split
 ·exact dB h
 · rfl
theorem pS{l:List Int}(h:l.length=33):l=l.headD 0::l.drop 1:=by
 cases l with
 |nil=>cases h
 |cons x l=>rfl
theorem ly(k:KD)(h:k.ok)(w:World):Calls Tryz.prog 12 #[.agg k.cells.toArray] w fun e w' =>e= .returned (.tuple #[.agg ((cX k).1.map (Value.int .u8)).toArray,.int .i64 (cX k).2])∧Keeps w w':=by
 have HG:=ae (fun W=>Cd k h W)
 have HP:=ae (fun W=>gM k h W)
 have HS:=ae (fun W=>kQ k h W)
 have HU:=ae (fun W=>BB k.z h.zb h.zl W)
 have HD:=ae (fun(W:World) (p:Nat) (hr:Row W p 0 k.cells)=>h.row38 hr)
 have ZK:=ae h.sz
 have hdl:=h.dl
 have hpl:=zu (be k.z)
 have hcase:(cF k.x k.z=false∧cX k=(bA,3))∨(cF k.x k.z=true∧¬k.x=0∧cX k=(k.x::k.z,0))∨(cF k.x k.z=true∧k.x=0∧cX k=(li (be k.z),0)∧zw (be k.z)=0):=by
  unfold cX
  cases hg:cF k.x k.z with
  |false=>exact .inl ⟨rfl,rfl⟩
  |true=>
   by_cases hx:k.x=0
   ·exact .inr (.inr ⟨rfl,hx,by rw[if_pos rfl];unfold bf;rw[if_pos hx],by unfold zw;rw[if_pos (ER hg hx)]⟩)
   ·exact .inr (.inl ⟨rfl,hx,by rw[if_pos rfl];unfold bf;rw[if_neg hx]⟩)
 generalize k.cells=X at *
 generalize cX k=PR at *
 generalize cF k.x k.z=gv at *
 generalize li (be k.z)=PB at *
 generalize zw (be k.z)=er at *
 generalize k.z=z at *
 generalize k.x=x at *
 clear h
 rcases hcase with⟨rfl,rfl⟩|⟨rfl,hx,rfl⟩|⟨rfl,hx,rfl,rfl⟩
 all_goals
  go_enter Tryz.func12,Tryz.ntmps12
  go_upto_region 1 with(fail)
  refine bu (fun W hk hr hr2 hs=> ?_)
  obtain⟨p,hp⟩:∃p,p=w.heap.size:=⟨_,rfl⟩
  rw[←hp]at hr hr2 hs⊢
  have hkp:w.heap.size≤p:=by omega
  have HR:=ae (show Row W p 0 X from by simpa using hr);have HK:=ae hk
  obtain⟨Zr,du,hrz⟩:∃Zr:List Value,Zr.length=33∧Row W (p+1) 0 Zr:=⟨_,rfl,hr2⟩
  have aV:=ae hrz
  clear hp hk hr hr2 hs hrz
 · go_wp2_with (first |(refine aj rfl 29 (.tmp 1) rfl p 0 rfl _ _ HR.o Tryz.underlying29 rfl ZK.o ?_)|(go_at_call 35;refine(HG.o _).mono ?_;rintro e W1 ⟨rfl,hk1⟩;have bw:=ae hk1;clear hk1)|(refine wpList_store_row rfl 25 (.tmp 2) (.tmp 7) rfl (p+1) 0 rfl Zr (bA.map (Value.int .u8)) rfl (aV.o.keeps bw.o) (by rw[du];rfl) bF (ai _) ?_;intro w9 aR aJ;have H9:=ae aR;have bK:=ae aJ;clear aR aJ))
   exact bodyPost_ret (al (p:=2) (t:=3) (ty:=25) rfl _ _ (p+1) 0 _ _ _ rfl rfl H9.o Tryz.underlying25 rfl bF) rfl ⟨rfl,ag (HK.o.trans bw.o) bK.o (by omega)⟩
 ·rw[decide_eq_false hx]at HP
  go_upto_region 3 with(first |(refine aj rfl 29 (.tmp 1) rfl p 0 rfl _ _ HR.o Tryz.underlying29 rfl ZK.o ?_)|(go_at_call 35;refine(HG.o _).mono ?_;rintro e W1 ⟨rfl,hk1⟩;have bw:=ae hk1;clear hk1))
  have HR:=ae (HR.o.keeps bw.o)
  go_upto_region 4 with(first |(refine aj rfl 29 (.tmp 1) rfl p 0 rfl _ _ HR.o Tryz.underlying29 rfl ZK.o ?_)|(go_at_call 10;refine(HP.o _).mono ?_;rintro e W2 ⟨rfl,hk1⟩;have aq:=ae (bw.o.trans hk1);have HR2:=ae (HD.o _ _ (HR.o.keeps hk1));clear hk1))
  go_wp2_with (first |(refine aj rfl 25 (.tmp 11) rfl p 38 rfl _ _ HR2.o Tryz.underlying25 rfl (by rw[aF,hdl];exact bF) ?_)|(refine wpList_store_row rfl 25 (.tmp 2) (.tmp 12) rfl (p+1) 0 rfl Zr ((x::z).map (Value.int .u8)) rfl (aV.o.keeps aq.o) (by rw[aF,hdl,du]) (by rw[aF,hdl];exact bF) (ai _) ?_;intro w9 aR aJ;have H9:=ae aR;have bK:=ae aJ;clear aR aJ))
  exact bodyPost_ret (al (p:=2) (t:=3) (ty:=25) rfl _ _ (p+1) 0 _ _ _ rfl rfl H9.o Tryz.underlying25 rfl (by rw[aF,hdl];exact bF)) rfl ⟨rfl,ag (HK.o.trans aq.o) bK.o (by omega)⟩
 ·rw[decide_eq_true hx]at HP
  go_upto_region 3 with(first |(refine aj rfl 29 (.tmp 1) rfl p 0 rfl _ _ HR.o Tryz.underlying29 rfl ZK.o ?_)|(go_at_call 35;refine(HG.o _).mono ?_;rintro e W1 ⟨rfl,hk1⟩;have bw:=ae hk1;clear hk1))
  have HR:=ae (HR.o.keeps bw.o)
  go_upto_region 5 with(first |(refine aj rfl 29 (.tmp 1) rfl p 0 rfl _ _ HR.o Tryz.underlying29 rfl ZK.o ?_)|(go_at_call 10;refine(HP.o _).mono ?_;rintro e W2 ⟨rfl,hk1⟩;have aq:=ae (bw.o.trans hk1);have HR2:=ae (HR.o.keeps hk1);clear hk1))
  go_wp2_with (first |(refine aj rfl 29 (.tmp 1) rfl p 0 rfl _ _ HR2.o Tryz.underlying29 rfl ZK.o ?_)|(go_at_call 24;refine(HS.o _).mono ?_;rintro e W3 ⟨rfl,hk1⟩;have bS:=ae (aq.o.trans hk1);clear hk1)|(go_at_call 36;refine(HU.o _).mono ?_;rintro e W4 ⟨rfl,hk1⟩;have gR:=ae (bS.o.trans hk1);clear hk1)|(refine wpList_store_row rfl 25 (.tmp 2) (.tmp 16) rfl (p+1) 0 rfl Zr (PB.map (Value.int .u8)) rfl (aV.o.keeps gR.o) (by rw[aF,hpl,du]) (by rw[aF,hpl];exact bF) (ai _) ?_;intro w9 aR aJ;have H9:=ae aR;have bK:=ae aJ;clear aR aJ))
  exact bodyPost_ret (al (p:=2) (t:=3) (ty:=25) rfl _ _ (p+1) 0 _ _ _ rfl rfl H9.o Tryz.underlying25 rfl (by rw[aF,hpl];exact bF)) rfl ⟨rfl,ag (HK.o.trans gR.o) bK.o (by omega)⟩
def dJ:Nat→Option (Nat×Nat):=(([(0,1),(1,4),(5,1),(6,32),(38,33)]:List (Nat×Nat)).toArray[·]?)
theorem dt(k:KD):k.cells=[Value.int .u8 k.d]++(k.fg.map (Value.int .u8)++([Value.int .u32 k.ch]++(k.cc.map (Value.int .u8)++(k.x::k.z).map (Value.int .u8)))):=by simp[KD.cells,aP]
theorem Al(k:KD)(h:k.ok):Instr.fill dJ K0.cells.toArray [(0,.int .u8 k.d),(1,.agg (k.fg.map (Value.int .u8)).toArray),(2,.int .u32 k.ch),(3,.agg (k.cc.map (Value.int .u8)).toArray),(4,.agg ((k.x::k.z).map (Value.int .u8)).toArray)]=some k.cells.toArray:=by
 rw[dt K0,dt k]
 have JQ:(K0.fg.map (Value.int .u8)).length=4:=rfl
 have hzc:(K0.cc.map (Value.int .u8)).length=32:=rfl
 have hzd:((K0.x::K0.z).map (Value.int .u8)).length=33:=rfl
 have hf:(k.fg.map (Value.int .u8)).length=4:=by simp[h.fl]
 have hc:(k.cc.map (Value.int .u8)).length=32:=by simp[h.cl]
 have hd:((k.x::k.z).map (Value.int .u8)).length=33:=by simp[h.zl]
 generalize K0.fg.map (Value.int .u8)=A at *
 generalize K0.cc.map (Value.int .u8)=B at *
 generalize(K0.x::K0.z).map (Value.int .u8)=C at *
 generalize k.fg.map (Value.int .u8)=FF at *
 generalize k.cc.map (Value.int .u8)=CC at *
 generalize(k.x::k.z).map (Value.int .u8)=DD at *
 have s0:=ev dJ [] [.int .u8 K0.d] (A++([.int .u32 K0.ch]++(B++C))) [.int .u8 k.d] 0 (.int .u8 k.d) [(1,.agg FF.toArray),(2,.int .u32 k.ch),(3,.agg CC.toArray),(4,.agg DD.toArray)] rfl rfl rfl
 have s1:=ev dJ [.int .u8 k.d] A ([.int .u32 K0.ch]++(B++C)) FF 1 (.agg FF.toArray) [(2,.int .u32 k.ch),(3,.agg CC.toArray),(4,.agg DD.toArray)] rfl (by rw[JQ,hf]) (by rw[hf];rfl)
 have s2:=ev dJ ([.int .u8 k.d]++FF) [.int .u32 K0.ch] (B++C) [.int .u32 k.ch] 2 (.int .u32 k.ch) [(3,.agg CC.toArray),(4,.agg DD.toArray)] rfl rfl (by rw[List.length_append,hf];rfl)
 have s3:=ev dJ ([.int .u8 k.d]++FF++[.int .u32 k.ch]) B C CC 3 (.agg CC.toArray) [(4,.agg DD.toArray)] rfl (by rw[hzc,hc]) (by rw[List.length_append,List.length_append,hf,hc];rfl)
 have s4:=ev dJ ([.int .u8 k.d]++FF++[.int .u32 k.ch]++CC) C [] DD 4 (.agg DD.toArray) [] rfl (by rw[hzd,hd]) (by rw[List.length_append,List.length_append,List.length_append,hf,hc,hd];rfl)
 simp only[List.append_assoc,List.nil_append,List.append_nil]at s0 s1 s2 s3 s4
 rw[s0,s1,s2,s3,s4]
 rfl
theorem ES(k:KD)(h:k.ok):Tryz.prog.built 29 [(0,.int .u8 k.d),(1,.agg (k.fg.map (Value.int .u8)).toArray),(2,.int .u32 k.ch),(3,.agg (k.cc.map (Value.int .u8)).toArray),(4,.agg ((k.x::k.z).map (Value.int .u8)).toArray)]=some k.cells.toArray:=by
 rw[show∀parts,Tryz.prog.built 29 parts=Instr.fill dJ K0.cells.toArray parts from fun parts=>by kernel_rfl]
 exact Al k h
theorem ex:Tryz.prog.built 29 []=some K0.cells.toArray:=by kernel_rfl
theorem KD.ok.rows {k:KD}(h:k.ok){W:World}{p:Nat}(hr:Row W p 0 k.cells):W.cell? ⟨p,0,none⟩=some (.int .u8 k.d)∧Row W p 1 (k.fg.map (Value.int .u8))∧W.cell? ⟨p,5,none⟩=some (.int .u32 k.ch)∧Row W p 6 (k.cc.map (Value.int .u8)):=by
 have hf:(k.fg.map (Value.int .u8)).length=4:=by simp[h.fl]
 have hc:(k.cc.map (Value.int .u8)).length=32:=by simp[h.cl]
 have e:=dt k
 rw[e]at hr
 generalize(k.x::k.z).map (Value.int .u8)=DD at *
 generalize k.cc.map (Value.int .u8)=CC at *
 generalize k.fg.map (Value.int .u8)=FF at *
 clear e
 refine⟨(hr 0 _ rfl).1,?_,?_,?_⟩
 · have :=(hr.drop 1).take 4
   rwa[show([Value.int .u8 k.d]++(FF++([Value.int .u32 k.ch]++(CC++DD)))).drop 1=FF++([Value.int .u32 k.ch]++(CC++DD))from rfl,List.take_left' hf,Nat.zero_add]at this
 · have :=hr.drop 5
   rw[show([Value.int .u8 k.d]++(FF++([Value.int .u32 k.ch]++(CC++DD))))=([Value.int .u8 k.d]++FF)++([Value.int .u32 k.ch]++(CC++DD)) by simp,List.drop_left' (by simp[hf]),Nat.zero_add]at this
   exact(this 0 _ rfl).1
 · have :=(hr.drop 6).take 32
   rwa[show([Value.int .u8 k.d]++(FF++([Value.int .u32 k.ch]++(CC++DD))))=([Value.int .u8 k.d]++FF++[Value.int .u32 k.ch])++(CC++DD) by simp,List.drop_left' (by simp[hf]),List.take_left' hc,Nat.zero_add]at this
theorem Dm(k:KD)(h:k.ok)(w:World):Calls Tryz.prog 6 #[.agg k.cells.toArray] w fun e w' =>e= .returned (.agg k.cells.toArray)∧Keeps w w':=by
 have HB:=ae (ES k h)
 have HRW:=ae (fun(W:World) (p:Nat) (hr:Row W p 0 k.cells)=>And.intro (h.rows hr) (h.row38 hr))
 have xP:=ae h.sz
 have vV:=ae (show k.cells.length=K0.cells.length by rw[h.len];rfl)
 have Jj:=ae k.one
 have hf:(k.fg.map (Value.int .u8)).length=4:=by simp[h.fl]
 have hc:(k.cc.map (Value.int .u8)).length=32:=by simp[h.cl]
 have hd:((k.x::k.z).map (Value.int .u8)).length=33:=by simp[h.zl]
 generalize k.fg.map (Value.int .u8)=FF at *
 generalize k.cc.map (Value.int .u8)=CC at *
 generalize(k.x::k.z).map (Value.int .u8)=DD at *
 generalize k.cells=K at *
 generalize k.d=kd at *
 generalize k.ch=kh at *
 clear h
 go_enter Tryz.func6,Tryz.ntmps6
 go_upto_region 1 with(fail)
 refine bu (fun W hk hr hr2 hs=> ?_)
 obtain⟨⟨c0,r1,c5,r6⟩,AJ⟩:=HRW.o _ _ (show Row W w.heap.size 0 K from by simpa using hr)
 have HZ:=ae (show Row W (w.heap.size+1) 0 K0.cells from hr2)
 have R1:=ae r1;have R6:=ae r6;have Am:=ae AJ;have HK:=ae hk
 clear hk hr hr2 hs r1 r6 AJ
 generalize hp:w.heap.size=p at *
 have HP:=ae hp
 clear hp
 go_wp2_with (first
  |(refine dO (by kernel_rfl) 22 (.tmp 5) rfl p 1 rfl _ _ R1.o Tryz.underlying22 rfl (by rw[hf];exact Le) ?_)
  |(refine dO (by kernel_rfl) 24 (.tmp 9) rfl p 6 rfl _ _ R6.o Tryz.underlying24 rfl (by rw[hc];exact bo) ?_)
  |(refine dO (by kernel_rfl) 25 (.tmp 11) rfl p 38 rfl _ _ Am.o Tryz.underlying25 rfl (by rw[hd];exact bF) ?_)
  |(refine aW (by kernel_rfl) 29 _ rfl _ ?_ _ HB.o ?_;focus(simp only[List.map_toArray,List.map_cons,List.map_nil];rfl))
  |(refine wpList_store_row rfl 29 (.tmp 2) (.tmp 13) rfl (p+1) 0 rfl K0.cells K rfl HZ.o vV.o xP.o Jj.o ?_;intro w9 aR aJ;have H9:=ae aR;have bK:=ae aJ;clear aR aJ))
 exact bodyPost_ret (v:= .agg K.toArray) (ar (p:=2) (ty:=29) rfl _ _ (p+1) 0 _ _ rfl H9.o Tryz.underlying29 rfl xP.o) rfl ⟨rfl,ag HK.o bK.o (by have :=HP.o;omega)⟩
theorem xK{k:KD}(h:k.ok):(xJ k).ok:=by
 have hl:=dB h
 have hb:=fM h
 have e:=pS hl
 refine⟨h.d,h.fl,h.fb,h.ch,h.cl,h.cb,?_,?_,?_⟩
 ·refine hb _ ?_
  show(bf k.x k.z).headD 0∈bf k.x k.z
  generalize bf k.x k.z=l at *
  cases l with
  |nil=>cases hl
  |cons a l=>exact List.mem_cons_self
 · show((bf k.x k.z).drop 1).length=32
   rw[List.length_drop,hl]
 ·exact fun y hy=>hb y (List.mem_of_mem_drop hy)
theorem Cf{k:KD}(h:k.ok):(eX k).1.ok:=by
 unfold eX
 split
 ·exact xK h
 ·exact gZ
theorem An(k:KD)(h:k.ok):k.cells.take 38++(bf k.x k.z).map (Value.int .u8)++k.cells.drop (38+((bf k.x k.z).map (Value.int .u8)).length)=(xJ k).cells:=by
 have hl:=dB h
 have hc:(k.cc.map (Value.int .u8)).length=32:=by simp[h.cl]
 have hf:(k.fg.map (Value.int .u8)).length=4:=by simp[h.fl]
 rw[List.drop_eq_nil_of_le (by rw[aF,hl,h.len];exact Nat.le_refl _),List.append_nil]
 rw[dt k,dt (xJ k)]
 show _=[Value.int .u8 k.d]++(k.fg.map (Value.int .u8)++([Value.int .u32 k.ch]++(k.cc.map (Value.int .u8)++((bf k.x k.z).headD 0::(bf k.x k.z).drop 1).map (Value.int .u8))))
 rw[←pS hl,show([Value.int .u8 k.d]++(k.fg.map (Value.int .u8)++([Value.int .u32 k.ch]++(k.cc.map (Value.int .u8)++(k.x::k.z).map (Value.int .u8)))))=([Value.int .u8 k.d]++k.fg.map (Value.int .u8)++[Value.int .u32 k.ch]++k.cc.map (Value.int .u8))++(k.x::k.z).map (Value.int .u8) by simp,List.take_left' (by simp[hf,hc])]
 simp
theorem IT(k:KD)(h:k.ok)(w:World):Calls Tryz.prog 13 #[.agg k.cells.toArray] w fun e w' =>e= .returned (.tuple #[.agg (eX k).1.cells.toArray,.int .i64 (eX k).2])∧Keeps w w':=by
 have kV:=ae (fun W=>ly k h W)
 have hcase:(cX k=(bA,3)∧eX k=(K0,3))∨(cX k=(bf k.x k.z,0)∧eX k=(xJ k,0)):=by
  unfold cX eX
  cases cF k.x k.z with
  |false=>exact .inl ⟨rfl,rfl⟩
  |true=>exact .inr ⟨rfl,rfl⟩
 have Kq:=ae (An k h)
 have ZK:=ae h.sz
 have hl:=dB h
 have hkl:=h.len
 have ZP:=ae (xK h).sz
 have hpl:=(xK h).len
 have Jj:=ae (xJ k).one
 have Z0:=ae gZ.sz
 generalize cX k=PR at *
 generalize eX k=PV at *
 generalize(xJ k)=PK at *
 generalize bf k.x k.z=PT at *
 generalize k.cells=K at *
 clear h
 rcases hcase with⟨rfl,rfl⟩|⟨rfl,rfl⟩
 all_goals
  go_enter Tryz.func13,Tryz.ntmps13
  go_upto_region 1 with(fail)
  refine bu (fun W hk hr hr2 hs=> ?_)
  obtain⟨p,hp⟩:∃p,p=w.heap.size:=⟨_,rfl⟩
  rw[←hp]at hr hr2 hs⊢
  have hkp:w.heap.size≤p:=by omega
  have HR:=ae (show Row W p 0 K from by simpa using hr);have HK:=ae hk
  have aV:=ae (show Row W (p+1) 0 K0.cells from hr2)
  have hps:p+1<W.heap.size:=by omega
  clear hp hk hr hr2 hs
 · go_upto_region 2 with(first |(refine aj rfl 29 (.tmp 1) rfl p 0 rfl _ _ HR.o Tryz.underlying29 rfl ZK.o ?_)|(go_at_call 12;refine(kV.o _).mono ?_;rintro e W1 ⟨rfl,hk1⟩;have bw:=ae hk1;clear hk1)|(refine wpList_store_row rfl 25 (.tmp 4) (.tmp 9) rfl W1.heap.size 0 rfl (bA.map (Value.int .u8)) (bA.map (Value.int .u8)) rfl (Row.new _ _ _ rfl) rfl bF (ai _) ?_;intro W3 hr2 hc2;have bS:=ae (ag (ah bw.o _) hc2 bw.o.size);clear hr2 hc2))
   have aV:=ae (aV.o.keeps bS.o);have HK:=ae (HK.o.trans bS.o)
   go_wp2_with (first |(refine aW (by kernel_rfl) 29 _ rfl [] ?_ _ ex ?_;focus rfl)|(refine wpList_store_row rfl 29 (.tmp 2) (.tmp 13) rfl (p+1) 0 rfl K0.cells K0.cells rfl aV.o rfl Z0.o K0.one ?_;intro w9 aR aJ;have H9:=ae aR;have bK:=ae aJ;clear aR aJ))
   exact bodyPost_ret (al (p:=2) (t:=3) (ty:=29) rfl _ _ (p+1) 0 _ _ _ rfl rfl H9.o Tryz.underlying29 rfl Z0.o) rfl ⟨rfl,ag HK.o bK.o (by omega)⟩
 · go_upto_region 2 with(first |(refine aj rfl 29 (.tmp 1) rfl p 0 rfl _ _ HR.o Tryz.underlying29 rfl ZK.o ?_)|(go_at_call 12;refine(kV.o _).mono ?_;rintro e W1 ⟨rfl,hk1⟩;have bw:=ae hk1;clear hk1)|(refine wpList_store_row rfl 25 (.tmp 4) (.tmp 9) rfl W1.heap.size 0 rfl (bA.map (Value.int .u8)) (PT.map (Value.int .u8)) rfl (Row.new _ _ _ rfl) (by rw[aF,hl];rfl) (by rw[aF,hl];exact bF) (ai _) ?_;intro W3 hr2 hc2;have HR4:=ae hr2;have bS:=ae (ag (ah bw.o _) hc2 bw.o.size);clear hr2 hc2))
   have aV:=ae (aV.o.keeps bS.o);have HR:=ae (HR.o.keeps bS.o);have HK:=ae (HK.o.trans bS.o)
   have hq:p<W1.heap.size:=Nat.lt_of_lt_of_le (by omega) bw.o.size
   generalize W1.heap.size=q at *
   go_upto_region 5 with(first |(refine aj rfl 25 (.tmp 4) rfl q 0 rfl _ _ HR4.o Tryz.underlying25 rfl (by rw[aF,hl];exact bF) ?_)|(refine gw rfl 25 (.tmp 16) (.tmp 15) rfl p 38 rfl K (PT.map (Value.int .u8)) rfl HR.o (by rw[aF,hl,hkl];decide) (by rw[aF,hl];exact bF) (ai _) ?_;intro W5 dG hc5;have ej:=ae (show Row W5 p 0 PK.cells by rw[←Kq.o];exact dG);have fY:=ae hc5;clear dG hc5))
   have aV:=ae (aV.o.aG fY.o (by omega));have HK:=ae (ag HK.o fY.o (by omega))
   go_wp2_with (first |(refine aj rfl 29 (.tmp 1) rfl p 0 rfl _ _ ej.o Tryz.underlying29 rfl ZP.o ?_)|(refine wpList_store_row rfl 29 (.tmp 2) (.tmp 17) rfl (p+1) 0 rfl K0.cells PK.cells rfl aV.o (by rw[hpl];rfl) ZP.o Jj.o ?_;intro w9 aR aJ;have H9:=ae aR;have bK:=ae aJ;clear aR aJ))
   exact bodyPost_ret (al (p:=2) (t:=3) (ty:=29) rfl _ _ (p+1) 0 _ _ _ rfl rfl H9.o Tryz.underlying29 rfl ZP.o) rfl ⟨rfl,ag HK.o bK.o (by omega)⟩
end Go.Proofs.YtlofddoojkeakaaGreatDoor
