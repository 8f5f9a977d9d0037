/- Two keys compared: a key is equal to itself. -/
import Derived.Test.YtlofddoojkeakaaGreatDoorGE1
import Derived.Test.YtlofddoojkeakaaGreatDoorGC6
import Derived.Test.YtlofddoojkeakaaGreatDoorGC4
import Derived.Test.YtlofddoojkeakaaGreatDoorGA0
set_option maxRecDepth 100000
set_option maxHeartbeats 2000000
set_option linter.unusedVariables false
set_option linter.unusedSimpArgs false
namespace Go.Proofs.YtlofddoojkeakaaGreatDoor
open Go Go.RowKit
theorem Dn{x:Int}(h0:0≤x)(h1:x<4294967296):(Lit.int .u32 x).wf=true:=by
 unfold Lit.wf
 rw[Bool.and_eq_true,decide_eq_true_eq,decide_eq_true_eq]
 exact⟨show(0:Int)≤x from h0,show x≤(4294967295:Int) by omega⟩
theorem qH{k:KD}(h:k.ok):(k.cells.drop 0).take 1=[.int .u8 k.d]∧(k.cells.drop 1).take 4=k.fg.map (Value.int .u8)∧(k.cells.drop 5).take 1=[.int .u32 k.ch]∧(k.cells.drop 6).take 32=k.cc.map (Value.int .u8)∧(k.cells.drop 38).take 33=(k.x::k.z).map (Value.int .u8):=by
 have hc:(k.cc.map (Value.int .u8)).length=32:=by rw[aF,h.cl]
 have hf:(k.fg.map (Value.int .u8)).length=4:=by rw[aF,h.fl]
 have hd:((k.x::k.z).map (Value.int .u8)).length=33:=by rw[aF,h.dl]
 have e:=dt k
 have e5:k.cells.drop 5=[Value.int .u32 k.ch]++(k.cc.map (Value.int .u8)++(k.x::k.z).map (Value.int .u8)):=by
  rw[e,show(5:Nat)=1+4 from rfl,←List.drop_drop]
  show List.drop 4 (k.fg.map (Value.int .u8)++_)=_
  rw[List.drop_left' hf]
 have e6:k.cells.drop 6=k.cc.map (Value.int .u8)++(k.x::k.z).map (Value.int .u8):=by
  rw[show(6:Nat)=5+1 from rfl,←List.drop_drop,e5];rfl
 refine⟨by rw[e];rfl,?_,by rw[e5];rfl,by rw[e6,List.take_left' hc],?_⟩
 ·rw[e]
  show List.take 4 (k.fg.map (Value.int .u8)++_)=_
  rw[List.take_left' hf]
 ·rw[show(38:Nat)=6+32 from rfl,←List.drop_drop,e6,List.drop_left' hc,List.take_of_length_le (by rw[hd];exact Nat.le_refl _)]
def Lf(k:KD):List Lit:=[Lit.int .u8 k.d]++(k.fg.map (Lit.int .u8)++([Lit.int .u32 k.ch]++(k.cc.map (Lit.int .u8)++((k.x::k.z).map (Lit.int .u8)++[]))))
theorem IU{k:KD}(h:k.ok)(T:TypeId)(hT:T=29):Tryz.prog.keyLits 3 T k.cells=some (Lf k):=by
 subst hT
 have e1:Tryz.prog.cellsOf 29=71:=by kernel_rfl
 have f0:Tryz.prog.cellsOf 5=1:=by kernel_rfl
 have f1:Tryz.prog.cellsOf 22=4:=by kernel_rfl
 have f2:Tryz.prog.cellsOf 23=1:=by kernel_rfl
 have f3:Tryz.prog.cellsOf 24=32:=by kernel_rfl
 have f4:Tryz.prog.cellsOf 25=33:=by kernel_rfl
 obtain⟨d0,d1,d2,d3,d4⟩:=qH h
 have l0:=pR 1 5 .u8 k.d Tryz.underlying5 (iW h.d)
 have l1:=iC 0 22 5 4 .u8 Tryz.underlying22 Tryz.underlying5 f1 f0 k.fg h.fl (fun x hx=>iW (h.fb x hx))
 have l2:=pR 1 23 .u32 k.ch Tryz.underlying23 (Dn h.ch.1 h.ch.2)
 have l3:=iC 0 24 5 32 .u8 Tryz.underlying24 Tryz.underlying5 f3 f0 k.cc h.cl (fun x hx=>iW (h.cb x hx))
 have l4:=iC 0 25 5 33 .u8 Tryz.underlying25 Tryz.underlying5 f4 f0 (k.x::k.z) h.dl (fun x hx=>iW (h.db x hx))
 unfold Program.keyLits
 rw[Tryz.underlying29]
 simp only[e1]
 rw[if_pos ⟨h.len,by kernel_rfl⟩]
 simp only[List.mapM_cons,List.mapM_nil,f0,f1,f2,f3,f4,d0,d1,d2,d3,d4]
 simp only[Nat.zero_add,Nat.reduceAdd]at l0 l1 l2 l3 l4
 simp only[l0,l1,l2,l3,l4]
 rfl
theorem ET(W:World)(k:KD)(h:k.ok):(Op.equalIn 10000 29 (.agg k.cells.toArray) (.agg k.cells.toArray)).run Tryz.prog W= .ok true W:=by
 have e1:Tryz.prog.cellsOf 29=71:=by kernel_rfl
 have fm:(Value.agg k.cells.toArray).formed Tryz.prog 29=true:=by
  unfold Value.formed
  rw[Tryz.underlying29]
  simp[e1,h.len]
 have hL:=IU h 29 rfl
 have hd:=run_equalIn_deep (P:=Tryz.prog) 9996 4 29 (by kernel_rfl)
 obtain⟨r,hr,hiff⟩:=hd W 3 3 _ _ _ _ fm fm hL hL
 rw[hr,hiff.2 rfl]
end Go.Proofs.YtlofddoojkeakaaGreatDoor
namespace Go.Proofs.YtlofddoojkeakaaGreatDoor
open Go Go.RowKit Cv
def KD.good (k:KD):Prop:=cF k.x k.z=true
def Do(n:Int):Prop:=2147483648≤n
def IV(k:KD)(n:Int):KD:=⟨k.d+1,es k,n,(a6 k n).drop 32,(bG k n).1.headD 0,(bG k n).1.drop 1⟩
theorem Ao{k:KD}(hg:k.good)(n:Int):(k.d=255∧bE k n=(K0,2))∨(¬k.d=255∧Do n∧¬k.x=0∧bE k n=(K0,1))∨
 (¬k.d=255∧¬(Do n∧¬k.x=0)∧¬(bG k n).2=0∧bE k n=(K0,7))∨(¬k.d=255∧¬(Do n∧¬k.x=0)∧(bG k n).2=0∧bE k n=(IV k n,0)):=by
 unfold bE
 rw[if_pos (show cF k.x k.z=true from hg)]
 by_cases h1:k.d=255
 ·exact .inl ⟨h1,by rw[if_pos h1]⟩
 ·rw[if_neg h1]
  by_cases h2:Do n∧¬k.x=0
  ·exact .inr (.inl ⟨h1,h2.1,h2.2,by rw[if_pos (show 2147483648≤n∧¬k.x=0 from h2)]⟩)
  ·rw[if_neg (show¬(2147483648≤n∧¬k.x=0)from h2)]
   by_cases h3:(bG k n).2=0
   ·exact .inr (.inr (.inr ⟨h1,h2,h3,by rw[if_pos h3];rfl⟩))
   ·exact .inr (.inr (.inl ⟨h1,h2,h3,by rw[if_neg h3]⟩))
theorem EU{k:KD}(hk:k.ok):(xJ k).x::(xJ k).z=bf k.x k.z:=(pS (dB hk)).symm
theorem vZ(k:KD):(es k).length=4∧Bytes (es k):=⟨by unfold es;rw[List.length_take,j4.dE];rfl,fun x hx=>j4.xH _ x (List.mem_of_mem_take hx)⟩
theorem Cg{k:KD}{n:Int}:(bG k n).1.length=33∧Bytes (bG k n).1:=by
 unfold bG
 split
 ·exact⟨by show(0::_).length=33;rw[List.length_cons,iw],fun y hy=>by
   rcases List.mem_cons.1 hy with rfl|hy
   ·exact⟨by omega,by omega⟩
   ·exact zy _ _ y hy⟩
 ·exact⟨eM _ _,zC _ _⟩
theorem EV{k:KD}(hk:k.ok)(hd:¬k.d=255){n:Int}(h0:0≤n)(h1:n<4294967296):(IV k n).ok:=by
 have hd':=hk.d
 obtain⟨l,b⟩:=Cg (k:=k) (n:=n)
 have e:=pS l
 refine⟨⟨show 0≤k.d+1 by omega,show k.d+1<256 by omega⟩,(vZ k).1,(vZ k).2,⟨h0,h1⟩,?_,?_,?_,?_,?_⟩
 · show((a6 k n).drop 32).length=32
   rw[List.length_drop,jA]
 ·exact fun x hx=>ib k n x (List.mem_of_mem_drop hx)
 ·refine b _ ?_
  show(bG k n).1.headD 0∈(bG k n).1
  generalize(bG k n).1=m at *
  cases m with
  |nil=>cases l
  |cons a m=>exact List.mem_cons_self
 · show((bG k n).1.drop 1).length=32
   rw[List.length_drop,l]
 ·exact fun x hx=>b x (List.mem_of_mem_drop hx)
def Nums(l:List Int):Prop:=∀n∈l,0≤n∧n<4294967296
theorem KD.ok.AL {k:KD}(h:k.ok):(Tryz.prog.info? 27).map (·.size)=some k.cells.length:=Dc h.fl h.cl h.dl
theorem xL(k:KD)(h:k.ok):Tryz.prog.built 27 [(0,.int .u8 k.d),(1,.agg (k.fg.map (Value.int .u8)).toArray),(2,.int .u32 k.ch),(3,.agg (k.cc.map (Value.int .u8)).toArray),(4,.agg ((k.x::k.z).map (Value.int .u8)).toArray)]=some k.cells.toArray:=by
 rw[show∀parts,Tryz.prog.built 27 parts=Instr.fill dJ K0.cells.toArray parts from fun parts=>by kernel_rfl]
 exact Al k h
theorem fG:Tryz.prog.built 27 []=some K0.cells.toArray:=by kernel_rfl
theorem Ch(k:KD)(h:k.ok)(w:World):Calls Tryz.prog 9 #[.agg k.cells.toArray] w fun e w' =>e= .returned (.agg k.cells.toArray)∧Keeps w w':=by
 have HB:=ae (xL k h)
 have HRW:=ae (fun(W:World) (p:Nat) (hr:Row W p 0 k.cells)=>And.intro (h.rows hr) (h.row38 hr))
 have xP:=ae h.AL
 have vV:=ae (show k.cells.length=K0.cells.length by rw[h.len];rfl)
 have Jj:=ae k.one
 have hf:(k.fg.map (Value.int .u8)).length=4:=by simp[h.fl]
 have hc:(k.cc.map (Value.int .u8)).length=32:=by simp[h.cl]
 have hd:((k.x::k.z).map (Value.int .u8)).length=33:=by simp[h.zl]
 generalize k.fg.map (Value.int .u8)=FF at *
 generalize k.cc.map (Value.int .u8)=CC at *
 generalize(k.x::k.z).map (Value.int .u8)=DD at *
 generalize k.cells=K at *
 generalize k.d=kd at *
 generalize k.ch=kh at *
 clear h
 go_enter Tryz.func9,Tryz.ntmps9
 go_upto_region 1 with(fail)
 refine bu (fun W hk hr hr2 hs=> ?_)
 obtain⟨⟨c0,r1,c5,r6⟩,AJ⟩:=HRW.o _ _ (show Row W w.heap.size 0 K from by simpa using hr)
 have HZ:=ae (show Row W (w.heap.size+1) 0 K0.cells from hr2)
 have R1:=ae r1;have R6:=ae r6;have Am:=ae AJ;have HK:=ae hk
 clear hk hr hr2 hs r1 r6 AJ
 generalize hp:w.heap.size=p at *
 have HP:=ae hp
 clear hp
 go_wp2_with (first
  |(refine dO (by kernel_rfl) 22 (.tmp 5) rfl p 1 rfl _ _ R1.o Tryz.underlying22 rfl (by rw[hf];exact Le) ?_)
  |(refine dO (by kernel_rfl) 24 (.tmp 9) rfl p 6 rfl _ _ R6.o Tryz.underlying24 rfl (by rw[hc];exact bo) ?_)
  |(refine dO (by kernel_rfl) 25 (.tmp 11) rfl p 38 rfl _ _ Am.o Tryz.underlying25 rfl (by rw[hd];exact bF) ?_)
  |(refine aW (by kernel_rfl) 27 _ rfl _ ?_ _ HB.o ?_;focus(simp only[List.map_toArray,List.map_cons,List.map_nil];rfl))
  |(refine wpList_store_row rfl 27 (.tmp 2) (.tmp 13) rfl (p+1) 0 rfl K0.cells K rfl HZ.o vV.o xP.o Jj.o ?_;intro w9 aR aJ;have H9:=ae aR;have bK:=ae aJ;clear aR aJ))
 exact bodyPost_ret (v:= .agg K.toArray) (ar (p:=2) (ty:=27) rfl _ _ (p+1) 0 _ _ rfl H9.o Tryz.underlying27 rfl xP.o) rfl ⟨rfl,ag HK.o bK.o (by have :=HP.o;omega)⟩
theorem EW{k:KD}(h:k.ok):Tryz.prog.keyLits 3 27 k.cells=some (Lf k):=by
 have e1:Tryz.prog.cellsOf 27=71:=by kernel_rfl
 have f0:Tryz.prog.cellsOf 5=1:=by kernel_rfl
 have f1:Tryz.prog.cellsOf 22=4:=by kernel_rfl
 have f2:Tryz.prog.cellsOf 23=1:=by kernel_rfl
 have f3:Tryz.prog.cellsOf 24=32:=by kernel_rfl
 have f4:Tryz.prog.cellsOf 25=33:=by kernel_rfl
 obtain⟨d0,d1,d2,d3,d4⟩:=qH h
 have l0:=pR 1 5 .u8 k.d Tryz.underlying5 (iW h.d)
 have l1:=iC 0 22 5 4 .u8 Tryz.underlying22 Tryz.underlying5 f1 f0 k.fg h.fl (fun x hx=>iW (h.fb x hx))
 have l2:=pR 1 23 .u32 k.ch Tryz.underlying23 (Dn h.ch.1 h.ch.2)
 have l3:=iC 0 24 5 32 .u8 Tryz.underlying24 Tryz.underlying5 f3 f0 k.cc h.cl (fun x hx=>iW (h.cb x hx))
 have l4:=iC 0 25 5 33 .u8 Tryz.underlying25 Tryz.underlying5 f4 f0 (k.x::k.z) h.dl (fun x hx=>iW (h.db x hx))
 unfold Program.keyLits
 rw[Tryz.underlying27]
 simp only[e1]
 rw[if_pos ⟨h.len,by kernel_rfl⟩]
 simp only[List.mapM_cons,List.mapM_nil,f0,f1,f2,f3,f4,d0,d1,d2,d3,d4]
 simp only[Nat.zero_add,Nat.reduceAdd]at l0 l1 l2 l3 l4
 simp only[l0,l1,l2,l3,l4]
 rfl
theorem oE(W:World)(k:KD)(h:k.ok):(Op.equalIn 10000 27 (.agg k.cells.toArray) (.agg k.cells.toArray)).run Tryz.prog W= .ok true W:=by
 have e1:Tryz.prog.cellsOf 27=71:=by kernel_rfl
 have fm:(Value.agg k.cells.toArray).formed Tryz.prog 27=true:=by
  unfold Value.formed
  rw[Tryz.underlying27]
  simp[e1,h.len]
 have hL:=EW h
 have hd:=run_equalIn_deep (P:=Tryz.prog) 9996 4 27 (by kernel_rfl)
 obtain⟨r,hr,hiff⟩:=hd W 3 3 _ _ _ _ fm fm hL hL
 rw[hr,hiff.2 rfl]
theorem tU{k:KD}(hx:k.x=0):k.cells=aP k.d k.fg k.ch k.cc (0::k.z):=by unfold KD.cells;rw[hx]
theorem wd(k:KD)(h:k.ok)(hx:k.x=0)(w:World):Calls Tryz.prog 30 #[.agg k.cells.toArray] w fun e w' =>e= .returned (.agg (k.z.map (Value.int .u8)).toArray)∧Keeps w w':=by
 rw[tU hx]
 exact rA h.fl h.cl h.zl w
theorem rZ(k:KD)(h:k.ok)(w:World):Calls Tryz.prog 11 #[.agg k.cells.toArray] w fun e w' =>e= .returned (.bool (cF k.x k.z))∧Keeps w w':=by
 by_cases hx:k.x=0
 · have e:cF k.x k.z=ey (be k.z):=by unfold cF;rw[if_pos hx]
   rw[e,tU hx]
   exact Em h.fl h.cl h.zl h.zb w
 · have e:cF k.x k.z=(eK (k.x::k.z)).isSome:=by unfold cF;rw[if_neg hx]
   rw[e]
   have HU:=ae (fun(v:Value) W (hv:Rd W 1 v 33 ((k.x::k.z).map (Value.int .u8)))=>rx v (k.x::k.z) h.db W (by rw[h.dl];exact hv))
   have lU:=kE (k.x::k.z)
   have HD:=ae (fun(W:World) (p:Nat) (hr:Row W p 0 k.cells)=>And.intro (h.qG hr) (h.row38 hr))
   have hdl:=h.dl
   have hkl:=h.len
   generalize(eK (k.x::k.z)).isSome=KB at *
   generalize iJ (k.x::k.z)=U at *
   generalize k.cells=X at *
   generalize k.z=z at *
   generalize k.x=x at *
   have hne:(x==0)=false:=by rw[beq_eq_false_iff_ne];exact hx
   clear h e hx
   go_enter Tryz.func11,Tryz.ntmps11
   go_upto_region 1 with(fail)
   refine bh (fun W hk hr hs=> ?_)
   obtain⟨p,hp⟩:∃p,p=w.heap.size:=⟨_,rfl⟩
   rw[←hp]at hr hs⊢
   have hr:Row W p 0 X:=by simpa using hr
   obtain⟨AG,AJ⟩:=HD.o _ _ hr
   have hpl:p<W.heap.size:=by omega
   have iX:=ae (show Rd W 1 (.slice (some ⟨p,38,none⟩) 33 33) 33 ((x::z).map (Value.int .u8))from Rd.bQ AJ (by rw[aF,hdl]) hpl (Nat.le_refl _) (by unfold maxLen;omega))
   have HK:=ae hk
   clear hk hr hs AJ hp hpl
   go_wp2_with (first |(go_at_call 34;refine(HU.o _ _ iX.o).mono ?_;rintro e W4 ⟨rfl,hk4⟩;have gR:=ae hk4;clear hk4)|(refine wpList_store_row rfl 70 (.tmp 4) (.tmp 19) rfl W4.heap.size 0 rfl (eG.map (Value.int .u32)) (U.map (Value.int .u32)) rfl (Row.new _ _ _ rfl) (by rw[aF,lU];rfl) (by rw[aF,lU];exact dn) (ai _) ?_;intro w9 aR aJ;have bK:=ae (ag (ah (Keeps.refl W4) _) aJ (Nat.le_refl _));clear aR aJ))
   go_ret
   exact⟨rfl,(HK.o.trans gR.o).trans bK.o⟩
theorem Ap(k:KD)(h:k.ok)(w:World):Calls Tryz.prog 15 #[.agg k.cells.toArray] w fun e w' =>e= .returned (.agg ((bf k.x k.z).map (Value.int .u8)).toArray)∧Keeps w w':=by
 have HD:=ae (fun(W:World) (p:Nat) (hr:Row W p 0 k.cells)=>And.intro (h.qG hr) (h.row38 hr))
 have ZK:=ae h.AL
 have hdl:=h.dl
 have hkl:=h.len
 have hpl:=dB h
 have HU:=ae (fun W=>zx k.z h.zb h.zl W)
 have HS:=ae (fun(hx:k.x=0) W=>wd k h hx W)
 have hcase:(¬k.x=0∧bf k.x k.z=k.x::k.z)∨(k.x=0∧bf k.x k.z=li (be k.z)):=by
  unfold bf
  by_cases hx:k.x=0
  ·exact .inr ⟨hx,if_pos hx⟩
  ·exact .inl ⟨hx,if_neg hx⟩
 generalize bf k.x k.z=PV at *
 generalize li (be k.z)=PU at *
 generalize ey (be k.z)=KB at *
 generalize k.cells=X at *
 generalize k.z=z at *
 generalize k.x=x at *
 clear h
 rcases hcase with⟨hx,rfl⟩|⟨hx,rfl⟩
 all_goals
  first |(have hne:(x !=0)=true:=by rw[bne_iff_ne];exact hx)|(subst hx;have hne:((0:Int)!=0)=false:=rfl)
  go_enter Tryz.func15,Tryz.ntmps15
  go_upto_region 1 with(fail)
  refine bu (fun W hk hr hr2 hs=> ?_)
  obtain⟨p,hp⟩:∃p,p=w.heap.size:=⟨_,rfl⟩
  rw[←hp]at hr hr2 hs⊢
  have hkp:w.heap.size≤p:=by omega
  have hr:Row W p 0 X:=by simpa using hr
  obtain⟨AG,AJ⟩:=HD.o _ _ hr
  have HR:=ae hr;have HK:=ae hk;have Am:=ae AJ
  obtain⟨Zr,du,hrz⟩:∃Zr:List Value,Zr.length=33∧Row W (p+1) 0 Zr:=⟨_,rfl,hr2⟩
  have aV:=ae hrz
  clear hp hk hr hr2 hs hrz AJ
 · go_wp2_with (first |(refine aj rfl 25 (.tmp 9) rfl p 38 rfl _ _ Am.o Tryz.underlying25 rfl (by rw[aF,hdl];exact bF) ?_)|(refine wpList_store_row rfl 25 (.tmp 2) (.tmp 10) rfl (p+1) 0 rfl Zr ((x::z).map (Value.int .u8)) rfl aV.o (by rw[aF,hdl,du]) (by rw[aF,hdl];exact bF) (ai _) ?_;intro w9 aR aJ;have H9:=ae aR;have bK:=ae aJ;clear aR aJ))
   exact bodyPost_ret (v:= .agg ((x::z).map (Value.int .u8)).toArray) (ar (p:=2) (ty:=25) rfl _ _ (p+1) 0 _ _ rfl H9.o Tryz.underlying25 rfl (by rw[aF,hdl];exact bF)) rfl ⟨rfl,ag HK.o bK.o (by omega)⟩
 · go_upto_region 3 with(fail)
   clear AG
   go_upto_region 4 with(first |(refine aj rfl 27 (.tmp 1) rfl p 0 rfl _ _ HR.o Tryz.underlying27 rfl ZK.o ?_)|(go_at_call 30;refine(HS.o rfl _).mono ?_;rintro e W2 ⟨rfl,hk2⟩;have aq:=ae hk2;clear hk2)|(go_at_call 37;refine(HU.o _).mono ?_;rintro e W3 ⟨rfl,hk2⟩;have bS:=ae hk2;clear hk2)|(refine wpList_store_row rfl 25 (.tmp 3) (.tmp 15) rfl W3.heap.size 0 rfl (bA.map (Value.int .u8)) (PV.map (Value.int .u8)) rfl (Row.new _ _ _ rfl) (by rw[aF,hpl];rfl) (by rw[aF,hpl];exact bF) (ai _) ?_;intro W5 aR aJ;have ej:=ae aR;have cG:=ae (ag (ah (Keeps.refl W3) _) aJ (Nat.le_refl _));clear aR aJ))
   have HKK:=ae ((aq.o.trans bS.o).trans cG.o)
   generalize W3.heap.size=q at *
   go_wp2_with (first |(refine aj rfl 25 (.tmp 3) rfl q 0 rfl _ _ ej.o Tryz.underlying25 rfl (by rw[aF,hpl];exact bF) ?_)|(refine wpList_store_row rfl 25 (.tmp 2) (.tmp 17) rfl (p+1) 0 rfl Zr (PV.map (Value.int .u8)) rfl (aV.o.keeps HKK.o) (by rw[aF,hpl,du]) (by rw[aF,hpl];exact bF) (ai _) ?_;intro w9 aR aJ;have H9:=ae aR;have bK:=ae aJ;clear aR aJ))
   exact bodyPost_ret (v:= .agg (PV.map (Value.int .u8)).toArray) (ar (p:=2) (ty:=25) rfl _ _ (p+1) 0 _ _ rfl H9.o Tryz.underlying25 rfl (by rw[aF,hpl];exact bF)) rfl ⟨rfl,ag (HK.o.trans HKK.o) bK.o (by omega)⟩
theorem IW(n:Int)(h0:0≤n)(h1:n<4294967296)(w:World):Calls Tryz.prog 27 #[.int .u32 n] w fun e w' =>∃g,e= .returned (.slice (some ⟨g,0,none⟩) 4 4)∧Keeps w w'∧w.heap.size≤g∧g<w'.heap.size∧Row w' g 0 ((four n).map (Value.int .u8)):=by
 have e1:IntKind.u8.wrap (n/16777216)=n/16777216:=by rw[IntKind.wrap_u8];omega
 have e2:IntKind.u8.wrap (n/65536)=n/65536%256:=by rw[IntKind.wrap_u8]
 have e3:IntKind.u8.wrap (n/256)=n/256%256:=by rw[IntKind.wrap_u8]
 have e4:IntKind.u8.wrap n=n%256:=by rw[IntKind.wrap_u8]
 have t1:Int.tdiv n 16777216=n/16777216:=Int.tdiv_eq_ediv_of_nonneg h0
 have t2:Int.tdiv n 65536=n/65536:=Int.tdiv_eq_ediv_of_nonneg h0
 have t3:Int.tdiv n 256=n/256:=Int.tdiv_eq_ediv_of_nonneg h0
 have w1:IntKind.u32.wrap (n/16777216)=n/16777216:=by rw[IntKind.wrap_u32];omega
 have w2:IntKind.u32.wrap (n/65536)=n/65536:=by rw[IntKind.wrap_u32];omega
 have w3:IntKind.u32.wrap (n/256)=n/256:=by rw[IntKind.wrap_u32];omega
 go_enter Tryz.func27,Tryz.ntmps27
 go_wp2
 go_ret
 exact⟨w.heap.size,rfl,ah (Keeps.refl w) _,Nat.le_refl _,by simp,Row.new _ _ _ rfl⟩
def oF(k:KD):List Int×Int:=if cF k.x k.z=true then(if k.x=0 then(k.z,0)else(ce,1))else(ce,3)
theorem EX(k:KD)(h:k.ok)(w:World):Calls Tryz.prog 14 #[.agg k.cells.toArray] w fun e w' =>e= .returned (.tuple #[.agg ((oF k).1.map (Value.int .u8)).toArray,.int .i64 (oF k).2])∧Keeps w w':=by
 have HG:=ae (fun W=>Cd k h W)
 have HP:=ae (fun W=>gM k h W)
 have HS:=ae (fun W=>kQ k h W)
 have ZK:=ae h.sz
 have hzl:=h.zl
 have hcase:(cF k.x k.z=false∧oF k=(ce,3))∨(cF k.x k.z=true∧¬k.x=0∧oF k=(ce,1))∨(cF k.x k.z=true∧k.x=0∧oF k=(k.z,0)):=by
  unfold oF
  cases cF k.x k.z with
  |false=>exact .inl ⟨rfl,rfl⟩
  |true=>
   by_cases hx:k.x=0
   ·exact .inr (.inr ⟨rfl,hx,by rw[if_pos rfl,if_pos hx]⟩)
   ·exact .inr (.inl ⟨rfl,hx,by rw[if_pos rfl,if_neg hx]⟩)
 generalize k.cells=X at *
 generalize oF k=SR at *
 generalize cF k.x k.z=gv at *
 generalize k.z=z at *
 generalize k.x=x at *
 clear h
 rcases hcase with⟨rfl,rfl⟩|⟨rfl,hx,rfl⟩|⟨rfl,hx,rfl⟩
 all_goals
  try rw[decide_eq_false hx]at HP
  try rw[decide_eq_true hx]at HP
  go_enter Tryz.func14,Tryz.ntmps14
  go_upto_region 1 with(fail)
  refine bu (fun W hk hr hr2 hs=> ?_)
  obtain⟨p,hp⟩:∃p,p=w.heap.size:=⟨_,rfl⟩
  rw[←hp]at hr hr2 hs⊢
  have hkp:w.heap.size≤p:=by omega
  have HR:=ae (show Row W p 0 X from by simpa using hr);have HK:=ae hk
  obtain⟨Zr,du,hrz⟩:∃Zr:List Value,Zr.length=32∧Row W (p+1) 0 Zr:=⟨_,rfl,hr2⟩
  have aV:=ae hrz
  clear hp hk hr hr2 hs hrz
 · go_wp2_with (first |(refine aj rfl 29 (.tmp 1) rfl p 0 rfl _ _ HR.o Tryz.underlying29 rfl ZK.o ?_)|(go_at_call 35;refine(HG.o _).mono ?_;rintro e W1 ⟨rfl,hk1⟩;have bw:=ae hk1;clear hk1)|(refine wpList_store_row rfl 24 (.tmp 2) (.tmp 8) rfl (p+1) 0 rfl Zr (ce.map (Value.int .u8)) rfl (aV.o.keeps bw.o) (by rw[du];rfl) bo (ai _) ?_;intro w9 aR aJ;have H9:=ae aR;have bK:=ae aJ;clear aR aJ))
   exact bodyPost_ret (al (p:=2) (t:=3) (ty:=24) rfl _ _ (p+1) 0 _ _ _ rfl rfl H9.o Tryz.underlying24 rfl bo) rfl ⟨rfl,ag (HK.o.trans bw.o) bK.o (by omega)⟩
 · go_wp2_with (first |(refine aj rfl 29 (.tmp 1) rfl p 0 rfl _ _ (by first |exact HR.o|exact HR.o.keeps bw.o) Tryz.underlying29 rfl ZK.o ?_)|(go_at_call 35;refine(HG.o _).mono ?_;rintro e W1 ⟨rfl,hk1⟩;have bw:=ae hk1;clear hk1)|(go_at_call 10;refine(HP.o _).mono ?_;rintro e W2 ⟨rfl,hk2⟩;have aq:=ae (bw.o.trans hk2);clear hk2)|(refine wpList_store_row rfl 24 (.tmp 2) (.tmp 13) rfl (p+1) 0 rfl Zr (ce.map (Value.int .u8)) rfl (aV.o.keeps aq.o) (by rw[du];rfl) bo (ai _) ?_;intro w9 aR aJ;have H9:=ae aR;have bK:=ae aJ;clear aR aJ))
   exact bodyPost_ret (al (p:=2) (t:=3) (ty:=24) rfl _ _ (p+1) 0 _ _ _ rfl rfl H9.o Tryz.underlying24 rfl bo) rfl ⟨rfl,ag (HK.o.trans aq.o) bK.o (by omega)⟩
 · go_wp2_with (first |(refine aj rfl 29 (.tmp 1) rfl p 0 rfl _ _ (by first |exact HR.o|exact HR.o.keeps bw.o|exact HR.o.keeps aq.o) Tryz.underlying29 rfl ZK.o ?_)|(go_at_call 35;refine(HG.o _).mono ?_;rintro e W1 ⟨rfl,hk1⟩;have bw:=ae hk1;clear hk1)|(go_at_call 10;refine(HP.o _).mono ?_;rintro e W2 ⟨rfl,hk2⟩;have aq:=ae (bw.o.trans hk2);clear hk2 bw)|(go_at_call 24;refine(HS.o _).mono ?_;rintro e W3 ⟨rfl,hk2⟩;have bS:=ae (aq.o.trans hk2);clear hk2)|(refine wpList_store_row rfl 24 (.tmp 2) (.tmp 15) rfl (p+1) 0 rfl Zr (z.map (Value.int .u8)) rfl (aV.o.keeps bS.o) (by rw[aF,hzl,du]) (by rw[aF,hzl];exact bo) (ai _) ?_;intro w9 aR aJ;have H9:=ae aR;have bK:=ae aJ;clear aR aJ))
   exact bodyPost_ret (al (p:=2) (t:=3) (ty:=24) rfl _ _ (p+1) 0 _ _ _ rfl rfl H9.o Tryz.underlying24 rfl (by rw[aF,hzl];exact bo)) rfl ⟨rfl,ag (HK.o.trans bS.o) bK.o (by omega)⟩
theorem mZ{w:World}{ops:Array Oper}{rest:List Oper}{o:Oper}{a:Act}{Q:Exit→Act→World→Prop}(hgd:o.guard=none)(d s:Operand)
 (ho:o.op= .call {callee:= .builtin .copy,args:= #[d,s],argTypes:= #[44,44]}) (g i m c1:Nat) (hd:a.eval d= .slice (some ⟨g,i,none⟩) m c1) (sa:Option Addr) (n cap:Nat) (hs:a.eval s= .slice sa n cap) (hn:m≤n) (hm0:0<m)
 (vs:List Value) (hg:Row w g 0 vs) (hl:i+m≤vs.length) (xs:List Value) (hr:Rd w 1 (.slice sa n cap) n xs) (h1:∀v∈xs,v.oneCell' =true)
 (h:∀w',Row w' g 0 (vs.take i++xs.take m++vs.drop (i+m))→bU (· =g) w w'→wpList Tryz.prog ops Q rest (a.put o.dst (goInt m)) w'):wpList Tryz.prog ops Q (o::rest) a w:=by
 have Ue:xs.length=n:=by have :=hr.1;simpa using this
 have sz:(Tryz.prog.info? 5).map (·.size)=some 1:=by kernel_rfl
 obtain⟨_,a',cap',e,h2,h3,h4,h5⟩:=hr
 cases e
 cases sa with
 |none=>have :=(h4 rfl).1;omega
 |some ad=>
  obtain⟨g2,off2,rfl,_,hrow0⟩:=h5 ad rfl (by omega)
  have hrow:=hrow0.take m
  have hxl:(xs.take m).length=m:=by rw[List.length_take,Ue];omega
  have h1':∀v∈xs.take m,v.oneCell' =true:=fun v hv=>h1 v (List.mem_of_mem_take hv)
  generalize xs.take m=ys at *
  have hadd:∀j,(⟨g2,off2,none⟩:Addr).add j=⟨g2,off2+j,none⟩:=fun j=>by unfold Addr.add;split<;>simp_all
  have hsub:=(hg.drop i).take m
  have hsl:((vs.drop i).take m).length=m:=by simp;omega
  rw[Nat.zero_add]at hsub
  have hld:=run_loadCells_list (P:=Tryz.prog) w ⟨g2,off2,none⟩ ys (fun j v hv=>by rw[hadd];exact(hrow j v hv).1)
  have hst:=run_storeCells_cells (P:=Tryz.prog) g i ys 0 w (fun j hj=>by
   rw[Nat.add_zero]
   have :=hsub j ((vs.drop i).take m)[j] (List.getElem?_eq_getElem (by omega))
   rw[this.1];rfl) (fun j hj=>by
   rw[Nat.add_zero]
   exact(hsub j ((vs.drop i).take m)[j] (List.getElem?_eq_getElem (by omega))).2) h1'
  simp only[Nat.add_zero]at hst
  refine wpList_plain hgd fun K hK=> ?_
  cases hq:Tryz.prog.info? 5 with
  |none=>simp[hq]at sz
  |some x=>
   have hx:x.size=1:=by simpa[hq]using sz
   have hmin:Nat.min n m=m:=Nat.min_eq_right hn
   have hrun:(Builtin.copy_ #[44,44] o.type #[.slice (some ⟨g,i,none⟩) m c1,.slice (some ⟨g2,off2,none⟩) n cap]).run Tryz.prog w= .ok (goInt m) (w.setCells g i ys):=by
    rw[hxl]at hld
    simp[Builtin.copy_,run_underlying Tryz.underlying44,Builtin.lenOf,Builtin.firstCells,sizeOf,typeInfo,hq,hx,hmin,hld,hst]
   unfold Oper.wp
   simp[execOp,ho,resolve,invoke,builtin,hd,hs,hrun,Result.andThen]
   have hrow2:=Row.setCells (w:=w) ys i hg (by omega)
   rw[Nat.zero_add,hxl]at hrow2
   exact hK _ _ (h _ hrow2 (dh _ _ _ _))
theorem tV(n:Int)(h0:0≤n)(h1:n<4294967296)(w:World):Calls Tryz.prog 21 #[.int .u32 n] w fun e w' =>∃g,e= .returned (.slice (some ⟨g,0,none⟩) 4 4)∧Keeps w w'∧w.heap.size≤g∧g<w'.heap.size∧Row w' g 0 ((four n).map (Value.int .u8)):=by
 have e1:IntKind.u8.wrap (n/16777216)=n/16777216:=by rw[IntKind.wrap_u8];omega
 have e2:IntKind.u8.wrap (n/65536)=n/65536%256:=by rw[IntKind.wrap_u8]
 have e3:IntKind.u8.wrap (n/256)=n/256%256:=by rw[IntKind.wrap_u8]
 have e4:IntKind.u8.wrap n=n%256:=by rw[IntKind.wrap_u8]
 go_enter Tryz.func21,Tryz.ntmps21
 go_wp2
 go_ret
 exact⟨w.heap.size,rfl,ah (Keeps.refl w) _,Nat.le_refl _,by simp,Row.new _ _ _ rfl⟩
end Go.Proofs.YtlofddoojkeakaaGreatDoor
namespace Go.Proofs.YtlofddoojkeakaaGreatDoor
open Go Go.RowKit
def jC(a:Act):List Nat→List Value→Act
 |t::ts,u::us=>jC (a.put (some t) u) ts us
 |_,_=>a
section
variable {P:Program} {ops:Array Oper} {md:Region.Mode} {S:World→Prop} {Q:Exit→Act→World→Prop}
theorem pT{c rest:Code}{Q0:Exit→Act→World→Prop}{K1:Act→World→Prop}{a:Act}{w:World}(ts:List Nat)(J:List Value→World→Prop)(hK1:∀a w,Code.wp P rest Q a w→K1 a w)
 (h2:(∀us w',us.length=ts.length→J us w'→K1 (jC a ts us) w')→Code.wp P c Q0 a w) (h1:∀us w',us.length=ts.length→J us w'→Code.wp P rest Q (jC a ts us) w'):Code.wp P c Q0 a w:=
 h2 (fun us w' hl hj=>hK1 _ _ (h1 us w' hl hj))
theorem aK{n:Nat}{L:Array Bool→Act→World→Prop}{f:Nat}{listed:Array Bool}{a:Act}{w:World}(I:World→Prop)(hI:I w)(h:∀W,I W→dD P md ops Q S n L f listed a W):dD P md ops Q S n L f listed a w:=h w hI
theorem ck{n i j:Nat}{o o':Oper}{L:Array Bool→Act→World→Prop}{fuel:Nat}{listed:Array Bool}{a:Act}{w:World}(hr:Region.ready md ops listed=[i,j])(hin:decide (i<n∧j<n)=true)(ho:ops[i]? =some o:=by simp only[kG];exact rfl)(ho':ops[j]? =some o':=by simp only[kG];exact rfl)
 (h:wpList P ops (aN Q (fun a w=>S w∧(S w→dD P md ops Q S n L fuel (listed.setIfInBounds i true) a w))) [o] a w)
 (h':wpList P ops (aN Q (fun a w=>S w∧(S w→dD P md ops Q S n L fuel (listed.setIfInBounds j true) a w))) [o'] a w):dD P md ops Q S n L (fuel+1) listed a w:=by
 have key:∀k ok,ops[k]? =some ok→wpList P ops (aN Q (fun a w=>S w∧(S w→dD P md ops Q S n L fuel (listed.setIfInBounds k true) a w))) [ok] a w→wpOp P ops Q k (fun a' w' =>S w'∧dD P md ops Q S n L fuel (listed.setIfInBounds k true) a' w') a w:=fun k ok hok h=>by
  unfold wpOp
  simp only[hok]
  simp only[wpList]at h
  split
  · rename_i hw
    simp only[hw,if_true]at h
    rcases h with h|⟨h1,h2⟩
    ·exact .inl (yj h (fun a w hk=>⟨hk.1,hk.2 hk.1⟩))
    ·exact .inr ⟨h1,h2⟩
  · rename_i hw
    simp only[hw]at h
    exact⟨h.1,h.2 h.1⟩
 have hd:=of_decide_eq_true hin
 refine⟨by rw[hr];simp,fun k hk=> ?_⟩
 rw[hr]at hk
 rcases List.mem_cons.1 hk with rfl|hk
 ·exact⟨hd.1,key _ _ ho h⟩
 ·obtain rfl:k=j:=by simpa using hk
  exact⟨hd.2,key _ _ ho' h'⟩
end
theorem kS{w W:World}(hk:Keeps w W)(T:TypeId):Own w (W.alloc (.cells #[] T)) (.slice (some ⟨W.heap.size,0,none⟩) 0 0) 0 []:=
 ⟨ah hk _,Buf.made T,fun g h=>by simp[Value.ownBlock]at h;have :=hk.size;omega⟩
structure aC (w W:World) (q:Nat) (zs:List Value) (v:Value):Prop where
 row:Row W q 0 zs
 ge:w.heap.size≤q
 lt:q<W.heap.size
 ne:v.ownBlock≠some q
theorem aC.new {w W:World}(hk:Keeps w W){v:Value}{n:Nat}{l:List Int}(h:Own w W v n l)(zs:List Value)(C:Array Value)(hC:C=zs.toArray)(T:TypeId):aC w (W.alloc (.cells C T)) W.heap.size zs v:=
 ⟨by subst hC;exact Row.new _ _ _ rfl,hk.size,by simp,fun e=>by have :=h.buf.lt e;omega⟩
theorem aC.keeps {w W W':World}{q:Nat}{zs:List Value}{v:Value}(h:aC w W q zs v)(hk:Keeps W W'):aC w W' q zs v:=⟨h.row.keeps hk,h.ge,Nat.lt_of_lt_of_le h.lt hk.size,h.ne⟩
theorem aC.grown {w W W':World}{q:Nat}{zs:List Value}{v v':Value}(h:aC w W q zs v)(hg:Grown W W' v v'):aC w W' q zs v':=
 ⟨h.row.aG hg.1 (fun e=>h.ne e),h.ge,Nat.lt_of_lt_of_le h.lt hg.1.size,by
   rcases hg.2 with e|⟨g,e,hge⟩
   ·rw[e];exact h.ne
   ·rw[e];intro e2;have :=h.lt;cases e2;omega⟩
theorem aC.made {w W:World}{q:Nat}{zs:List Value}{v:Value}(h:aC w W q zs v)(T:TypeId):aC w (W.alloc (.cells #[] T)) q zs (.slice (some ⟨W.heap.size,0,none⟩) 0 0):=
 ⟨h.row.alloc _,h.ge,by have :=h.lt;simp;omega,by have :=h.lt;simp[Value.ownBlock];omega⟩
end Go.Proofs.YtlofddoojkeakaaGreatDoor
