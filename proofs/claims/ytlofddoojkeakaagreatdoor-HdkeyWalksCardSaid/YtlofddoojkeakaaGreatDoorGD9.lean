/- The reference's RIPEMD-160 (strongboxref02.Ripemd) is RIPEMD-160.. -/
import Derived.Test.YtlofddoojkeakaaGreatDoorGD7
import Derived.Test.YtlofddoojkeakaaGreatDoorGD2
set_option maxRecDepth 100000
set_option maxHeartbeats 8000000
set_option linter.unusedVariables false
set_option linter.unusedSimpArgs false
namespace Go.Proofs.YtlofddoojkeakaaGreatDoor.j4
open Go Go.RowKit
def lp(l:List Int)(t:Nat):Nat→Int
 |0=>0
 |j+1=>(lp l t j*256+l.getD (4*t+(3 -j)) 0)%4294967296
theorem IL(l:List Int)(t j:Nat):W32 (lp l t j):=by
 cases j with
 |zero=>exact⟨by simp[lp],by simp[lp]⟩
 |succ j=>exact⟨by simp only[lp];omega,by simp only[lp];omega⟩
theorem Kk{l:List Int}(h:Bytes l)(t:Nat):lp l t 4=pO l t:=by
 unfold pO
 simp only[lp,Nat.sub_zero,Nat.reduceSub,Nat.add_zero]
 obtain⟨a0,a1⟩:=h.getD (4*t)
 obtain⟨b0,b1⟩:=h.getD (4*t+1)
 obtain⟨c0,c1⟩:=h.getD (4*t+2)
 obtain⟨d0,d1⟩:=h.getD (4*t+3)
 omega
def xw(l:List Int)(t j:Nat):List Int:=(fR l t).set t (lp l t j)
theorem Kl(l:List Int)(t:Nat)(h:t<16):xw l t 0=fR l t:=by
 unfold xw fR
 rw[List.set_append_right _ _ (by simp)]
 simp only[aF,List.length_range,Nat.sub_self]
 rw[show 16 -t=(15 -t)+1 by omega,List.replicate_succ]
 rfl
theorem Km{l:List Int}(hb:Bytes l)(t:Nat)(h:t<16):xw l t 4=fR l (t+1):=by
 unfold xw
 rw[Kk hb,Ac _ _ h]
theorem qF(l:List Int)(t j:Nat)(h:t≤16):(xw l t j).length=16:=by unfold xw;rw[List.length_set,fD _ _ h]
theorem Kn(l:List Int)(t j:Nat)(h:t<16):(xw l t j).getD t 0=lp l t j:=by
 have :t<(fR l t).length:=by rw[fD _ _ (by omega)];exact h
 unfold xw
 simp[List.getD,this]
theorem Nr(l:List Int)(t j:Nat):(xw l t j).set t (lp l t (j+1))=xw l t (j+1):=by unfold xw;rw[List.set_set]
structure Tabs (W:World) (b3 b4 b5 b6 b7 b8:Nat):Prop where
 r3:Row W b3 0 ((ints rL).map (Value.int .i64))
 r4:Row W b4 0 ((ints rR).map (Value.int .i64))
 r5:Row W b5 0 ((ints sL).map (Value.int .i64))
 r6:Row W b6 0 ((ints sR).map (Value.int .i64))
 r7:Row W b7 0 (kL.map (Value.int .u32))
 r8:Row W b8 0 (kR.map (Value.int .u32))
theorem Tabs.aG {S:Nat→Prop}{W W':World}{b3 b4 b5 b6 b7 b8:Nat}(h:Tabs W b3 b4 b5 b6 b7 b8)(hc:bU S W W')(hs:¬S b3∧¬S b4∧¬S b5∧¬S b6∧¬S b7∧¬S b8):Tabs W' b3 b4 b5 b6 b7 b8:=
 ⟨h.r3.aG hc hs.1,h.r4.aG hc hs.2.1,h.r5.aG hc hs.2.2.1,h.r6.aG hc hs.2.2.2.1,h.r7.aG hc hs.2.2.2.2.1,h.r8.aG hc hs.2.2.2.2.2⟩
theorem Tabs.keeps {W W':World}{b3 b4 b5 b6 b7 b8:Nat}(h:Tabs W b3 b4 b5 b6 b7 b8)(hk:Keeps W W'):Tabs W' b3 b4 b5 b6 b7 b8:=h.aG (hk.aG (fun _=>False)) ⟨id,id,id,id,id,id⟩
theorem cZ(l:List Nat)(h:l.length=80):(ints l).map (Value.int .i64)≠[]:=by intro e;have :=congrArg List.length e;rw[aF,bW,h]at this;simp at this
theorem k_ne(l:List Int)(h:l.length=5):l.map (Value.int .u32)≠[]:=by intro e;have :=congrArg List.length e;rw[aF,h]at this;simp at this
theorem Tabs.lt {W:World}{b3 b4 b5 b6 b7 b8:Nat}(h:Tabs W b3 b4 b5 b6 b7 b8):b3<W.heap.size∧b4<W.heap.size∧b5<W.heap.size∧b6<W.heap.size∧b7<W.heap.size∧b8<W.heap.size:=
 ⟨h.r3.lt (cZ _ rfl),h.r4.lt (cZ _ rfl),h.r5.lt (cZ _ rfl),h.r6.lt (cZ _ rfl),h.r7.lt (k_ne _ rfl),h.r8.lt (k_ne _ rfl)⟩
theorem Tabs.at {W:World}{b3 b4 b5 b6 b7 b8:Nat}(h:Tabs W b3 b4 b5 b6 b7 b8)(j:Nat)(hj:j<80):
 W.cell? ⟨b3,j,none⟩=some (.int .i64 ((rL.getD j 0:Nat):Int))∧W.cell? ⟨b4,j,none⟩=some (.int .i64 ((rR.getD j 0:Nat):Int))∧W.cell? ⟨b5,j,none⟩=some (.int .i64 ((sL.getD j 0:Nat):Int))∧W.cell? ⟨b6,j,none⟩=some (.int .i64 ((sR.getD j 0:Nat):Int))∧W.cell? ⟨b7,j/16,none⟩=some (.int .u32 (kL.getD (j/16) 0))∧W.cell? ⟨b8,j/16,none⟩=some (.int .u32 (kR.getD (j/16) 0)):=by
 have h80:∀l:List Nat,l.length=80→j<(ints l).length:=fun l hl=>by rw[bW,hl];exact hj
 have g3:=h.r3.aT j (h80 _ rfl)
 have g4:=h.r4.aT j (h80 _ rfl)
 have g5:=h.r5.aT j (h80 _ rfl)
 have g6:=h.r6.aT j (h80 _ rfl)
 rw[qD]at g3 g4 g5 g6
 exact⟨g3,g4,g5,g6,h.r7.aT (j/16) (by show j/16<5;omega),h.r8.aT (j/16) (by show j/16<5;omega)⟩
structure lO (w W:World) (p2 b3 b4 b5 b6 b7 b8 p9 gm om:Nat) (M:List Int) (s:S5):Prop where
 keeps:Keeps w W
 res:Row W p2 0 (List.replicate 20 (Value.int .u8 0))
 tabs:Tabs W b3 b4 b5 b6 b7 b8
 st:Row W p9 0 (s.list.map (Value.int .u32))
 msg:Row W gm om (M.map (Value.int .u8))
 new:w.heap.size≤p9∧p2≠p9∧b3≠p9∧b4≠p9∧b5≠p9∧b6≠p9∧b7≠p9∧b8≠p9∧gm≠p9
theorem lO.step {w W W':World}{p2 b3 b4 b5 b6 b7 b8 p9 gm om:Nat}{M:List Int}{s:S5}(h:lO w W p2 b3 b4 b5 b6 b7 b8 p9 gm om M s)(hk:Keeps W W'):lO w W' p2 b3 b4 b5 b6 b7 b8 p9 gm om M s:=
 ⟨h.keeps.trans hk,h.res.keeps hk,h.tabs.keeps hk,h.st.keeps hk,h.msg.keeps hk,h.new⟩
theorem lO.aG {w W W':World}{p2 b3 b4 b5 b6 b7 b8 p9 gm om:Nat}{M:List Int}{s s':S5}(h:lO w W p2 b3 b4 b5 b6 b7 b8 p9 gm om M s)(hc:bU (· =p9) W W')(hr:Row W' p9 0 (s'.list.map (Value.int .u32))):lO w W' p2 b3 b4 b5 b6 b7 b8 p9 gm om M s':=by
 obtain⟨n0,n1,n2,n3,n4,n5,n6,n7,n8⟩:=h.new
 exact⟨aD h.keeps hc n0,h.res.aG hc n1,h.tabs.aG hc ⟨n2,n3,n4,n5,n6,n7⟩,hr,h.msg.aG hc n8,h.new⟩
theorem lO.other {S:Nat→Prop}{w W W':World}{p2 b3 b4 b5 b6 b7 b8 p9 gm om N:Nat}{M:List Int}{s:S5}(h:lO w W p2 b3 b4 b5 b6 b7 b8 p9 gm om M s)(hc:bU S W W')(hS:∀k,S k→N≤k)(hN:w.heap.size≤N∧p2<N∧b3<N∧b4<N∧b5<N∧b6<N∧b7<N∧b8<N∧p9<N∧gm<N):lO w W' p2 b3 b4 b5 b6 b7 b8 p9 gm om M s:=by
 obtain⟨n0,n1,n2,n3,n4,n5,n6,n7,n8,n9⟩:=hN
 have hn:∀b,b<N→¬S b:=fun b hb hs=>by have :=hS b hs;omega
 exact⟨Below.trans h.keeps (hc.below h.keeps.size (fun k hk e=>by have :=hS k e;omega)),h.res.aG hc (hn _ n1),h.tabs.aG hc ⟨hn _ n2,hn _ n3,hn _ n4,hn _ n5,hn _ n6,hn _ n7⟩,h.st.aG hc (hn _ n8),h.msg.aG hc (hn _ n9),h.new⟩
theorem lO.lt {w W:World}{p2 b3 b4 b5 b6 b7 b8 p9 gm om:Nat}{M:List Int}{s:S5}(h:lO w W p2 b3 b4 b5 b6 b7 b8 p9 gm om M s)(hM:M≠[]):w.heap.size≤W.heap.size∧p2<W.heap.size∧b3<W.heap.size∧b4<W.heap.size∧b5<W.heap.size∧b6<W.heap.size∧b7<W.heap.size∧b8<W.heap.size∧p9<W.heap.size∧gm<W.heap.size:=by
 obtain⟨t3,t4,t5,t6,t7,t8⟩:=h.tabs.lt
 exact⟨h.keeps.size,h.res.lt (by simp),t3,t4,t5,t6,t7,t8,h.st.lt (by simp[S5.list]),h.msg.lt (by simpa using hM)⟩
theorem Ca(v:Value)(n:Nat)(zs:List Int)(w:World)(hr:Rd w 1 v n (zs.map (Value.int .u8)))(hz:Bytes zs)(hn:n≤35184372088832):
 Calls Tryz.prog 60 #[v] w fun e w' =>e= .returned (.agg ((ef zs).map (Value.int .u8)).toArray)∧Keeps w w':=by
 have hzl:zs.length=n:=by have :=hr.1;simpa using this
 have BP:bN 64 8 n≤63:=by unfold bN;omega
 have hml:(zs++dk 64 8 n true).length=n+(9+bN 64 8 n):=by rw[List.length_append,gX,hzl];omega
 have hmb:Bytes (zs++dk 64 8 n true):=by
  intro x hx
  rcases List.mem_append.1 hx with h|h
  ·exact hz x h
  ·exact pD.jQ 64 8 n true x h
 have hmod:(n+(9+bN 64 8 n))%64=0:=by unfold bN;omega
 have pG:ef zs=j4.dI (fF fE (zs++dk 64 8 n true) ((n+(9+bN 64 8 n))/64)).list:=by unfold ef xG;rw[hzl,hml]
 have fO:∀W,Keeps w W→Calls Tryz.prog 96 #[v,.int .i64 64,.int .i64 8,.bool true] W fun e w' =>∃v',e= .returned v'∧Own W w' v' (n+(1+bN 64 8 n+8)) (zs++dk 64 8 n true):=fun W h=>tv 64 8 (.inl ⟨rfl,rfl⟩) true v n zs W (hr.keeps h) (by omega)
 simp only[show n+(1+bN 64 8 n+8)=n+(9+bN 64 8 n) by omega]at fO
 rw[pG]
 have mP:=ae fO;have J7:=ae hmb;have qY:=ae hml
 clear hr hz hzl fO hmb hml pG
 obtain⟨B,hB⟩:∃B,n+(9+bN 64 8 n)=64*B:=⟨(n+(9+bN 64 8 n))/64,by omega⟩
 rw[show(n+(9+bN 64 8 n))/64=B by omega]
 rw[hB]at mP qY
 generalize zs++dk 64 8 n true=M at *
 have hBb:B≤549755813890:=by omega
 have hB1:1≤B:=by omega
 clear hmod BP hB
 go_enter Tryz.func60,Tryz.ntmps60
 go_upto_region 1 with(fail)
 refine cf (fun W=>Keeps w W∧w.heap.size<W.heap.size∧Row W w.heap.size 0 (List.replicate 20 (Value.int .u8 0))) ⟨(Keeps.refl _).alloc (Nat.le_refl _) _,by show _<(w.heap.push _).size;rw[Array.size_push];omega,Row.new _ _ _ rfl⟩ ?_
 intro W1 ⟨hk1,hl1,hr1⟩
 obtain⟨p2,hp2⟩:∃p,p=w.heap.size:=⟨_,rfl⟩
 rw[←hp2]at hr1⊢
 have HP2:=ae hp2
 clear hp2
 have Ah:p2<W1.heap.size:=by have :=HP2.o;omega
 have bw:=ae hk1;have HR2:=ae hr1
 clear hk1 hr1 hl1
 go_upto_region 2 with(first |(refine wpList_buildFlatArr rfl 145 3 80 _ rfl .i64 (ints rL) Tryz.underlying145 mW (by kernel_rfl) (by kernel_rfl) ?_)|(refine wpList_store_row rfl 145 (.tmp 3) (.tmp 21) rfl W1.heap.size 0 rfl (List.replicate 80 (Value.int .i64 0)) ((ints rL).map (Value.int .i64)) rfl (Row.new _ _ _ rfl) (by simp[bW];rfl) (by rw[aF,bW];exact Kh) (ai _) ?_;intro W2 hr hc;have HR3:=ae hr;have HC:=ae hc;clear hr hc))
 have hk:Keeps w W2:=aD (av bw.o _) HC.o bw.o.size
 have hr2:=(HR2.o.alloc (.cells (List.replicate 80 (Value.int .i64 0)).toArray 145)).aG HC.o (by omega)
 have hl3:W1.heap.size<W2.heap.size:=HR3.o.lt (cZ _ rfl)
 clear HC bw HR2
 have aq:=ae hk
 have HR2:=ae hr2
 clear hk hr2
 obtain⟨b3,hb3⟩:∃p,p=W1.heap.size:=⟨_,rfl⟩
 rw[←hb3]at HR3⊢
 have Bt:=ae hb3
 have hlt3:b3<W2.heap.size:=by omega
 have xA:p2<b3∧p2≠b3:=by omega
 have hsz:W1.heap.size≤W2.heap.size:=by omega
 clear hb3
 have Ah:p2<W2.heap.size:=by omega
 clear hsz hl3
 go_upto_region 3 with(first |(refine wpList_buildFlatArr rfl 145 3 80 _ rfl .i64 (ints rR) Tryz.underlying145 mW (by kernel_rfl) (by kernel_rfl) ?_)|(refine wpList_store_row rfl 145 (.tmp 4) (.tmp 22) rfl W2.heap.size 0 rfl (List.replicate 80 (Value.int .i64 0)) ((ints rR).map (Value.int .i64)) rfl (Row.new _ _ _ rfl) (by simp[bW];rfl) (by rw[aF,bW];exact Kh) (ai _) ?_;intro W3 hr hc;have HR4:=ae hr;have HC:=ae hc;clear hr hc))
 have hk:Keeps w W3:=aD (av aq.o _) HC.o aq.o.size
 have hr2:=(HR2.o.alloc (.cells (List.replicate 80 (Value.int .i64 0)).toArray 145)).aG HC.o (by omega)
 have hr3:=(HR3.o.alloc (.cells (List.replicate 80 (Value.int .i64 0)).toArray 145)).aG HC.o (by omega)
 have hl4:W2.heap.size<W3.heap.size:=HR4.o.lt (cZ _ rfl)
 clear HC aq HR2 HR3
 have bS:=ae hk
 have HR2:=ae hr2
 have HR3:=ae hr3
 clear hk hr2 hr3
 obtain⟨b4,hb4⟩:∃p,p=W2.heap.size:=⟨_,rfl⟩
 rw[←hb4]at HR4⊢
 have XN:=ae hb4
 have hlt4:b4<W3.heap.size:=by omega
 have BH:p2<b4∧p2≠b4∧b3≠b4:=by omega
 have hsz:W2.heap.size≤W3.heap.size:=by omega
 clear hb4 hlt3
 have Ah:p2<W3.heap.size:=by omega
 have hlt3:b3<W3.heap.size:=HR3.o.lt (cZ _ rfl)
 clear hsz hl4
 go_upto_region 4 with(first |(refine wpList_buildFlatArr rfl 145 3 80 _ rfl .i64 (ints sL) Tryz.underlying145 mW (by kernel_rfl) (by kernel_rfl) ?_)|(refine wpList_store_row rfl 145 (.tmp 5) (.tmp 23) rfl W3.heap.size 0 rfl (List.replicate 80 (Value.int .i64 0)) ((ints sL).map (Value.int .i64)) rfl (Row.new _ _ _ rfl) (by simp[bW];rfl) (by rw[aF,bW];exact Kh) (ai _) ?_;intro W4 hr hc;have ej:=ae hr;have HC:=ae hc;clear hr hc))
 have hk:Keeps w W4:=aD (av bS.o _) HC.o bS.o.size
 have hr2:=(HR2.o.alloc (.cells (List.replicate 80 (Value.int .i64 0)).toArray 145)).aG HC.o (by omega)
 have hr3:=(HR3.o.alloc (.cells (List.replicate 80 (Value.int .i64 0)).toArray 145)).aG HC.o (by omega)
 have hr4:=(HR4.o.alloc (.cells (List.replicate 80 (Value.int .i64 0)).toArray 145)).aG HC.o (by omega)
 have hl5:W3.heap.size<W4.heap.size:=ej.o.lt (cZ _ rfl)
 clear HC bS HR2 HR3 HR4
 have gR:=ae hk
 have HR2:=ae hr2
 have HR3:=ae hr3
 have HR4:=ae hr4
 clear hk hr2 hr3 hr4
 obtain⟨b5,hb5⟩:∃p,p=W3.heap.size:=⟨_,rfl⟩
 rw[←hb5]at ej⊢
 have MV:=ae hb5
 have uG:b5<W4.heap.size:=by omega
 have hne5:p2<b5∧p2≠b5∧b3≠b5∧b4≠b5:=by omega
 have hsz:W3.heap.size≤W4.heap.size:=by omega
 clear hb5 hlt3 hlt4
 have Ah:p2<W4.heap.size:=by omega
 have hlt3:b3<W4.heap.size:=HR3.o.lt (cZ _ rfl)
 have hlt4:b4<W4.heap.size:=HR4.o.lt (cZ _ rfl)
 clear hsz hl5
 go_upto_region 5 with(first |(refine wpList_buildFlatArr rfl 145 3 80 _ rfl .i64 (ints sR) Tryz.underlying145 mW (by kernel_rfl) (by kernel_rfl) ?_)|(refine wpList_store_row rfl 145 (.tmp 6) (.tmp 24) rfl W4.heap.size 0 rfl (List.replicate 80 (Value.int .i64 0)) ((ints sR).map (Value.int .i64)) rfl (Row.new _ _ _ rfl) (by simp[bW];rfl) (by rw[aF,bW];exact Kh) (ai _) ?_;intro W5 hr hc;have dM:=ae hr;have HC:=ae hc;clear hr hc))
 have hk:Keeps w W5:=aD (av gR.o _) HC.o gR.o.size
 have hr2:=(HR2.o.alloc (.cells (List.replicate 80 (Value.int .i64 0)).toArray 145)).aG HC.o (by omega)
 have hr3:=(HR3.o.alloc (.cells (List.replicate 80 (Value.int .i64 0)).toArray 145)).aG HC.o (by omega)
 have hr4:=(HR4.o.alloc (.cells (List.replicate 80 (Value.int .i64 0)).toArray 145)).aG HC.o (by omega)
 have dG:=(ej.o.alloc (.cells (List.replicate 80 (Value.int .i64 0)).toArray 145)).aG HC.o (by omega)
 have XO:W4.heap.size<W5.heap.size:=dM.o.lt (cZ _ rfl)
 clear HC gR HR2 HR3 HR4 ej
 have cG:=ae hk
 have HR2:=ae hr2
 have HR3:=ae hr3
 have HR4:=ae hr4
 have ej:=ae dG
 clear hk hr2 hr3 hr4 dG
 obtain⟨b6,hb6⟩:∃p,p=W4.heap.size:=⟨_,rfl⟩
 rw[←hb6]at dM⊢
 have XP:=ae hb6
 have Cb:b6<W5.heap.size:=by omega
 have T2:p2<b6∧p2≠b6∧b3≠b6∧b4≠b6∧b5≠b6:=by omega
 have hsz:W4.heap.size≤W5.heap.size:=by omega
 clear hb6 hlt3 hlt4 uG
 have Ah:p2<W5.heap.size:=by omega
 have hlt3:b3<W5.heap.size:=HR3.o.lt (cZ _ rfl)
 have hlt4:b4<W5.heap.size:=HR4.o.lt (cZ _ rfl)
 have uG:b5<W5.heap.size:=ej.o.lt (cZ _ rfl)
 clear hsz XO
 go_upto_region 6 with(first |(refine wpList_buildFlatArr rfl 143 23 5 _ rfl .u32 kL Tryz.underlying143 mo (by kernel_rfl) (by kernel_rfl) ?_)|(refine wpList_store_row rfl 143 (.tmp 7) (.tmp 25) rfl W5.heap.size 0 rfl (List.replicate 5 (Value.int .u32 0)) (kL.map (Value.int .u32)) rfl (Row.new _ _ _ rfl) rfl AH (ai _) ?_;intro W6 hr hc;have qf:=ae hr;have HC:=ae hc;clear hr hc))
 have hk:Keeps w W6:=aD (av cG.o _) HC.o cG.o.size
 have hr2:=(HR2.o.alloc (.cells (List.replicate 5 (Value.int .u32 0)).toArray 143)).aG HC.o (by omega)
 have hr3:=(HR3.o.alloc (.cells (List.replicate 5 (Value.int .u32 0)).toArray 143)).aG HC.o (by omega)
 have hr4:=(HR4.o.alloc (.cells (List.replicate 5 (Value.int .u32 0)).toArray 143)).aG HC.o (by omega)
 have dG:=(ej.o.alloc (.cells (List.replicate 5 (Value.int .u32 0)).toArray 143)).aG HC.o (by omega)
 have eD:=(dM.o.alloc (.cells (List.replicate 5 (Value.int .u32 0)).toArray 143)).aG HC.o (by omega)
 have P1:W5.heap.size<W6.heap.size:=qf.o.lt (k_ne _ rfl)
 clear HC cG HR2 HR3 HR4 ej dM
 have iY:=ae hk
 have HR2:=ae hr2
 have HR3:=ae hr3
 have HR4:=ae hr4
 have ej:=ae dG
 have dM:=ae eD
 clear hk hr2 hr3 hr4 dG eD
 obtain⟨b7,hb7⟩:∃p,p=W5.heap.size:=⟨_,rfl⟩
 rw[←hb7]at qf⊢
 have XQ:=ae hb7
 have IM:b7<W6.heap.size:=by omega
 have T3:p2<b7∧p2≠b7∧b3≠b7∧b4≠b7∧b5≠b7∧b6≠b7:=by omega
 have hsz:W5.heap.size≤W6.heap.size:=by omega
 clear hb7 hlt3 hlt4 uG Cb
 have Ah:p2<W6.heap.size:=by omega
 have hlt3:b3<W6.heap.size:=HR3.o.lt (cZ _ rfl)
 have hlt4:b4<W6.heap.size:=HR4.o.lt (cZ _ rfl)
 have uG:b5<W6.heap.size:=ej.o.lt (cZ _ rfl)
 have Cb:b6<W6.heap.size:=dM.o.lt (cZ _ rfl)
 clear hsz P1
 go_upto_region 7 with(first |(refine wpList_buildFlatArr rfl 143 23 5 _ rfl .u32 kR Tryz.underlying143 mo (by kernel_rfl) (by kernel_rfl) ?_)|(refine wpList_store_row rfl 143 (.tmp 8) (.tmp 26) rfl W6.heap.size 0 rfl (List.replicate 5 (Value.int .u32 0)) (kR.map (Value.int .u32)) rfl (Row.new _ _ _ rfl) rfl AH (ai _) ?_;intro W7 hr hc;have xO:=ae hr;have HC:=ae hc;clear hr hc))
 have hk:Keeps w W7:=aD (av iY.o _) HC.o iY.o.size
 have hr2:=(HR2.o.alloc (.cells (List.replicate 5 (Value.int .u32 0)).toArray 143)).aG HC.o (by omega)
 have hr3:=(HR3.o.alloc (.cells (List.replicate 5 (Value.int .u32 0)).toArray 143)).aG HC.o (by omega)
 have hr4:=(HR4.o.alloc (.cells (List.replicate 5 (Value.int .u32 0)).toArray 143)).aG HC.o (by omega)
 have dG:=(ej.o.alloc (.cells (List.replicate 5 (Value.int .u32 0)).toArray 143)).aG HC.o (by omega)
 have eD:=(dM.o.alloc (.cells (List.replicate 5 (Value.int .u32 0)).toArray 143)).aG HC.o (by omega)
 have nJ:=(qf.o.alloc (.cells (List.replicate 5 (Value.int .u32 0)).toArray 143)).aG HC.o (by omega)
 have RD:W6.heap.size<W7.heap.size:=xO.o.lt (k_ne _ rfl)
 clear HC iY HR2 HR3 HR4 ej dM qf
 have i8:=ae hk
 have HR2:=ae hr2
 have HR3:=ae hr3
 have HR4:=ae hr4
 have ej:=ae dG
 have dM:=ae eD
 have qf:=ae nJ
 clear hk hr2 hr3 hr4 dG eD nJ
 obtain⟨b8,hb8⟩:∃p,p=W6.heap.size:=⟨_,rfl⟩
 rw[←hb8]at xO⊢
 have XR:=ae hb8
 have J5:b8<W7.heap.size:=by omega
 have T4:p2<b8∧p2≠b8∧b3≠b8∧b4≠b8∧b5≠b8∧b6≠b8∧b7≠b8:=by omega
 have hsz:W6.heap.size≤W7.heap.size:=by omega
 clear hb8 hlt3 hlt4 uG Cb IM
 have Ah:p2<W7.heap.size:=by omega
 have hlt3:b3<W7.heap.size:=HR3.o.lt (cZ _ rfl)
 have hlt4:b4<W7.heap.size:=HR4.o.lt (cZ _ rfl)
 have uG:b5<W7.heap.size:=ej.o.lt (cZ _ rfl)
 have Cb:b6<W7.heap.size:=dM.o.lt (cZ _ rfl)
 have IM:b7<W7.heap.size:=qf.o.lt (k_ne _ rfl)
 clear hsz RD
 go_upto_region 8 with(first |(refine wpList_buildFlatArr rfl 143 23 5 _ rfl .u32 fE.list Tryz.underlying143 mo (by kernel_rfl) (by kernel_rfl) ?_)|(refine wpList_store_row rfl 143 (.tmp 9) (.tmp 27) rfl W7.heap.size 0 rfl (List.replicate 5 (Value.int .u32 0)) (fE.list.map (Value.int .u32)) rfl (Row.new _ _ _ rfl) rfl AH (ai _) ?_;intro W8 hr hc;have lr:=ae hr;have HC:=ae hc;clear hr hc))
 have hk:Keeps w W8:=aD (av i8.o _) HC.o i8.o.size
 have hr2:=(HR2.o.alloc (.cells (List.replicate 5 (Value.int .u32 0)).toArray 143)).aG HC.o (by omega)
 have hr3:=(HR3.o.alloc (.cells (List.replicate 5 (Value.int .u32 0)).toArray 143)).aG HC.o (by omega)
 have hr4:=(HR4.o.alloc (.cells (List.replicate 5 (Value.int .u32 0)).toArray 143)).aG HC.o (by omega)
 have dG:=(ej.o.alloc (.cells (List.replicate 5 (Value.int .u32 0)).toArray 143)).aG HC.o (by omega)
 have eD:=(dM.o.alloc (.cells (List.replicate 5 (Value.int .u32 0)).toArray 143)).aG HC.o (by omega)
 have nJ:=(qf.o.alloc (.cells (List.replicate 5 (Value.int .u32 0)).toArray 143)).aG HC.o (by omega)
 have B7:=(xO.o.alloc (.cells (List.replicate 5 (Value.int .u32 0)).toArray 143)).aG HC.o (by omega)
 have iz:W7.heap.size<W8.heap.size:=lr.o.lt (by simp[S5.list])
 clear HC i8 HR2 HR3 HR4 ej dM qf xO
 have jM:=ae hk
 have HR2:=ae hr2
 have HR3:=ae hr3
 have HR4:=ae hr4
 have ej:=ae dG
 have dM:=ae eD
 have qf:=ae nJ
 have xO:=ae B7
 clear hk hr2 hr3 hr4 dG eD nJ B7
 obtain⟨p9,Oj⟩:∃p,p=W7.heap.size:=⟨_,rfl⟩
 rw[←Oj]at lr⊢
 have XS:=ae Oj
 have XT:p9<W8.heap.size:=by omega
 have oo:p2<p9∧p2≠p9∧b3≠p9∧b4≠p9∧b5≠p9∧b6≠p9∧b7≠p9∧b8≠p9:=by omega
 have hsz:W7.heap.size≤W8.heap.size:=by omega
 clear Oj hlt3 hlt4 uG Cb IM J5
 have Ah:p2<W8.heap.size:=by omega
 have hlt3:b3<W8.heap.size:=HR3.o.lt (cZ _ rfl)
 have hlt4:b4<W8.heap.size:=HR4.o.lt (cZ _ rfl)
 have uG:b5<W8.heap.size:=ej.o.lt (cZ _ rfl)
 have Cb:b6<W8.heap.size:=dM.o.lt (cZ _ rfl)
 have IM:b7<W8.heap.size:=qf.o.lt (k_ne _ rfl)
 have J5:b8<W8.heap.size:=xO.o.lt (k_ne _ rfl)
 clear hsz iz
 have JY:=ae oo
 have XU:w.heap.size≤p9:=by have h1:=JY.o.1;have h3:=HP2.o;omega
 obtain⟨d0,d1,d2,d3,d4,d5,d6,d7⟩:=oo
 go_upto_region 9 with(go_at_call 96;refine(mP.o _ jM.o).mono ?_;rintro e WF ⟨vm,rfl,hO⟩;have HO:=ae hO;clear hO)
 obtain⟨gm,om,cm,rfl,hcm1,hcm2,hgm,hrm⟩:=HO.o.buf.form (.inr (by omega))
 have hra:lO w WF p2 b3 b4 b5 b6 b7 b8 p9 gm om M (fF fE M 0):=⟨jM.o.trans HO.o.keeps,HR2.o.keeps HO.o.keeps,⟨HR3.o.keeps HO.o.keeps,HR4.o.keeps HO.o.keeps,ej.o.keeps HO.o.keeps,dM.o.keeps HO.o.keeps,qf.o.keeps HO.o.keeps,xO.o.keeps HO.o.keeps⟩,lr.o.keeps HO.o.keeps,hrm,⟨XU,d1,d2,d3,d4,d5,d6,d7,by have :=HO.o.new gm rfl;omega⟩⟩
 have bj:=ae hra
 clear hra hrm HO jM HR2 HR3 HR4 ej dM qf xO lr mP Bt XN MV XP XQ XR XS JY xA BH hne5 T2 T3 T4 hlt3 hlt4 uG Cb IM J5 Ah
 have Ns:M≠[]:=by intro e;have :=qY.o;rw[e]at this;simp at this;omega
 go_wp2
 go_loopw [11] (fun c wr=>∃i:Nat,i≤B∧c= .int .i64 (64*(i:Int))∧lO w wr p2 b3 b4 b5 b6 b7 b8 p9 gm om M (fF fE M i)) (fun c _=>(64*B -intOf c).toNat)
 case atStart=>exact⟨0,by omega,by go_num,bj.o⟩
 case round=>
  obtain⟨i,hi,rfl,hra⟩:=hrel
  have nA:=ae hra
  clear hra bj
  by_cases hlt:i<B
  · have hl:((M.drop (64*i)).take 64).length=64:=by have :=qY.o;simp;omega
    have hlb:Bytes ((M.drop (64*i)).take 64):=fun x hx=>J7.o x (List.mem_of_mem_drop (List.mem_of_mem_take hx))
    have hok:=qE pP M i
    have hnx:fF fE M (i+1)=block (fF fE M i) ((M.drop (64*i)).take 64):=rfl
    have hlr:∀W s,lO w W p2 b3 b4 b5 b6 b7 b8 p9 gm om M s→Row W gm (om+64*i) (((M.drop (64*i)).take 64).map (Value.int .u8)):=fun W s h=>by
     have :=(h.msg.drop (64*i)).take 64
     rwa[←List.map_drop,←List.map_take]at this
    generalize(M.drop (64*i)).take 64=l at *
    generalize fF fE M i=s at *
    have yv:=ae hnx;have lL:=ae hok;have xB:=ae hlb;have HL:=ae hl;have Jg:=ae hlr
    clear hnx hok hlb hl hlr
    go_upto_region 13 with(fail)
    obtain⟨q,hq⟩:∃q,q=wr.heap.size:=⟨_,rfl⟩
    have jy:lO w (wr.alloc (.cells (List.replicate 16 (Value.int .u32 0)).toArray 149)) p2 b3 b4 b5 b6 b7 b8 p9 gm om M s:=nA.o.step (av (Keeps.refl _) _)
    have hrq:Row (wr.alloc (.cells (List.replicate 16 (Value.int .u32 0)).toArray 149)) q 0 ((fR l 0).map (Value.int .u32)):=by rw[hq];exact Row.new _ _ _ rfl
    have rW:=nA.o.lt Ns
    rw[←hq]at rW
    have hwq:q<(wr.alloc (.cells (List.replicate 16 (Value.int .u32 0)).toArray 149)).heap.size:=by rw[hq];simp
    rw[←hq]
    refine cf (fun W=>lO w W p2 b3 b4 b5 b6 b7 b8 p9 gm om M s∧q<W.heap.size∧Row W q 0 ((fR l 0).map (Value.int .u32))) ⟨jy,hwq,hrq⟩ ?_
    clear jy hwq hrq hq
    intro Wa ⟨hra,hqa,hrq⟩
    have bj:=ae hra;have pH:=ae hrq;have lW:=ae rW
    clear hra hrq nA rW
    have dK:=ae (Jg.o Wa s bj.o)
    clear Jg
    have hgq:gm≠q:=by have :=lW.o;omega
    go_wp2
    go_loopw [13] (fun c wr=>∃t:Nat,t≤16∧c= .int .i64 t∧bU (· =q) Wa wr∧Row wr q 0 ((fR l t).map (Value.int .u32))) (fun c _=>(16 -intOf c).toNat)
    case atStart=>exact⟨0,by omega,rfl,bU.refl _ _,pH.o⟩
    case round=>
     obtain⟨t,ht,rfl,hch,hrt⟩:=hrel
     by_cases hlt2:t<16
     ·rw[←Kl l t (by omega)]at hrt
      have cV:=ae hrt;have dF:=ae hch
      clear hrt hch
      go_wp2
      go_loopw [14] (fun c wr=>∃k:Nat,k≤4∧c= .int .i64 (3 -(k:Int))∧bU (· =q) Wa wr∧Row wr q 0 ((xw l t k).map (Value.int .u32))) (fun c _=>(intOf c+1).toNat)
      case atStart=>exact⟨0,by omega,rfl,dF.o,cV.o⟩
      case round=>
       obtain⟨k,hk,rfl,hch,hrt⟩:=hrel
       by_cases hlt3:k<4
       ·obtain⟨m,hm⟩:∃m:Nat,m+k=3:=⟨3 -k,by omega⟩
        have em:(3:Int) -(k:Int)=(m:Int):=by omega
        have VD:3 -k=m:=by omega
        rw[em]
        have hcm:=(dK.o.aG hch (fun e=>hgq e)).int (4*t+m) (by have :=HL.o;omega)
        have hcq:=hrt.aT t (by rw[qF _ _ _ (by omega)];omega)
        have hcf:=hrt.bR t (by rw[aF,qF _ _ _ (by omega)];omega)
        rw[Kn _ _ _ hlt2]at hcq
        rw[show om+64*i+(4*t+m)=om+(64*i+4*t+m) by omega]at hcm
        have hib:64*(i:Int)+4*t+m<64*B:=by omega
        have hbb:=xB.o.getD (4*t+m)
        have xY:=IL l t k
        have hset:=fun nq=>(hrt.drewN nq).bl t (by rw[qF _ _ _ (by omega)];omega) (lp l t (k+1))
        simp only[Nr]at hset
        have hst:lp l t (k+1)=(lp l t k*256+l.getD (4*t+(3 -k)) 0)%4294967296:=rfl
        rw[VD]at hst
        have HST:=ae hst
        have bx:=ae hset;have dF:=ae hch
        clear hset hch hrt hst
        generalize l.getD (4*t+m) 0=y at *
        generalize lp l t k=x at *
        obtain⟨y0,y1⟩:=hbb
        obtain⟨x0,x1⟩:=xY
        have EM:=ae em;have XV:=ae hm
        clear em VD hm
        go_wp2
        refine aB 17 (by kernel_rfl) (by kernel_rfl) ?_
        simp only[List.take_succ_cons,List.take_zero,List.drop_succ_cons,List.drop_zero]
        repeat(first |go_big_quiet_step (fail)|quiet_step (fail))
        refine wpQuiet_nil ?_
        intro _ hw'
        obtain⟨nq,hw''⟩:=hw'
        subst hw''
        go_wp2
        go_roundw
        case rel=>exact⟨k+1,by omega,by have h1:=XV.o;have h2:=EM.o;simp only[Value.int.injEq,true_and];omega,(dF.o.trans ((Qt.drewN wr nq).keeps.aG _)).setCell (.inr rfl) _,by rw[show x*256%4294967296+y=lp l t (k+1) by rw[HST.o];omega];exact bx.o _⟩
        case measure=>simp[intOf]<;>omega
       ·obtain rfl:k=4:=by omega
        rw[Km xB.o t hlt2]at hrt
        have cV:=ae hrt;have dF:=ae hch
        clear hrt hch
        go_wp2
        go_roundw
        case rel=>exact⟨t+1,by omega,by go_num,dF.o,cV.o⟩
        case measure=>simp[intOf];omega
     ·obtain rfl:t=16:=by omega
      have hrb:=bj.o.other hch (N:=q) (fun k e=>by have e':k=q:=e;omega) lW.o
      obtain⟨Wb,P4⟩:∃Wb,Wb=wr:=⟨_,rfl⟩
      subst P4
      have hxl:(fR l 16).length=16:=fD _ _ (Nat.le_refl _)
      have Nm:=ae (tM xB.o 16)
      have rO:Hid (block s l=s.mix3 (cB rL sL kL false s (fR l 16) 80) (cB rR sR kR true s (fR l 16) 80)):=ae rfl
      have T5:q<Wb.heap.size:=hrt.lt (by intro e;have :=congrArg List.length e;rw[aF,hxl]at this;simp at this)
      generalize fR l 16=xs at *
      have bH:=ae hrb;have bB:=ae hrt;have A3:=ae hxl
      clear hrb hrt hxl hch bj pH dK
      have Z5:Hid ((Tryz.prog.info? 143).map (·.size)=some (s.list.map (Value.int .u32)).length):=ae AH
      go_upto_region 21 with(first |(refine aj rfl 143 (.tmp 9) rfl p9 0 rfl (s.list.map (Value.int .u32)) _ bH.o.st Tryz.underlying143 rfl Z5.o ?_)|(refine wpList_store_row rfl 143 (.tmp 15) (.tmp 61) rfl Wb.heap.size 0 rfl (List.replicate 5 (Value.int .u32 0)) (s.list.map (Value.int .u32)) rfl (Row.new _ _ _ rfl) rfl Z5.o (ai _) ?_;intro Wc hrc hcc;have el:=ae hrc;have Fm:=ae hcc;clear hrc hcc))
      have hkc:Keeps Wb Wc:=aD (av (Keeps.refl Wb) _) Fm.o (Nat.le_refl _)
      obtain⟨EP,Nt⟩:∃p,p=Wb.heap.size:=⟨_,rfl⟩
      rw[←Nt]at el⊢T5
      have B4:=ae hkc
      have T6:EP<Wc.heap.size:=el.o.lt (by simp[S5.list])
      have T7:=bH.o.lt Ns
      rw[←Nt]at T7
      have VE:=ae T7
      clear hkc Fm Nt T7
      go_upto_region 22 with(first |(refine aj rfl 143 (.tmp 9) rfl p9 0 rfl (s.list.map (Value.int .u32)) _ (bH.o.st.keeps B4.o) Tryz.underlying143 rfl Z5.o ?_)|(refine wpList_store_row rfl 143 (.tmp 16) (.tmp 62) rfl Wc.heap.size 0 rfl (List.replicate 5 (Value.int .u32 0)) (s.list.map (Value.int .u32)) rfl (Row.new _ _ _ rfl) rfl Z5.o (ai _) ?_;intro Wd hrd hcd;have HRW:=ae hrd;have VF:=ae hcd;clear hrd hcd))
      have hkd:Keeps Wc Wd:=aD (av (Keeps.refl Wc) _) VF.o (Nat.le_refl _)
      obtain⟨p16,QO⟩:∃p,p=Wc.heap.size:=⟨_,rfl⟩
      rw[←QO]at HRW⊢T6
      have QP:=bH.o.step (B4.o.trans hkd)
      have QQ:=bB.o.keeps (B4.o.trans hkd)
      have QR:=el.o.keeps hkd
      have tD:=ae QP;have QS:=ae QQ;have QT:=ae QR
      clear QP QQ QR hkd VF QO bH bB el B4
      have Nu:Hid (∀W',bU (fun k=>EP≤k) Wd W'→Tabs W' b3 b4 b5 b6 b7 b8∧Row W' q 0 (xs.map (Value.int .u32))):=ae fun W' hc=>⟨(tD.o.other hc (N:=EP) (fun k e=>e) VE.o).tabs,QS.o.aG hc (fun e=>by have e':EP≤q:=e;omega)⟩
      go_wp2
      go_loopw [17] (fun c wr=>∃j:Nat,j≤80∧c= .int .i64 j∧bU (fun k=>EP≤k) Wd wr∧Row wr EP 0 ((cB rL sL kL false s xs j).list.map (Value.int .u32))∧Row wr p16 0 ((cB rR sR kR true s xs j).list.map (Value.int .u32))) (fun c _=>(80 -intOf c).toNat)
      case atStart=>exact⟨0,by omega,rfl,bU.refl _ _,QT.o,HRW.o⟩
      case round=>
       obtain⟨j,hj,rfl,hch,hv1,hv2⟩:=hrel
       by_cases hlt4:j<80
       ·obtain⟨hT,hX⟩:=Nu.o _ hch
        obtain⟨c3,c4,c5,c6,c7,c8⟩:=hT.at j hlt4
        have hrn:=Ae.r j hlt4
        have hsn:=Ae.s j hlt4
        have hcx:=hX.aT (rL.getD j 0) (by rw[A3.o];exact hrn)
        have hok1:=fC (rt:=rL) (st:=sL) (kt:=kL) (turned:=false) lL.o xs j
        have hok2:=fC (rt:=rR) (st:=sR) (kt:=kR) (turned:=true) lL.o xs j
        have hxi:=Nm.o.getD (rL.getD j 0)
        have hkw:=z7.getD (j/16)
        have T8:Hid (cB rL sL kL false s xs (j+1)=kN (cB rL sL kL false s xs j) (way false j) (xs.getD (rL.getD j 0) 0) (kL.getD (j/16) 0) (sL.getD j 0)):=ae rfl
        have Nv:Hid (cB rR sR kR true s xs (j+1)=kN (cB rR sR kR true s xs j) (way true j) (xs.getD (rR.getD j 0) 0) (kR.getD (j/16) 0) (sR.getD j 0)):=ae rfl
        obtain⟨v0,v1,v2,v3,v4⟩:=S5.cells hv1
        generalize cB rL sL kL false s xs j=r1 at *
        generalize cB rR sR kR true s xs j=r2 at *
        obtain⟨ra,rb,rc,rd,re⟩:=r1
        have aH:=ae hv1;have iT:=ae hv2;have dF:=ae hch;have QU:=ae hok2
        clear hv1 hv2 hch hok2 hT hX c4 c6 c8
        generalize rL.getD j 0=rn at *
        generalize sL.getD j 0=sn at *
        generalize kL.getD (j/16) 0=kk at *
        generalize xs.getD rn 0=xx at *
        obtain⟨o0,o1,o2,o3,o4⟩:=hok1
        simp only[]at v0 v1 v2 v3 v4 o0 o1 o2 o3 o4
        have a0:=o0.1;have a1:=o0.2;have e0:=o4.1;have e1:=o4.2
        obtain⟨x0,x1⟩:=hxi
        obtain⟨k0,k1⟩:=hkw
        obtain⟨Vk,Vl⟩:=hsn
        go_wp2
        have hm0:(0:Int)≤(j:Int)/16:=by omega
        have hm4:(j:Int)/16≤4:=by omega
        have hmm:=fun w=>Lb ((j:Int)/16) (by omega) (by omega) rb rc rd o1 o2 o3 w
        have bV:=ae hmm
        clear hmm
        go_quiet (first |(go_at_call 99;first |exact s1 (bV.o _)|exact s2 (bV.o _))|(go_at_call 98;first |exact s1 (fj _ _ (by omega) (by omega) (by constructor<;>omega) _)|exact s2 (fj _ _ (by omega) (by omega) (by constructor<;>omega) _)))
        go_wp2
        refine aB 11 (by kernel_rfl) (by kernel_rfl) ?_
        simp only[List.take_succ_cons,List.take_zero,List.drop_succ_cons,List.drop_zero]
        repeat(first |go_big_quiet_step (((go_at_call 98;first |exact s1 (fj _ _ (by omega) (by omega) (by assumption) _)|exact s2 (fj _ _ (by omega) (by omega) (by assumption) _)|exact q1 (fj _ _ (by omega) (by omega) (by assumption) _)|exact q2 (fj _ _ (by omega) (by omega) (by assumption) _))))|quiet_step (((go_at_call 98;first |exact s1 (fj _ _ (by omega) (by omega) (by assumption) _)|exact s2 (fj _ _ (by omega) (by omega) (by assumption) _)|exact q1 (fj _ _ (by omega) (by omega) (by assumption) _)|exact q2 (fj _ _ (by omega) (by omega) (by assumption) _)))))
        refine wpQuiet_nil ?_
        intro _ hw'
        obtain⟨nq,hw''⟩:=hw'
        subst hw''
        go_wp2_with (refine wpList_store_row rfl 143 (.tmp 15) (.tmp 107) rfl EP 0 rfl _ [_,_,_,_,_] rfl ((aH.o.drewN _).drewN _) rfl AH (by intro v hv;simp only[List.mem_cons,List.not_mem_nil,or_false]at hv;rcases hv with rfl|rfl|rfl|rfl|rfl<;>rfl) ?_;intro w3 hr3 hc3;have HR3:=ae hr3;have fT:=ae hc3;clear hr3 hc3)
        have QV:Row w3 EP 0 ((kN ⟨ra,rb,rc,rd,re⟩ (way false j) xx kk sn).list.map (Value.int .u32)):=HR3.o
        have Nw:bU (fun k=>EP≤k) Wd w3:=(dF.o.trans ((Qt.keeps (by repeat(first |exact Qt.refl _|exact Qt.drewN _ _|refine Qt.trans ?_ (Qt.drewN _ _)))).aG _)).trans (fT.o.mono (fun k _ e=>by have e':k=EP:=e;omega))
        have hv2:=((iT.o.drewN _).drewN _).aG fT.o (fun e=>by have e':p16=EP:=e;omega)
        have hok2:=QU.o
        obtain⟨hT,hX⟩:=Nu.o _ Nw
        obtain⟨c3,c4,c5,c6,c7,c8⟩:=hT.at j hlt4
        have Fx:=ae QV
        clear hT c3 c5 c7 QV
        have hrn:=xI.r j hlt4
        have hsn:=xI.s j hlt4
        have hcx:=hX.aT (rR.getD j 0) (by rw[A3.o];exact hrn)
        have hxi:=Nm.o.getD (rR.getD j 0)
        have hkw:=z8.getD (j/16)
        obtain⟨v0,v1,v2,v3,v4⟩:=S5.cells hv2
        obtain⟨rf,rg,rh,ri,rj⟩:=r2
        have iT:=ae hv2;have T9:=ae Nw
        clear hv2 Nw hX aH fT dF QU HR3
        clear o0 o1 o2 o3 o4 a0 a1 e0 e1
        generalize rR.getD j 0=XW at *
        generalize sR.getD j 0=Yz at *
        generalize kR.getD (j/16) 0=YA at *
        generalize xs.getD XW 0=YB at *
        obtain⟨o0,o1,o2,o3,o4⟩:=hok2
        simp only[]at v0 v1 v2 v3 v4 o0 o1 o2 o3 o4
        have a0:=o0.1;have a1:=o0.2;have e0:=o4.1;have e1:=o4.2
        obtain⟨x0,x1⟩:=hxi
        obtain⟨k0,k1⟩:=hkw
        obtain⟨Vk,Vl⟩:=hsn
        have hj0:(0:Int)≤(j:Int):=by omega
        obtain⟨wy,hwy⟩:∃wy:Int,wy=4 -(j:Int)/16:=⟨_,rfl⟩
        have hwz:wy.toNat=way true j:=by show wy.toNat=4 -j/16;omega
        have Ua:0≤wy:=by omega
        have Ub:wy≤4:=by omega
        have hw1:IntKind.i64.wrap (4 -(j:Int)/16)=wy:=by rw[hwy,IntKind.wrap_i64];omega
        have hw2:IntKind.i64.wrap ((j:Int).tdiv 16)=(j:Int)/16:=by rw[Int.tdiv_eq_ediv_of_nonneg hj0,IntKind.wrap_i64];omega
        have hw3:IntKind.i64.wrap (4 -(j:Int).tdiv 16)=wy:=by rw[hwy,Int.tdiv_eq_ediv_of_nonneg hj0,IntKind.wrap_i64];omega
        have YC:=ae hwy;have XX:=ae hwz
        clear hwy hwz
        have hmm:=fun w=>Lb wy Ua Ub rg rh ri o1 o2 o3 w
        have bV:=ae hmm
        clear hmm
        refine wp_region_quiet_lit (by kernel_rfl) (by kernel_rfl) ?_
        repeat(first |go_big_quiet_step (first |(go_at_call 99;refine(bV.o _).mono ?_;rintro e w' ⟨rfl,rfl⟩;exact⟨rfl,_,rfl⟩)|(go_at_call 98;refine(fj _ _ (by omega) (by omega) (by constructor<;>omega) _).mono ?_;rintro e w' ⟨rfl,rfl⟩;exact⟨rfl,_,rfl⟩))|quiet_step (first |(go_at_call 99;refine(bV.o _).mono ?_;rintro e w' ⟨rfl,rfl⟩;exact⟨rfl,_,rfl⟩)|(go_at_call 98;refine(fj _ _ (by omega) (by omega) (by constructor<;>omega) _).mono ?_;rintro e w' ⟨rfl,rfl⟩;exact⟨rfl,_,rfl⟩)))
        refine wpQuiet_nil ?_
        intro _ hw'
        obtain⟨nq,hw''⟩:=hw'
        subst hw''
        go_wp2
        refine aB 11 (by kernel_rfl) (by kernel_rfl) ?_
        simp only[List.take_succ_cons,List.take_zero,List.drop_succ_cons,List.drop_zero]
        repeat(first |go_big_quiet_step ((go_at_call 98;refine(fj _ _ (by omega) (by omega) (by assumption) _).mono ?_;rintro e w' ⟨rfl,rfl⟩;exact⟨rfl,_,rfl⟩))|quiet_step ((go_at_call 98;refine(fj _ _ (by omega) (by omega) (by assumption) _).mono ?_;rintro e w' ⟨rfl,rfl⟩;exact⟨rfl,_,rfl⟩)))
        refine wpQuiet_nil ?_
        intro _ hw'
        obtain⟨nq,hw''⟩:=hw'
        subst hw''
        go_wp2_with (refine wpList_store_row rfl 143 (.tmp 16) (.tmp 149) rfl p16 0 rfl _ [_,_,_,_,_] rfl ((iT.o.drewN _).drewN _) rfl AH (by intro v hv;simp only[List.mem_cons,List.not_mem_nil,or_false]at hv;rcases hv with rfl|rfl|rfl|rfl|rfl<;>rfl) ?_;intro w4 hr4 hc4;have HR4:=ae hr4;have ky:=ae hc4;clear hr4 hc4)
        go_roundw
        case rel=>
         refine⟨j+1,by omega,by go_num,(T9.o.trans ((Qt.keeps (by repeat(first |exact Qt.refl _|exact Qt.drewN _ _|refine Qt.trans ?_ (Qt.drewN _ _)))).aG _)).trans (ky.o.mono (fun k _ e=>by have e':k=p16:=e;omega)),?_,?_⟩
         ·rw[T8.o]
          exact((Fx.o.drewN _).drewN _).aG ky.o (fun e=>by have e':EP=p16:=e;omega)
         ·rw[Nv.o]
          have e1:=XX.o
          have hr:=HR4.o
          first
           |exact hr
           |(rw[e1]at hr;exact hr)
        case measure=>simp[intOf];omega
       ·obtain rfl:j=80:=by omega
        have hrd:=tD.o.other hch (N:=EP) (fun k e=>e) VE.o
        have hou:=fC (rt:=rL) (st:=sL) (kt:=kL) (turned:=false) lL.o xs 80
        have hov:=fC (rt:=rR) (st:=sR) (kt:=kR) (turned:=true) lL.o xs 80
        generalize cB rL sL kL false s xs 80=U at *
        generalize cB rR sR kR true s xs 80=Vv at *
        have ho:=lL.o
        have hst:=hrd.st
        have Nv:Hid (fF fE M (i+1)=s.mix3 U Vv):=by rw[←rO.o];exact yv
        have iX:=ae hrd
        clear hrd hch tD QS QT HRW Nu yv rO lL
        obtain⟨ra,rb,rc,rd,re⟩:=s
        obtain⟨ua,ub,uc,ud,ue⟩:=U
        obtain⟨va,vb,Xu,vd,ve⟩:=Vv
        obtain⟨y0,y1,y2,y3,y4⟩:=S5.cells hst
        obtain⟨u0,u1,u2,u3,u4⟩:=S5.cells hv1
        obtain⟨v0,v1,v2,v3,v4⟩:=S5.cells hv2
        obtain⟨⟨Xv,Xw⟩,⟨Xx,Xy⟩,⟨Xz,XA⟩,⟨XB,XC⟩,⟨XD,XE⟩⟩:=ho
        obtain⟨⟨XF,XG⟩,⟨m10,m11⟩,⟨m20,m21⟩,⟨XH,XI⟩,⟨XJ,XK⟩⟩:=hou
        obtain⟨⟨XM,n01⟩,⟨n10,n11⟩,⟨n20,n21⟩,⟨n30,n31⟩,⟨n40,n41⟩⟩:=hov
        simp only[]at y0 y1 y2 y3 y4 u0 u1 u2 u3 u4 v0 v1 v2 v3 v4
        have HST:=ae hst
        clear hst hv1 hv2
        go_wp2_with (refine wpList_store_row rfl 143 (.tmp 9) (.tmp 190) rfl p9 0 rfl _ [_,_,_,_,_] rfl HST.o rfl AH (by intro v hv;simp only[List.mem_cons,List.not_mem_nil,or_false]at hv;rcases hv with rfl|rfl|rfl|rfl|rfl<;>rfl) ?_;intro w9 aR aJ;have lr:=ae aR;have bK:=ae aJ;clear aR aJ)
        go_roundw
        case rel=>exact⟨i+1,by omega,by go_num,by rw[Nv.o];exact iX.o.aG bK.o lr.o⟩
        case measure=>simp[intOf];omega
  ·obtain rfl:i=B:=by omega
   have hok:=qE pP M i
   generalize hse:fF fE M i=s at *
   have lL:=ae hok;have bH:=ae nA.o;have xV:=ae hse
   clear hok nA hse
   go_upto_region 31 with(fail)
   obtain⟨q,hq⟩:∃q,q=wr.heap.size:=⟨_,rfl⟩
   have jy:lO w (wr.alloc (.cells (List.replicate 20 (Value.int .u8 0)).toArray 55)) p2 b3 b4 b5 b6 b7 b8 p9 gm om M s:=bH.o.step (av (Keeps.refl _) _)
   have hrq:Row (wr.alloc (.cells (List.replicate 20 (Value.int .u8 0)).toArray 55)) q 0 ((ei s 0).map (Value.int .u8)):=by rw[hq];exact Row.new _ _ _ (by rw[kJ];rfl)
   have rW:=bH.o.lt Ns
   rw[←hq]at rW
   rw[←hq]
   refine cf (fun W=>lO w W p2 b3 b4 b5 b6 b7 b8 p9 gm om M s∧Row W q 0 ((ei s 0).map (Value.int .u8))) ⟨jy,hrq⟩ ?_
   clear jy hrq hq
   intro Wa ⟨hra,hrq⟩
   have bj:=ae hra;have pH:=ae hrq
   have lW:Hid (w.heap.size≤q∧p2≠q∧p9≠q):=ae (by omega)
   clear hra hrq bH rW
   go_wp2
   go_loopw [20] (fun c wr=>∃t:Nat,t≤20∧c= .int .i64 t∧bU (· =q) Wa wr∧Row wr q 0 ((ei s t).map (Value.int .u8))) (fun c _=>(20 -intOf c).toNat)
   case atStart=>exact⟨0,by omega,rfl,bU.refl _ _,pH.o⟩
   case round=>
    obtain⟨t,ht,rfl,hch,hrt⟩:=hrel
    by_cases hlt2:t<20
    · have hcs:=(bj.o.st.aG hch lW.o.2.2).aT (t/4) (by show t/4<5;omega)
      have hfr:=hrt.bR t (by rw[aF,cM _ _ (by omega)];omega)
      have hce:=hrt.aT t (by rw[cM _ _ (by omega)];omega)
      have hset:=hrt.bl t (by rw[cM _ _ (by omega)];omega) (s.list.getD (t/4) 0/2^(8*(t%4))%256)
      rw[gl _ _ hlt2]at hset
      have hx:=j4.jP lL.o (t/4)
      have bx:=ae hset;have dF:=ae hch
      clear hset hch hrt
      generalize s.list.getD (t/4) 0=x at *
      obtain⟨x0,x1⟩:=hx
      go_wp2
      go_roundw
      case rel=>exact⟨t+1,by omega,by go_num,dF.o.setCell (.inr rfl) _,bx.o⟩
      case measure=>simp[intOf];omega
    ·obtain rfl:t=20:=by omega
     rw[ix]at hrt
     have hw2:=bj.o.res.aG hch lW.o.2.1
     have hkw:=aD bj.o.keeps hch lW.o.1
     have h20:(j4.dI s.list).length=20:=j4.bq _
     have Nq:Hid ((Tryz.prog.info? 55).map (·.size)=some ((j4.dI s.list).map (Value.int .u8)).length):=by
      rw[aF,h20];exact ae (by kernel_rfl)
     have HRR:=ae hrt;have HOW:=ae hw2;have aA:=ae hkw
     clear hrt hch hw2 hkw
     go_wp2_with (first |(refine aj rfl 55 (.tmp 19) rfl q 0 rfl _ _ HRR.o Tryz.underlying55 rfl Nq.o ?_)|(refine wpList_store_row rfl 55 (.tmp 2) (.tmp 207) rfl p2 0 rfl _ _ rfl HOW.o (by simp[h20]) Nq.o (ai _) ?_;intro lN iK eh;have cP:=ae iK;have fP:=ae eh;clear iK eh))
     exact bodyPost_ret (v:= .agg ((j4.dI s.list).map (Value.int .u8)).toArray) (ar (p:=2) (ty:=55) rfl _ _ p2 0 _ _ rfl cP.o Tryz.underlying55 rfl Nq.o) rfl ⟨by rw[xV.o],Below.trans aA.o (fP.o.below aA.o.size (fun k hk e=>by have :=HP2.o;omega))⟩
end Go.Proofs.YtlofddoojkeakaaGreatDoor.j4
