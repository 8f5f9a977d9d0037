/- curve's field: a difference. -/
import Derived.Test.YtlofddoojkeakaaGreatDoorGA5
import Derived.StillTail
import Derived.Deep.RegionHeld
import Derived.Test.YtlofddoojkeakaaGreatDoorGA3
set_option maxRecDepth 100000
set_option maxHeartbeats 4000000
set_option linter.unusedVariables false
set_option linter.unusedSimpArgs false
namespace Go.Proofs.YtlofddoojkeakaaGreatDoor
open Go Go.RowKit
theorem Js(g off:Nat)(m x y:Int)(hm:cg m)(hx:0≤x∧x<m)(hy:0≤y∧y<m)(w:World)(hr:Row w g off ((words m).map (Value.int .u64))):
 Calls Tryz.prog 93 #[.pointer (some ⟨g,off,none⟩),.agg ((words x).map (Value.int .u64)).toArray,.agg ((words y).map (Value.int .u64)).toArray] w fun e w' =>e= .returned (.agg ((words ((x -y)%m)).map (Value.int .u64)).toArray)∧Keeps w w':=by
 have hn:0≤(if y=0 then 0 else m -y)∧(if y=0 then 0 else m -y)<m:=by split<;>omega
 have he:(x+(if y=0 then 0 else m -y))%m=(x -y)%m:=by
  split
  · rename_i h;rw[h,Int.add_zero,Int.sub_zero]
  ·rw[show x+(m -y)=(x -y)+m by omega,Int.add_emod_right]
 have RL:=ae (fun W hW=>Cr g off m y hm ⟨hy.1,Int.lt_trans hy.2 hm.2⟩ W hW)
 have Dy:=ae (fun W hW=>add_any g off m x (if y=0 then 0 else m -y) hm hx hn W hW)
 rw[he]at Dy
 have hl:=ak x
 have hyl:=ak y
 have hrl:=ak ((x -y)%m)
 have bY:=ae hr
 clear he hn hr hx hy hm
 generalize words (if y=0 then 0 else m -y)=NN at *
 generalize words ((x -y)%m)=RES at *
 generalize words x=X at *
 generalize words y=Y at *
 generalize words m=MM at *
 go_enter Tryz.func93,Tryz.ntmps93
 go_upto_region 1 with(fail)
 refine cU (fun W hk hra hrb hr2 hs=> ?_)
 obtain⟨p,hp⟩:∃p,p=w.heap.size:=⟨_,rfl⟩
 rw[←hp]at hra hrb hr2 hs⊢
 have hkp:w.heap.size≤p:=by omega
 obtain⟨Z,hZ,hrz⟩:∃Z:List Value,Z.length=4∧Row W (p+1+1) 0 Z:=⟨_,rfl,hr2⟩
 have bj:=ae (show Row W p 0 (X.map (Value.int .u64))from hra);have bH:=ae (show Row W (p+1) 0 (Y.map (Value.int .u64))from hrb);have aV:=ae hrz;have HK:=ae hk
 clear hp hra hrb hr2 hrz hk
 go_cut [] (fun wx=>Row wx (p+1+1) 0 (RES.map (Value.int .u64))∧Keeps w wx)
 case first =>
  refine wp_region_held_drew (S:=(fun W' =>Keeps w W'∧Row W' p 0 (X.map (Value.int .u64))∧Row W' (p+1) 0 (Y.map (Value.int .u64)))) (by kernel_rfl) ?_ (fun hHeld=> ?_)
  focus((try dsimp only);exact⟨bz HK.o,bj.o.drew,bH.o.drew⟩)
  have wC:=aV.o.drew
  refine wpAnyH_take (i:=0) (oi:= ?_) (v:= ?_) ?_ ?_ ?_ ?_ ?_ (Or.inl ⟨?_,?_⟩) ?_ ?_
  rotate_left 2
  focus(simp only[kG];exact rfl)
  iterate 3 focus kernel_rfl
  focus(exact fun _ _ _ h=>h)
  focus rfl
  focus((intro w hSw;(try dsimp only at hSw);go_simp)<;>with_reducible rfl)
  focus assumption
  try simp only[kP]
  refine wpAnyH_take (i:=1) (oi:= ?_) (v:= ?_) ?_ ?_ ?_ ?_ ?_ ?_ ?_ ?_
  rotate_left 2
  focus(simp only[kG];exact rfl)
  iterate 3 focus kernel_rfl
  focus(exact fun _ _ _ h=>h)
  focus(refine dp ?_ 95 (.tmp 4) ?_ p 0 ?_ (X.map (Value.int .u64)) _ ?_ Tryz.underlying95 ?_ (by rw[aF,hl];exact aE)<;>first |rfl|exact(fun w hw=>hw.2.1))
  focus assumption
  try simp only[kP]
  refine wpAnyH_take (i:=2) (oi:= ?_) (v:= ?_) ?_ ?_ ?_ ?_ ?_ (Or.inl ⟨?_,?_⟩) ?_ ?_
  rotate_left 2
  focus(simp only[kG];exact rfl)
  iterate 3 focus kernel_rfl
  focus(exact fun _ _ _ h=>h)
  focus rfl
  focus((intro w hSw;(try dsimp only at hSw);go_simp)<;>with_reducible rfl)
  focus assumption
  try simp only[kP]
  refine wpAnyH_take (i:=3) (oi:= ?_) (v:= ?_) ?_ ?_ ?_ ?_ ?_ ?_ ?_ ?_
  rotate_left 2
  focus(simp only[kG];exact rfl)
  iterate 3 focus kernel_rfl
  focus(exact fun _ _ _ h=>h)
  focus(refine dp ?_ 95 (.tmp 5) ?_ (p+1) 0 ?_ (Y.map (Value.int .u64)) _ ?_ Tryz.underlying95 ?_ (by rw[aF,hyl];exact aE)<;>first |rfl|exact(fun w hw=>hw.2.2))
  focus assumption
  try simp only[kP]
  refine wpAnyH_ready (rs:=[4]) (by kernel_rfl) (by simp) ?_
  refine AllReadyH.cons (o:= ?_) ?_ (fun K hK=> ?_) ?_
  rotate_left 1
  focus(simp only[kG];exact rfl)
  ·rw[if_pos (by rfl)]
   go_simp;go_at_call 123;refine(RL.o _ (bY.o.keeps hHeld.1)).mono ?_;rintro e W1 ⟨rfl,hk1⟩
   refine hK.out _ _ ?_ ?_
   focus((try dsimp only);first |exact⟨hHeld.1.trans hk1,hHeld.2.1.keeps hk1,hHeld.2.2.keeps hk1⟩|exact⟨hHeld.1.trans hk2,hHeld.2.1.keeps hk2,hHeld.2.2.keeps hk2⟩|exact⟨ag hHeld.1 aJ (by omega),hHeld.2.1.aG aJ (by omega),hHeld.2.2.aG aJ (by omega)⟩)
   clear hK K hHeld
   intro hHeld
   try simp only[kP]
   refine wpAnyH_ready (rs:=[5]) (by kernel_rfl) (by simp) ?_
   refine AllReadyH.cons (o:= ?_) ?_ (fun K hK=> ?_) ?_
   rotate_left 1
   focus(simp only[kG];exact rfl)
   ·rw[if_pos (by rfl)]
    go_simp;go_at_call 49;refine(Dy.o _ (bY.o.keeps hHeld.1)).mono ?_;rintro e W2 ⟨rfl,hk2⟩
    refine hK.out _ _ ?_ ?_
    focus((try dsimp only);first |exact⟨hHeld.1.trans hk1,hHeld.2.1.keeps hk1,hHeld.2.2.keeps hk1⟩|exact⟨hHeld.1.trans hk2,hHeld.2.1.keeps hk2,hHeld.2.2.keeps hk2⟩|exact⟨ag hHeld.1 aJ (by omega),hHeld.2.1.aG aJ (by omega),hHeld.2.2.aG aJ (by omega)⟩)
    clear hK K hHeld
    intro hHeld
    try simp only[kP]
    refine wpAnyH_ready (rs:=[6]) (by kernel_rfl) (by simp) ?_
    refine AllReadyH.cons (o:= ?_) ?_ (fun K hK=> ?_) ?_
    rotate_left 1
    focus(simp only[kG];exact rfl)
    ·rw[if_pos (by rfl)]
     refine de 95 (.tmp 6) (.tmp 12) rfl _ 0 rfl Z (RES.map (Value.int .u64)) rfl ((wC.keeps hk1).keeps hk2) (by simp[hZ,hrl]) (by rw[aF,hrl];exact aE) (ai _) ?_;intro W9 aR aJ
     refine hK.out _ _ ?_ ?_
     focus((try dsimp only);first |exact⟨hHeld.1.trans hk1,hHeld.2.1.keeps hk1,hHeld.2.2.keeps hk1⟩|exact⟨hHeld.1.trans hk2,hHeld.2.1.keeps hk2,hHeld.2.2.keeps hk2⟩|exact⟨ag hHeld.1 aJ (by omega),hHeld.2.1.aG aJ (by omega),hHeld.2.2.aG aJ (by omega)⟩)
     clear hK K hHeld
     intro hHeld
     try simp only[kP]
     refine wpAnyH_done (by kernel_rfl) ?_ _
     (go_wp2;go_meet;case rel=>exact⟨by assumption,hHeld.1⟩)
    exact AllReadyH.nil
   exact AllReadyH.nil
  exact AllReadyH.nil
 case rest=>
  obtain⟨hrr,hk⟩:=hcut
  have H9:=ae hrr;have RK:=ae hk
  clear hrr hk
  go_wp2
  exact bodyPost_ret (v:= .agg (RES.map (Value.int .u64)).toArray) (ar (p:=6) (ty:=95) rfl _ _ (p+1+1) 0 _ _ rfl H9.o Tryz.underlying95 rfl (by rw[aF,hrl];exact aE)) rfl ⟨rfl,RK.o⟩
end Go.Proofs.YtlofddoojkeakaaGreatDoor
namespace Go.Proofs.YtlofddoojkeakaaGreatDoor
open Go
theorem kD:(∀(l:List Oper),l.drop 0=l)∧(∀(a:Oper) (l:List Oper) (n:Nat),(a::l).drop (n+1)=l.drop n):=⟨fun _=>rfl,fun _ _ _=>rfl⟩
section
variable {P:Program} {ops:Array Oper} {md:Region.Mode} {S:World→Prop} {Q:Exit→Act→World→Prop}
def dD(P:Program)(md:Region.Mode)(ops:Array Oper)(Q:Exit→Act→World→Prop)(S:World→Prop)(n:Nat)(L:Array Bool→Act→World→Prop):Nat→Array Bool→Act→World→Prop
 |0,listed,a,w=>L listed a w
 |f+1,listed,a,w=>
  Region.ready md ops listed≠[]∧∀i∈Region.ready md ops listed,i<n∧wpOp P ops Q i (fun a' w' =>S w'∧dD P md ops Q S n L f (listed.setIfInBounds i true) a' w') a w
theorem qR{n g:Nat}{L:Array Bool→Act→World→Prop}(hL:∀listed a w,L listed a w→wpAny P md ops Q g listed a w):
 ∀(f:Nat) (listed:Array Bool) (a:Act) (w:World),dD P md ops Q S n L f listed a w→wpAny P md ops Q (f+g) listed a w
 |0,listed,a,w,h=>by rw[Nat.zero_add];exact hL _ _ _ h
 |f+1,listed,a,w,h=>by
  rw[show f+1+g=(f+g)+1 by omega]
  exact⟨fun h0=>absurd h0 h.1,fun i hi=>wpOp_mono (fun a' w' h' =>qR hL f _ a' w' h'.2) (h.2 i hi).2⟩
theorem uv{n i:Nat}{oi:Oper}{v:Value}{L:Array Bool→Act→World→Prop}(hi:ops[i]? =some oi)(hsel:∀(j:Nat) (o:Oper) cs b,ops[j]? =some o→o.op≠ .select cs b)
 (hs:Region.sinkB md ops n=true) (hc:Region.chainB md ops n=true) (hn:n<ops.size) (hin:i<n)
 (hQ:∀c a w,Q (.panic c) (a.put oi.dst v) w→Q (.panic c) a w)
 (hdone:∀listed a w,L listed a w→∀j∈Region.ready md ops listed,n≤j):
 ∀(f:Nat) (listed:Array Bool) (a:Act) (w:World),HeadInv md ops n listed→
  (∀j oj,ops[j]? =some oj→j≠i→listed.getD j true=false→(∀e∈oj.after,Region.binds md e=true→e.on≠i)→oi.apart ops oj=true)→
  i∈Region.ready md ops listed→YieldsIf P ops S oi v a→S w→
  dD P md ops Q S n L f (listed.setIfInBounds i true) (a.put oi.dst v) w→dD P md ops Q S n L (f+1) listed a w:=by
 intro f
 induction f with
 |zero=>
  intro listed a w inv _ hr hy hS H
  have hun:=(mem_ready.1 hr).1
  refine⟨fun h=>(by rw[h]at hr;cases hr),fun j hj=> ?_⟩
  have hjn:j<n:=by
   rcases Nat.lt_or_ge j n with h|h
   ·exact h
   ·exact absurd hj (tail_waits hs hc hn inv _ i rfl hin hun j h)
  refine⟨hjn,?_⟩
  by_cases hji:j=i
  ·subst hji;exact hy.wpOp hi hS ⟨hS,H⟩
  · have :=hdone _ _ _ H j (ready_mono hj hji)
    omega
 |succ f ih=>
  intro listed a w inv hfree hr hy hS H
  have hun:=(mem_ready.1 hr).1
  refine⟨fun h=>(by rw[h]at hr;cases hr),fun j hj=> ?_⟩
  have hjn:j<n:=by
   rcases Nat.lt_or_ge j n with h|h
   ·exact h
   ·exact absurd hj (tail_waits hs hc hn inv _ i rfl hin hun j h)
  refine⟨hjn,?_⟩
  by_cases hji:j=i
  ·subst hji;exact hy.wpOp hi hS ⟨hS,H⟩
  · have h1:=(H.2 j (ready_mono hj hji)).2
    obtain⟨hjun,oj,hoj,hall⟩:=mem_ready.1 hj
    have hnot:∀e∈oj.after,Region.binds md e=true→e.on≠i:=fun e he hb heq=>by
     have h1:=hall e he hb
     rw[heq,getD_both hun]at h1
     cases h1
    have h2:=wpOp_putIf hoj (hfree j oj hoj hji hjun hnot) (fun cs b=>hsel i oi cs b hi) (fun cs b=>hsel j oj cs b hoj) hQ hy h1
    have hfree':∀k ok,ops[k]? =some ok→k≠i→(listed.setIfInBounds j true).getD k true=false→
     (∀e∈ok.after,Region.binds md e=true→e.on≠i)→oi.apart ops ok=true:=fun k ok hk hki hun hno=>by
     refine hfree k ok hk hki ?_ hno
     by_cases hjk:j=k
     ·subst hjk;exact hjun
     ·rw[getD_set_ne true hjk]at hun;exact hun
    refine wpOp_mono (fun a' w' h3=>⟨h3.2.1,ih (listed.setIfInBounds j true) a' w' (inv.set hj hjn) hfree' (ready_mono hr (Ne.symm hji)) h3.1 h3.2.1 ?_⟩) h2
    rw[Array.setIfInBounds_comm _ _ hji]
    exact h3.2.2
def qS(P:Program)(md:Region.Mode)(ops:Array Oper)(Q:Exit→Act→World→Prop)(n:Nat)(tail:List Oper)(listed:Array Bool)(a:Act)(w:World):Prop:=Region.seqB md ops tail.length n listed=true∧wpList P ops Q tail a w
def mv(md:Region.Mode)(ops:Array Oper)(n:Nat)(listed:Array Bool):Bool:=
 decide (listed.size=ops.size)&&(List.range ops.size).all (fun j=> !(listed.getD j false)||(match ops[j]? with |some oj=>oj.after.all (fun e=> !(Region.binds md e)||listed.getD e.on false)|none=>true))&&
  (List.range ops.size).all (fun t=>decide (t<n)|| !(listed.getD t true))
theorem AY{n:Nat}{listed:Array Bool}(h:mv md ops n listed=true):HeadInv md ops n listed:=by
 unfold mv at h
 simp only[Bool.and_eq_true,decide_eq_true_eq]at h
 obtain⟨⟨h1,h2⟩,h3⟩:=h
 refine⟨h1,fun j oj hj hl e he hb=> ?_,fun t ht hts=> ?_⟩
 · have :=List.all_eq_true.1 h2 j (List.mem_range.2 (Array.getElem?_eq_some_iff.1 hj).1)
   rw[hl,hj]at this
   simp only[Bool.not_true,Bool.false_or]at this
   have :=Array.all_eq_true'.1 this e he
   simpa[hb]using this
 · have :=List.all_eq_true.1 h3 t (List.mem_range.2 hts)
   have hd:decide (t<n)=false:=by simp;omega
   rw[hd]at this
   simpa using this
theorem oR{n i:Nat}{oi:Oper}{v:Value}{tail:List Oper}{f:Nat}{listed:Array Bool}{a:Act}{w:World}(hi:ops[i]? =some oi)(hsel:Region.noSelect ops=true)
 (hs:Region.sinkB md ops n=true) (hc:Region.chainB md ops n=true) (hn:decide (n<ops.size∧i<n)=true) (hinv:mv md ops n listed=true)
 (hf:Region.free md ops listed i=true) (hr:(Region.ready md ops listed).contains i=true)
 (hQ:∀c a w,Q (.panic c) (a.put oi.dst v) w→Q (.panic c) a w) (hy:YieldsIf P ops S oi v a) (hS:S w)
 (h:dD P md ops Q S n (qS P md ops Q n tail) f (listed.setIfInBounds i true) (a.put oi.dst v) w):dD P md ops Q S n (qS P md ops Q n tail) (f+1) listed a w:=by
 have hn':=of_decide_eq_true hn
 exact uv hi (Region.noSelect_spec hsel) hs hc hn'.1 hn'.2 hQ (fun _ _ _ hL=>seqB_ready hL.1) f listed a w (AY hinv) (Region.free_spec hi hf) (by simpa using hr) hy hS h
theorem lt{n:Nat}(i:Nat){oi:Oper}{v:Value}{tail:List Oper}{f:Nat}{listed:Array Bool}{a a':Act}{w:World}(hi:ops[i]? =some oi:=by simp only[kG];exact rfl)(hsel:Region.noSelect ops=true:=by kernel_rfl)
 (hs:Region.sinkB md ops n=true:=by kernel_rfl) (hc:Region.chainB md ops n=true:=by kernel_rfl) (hn:decide (n<ops.size∧i<n)=true:=by kernel_rfl) (hinv:mv md ops n listed=true:=by kernel_rfl)
 (hf:Region.free md ops listed i=true:=by kernel_rfl) (hr:(Region.ready md ops listed).contains i=true:=by kernel_rfl)
 (hw:Region.wanted oi (yielded ops a.tmps)=true:=by rfl) (hx:∀w,S w→(execOp a.eval oi).run P w= .ok (.value v) w:=by(intro wD hSw;(have hSw:=hSw.out);(try dsimp only at hSw);go_simp)<;>with_reducible rfl) (hS:S w:=by assumption) (ha:a.put oi.dst v=a':=by(try simp only[kP]);rfl)
 (hQ:∀c a w,Q (.panic c) (a.put oi.dst v) w→Q (.panic c) a w:=by exact fun _ _ _ h=>h)
 (h:dD P md ops Q S n (qS P md ops Q n tail) f (listed.setIfInBounds i true) a' w):dD P md ops Q S n (qS P md ops Q n tail) (f+1) listed a w:=
 oR hi hsel hs hc hn hinv hf hr hQ (.inl ⟨hw,hx⟩) hS (by rw[ha];exact h)
theorem KK{n:Nat}(i:Nat){oi:Oper}{tail:List Oper}{f:Nat}{listed:Array Bool}{a a':Act}{w:World}(hi:ops[i]? =some oi:=by simp only[kG];exact rfl)(hsel:Region.noSelect ops=true:=by kernel_rfl)
 (hs:Region.sinkB md ops n=true:=by kernel_rfl) (hc:Region.chainB md ops n=true:=by kernel_rfl) (hn:decide (n<ops.size∧i<n)=true:=by kernel_rfl) (hinv:mv md ops n listed=true:=by kernel_rfl)
 (hf:Region.free md ops listed i=true:=by kernel_rfl) (hr:(Region.ready md ops listed).contains i=true:=by kernel_rfl)
 (hw:Region.wanted oi (yielded ops a.tmps)=false:=by rfl) (hS:S w:=by assumption) (ha:a.put oi.dst undef=a':=by(try simp only[kP]);rfl)
 (hQ:∀c a w,Q (.panic c) (a.put oi.dst undef) w→Q (.panic c) a w:=by exact fun _ _ _ h=>h)
 (h:dD P md ops Q S n (qS P md ops Q n tail) f (listed.setIfInBounds i true) a' w):dD P md ops Q S n (qS P md ops Q n tail) (f+1) listed a w:=
 oR hi hsel hs hc hn hinv hf hr hQ (.inr ⟨hw,rfl⟩) hS (by rw[ha];exact h)
def aN(Q:Exit→Act→World→Prop)(K:Act→World→Prop):Exit→Act→World→Prop
 | .normal,a,w=>K a w
 |e,a,w=>Q e a w
theorem yj{o:Oper}{a:Act}{w:World}{K K':Act→World→Prop}(h:o.wp P a w K' (aN Q K))(hk:∀a w,K' a w→K a w):o.wp P a w K Q:=by
 unfold Oper.wp at *
 generalize(execOp a.eval o).run P w=r at *
 cases r with
 |ok n w' =>
  cases n<;>simp only[Oper.upon]at h⊢ <;>
   first
    |exact hk _ _ h
    |exact Calls.mono h (fun e w'' he=>by cases e<;>first |exact hk _ _ he|exact he)
    |exact Rows.mono h (fun _ _ he=>hk _ _ he)
 |halt x w' =>cases x<;>simp only[Oper.upon]at h⊢ <;>exact h
theorem ay{n i:Nat}{o:Oper}{L:Array Bool→Act→World→Prop}{fuel:Nat}{listed:Array Bool}{a:Act}{w:World}(hr:Region.ready md ops listed=[i])(hin:decide (i<n)=true)(ho:ops[i]? =some o)
 (h:wpList P ops (aN Q (fun a w=>S w∧(S w→dD P md ops Q S n L fuel (listed.setIfInBounds i true) a w))) [o] a w):dD P md ops Q S n L (fuel+1) listed a w:=by
 refine⟨by rw[hr];simp,fun j hj=> ?_⟩
 rw[hr]at hj
 obtain rfl:j=i:=by simpa using hj
 refine⟨of_decide_eq_true hin,?_⟩
 unfold wpOp
 simp only[ho]
 simp only[wpList]at h
 split
 · rename_i hw
   simp only[hw,if_true]at h
   rcases h with h|⟨h1,h2⟩
   ·exact .inl (yj h (fun a w hk=>⟨hk.1,hk.2 hk.1⟩))
   ·exact .inr ⟨h1,h2⟩
 · rename_i hw
   simp only[hw]at h
   exact⟨h.1,h.2 h.1⟩
theorem aU{n:Nat}{tail:List Oper}{listed:Array Bool}{a:Act}{w:World}(hr:Region.seqB md ops tail.length n listed=true)(h:wpList P ops Q tail a w):dD P md ops Q S n (qS P md ops Q n tail) 0 listed a w:=⟨hr,h⟩
theorem cL{id:Nat}{a:Act}{w:World}{l:List Oper}(S:World→Prop)(n:Nat)(hm:P.follows .mixedOrders=true)(hn:decide (n≤l.length)=true)(hS:S w.drew)
 (h:S w.drew→dD P .any l.toArray Q S n (qS P .any l.toArray Q n (l.drop n)) n (Array.replicate l.toArray.size false) a w.drew):(Code.region id l.toArray true).wp P Q a w:=by
 have hn':=of_decide_eq_true hn
 refine wp_region_any hm ?_
 have hdl:(l.drop n).length=l.toArray.size -n:=by simp
 have :=qR (Q:=Q) (g:=l.toArray.size -n) (fun listed a' w' hL=>by
  have :=wpAny_of_seq (md:= .any) (Q':=Q) (l.drop n) n listed a' w' (fun j=>by simp[List.getElem?_drop]) hL.1 hL.2
  rwa[hdl]at this) _ _ _ _ (h hS)
 rw[show n+(l.toArray.size -n)=l.toArray.size by simp;omega]at this
 exact this
end
end Go.Proofs.YtlofddoojkeakaaGreatDoor
namespace Go.Proofs.YtlofddoojkeakaaGreatDoor
open Go Go.RowKit
def ax(v:Int):List Int:=(List.range 8).map fun i=>v/4294967296^i%4294967296
theorem am(v:Int):(ax v).length=8:=by simp[ax]
theorem cr(v:Int)(i:Nat)(h:i<8):(ax v).getD i 0=v/4294967296^i%4294967296:=by simp[ax,List.getD,h]
theorem cS(v:Int)(i:Nat)(h:i<8):0≤(ax v).getD i 0∧(ax v).getD i 0<4294967296:=by rw[cr _ _ h];omega
theorem uU(x:Int):∀y∈ax x,(Lit.int .u32 y).wf=true:=fun y hy=>by
 obtain⟨i,hi,rfl⟩:=List.mem_map.1 hy
 exact Jq (by omega) (by omega)
theorem wE(i:Nat):(0:Int)<4294967296^i:=Int.pow_pos (by decide)
theorem jJ(v:Int)(i:Nat)(h:i<8):v/4294967296^i=4294967296*(v/4294967296^(i+1))+(ax v).getD i 0:=by
 rw[cr _ _ h,Int.pow_succ,←Int.ediv_ediv_of_nonneg (Int.le_of_lt (wE i))]
 omega
theorem oU{v:Int}(h:cg v):v/4294967296^8=0:=by
 rw[show(4294967296:Int)^8=115792089237316195423570985008687907853269984665640564039457584007913129639936 by decide]
 exact Int.ediv_eq_zero_of_lt h.1 h.2
theorem yk{u v:Int}(i:Nat)(h:u/4294967296^i<v/4294967296^i):u<v:=by
 refine Int.lt_of_not_ge fun hle=> ?_
 have :=Int.ediv_le_ediv (wE i) hle
 omega
theorem AZ{x y:Int}(hx:cg x)(hy:cg y)(h:ax x=ax y):x=y:=by
 have key:∀k,k≤8→x/4294967296^(8 -k)=y/4294967296^(8 -k):=by
  intro k
  induction k with
  |zero=>intro _;rw[Nat.sub_zero,oU hx,oU hy]
  |succ k ih=>
   intro hk
   have :=ih (by omega)
   rw[jJ x (8 -(k+1)) (by omega),jJ y (8 -(k+1)) (by omega),h,show 8 -(k+1)+1=8 -k by omega,this]
 have :=key 8 (Nat.le_refl _)
 simpa using this
theorem bm:(Tryz.prog.info? 67).map (·.size)=some 8:=by kernel_rfl
theorem kY(x y:Int)(hx:cg x)(hy:cg y)(W:World):(Op.equalIn 10000 67 (.agg ((ax x).map (Value.int .u32)).toArray) (.agg ((ax y).map (Value.int .u32)).toArray)).run Tryz.prog W= .ok (decide (x=y)) W:=by
 rw[m9 W 67 23 8 .u32 (by kernel_rfl) Tryz.underlying67 Tryz.underlying23 (by kernel_rfl) (by kernel_rfl) (ax x) (ax y) (am x) (uU x) (am y) (uU y)]
 have :decide (ax x=ax y)=decide (x=y):=by
  by_cases h:x=y
  ·rw[decide_eq_true h,h];simp
  ·rw[decide_eq_false h,decide_eq_false (fun e=>h (AZ hx hy e))]
 rw[this]
def fw(l:List Int)(i j:Nat):Int:=be (((l.take i).drop (28 -4*j)).take 4)
def sw(l:List Int)(i:Nat):List Int:=(List.range 8).map (fw l i)
theorem fx(l:List Int)(i:Nat):(sw l i).length=8:=by simp[sw]
theorem na(l:List Int)(i k:Nat)(hk:k<8):(sw l i).getD k 0=fw l i k:=by simp[sw,List.getD,hk]
theorem Dz(l:List Int):sw l 0=List.replicate 8 0:=by simp[sw,fw,be,List.range_succ,List.replicate]
theorem OG{a b:List Int}(ha:a.length=8)(hb:b.length=8)(h:∀j,j<8→a.getD j 0=b.getD j 0):a=b:=by
 apply List.ext_getElem (by omega)
 intro j h1 h2
 have :=h j (by omega)
 simpa[List.getD,h1,h2]using this
theorem wF{l:List Int}(hb:Bytes l)(i j:Nat):0≤fw l i j∧fw l i j<4294967296:=by
 have h:=eY (l:=((l.take i).drop (28 -4*j)).take 4) (fun x h=>hb x (List.mem_of_mem_take (List.mem_of_mem_drop (List.mem_of_mem_take h))))
 have hlen:(((l.take i).drop (28 -4*j)).take 4).length≤4:=by simp;omega
 refine⟨h.1,Int.lt_of_lt_of_le h.2 ?_⟩
 have hp:∀k:Fin 5,(256:Int)^k.val≤4294967296:=by decide
 exact hp ⟨_,by omega⟩
theorem qT{l:List Int}(hb:Bytes l)(hl:l.length=32){i:Nat}(h:i<32):fw l (i+1) (7 -i/4)=fw l i (7 -i/4)*256+l.getD i 0∧fw l i (7 -i/4)*256<4294967296∧∀j,j<8→j≠7 -i/4→fw l (i+1) j=fw l i j:=by
 have h8:28 -4*(7 -i/4)=4*(i/4):=by omega
 have hlen:((l.take i).drop (4*(i/4))).length≤3:=by rw[List.length_drop,List.length_take];omega
 refine⟨?_,?_,fun j hj hne=> ?_⟩
 ·unfold fw
  have e:(l.take (i+1)).drop (4*(i/4))=(l.take i).drop (4*(i/4))++[l.getD i 0]:=by
   rw[List.take_succ_eq_append_getElem (by omega),List.drop_append_of_le_length (by rw[List.length_take];omega)]
   simp[List.getD,show i<l.length by omega]
  rw[h8,e]
  generalize(l.take i).drop (4*(i/4))=A at *
  have t1:(A++[l.getD i 0]).take 4=A++[l.getD i 0]:=List.take_of_length_le (by rw[List.length_append,List.length_singleton];omega)
  have t2:A.take 4=A:=List.take_of_length_le (by omega)
  rw[t1,t2,oP]
 · have hr:=eY (l:=((l.take i).drop (4*(i/4))).take 4) (fun x h=>hb x (List.mem_of_mem_take (List.mem_of_mem_drop (List.mem_of_mem_take h))))
   have hlen2:(((l.take i).drop (4*(i/4))).take 4).length≤3:=by rw[List.length_take];omega
   have hp:∀k:Fin 4,(256:Int)^k.val≤16777216:=by decide
   unfold fw
   rw[h8]
   generalize((l.take i).drop (4*(i/4))).take 4=A at *
   have h3:=Int.lt_of_lt_of_le hr.2 (hp ⟨A.length,by omega⟩)
   omega
 ·unfold fw
  by_cases hc:j<7 -i/4
  ·rw[List.drop_eq_nil_of_le (by simp;omega),List.drop_eq_nil_of_le (by simp;omega)]
  · have e:∀m,28 -4*j+4≤m→((l.take m).drop (28 -4*j)).take 4=(l.drop (28 -4*j)).take 4:=by
     intro m hm
     rw[List.drop_take,List.take_take,Nat.min_eq_left (by omega)]
    rw[e i (by omega),e (i+1) (by omega)]
theorem FB{l:List Int}(hb:Bytes l)(hl:l.length=32){i:Nat}(h:i<32):(sw l i).set (7 -i/4) (fw l i (7 -i/4)*256+l.getD i 0)=sw l (i+1):=by
 obtain⟨h1,_,h3⟩:=qT hb hl h
 refine OG (by simp[fx]) (fx _ _) (fun j hj=> ?_)
 rw[Ft _ _ _ _ (by rw[fx];exact hj),na _ _ _ hj,na _ _ _ hj]
 by_cases e:7 -i/4=j
 ·rw[if_pos e,←h1,e]
 ·rw[if_neg e,h3 j hj (fun x=>e x.symm)]
theorem DA{l:List Int}(hb:Bytes l)(hl:l.length=32):sw l 32=ax (be l):=by
 refine OG (fx _ _) (am _) (fun j hj=> ?_)
 rw[na _ _ _ hj,cr _ _ hj]
 have e:l=l.take (28 -4*j)++((l.drop (28 -4*j)).take 4++l.drop (32 -4*j)):=by
  have h1:=List.take_append_drop (28 -4*j) l
  have h2:=List.take_append_drop 4 (l.drop (28 -4*j))
  rw[List.drop_drop,show 28 -4*j+4=32 -4*j by omega]at h2
  rw[h2,h1]
 have hmid:(l.drop (28 -4*j)).take 4=((l.take 32).drop (28 -4*j)).take 4:=by rw[List.take_of_length_le (by omega:l.length≤32)]
 have hml:((l.drop (28 -4*j)).take 4).length=4:=by simp;omega
 have htl:(l.drop (32 -4*j)).length=4*j:=by simp;omega
 have ht:=eY (l:=l.drop (32 -4*j)) (fun x h=>hb x (List.mem_of_mem_drop h))
 have hm:=eY (l:=(l.drop (28 -4*j)).take 4) (fun x h=>hb x (List.mem_of_mem_drop (List.mem_of_mem_take h)))
 rw[htl]at ht
 rw[hml]at hm
 have hM:(4294967296:Int)^j=256^(4*j):=by rw[Int.pow_mul];rfl
 rw[fw,←hmid,hM]
 conv=>rhs;rw[e]
 rw[m7,m7,List.length_append,hml,htl]
 generalize be ((l.drop (28 -4*j)).take 4)=B at *
 generalize be (l.drop (32 -4*j))=C at *
 generalize be (l.take (28 -4*j))=A at *
 have hp:(0:Int)<256^(4*j):=Int.pow_pos (by decide)
 rw[Int.pow_add,←Int.mul_assoc,←Int.add_assoc,←Int.add_mul,Int.add_comm _ C,Int.add_mul_ediv_right _ _ (Int.ne_of_gt hp),Int.ediv_eq_zero_of_lt ht.1 ht.2,Int.zero_add]
 omega
theorem jK(v:Value)(l:List Int)(w:World)(hr:Rd w 1 v 32 (l.map (Value.int .u8)))(hb:Bytes l)(hl:l.length=32):
 Calls Tryz.prog 33 #[v] w fun e w' =>e= .returned (.agg ((ax (be l)).map (Value.int .u32)).toArray)∧Keeps w w':=by
 obtain⟨g,off,cap,rfl,hg,hrow⟩:∃g off cap,v= .slice (some ⟨g,off,none⟩) 32 cap∧g<w.heap.size∧Row w g off (l.map (Value.int .u8)):=by
  obtain⟨_,a,cap,rfl,h2,h3,h4,h5⟩:=hr
  cases a with
  |none=>have :=(h4 rfl).1;omega
  |some ad=>
   obtain⟨g,off,rfl,hg,hr⟩:=h5 ad rfl (by omega)
   exact⟨g,off,cap,rfl,hg,hr⟩
 have HB:=ae hb
 have HW:=ae (DA hb hl)
 have iX:=ae hrow
 clear hr hrow
 go_enter Tryz.func33,Tryz.ntmps33
 go_upto_region 2 with(fail)
 refine bu (fun W hk hr2 hr3 hs=> ?_)
 obtain⟨p,hp⟩:∃p,p=w.heap.size:=⟨_,rfl⟩
 rw[←hp]at hr2 hr3 hs hg⊢
 have hkp:w.heap.size≤p:=by omega
 obtain⟨Z,hZ,hrz⟩:∃Z:List Value,Z.length=8∧Row W p 0 Z:=⟨_,rfl,hr2⟩
 have HR2:=ae hrz
 have HR3:=ae (show Row W (p+1) 0 ((sw l 0).map (Value.int .u32)) by rw[Dz];exact hr3)
 have HK:=ae hk
 clear hp hr2 hrz hr3 hk hb hs
 go_wp2
 go_loopw [4] (fun c wr=>∃i:Nat,i≤32∧c= .int .i64 i∧Keeps w wr∧Row wr p 0 Z∧Row wr (p+1) 0 ((sw l i).map (Value.int .u32))) (fun c _=>(32 -intOf c).toNat)
 case atStart=>exact⟨0,by omega,rfl,HK.o,HR2.o,HR3.o⟩
 case round=>
  obtain⟨i,hi,rfl,hk,hr2,hr3⟩:=hrel
  by_cases hlt:i<32
  · have hcz:=(iX.o.keeps hk).int i (by rw[hl];exact hlt)
    have b1:=HB.o.getD i
    have c3:=hr3.aT (7 -i/4) (by rw[fx];omega)
    rw[na _ _ _ (by omega)]at c3
    have f3:=hr3.bR (7 -i/4) (by rw[aF,fx];omega)
    have hs:=hr3.bl (7 -i/4) (by rw[fx];omega) (fw l i (7 -i/4)*256+l.getD i 0)
    rw[FB HB.o hl hlt]at hs
    have hr:=wF HB.o i (7 -i/4)
    have hr':=(qT HB.o hl hlt).2.1
    generalize l.getD i 0=y at *
    generalize fw l i (7 -i/4)=x at *
    obtain⟨b00,b01⟩:=b1
    obtain⟨x0,x1⟩:=hr
    have HS:=ae hs;have H2:=ae hr2;have aq:=ae hk
    clear hs hr2 hr3 hk
    go_wp2
    go_region
    go_wp2
    go_roundw
    case rel=>exact⟨i+1,by omega,by go_num,bz (b9 aq.o (by omega) _),(H2.o.other (by simp) _).drew,by exact HS.o⟩
    case measure=>simp[intOf];omega
  ·obtain rfl:i=32:=by omega
   rw[HW.o]at hr3
   have H2:=ae hr2;have H3:=ae hr3;have aq:=ae hk
   clear hr2 hr3 hk
   have iz:=am (be l)
   generalize hRR:ax (be l)=RR at *
   have HRR:=ae hRR
   clear hRR
   go_wp2_with (first |(refine aj rfl 67 (.tmp 3) rfl _ 0 rfl (RR.map (Value.int .u32)) _ H3.o Tryz.underlying67 rfl (by rw[aF,iz];exact bm) ?_)|(refine wpList_store_row rfl 67 (.tmp 2) (.tmp 25) rfl p 0 rfl Z (RR.map (Value.int .u32)) rfl H2.o (by rw[aF,iz,hZ]) (by rw[aF,iz];exact bm) (ai _) ?_;intro w9 aR aJ;have H9:=ae aR;have bK:=ae aJ;clear aR aJ))
   exact bodyPost_ret (v:= .agg (RR.map (Value.int .u32)).toArray) (ar (p:=2) (ty:=67) rfl _ _ p 0 _ _ rfl H9.o Tryz.underlying67 rfl (by rw[aF,iz];exact bm)) rfl ⟨by rw[HRR.o],ag aq.o bK.o (by omega)⟩
theorem fy(u v:Int)(hu:cg u)(hv:cg v)(w:World):
 Calls Tryz.prog 61 #[.agg ((ax u).map (Value.int .u32)).toArray,.agg ((ax v).map (Value.int .u32)).toArray] w fun e w' =>e= .returned (.bool (decide (u<v)))∧Keeps w w':=by
 have hsu:=jJ u
 have hsv:=jJ v
 have htu:=oU hu
 have UA:=oU hv
 have AV:=am u
 have hvl:=am v
 generalize ax u=U at *
 generalize ax v=V at *
 have VX:=ae hsu;have FC:=ae hsv;have OE:=ae AV;have Lr:=ae hvl
 have H8:=ae (show u/4294967296^8=v/4294967296^8 by rw[htu,UA])
 clear hsu hsv htu UA AV hvl hu hv
 obtain⟨RR,hRR⟩:∃RR:Bool,RR=decide (u<v):=⟨_,rfl⟩
 rw[←hRR]
 have HRR:=ae hRR
 clear hRR
 go_enter Tryz.func61,Tryz.ntmps61
 go_upto_region 1 with(fail)
 refine bu (fun W hk hra hrb hs=> ?_)
 have bj:=ae (show Row W w.heap.size 0 (U.map (Value.int .u32))from hra);have bH:=ae (show Row W (w.heap.size+1) 0 (V.map (Value.int .u32))from hrb);have HK:=ae hk
 clear hra hrb hs hk
 generalize w.heap.size=p at *
 go_wp2
 go_loopw [5] (fun c wr=>∃(k:Nat) (z:Int),k≤8∧c= .int .i64 z∧Hid (z=(k:Int) -1)∧Hid (Keeps W wr)∧Hid (u/4294967296^k=v/4294967296^k)) (fun c _=>(intOf c+1).toNat)
 case atStart=>exact⟨8,7,by omega,rfl,ae (by omega),ae (Keeps.refl _),H8⟩
 case round=>
  obtain⟨k,z,hk8,rfl,HZ,nc,HE⟩:=hrel
  have hkc:k=0∨∃i,k=i+1:=by
   cases k with
   |zero=>exact .inl rfl
   |succ i=>exact .inr ⟨i,rfl⟩
  rcases hkc with rfl|⟨i,rfl⟩
  ·obtain rfl:z= -1:=by have :=HZ.o;omega
   obtain rfl:RR=false:=by
    have :=HE.o
    simp only[Int.pow_zero,Int.ediv_one]at this
    rw[HRR.o]
    exact decide_eq_false (by omega)
   go_wp2
   go_ret
   exact⟨rfl,HK.o.trans nc.o⟩
  ·obtain rfl:z=(i:Int):=by have :=HZ.o;omega
   have hi:i<8:=by omega
   have c1:=(bj.o.keeps nc.o).aT i (by rw[OE.o];exact hi)
   have c2:=(bH.o.keeps nc.o).aT i (by rw[Lr.o];exact hi)
   have h1:=VX.o i hi
   have h2:=FC.o i hi
   have hd:U.getD i 0<V.getD i 0→u<v:=fun h=>yk i (by rw[h1,h2,HE.o];omega)
   have hd2:V.getD i 0<U.getD i 0→v<u:=fun h=>yk i (by rw[h1,h2,HE.o];omega)
   have hd3:U.getD i 0=V.getD i 0→u/4294967296^i=v/4294967296^i:=fun h=>by rw[h1,h2,HE.o,h]
   have HD:=ae hd;have HD2:=ae hd2;have HD3:=ae hd3
   clear h1 h2 hd hd2 hd3
   generalize U.getD i 0=x at *
   generalize V.getD i 0=y at *
   by_cases hx:x=y
   · have z1:(x !=y)=false:=by rw[bne_eq_false_iff_eq];exact hx
     have HX:=ae (HD3.o hx)
     clear hx
     go_wp2
     go_quiet (fail)
     go_wp2
     go_roundw
     case rel=>exact⟨i,(i:Int) -1,by omega,rfl,ae rfl,ae (nc.o.trans (Qt.drewN _ _).keeps),HX⟩
     case measure=>simp[intOf]<;>omega
   · have z1:(x !=y)=true:=by rw[bne_iff_ne];exact hx
     obtain rfl:RR=decide (x<y):=by
      rw[HRR.o]
      by_cases h:x<y
      ·rw[decide_eq_true h,decide_eq_true (HD.o h)]
      · have :=HD2.o (by omega)
        rw[decide_eq_false h,decide_eq_false (by omega)]
     clear hx
     go_wp2
     go_quiet (fail)
     go_wp2
     go_quiet (fail)
     go_wp2
     go_ret
     exact⟨by first |rfl|exact fU (by simp),HK.o.trans ((nc.o.trans (Qt.drewN _ _).keeps).trans (Qt.drewN _ _).keeps)⟩
def NV:Int:=115792089237316195423570985008687907852837564279074904382605163141518161494337
theorem ff:cg NV:=by unfold cg NV;exact⟨by decide,by decide⟩
theorem FD:Tryz.prog.built 67 [(0,.int .u32 3493216577),(1,.int .u32 3218235020),(2,.int .u32 2940772411),(3,.int .u32 3132021990),(4,.int .u32 4294967294),(5,.int .u32 4294967295),(6,.int .u32 4294967295),(7,.int .u32 4294967295)]=some ((ax NV).map (Value.int .u32)).toArray:=by kernel_rfl
theorem yl:Tryz.prog.built 67 []=some ((ax 0).map (Value.int .u32)).toArray:=by kernel_rfl
theorem sx(w:World):Calls Tryz.prog 62 #[] w fun e w' =>e= .returned (.agg ((ax NV).map (Value.int .u32)).toArray)∧Keeps w w':=by
 have HB:=ae FD
 have hl:=am NV
 generalize ax NV=X at *
 go_enter Tryz.func62,Tryz.ntmps62
 go_upto_region 1 with(fail)
 refine bh (fun W hk hr hs=> ?_)
 obtain⟨Z,hZ,hrz⟩:∃Z:List Value,Z.length=8∧Row W w.heap.size 0 Z:=⟨_,rfl,hr⟩
 have HR:=ae hrz;have HK:=ae hk
 clear hk hr hrz hs
 go_wp2_with (first |(refine aW (by kernel_rfl) 67 _ rfl _ ?_ _ HB.o ?_;focus(simp only[List.map_toArray,List.map_cons,List.map_nil];rfl))|(refine ws HR.o hl (by rw[hZ]) (h:= ?_);intro w9 aR aJ;have H9:=ae aR;have bK:=ae aJ;clear aR aJ))
 exact bodyPost_ret (v:= .agg (X.map (Value.int .u32)).toArray) (ar (p:=0) (ty:=67) rfl _ _ w.heap.size 0 _ _ rfl H9.o Tryz.underlying67 rfl (by rw[aF,hl];exact bm)) rfl ⟨rfl,ag HK.o bK.o (Nat.le_refl _)⟩
def ey(x:Int):Bool:=decide (0<x∧x<NV)
theorem uV{x:Int}(h:x=0):ey x=false:=decide_eq_false (by omega)
theorem ym{x:Int}(h:cg x)(h0:¬x=0):ey x=decide (x<NV):=by
 have :=h.1
 unfold ey
 by_cases h1:x<NV
 ·rw[decide_eq_true h1,decide_eq_true ⟨by omega,h1⟩]
 ·rw[decide_eq_false h1,decide_eq_false (fun h=>h1 h.2)]
theorem sy(x:Int)(hx:cg x)(w:World):Calls Tryz.prog 32 #[.agg ((ax x).map (Value.int .u32)).toArray] w fun e w' =>e= .returned (.bool (ey x))∧Keeps w w':=by
 have HE:=ae (fun W=>kY x 0 hx ⟨by omega,by decide⟩ W)
 have p7:=ae (fy x NV hx ff)
 have HN:=ae sx
 have hl:=am x
 have hb0:=yl
 have HB0:=ae hb0
 clear hb0
 generalize ax x=X at *
 generalize ax NV=Y at *
 generalize ax 0=Z at *
 by_cases h0:x=0
 ·rw[uV h0]
  rw[decide_eq_true h0]at HE
  clear h0 p7
  go_enter Tryz.func32,Tryz.ntmps32
  go_upto_region 1 with(fail)
  refine bh (fun W0 hk hr hs=> ?_)
  have HR:=ae (show Row W0 w.heap.size 0 (X.map (Value.int .u32))from hr);have HK:=ae hk
  clear hk hr hs
  generalize w.heap.size=p at *
  refine cL (S:=fun W=>Hid ((fun W' =>Keeps W0 W') W)) 7 (by kernel_rfl) (by kernel_rfl) ?_ (fun hHeld=> ?_)
  focus exact ae (bz (Keeps.refl _))
  refine lt 0 (hx:=by intro wD hSw;(have hSw:=hSw.out);(refine bD 67 (.tmp 1) ?_ p 0 ?_ _ _ (HR.o.keeps hSw) Tryz.underlying67 rfl (by rw[aF,hl];exact bm))<;>rfl) (h:= ?_)
  refine lt 1 (hx:=by intro wD hSw;(have hSw:=hSw.out);(refine cR 67 [] ?_ [] ?_ _ HB0.o)<;>rfl) (h:= ?_)
  refine lt 2 (hx:=by intro wD hSw;(have hSw:=hSw.out);(refine gx 67 67 (.tmp 3) (.tmp 4) ?_ _ _ ?_ ?_ true HE.o (by kernel_rfl))<;>rfl) (h:= ?_)
  refine lt 3 (h:= ?_)
  refine KK 4 (h:= ?_)
  refine KK 5 (h:= ?_)
  refine KK 6 (h:= ?_)
  refine aU (by kernel_rfl) ?_
  try simp only[List.drop_succ_cons,List.drop_zero]
  go_wp2
  go_ret
  exact⟨by first |rfl|exact fU (by simp),HK.o.trans hHeld.out⟩
 ·rw[ym hx h0]
  rw[decide_eq_false h0]at HE
  clear h0
  generalize decide (x<NV)=D at *
  go_enter Tryz.func32,Tryz.ntmps32
  go_upto_region 1 with(fail)
  refine bh (fun W0 hk hr hs=> ?_)
  have HR:=ae (show Row W0 w.heap.size 0 (X.map (Value.int .u32))from hr);have HK:=ae hk
  clear hk hr hs
  generalize w.heap.size=p at *
  refine cL (S:=fun W=>Hid ((fun W' =>Keeps W0 W') W)) 7 (by kernel_rfl) (by kernel_rfl) ?_ (fun hHeld=> ?_)
  focus exact ae (bz (Keeps.refl _))
  refine lt 0 (hx:=by intro wD hSw;(have hSw:=hSw.out);(refine bD 67 (.tmp 1) ?_ p 0 ?_ _ _ (HR.o.keeps hSw) Tryz.underlying67 rfl (by rw[aF,hl];exact bm))<;>rfl) (h:= ?_)
  refine lt 1 (hx:=by intro wD hSw;(have hSw:=hSw.out);(refine cR 67 [] ?_ [] ?_ _ HB0.o)<;>rfl) (h:= ?_)
  refine lt 2 (hx:=by intro wD hSw;(have hSw:=hSw.out);(refine gx 67 67 (.tmp 3) (.tmp 4) ?_ _ _ ?_ ?_ false HE.o (by kernel_rfl))<;>rfl) (h:= ?_)
  refine lt 3 (h:= ?_)
  refine lt 4 (hx:=by intro wD hSw;(have hSw:=hSw.out);(refine bD 67 (.tmp 1) ?_ p 0 ?_ _ _ (HR.o.keeps hSw) Tryz.underlying67 rfl (by rw[aF,hl];exact bm))<;>rfl) (h:= ?_)
  refine ay (i:=5) (o:= ?_) (by kernel_rfl) (by kernel_rfl) ?_ ?_
  rotate_left 1
  focus(simp only[kG];exact rfl)
  go_wp2_with (go_at_call 62;refine(HN.o _).mono ?_;rintro r W5 ⟨rfl,hk5⟩;have cG:=ae (hHeld.out.trans hk5);clear hk5)
  try dsimp only[aN]
  refine⟨?_,fun hHeld=> ?_⟩
  focus(exact ae (cG.o))
  try simp only[kP]
  refine ay (i:=6) (o:= ?_) (by kernel_rfl) (by kernel_rfl) ?_ ?_
  rotate_left 1
  focus(simp only[kG];exact rfl)
  go_wp2_with (go_at_call 61;refine(p7.o _).mono ?_;rintro r W6 ⟨rfl,hk6⟩;have iY:=ae (hHeld.out.trans hk6);clear hk6)
  try dsimp only[aN]
  refine⟨?_,fun hHeld=> ?_⟩
  focus(exact ae (iY.o))
  try simp only[kP]
  refine aU (by kernel_rfl) ?_
  try simp only[List.drop_succ_cons,List.drop_zero]
  go_wp2
  go_ret
  exact⟨by first |rfl|exact fU (by simp),HK.o.trans hHeld.out⟩
end Go.Proofs.YtlofddoojkeakaaGreatDoor
