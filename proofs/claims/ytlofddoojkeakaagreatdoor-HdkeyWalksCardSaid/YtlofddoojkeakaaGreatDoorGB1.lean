/- A region that draws its order: reads, calls that keep all memory, and new blocks laid at any time: walked once; then its last operations in one forced. -/
import Derived.Test.YtlofddoojkeakaaGreatDoorGA7
set_option linter.unusedVariables false
set_option linter.unusedSimpArgs false
namespace Go.Proofs.YtlofddoojkeakaaGreatDoor
open Go Go.RowKit
section
variable {P:Program} {ops:Array Oper} {md:Region.Mode} {W:World} {A:Nat→Bool} {zs:Nat→List Value} {St:Nat→Option (Nat×List Value)} {val:Nat→Value} {n:Nat} {L:Array Bool→Act→(Nat→Nat)→Prop}
def ct(g:Nat):Value:= .pointer (some ⟨g,0,none⟩)
def sK(P:Program)(w:World)(v:Value):Result Next→Prop
 | .ok (.value u) w' =>w' =w∧u=v
 | .ok .skip w' =>w' =w∧v=undef
 | .ok (.enter f args) w' =>w' =w∧Calls P f args w (fun e w'' =>e= .returned v∧Keeps w w'')
 |_=>False
def gq(P:Program)(ops:Array Oper)(W:World)(o:Oper)(v:Value)(a:Act):Prop:=
 (Region.wanted o (yielded ops a.tmps)=true∧∀w,Keeps W w→sK P w v ((execOp a.eval o).run P w))∨(Region.wanted o (yielded ops a.tmps)=false∧v=undef)
theorem gq.i5 {o:Oper}(hs:∀cs b,o.op≠ .select cs b){a:Act}{dst:Option Tmp}{u v:Value}(h:∀d,dst=some d→d∉o.looksAt ops):gq P ops W o v (a.put dst u)↔gq P ops W o v a:=by
 unfold gq
 rw[execOp_put o hs a dst u h,wanted_put o a dst u h]
def fW(P:Program)(o:Oper)(zs:List Value):Prop:=
 o.guard=none∧∃T,∀a w,(execOp (Act.eval a) o).run P w= .ok (.value (ct w.heap.size)) (w.alloc (.cells zs.toArray T))
def upd(G:Nat→Nat)(i g:Nat):Nat→Nat:=fun k=>if k=i then g else G k
theorem FO{G:Nat→Nat}{i j g h:Nat}(hne:i≠j):upd (upd G i g) j h=upd (upd G j h) i g:=by
 funext k
 unfold upd
 by_cases h1:k=j
 ·rw[if_pos h1,if_neg (by omega)];simp[h1]
 ·rw[if_neg h1];simp[h1]
def nO(P:Program)(ops:Array Oper)(o:Oper)(a:Act)(g:Nat)(cs:List Value):Prop:=
 Region.wanted o (yielded ops a.tmps)=true∧∀w zs,Row w g 0 zs→cs.length=zs.length→∃w',(execOp a.eval o).run P w= .ok .skip w'∧Row w' g 0 cs∧bU (· =g) w w'
theorem nO.i5 {o:Oper}(hs:∀cs b,o.op≠ .select cs b){a:Act}{dst:Option Tmp}{u:Value}{g:Nat}{cs:List Value}(h:∀d,dst=some d→d∉o.looksAt ops):nO P ops o (a.put dst u) g cs↔nO P ops o a g cs:=by
 unfold nO
 rw[execOp_put o hs a dst u h,wanted_put o a dst u h]
def mE(P:Program)(ops:Array Oper)(W:World)(St:Nat→Option (Nat×List Value))(val:Nat→Value)(i:Nat)(o:Oper)(a:Act)(G:Nat→Nat):Prop:=
 (St i=none∧gq P ops W o (val i) a)∨(∃k cs,St i=some (k,cs)∧val i=undef∧nO P ops o a (G k) cs)
theorem mE.i5 {i:Nat}{o:Oper}(hs:∀cs b,o.op≠ .select cs b){a:Act}{dst:Option Tmp}{u:Value}{G:Nat→Nat}(h:∀d,dst=some d→d∉o.looksAt ops):mE P ops W St val i o (a.put dst u) G↔mE P ops W St val i o a G:=by
 unfold mE
 rw[gq.i5 hs h]
 simp only[nO.i5 hs h]
theorem mE.Cw {i j g:Nat}{o:Oper}{a:Act}{G:Nat→Nat}(h:∀cs,St i≠some (j,cs)):mE P ops W St val i o a (upd G j g)↔mE P ops W St val i o a G:=by
 unfold mE
 constructor
 ·rintro(h1|⟨k,cs,h1,h2,h3⟩)
  ·exact .inl h1
  ·refine .inr ⟨k,cs,h1,h2,?_⟩
   unfold upd at h3
   rwa[if_neg (fun e=>h cs (by rw[h1,e]))]at h3
 ·rintro(h1|⟨k,cs,h1,h2,h3⟩)
  ·exact .inl h1
  ·refine .inr ⟨k,cs,h1,h2,?_⟩
   unfold upd
   rwa[if_neg (fun e=>h cs (by rw[h1,e]))]
def A5(ops:Array Oper)(A:Nat→Bool)(St:Nat→Option (Nat×List Value)):Prop:=∀i k cs,St i=some (k,cs)→A i=false∧A k=true∧(∀o ok,ops[i]? =some o→ops[k]? =some ok→∃d,ok.dst=some d∧d∈o.looksAt ops)∧(∀j cs',St j=some (k,cs')→j=i)
def nP(P:Program)(ops:Array Oper)(W:World)(A:Nat→Bool)(St:Nat→Option (Nat×List Value))(val:Nat→Value)(i:Nat)(a:Act)(G:Nat→Nat)(K:Act→(Nat→Nat)→Prop):Prop:=
 ∃o,ops[i]? =some o∧((A i=true∧∀g,K (a.put o.dst (ct g)) (upd G i g))∨(A i=false∧mE P ops W St val i o a G∧K (a.put o.dst (val i)) G))
theorem jk{i:Nat}{a:Act}{G:Nat→Nat}{K K':Act→(Nat→Nat)→Prop}(h:∀a G,K a G→K' a G)(hh:nP P ops W A St val i a G K):nP P ops W A St val i a G K':=by
 obtain⟨o,ho,⟨h1,h2⟩|⟨h1,h2,h3⟩⟩:=hh
 ·exact⟨o,ho,.inl ⟨h1,fun g=>h _ _ (h2 g)⟩⟩
 ·exact⟨o,ho,.inr ⟨h1,h2,h _ _ h3⟩⟩
theorem FP{i:Nat}{a:Act}{G:Nat→Nat}{K:Act→(Nat→Nat)→Prop}(hh:nP P ops W A St val i a G K):∃a' G',K a' G':=by
 obtain⟨o,ho,⟨h1,h2⟩|⟨h1,h2,h3⟩⟩:=hh
 ·exact⟨_,_,h2 0⟩
 ·exact⟨_,_,h3⟩
theorem A6{i j:Nat}{oi oj:Oper}(hst:A5 ops A St)(hi:ops[i]? =some oi)(hj:ops[j]? =some oj)(hne:i≠j)(hap:oi.apart ops oj=true)(hsi:∀cs b,oi.op≠ .select cs b)(hsj:∀cs b,oj.op≠ .select cs b)
 {a:Act} {G:Nat→Nat} {K:Act→(Nat→Nat)→Prop} (h:nP P ops W A St val i a G (fun a' G' =>nP P ops W A St val j a' G' K)):nP P ops W A St val j a G (fun a' G' =>nP P ops W A St val i a' G' K):=by
 obtain⟨h1,h2,h3⟩:=Oper.apart_spec hap
 have h2':∀d,oj.dst=some d→oi.dst≠some d:=fun d hd he=>h2 d he hd
 have st1:∀cs,St j≠some (i,cs):=fun cs e=>by
  obtain⟨d,hd,hm⟩:=(hst j i cs e).2.2.1 oj oi hj hi
  exact h1 d hd hm
 have st2:∀cs,St i≠some (j,cs):=fun cs e=>by
  obtain⟨d,hd,hm⟩:=(hst i j cs e).2.2.1 oi oj hi hj
  exact h3 d hd hm
 obtain⟨o,ho,h⟩:=h
 obtain rfl:o=oi:=by rw[hi]at ho;exact(Option.some.inj ho).symm
 refine⟨oj,hj,?_⟩
 rcases h with⟨ha,h⟩|⟨ha,hy,o',ho',h⟩
 · by_cases hA:A j=true
   ·refine .inl ⟨hA,fun g' =>⟨o,hi,.inl ⟨ha,fun g=> ?_⟩⟩⟩
    obtain⟨o',ho',h⟩:=h g
    obtain rfl:o' =oj:=by rw[hj]at ho';exact(Option.some.inj ho').symm
    rcases h with⟨_,h⟩|⟨hb,_⟩
    ·rw[Act.put_comm a _ _ h2',FO (Ne.symm hne)];exact h g'
    ·rw[hA]at hb;cases hb
   · have hA':A j=false:=by simpa using hA
     have key:∀g,mE P ops W St val j oj a G∧K ((a.put o.dst (ct g)).put oj.dst (val j)) (upd G i g):=fun g=>by
      obtain⟨o',ho',h⟩:=h g
      obtain rfl:o' =oj:=by rw[hj]at ho';exact(Option.some.inj ho').symm
      rcases h with⟨hb,_⟩|⟨_,hy,h⟩
      ·rw[hA']at hb;cases hb
      ·exact⟨(mE.Cw st1).1 ((mE.i5 hsj h1).1 hy),h⟩
     refine .inr ⟨hA',(key 0).1,o,hi,.inl ⟨ha,fun g=> ?_⟩⟩
     rw[Act.put_comm a _ _ h2'];exact(key g).2
 ·obtain rfl:o' =oj:=by rw[hj]at ho';exact(Option.some.inj ho').symm
  rcases h with⟨hA,h⟩|⟨hA,hyj,h⟩
  ·refine .inl ⟨hA,fun g' =>⟨o,hi,.inr ⟨ha,(mE.i5 hsi h3).2 ((mE.Cw st2).2 hy),?_⟩⟩⟩
   rw[Act.put_comm a _ _ h2'];exact h g'
  ·refine .inr ⟨hA,(mE.i5 hsj h1).1 hyj,o,hi,.inr ⟨ha,(mE.i5 hsi h3).2 hy,?_⟩⟩
   rw[Act.put_comm a _ _ h2'];exact h
def sM(P:Program)(md:Region.Mode)(ops:Array Oper)(W:World)(A:Nat→Bool)(St:Nat→Option (Nat×List Value))(val:Nat→Value)(n:Nat)(L:Array Bool→Act→(Nat→Nat)→Prop):Nat→Array Bool→Act→(Nat→Nat)→Prop
 |0,listed,a,G=>L listed a G
 |f+1,listed,a,G=>Region.ready md ops listed≠[]∧∀i∈Region.ready md ops listed,i<n∧nP P ops W A St val i a G (fun a' G' =>sM P md ops W A St val n L f (listed.setIfInBounds i true) a' G')
def Held(zs:Nat→List Value)(St:Nat→Option (Nat×List Value))(listed:Array Bool)(i:Nat)(cs:List Value):Prop:=
 cs.length=(zs i).length∧(∀s c,listed.getD s false=true→St s=some (i,c)→cs=c)∧((∀s c,listed.getD s false=true→St s≠some (i,c))→cs=zs i)
def Cx(A:Nat→Bool)(zs:Nat→List Value)(St:Nat→Option (Nat×List Value))(W:World)(listed:Array Bool)(G:Nat→Nat)(w:World):Prop:=
 ∀i,A i=true→listed.getD i false=true→W.heap.size≤G i∧G i<w.heap.size∧(∃cs,Held zs St listed i cs∧Row w (G i) 0 cs)∧∀j,A j=true→listed.getD j false=true→j≠i→G j≠G i
theorem Cx.keeps {listed:Array Bool}{G:Nat→Nat}{w w':World}(h:Cx A zs St W listed G w)(hk:Keeps w w'):Cx A zs St W listed G w':=fun i hA hl=>
 ⟨(h i hA hl).1,Nat.lt_of_lt_of_le (h i hA hl).2.1 hk.size,(h i hA hl).2.2.1.imp fun _ h=>⟨h.1,h.2.keeps hk⟩,(h i hA hl).2.2.2⟩
theorem df{listed:Array Bool}{i k:Nat}(h:k≠i):(listed.setIfInBounds i true).getD k false=listed.getD k false:=getD_set_ne false (Ne.symm h)
theorem Held.other {listed:Array Bool}{i s:Nat}{cs:List Value}(h:Held zs St listed i cs)(hs:∀c,St s≠some (i,c)):Held zs St (listed.setIfInBounds s true) i cs:=by
 refine⟨h.1,fun t c hl ht=> ?_,fun hn=>h.2.2 fun t c hl=> ?_⟩
 · have hne:t≠s:=fun e=>hs c (by rw[←e];exact ht)
   rw[df hne]at hl
   exact h.2.1 t c hl ht
 ·intro ht
  have hne:t≠s:=fun e=>hs c (by rw[←e];exact ht)
  exact hn t c (by rw[df hne];exact hl) ht
theorem Cx.listed {listed:Array Bool}{G:Nat→Nat}{w:World}{i:Nat}(h:Cx A zs St W listed G w)(hi:A i=false)(hs:St i=none):Cx A zs St W (listed.setIfInBounds i true) G w:=fun k hA hl=>by
 have e:∀j,A j=true→(listed.setIfInBounds i true).getD j false=true→listed.getD j false=true:=fun j hj hl=>by
  rwa[df (fun e=>by rw[e,hi]at hj;cases hj)]at hl
 have :=h k hA (e k hA hl)
 exact⟨this.1,this.2.1,this.2.2.1.imp fun _ h=>⟨h.1.other (fun c=>by rw[hs];exact fun e=>by cases e),h.2⟩,fun j hj hlj=>this.2.2.2 j hj (e j hj hlj)⟩
theorem Cx.store {listed:Array Bool}{G:Nat→Nat}{w w':World}{i k:Nat}{c:List Value}(h:Cx A zs St W listed G w)(hst:A5 ops A St)(hs:St i=some (k,c))(hin:i<listed.size)(hk:listed.getD k false=true)(hlen:c.length=(zs k).length)(hr:Row w' (G k) 0 c)(hc:bU (· =G k) w w'):Cx A zs St W (listed.setIfInBounds i true) G w':=fun t hA hl=>by
 obtain⟨NQ,hAk,_,OU⟩:=hst i k c hs
 have e:∀j,A j=true→(listed.setIfInBounds i true).getD j false=true→listed.getD j false=true:=fun j hj hl=>by
  rwa[df (fun e=>by rw[e,NQ]at hj;cases hj)]at hl
 have h1:=h t hA (e t hA hl)
 refine⟨h1.1,Nat.lt_of_lt_of_le h1.2.1 hc.size,?_,fun j hj hlj=>h1.2.2.2 j hj (e j hj hlj)⟩
 by_cases htk:t=k
 ·subst htk
  refine⟨c,⟨hlen,fun s c' _ hs' => ?_,fun hn=>absurd hs (hn i c (by simp[hin]))⟩,hr⟩
  have :=OU s c' hs'
  subst this
  rw[hs]at hs'
  exact(Prod.mk.inj (Option.some.inj hs')).2
 ·obtain⟨cs,h2,h3⟩:=h1.2.2.1
  exact⟨cs,h2.other (fun c' e=>htk (by rw[hs]at e;exact((Prod.mk.inj (Option.some.inj e)).1).symm)),h3.aG hc (h1.2.2.2 k hAk hk (Ne.symm htk)).symm⟩
theorem Cx.alloc {listed:Array Bool}{G:Nat→Nat}{w:World}{i:Nat}{T:TypeId}(h:Cx A zs St W listed G w)(hst:A5 ops A St)(hin:∀s c,St s=some (i,c)→listed.getD s false=false)(NQ:A i=true)(hw:Keeps W w):Cx A zs St W (listed.setIfInBounds i true) (upd G i w.heap.size) (w.alloc (.cells (zs i).toArray T)):=fun k hA hl=>by
 have hsz:(w.alloc (.cells (zs i).toArray T)).heap.size=w.heap.size+1:=by simp
 have hsi:∀k c,St i≠some (k,c):=fun k c e=>by rw[(hst i k c e).1]at NQ;cases NQ
 by_cases hk:k=i
 ·subst hk
  have e:upd G k w.heap.size k=w.heap.size:=by unfold upd;rw[if_pos rfl]
  rw[e]
  refine⟨hw.size,by omega,⟨zs k,⟨rfl,fun s c hl hs=> ?_,fun _=>rfl⟩,Row.new _ _ _ (by simp)⟩,fun j hj hlj hne=> ?_⟩
  · have hne:s≠k:=fun e=>hsi k c (by rw[←e];rw[←e]at hs;exact hs)
    rw[df hne,hin s c hs]at hl
    cases hl
  rw[df hne]at hlj
  have :=(h j hj hlj).2.1
  unfold upd
  rw[if_neg hne];omega
 ·rw[df hk]at hl
  have e:upd G i w.heap.size k=G k:=by unfold upd;rw[if_neg hk]
  rw[e]
  have h1:=h k hA hl
  refine⟨h1.1,by omega,h1.2.2.1.imp fun _ h=>⟨h.1.other (hsi k),h.2.alloc _⟩,fun j hj hlj hne=> ?_⟩
  by_cases hji:j=i
  ·subst hji
   have e2:upd G j w.heap.size j=w.heap.size:=by unfold upd;rw[if_pos rfl]
   rw[e2];omega
  ·rw[df hji]at hlj
   have e2:upd G i w.heap.size j=G j:=by unfold upd;rw[if_neg hji]
   rw[e2];exact h1.2.2.2 j hj hlj hne
def Cy(md:Region.Mode)(ops:Array Oper)(St:Nat→Option (Nat×List Value)):Prop:=∀s k c,St s=some (k,c)→∀o,ops[s]? =some o→∃e∈o.after,Region.binds md e=true∧e.on=k
theorem gy{Q:Exit→Act→World→Prop}{g:Nat}(hst:A5 ops A St)(hwt:Cy md ops St)(hlen:∀s k c,St s=some (k,c)→c.length=(zs k).length)(hal:∀i o,A i=true→ops[i]? =some o→fW P o (zs i))
 (hL:∀listed a G w,Keeps W w→Cx A zs St W listed G w→L listed a G→wpAny P md ops Q g listed a w):
 ∀(f:Nat) (listed:Array Bool) (a:Act) (G:Nat→Nat) (w:World),listed.size=ops.size→(∀s k c,St s=some (k,c)→listed.getD s false=true→listed.getD k false=true)→Keeps W w→Cx A zs St W listed G w→sM P md ops W A St val n L f listed a G→wpAny P md ops Q (f+g) listed a w
 |0,listed,a,G,w,_,_,hw,hA,h=>by rw[Nat.zero_add];exact hL _ _ _ _ hw hA h
 |f+1,listed,a,G,w,hsz,hcl,hw,hA,h=>by
  rw[show f+1+g=(f+g)+1 by omega]
  refine⟨fun h0=>absurd h0 h.1,fun i hi=> ?_⟩
  obtain⟨o,ho,h2⟩:=(h.2 i hi).2
  have hsz':(listed.setIfInBounds i true).size=ops.size:=by simp[hsz]
  obtain⟨hun,oi,hoi,hall⟩:=mem_ready.1 hi
  obtain rfl:o=oi:=by rw[hoi]at ho;exact(Option.some.inj ho).symm
  have hinl:i<listed.size:=by
   rw[hsz]
   rcases Nat.lt_or_ge i ops.size with h' |h'
   ·exact h'
   ·rw[Array.getElem?_eq_none h']at ho;cases ho
  have hcl':∀s k c,St s=some (k,c)→(listed.setIfInBounds i true).getD s false=true→(listed.setIfInBounds i true).getD k false=true:=fun s k c hs hl=>by
   by_cases hki:k=i
   ·subst hki;simp[hinl]
   ·rw[df hki]
    by_cases hsi:s=i
    ·subst hsi
     obtain⟨e,he,hb,hk⟩:=hwt s k c hs o ho
     rw[←hk];exact hall e he hb
    ·rw[df hsi]at hl
     exact hcl s k c hs hl
  unfold wpOp
  simp only[ho]
  rcases h2 with⟨ha,h2⟩|⟨ha,hy|⟨k,c,hs,hv,hp⟩,h2⟩
  ·obtain⟨hg,T,hx⟩:=hal i o ha ho
   have FQ:Region.wanted o (yielded ops a.tmps)=true:=by unfold Region.wanted;rw[hg]
   rw[if_pos FQ]
   refine .inl ?_
   unfold Oper.wp
   rw[hx a w]
   refine gy hst hwt hlen hal hL f _ _ _ _ hsz' hcl' (ah hw _) (hA.alloc hst (fun s c hs=> ?_) ha hw) (h2 w.heap.size)
   cases hls:listed.getD s false with
   |false=>rfl
   |true=>
    have :=hcl s i c hs hls
    rw[getD_both hun]at this
    cases this
  ·obtain⟨hsn,hy⟩:=hy
   rcases hy with⟨FQ,hy⟩|⟨FQ,hy⟩
   ·rw[if_pos FQ]
    refine .inl ?_
    have h3:=hy w hw
    unfold Oper.wp
    generalize(execOp a.eval o).run P w=r at *
    cases r with
    |ok nx w' =>
     cases nx<;>simp only[sK]at h3<;>simp only[Oper.upon]
     case value u=>
      obtain⟨rfl,rfl⟩:=h3
      exact gy hst hwt hlen hal hL f _ _ _ _ hsz' hcl' hw (hA.listed ha hsn) h2
     case skip=>
      obtain⟨rfl,hv⟩:=h3
      rw[hv]at h2
      exact gy hst hwt hlen hal hL f _ _ _ _ hsz' hcl' hw (hA.listed ha hsn) h2
     case enter fn args=>
      obtain⟨rfl,hc⟩:=h3
      exact hc.mono fun e w'' ⟨he,hk⟩=>by subst he;exact gy hst hwt hlen hal hL f _ _ _ _ hsz' hcl' (hw.trans hk) ((hA.listed ha hsn).keeps hk) h2
    |halt x w' =>simp only[sK]at h3
   ·rw[if_neg (by rw[FQ];exact Bool.false_ne_true)]
    rw[hy]at h2
    exact gy hst hwt hlen hal hL f _ _ _ _ hsz' hcl' hw (hA.listed ha hsn) h2
  · have hkl:listed.getD k false=true:=by
     obtain⟨e,he,hb,hk⟩:=hwt i k c hs o ho
     rw[←hk];exact hall e he hb
    obtain⟨b1,b2,⟨cs,b3,b4⟩,b5⟩:=hA k (hst i k c hs).2.1 hkl
    obtain⟨w',c1,c2,c3⟩:=hp.2 w cs b4 (by rw[hlen i k c hs,b3.1])
    rw[if_pos hp.1]
    refine .inl ?_
    unfold Oper.wp
    rw[c1]
    simp only[Oper.upon]
    rw[hv]at h2
    exact gy hst hwt hlen hal hL f _ _ _ _ hsz' hcl' (ag hw c3 b1) (hA.store hst hs hinl hkl (hlen i k c hs) c2 c3) h2
theorem wL{i:Nat}{oi:Oper}(hst:A5 ops A St)(hi:ops[i]? =some oi)(hsel:∀(j:Nat) (o:Oper) cs b,ops[j]? =some o→o.op≠ .select cs b)
 (hs:Region.sinkB md ops n=true) (hc:Region.chainB md ops n=true) (hn:n<ops.size) (hin:i<n) (hdone:∀listed a G,L listed a G→∀j∈Region.ready md ops listed,n≤j):
 ∀(f:Nat) (listed:Array Bool) (a:Act) (G:Nat→Nat),HeadInv md ops n listed→
  (∀j oj,ops[j]? =some oj→j≠i→listed.getD j true=false→(∀e∈oj.after,Region.binds md e=true→e.on≠i)→oi.apart ops oj=true)→
  i∈Region.ready md ops listed→nP P ops W A St val i a G (fun a' G' =>sM P md ops W A St val n L f (listed.setIfInBounds i true) a' G')→sM P md ops W A St val n L (f+1) listed a G:=by
 intro f
 induction f with
 |zero=>
  intro listed a G inv _ hr H
  have hun:=(mem_ready.1 hr).1
  refine⟨fun h=>(by rw[h]at hr;cases hr),fun j hj=> ?_⟩
  have hjn:j<n:=by
   rcases Nat.lt_or_ge j n with h|h
   ·exact h
   ·exact absurd hj (tail_waits hs hc hn inv _ i rfl hin hun j h)
  refine⟨hjn,?_⟩
  by_cases hji:j=i
  ·subst hji;exact H
  ·obtain⟨a',G',hL⟩:=FP H
   have :=hdone _ _ _ hL j (ready_mono hj hji)
   omega
 |succ f ih=>
  intro listed a G inv hfree hr H
  have hun:=(mem_ready.1 hr).1
  refine⟨fun h=>(by rw[h]at hr;cases hr),fun j hj=> ?_⟩
  have hjn:j<n:=by
   rcases Nat.lt_or_ge j n with h|h
   ·exact h
   ·exact absurd hj (tail_waits hs hc hn inv _ i rfl hin hun j h)
  refine⟨hjn,?_⟩
  by_cases hji:j=i
  ·subst hji;exact H
  ·obtain⟨hjun,oj,hoj,hall⟩:=mem_ready.1 hj
   have hnot:∀e∈oj.after,Region.binds md e=true→e.on≠i:=fun e he hb heq=>by
    have h1:=hall e he hb
    rw[heq,getD_both hun]at h1
    cases h1
   have h1:=jk (fun a' G' h=>(h.2 j (ready_mono hj hji)).2) H
   have h2:=A6 hst hi hoj (Ne.symm hji) (hfree j oj hoj hji hjun hnot) (fun cs b=>hsel i oi cs b hi) (fun cs b=>hsel j oj cs b hoj) h1
   have hfree':∀k ok,ops[k]? =some ok→k≠i→(listed.setIfInBounds j true).getD k true=false→
    (∀e∈ok.after,Region.binds md e=true→e.on≠i)→oi.apart ops ok=true:=fun k ok hk hki hun hno=>by
    refine hfree k ok hk hki ?_ hno
    by_cases hjk:j=k
    ·subst hjk;exact hjun
    ·rw[getD_set_ne true hjk]at hun;exact hun
   refine jk (fun a' G' h3=>ih (listed.setIfInBounds j true) a' G' (inv.set hj hjn) hfree' (ready_mono hr (Ne.symm hji)) ?_) h2
   rw[Array.setIfInBounds_comm _ _ hji]
   exact h3
def yw(md:Region.Mode)(ops:Array Oper)(n:Nat)(As:List Nat):List Nat→Array Bool→Bool
 |[],listed=>Region.seqB md ops (ops.size -n) n listed&&As.all (fun i=>listed.getD i false)
 |i::π,listed=>decide (i<n)&&(Region.ready md ops listed).contains i&&Region.free md ops listed i&&yw md ops n As π (listed.setIfInBounds i true)
def runK(P:Program)(ops:Array Oper)(W:World)(A:Nat→Bool)(St:Nat→Option (Nat×List Value))(val:Nat→Value)(Lq:Act→(Nat→Nat)→Prop):List Nat→Act→(Nat→Nat)→Prop
 |[],a,G=>Lq a G
 |i::π,a,G=>nP P ops W A St val i a G (fun a' G' =>runK P ops W A St val Lq π a' G')
theorem qZ{Lq:Act→(Nat→Nat)→Prop}{As:List Nat}(hst:A5 ops A St)(hsel:Region.noSelect ops=true)(hs:Region.sinkB md ops n=true)(hc:Region.chainB md ops n=true)(hn:n<ops.size):
 ∀(π:List Nat) (listed:Array Bool) (a:Act) (G:Nat→Nat),HeadInv md ops n listed→yw md ops n As π listed=true→runK P ops W A St val Lq π a G→
  sM P md ops W A St val n (fun listed' a' G' =>(Region.seqB md ops (ops.size -n) n listed' =true∧As.all (fun i=>listed'.getD i false)=true)∧Lq a' G') π.length listed a G
 |[],listed,a,G,inv,hB,h=>⟨by simpa[yw]using hB,h⟩
 |i::π,listed,a,G,inv,hB,h=>by
  simp only[yw,Bool.and_eq_true,decide_eq_true_eq]at hB
  obtain⟨⟨⟨hin,hr⟩,hf⟩,hB'⟩:=hB
  have hr':i∈Region.ready md ops listed:=by simpa using hr
  obtain⟨o,ho,h2⟩:=h
  exact wL hst ho (Region.noSelect_spec hsel) hs hc hn hin (fun listed' a' G' hL=>seqB_ready hL.1.1) π.length listed a G inv (Region.free_spec ho hf) hr'
   (jk (fun a' G' h3=>qZ hst hsel hs hc hn π _ a' G' (inv.set hr' hin) hB' h3) ⟨o,ho,h2⟩)
def et(P:Program)(ops:Array Oper)(W:World)(Lk:Act→Prop):List Nat→Act→Prop
 |[],a=>Lk a
 |i::π,a=>∃o v,ops[i]? =some o∧gq P ops W o v a∧et P ops W Lk π (a.put o.dst v)
theorem oh{Lq:Act→(Nat→Nat)→Prop}{val':Nat→Value}:∀(π:List Nat) (a:Act) (G:Nat→Nat),(∀i∈π,val i=val' i)→runK P ops W A St val Lq π a G→runK P ops W A St val' Lq π a G
 |[],_,_,_,h=>h
 |i::π,a,G,he,h=>by
  obtain⟨o,ho,⟨h1,h2⟩|⟨h1,h2,h3⟩⟩:=h
  ·exact⟨o,ho,.inl ⟨h1,fun g=>oh π _ _ (fun j hj=>he j (by simp[hj])) (h2 g)⟩⟩
  ·rw[he i (by simp)]at h3
   refine⟨o,ho,.inr ⟨h1,?_,oh π _ _ (fun j hj=>he j (by simp[hj])) h3⟩⟩
   unfold mE at h2⊢
   rwa[he i (by simp)]at h2
theorem vh{Lq UB:Act→(Nat→Nat)→Prop}:∀(π:List Nat) (a:Act) (G:Nat→Nat),(∀a G,Lq a G→UB a G)→runK P ops W A St val Lq π a G→runK P ops W A St val UB π a G
 |[],_,_,hm,h=>hm _ _ h
 |_::π,_,_,hm,h=>jk (fun a' G' h=>vh π a' G' hm h) h
theorem rk{Lk:Act→Prop}:∀(π:List Nat) (a:Act),et P ops W Lk π a→π.Nodup→(∀i∈π,A i=false∧St i=none)→∃val:Nat→Value,(∀j,j∉π→val j=undef)∧∀(F:Act→Act) (G:Nat→Nat),
 (∀i∈π,∀o,ops[i]? =some o→(∀a v,gq P ops W o v a→gq P ops W o v (F a))∧(∀a v,F (a.put o.dst v)=(F a).put o.dst v))→
 runK P ops W A St val (fun a' G' =>G' =G∧∃a'',Lk a''∧a' =F a'') π (F a) G
 |[],a,h,_,_=>⟨fun _=>undef,fun _ _=>rfl,fun F G _=>⟨rfl,a,h,rfl⟩⟩
 |i::π,a,h,hnd,hA=>by
  obtain⟨o,v,ho,hy,h⟩:=h
  rw[List.nodup_cons]at hnd
  obtain⟨val,hu,hv⟩:=rk π _ h hnd.2 (fun j hj=>hA j (by simp[hj]))
  refine⟨fun k=>if k=i then v else val k,fun j hj=>by show(if j=i then v else val j)=undef;rw[if_neg (fun e=>hj (by simp[e]))];exact hu j (fun h=>hj (by simp[h])),fun F G hF=>⟨o,ho,.inr ⟨(hA i (by simp)).1,.inl ⟨(hA i (by simp)).2,?_⟩,?_⟩⟩⟩
  · have e:(fun k=>if k=i then v else val k) i=v:=if_pos rfl
    rw[e];exact(hF i (by simp) o ho).1 a v hy
  · have e:(fun k=>if k=i then v else val k) i=v:=if_pos rfl
    rw[e,←(hF i (by simp) o ho).2 a v]
    refine oh π _ _ (fun j hj=> ?_) (hv F G (fun j hj=>hF j (by simp[hj])))
    exact(if_neg (fun e=>hnd.1 (by rw[←e];exact hj))).symm
def br(ops:Array Oper)(i:Nat):Option Tmp:=(ops[i]?).bind (·.dst)
def aZ(ops:Array Oper)(G:Nat→Nat):List Nat→Act→Act
 |[],a=>a
 |i::As,a=>aZ ops G As (a.put (br ops i) (ct (G i)))
theorem A7{Lq:Act→(Nat→Nat)→Prop}{π:List Nat}:∀(As:List Nat) (a:Act) (G:Nat→Nat),As.Nodup→(∀i∈As,A i=true∧∃o,ops[i]? =some o)→(∀G',runK P ops W A St val Lq π (aZ ops G' As a) G')→runK P ops W A St val Lq (As++π) a G
 |As,a,G,hnd,hA,h=>by
  have key:∀(As:List Nat) (a:Act) (G:Nat→Nat),As.Nodup→(∀i∈As,A i=true∧∃o,ops[i]? =some o)→(∀G',(∀k,k∉As→G' k=G k)→runK P ops W A St val Lq π (aZ ops G' As a) G')→runK P ops W A St val Lq (As++π) a G:=by
   intro As
   induction As with
   |nil=>intro a G _ _ h;exact h G (fun _ _=>rfl)
   |cons i As ih=>
    intro a G hnd hA h
    rw[List.nodup_cons]at hnd
    obtain⟨NQ,o,ho⟩:=hA i (by simp)
    refine⟨o,ho,.inl ⟨NQ,fun g=>ih _ _ hnd.2 (fun j hj=>hA j (by simp[hj])) (fun G' hG=> ?_)⟩⟩
    have e:G' i=g:=by rw[hG i hnd.1];unfold upd;rw[if_pos rfl]
    have :=h G' (fun k hk=>by
     rw[hG k (fun hk' =>hk (by simp[hk']))]
     unfold upd
     rw[if_neg (fun e=>hk (by simp[e]))])
    rw[aZ,e]at this
    have hd:br ops i=o.dst:=by unfold br;rw[ho];rfl
    rwa[hd]at this
  exact key As a G hnd hA (fun G' _=>h G')
def RW(ops:Array Oper)(As π:List Nat):Bool:=As.all fun k=>π.all fun j=>match ops[k]?,ops[j]? with
 |some ok,some oj=>ok.apart ops oj
 |_,_=>false
def FS(md:Region.Mode)(ops:Array Oper)(n:Nat)(As π ρ:List Nat):Bool:=
 Region.noSelect ops&&decide (n<ops.size)&&Region.sinkB md ops n&&Region.chainB md ops n&&yw md ops n (As++(π++ρ)) (As++(π++ρ)) (Array.replicate ops.size false)&&RW ops As π&&decide (As++(π++ρ)).Nodup&&decide ((As++(π++ρ)).length=n)
theorem yx(hsel:∀(j:Nat) (o:Oper) cs b,ops[j]? =some o→o.op≠ .select cs b){π:List Nat}(G:Nat→Nat):∀(As:List Nat),RW ops As π=true→∀i∈π,∀o,ops[i]? =some o→(∀a v,gq P ops W o v a→gq P ops W o v (aZ ops G As a))∧(∀a v,aZ ops G As (a.put o.dst v)=(aZ ops G As a).put o.dst v)
 |[],_,_,_,_,_=>⟨fun _ _ h=>h,fun _ _=>rfl⟩
 |k::As,h,i,hi,o,ho=>by
  unfold RW at h
  rw[List.all_cons,Bool.and_eq_true]at h
  have ih:=yx hsel G As h.2 i hi o ho
  have h1:=List.all_eq_true.1 h.1 i hi
  simp only[ho]at h1
  cases hk:ops[k]? with
  |none=>simp[hk]at h1
  |some ok=>
   simp only[hk]at h1
   obtain⟨a1,a2,a3⟩:=Oper.apart_spec h1
   have hd:br ops k=ok.dst:=by unfold br;rw[hk];rfl
   refine⟨fun a v hy=> ?_,fun a v=> ?_⟩
   ·rw[aZ,hd]
    exact ih.1 _ _ ((gq.i5 (hsel i o · · ho) a1).2 hy)
   ·rw[aZ,aZ,hd,←ih.2,Act.put_comm a _ _ (fun d h1 h2=>a2 d h2 h1)]
theorem rm{Lq:Act→(Nat→Nat)→Prop}{ρ:List Nat}:∀(π:List Nat) (a:Act) (G:Nat→Nat),runK P ops W A St val (fun a' G' =>runK P ops W A St val Lq ρ a' G') π a G→runK P ops W A St val Lq (π++ρ) a G
 |[],_,_,h=>h
 |_::π,_,_,h=>jk (fun a' G' h=>rm π a' G' h) h
theorem sN{Lq:Act→(Nat→Nat)→Prop}:∀(ρ:List Nat) (a:Act) (G:Nat→Nat),(∀i∈ρ,A i=false∧val i=undef∧∃o k cs,ops[i]? =some o∧o.dst=none∧St i=some (k,cs)∧nO P ops o a (G k) cs)→Lq a G→runK P ops W A St val Lq ρ a G
 |[],_,_,_,h=>h
 |i::ρ,a,G,hA,h=>by
  obtain⟨h1,h2,o,k,cs,ho,hd,hs,hp⟩:=hA i (by simp)
  refine⟨o,ho,.inr ⟨h1,.inr ⟨k,cs,hs,h2,hp⟩,?_⟩⟩
  rw[hd]
  exact sN ρ a G (fun j hj=>hA j (by simp[hj])) h
def sO(Ss:List (Nat×Nat))(fs:Nat→List Value)(i:Nat):Option (Nat×List Value):=(Ss.find? (fun p=>p.1==i)).map fun p=>(p.2,fs p.2)
def OV(ops:Array Oper)(Ss:List (Nat×Nat))(As:List Nat):Bool:=Ss.all fun p=>As.contains p.2&& !As.contains p.1&&match ops[p.1]?,ops[p.2]? with
 |some o,some ok=>(match ok.dst with |some d=>(o.looksAt ops).contains d|none=>false)&&(o.dst==none)&&o.after.any (fun e=>Region.binds .any e&&e.on==p.2)
 |_,_=>false
def Jw(Ss:List (Nat×Nat))(zs fs:Nat→List Value)(i:Nat):List Value:=if(Ss.map (·.2)).contains i then fs i else zs i
theorem k7{id:Nat}{Q:Exit→Act→World→Prop}{a:Act}{w:World}{l:List Oper}(n:Nat)(As π:List Nat)(Ss:List (Nat×Nat))(zs fs:Nat→List Value)(hm:P.follows .mixedOrders=true)(hB:FS .any l.toArray n As π (Ss.map (·.1))=true)(NR:OV l.toArray Ss As=true)(hnS:(Ss.map (·.2)).Nodup)
 (hfs:∀p∈Ss,(fs p.2).length=(zs p.2).length)
 (hal:∀i∈As,∃o,l.toArray[i]? =some o∧fW P o (zs i))
 (h:et P l.toArray w (fun a' =>∀(G:Nat→Nat),(∀p∈Ss,∃o,l.toArray[p.1]? =some o∧nO P l.toArray o (aZ l.toArray G As a') (G p.2) (fs p.2))∧∀w',Keeps w w'→(∀i∈As,w.heap.size≤G i∧Row w' (G i) 0 (Jw Ss zs fs i)∧∀j∈As,j≠i→G j≠G i)→wpList P l.toArray Q (l.drop n) (aZ l.toArray G As a') w') π a):(Code.region id l.toArray true).wp P Q a w:=by
 simp only[FS,Bool.and_eq_true,decide_eq_true_eq]at hB
 obtain⟨⟨⟨⟨⟨⟨⟨hsel,hn⟩,hs⟩,hc⟩,hp⟩,hap⟩,hnd⟩,hlen⟩:=hB
 rw[List.nodup_append]at hnd
 obtain⟨hnA,KM,hdisj⟩:=hnd
 rw[List.nodup_append]at KM
 obtain⟨RX,FT,wM⟩:=KM
 have hdl:(l.drop n).length=l.toArray.size -n:=by simp
 have inv0:HeadInv .any l.toArray n (Array.replicate l.toArray.size false):=
  ⟨by simp,fun j oj _ hl=>(by rw[getD_replicate_false]at hl;cases hl),fun t _ ht=>getD_in (by simpa using ht) (getD_replicate_false _ _)⟩
 have look:∀p∈Ss,p.2∈As∧p.1∉As∧∃o ok d,l.toArray[p.1]? =some o∧l.toArray[p.2]? =some ok∧ok.dst=some d∧d∈o.looksAt l.toArray∧o.dst=none∧∃e∈o.after,Region.binds .any e=true∧e.on=p.2:=fun p hp' =>by
  have h1:=List.all_eq_true.1 NR p hp'
  simp only[Bool.and_eq_true,Bool.not_eq_true',List.contains_eq_mem,decide_eq_true_eq,decide_eq_false_iff_not]at h1
  obtain⟨⟨h2,h3⟩,h4⟩:=h1
  refine⟨h2,h3,?_⟩
  split at h4
  · rename_i o ok ho hok
    simp only[Bool.and_eq_true,beq_iff_eq]at h4
    obtain⟨⟨h5,h6⟩,h7⟩:=h4
    split at h5
    · rename_i d hd
      obtain⟨e,he,hb⟩:=Array.any_eq_true'.1 h7
      simp only[Bool.and_eq_true,beq_iff_eq]at hb
      exact⟨o,ok,d,ho,hok,hd,by simpa using h5,h6,e,he,hb.1,hb.2⟩
    · cases h5
  · cases h4
 have KN:∀i k c,sO Ss fs i=some (k,c)→(i,k)∈Ss∧c=fs k:=fun i k c h=>by
  unfold sO at h
  cases hf:Ss.find? (fun p=>p.1==i)with
  |none=>rw[hf]at h;cases h
  |some p=>
   rw[hf]at h
   have h1:=List.find?_some hf
   have h2:=List.mem_of_find?_eq_some hf
   simp only[beq_iff_eq]at h1
   simp only[Option.map_some,Option.some.injEq,Prod.mk.injEq]at h
   obtain⟨h3,h4⟩:=h
   subst h1
   rw[←h3]
   exact⟨h2,by rw[←h4]⟩
 have stP:∀p∈Ss,sO Ss fs p.1=some (p.2,fs p.2):=fun p hp' =>by
  unfold sO
  cases hf:Ss.find? (fun q=>q.1==p.1)with
  |none=>
   have :=List.find?_eq_none.1 hf p hp'
   simp at this
  |some q=>
   have h1:=List.find?_some hf
   have h2:=List.mem_of_find?_eq_some hf
   simp only[beq_iff_eq]at h1
   have :q=p:=by
    clear hf NR hfs h look KN hap hp hlen hdisj wM hnS
    induction Ss with
    |nil=>cases hp'
    |cons x Ss ih=>
     rw[List.map_cons,List.nodup_cons]at FT
     rcases List.mem_cons.1 hp' with e1|e1<;>rcases List.mem_cons.1 h2 with e2|e2
     ·rw[e1,e2]
     ·exact absurd (List.mem_map.2 ⟨q,e2,by rw[h1,e1]⟩) FT.1
     ·exact absurd (List.mem_map.2 ⟨p,e1,by rw[←h1,e2]⟩) FT.1
     ·exact ih FT.2 e1 e2
   rw[this];rfl
 have hst:A5 l.toArray (fun i=>decide (i∈As)) (sO Ss fs):=fun i k c hi=>by
  obtain⟨h1,h2⟩:=KN i k c hi
  obtain⟨l1,l2,o,ok,d,ho,hok,hd,hm,hod,_⟩:=look _ h1
  refine⟨decide_eq_false l2,decide_eq_true l1,fun o' ok' ho' hok' =>⟨d,?_,?_⟩,fun j c' hj=> ?_⟩
  · have :ok' =ok:=by rw[hok]at hok';exact(Option.some.inj hok').symm
    rw[this];exact hd
  · have :o' =o:=by rw[ho]at ho';exact(Option.some.inj ho').symm
    rw[this];exact hm
  ·obtain⟨h3,h4⟩:=KN j k c' hj
   clear NR hfs h look KN stP hap hp hlen hdisj wM FT hi hj
   induction Ss with
   |nil=>cases h1
   |cons x Ss ih=>
    rw[List.map_cons,List.nodup_cons]at hnS
    rcases List.mem_cons.1 h1 with e1|e1<;>rcases List.mem_cons.1 h3 with e2|e2
    · have :=e1.trans e2.symm
      exact((Prod.mk.inj this).1).symm
    ·exact absurd (List.mem_map.2 ⟨(j,k),e2,by rw[←e1]⟩) hnS.1
    ·exact absurd (List.mem_map.2 ⟨(i,k),e1,by rw[←e2]⟩) hnS.1
    ·exact ih hnS.2 e1 e2
 have hwt:Cy .any l.toArray (sO Ss fs):=fun s k c hs o ho=>by
  obtain⟨h1,h2⟩:=KN s k c hs
  obtain⟨l1,l2,o',ok,d,ho',hok,hd,hm,hod,he⟩:=look _ h1
  obtain rfl:o=o':=by rw[ho]at ho';exact Option.some.inj ho'
  exact he
 have RY:∀s k c,sO Ss fs s=some (k,c)→c.length=(zs k).length:=fun s k c hs=>by
  obtain⟨h1,h2⟩:=KN s k c hs
  rw[h2];exact hfs _ h1
 have RZ:∀i∈π,(fun i=>decide (i∈As)) i=false∧sO Ss fs i=none:=fun i hi=>⟨decide_eq_false (fun h=>hdisj i h i (List.mem_append_left _ hi) rfl),by
  cases hsi:sO Ss fs i with
  |none=>rfl
  |some kc=>
   obtain⟨h1,_⟩:=KN i kc.1 kc.2 (by rw[hsi])
   exact absurd rfl (wM i hi i (List.mem_map.2 ⟨_,h1,rfl⟩))⟩
 obtain⟨val,hu,hv⟩:=rk (A:=fun i=>decide (i∈As)) (St:=sO Ss fs) π a h RX RZ
 have hrun:=A7 (A:=fun i=>decide (i∈As)) (St:=sO Ss fs) (π:=π++Ss.map (·.1)) As a (fun _=>0) hnA (fun i hi=>⟨decide_eq_true hi,(hal i hi).imp fun o h=>h.1⟩) (Lq:=fun a' G' =>∃a'',(∀(G:Nat→Nat),(∀p∈Ss,∃o,l.toArray[p.1]? =some o∧nO P l.toArray o (aZ l.toArray G As a'') (G p.2) (fs p.2))∧∀w',Keeps w w'→(∀i∈As,w.heap.size≤G i∧Row w' (G i) 0 (Jw Ss zs fs i)∧∀j∈As,j≠i→G j≠G i)→wpList P l.toArray Q (l.drop n) (aZ l.toArray G As a'') w')∧a' =aZ l.toArray G' As a'') (val:=val) (fun G' =>by
  have :=hv (aZ l.toArray G' As) G' (yx (Region.noSelect_spec hsel) G' As hap)
  refine rm π _ _ (vh π _ _ (fun a1 G1 h1=> ?_) this)
  obtain⟨rfl,a2,h2,h3⟩:=h1
  subst h3
  refine sN _ _ _ (fun i hi=> ?_) ⟨a2,h2,rfl⟩
  obtain⟨p,hp1,rfl⟩:=List.mem_map.1 hi
  obtain⟨l1,l2,o,ok,d,ho,hok,hd,hm,hod,_⟩:=look _ hp1
  refine⟨decide_eq_false l2,hu _ (fun hp2=>wM _ hp2 _ hi rfl),o,p.2,fs p.2,ho,hod,stP p hp1,?_⟩
  obtain⟨o',ho',hpu⟩:=(h2 G1).1 p hp1
  obtain rfl:o=o':=by rw[ho]at ho';exact Option.some.inj ho'
  exact hpu)
 have H:=qZ (md:= .any) (As:=As++(π++Ss.map (·.1))) hst hsel hs hc hn (As++(π++Ss.map (·.1))) _ a (fun _=>0) inv0 hp hrun
 refine wp_region_any hm ?_
 have :=gy (Q:=Q) (zs:=zs) (g:=l.toArray.size -n) hst hwt RY (fun i o hi ho=>by
  obtain⟨o',ho',h⟩:=hal i (of_decide_eq_true hi)
  obtain rfl:o=o':=by rw[ho]at ho';exact Option.some.inj ho'
  exact h) (fun listed a' G' w' hw' hA hL=>by
  obtain⟨⟨h1,h2⟩,a2,h3,rfl⟩:=hL
  have hlist:∀i∈As++(π++Ss.map (·.1)),listed.getD i false=true:=fun i hi=>List.all_eq_true.1 h2 i hi
  have h4:=(h3 G').2 w' hw' (fun i hi=>by
   obtain⟨b1,b2,⟨cs,b3,b5⟩,b4⟩:=hA i (decide_eq_true hi) (hlist i (List.mem_append_left _ hi))
   refine⟨b1,?_,fun j hj hne=>b4 j (decide_eq_true hj) (hlist j (List.mem_append_left _ hj)) hne⟩
   have :cs=Jw Ss zs fs i:=by
    unfold Jw
    split
    · rename_i hc'
      rw[List.contains_eq_mem,decide_eq_true_eq]at hc'
      obtain⟨p,hp1,rfl⟩:=List.mem_map.1 hc'
      exact b3.2.1 p.1 _ (hlist p.1 (List.mem_append_right _ (List.mem_append_right _ (List.mem_map.2 ⟨p,hp1,rfl⟩)))) (stP p hp1)
    · rename_i hc'
      rw[List.contains_eq_mem,decide_eq_true_eq]at hc'
      refine b3.2.2 fun s c _ hs' =>hc' (List.mem_map.2 ⟨(s,i),(KN s i c hs').1,rfl⟩)
   rw[←this];exact b5)
  have :=wpAny_of_seq (md:= .any) (Q':=Q) (l.drop n) n listed (aZ l.toArray G' As a2) w' (fun j=>by simp[List.getElem?_drop]) (by rw[hdl];exact h1) h4
  rwa[hdl]at this) _ _ _ _ {w with drawn:=w.drawn+1} (by simp) (fun s k c _ hl=>by rw[getD_replicate_false]at hl;cases hl) (bz (Keeps.refl w)) (fun i _ hl=>by rw[getD_replicate_false]at hl;cases hl) H
 rw[hlen,show n+(l.toArray.size -n)=l.toArray.size by omega]at this
 exact this
theorem au{id:Nat}{Q:Exit→Act→World→Prop}{a:Act}{w:World}{l:List Oper}(n:Nat)(As π:List Nat)(zs:Nat→List Value)(hm:P.follows .mixedOrders=true)(hB:FS .any l.toArray n As π []=true)
 (hal:∀i∈As,∃o,l.toArray[i]? =some o∧fW P o (zs i))
 (h:et P l.toArray w (fun a' =>∀(G:Nat→Nat) w',Keeps w w'→(∀i∈As,w.heap.size≤G i∧Row w' (G i) 0 (zs i)∧∀j∈As,j≠i→G j≠G i)→wpList P l.toArray Q (l.drop n) (aZ l.toArray G As a') w') π a):(Code.region id l.toArray true).wp P Q a w:=by
 refine k7 n As π [] zs zs hm hB rfl List.nodup_nil (fun p hp=>by cases hp) hal ?_
 have mono:∀(π:List Nat) (a:Act) (L1 L2:Act→Prop),(∀a,L1 a→L2 a)→et P l.toArray w L1 π a→et P l.toArray w L2 π a:=by
  intro π
  induction π with
  |nil=>intro a L1 L2 hL h;exact hL _ h
  |cons i π ih=>
   intro a L1 L2 hL h
   obtain⟨o,v,h1,h2,h3⟩:=h
   exact⟨o,v,h1,h2,ih _ _ _ hL h3⟩
 exact mono π a _ _ (fun a' h1 G=>⟨fun p hp=>(by cases hp),fun w' hk hr=>h1 G w' hk hr⟩) h
theorem vj{o:Oper}{a:Act}(T:TypeId)(x y:Operand)(g:Nat)(cs:List Value)(hg:o.guard=none)(ho:o.op= .store T x y)(hx:a.eval x=ct g)(hy:a.eval y= .agg cs.toArray)(hi:(P.info? T).map (·.size)=some cs.length)(h1:∀v∈cs,v.oneCell' =true):nO P ops o a g cs:=by
 refine⟨by unfold Region.wanted;rw[hg],fun w zs hr hl=>⟨w.setCells g 0 cs,?_,hr.whole hl,dh _ _ _ _⟩⟩
 unfold execOp
 simp only[ho,hx,hy,ct,Instr.storeAt,Instr.sureAddr,Sem.run_bind,Sem.run_pure,Result.andThen_ok,run_storeVar_row w g 0 T zs cs hr hl hi h1]
theorem vk{Lk:Act→Prop}{i:Nat}{π:List Nat}{a:Act}{o:Oper}{v:Value}(ho:ops[i]? =some o)(hw:Region.wanted o (yielded ops a.tmps)=true)(hx:∀w,Keeps W w→(execOp a.eval o).run P w= .ok (.value v) w)(h:et P ops W Lk π (a.put o.dst v)):et P ops W Lk (i::π) a:=
 ⟨o,v,ho,.inl ⟨hw,fun w hk=>by rw[hx w hk];exact⟨rfl,rfl⟩⟩,h⟩
theorem DH{Lk:Act→Prop}{i:Nat}{π:List Nat}{a:Act}{o:Oper}(ho:ops[i]? =some o)(hw:Region.wanted o (yielded ops a.tmps)=false)(h:et P ops W Lk π (a.put o.dst undef)):et P ops W Lk (i::π) a:=
 ⟨o,undef,ho,.inr ⟨hw,rfl⟩,h⟩
theorem DI{Lk:Act→Prop}{i:Nat}{π:List Nat}{a:Act}{o:Oper}{f:FuncId}{args:Array Value}{v:Value}(ho:ops[i]? =some o)(hw:Region.wanted o (yielded ops a.tmps)=true)(hx:∀w,(execOp a.eval o).run P w= .ok (.enter f args) w)
 (hc:∀w,Keeps W w→Calls P f args w (fun e w' =>e= .returned v∧Keeps w w')) (h:et P ops W Lk π (a.put o.dst v)):et P ops W Lk (i::π) a:=
 ⟨o,v,ho,.inl ⟨hw,fun w hk=>by rw[hx w];exact⟨rfl,hc w hk⟩⟩,h⟩
theorem aI{Lk:Act→Prop}{a:Act}(h:Lk a):et P ops W Lk [] a:=h
theorem kp{Lk:Act→Prop}{i:Nat}{π:List Nat}{a a':Act}{o:Oper}{v:Value}(ho:ops[i]? =some o:=by simp only[kG];exact rfl)(hw:Region.wanted o (yielded ops a.tmps)=true:=by rfl)(hx:∀w,Keeps W w→(execOp a.eval o).run P w= .ok (.value v) w:=by(intro wS hS;go_simp)<;>with_reducible rfl)(ha:a.put o.dst v=a':=by(try simp only[kP]);rfl)(h:et P ops W Lk π a'):et P ops W Lk (i::π) a:=
 vk ho hw hx (by rw[ha];exact h)
theorem ks{Lk:Act→Prop}{i:Nat}{π:List Nat}{a a':Act}{o:Oper}(ho:ops[i]? =some o:=by simp only[kG];exact rfl)(hw:Region.wanted o (yielded ops a.tmps)=false:=by rfl)(ha:a.put o.dst undef=a':=by(try simp only[kP]);rfl)(h:et P ops W Lk π a'):et P ops W Lk (i::π) a:=
 DH ho hw (by rw[ha];exact h)
theorem kc{Lk:Act→Prop}{i:Nat}{π:List Nat}{a a':Act}{o:Oper}{f:FuncId}{args:Array Value}{v:Value}(ho:ops[i]? =some o:=by simp only[kG];exact rfl)(hw:Region.wanted o (yielded ops a.tmps)=true:=by rfl)(hx:∀w,(execOp a.eval o).run P w= .ok (.enter f args) w:=by intro wS;go_simp;refine⟨?_,?_⟩<;>with_reducible rfl)(hc:∀w,Keeps W w→Calls P f args w (fun e w' =>e= .returned v∧Keeps w w'))(ha:a.put o.dst v=a':=by(try simp only[kP]);rfl)(h:et P ops W Lk π a'):et P ops W Lk (i::π) a:=
 DI ho hw hx hc (by rw[ha];exact h)
theorem kl{Lk:Act→Prop}{i:Nat}{π:List Nat}{a a':Act}{o:Oper}{X:List Int}{kd:IntKind}{n g off:Nat}{ty:TypeId}{x:Operand}(hR:∀w,Keeps W w→Row w g off (X.map (Value.int kd)))(hl:X.length=n)(ho:ops[i]? =some o:=by simp only[kG];exact rfl)(hw:Region.wanted o (yielded ops a.tmps)=true:=by rfl)(hop:o.op= .load ty x:=by rfl)(hx:a.eval x= .pointer (some ⟨g,off,none⟩):=by rfl)
 (hu:(match P.underlying ty with |some (.struct _)|some (.array _ _)=>true|_=>false)=true:=by kernel_rfl) (hi:(P.info? ty).map (·.size)=some n:=by kernel_rfl) (ha:a.put o.dst (.agg (X.map (Value.int kd)).toArray)=a':=by(try simp only[kP]);rfl) (h:et P ops W Lk π a'):et P ops W Lk (i::π) a:=by
 cases hc:P.underlying ty with
 |none=>rw[hc]at hu;cases hu
 |some d=>
  rw[hc]at hu
  cases d<;>first |exact vk ho hw (fun w hk=>bD ty x hop g off hx _ _ (hR w hk) hc rfl (by rw[aF,hl];exact hi)) (by rw[ha];exact h)|exact absurd hu Bool.false_ne_true
end
end Go.Proofs.YtlofddoojkeakaaGreatDoor
