/- hdkey's Step: the early errors, and all of it. -/
import Derived.Test.YtlofddoojkeakaaGreatDoorGE3
import Derived.Test.YtlofddoojkeakaaGreatDoorGE2
import Derived.Test.YtlofddoojkeakaaGreatDoorGE4
set_option maxRecDepth 100000
set_option maxHeartbeats 4000000
set_option linter.unusedVariables false
set_option linter.unusedSimpArgs false
namespace Go.Proofs.YtlofddoojkeakaaGreatDoor
open Go Go.RowKit Cv
theorem oH(k:KD)(h:k.ok)(n:Int)(er:Int)(PR:List Int×Int)(VN:PR.1.length=33)(VO:∀W,Calls Tryz.prog 12 #[.agg k.cells.toArray] W fun e w' =>e= .returned (.tuple #[.agg (PR.1.map (Value.int .u8)).toArray,.int .i64 PR.2])∧Keeps W w')
 (hc:(¬PR.2=0∧er=PR.2)∨(PR.2=0∧k.d=255∧er=2)∨(PR.2=0∧¬k.d=255∧decide (2147483648≤n)=true∧¬k.x=0∧er=1)) (w:World):
 Calls Tryz.prog 7 #[.agg k.cells.toArray,.int .u32 n] w fun e w' =>e= .returned (.tuple #[.agg K0.cells.toArray,.int .i64 er])∧Keeps w w':=by
 have kV:=ae VO
 have Rc:=ae (fun W=>gM k h W)
 have ZK:=ae h.sz
 have Z0:=ae gZ.sz
 have hkl:=h.len
 have RWS:=ae (fun(W:World) (p:Nat) (hr:Row W p 0 k.cells)=>(h.rows hr).1)
 generalize k.cells=KC at *
 generalize PR.1=PV at *
 generalize PR.2=pe at *
 have HC:=ae hc
 clear hc VO
 go_enter Tryz.func7,Tryz.ntmps7
 go_upto_region 1 with(fail)
 refine bu (fun W hk hr hr2 hs=> ?_)
 obtain⟨p,hp⟩:∃p,p=w.heap.size:=⟨_,rfl⟩
 rw[←hp]at hr hr2 hs⊢
 have hkp:w.heap.size≤p:=by omega
 have HR:=ae (show Row W p 0 KC from by simpa using hr);have HK:=ae hk
 have aV:=ae (show Row W (p+1) 0 K0.cells from hr2)
 clear hp hk hr hr2 hs
 go_upto_region 2 with(first |(refine aj rfl 29 (.tmp 2) rfl p 0 rfl _ _ HR.o Tryz.underlying29 rfl ZK.o ?_)|(go_at_call 12;refine(kV.o _).mono ?_;rintro e W1 ⟨rfl,hk1⟩;have bw:=ae hk1;clear hk1)|(refine wpList_store_row rfl 25 (.tmp 6) (.tmp 17) rfl W1.heap.size 0 rfl (bA.map (Value.int .u8)) (PV.map (Value.int .u8)) rfl (Row.new _ _ _ rfl) (by rw[aF,VN];rfl) (by rw[aF,VN];exact bF) (ai _) ?_;intro W6 hr2 hc2;have bS:=ae (ag (ah bw.o _) hc2 bw.o.size);clear hr2 hc2))
 have aV:=ae (aV.o.keeps bS.o);have HR:=ae (HR.o.keeps bS.o);have aA:=ae (HK.o.trans bS.o)
 have c0:=RWS.o _ _ HR.o
 clear HK bw bS
 rcases HC.o with⟨h1,rfl⟩|⟨rfl,h1,rfl⟩|⟨rfl,h1,h2,h3,rfl⟩
 · have hne:(er !=0)=true:=by rw[bne_iff_ne];exact h1
   clear h1 HC
   go_wp2_with (first |(refine aW (by kernel_rfl) 29 _ rfl [] ?_ _ ex ?_;focus rfl)|(refine wpList_store_row rfl 29 (.tmp 4) (.tmp 22) rfl (p+1) 0 rfl K0.cells K0.cells rfl aV.o rfl Z0.o K0.one ?_;intro w9 aR aJ;have H9:=ae aR;have bK:=ae aJ;clear aR aJ))
   exact bodyPost_ret (al (p:=4) (t:=5) (ty:=29) rfl _ _ (p+1) 0 _ _ _ rfl rfl H9.o Tryz.underlying29 rfl Z0.o) rfl ⟨rfl,ag aA.o bK.o (by omega)⟩
 · have hd2:(k.d==255)=true:=by rw[beq_iff_eq];exact h1
   clear h1 HC
   go_wp2_with (first |(refine aW (by kernel_rfl) 29 _ rfl [] ?_ _ ex ?_;focus rfl)|(refine wpList_store_row rfl 29 (.tmp 4) (.tmp 28) rfl (p+1) 0 rfl K0.cells K0.cells rfl aV.o rfl Z0.o K0.one ?_;intro w9 aR aJ;have H9:=ae aR;have bK:=ae aJ;clear aR aJ))
   exact bodyPost_ret (al (p:=4) (t:=5) (ty:=29) rfl _ _ (p+1) 0 _ _ _ rfl rfl H9.o Tryz.underlying29 rfl Z0.o) rfl ⟨rfl,ag aA.o bK.o (by omega)⟩
 · have hd2:(k.d==255)=false:=by rw[beq_eq_false_iff_ne];exact h1
   rw[decide_eq_false h3]at Rc
   clear h1 h3 HC
   go_wp2_with (first |(refine dO (by kernel_rfl) 29 (.tmp 2) rfl p 0 rfl _ _ HR.o Tryz.underlying29 rfl ZK.o ?_)|(go_at_call 10;refine(Rc.o _).mono ?_;rintro e W7 ⟨rfl,hk1⟩;have i8:=ae hk1;clear hk1)|(refine aW (by kernel_rfl) 29 _ rfl [] ?_ _ ex ?_;focus rfl)|(refine wpList_store_row rfl 29 (.tmp 4) (.tmp 37) rfl (p+1) 0 rfl K0.cells K0.cells rfl (aV.o.keeps i8.o) rfl Z0.o K0.one ?_;intro w9 aR aJ;have H9:=ae aR;have bK:=ae aJ;clear aR aJ))
   exact bodyPost_ret (al (p:=4) (t:=5) (ty:=29) rfl _ _ (p+1) 0 _ _ _ rfl rfl H9.o Tryz.underlying29 rfl Z0.o) rfl ⟨rfl,ag (aA.o.trans i8.o) bK.o (by omega)⟩
theorem wi(k:KD)(h:k.ok)(n:Int)(h0:0≤n)(h1:n<4294967296)(w:World):
 Calls Tryz.prog 7 #[.agg k.cells.toArray,.int .u32 n] w fun e w' =>e= .returned (.tuple #[.agg (bE k n).1.cells.toArray,.int .i64 (bE k n).2])∧Keeps w w':=by
 by_cases hg:cF k.x k.z=true
 · have hpr:cX k=(bf k.x k.z,0):=by unfold cX;rw[if_pos hg]
   have hpt:=fun W=>ly k h W
   rw[hpr]at hpt
   by_cases hd:k.d=255
   · have e:bE k n=(K0,2):=by unfold bE;rw[if_pos hg,if_pos hd]
     rw[e]
     exact oH k h n 2 (bf k.x k.z,0) (dB h) hpt (.inr (.inl ⟨rfl,hd,rfl⟩)) w
   · by_cases hh:2147483648≤n∧¬k.x=0
     · have e:bE k n=(K0,1):=by unfold bE;rw[if_pos hg,if_neg hd,if_pos hh]
       rw[e]
       exact oH k h n 1 (bf k.x k.z,0) (dB h) hpt (.inr (.inr ⟨rfl,hd,decide_eq_true hh.1,hh.2,rfl⟩)) w
     · by_cases hn:2147483648≤n
       ·exact EY k h n h0 h1 hg hd hh hn w
       · by_cases hx:k.x=0
         ·exact E1 k h n h0 h1 hg hd hh hn hx w
         ·exact I0 k h n h0 h1 hg hd hh hn hx w
 · have hpr:cX k=(bA,3):=by unfold cX;rw[if_neg hg]
   have hpt:=fun W=>ly k h W
   rw[hpr]at hpt
   have e:bE k n=(K0,3):=by unfold bE;rw[if_neg hg]
   rw[e]
   exact oH k h n 3 (bA,3) rfl hpt (.inl ⟨by decide,rfl⟩) w
theorem p6{k:KD}(hk:k.ok){n:Int}(h0:0≤n)(h1:n<4294967296):(bE k n).1.ok:=by
 by_cases hg:k.good
 ·rcases Ao hg n with⟨_,e⟩|⟨_,_,_,e⟩|⟨_,_,_,e⟩|⟨d,_,_,e⟩<;>rw[e]
  ·exact gZ
  ·exact gZ
  ·exact gZ
  ·exact EV hk d h0 h1
 ·unfold bE
  rw[if_neg (show¬cF k.x k.z=true from hg)]
  exact gZ
theorem I3:∀(l:List Int) (k:KD),k.ok→Nums l→(AI k l).1.ok
 |[],_,hk,_=>hk
 |n::l,k,hk,hl=>by
  obtain⟨n0,n1⟩:=hl n List.mem_cons_self
  unfold AI
  split
  ·exact I3 l _ (p6 hk n0 n1) (fun m hm=>hl m (List.mem_cons_of_mem _ hm))
  ·exact gZ
theorem I4{k:KD}(hk:k.ok){l:List Int}(hl:Nums l):(iZ k l).1.ok:=by
 unfold iZ
 split
 ·exact I3 l k hk hl
 ·exact gZ
theorem drop_at{l:List Int}{i:Nat}(h:i<l.length):l.drop i=l.getD i 0::l.drop (i+1):=by
 rw[List.drop_eq_getElem_cons h]
 simp[List.getD,h]
theorem nD{w:World}{a:Option Addr}{n c:Nat}{l:List Int}(hr:Rd w 1 (.slice a n c) n (l.map (Value.int .u32))):∀i,i<n→∃g off,a=some ⟨g,off,none⟩∧∀W,Keeps w W→W.cell? ⟨g,off+i,none⟩=some (.int .u32 (l.getD i 0)):=fun i hi=>by
 have hln:l.length=n:=by have :=hr.1;simpa using this
 obtain⟨_,a',cap',e,h2,h3,h4,h5⟩:=hr
 cases e
 cases a with
 |none=>have :=(h4 rfl).1;omega
 |some ad=>
  obtain⟨g,off,rfl,hg,hrow⟩:=h5 ad rfl (by omega)
  exact⟨g,off,rfl,fun W hk=>(hrow.keeps hk).int i (by omega)⟩
theorem E3(k:KD)(h:k.ok)(a:Option Addr)(n c:Nat)(l:List Int)(w:World)(hr:Rd w 1 (.slice a n c) n (l.map (Value.int .u32)))(hl:Nums l):
 Calls Tryz.prog 16 #[.agg k.cells.toArray,.slice a n c] w fun e w' =>e= .returned (.tuple #[.agg (iZ k l).1.cells.toArray,.int .i64 (iZ k l).2])∧Keeps w w':=by
 have HC:=ae (nD hr)
 have vV:=ae (show l.length=n by have :=hr.1;simpa using this)
 have hnx:n≤9223372036854775807:=by
  obtain⟨_,a',c',e,h2,h3,_⟩:=hr
  cases e
  unfold maxLen at h3
  omega
 have Un:=ae hl
 have uA:=ae (fun W=>Cd k h W)
 have ZK:=ae h.sz
 have Z0:=ae gZ.sz
 have lL:=ae h
 obtain⟨R,hR⟩:∃R,R=AI k l:=⟨_,rfl⟩
 have HRR:=ae hR
 have hcase:(cF k.x k.z=true∧R=iZ k l)∨(cF k.x k.z=false∧iZ k l=(K0,3)):=by
  unfold iZ
  by_cases hg:cF k.x k.z=true
  ·exact .inl ⟨hg,by rw[hR];exact(if_pos hg).symm⟩
  ·exact .inr ⟨by simpa using hg,if_neg hg⟩
 have It:=ae h.len
 clear hr hl h hR
 generalize iZ k l=WV at *
 rcases hcase with⟨hg,rfl⟩|⟨hg,rfl⟩
 all_goals
  rw[hg]at uA
  clear hg
  obtain⟨KC,NK⟩:∃KC,KC=k.cells:=⟨_,rfl⟩
  rw[←NK]at uA ZK It⊢
  have B4:=ae NK
  clear NK
  go_enter Tryz.func16,Tryz.ntmps16
  go_upto_region 1 with(fail)
  refine bu (fun W hk hr hr2 hs=> ?_)
  obtain⟨p,hp⟩:∃p,p=w.heap.size:=⟨_,rfl⟩
  rw[←hp]at hr hr2 hs⊢
  have hkp:w.heap.size≤p:=by omega
  have HR:=ae (show Row W p 0 KC from by simpa using hr);have HK:=ae hk
  have aV:=ae (show Row W (p+1) 0 K0.cells from hr2)
  clear hp hk hr hr2 hs
 · go_upto_region 3 with(first |(refine aj rfl 29 (.tmp 2) rfl p 0 rfl _ _ HR.o Tryz.underlying29 rfl ZK.o ?_)|(go_at_call 35;refine(uA.o _).mono ?_;rintro e W1 ⟨rfl,hk1⟩;have bw:=ae hk1;clear hk1))
   have HR1:=ae (HR.o.keeps bw.o);have wC:=ae (aV.o.keeps bw.o);have aA:=ae (HK.o.trans bw.o)
   clear HR aV HK bw
   go_wp2
   go_loopw [16] (fun ci wr=>∃(i:Nat) (kc:KD),i≤n∧ci= .int .i64 i∧Hid (Keeps w wr)∧Hid (Row wr p 0 kc.cells)∧Hid (Row wr (p+1) 0 K0.cells)∧Hid kc.ok∧Hid (R=AI kc (l.drop i))) (fun ci _=>(n -intOf ci).toNat)
   case atStart=>exact⟨0,k,by omega,rfl,aA,ae (by have :=HR1.o;rw[B4.o]at this;exact this),wC,lL,ae (by rw[HRR.o];rfl)⟩
   case round=>
    obtain⟨i,kc,hi,rfl,nc,uk,Kx,Cl,Ky⟩:=hrel
    by_cases hlt:i<n
    ·obtain⟨g,off,rfl,hc⟩:=HC.o i hlt
     have cz:=hc wr nc.o
     have hx:=drop_at (l:=l) (i:=i) (by rw[vV.o];exact hlt)
     have hxm:l.getD i 0∈l:=by
      have hil:i<l.length:=by rw[vV.o];exact hlt
      have :l.getD i 0=l[i]:=by simp[List.getD,hil]
      rw[this];exact List.getElem_mem hil
     obtain⟨x0,x1⟩:=Un.o _ hxm
     have Kz:=ae (show R=AI kc (l.getD i 0::l.drop (i+1)) by rw[←hx];exact Ky.o)
     have hst:=fun W=>wi kc Cl.o (l.getD i 0) x0 x1 W
     have hso:=p6 Cl.o x0 x1
     have FC:=ae (show(bE kc (l.getD i 0)).1=(bE kc (l.getD i 0)).1∧AI kc (l.getD i 0::l.drop (i+1))=if(bE kc (l.getD i 0)).2=0 then AI (bE kc (l.getD i 0)).1 (l.drop (i+1))else(K0,(bE kc (l.getD i 0)).2)from⟨rfl,rfl⟩)
     clear hx hxm x0 x1 hc
     generalize bE kc (l.getD i 0)=SV at *
     generalize l.getD i 0=x at *
     have HST:=ae hst;have Uo:=ae hso
     have ZC:=ae Cl.o.sz;have ZS:=ae hso.sz;have p7:=ae (hso.len)
     clear hst hso
     go_upto_region 6 with(fail)
     clear cz
     go_upto_region 7 with(first |(refine aj rfl 29 (.tmp 2) rfl p 0 rfl _ _ uk.o Tryz.underlying29 rfl ZC.o ?_)|(go_at_call 7;refine(HST.o _).mono ?_;rintro e W2 ⟨rfl,hk2⟩;have aq:=ae hk2;clear hk2)|(refine wpList_store_row rfl 29 (.tmp 8) (.tmp 24) rfl W2.heap.size 0 rfl K0.cells SV.1.cells rfl (Row.new _ _ _ rfl) (by rw[p7.o];rfl) ZS.o SV.1.one ?_;intro W3 hr3 hc3;have HR3:=ae hr3;have bS:=ae (ag (ah (Keeps.refl W2) _) hc3 (Nat.le_refl _));clear hr3 hc3))
     have HKK:=ae (aq.o.trans bS.o)
     have Re:=ae (nc.o.trans HKK.o)
     have cV:=ae (uk.o.keeps HKK.o);have Rf:=ae (Kx.o.keeps HKK.o)
     have hq:¬W2.heap.size=p∧¬W2.heap.size=p+1:=by
      have h1:=uk.o.lt (fun e=>by have :=Cl.o.len;rw[e]at this;cases this);have h2:=Kx.o.lt (fun e=>by have :=gZ.len;rw[e]at this;cases this);have h3:=aq.o.size
      omega
     have HQ:=ae hq
     clear aq bS HKK uk Kx hq
     generalize W2.heap.size=q at *
     by_cases her:SV.2=0
     · have HG2:=ae (show R=AI SV.1 (l.drop (i+1)) by rw[Kz.o,FC.o.2,if_pos her])
       have hne:(SV.2 !=0)=false:=by rw[her];rfl
       clear her Kz FC HST
       have EB:=ae (show kc.cells.length=SV.1.cells.length by rw[Cl.o.len,p7.o])
       go_wp2_with (first |(refine aj rfl 29 (.tmp 8) rfl q 0 rfl _ _ HR3.o Tryz.underlying29 rfl ZS.o ?_)|(refine wpList_store_row rfl 29 (.tmp 2) (.tmp 30) rfl p 0 rfl kc.cells SV.1.cells rfl cV.o EB.o.symm ZS.o SV.1.one ?_;intro W4 hr4 hc4;have HR4:=ae hr4;have ky:=ae hc4;clear hr4 hc4))
       go_roundw
       case rel=>exact⟨i+1,SV.1,by omega,by go_num,ae (ag Re.o ky.o (by omega)),HR4,ae (Rf.o.aG ky.o (by omega)),Uo,HG2⟩
       case measure=>simp[intOf];omega
     · have HG2:=ae (show R=(K0,SV.2) by rw[Kz.o,FC.o.2,if_neg her])
       have hne:(SV.2 !=0)=true:=by rw[bne_iff_ne];exact her
       clear her Kz FC HST Ky
       go_wp2_with (first |(refine aW (by kernel_rfl) 29 _ rfl [] ?_ _ ex ?_;focus rfl)|(refine wpList_store_row rfl 29 (.tmp 4) (.tmp 28) rfl (p+1) 0 rfl K0.cells K0.cells rfl Rf.o rfl Z0.o K0.one ?_;intro w9 aR aJ;have H9:=ae aR;have bK:=ae aJ;clear aR aJ))
       rw[HG2.o]
       exact bodyPost_ret (al (p:=4) (t:=5) (ty:=29) rfl _ _ (p+1) 0 _ _ _ rfl rfl H9.o Tryz.underlying29 rfl Z0.o) rfl ⟨rfl,ag Re.o bK.o (by omega)⟩
    ·obtain rfl:i=n:=by omega
     have HG2:=ae (show R=(kc,0) by rw[Ky.o,List.drop_eq_nil_of_le (by rw[vV.o];exact Nat.le_refl _)];rfl)
     have ZC:=ae Cl.o.sz;have p7:=ae Cl.o.len
     clear Ky
     go_wp2_with (first |(refine aj rfl 29 (.tmp 2) rfl p 0 rfl _ _ uk.o Tryz.underlying29 rfl ZC.o ?_)|(refine wpList_store_row rfl 29 (.tmp 4) (.tmp 32) rfl (p+1) 0 rfl K0.cells kc.cells rfl Kx.o (by rw[p7.o];rfl) ZC.o kc.one ?_;intro w9 aR aJ;have H9:=ae aR;have bK:=ae aJ;clear aR aJ))
     rw[HG2.o]
     exact bodyPost_ret (al (p:=4) (t:=5) (ty:=29) rfl _ _ (p+1) 0 _ _ _ rfl rfl H9.o Tryz.underlying29 rfl ZC.o) rfl ⟨rfl,ag nc.o bK.o (by omega)⟩
 · go_wp2_with (first |(refine aj rfl 29 (.tmp 2) rfl p 0 rfl _ _ HR.o Tryz.underlying29 rfl ZK.o ?_)|(go_at_call 35;refine(uA.o _).mono ?_;rintro e W1 ⟨rfl,hk1⟩;have bw:=ae hk1;have wC:=ae (aV.o.keeps hk1);clear hk1)|(refine aW (by kernel_rfl) 29 _ rfl [] ?_ _ ex ?_;focus rfl)|(refine wpList_store_row rfl 29 (.tmp 4) (.tmp 13) rfl (p+1) 0 rfl K0.cells K0.cells rfl wC.o rfl Z0.o K0.one ?_;intro w9 aR aJ;have H9:=ae aR;have bK:=ae aJ;clear aR aJ))
   exact bodyPost_ret (al (p:=4) (t:=5) (ty:=29) rfl _ _ (p+1) 0 _ _ _ rfl rfl H9.o Tryz.underlying29 rfl Z0.o) rfl ⟨rfl,ag (HK.o.trans bw.o) bK.o (by omega)⟩
theorem Cm{o:Oper}(hg:o.guard=none)(ho:o.op= .alloc 27):fW Tryz.prog o K0.cells:=⟨hg,27,fun a w=>by
 unfold execOp
 simp only[ho]
 go_simp
 exact⟨rfl,by rw[show Tryz.zeroCells27=K0.cells.toArray from by kernel_rfl]⟩⟩
theorem m5(k:KD)(h:k.ok)(n:Int)(er:Int)(hc:(cF k.x k.z=false∧er=3)∨(cF k.x k.z=true∧k.d=255∧er=2)∨(cF k.x k.z=true∧¬k.d=255∧decide (2147483648≤n)=true∧¬k.x=0∧er=1))(w:World):
 Calls Tryz.prog 8 #[.agg k.cells.toArray,.int .u32 n] w fun e w' =>e= .returned (.tuple #[.agg K0.cells.toArray,.int .i64 er])∧Keeps w w':=by
 have uA:=ae (fun W=>rZ k h W)
 have ZK:=ae h.AL
 have Z0:=ae gZ.AL
 have hkl:=h.len
 have RWS:=ae (fun(W:World) (p:Nat) (hr:Row W p 0 k.cells)=>And.intro (h.rows hr).1 (h.qG hr))
 generalize k.cells=KC at *
 generalize cF k.x k.z=gv at *
 have HC:=ae hc
 clear hc
 go_enter Tryz.func8,Tryz.ntmps8
 go_upto_region 1 with(fail)
 refine bu (fun W hk hr hr2 hs=> ?_)
 obtain⟨p,hp⟩:∃p,p=w.heap.size:=⟨_,rfl⟩
 rw[←hp]at hr hr2 hs⊢
 have hkp:w.heap.size≤p:=by omega
 have HR:=ae (show Row W p 0 KC from by simpa using hr);have HK:=ae hk
 have aV:=ae (show Row W (p+1) 0 K0.cells from hr2)
 clear hp hk hr hr2 hs
 rcases HC.o with⟨rfl,rfl⟩|⟨rfl,h1,rfl⟩|⟨rfl,h1,h2,h3,rfl⟩
 ·clear HC
  go_wp2_with (first |(refine aj rfl 27 (.tmp 2) rfl p 0 rfl _ _ HR.o Tryz.underlying27 rfl ZK.o ?_)|(go_at_call 11;refine(uA.o _).mono ?_;rintro e W1 ⟨rfl,hk1⟩;have bw:=ae hk1;clear hk1)|(refine aW (by kernel_rfl) 27 _ rfl [] ?_ _ fG ?_;focus rfl)|(refine wpList_store_row rfl 27 (.tmp 4) (.tmp 23) rfl (p+1) 0 rfl K0.cells K0.cells rfl (aV.o.keeps bw.o) rfl Z0.o K0.one ?_;intro w9 aR aJ;have H9:=ae aR;have bK:=ae aJ;clear aR aJ))
  exact bodyPost_ret (al (p:=4) (t:=5) (ty:=27) rfl _ _ (p+1) 0 _ _ _ rfl rfl H9.o Tryz.underlying27 rfl Z0.o) rfl ⟨rfl,ag (HK.o.trans bw.o) bK.o (by omega)⟩
 · have hd2:(k.d==255)=true:=by rw[beq_iff_eq];exact h1
   clear h1 HC
   go_upto_region 3 with(first |(refine aj rfl 27 (.tmp 2) rfl p 0 rfl _ _ HR.o Tryz.underlying27 rfl ZK.o ?_)|(go_at_call 11;refine(uA.o _).mono ?_;rintro e W1 ⟨rfl,hk1⟩;have bw:=ae hk1;clear hk1))
   obtain⟨c0,AG⟩:=RWS.o _ _ (HR.o.keeps bw.o)
   go_wp2_with (first |(refine aW (by kernel_rfl) 27 _ rfl [] ?_ _ fG ?_;focus rfl)|(refine wpList_store_row rfl 27 (.tmp 4) (.tmp 27) rfl (p+1) 0 rfl K0.cells K0.cells rfl (aV.o.keeps bw.o) rfl Z0.o K0.one ?_;intro w9 aR aJ;have H9:=ae aR;have bK:=ae aJ;clear aR aJ))
   exact bodyPost_ret (al (p:=4) (t:=5) (ty:=27) rfl _ _ (p+1) 0 _ _ _ rfl rfl H9.o Tryz.underlying27 rfl Z0.o) rfl ⟨rfl,ag (HK.o.trans bw.o) bK.o (by omega)⟩
 · have hd2:(k.d==255)=false:=by rw[beq_eq_false_iff_ne];exact h1
   have hx2:(k.x !=0)=true:=by rw[bne_iff_ne];exact h3
   clear h1 h3 HC
   go_upto_region 3 with(first |(refine aj rfl 27 (.tmp 2) rfl p 0 rfl _ _ HR.o Tryz.underlying27 rfl ZK.o ?_)|(go_at_call 11;refine(uA.o _).mono ?_;rintro e W1 ⟨rfl,hk1⟩;have bw:=ae hk1;clear hk1))
   obtain⟨c0,AG⟩:=RWS.o _ _ (HR.o.keeps bw.o)
   go_wp2_with (first |(refine aW (by kernel_rfl) 27 _ rfl [] ?_ _ fG ?_;focus rfl)|(refine wpList_store_row rfl 27 (.tmp 4) (.tmp 37) rfl (p+1) 0 rfl K0.cells K0.cells rfl (aV.o.keeps bw.o) rfl Z0.o K0.one ?_;intro w9 aR aJ;have H9:=ae aR;have bK:=ae aJ;clear aR aJ))
   exact bodyPost_ret (al (p:=4) (t:=5) (ty:=27) rfl _ _ (p+1) 0 _ _ _ rfl rfl H9.o Tryz.underlying27 rfl Z0.o) rfl ⟨rfl,ag (HK.o.trans bw.o) bK.o (by omega)⟩
theorem wj(k:KD)(h:k.ok)(n:Int)(h0:0≤n)(h1:n<4294967296)(w:World):
 Calls Tryz.prog 8 #[.agg k.cells.toArray,.int .u32 n] w fun e w' =>e= .returned (.tuple #[.agg (bE k n).1.cells.toArray,.int .i64 (bE k n).2])∧Keeps w w':=by
 by_cases hg:cF k.x k.z=true
 · by_cases hd:k.d=255
   ·rw[show bE k n=(K0,2) by unfold bE;rw[if_pos hg,if_pos hd]]
    exact m5 k h n 2 (.inr (.inl ⟨hg,hd,rfl⟩)) w
   · by_cases hh:2147483648≤n∧¬k.x=0
     ·rw[show bE k n=(K0,1) by unfold bE;rw[if_pos hg,if_neg hd,if_pos hh]]
      exact m5 k h n 1 (.inr (.inr ⟨hg,hd,decide_eq_true hh.1,hh.2,rfl⟩)) w
     ·exact I1 k h n h0 h1 hg hd hh w
 ·rw[show bE k n=(K0,3) by unfold bE;rw[if_neg hg]]
  exact m5 k h n 3 (.inl ⟨by simpa using hg,rfl⟩) w
theorem E4(k:KD)(h:k.ok)(a:Option Addr)(n c:Nat)(l:List Int)(w:World)(hr:Rd w 1 (.slice a n c) n (l.map (Value.int .u32)))(hl:Nums l):
 Calls Tryz.prog 17 #[.agg k.cells.toArray,.slice a n c] w fun e w' =>e= .returned (.tuple #[.agg (iZ k l).1.cells.toArray,.int .i64 (iZ k l).2])∧Keeps w w':=by
 have HC:=ae (nD hr)
 have vV:=ae (show l.length=n by have :=hr.1;simpa using this)
 have hnx:n≤9223372036854775807:=by
  obtain⟨_,a',c',e,h2,h3,_⟩:=hr
  cases e
  unfold maxLen at h3
  omega
 have Un:=ae hl
 have uA:=ae (fun W=>rZ k h W)
 have ZK:=ae h.AL
 have Z0:=ae gZ.AL
 have lL:=ae h
 obtain⟨R,hR⟩:∃R,R=AI k l:=⟨_,rfl⟩
 have HRR:=ae hR
 have hcase:(cF k.x k.z=true∧R=iZ k l)∨(cF k.x k.z=false∧iZ k l=(K0,3)):=by
  unfold iZ
  by_cases hg:cF k.x k.z=true
  ·exact .inl ⟨hg,by rw[hR];exact(if_pos hg).symm⟩
  ·exact .inr ⟨by simpa using hg,if_neg hg⟩
 have It:=ae h.len
 clear hr hl h hR
 generalize iZ k l=WV at *
 rcases hcase with⟨hg,rfl⟩|⟨hg,rfl⟩
 all_goals
  rw[hg]at uA
  clear hg
  obtain⟨KC,NK⟩:∃KC,KC=k.cells:=⟨_,rfl⟩
  rw[←NK]at uA ZK It⊢
  have B4:=ae NK
  clear NK
  go_enter Tryz.func17,Tryz.ntmps17
  go_upto_region 1 with(fail)
  refine bu (fun W hk hr hr2 hs=> ?_)
  obtain⟨p,hp⟩:∃p,p=w.heap.size:=⟨_,rfl⟩
  rw[←hp]at hr hr2 hs⊢
  have hkp:w.heap.size≤p:=by omega
  have HR:=ae (show Row W p 0 KC from by simpa using hr);have HK:=ae hk
  have aV:=ae (show Row W (p+1) 0 K0.cells from hr2)
  clear hp hk hr hr2 hs
 · go_upto_region 3 with(first |(refine aj rfl 27 (.tmp 2) rfl p 0 rfl _ _ HR.o Tryz.underlying27 rfl ZK.o ?_)|(go_at_call 11;refine(uA.o _).mono ?_;rintro e W1 ⟨rfl,hk1⟩;have bw:=ae hk1;clear hk1))
   have HR1:=ae (HR.o.keeps bw.o);have wC:=ae (aV.o.keeps bw.o);have aA:=ae (HK.o.trans bw.o)
   clear HR aV HK bw
   go_wp2
   go_loopw [6] (fun ci wr=>∃(i:Nat) (xX:KD),i≤n∧ci= .int .i64 i∧Hid (Keeps w wr)∧Hid (Row wr p 0 xX.cells)∧Hid (Row wr (p+1) 0 K0.cells)∧Hid xX.ok∧Hid (R=AI xX (l.drop i))) (fun ci _=>(n -intOf ci).toNat)
   case atStart=>exact⟨0,k,by omega,rfl,aA,ae (by have :=HR1.o;rw[B4.o]at this;exact this),wC,lL,ae (by rw[HRR.o];rfl)⟩
   case round=>
    obtain⟨i,xX,hi,rfl,nc,uk,Kx,Cl,Ky⟩:=hrel
    by_cases hlt:i<n
    ·obtain⟨g,off,rfl,hc⟩:=HC.o i hlt
     have Yf:=ae (fun W (hk:Keeps wr W)=>hc W (nc.o.trans hk))
     have hx:=drop_at (l:=l) (i:=i) (by rw[vV.o];exact hlt)
     have hxm:l.getD i 0∈l:=by
      have hil:i<l.length:=by rw[vV.o];exact hlt
      have :l.getD i 0=l[i]:=by simp[List.getD,hil]
      rw[this];exact List.getElem_mem hil
     obtain⟨x0,x1⟩:=Un.o _ hxm
     have Kz:=ae (show R=AI xX (l.getD i 0::l.drop (i+1)) by rw[←hx];exact Ky.o)
     have hst:=fun W=>wj xX Cl.o (l.getD i 0) x0 x1 W
     have hso:=p6 Cl.o x0 x1
     have FC:=ae (show(bE xX (l.getD i 0)).1=(bE xX (l.getD i 0)).1∧AI xX (l.getD i 0::l.drop (i+1))=if(bE xX (l.getD i 0)).2=0 then AI (bE xX (l.getD i 0)).1 (l.drop (i+1))else(K0,(bE xX (l.getD i 0)).2)from⟨rfl,rfl⟩)
     clear hx hxm x0 x1 hc
     generalize bE xX (l.getD i 0)=SV at *
     generalize l.getD i 0=x at *
     have HST:=ae hst;have Uo:=ae hso
     have ZC:=ae Cl.o.AL;have ZS:=ae hso.AL;have p7:=ae (hso.len)
     clear hst hso
     go_upto_region 6 with(fail)
     refine k7 11 [9] [0,1,2,3,4,5,6,7,8] [(10,9)] (fun _=>K0.cells) (fun _=>SV.1.cells) (by kernel_rfl) (by kernel_rfl) (by kernel_rfl) (by simp) (fun _ _=>by rw[p7.o];rfl) (by intro i hi;simp only[List.mem_cons,List.not_mem_nil,or_false]at hi;subst hi;exact⟨_,rfl,Cm rfl rfl⟩) ?_
     refine kp (hx:=by intro wS hS;(refine bD 27 (.tmp 2) ?_ p 0 ?_ _ _ (uk.o.keeps hS) Tryz.underlying27 rfl ZC.o)<;>rfl) (h:= ?_)
     iterate 3 refine kp (h:= ?_)
     refine kp (hx:=by(intro wS hS;have cz:=Yf.o wS hS;go_simp)<;>with_reducible rfl) (h:= ?_)
     refine kc (hc:=by exact fun wS hS=>HST.o wS) (h:= ?_)
     iterate 3 refine kp (h:= ?_)
     refine aI fun GG=>⟨?_,?_⟩
     ·intro q hq
      rw[List.mem_singleton]at hq
      subst hq
      refine⟨_,rfl,?_⟩
      simp only[aZ,br,ct,kD,kG,kP,Option.bind_some]
      exact vj 27 (.tmp 7) (.tmp 26) (GG 9) _ rfl rfl rfl rfl ZS.o SV.1.one
     intro W3 hk1 hG
     obtain⟨rp,rq,hd8⟩:=hG 9 (by simp)
     clear hd8
     simp only[aZ,br,ct,kD,kG,kP,Option.bind_some]
     have HR3:=ae (show Row W3 (GG 9) 0 SV.1.cells from rq)
     generalize GG 9=q at *
     clear hG
     have HKK:=ae hk1;clear hk1 rq
     have Re:=ae (nc.o.trans HKK.o)
     have cV:=ae (uk.o.keeps HKK.o);have Rf:=ae (Kx.o.keeps HKK.o)
     have hq:¬q=p∧¬q=p+1:=by
      have h1:=uk.o.lt (fun e=>by have :=Cl.o.len;rw[e]at this;cases this);have h2:=Kx.o.lt (fun e=>by have :=gZ.len;rw[e]at this;cases this)
      omega
     clear HKK uk Kx
     by_cases her:SV.2=0
     · have HG2:=ae (show R=AI SV.1 (l.drop (i+1)) by rw[Kz.o,FC.o.2,if_pos her])
       have hne:(SV.2 !=0)=false:=by rw[her];rfl
       clear her Kz FC HST
       have EB:=ae (show xX.cells.length=SV.1.cells.length by rw[Cl.o.len,p7.o])
       go_wp2_with (first |(refine aj rfl 27 (.tmp 7) rfl q 0 rfl _ _ HR3.o Tryz.underlying27 rfl ZS.o ?_)|(refine wpList_store_row rfl 27 (.tmp 2) (.tmp 32) rfl p 0 rfl xX.cells SV.1.cells rfl cV.o EB.o.symm ZS.o SV.1.one ?_;intro W4 hr4 hc4;have HR4:=ae hr4;have ky:=ae hc4;clear hr4 hc4))
       go_roundw
       case rel=>exact⟨i+1,SV.1,by omega,by go_num,ae (ag Re.o ky.o (by omega)),HR4,ae (Rf.o.aG ky.o (by omega)),Uo,HG2⟩
       case measure=>simp[intOf];omega
     · have HG2:=ae (show R=(K0,SV.2) by rw[Kz.o,FC.o.2,if_neg her])
       have hne:(SV.2 !=0)=true:=by rw[bne_iff_ne];exact her
       clear her Kz FC HST Ky
       go_wp2_with (first |(refine aW (by kernel_rfl) 27 _ rfl [] ?_ _ fG ?_;focus rfl)|(refine wpList_store_row rfl 27 (.tmp 4) (.tmp 30) rfl (p+1) 0 rfl K0.cells K0.cells rfl Rf.o rfl Z0.o K0.one ?_;intro w9 aR aJ;have H9:=ae aR;have bK:=ae aJ;clear aR aJ))
       rw[HG2.o]
       exact bodyPost_ret (al (p:=4) (t:=5) (ty:=27) rfl _ _ (p+1) 0 _ _ _ rfl rfl H9.o Tryz.underlying27 rfl Z0.o) rfl ⟨rfl,ag Re.o bK.o (by omega)⟩
    ·obtain rfl:i=n:=by omega
     have HG2:=ae (show R=(xX,0) by rw[Ky.o,List.drop_eq_nil_of_le (by rw[vV.o];exact Nat.le_refl _)];rfl)
     have ZC:=ae Cl.o.AL;have p7:=ae Cl.o.len
     clear Ky
     go_wp2_with (first |(refine aj rfl 27 (.tmp 2) rfl p 0 rfl _ _ uk.o Tryz.underlying27 rfl ZC.o ?_)|(refine wpList_store_row rfl 27 (.tmp 4) (.tmp 33) rfl (p+1) 0 rfl K0.cells xX.cells rfl Kx.o (by rw[p7.o];rfl) ZC.o xX.one ?_;intro w9 aR aJ;have H9:=ae aR;have bK:=ae aJ;clear aR aJ))
     rw[HG2.o]
     exact bodyPost_ret (al (p:=4) (t:=5) (ty:=27) rfl _ _ (p+1) 0 _ _ _ rfl rfl H9.o Tryz.underlying27 rfl ZC.o) rfl ⟨rfl,ag nc.o bK.o (by omega)⟩
 · go_wp2_with (first |(refine aj rfl 27 (.tmp 2) rfl p 0 rfl _ _ HR.o Tryz.underlying27 rfl ZK.o ?_)|(go_at_call 11;refine(uA.o _).mono ?_;rintro e W1 ⟨rfl,hk1⟩;have bw:=ae hk1;have wC:=ae (aV.o.keeps hk1);clear hk1)|(refine aW (by kernel_rfl) 27 _ rfl [] ?_ _ fG ?_;focus rfl)|(refine wpList_store_row rfl 27 (.tmp 4) (.tmp 12) rfl (p+1) 0 rfl K0.cells K0.cells rfl wC.o rfl Z0.o K0.one ?_;intro w9 aR aJ;have H9:=ae aR;have bK:=ae aJ;clear aR aJ))
   exact bodyPost_ret (al (p:=4) (t:=5) (ty:=27) rfl _ _ (p+1) 0 _ _ _ rfl rfl H9.o Tryz.underlying27 rfl Z0.o) rfl ⟨rfl,ag (HK.o.trans bw.o) bK.o (by omega)⟩
end Go.Proofs.YtlofddoojkeakaaGreatDoor
