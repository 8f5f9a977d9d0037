/- slices.Chunk at bytes: what the range over it is handed: parts of C bytes each, where the whole is a multiple of C.. -/
import Derived.Test.YtlofddoojkeakaaGreatDoorGC6
import Derived.Test.YtlofddoojkeakaaGreatDoorGC8
set_option maxRecDepth 100000
set_option maxHeartbeats 2000000
set_option linter.unusedVariables false
set_option linter.unusedSimpArgs false
namespace Go.Proofs.YtlofddoojkeakaaGreatDoor
open Go Go.RowKit Go.Shelf
def J4(n₀ p:Nat)(W W':World):Prop:=bU (fun k=>k=p∨n₀≤k) W W'
theorem J4.b {n₀ p:Nat}{w:World}(hn:n₀≤w.heap.size)(W:World)(l:Nat)(o o':Obj)(hl:w.heap.size≤l)(h:W.heap[l]? =some o)(_:o.isCells=false)(_:o.isWalk=false):J4 n₀ p W (W.putObj l o'):=
 ⟨rfl,rfl,rfl,by simp,fun k hk hs=>World.putObj_heap_other (fun e=>hs (.inr (by omega)))⟩
theorem J4.cell {n₀ p:Nat}{W W':World}(h:J4 n₀ p W W'){b:Nat}(o:Nat)(h1:b≠p)(h2:b<n₀)(h3:b<W.heap.size):W'.cell? ⟨b,o,none⟩=W.cell? ⟨b,o,none⟩:=by
 have :=h.block b h3 (by rintro(e|e);exact h1 e;omega)
 simp[World.cell?,this]
theorem rV{B k:Nat}(h:k<B):(List.finRange B).take (k+1)=(List.finRange B).take k++[⟨k,h⟩]:=by
 rw[List.take_succ_eq_append_getElem (by simpa using h)]
 simp
theorem Ep(n:Nat)(hn:1≤n)(l Bs Bn n₀ p b off C B cap:Nat)(hC:0<C)(hC2:C≤1024)(hlen:C*B≤140737488351232)(hcap:C*B≤cap)(h1:Bs≠p)(h2:Bn≠p)(h3:Bs<n₀)(h4:Bn<n₀)(J Jx:List (Fin B)→World→Prop)(N₁:Nat)(Tx:AbidesFrom N₁ J)
 (hY:∀pre x W,J pre W→pre.length<B→YieldAt Fence.wide (n -1) Tryz.prog l #[.slice (some ⟨b,off+C*x.val,none⟩) C C] W fun e W' =>
  (e= .returned (.bool true)∧J (pre++[x]) W'∧J4 n₀ p W W')∨(e= .returned (.bool false)∧Jx (pre++[x]) W'))
 (W:World) (hW:n₀≤W.heap.size) (hBs:W.cell? ⟨Bs,0,none⟩=some (.slice (some ⟨b,off,none⟩) (C*B) cap)) (hBn:W.cell? ⟨Bn,0,none⟩=some (.int .i64 C)) (h0:J [] W):
 CallsIn Fence.wide n Tryz.prog 112 #[.func (.yield l) #[] #[],.pointer (some ⟨Bs,0,none⟩),.pointer (some ⟨Bn,0,none⟩)] W fun e W' =>(∃v,e= .returned v)∧
  ((∃ys,ys=List.finRange B∧J ys W')∨(∃pre,(∃k,k≤B∧pre=(List.finRange B).take k)∧Jx pre W')):=by
 refine callsIn_of_wp Tryz.func112 rfl trivial ?_ rfl
 simp only[Tryz.ntmps112,List.size_toArray,List.length_cons,List.length_nil,Nat.reduceAdd,Nat.reduceSub,Array.replicate_succ,Array.replicate_zero,List.push_toArray,List.append_toArray,List.nil_append,List.cons_append]
 gi_wp2
 gi_loopw [4] (fun i wr=>∃k:Nat,k≤B∧i= .int .i64 ((C*k:Nat):Int)∧n₀≤wr.heap.size∧J ((List.finRange B).take k) wr∧wr.cell? ⟨Bs,0,none⟩=some (.slice (some ⟨b,off,none⟩) (C*B) cap)∧wr.cell? ⟨Bn,0,none⟩=some (.int .i64 C))
  (fun i _=>(C*B -intOf i).toNat)
 case atStart=>exact⟨0,by omega,rfl,hW,h0,hBs,hBn⟩
 case round=>
  obtain⟨k,hk,rfl,hsz,hJs,hbs,hbn⟩:=hrel
  by_cases hlt:k<B
  · have hmul:C*k+C≤C*B:=by
     have :=Nat.mul_le_mul_left C (show k+1≤B by omega)
     rwa[Nat.mul_add,Nat.mul_one]at this
    have hmk:C*(k+1)=C*k+C:=by rw[Nat.mul_add,Nat.mul_one]
    have Jc:=fun nq=>hY _ ⟨k,hlt⟩ (wr.drewN nq) (Tx _ _ _ none hJs ⟨rfl,rfl,rfl,Nat.le_refl _,fun _ _ _=>rfl⟩ (fun r e=>by cases e)) (by simp;omega)
    have Je:=ae Jc
    clear Jc
    have WZ:=ae hmk
    clear hmk
    have HB:=ae (fun W' (h:J4 n₀ p wr W')=>And.intro ((h.cell (b:=Bs) 0 h1 h3 (by omega)).trans hbs) ((h.cell (b:=Bn) 0 h2 h4 (by omega)).trans hbn))
    have xP:=ae hsz
    generalize hG:C*k=G at *
    have HG:=ae hG
    clear hG
    generalize hL:C*B=L at *
    have HL:=ae hL
    clear hL
    have hmin:min (C:Int) ((L -G:Nat):Int)=(C:Int):=by omega
    gi_wp2
    refine wpIn_wide.2 ?_
    go_quiet (fail)
    obtain⟨fn,tmps,assign,body,hy,hR⟩:=Je.o nq
    have Vc:=ae (show bU (fun k=>k=p∨n₀≤k) wr (wr.drewN nq)from(bU.refl _ _).drewN nq)
    clear Je hmin
    gi_wp2
    refine hR.mono ?_
    rintro e W3 (⟨rfl,hJ3,hk3⟩|⟨rfl,hJx3⟩)
    · have bS:=ae (HB.o _ (Vc.o.trans hk3))
      have Dd:=ae (Nat.le_trans xP.o (Vc.o.trans hk3).size)
      obtain⟨hb3,hn3⟩:=bS.o
      gi_wp2
      go_roundw
      case rel=>exact⟨k+1,by omega,by rw[WZ.o];go_num,Dd.o,by rw[rV hlt];exact hJ3,hb3,hn3⟩
      case measure=>
       have e:(C:Int)*(B:Int)=(L:Int):=by have :=HL.o;exact_mod_cast this
       simp[intOf];omega
    · gi_wp2
      refine bodyPost_ret (results_none rfl _ _ _) rfl ?_
      exact⟨⟨_,rfl⟩,.inr ⟨_,⟨k+1,by omega,by rw[rV hlt]⟩,hJx3⟩⟩
  ·obtain rfl:k=B:=by omega
   gi_wp2
   go_end0
   rw[List.take_of_length_le (by simp)]at hJs
   exact⟨⟨_,rfl⟩,.inl ⟨_,rfl,hJs⟩⟩
theorem rC(n:Nat)(hn:1≤n)(Bs Bn n₀ p b off C B cap:Nat)(hC:0<C)(hC2:C≤1024)(hlen:C*B≤140737488351232)(hcap:C*B≤cap)(h1:Bs≠p)(h2:Bn≠p)(h3:Bs<n₀)(h4:Bn<n₀)(w:World)(hn₀:n₀≤w.heap.size)
 (hBs:w.cell? ⟨Bs,0,none⟩=some (.slice (some ⟨b,off,none⟩) (C*B) cap)) (hBn:w.cell? ⟨Bn,0,none⟩=some (.int .i64 C)):
 SeqStopsK Fence.wide n Tryz.prog 112 #[.pointer (some ⟨Bs,0,none⟩),.pointer (some ⟨Bn,0,none⟩)] (fun x:Fin B=> #[Value.slice (some ⟨b,off+C*x.val,none⟩) C C]) (J4 n₀ p) (fun ys=>ys=List.finRange B)
  (fun pre=>∃k,k≤B∧pre=(List.finRange B).take k) B w:=fun l J Jx W hW hJ _ hY h0=>
 Ep n hn l Bs Bn n₀ p b off C B cap hC hC2 hlen hcap h1 h2 h3 h4 J Jx _ hJ hY W (Nat.le_trans hn₀ hW.size) ((hW.cell (p:=⟨Bs,0,none⟩) (by show Bs<_;omega)).trans hBs) ((hW.cell (p:=⟨Bn,0,none⟩) (by show Bn<_;omega)).trans hBn) h0
theorem vJ(a:Option Addr)(len cap C:Nat)(hC:0<C)(w:World):
 Calls Tryz.prog 78 #[.slice a len cap,.int .i64 C] w fun e w' =>e= .returned (.func (.func 112) #[] #[.pointer (some ⟨w.heap.size,0,none⟩),.pointer (some ⟨w.heap.size+1,0,none⟩)])∧w' =(w.alloc (.cells #[.slice a len cap] 44)).alloc (.cells #[.int .i64 C] 3):=by
 go_enter Tryz.func78,Tryz.ntmps78
 go_wp2
 go_ret
 exact⟨rfl,rfl⟩
end Go.Proofs.YtlofddoojkeakaaGreatDoor
