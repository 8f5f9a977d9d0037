/- strongboxlaw06.HdkeyPublic: the walk. No condition. | What a row reads at a type: fields, elements, items, integers, arrays of integers. No condition. | From what a row says of an argument to what the walks ask: a key, a slice of numbers of 32 bits. No condition. -/
import Derived.Test.YtlofddoojkeakaaDoorGE5
import Derived.Test.YtlofddoojkeakaaDoorGE2
import Derived.Test.YtlofddoojkeakaaDoorGC6
import Derived.SizedLaws
import Derived.Deep.Slices
import Derived.Test.YtlofddoojkeakaaDoorGE3
namespace Go.Proofs.YtlofddoojkeakaaDoor
set_option linter.unusedVariables false
set_option linter.unusedSimpArgs false
open Go Go.RowKit Cv

theorem rd_cut4 {k : IntKind} {W : World} {a : Option Addr} {n cap : Nat} {l : List Int} (h : Rd W 1 (.slice a n cap) n (l.map (Value.int k))) (m : Nat) (hm : m ≤ n) : Rd W 1 (.slice a m cap) m ((l.take m).map (Value.int k)) := by
  have hl : l.length = n := by have := h.1; simpa using this
  obtain ⟨_, a', cap', e, h2, h3, h4, h5⟩ := h
  cases e
  refine ⟨by simp; omega, a, cap, rfl, by omega, h3, fun e => by have := h4 e; omega, fun ad e hn => ?_⟩
  obtain ⟨g, off, e2, hg, hr⟩ := h5 ad e (by omega)
  exact ⟨g, off, e2, hg, by rw [List.map_take]; exact hr.take m⟩
set_option maxRecDepth 100000 in
set_option maxHeartbeats 8000000 in
theorem pubs_walk (k A P B Q : KD) (eA eP eB eQ : Int) (hk : k.ok) (hA : A.ok) (hP : P.ok) (hB : B.ok) (hQ : Q.ok) (a : Option Addr) (n0 n c : Nat) (l : List Int) (w : World) (hr : Rd w 1 (.slice a n c) n (l.map (Value.int .u32))) (hl : Nums l)
    (hn : (3 < n0 ∧ n = 3) ∨ (¬ 3 < n0 ∧ n0 = n)) (hcap : n0 ≤ c) (hcx : c ≤ 9223372036854775807)
    (h1 : ∀ v W, Rd W 1 v n (l.map (Value.int .u32)) → Calls Tryd.prog 6 #[.agg k.cells.toArray, v] W fun e w' => e = .returned (.tuple #[.agg A.cells.toArray, .int .i64 eA]) ∧ Keeps W w')
    (h2 : ∀ W, Calls Tryd.prog 7 #[.agg k.cells.toArray] W fun e w' => e = .returned (.tuple #[.agg P.cells.toArray, .int .i64 eP]) ∧ Keeps W w')
    (h3 : ∀ v W, Rd W 1 v n (l.map (Value.int .u32)) → Calls Tryd.prog 6 #[.agg P.cells.toArray, v] W fun e w' => e = .returned (.tuple #[.agg B.cells.toArray, .int .i64 eB]) ∧ Keeps W w')
    (h4 : ∀ W, Calls Tryd.prog 7 #[.agg A.cells.toArray] W fun e w' => e = .returned (.tuple #[.agg Q.cells.toArray, .int .i64 eQ]) ∧ Keeps W w')
    (hc : (¬ eP = 0 ∧ eA = 3) ∨ (eP = 0 ∧ ¬ eA = 0 ∧ ¬ eB = 0) ∨ (eP = 0 ∧ eA = 0 ∧ ((∃ x ∈ l, hardN x) → eB = 1) ∧ ((∀ x ∈ l, ¬ hardN x) → eB = 0 ∧ eQ = 0 ∧ B = Q))) :
    Calls Tryd.prog 3 #[.agg k.cells.toArray, .slice a n0 c] w fun e w' => e = .returned (.bool true) ∧ Keeps w w' := by
  have hnx : n ≤ 3 := by omega
  have HRD := Lib.hid (fun W (hk : Keeps w W) => hr.keeps hk)
  have HAW := Lib.hid awake_any
  have HOW := Lib.hid (fun W => own_any k hk W)
  have H1 := Lib.hid h1; have H2 := Lib.hid h2; have H3 := Lib.hid h3; have H4 := Lib.hid h4
  have HCS := Lib.hid hc
  have HLN := Lib.hid (show l.length = n by have := hr.1; simpa using this)
  have HCL := Lib.hid (u32_cells hr)
  have ZK := Lib.hid hk.sz; have ZR := Lib.hid (show (Tryd.prog.info? 27).map (·.size) = some k.cells.length by rw [hk.len]; kernel_rfl)
  have LK := Lib.hid (show k.cells.length = K0.cells.length from hk.len); have OK := Lib.hid k.one
  have ZA := Lib.hid hA.sz; have LA := Lib.hid (show A.cells.length = K0.cells.length from hA.len); have OA := Lib.hid A.one
  have ZP := Lib.hid hP.sz; have LP := Lib.hid (show P.cells.length = K0.cells.length from hP.len); have OP := Lib.hid P.one
  have ZB := Lib.hid hB.sz; have LB := Lib.hid (show B.cells.length = K0.cells.length from hB.len); have OB := Lib.hid B.one
  have ZQ := Lib.hid hQ.sz; have LQ := Lib.hid (show Q.cells.length = K0.cells.length from hQ.len); have OQ := Lib.hid Q.one
  have HEQ := Lib.hid (fun (e : B = Q) W => (show (Op.equalIn 10000 30 (.agg B.cells.toArray) (.agg Q.cells.toArray)).run Tryd.prog W = .ok true W by rw [e]; exact key_equal W Q hQ))
  clear hr h1 h2 h3 h4 hc hk hA hP hB hQ
  generalize k.cells = KC at *
  generalize A.cells = AC at *
  generalize P.cells = PC at *
  generalize B.cells = BC at *
  generalize Q.cells = QC at *
  rcases hn with ⟨hb, he⟩ | ⟨hb, he2⟩
  all_goals
    first | (have he3 := he2.symm; subst he3) | (have HE5 := Lib.hid he; clear he)
    go_enter Tryd.func3, Tryd.ntmps3
    go_upto_region 1 with (fail)
    refine cu_rows1 (fun W hk hr hs => ?_)
    have HR0 := Lib.hid (show Row W w.heap.size 0 KC from by simpa using hr); have HK0 := Lib.hid hk
    obtain ⟨p, hp⟩ : ∃ p, p = w.heap.size := ⟨_, rfl⟩
    rw [← hp] at HR0 ⊢
    clear hk hr hs hp
    go_upto_region 5 with (go_at_call 4; refine (HAW.out _).mono ?_; rintro e W1 ⟨rfl, hk1⟩; have HK1 := Lib.hid hk1; clear hk1)
    try rw [← HE5.out]
    clear hb
    have HR1 := Lib.hid (HR0.out.keeps HK1.out)
    have HKA := Lib.hid (HK0.out.trans HK1.out)
    clear HR0 HK0 HK1
    go_upto_region 6 with (first
      | (refine wpList_load_at rfl 27 (.tmp 2) rfl p 0 rfl _ _ HR1.out Tryd.underlying27 rfl ZR.out ?_)
      | (go_at_call 5; refine (HOW.out _).mono ?_; rintro e W2 ⟨rfl, hk2⟩; have HK2 := Lib.hid hk2; clear hk2)
      | (refine wpList_store_row rfl 30 (.tmp 5) (.tmp 24) rfl W2.heap.size 0 rfl K0.cells KC rfl (Row.new _ _ _ rfl) LK.out ZK.out OK.out ?_; intro W3 hr3 hc3; have HRX := Lib.hid hr3; have HK3 := Lib.hid (nm_keeps_chg (nm_keeps_alloc (Keeps.refl W2) _) hc3 (Nat.le_refl _)); clear hr3 hc3))
    generalize W2.heap.size = px at *
    have HKB := Lib.hid ((HKA.out.trans HK2.out).trans HK3.out)
    clear HK2 HK3 HKA HR1
    go_upto_region 7 with (first
      | (refine wpList_load_at rfl 30 (.tmp 5) rfl px 0 rfl _ _ HRX.out Tryd.underlying30 rfl ZK.out ?_)
      | (go_at_call 6; refine (H1.out _ _ (HRD.out _ HKB.out)).mono ?_; rintro e W4 ⟨rfl, hk2⟩; have HK4 := Lib.hid hk2; clear hk2)
      | (refine wpList_store_row rfl 30 (.tmp 6) (.tmp 29) rfl W4.heap.size 0 rfl K0.cells AC rfl (Row.new _ _ _ rfl) LA.out ZA.out OA.out ?_; intro W5 hr3 hc3; have HRA := Lib.hid hr3; have HK5 := Lib.hid (nm_keeps_chg (nm_keeps_alloc (Keeps.refl W4) _) hc3 (Nat.le_refl _)); clear hr3 hc3))
    generalize W4.heap.size = pa at *
    have HK45 := Lib.hid (HK4.out.trans HK5.out)
    have HRX5 := Lib.hid (HRX.out.keeps HK45.out)
    have HKC := Lib.hid (HKB.out.trans HK45.out)
    clear HK4 HK5 HK45 HKB HRX
    go_upto_region 8 with (first
      | (refine wpList_load_at rfl 30 (.tmp 5) rfl px 0 rfl _ _ HRX5.out Tryd.underlying30 rfl ZK.out ?_)
      | (go_at_call 7; refine (H2.out _).mono ?_; rintro e W6 ⟨rfl, hk2⟩; have HK6 := Lib.hid hk2; clear hk2)
      | (refine wpList_store_row rfl 30 (.tmp 8) (.tmp 34) rfl W6.heap.size 0 rfl K0.cells PC rfl (Row.new _ _ _ rfl) LP.out ZP.out OP.out ?_; intro W7 hr3 hc3; have HRP := Lib.hid hr3; have HK7 := Lib.hid (nm_keeps_chg (nm_keeps_alloc (Keeps.refl W6) _) hc3 (Nat.le_refl _)); clear hr3 hc3))
    generalize W6.heap.size = pp at *
    have HK67 := Lib.hid (HK6.out.trans HK7.out)
    have HRA7 := Lib.hid (HRA.out.keeps HK67.out)
    have HKD := Lib.hid (HKC.out.trans HK67.out)
    clear HK6 HK7 HK67 HKC HRA HRX5
    rcases HCS.out with ⟨h1, rfl⟩ | ⟨rfl, h1, h2⟩ | ⟨rfl, rfl, h1, h2⟩
    · have hne : (eP != 0) = true := by rw [bne_iff_ne]; exact h1
      clear h1 HCS
      go_wp2
      go_ret
      exact ⟨rfl, HKD.out⟩
    · have hne : (eA != 0) = true := by rw [bne_iff_ne]; exact h1
      have hnb : (eB != 0) = true := by rw [bne_iff_ne]; exact h2
      clear h1 h2 HCS
      go_wp2_with (first
        | (refine wpList_load_at rfl 30 (.tmp 8) rfl pp 0 rfl _ _ HRP.out Tryd.underlying30 rfl ZP.out ?_)
        | (go_at_call 6; refine (H3.out _ _ (HRD.out _ HKD.out)).mono ?_; rintro e W8 ⟨rfl, hk2⟩; have HK8 := Lib.hid hk2; clear hk2)
        | (refine wpList_store_row rfl 30 (.tmp 10) (.tmp 44) rfl W8.heap.size 0 rfl K0.cells BC rfl (Row.new _ _ _ rfl) LB.out ZB.out OB.out ?_; intro W9 hr3 hc3; have HRB := Lib.hid hr3; have HK9 := Lib.hid (nm_keeps_chg (nm_keeps_alloc (Keeps.refl W8) _) hc3 (Nat.le_refl _)); clear hr3 hc3))
      go_ret
      exact ⟨rfl, (HKD.out.trans HK8.out).trans HK9.out⟩
    · have HHD := Lib.hid h1; have HSF := Lib.hid h2
      clear h1 h2 HCS
      go_upto_region 11 with (first
        | (refine wpList_load_at rfl 30 (.tmp 8) rfl pp 0 rfl _ _ HRP.out Tryd.underlying30 rfl ZP.out ?_)
        | (go_at_call 6; refine (H3.out _ _ (HRD.out _ HKD.out)).mono ?_; rintro e W8 ⟨rfl, hk2⟩; have HK8 := Lib.hid hk2; clear hk2)
        | (refine wpList_store_row rfl 30 (.tmp 10) (.tmp 44) rfl W8.heap.size 0 rfl K0.cells BC rfl (Row.new _ _ _ rfl) LB.out ZB.out OB.out ?_; intro W9 hr3 hc3; have HRB := Lib.hid hr3; have HK9 := Lib.hid (nm_keeps_chg (nm_keeps_alloc (Keeps.refl W8) _) hc3 (Nat.le_refl _)); clear hr3 hc3))
      generalize W8.heap.size = pb at *
      have HK89 := Lib.hid (HK8.out.trans HK9.out)
      have HRA9 := Lib.hid (HRA7.out.keeps HK89.out)
      have HKE := Lib.hid (HKD.out.trans HK89.out)
      clear HK8 HK9 HK89 HKD HRA7 HRP
      go_wp2
      go_loopw [52] (fun ci wr => ∃ i : Nat, i ≤ n ∧ ci = .int .i64 i ∧ Hid (wr = W9) ∧ Hid (∀ j, j < i → ¬ hardN (l.getD j 0))) (fun ci _ => (n - intOf ci).toNat)
      case atStart => exact ⟨0, by omega, rfl, Lib.hid rfl, Lib.hid (fun j hj => by omega)⟩
      case round =>
        obtain ⟨i, hi, rfl, HWR, HNO⟩ := hrel
        obtain rfl := HWR.out
        clear HWR
        by_cases hlt : i < n
        · obtain ⟨g, off, rfl, hc⟩ := HCL.out i hlt
          have cz := hc _ HKE.out
          have hxm : l.getD i 0 ∈ l := by
            have hil : i < l.length := by rw [HLN.out]; exact hlt
            have : l.getD i 0 = l[i] := by simp [List.getD, hil]
            rw [this]; exact List.getElem_mem hil
          have HXM := Lib.hid hxm
          clear hc hxm
          obtain ⟨x, hx⟩ : ∃ x, x = l.getD i 0 := ⟨_, rfl⟩
          rw [← hx] at cz HXM
          have HX := Lib.hid hx
          clear hx
          by_cases hh : 2147483648 ≤ x
          · have h1 := HHD.out ⟨x, HXM.out, hh⟩
            subst h1
            go_wp2
            go_ret
            exact ⟨rfl, HKE.out⟩
          · have HHH := Lib.hid hh
            go_wp2
            go_roundw
            case rel => exact ⟨i + 1, by omega, by go_num, Lib.hid (by first | trivial | rfl), Lib.hid fun j hj => by
              by_cases hji : j = i
              · subst hji; rw [← HX.out]; exact HHH.out
              · exact HNO.out j (by omega)⟩
            case measure => simp [intOf]; omega
        · obtain rfl : i = n := by omega
          have hall : ∀ x ∈ l, ¬ hardN x := fun x hx => by
            obtain ⟨j, hj, e⟩ := List.getElem_of_mem hx
            have := HNO.out j (by rw [← HLN.out]; exact hj)
            rwa [show l.getD j 0 = x by simp [List.getD, hj, e]] at this
          obtain ⟨rfl, rfl, hbq⟩ := HSF.out hall
          have HE := Lib.hid (HEQ.out hbq)
          clear hall hbq HNO HSF HHD
          go_upto_region 20 with (first
            | (refine wpList_load_at rfl 30 (.tmp 6) rfl pa 0 rfl _ _ HRA9.out Tryd.underlying30 rfl ZA.out ?_)
            | (go_at_call 7; refine (H4.out _).mono ?_; rintro e W10 ⟨rfl, hk2⟩; have HK10 := Lib.hid hk2; clear hk2)
            | (refine wpList_store_row rfl 30 (.tmp 14) (.tmp 64) rfl W10.heap.size 0 rfl K0.cells QC rfl (Row.new _ _ _ rfl) LQ.out ZQ.out OQ.out ?_; intro W11 hr3 hc3; have HRQ := Lib.hid hr3; have HK11 := Lib.hid (nm_keeps_chg (nm_keeps_alloc (Keeps.refl W10) _) hc3 (Nat.le_refl _)); clear hr3 hc3))
          generalize W10.heap.size = pq at *
          have HKF := Lib.hid (HK10.out.trans HK11.out)
          have HRBF := Lib.hid (HRB.out.keeps HKF.out)
          go_wp2_with (first
            | (refine cu_load (by kernel_rfl) 30 (.tmp 10) rfl pb 0 rfl _ _ HRBF.out Tryd.underlying30 rfl ZB.out ?_)
            | (refine cu_load (by kernel_rfl) 30 (.tmp 14) rfl pq 0 rfl _ _ HRQ.out Tryd.underlying30 rfl ZQ.out ?_)
            | (refine cu_eql (by kernel_rfl) 30 30 (.tmp 73) (.tmp 74) rfl _ _ rfl rfl _ HE.out (by kernel_rfl) ?_))
          go_ret
          exact ⟨by first | rfl | exact ret_bool (by simp), HKE.out.trans HKF.out⟩
theorem pubs_any (k : KD) (hk : k.ok) (a : Option Addr) (n0 c : Nat) (l0 : List Int) (w : World) (hr : Rd w 1 (.slice a n0 c) n0 (l0.map (Value.int .u32))) (hl : Nums l0) :
    Calls Tryd.prog 3 #[.agg k.cells.toArray, .slice a n0 c] w fun e w' => e = .returned (.bool true) ∧ Keeps w w' := by
  have hcc : n0 ≤ c ∧ c ≤ 9223372036854775807 := by
    obtain ⟨_, a', c', e, h2, h3, _⟩ := hr
    cases e
    unfold maxLen at h3
    exact ⟨h2, by omega⟩
  have hl0 : l0.length = n0 := by have := hr.1; simpa using this
  have hsp : ∃ (l : List Int) (n : Nat), Rd w 1 (.slice a n c) n (l.map (Value.int .u32)) ∧ Nums l ∧ ((3 < n0 ∧ n = 3) ∨ (¬ 3 < n0 ∧ n0 = n)) := by
    by_cases h3 : 3 < n0
    · exact ⟨l0.take 3, 3, rd_cut4 hr 3 (by omega), fun x hx => hl x (List.mem_of_mem_take hx), .inl ⟨h3, rfl⟩⟩
    · exact ⟨l0, n0, hr, hl, .inr ⟨h3, rfl⟩⟩
  obtain ⟨l, n, hrd, hln, hcs⟩ := hsp
  have hw := fun (k : KD) (h : k.ok) v W (hv : Rd W 1 v n (l.map (Value.int .u32))) => (show Calls Tryd.prog 6 #[.agg k.cells.toArray, v] W fun e w' => e = .returned (.tuple #[.agg (walkV k l).1.cells.toArray, .int .i64 (walkV k l).2]) ∧ Keeps W w' by
    obtain ⟨a', c', rfl⟩ : ∃ a c, v = .slice a n c := by obtain ⟨_, a, c, e, _⟩ := hv; exact ⟨a, c, e⟩
    exact kwalk_any k h a' n c' l W hv hln)
  refine pubs_walk k (walkV k l).1 (publicV k).1 (walkV (publicV k).1 l).1 (publicV (walkV k l).1).1 (walkV k l).2 (publicV k).2 (walkV (publicV k).1 l).2 (publicV (walkV k l).1).2 hk (walkV_ok hk hln) (publicV_ok hk) (walkV_ok (publicV_ok hk) hln) (publicV_ok (walkV_ok hk hln)) a n0 n c l w hrd hln hcs hcc.1 hcc.2 (hw k hk) (fun W => public_k k hk W) (hw _ (publicV_ok hk)) (fun W => public_k _ (walkV_ok hk hln) W) ?_
  by_cases hg : k.good
  · have e1 : publicV k = (pubK k, 0) := if_pos hg
    have e2 : walkV k l = goV k l := if_pos hg
    rw [e1, e2]
    have e3 : walkV (pubK k) l = goV (pubK k) l := if_pos (pubK_good hk hg)
    rw [e3]
    refine .inr ?_
    rcases pubK_go l k hk hg hln with ⟨h1, h2⟩ | ⟨h1, h2, h3, _⟩ | ⟨h1, h2, h3, h4, h5⟩
    · exact .inl ⟨rfl, h1, h2⟩
    · refine .inr ⟨rfl, h1, fun _ => h3, fun h => ?_⟩
      obtain ⟨x, hx, hh⟩ := h2
      exact absurd hh (h x hx)
    · refine .inr ⟨rfl, h1, fun ⟨x, hx, hh⟩ => absurd hh (h2 x hx), fun _ => ?_⟩
      have e4 : publicV (goV k l).1 = (pubK (goV k l).1, 0) := if_pos h5
      rw [h3, e4]
      exact ⟨rfl, rfl, rfl⟩
  · have e1 : publicV k = (K0, 3) := if_neg hg
    have e2 : walkV k l = (K0, 3) := if_neg hg
    rw [e1, e2]
    exact .inl ⟨by decide, rfl⟩
end Go.Proofs.YtlofddoojkeakaaDoor
namespace Go.Proofs.YtlofddoojkeakaaDoor
set_option linter.unusedVariables false
set_option linter.unusedSimpArgs false
open Go Go.RowKit Go.ChangeShapes Go.WideShapes Go.ChangeAt Go.Deep

theorem pick_lt {α : Type} [Inhabited α] {m : Nat} {p : Nat → α → Prop} (h : ∀ i, i < m → ∃ v, p i v) : ∃ V : Nat → α, ∀ i, i < m → p i (V i) := by
  classical
  exact ⟨fun i => if h' : i < m then (h i h').choose else default, fun i hi => by simp only [hi, dite_true]; exact (h i hi).choose_spec⟩
section
variable {H : Type} {enc : TypeId × Value → H} {W : World} {ps : List MemPlace}
/-- what was read there, its places among ps, its weights in reach -/
structure Trd (enc : TypeId × Value → H) (W : World) (ps : List MemPlace) (n : Nat) (t : TypeId) (cs : List Value) (x : DataW H × List MemPlace) : Prop where
  rd : DataW.trod enc Tryd.prog W 0 (fun _ => true) true n t cs = some x
  sub : ∀ p ∈ x.2, p ∈ ps
  lite : ∀ k ∈ x.1.weights Tryd.prog t, k ≤ reachBytes
theorem weightsAll_mem {P : Program} {e : TypeId} {l : List (DataW H)} {d : DataW H} (hd : d ∈ l) {k : Nat} (hk : k ∈ d.weights P e) : k ∈ DataW.weightsAll P e l := by
  induction l with
  | nil => cases hd
  | cons a r ih =>
    simp only [DataW.weightsAll, List.mem_append]
    rcases List.mem_cons.1 hd with rfl | h
    · exact .inl hk
    · exact .inr (ih h)
theorem Trd.fields {n : Nat} {t : TypeId} {cs : List Value} {x : DataW H × List MemPlace} {fs : Array Field} (h : Trd enc W ps n t cs x) (ht : Tryd.prog.underlying t = some (.struct fs)) :
    ∃ m, cs.length = Tryd.prog.cellsOf t ∧ ∀ (j : Nat) (f : Field), fs[j]? = some f → ∃ y, Trd enc W ps m f.type ((cs.drop f.offset).take (Tryd.prog.cellsOf f.type)) y := by
  obtain ⟨xs, m, -, hx, hl, hxl, hf⟩ := DataW.trod_struct ht h.rd
  refine ⟨m, hl, fun j f hj => ?_⟩
  have hjl : j < fs.size := (Array.getElem?_eq_some_iff.1 hj).1
  have hy : xs[j]? = some (xs[j]'(by omega)) := List.getElem?_eq_getElem (by omega)
  have hs := h.sub; have hw := h.lite
  rw [hx] at hs hw
  refine ⟨_, (hf j f hj).trans hy, fun p hp => hs p (List.mem_flatMap.2 ⟨_, List.getElem_mem _, hp⟩), fun k hk => hw k ?_⟩
  simp only [DataW.weights, ht]
  exact DataW.weights_mem_each (j := j) (by rw [List.getElem?_map, Array.getElem?_toList, hj]; rfl) (by rw [List.getElem?_map, hy]; rfl) k hk
theorem Trd.elems {n c : Nat} {t e : TypeId} {cs : List Value} {x : DataW H × List MemPlace} (h : Trd enc W ps n t cs x) (ht : Tryd.prog.underlying t = some (.array c e)) :
    ∃ m, cs.length = Tryd.prog.cellsOf t ∧ ∀ (j : Nat), j < c → ∃ y, Trd enc W ps m e ((cs.drop (j * Tryd.prog.cellsOf e)).take (Tryd.prog.cellsOf e)) y := by
  obtain ⟨xs, m, -, hx, hl, hxl, hf⟩ := DataW.trod_array ht h.rd
  refine ⟨m, hl, fun j hj => ?_⟩
  have hy : xs[j]? = some (xs[j]'(by omega)) := List.getElem?_eq_getElem (by omega)
  have hs := h.sub; have hw := h.lite
  rw [hx] at hs hw
  refine ⟨_, (hf j hj).trans hy, fun p hp => hs p (List.mem_flatMap.2 ⟨_, List.getElem_mem _, hp⟩), fun k hk => hw k ?_⟩
  simp only [DataW.weights, ht]
  exact weightsAll_mem (List.mem_map.2 ⟨_, List.getElem_mem _, rfl⟩) hk
theorem Trd.int {n : Nat} {t : TypeId} {k : IntKind} {cs : List Value} {x : DataW H × List MemPlace} (h : Trd enc W ps n t cs x) (ht : Tryd.prog.underlying t = some (.int k)) : ∃ z, cs = [.int k z] ∧ (Lit.int k z).wf = true := by
  obtain ⟨z, h1, _, h2⟩ := DataW.trod_int ht h.rd
  exact ⟨z, h1, h2⟩
theorem getElem_take1 {α : Type} (l : List α) (j : Nat) (x : α) (h : (l.drop j).take 1 = [x]) : l[j]? = some x := by
  have := congrArg (fun m : List α => m[0]?) h
  simpa using this
/-- an array of integers -/
theorem Trd.ints {n c : Nat} {t e : TypeId} {k : IntKind} {cs : List Value} {x : DataW H × List MemPlace} (h : Trd enc W ps n t cs x) (ht : Tryd.prog.underlying t = some (.array c e)) (he : Tryd.prog.underlying e = some (.int k))
    (e1 : Tryd.prog.cellsOf t = c) (e2 : Tryd.prog.cellsOf e = 1) : ∃ zs : List Int, cs = zs.map (Value.int k) ∧ zs.length = c ∧ ∀ z ∈ zs, (Lit.int k z).wf = true := by
  obtain ⟨m, hl, hi⟩ := h.elems ht
  rw [e1] at hl
  obtain ⟨Z, hZ⟩ := pick_lt (α := Int) (p := fun j z => cs[j]? = some (.int k z) ∧ (Lit.int k z).wf = true) (m := c) (fun j hj => by
    obtain ⟨y, hy⟩ := hi j hj
    rw [e2, Nat.mul_one] at hy
    obtain ⟨z, h1, h2⟩ := hy.int he
    exact ⟨z, getElem_take1 _ _ _ h1, h2⟩)
  refine ⟨(List.range c).map Z, ?_, by simp, fun z hz => ?_⟩
  · apply List.ext_getElem?
    intro i
    by_cases hi : i < c
    · rw [(hZ i hi).1]
      simp [hi]
    · rw [List.getElem?_eq_none (by omega), List.getElem?_eq_none (by simp; omega)]
  · obtain ⟨i, hi, rfl⟩ := List.mem_map.1 hz
    exact (hZ i (List.mem_range.1 hi)).2
end
end Go.Proofs.YtlofddoojkeakaaDoor
namespace Go.Proofs.YtlofddoojkeakaaDoor
set_option linter.unusedVariables false
set_option linter.unusedSimpArgs false
open Go Go.RowKit Go.ChangeShapes Go.WideShapes Go.ChangeAt Go.Deep

theorem cellsU32 : Tryd.prog.cellsOf 23 = 1 := by kernel_rfl
set_option maxRecDepth 100000 in
theorem key_arg {H : Type} {enc : TypeId × Value → H} {W : World} {ps : List MemPlace} {n : Nat} {cs : List Value} {x : DataW H × List MemPlace} (h : Trd enc W ps n 27 cs x) : ∃ k : KD, cs = k.cells ∧ k.ok := by
  obtain ⟨m, hl, hf⟩ := h.fields Tryd.underlying27
  have f0 : Tryd.prog.cellsOf 5 = 1 := by kernel_rfl
  have f1 : Tryd.prog.cellsOf 22 = 4 := by kernel_rfl
  have f2 : Tryd.prog.cellsOf 23 = 1 := by kernel_rfl
  have f3 : Tryd.prog.cellsOf 24 = 32 := by kernel_rfl
  have f4 : Tryd.prog.cellsOf 25 = 33 := by kernel_rfl
  have f5 : Tryd.prog.cellsOf 27 = 71 := by kernel_rfl
  obtain ⟨y0, h0⟩ := hf 0 _ rfl
  obtain ⟨y1, h1⟩ := hf 1 _ rfl
  obtain ⟨y2, h2⟩ := hf 2 _ rfl
  obtain ⟨y3, h3⟩ := hf 3 _ rfl
  obtain ⟨y4, h4⟩ := hf 4 _ rfl
  have h0 : Trd enc W ps m 5 ((cs.drop 0).take (Tryd.prog.cellsOf 5)) y0 := h0
  have h1 : Trd enc W ps m 22 ((cs.drop 1).take (Tryd.prog.cellsOf 22)) y1 := h1
  have h2 : Trd enc W ps m 23 ((cs.drop 5).take (Tryd.prog.cellsOf 23)) y2 := h2
  have h3 : Trd enc W ps m 24 ((cs.drop 6).take (Tryd.prog.cellsOf 24)) y3 := h3
  have h4 : Trd enc W ps m 25 ((cs.drop 38).take (Tryd.prog.cellsOf 25)) y4 := h4
  rw [f0] at h0; rw [f1] at h1; rw [f2] at h2; rw [f3] at h3; rw [f4] at h4; rw [f5] at hl
  obtain ⟨d, e0, w0⟩ := h0.int Tryd.underlying5
  obtain ⟨fg, e1, l1, w1⟩ := h1.ints Tryd.underlying22 Tryd.underlying5 f1 f0
  obtain ⟨ch, e2, w2⟩ := h2.int Tryd.underlying23
  obtain ⟨cc, e3, l3, w3⟩ := h3.ints Tryd.underlying24 Tryd.underlying5 f3 f0
  obtain ⟨da, e4, l4, w4⟩ := h4.ints Tryd.underlying25 Tryd.underlying5 f4 f0
  have b : ∀ (l : List Int), (∀ z ∈ l, (Lit.int .u8 z).wf = true) → Bytes l := fun l h z hz => by
    have := bounds_u8 (h z hz)
    exact ⟨by omega, by omega⟩
  have ed : da = da.headD 0 :: da.drop 1 := cons_of l4
  have bd := b da w4
  have hd0 : 0 ≤ d ∧ d < 256 := by have := bounds_u8 w0; omega
  have hd2 : 0 ≤ ch ∧ ch < 4294967296 := by have := bounds_u32 w2; omega
  refine ⟨⟨d, fg, ch, cc, da.headD 0, da.drop 1⟩, ?_, hd0, l1, b fg w1, hd2, l3, b cc w3, ?_, by rw [List.length_drop, l4], fun z hz => bd z (List.mem_of_mem_drop hz)⟩
  · rw [key_parts]
    show cs = [Value.int .u8 d] ++ (fg.map (Value.int .u8) ++ ([Value.int .u32 ch] ++ (cc.map (Value.int .u8) ++ (da.headD 0 :: da.drop 1).map (Value.int .u8))))
    rw [← ed, ← e0, ← e1, ← e2, ← e3, ← e4]
    have s : ∀ (i j : Nat), (cs.drop i).take j ++ cs.drop (i + j) = cs.drop i := fun i j => by
      rw [← List.drop_drop]; exact List.take_append_drop j _
    have s4 : (cs.drop 38).take 33 = cs.drop 38 := List.take_of_length_le (by rw [List.length_drop]; omega)
    rw [s4, s 6 32, s 5 1, s 1 4, s 0 1]
    rfl
  · refine bd _ ?_
    show da.headD 0 ∈ da
    cases da with
    | nil => cases l4
    | cons a l => exact List.mem_cons_self
set_option maxRecDepth 100000 in
theorem u32s_arg {H : Type} {enc : TypeId × Value → H} {W : World} {base : Nat} {v : Value} {d : DataW H} {p ps : List MemPlace} (hv : Value.okWide Tryd.prog W .any base 28 v) (h : DataW.Trod enc Tryd.prog W 0 (fun _ => true) true 28 v d p)
    (hfz : W.noneFrozen ps) (hp : ∀ x ∈ p, x ∈ ps) : ∃ a len cap, ∃ zs : List Int, v = .slice a len cap ∧ Rd W 1 v len (zs.map (Value.int .u32)) ∧ ∀ x ∈ zs, 0 ≤ x ∧ x < 4294967296 := by
  obtain ⟨a0, len, cap, rfl⟩ := okWide_slice Tryd.underlying28 hv
  obtain ⟨fuel, hf⟩ := h
  rcases open_ints Tryd.underlying28 Tryd.underlying23 cellsU32 hf with ⟨hcs, hx⟩ | ⟨a, len', cap', zs, hcs, _, hl, hm, hz, hx, hcell, hwz⟩
  · simp [Value.cells] at hcs
    obtain ⟨rfl, rfl, rfl⟩ := hcs
    exact ⟨none, 0, 0, [], rfl, rd_nil W .u32, fun x hx => by simp at hx⟩
  · simp [Value.cells] at hcs
    obtain ⟨rfl, rfl, rfl⟩ := hcs
    simp only [Prod.mk.injEq] at hx
    obtain ⟨_, rfl⟩ := hx
    simp only [if_true] at hz
    refine ⟨some a, len, cap, zs.take len, rfl, rd_arg hl hm hz hcell hfz hp, fun x hx => ?_⟩
    have := bounds_u32 (hwz x (List.mem_of_mem_take hx))
    omega
end Go.Proofs.YtlofddoojkeakaaDoor
