/- From what a row says of an argument to what the walks ask: a slice of bytes, a slice of ints. | From what a row says of an argument to what the walks ask: an array of bytes; a slice of bytes cut short. No condition. | strongboxlaw05.CurvePublics: the walk. No condition. -/
import Derived.Test.YtajipagpdphejaaGA3
import Derived.Test.YtajipagpdphejaaRows
import Derived.ProofKit
import Derived.OpenShut
import Derived.Test.YtajipagpdphejaaGE5
import Derived.WideKeyArr2
import Derived.ChangeMaps5
import Derived.Test.YtajipagpdphejaaGB8
namespace Go.Proofs.Ytajipagpdphejaa
set_option linter.unusedVariables false
set_option linter.unusedSimpArgs false
open Go Go.RowKit Go.ChangeShapes Go.WideShapes Go.ChangeAt

theorem own : ownKnob Try.prog.godebug = none := by kernel_rfl
theorem laidOut : laidOutB Try.prog = true := by kernel_rfl
theorem cellsU8 : Try.prog.cellsOf 5 = 1 := by kernel_rfl
theorem rd_arg {k : IntKind} {W : World} {a : Addr} {len cap : Nat} {zs : List Int} {p : List MemPlace} (hl : len ≤ cap) (hm : cap ≤ maxLen) (hz : zs.length = cap) (hcell : ∀ i, i < zs.length → W.cell? (a.add i) = some (.int k (zs.getD i 0)))
    (hfz : W.noneFrozen p) (hp : ∀ x ∈ MemPlace.row a zs.length, x ∈ p) : Rd W 1 (.slice (some a) len cap) len ((zs.take len).map (Value.int k)) := by
  refine ⟨by simp; omega, some a, cap, rfl, hl, hm, fun e => (by cases e), fun ad e hn => ?_⟩
  cases e
  obtain ⟨b, off, spot⟩ := a
  have hspot : spot = none := by simpa [Addr.add] using World.cell?_spot (hcell 0 (by omega))
  subst hspot
  have hadd : ∀ i, (⟨b, off, none⟩ : Addr).add i = ⟨b, off + i, none⟩ := fun i => by unfold Addr.add; split <;> simp_all
  have hb : b < W.heap.size := by
    have := hcell 0 (by omega)
    rw [hadd] at this
    exact World.block_lt_of_cell? W _ this
  refine ⟨b, off, rfl, hb, fun j v hv => ?_⟩
  have hj : j < len := by
    have := (List.getElem?_eq_some_iff.1 hv).1
    simp at this; omega
  have hc := hcell j (by omega)
  rw [hadd] at hc
  refine ⟨?_, hfz b (off + j) (hp _ (MemPlace.mem_row.2 ⟨j, by omega, rfl⟩))⟩
  rw [hc]
  have hj2 : j < zs.length := by omega
  simp [hj, hj2] at hv
  rw [← hv]
  simp [List.getD, hj2]
theorem rd_nil (W : World) (k : IntKind) : Rd W 1 (.slice none 0 0) 0 (([] : List Int).map (Value.int k)) :=
  ⟨by simp, none, 0, rfl, Nat.le_refl _, Nat.zero_le _, fun _ => ⟨rfl, rfl⟩, fun ad e _ => (by cases e)⟩
set_option maxRecDepth 100000 in
/-- a slice of bytes that came in -/
theorem bytes_arg {H : Type} {enc : TypeId × Value → H} {W : World} {base : Nat} {v : Value} {d : DataW H} {p ps : List MemPlace} (hv : Value.okWide Try.prog W .any base 23 v) (h : DataW.Trod enc Try.prog W 0 (fun _ => true) true 23 v d p)
    (hfz : W.noneFrozen ps) (hp : ∀ x ∈ p, x ∈ ps) : ∃ a len cap, ∃ zs : List Int, v = .slice a len cap ∧ Rd W 1 v len (zs.map (Value.int .u8)) ∧ ∀ x ∈ zs, 0 ≤ x ∧ x < 256 := by
  obtain ⟨a0, len, cap, rfl⟩ := okWide_slice Try.underlying23 hv
  obtain ⟨fuel, hf⟩ := h
  rcases open_ints Try.underlying23 Try.underlying5 cellsU8 hf with ⟨hcs, hx⟩ | ⟨a, len', cap', zs, hcs, _, hl, hm, hz, hx, hcell, hwz⟩
  · simp [Value.cells] at hcs
    obtain ⟨rfl, rfl, rfl⟩ := hcs
    exact ⟨none, 0, 0, [], rfl, rd_nil W .u8, fun x hx => by simp at hx⟩
  · simp [Value.cells] at hcs
    obtain ⟨rfl, rfl, rfl⟩ := hcs
    simp only [Prod.mk.injEq] at hx
    obtain ⟨_, rfl⟩ := hx
    simp only [if_true] at hz
    refine ⟨some a, len, cap, zs.take len, rfl, rd_arg hl hm hz hcell hfz hp, fun x hx => ?_⟩
    have := bounds_u8 (hwz x (List.mem_of_mem_take hx))
    omega
end Go.Proofs.Ytajipagpdphejaa
namespace Go.Proofs.Ytajipagpdphejaa
set_option linter.unusedVariables false
set_option linter.unusedSimpArgs false
open Go Go.RowKit Go.ChangeShapes Go.WideShapes Go.ChangeAt Go.WideMaps Go.ChangeMaps

theorem someTypes : ∃ m, Try.prog.types.size = m + 1 := ⟨Try.prog.types.size - 1, by have : 0 < Try.prog.types.size := of_decide_eq_true (by kernel_rfl); omega⟩
theorem mapM_some {α β : Type} (f : α → Option β) : ∀ (L : List α) (xs : List β), L.mapM f = some xs → ∀ i ∈ L, ∃ y, f i = some y
  | [], _, _, i, hi => by simp at hi
  | a :: L, xs, h, i, hi => by
    rw [List.mapM_cons] at h
    simp only [bind, Option.bind_eq_some_iff, pure, Option.some.injEq] at h
    obtain ⟨y, hy, ys, hys, rfl⟩ := h
    rcases List.mem_cons.1 hi with rfl | hi
    · exact ⟨y, hy⟩
    · exact mapM_some f L ys hys i hi
set_option maxRecDepth 100000 in
/-- an array of bytes that came in -/
theorem arr_arg {t : TypeId} {k : Nat} (hA : ArrKey Try.prog t 5 k) {H : Type} {enc : TypeId × Value → H} {W : World} {base : Nat} {v : Value} {d : DataW H} {p : List MemPlace} (hv : Value.okWide Try.prog W .any base t v) (h : DataW.Trod enc Try.prog W 0 (fun _ => true) true t v d p) :
    ∃ zs : List Int, v = .agg (zs.map (Value.int .u8)).toArray ∧ zs.length = k ∧ Bytes zs ∧ p = [] := by
  obtain ⟨xs, rfl, hn⟩ := okWide_arr hA hv
  obtain ⟨_, _, hp, _⟩ := open_arr hA Try.underlying5 someTypes hn h
  obtain ⟨fuel, hf⟩ := h
  cases fuel with
  | zero => simp [DataW.trod] at hf
  | succ m =>
    rw [DataW.trod_step] at hf
    unfold DataW.trodStep at hf
    simp only [hA.hu, Value.cells] at hf
    rw [if_pos (by rw [hA.size]; simpa using hn)] at hf
    simp only [Option.map_eq_some_iff] at hf
    obtain ⟨ys, hy, _⟩ := hf
    have hall : ∀ i, i < k → ∃ a, xs.toList[i]? = some (Value.int .u8 a) ∧ 0 ≤ a ∧ a < 256 := fun i hi => by
      obtain ⟨y, hy2⟩ := mapM_some _ _ _ hy i (List.mem_range.2 hi)
      obtain ⟨a, ea, _, wa⟩ := DataW.trod_int Try.underlying5 hy2
      rw [hA.one, Nat.mul_one] at ea
      have h0 : ((xs.toList.drop i).take 1)[0]? = some (Value.int .u8 a) := by rw [ea]; rfl
      rw [List.getElem?_take] at h0
      simp at h0
      have hb := bounds_u8 wa
      exact ⟨a, by simpa using h0, by omega, by omega⟩
    refine ⟨xs.toList.map fun v => match v with | .int _ x => x | _ => 0, ?_, by simpa using hn, ?_, hp⟩
    · congr 1
      apply Array.ext'
      apply List.ext_getElem?
      intro i
      by_cases hi : i < k
      · obtain ⟨a, ha, _⟩ := hall i hi
        rw [ha]
        simp only [List.map_map, List.getElem?_map, ha, Option.map_some, Function.comp]
      · rw [List.getElem?_eq_none (by simp; omega), List.getElem?_eq_none (by simp; omega)]
    · intro x hx
      obtain ⟨v, hv2, rfl⟩ := List.mem_map.1 hx
      obtain ⟨i, hi, e⟩ := List.getElem_of_mem hv2
      obtain ⟨a, ha, h1, h2⟩ := hall i (by simpa [hn] using hi)
      have : xs.toList[i]? = some v := by rw [List.getElem?_eq_getElem hi, e]
      rw [this] at ha
      cases ha
      exact ⟨h1, h2⟩
theorem arr32 : ArrKey Try.prog 22 5 32 := ⟨by kernel_rfl, by kernel_rfl, by kernel_rfl, by kernel_rfl⟩
theorem spare_rd {W : World} {q N : Nat} {zs : List Int} (hr : Row W q 0 ((spareL zs N).map (Value.int .u8))) (hl : q < W.heap.size) (hz : N = zs.length) (hN : N ≤ 100) : Rd W 1 (.slice (some ⟨q, 0, none⟩) N (N + 9)) N (zs.map (Value.int .u8)) :=
  Rd.of_row (by
    have := hr.take N
    rw [← List.map_take, spareL, List.take_append_of_le_length (by omega), List.take_of_length_le (by omega)] at this
    exact this) (by simp; omega) hl (by omega) (by unfold maxLen; omega)
theorem rd_cut {W : World} {a : Option Addr} {n cap : Nat} {l : List Int} (h : Rd W 1 (.slice a n cap) n (l.map (Value.int .u8))) (m : Nat) (hm : m ≤ n) : Rd W 1 (.slice a m cap) m ((l.take m).map (Value.int .u8)) := by
  have hl : l.length = n := by have := h.1; simpa using this
  obtain ⟨_, a', cap', e, h2, h3, h4, h5⟩ := h
  cases e
  refine ⟨by simp; omega, a, cap, rfl, by omega, h3, fun e => by have := h4 e; omega, fun ad e hn => ?_⟩
  obtain ⟨g, off, e2, hg, hr⟩ := h5 ad e (by omega)
  exact ⟨g, off, e2, hg, by rw [List.map_take]; exact hr.take m⟩
/-- a slice of bytes, cut where it is longer than m -/
theorem rd_cases {W : World} {a : Option Addr} {n0 cap : Nat} {l0 : List Int} (h : Rd W 1 (.slice a n0 cap) n0 (l0.map (Value.int .u8))) (hb : Bytes l0) (m : Nat) : ∃ (l : List Int) (N : Nat), N = l.length ∧ Rd W 1 (.slice a N cap) N (l.map (Value.int .u8)) ∧ Bytes l ∧ N ≤ m ∧ ((m < n0 ∧ N = m) ∨ (¬ m < n0 ∧ n0 = N)) := by
  have hl0 : l0.length = n0 := by have := h.1; simpa using this
  by_cases hl : m < n0
  · exact ⟨l0.take m, m, by simp; omega, rd_cut h m (by omega), fun x hx => hb x (List.mem_of_mem_take hx), Nat.le_refl _, .inl ⟨hl, rfl⟩⟩
  · exact ⟨l0, n0, hl0.symm, h, hb, by omega, .inr ⟨hl, rfl⟩⟩
theorem rd_bounds {W : World} {a : Option Addr} {n cap : Nat} {xs : List Value} (h : Rd W 1 (.slice a n cap) n xs) : n ≤ maxLen ∧ n ≤ cap ∧ cap ≤ maxLen := by
  obtain ⟨_, a', c', e, h2, h3, _⟩ := h
  cases e
  exact ⟨by omega, h2, h3⟩
theorem byte_wf {l : List Int} (h : Bytes l) : ∀ x ∈ l, (Lit.int .u8 x).wf = true := fun x hx => by
  have := h x hx
  unfold Lit.wf
  rw [Bool.and_eq_true, decide_eq_true_eq, decide_eq_true_eq]
  exact ⟨show (0 : Int) ≤ x from this.1, show x ≤ (255 : Int) by have := this.2; omega⟩
theorem eq33 (l m : List Int) (h : Bytes l) (h' : Bytes m) (hl : l.length = 33) (hm : m.length = 33) (W : World) : (Op.equalIn 10000 25 (.agg (l.map (Value.int .u8)).toArray) (.agg (m.map (Value.int .u8)).toArray)).run Try.prog W = .ok (decide (l = m)) W :=
  arr_equal W 25 5 33 .u8 (by kernel_rfl) Try.underlying25 Try.underlying5 (by kernel_rfl) (by kernel_rfl) l m hl (byte_wf h) hm (byte_wf h')
theorem pubV_bytes (x : Int) : Bytes (pubV x) := by
  unfold pubV
  split
  · exact pkB_bytes _ _
  · intro y hy
    rw [(List.mem_replicate.1 (show y ∈ List.replicate 33 0 from hy)).2]
    exact ⟨by omega, by omega⟩
end Go.Proofs.Ytajipagpdphejaa
namespace Go.Proofs.Ytajipagpdphejaa
set_option linter.unusedVariables false
set_option linter.unusedSimpArgs false
open Go Go.RowKit Cv

theorem cu_neqg {P : Program} {ops : Array Oper} {rest : List Oper} {o : Oper} {a : Act} {w : World} {Q : Exit → Act → World → Prop} (hw : Region.wanted o (yielded ops a.tmps) = true) (t t' : TypeId) (x y : Operand) (ho : o.op = .binOp .neq t x y t') (A B : Array Value) (hx : a.eval x = .agg A) (hy : a.eval y = .agg B) (r : Bool)
    (hE : ∀ W, (Op.equalIn 10000 t (.agg A) (.agg B)).run P W = .ok r W) (hm : P.eqGuardType P.depth t = false) (h : wpList P ops Q rest (a.put o.dst (.bool (!r))) w) : wpList P ops Q (o :: rest) a w :=
  cu_neq hw t t' x y ho A B hx hy r hE hm h
set_option maxRecDepth 100000 in
set_option maxHeartbeats 8000000 in
theorem publics_any (key : List Int) (hk : Bytes key) (hkl : key.length = 32) (a : Option Addr) (n0 cap : Nat) (l0 : List Int) (w : World) (h : Rd w 1 (.slice a n0 cap) n0 (l0.map (Value.int .u8))) (hb : Bytes l0) :
    Calls Try.prog 3 #[.agg (key.map (Value.int .u8)).toArray, .slice a n0 cap] w fun e w' => e = .returned (.bool true) ∧ Keeps w w' := by
  obtain ⟨hcm, hcp, hcx⟩ := rd_bounds h
  unfold maxLen at hcm hcx
  obtain ⟨l, N, hN, hrd, hbl, hl5, hcase⟩ := rd_cases h hb 70
  clear h hb
  have HRD := Lib.hid (fun W (hk : Keeps w W) => hrd.keeps hk)
  have HAW := Lib.hid awake_any
  have HN := Lib.hid hN
  have HPU := Lib.hid (public_any key hk hkl)
  have HRP := Lib.hid (rpublic_any key hk hkl)
  have HVA := Lib.hid (valid_any key hk hkl)
  have HIP := Lib.hid (fun (v : Value) W (hv : Rd W 1 v N (l.map (Value.int .u8))) => ispub_any v l hbl W (by rw [hN] at hv; exact hv))
  have HRU := Lib.hid (fun (v : Value) W (hv : Rd W 1 v N (l.map (Value.int .u8))) => runpack_any v l hbl W (by rw [hN] at hv; exact hv))
  have HIK := Lib.hid (fun (v : Value) W (hv : Rd W 1 v (pubV (be key)).length ((pubV (be key)).map (Value.int .u8))) => ispub_any v (pubV (be key)) (pubV_bytes _) W hv)
  have hpl := pubV_len (be key)
  rw [hpl] at HIK
  have HEQ := Lib.hid (eq33 (pubV (be key)) (pubV (be key)) (pubV_bytes _) (pubV_bytes _) hpl hpl)
  rw [decide_eq_true rfl] at HEQ
  have hul := unpCR_len l
  have hcase2 : (keyB (be key) = true ∧ errV (be key) = 0 ∧ (unpN (pubV (be key))).isSome = true) ∨ (keyB (be key) = false ∧ errV (be key) = 1) := by
    by_cases hkey : keyB (be key) = true
    · have h1 := key_lt hkey
      refine .inl ⟨hkey, by unfold errV; rw [if_pos hkey], ?_⟩
      obtain ⟨x, y, e, _⟩ := unp_pub (k := (be key).toNat) (by omega) (by have := h1.2; have := nv_eq; omega)
      unfold pubV
      rw [if_pos hkey, e]; rfl
    · exact .inr ⟨by simpa using hkey, by unfold errV; rw [if_neg hkey]⟩
  generalize unpCR l = RU at *
  generalize (unpN l).isSome = IS at *
  generalize (unpN (pubV (be key))).isSome = ISK at *
  generalize pubV (be key) = PB at *
  generalize errV (be key) = ER at *
  generalize keyB (be key) = KB at *
  clear hN hrd hbl hk
  rcases hcase2 with ⟨rfl, rfl, rfl⟩ | ⟨rfl, rfl⟩
  all_goals
    rcases hcase with ⟨hb, he⟩ | ⟨hb, he2⟩
    all_goals
      first | (have he3 := he2.symm; subst he3) | (have HE5 := Lib.hid he; clear he)
      go_enter Try.func3, Try.ntmps3
      go_upto_region 1 with (fail)
      refine cu_rows1 (fun W hk hra hs => ?_)
      obtain ⟨p, hp⟩ : ∃ p, p = w.heap.size := ⟨_, rfl⟩
      rw [← hp] at hra hs ⊢
      have HRK := Lib.hid (show Row W p 0 (key.map (Value.int .u8)) from hra); have HKW := Lib.hid hk
      clear hp hra hk hs
      go_upto_region 3 with (go_at_call 9; refine (HAW.out _).mono ?_; rintro e W1 ⟨rfl, hk1⟩; have HK1 := Lib.hid hk1; clear hk1)
      have HRK := Lib.hid (HRK.out.keeps HK1.out); have HKW := Lib.hid (HKW.out.trans HK1.out)
      clear HK1
      go_upto_region 4 with (first | ((with_reducible refine gate_load 22 (.tmp 2) ?_); refine wpList_load_at rfl 22 (.tmp 2) rfl _ 0 rfl (key.map (Value.int .u8)) _ HRK.out Try.underlying22 rfl (by rw [List.length_map, hkl]; exact sz_b32') ?_) | (go_at_call 10; refine (HPU.out _).mono ?_; rintro e W2 ⟨rfl, hk1⟩; have HK2 := Lib.hid hk1; clear hk1) | ((with_reducible refine gate_store 25 (.tmp 5) (.tmp 18) ?_); refine wpList_store_row rfl 25 (.tmp 5) (.tmp 18) rfl W2.heap.size 0 rfl (zeroL33.map (Value.int .u8)) (PB.map (Value.int .u8)) rfl (Row.new _ _ _ rfl) (by rw [List.length_map, hpl]; rfl) (by rw [List.length_map, hpl]; exact sz_b33) (int_oneCell _) ?_; intro W3 hr2 hc2; have HRP5 := Lib.hid hr2; have HK3 := Lib.hid (nm_keeps_chg (nm_keeps_alloc HK2.out _) hc2 HK2.out.size); clear hr2 hc2))
      generalize W2.heap.size = q at *
      have HRK := Lib.hid (HRK.out.keeps HK3.out); have HKW := Lib.hid (HKW.out.trans HK3.out)
      clear HK3 HK2
      go_upto_region 5 with (first | ((with_reducible refine gate_load 22 (.tmp 2) ?_); refine wpList_load_at rfl 22 (.tmp 2) rfl _ 0 rfl (key.map (Value.int .u8)) _ HRK.out Try.underlying22 rfl (by rw [List.length_map, hkl]; exact sz_b32') ?_) | (go_at_call 11; refine (HRP.out _).mono ?_; rintro e W4 ⟨rfl, hk1⟩; have HK4 := Lib.hid hk1; clear hk1) | ((with_reducible refine gate_store 25 (.tmp 7) (.tmp 23) ?_); refine wpList_store_row rfl 25 (.tmp 7) (.tmp 23) rfl W4.heap.size 0 rfl (zeroL33.map (Value.int .u8)) (PB.map (Value.int .u8)) rfl (Row.new _ _ _ rfl) (by rw [List.length_map, hpl]; rfl) (by rw [List.length_map, hpl]; exact sz_b33) (int_oneCell _) ?_; intro W5 hr2 hc2; have HRP7 := Lib.hid hr2; have HK5 := Lib.hid (nm_keeps_chg (nm_keeps_alloc HK4.out _) hc2 HK4.out.size); clear hr2 hc2))
      generalize W4.heap.size = q2 at *
      have HRK := Lib.hid (HRK.out.keeps HK5.out); have HKW := Lib.hid (HKW.out.trans HK5.out); have HRP5 := Lib.hid (HRP5.out.keeps HK5.out)
      clear HK4 HK5
      have hq5 : q < W5.heap.size := HRP5.out.lt (map_ne hpl)
      have HRDP := Lib.hid (fun W' (hk : Keeps W5 W') => show Rd W' 1 (.slice (some ⟨q, 0, none⟩) 33 33) 33 (PB.map (Value.int .u8)) from Rd.of_row (HRP5.out.keeps hk) (by simp [hpl]) (Nat.lt_of_lt_of_le hq5 hk.size) (by omega) (by unfold maxLen; omega))
      go_upto_region 7 with (first | ((with_reducible refine gate_load 25 (.tmp 5) ?_); refine wpList_load_at rfl 25 (.tmp 5) rfl _ 0 rfl (PB.map (Value.int .u8)) _ HRP5.out Try.underlying25 rfl (by rw [List.length_map, hpl]; exact sz_b33) ?_) | ((with_reducible refine gate_load 25 (.tmp 7) ?_); refine wpList_load_at rfl 25 (.tmp 7) rfl _ 0 rfl (PB.map (Value.int .u8)) _ HRP7.out Try.underlying25 rfl (by rw [List.length_map, hpl]; exact sz_b33) ?_) | ((with_reducible refine gate_bin .neq 25 25 (.tmp 25) (.tmp 26) ?_); refine cu_neqg (by kernel_rfl) 25 25 (.tmp 25) (.tmp 26) rfl _ _ rfl rfl true HEQ.out (by kernel_rfl) ?_) | ((with_reducible refine gate_load 22 (.tmp 2) ?_); refine cu_load (by kernel_rfl) 22 (.tmp 2) rfl _ 0 rfl (key.map (Value.int .u8)) _ HRK.out Try.underlying22 rfl (by rw [List.length_map, hkl]; exact sz_b32') ?_) | (go_at_call 12; refine (HVA.out _).mono ?_; rintro e W6 ⟨rfl, hk1⟩; have HK6 := Lib.hid hk1; clear hk1) | (go_at_call 13; refine (HIK.out _ _ (HRDP.out _ HK6.out)).mono ?_; rintro e W7 ⟨rfl, hk1⟩; have HK6 := Lib.hid (HK6.out.trans hk1); clear hk1))
      have HKW := Lib.hid (HKW.out.trans HK6.out)
      clear HRDP HRK HRP5 HRP7 HK6
      refine wp_gen (fun W => Keeps w W) HKW.out ?_
      rintro W9 hk9
      have HKW := Lib.hid hk9
      clear hk9
      go_upto_region 9 with (fail)
      try rw [← HE5.out]
      clear hb
      go_upto_region 10 with (go_at_call 14; refine (spare_any _ _ l _ (HRD.out _ HKW.out) (by omega)).mono ?_; rintro e W8 ⟨rfl, hk2, hl2, hs2⟩; have HK8 := Lib.hid (HKW.out.trans hk2); have HS8 := Lib.hid hs2; have HL8 := Lib.hid hl2; clear hk2 hs2 hl2)
      have HKW := HK8
      generalize W9.heap.size = q3 at *
      have HRI := Lib.hid (spare_rd HS8.out HL8.out HN.out (by omega))
      go_upto_region 11 with (first | (go_at_call 15; refine (HRU.out _ _ (HRD.out _ HKW.out)).mono ?_; rintro e W10 ⟨rfl, hk1⟩; have HK10 := Lib.hid hk1; clear hk1) | ((with_reducible refine gate_store 39 (.tmp 11) (.tmp 69) ?_); refine wpList_store_row rfl 39 (.tmp 11) (.tmp 69) rfl W10.heap.size 0 rfl (zeroL24.map (Value.int .u32)) (RU.map (Value.int .u32)) rfl (Row.new _ _ _ rfl) (by rw [List.length_map, hul]; rfl) (by rw [List.length_map, hul]; exact sz_rpt) (int_oneCell _) ?_; intro W11 hr2 hc2; have HK11 := Lib.hid (nm_keeps_chg (nm_keeps_alloc HK10.out _) hc2 HK10.out.size); clear hr2 hc2))
      have HRI := Lib.hid (HRI.out.keeps HK11.out); have HKW := Lib.hid (HKW.out.trans HK11.out); have HS8 := Lib.hid (HS8.out.keeps HK11.out)
      go_wp2_with (first | (go_at_call 13; refine (HIP.out _ _ HRI.out).mono ?_; rintro e W12 ⟨rfl, hk1⟩; have HK12 := Lib.hid hk1; clear hk1) | (go_at_call 16; refine (kept_any _ _ q3 (N + 9) l _ (HRD.out _ (HKW.out.trans HK12.out)) (by omega) (HS8.out.keeps HK12.out)).mono ?_; rintro r W13 ⟨rfl, hk8⟩; have HK13 := Lib.hid (HK12.out.trans hk8.keeps); clear hk8))
      go_ret
      exact ⟨by first | rfl | exact ret_bool (by simp), HKW.out.trans HK13.out⟩
end Go.Proofs.Ytajipagpdphejaa
