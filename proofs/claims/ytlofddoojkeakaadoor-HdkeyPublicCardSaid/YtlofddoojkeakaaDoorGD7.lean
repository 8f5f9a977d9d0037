/- HMAC with SHA-512, in plain Lean; and a copy into an array of one's own. | hash.Hmac512 is HMAC with SHA-512. | The reference's HMAC with SHA-512 (strongboxref02.Hmac512). -/
import Derived.Test.YtlofddoojkeakaaDoorGD6
import Derived.Laws.CopyOwn
import Derived.Test.YtlofddoojkeakaaDoorGA3
namespace Go.Proofs.YtlofddoojkeakaaDoor.B64
set_option linter.unusedVariables false
set_option linter.unusedSimpArgs false
open Go Go.RowKit

theorem sz_u8i : (Tryd.prog.info? 5).map (·.size) = some 1 := by kernel_rfl
/-- the key, no longer than a block -/
def hkey (key : List Int) : List Int := if key.length ≤ 128 then key else sha512 key
theorem hkey_length (key : List Int) : (hkey key).length ≤ 128 := by
  unfold hkey
  split
  · assumption
  · rw [sha512_length]; omega
theorem hkey_bytes {key : List Int} (h : Bytes key) : Bytes (hkey key) := by
  unfold hkey
  split
  · exact h
  · exact sha512_bytes _
/-- filled up with noughts -/
def hpad (key : List Int) : List Int := hkey key ++ List.replicate (128 - (hkey key).length) 0
theorem hpad_length (key : List Int) : (hpad key).length = 128 := by have := hkey_length key; simp [hpad]; omega
theorem hpad_bytes {key : List Int} (h : Bytes key) : Bytes (hpad key) := by
  intro x hx
  simp only [hpad, List.mem_append, List.mem_replicate] at hx
  rcases hx with hx | ⟨_, rfl⟩
  · exact hkey_bytes h x hx
  · unfold Byte; omega
def hxor (c : Int) (l : List Int) : List Int := l.map fun x => bits .xor .u8 x c
theorem hxor_length (c : Int) (l : List Int) : (hxor c l).length = l.length := by simp [hxor]
theorem bits_u8_byte (op : BinOp) (a b : Int) : Byte (bits op .u8 a b) := by
  unfold bits Byte
  split <;> simp only [IntKind.wrap_u8] <;> exact ⟨by omega, by omega⟩
theorem hxor_bytes (c : Int) (l : List Int) : Bytes (hxor c l) := by
  intro x hx
  obtain ⟨y, _, rfl⟩ := List.mem_map.1 hx
  exact bits_u8_byte _ _ _
def hmac (key l : List Int) : List Int := sha512 (hxor 92 (hpad key) ++ sha512 (hxor 54 (hpad key) ++ l))
theorem hmac_length (key l : List Int) : (hmac key l).length = 64 := sha512_length _
theorem hmac_bytes (key l : List Int) : Bytes (hmac key l) := sha512_bytes _
/-- the first i turned, then as it was -/
def hmix (c : Int) (l : List Int) (i : Nat) : List Int := hxor c (l.take i) ++ l.drop i
theorem hmix_zero (c : Int) (l : List Int) : hmix c l 0 = l := by simp [hmix, hxor]
theorem hmix_full (c : Int) (l : List Int) (h : l.length = 128) : hmix c l 128 = hxor c l := by
  unfold hmix
  rw [List.take_of_length_le (by omega), List.drop_eq_nil_of_le (by omega), List.append_nil]
theorem hmix_length (c : Int) (l : List Int) (i : Nat) (h : l.length = 128) (hi : i ≤ 128) : (hmix c l i).length = 128 := by simp [hmix, hxor, h]; omega
theorem hmix_getD (c : Int) (l : List Int) (i : Nat) (h : l.length = 128) (hi : i < 128) : (hmix c l i).getD i 0 = l.getD i 0 := by
  simp only [hmix, List.getD]
  rw [List.getElem?_append_right (by simp [hxor]; omega), List.getElem?_drop]
  have e : i + (i - (hxor c (l.take i)).length) = i := by simp [hxor]; omega
  rw [e]
theorem hmix_set (c : Int) (l : List Int) (i : Nat) (h : l.length = 128) (hi : i < 128) : (hmix c l i).set i (bits .xor .u8 (l.getD i 0) c) = hmix c l (i + 1) := by
  unfold hmix
  have hl : (hxor c (l.take i)).length = i := by simp [hxor]; omega
  rw [List.set_append_right _ _ (by omega), hl, Nat.sub_self]
  have hd : l.drop i = l.getD i 0 :: l.drop (i + 1) := by
    rw [List.drop_eq_getElem_cons (by omega)]
    simp [List.getD, show i < l.length by omega]
  rw [hd, List.set_cons_zero, List.take_succ_eq_append_getElem (by omega)]
  simp only [hxor, List.map_append, List.map_cons, List.map_nil, List.append_assoc, List.cons_append, List.nil_append]
  simp only [List.getD, List.getElem?_eq_getElem (show i < l.length by omega), Option.getD_some]
theorem row_block {w : World} {g : Nat} {vs : List Value} {T : TypeId} (h : w.heap[g]? = some (.cells vs.toArray T (0, 0))) : Row w g 0 vs := fun j v hv => by
  rw [Nat.zero_add]
  refine ⟨?_, frozen_of_row _ _ _ _ _ h⟩
  rw [cell_of_row _ _ _ _ _ _ h]
  simpa using hv
/-- what is read copied to the front of an array of 128 bytes -/
theorem wpList_copy_rd {w : World} {ops : Array Oper} {rest : List Oper} {o : Oper} {a : Act} {Q : Exit → Act → World → Prop} (hgd : o.guard = none) (d s : Operand)
    (ho : o.op = .call { callee := .builtin .copy, args := #[d, s], argTypes := #[38, 38] }) (g c1 : Nat) (hd : a.eval d = .slice (some ⟨g, 0, none⟩) 128 c1) (sa : Option Addr) (n cap : Nat) (hs : a.eval s = .slice sa n cap) (hn : n ≤ 128)
    (cur : List Value) (T : TypeId) (hg : w.heap[g]? = some (.cells cur.toArray T (0, 0))) (hcur : cur.length = 128) (xs : List Value) (hr : Rd w 1 (.slice sa n cap) n xs) (h1 : ∀ v ∈ xs, v.oneCell' = true)
    (h : ∀ w', w'.heap[g]? = some (.cells (xs ++ cur.drop n).toArray T (0, 0)) → Chg (· = g) w w' → wpList Tryd.prog ops Q rest (a.put o.dst (goInt n)) w') : wpList Tryd.prog ops Q (o :: rest) a w := by
  have hxl : xs.length = n := by have := hr.1; simpa using this
  obtain ⟨_, a', cap', e, h2, h3, h4, h5⟩ := hr
  cases e
  by_cases h0 : n = 0
  · subst h0
    have hx0 : xs = [] := List.eq_nil_of_length_eq_zero hxl
    subst hx0
    exact wpList_copy_nothing hgd d s _ _ ho 5 Tryd.underlying38 sz_u8i _ _ _ _ _ _ hd hs (by simp) (h _ (by simpa using hg) (Chg.refl _ _))
  · cases sa with
    | none => exact absurd (h4 rfl).1 h0
    | some ad =>
      obtain ⟨g2, off, rfl, _, hrow⟩ := h5 ad rfl (by omega)
      have hadd : ∀ j, (⟨g2, off, none⟩ : Addr).add j = ⟨g2, off + j, none⟩ := fun j => by unfold Addr.add; split <;> simp_all
      refine wpList_copy_own (w := w) hgd d s _ _ ho 5 Tryd.underlying38 sz_u8i g 0 128 c1 ⟨g2, off, none⟩ n cap hd hs cur.toArray T hg xs (by rw [hxl]; exact (Nat.min_eq_left hn).symm) (fun j v hv => by rw [hadd]; exact (hrow j v hv).1) (by simp; omega) h1 ?_
      rw [hxl]
      refine h _ ?_ ⟨rfl, rfl, rfl, by simp [World.setRow], fun k _ hk => setRow_other _ _ _ _ hk⟩
      rw [setRow_heap _ _ _ _ _ _ hg]
      simp [hxl]
theorem own_array {w W : World} {g N : Nat} {l : List Int} (hk : Keeps w W) (hg : w.heap.size ≤ g) (hl : l.length = N) (hN : 0 < N) (hN2 : N ≤ 1024) (hr : Row W g 0 (l.map (Value.int .u8))) : Own w W (.slice (some ⟨g, 0, none⟩) N N) N l := by
  have hlt : g < W.heap.size := hr.lt (by intro e; have := congrArg List.length e; rw [List.length_map, hl] at this; simp at this; omega)
  refine ⟨hk, ⟨by simp [hl], .inr ⟨g, 0, N, [], rfl, Nat.le_refl _, by unfold maxLen; omega, by simp [hl], hlt, by simpa using hr⟩⟩, fun g' e => ?_⟩
  have : g = g' := Option.some.inj e
  omega
theorem hpad_map (ks : List Int) (m : Nat) (hm : m = (hkey ks).length) : ((hkey ks).map (Value.int .u8)) ++ (List.replicate 128 (Value.int .u8 0)).drop m = (hpad ks).map (Value.int .u8) := by
  subst hm
  rw [List.drop_replicate]
  simp only [hpad, List.map_append, List.map_replicate]
theorem zeros128 : (List.replicate 128 (Value.int .u8 0)).length = 128 := List.length_replicate
set_option maxRecDepth 100000 in
theorem sz64 : (Tryd.prog.info? 43).map (·.size) = some 64 := by kernel_rfl
/-- the two arrays, new -/
theorem two_new (w : World) (T : TypeId) : ((w.alloc (.cells (List.replicate 128 (Value.int .u8 0)).toArray T)).alloc (.cells (List.replicate 128 (Value.int .u8 0)).toArray T)).heap[w.heap.size]? = some (.cells (List.replicate 128 (Value.int .u8 0)).toArray T (0, 0)) ∧
    ((w.alloc (.cells (List.replicate 128 (Value.int .u8 0)).toArray T)).alloc (.cells (List.replicate 128 (Value.int .u8 0)).toArray T)).heap[w.heap.size + 1]? = some (.cells (List.replicate 128 (Value.int .u8 0)).toArray T (0, 0)) := by
  have h1 := heap_alloc_new w (.cells (List.replicate 128 (Value.int .u8 0)).toArray T)
  have h2 := heap_alloc_new (w.alloc (.cells (List.replicate 128 (Value.int .u8 0)).toArray T)) (.cells (List.replicate 128 (Value.int .u8 0)).toArray T)
  rw [World.size_alloc] at h2
  refine ⟨?_, h2⟩
  rw [(keeps_alloc (Keeps.refl (w.alloc (.cells (List.replicate 128 (Value.int .u8 0)).toArray T))) _).block _ (by simp)]
  exact h1
set_option maxHeartbeats 4000000 in
set_option maxRecDepth 100000 in
theorem hmac_any (kv bv : Value) (kn n : Nat) (ks zs : List Int) (w : World) (hrk : Rd w 1 kv kn (ks.map (Value.int .u8))) (hbk : Bytes ks) (hkn : kn ≤ 1000000) (hrb : Rd w 1 bv n (zs.map (Value.int .u8))) (hzb : Bytes zs) (hn : n ≤ 1000000) :
    Calls Tryd.prog 14 #[kv, bv] w fun e w' => e = .returned (.agg ((hmac ks zs).map (Value.int .u8)).toArray) ∧ Keeps w w' := by
  have hkl : ks.length = kn := by have := hrk.1; simpa using this
  have hzl : zs.length = n := by have := hrb.1; simpa using this
  have hks : ∀ W, Keeps w W → Calls Tryd.prog 27 #[kv] W fun e w' => e = .returned (.agg ((sha512 ks).map (Value.int .u8)).toArray) ∧ Keeps W w' := fun W hk => sum512_any kv kn ks W (hrk.keeps hk) hbk (by omega)
  have hkb := hkey_bytes hbk
  have hpb := hpad_bytes hbk
  have hpl := hpad_length ks
  have hkl2 := hkey_length ks
  have hkm := hpad_map ks
  have hhm : hmac ks zs = sha512 (hxor 92 (hpad ks) ++ sha512 (hxor 54 (hpad ks) ++ zs)) := rfl
  have hkA : kn ≤ 128 → hkey ks = ks := fun h => by unfold hkey; rw [if_pos (by omega)]
  have hkB : ¬ kn ≤ 128 → hkey ks = sha512 ks := fun h => by unfold hkey; rw [if_neg (by omega)]
  rw [hhm]
  obtain ⟨ka, kcap, rfl⟩ : ∃ a cap, kv = .slice a kn cap := by obtain ⟨_, a, cap, h, _⟩ := hrk; exact ⟨a, cap, h⟩
  obtain ⟨ba, bcap, rfl⟩ : ∃ a cap, bv = .slice a n cap := by obtain ⟨_, a, cap, h, _⟩ := hrb; exact ⟨a, cap, h⟩
  have HRK := Lib.hid hrk; have HRB := Lib.hid hrb; have HKS := Lib.hid hks; have HZB := Lib.hid hzb; have HPL := Lib.hid hpl; have HKM := Lib.hid hkm; have HKL := Lib.hid hkl; have HKL2 := Lib.hid hkl2; have HKA := Lib.hid hkA; have HKB := Lib.hid hkB; have HZL := Lib.hid hzl
  have HSL := Lib.hid (sha512_length ks)
  clear hrk hrb hks hzb hbk hkb hpb hpl hkm hhm hkl hkl2 hkA hkB hzl
  generalize hpad ks = hp at *
  generalize hkey ks = hk0 at *
  generalize sha512 ks = sk at *
  go_enter Tryd.func14, Tryd.ntmps14
  go_upto_region 1 with (fail)
  obtain ⟨p4, hp4⟩ : ∃ p, p = w.heap.size := ⟨_, rfl⟩
  have hk1 : Keeps w (w.alloc (.cells (List.replicate 64 (Value.int .u8 0)).toArray 43)) := keeps_alloc (Keeps.refl w) _
  have hr1 : Row (w.alloc (.cells (List.replicate 64 (Value.int .u8 0)).toArray 43)) p4 0 (List.replicate 64 (Value.int .u8 0)) := by rw [hp4]; exact Row.new _ _ _ rfl
  rw [← hp4]
  have HP4 := Lib.hid hp4
  clear hp4
  refine wp_gen (fun W => Keeps w W ∧ Row W p4 0 (List.replicate 64 (Value.int .u8 0))) ⟨hk1, hr1⟩ ?_
  clear hk1 hr1
  intro W1 ⟨hk1, hr1⟩
  have HK1 := Lib.hid hk1; have HR1 := Lib.hid hr1
  clear hk1 hr1
  have hcase : (kn : Int) ≤ 128 ∨ (128 : Int) < kn := by omega
  rcases hcase with hc | hc
  focus
    have e1 := HKA.out (by omega)
    have HKR := Lib.hid (show Rd W1 1 (.slice ka kn kcap) kn (hk0.map (Value.int .u8)) by rw [e1]; exact HRK.out.keeps HK1.out)
    have HKN := Lib.hid (show kn = hk0.length by rw [e1, HKL.out])
    have hkn2 : kn ≤ 128 := by omega
    have HKW := HK1
    have HR4 := HR1
    clear e1 HKS HKA HKB HK1 HR1
    go_upto_region 4 with (fail)
  rotate_left
  focus
    have e1 := HKB.out (by omega)
    go_upto_region 4 with (first | (go_at_call 27; refine (HKS.out _ HK1.out).mono ?_; rintro e W2 ⟨rfl, hk2⟩; have HK2 := Lib.hid hk2; clear hk2) | (refine wpList_store_row rfl 43 (.tmp 5) (.tmp 14) rfl W2.heap.size 0 rfl (List.replicate 64 (Value.int .u8 0)) (sk.map (Value.int .u8)) rfl (Row.new _ _ _ rfl) (by rw [List.length_map, HSL.out]; rfl) (by rw [List.length_map, HSL.out]; exact sz64) (int_oneCell _) ?_; intro W3 hr3 hc3; have HR3 := Lib.hid hr3; have HC3 := Lib.hid hc3; clear hr3 hc3))
    have hkw := keeps_chg (keeps_alloc (HK1.out.trans HK2.out) _) HC3.out (HK1.out.trans HK2.out).size
    have hr4 : Row W3 p4 0 (List.replicate 64 (Value.int .u8 0)) := ((HR1.out.keeps HK2.out).alloc _).chg HC3.out (by have h1 := HR1.out.lt (by simp); have h2 := HK2.out.size; omega)
    have hkr : Rd W3 1 (.slice (some ⟨W2.heap.size, 0, none⟩) 64 64) 64 (hk0.map (Value.int .u8)) := by rw [e1]; exact Rd.of_row HR3.out (by simp [HSL.out]) (HR3.out.lt (by intro e; have := congrArg List.length e; rw [List.length_map, HSL.out] at this; simp at this)) (by omega) (by unfold maxLen; omega)
    have HKN := Lib.hid (show 64 = hk0.length by rw [e1, HSL.out])
    have HKW := Lib.hid hkw; have HR4 := Lib.hid hr4; have HKR := Lib.hid hkr
    have hkn2 : (64 : Nat) ≤ 128 := by omega
    clear e1 HKS HKA HKB HK1 HR1 HK2 HR3 HC3 hkw hr4 hkr
    generalize W2.heap.size = p5 at *
  all_goals
    rename World => Wk
    go_upto_region 5 with (fail)
    obtain ⟨n1, n2⟩ := two_new Wk 67
    have hkk : Keeps Wk ((Wk.alloc (.cells (List.replicate 128 (Value.int .u8 0)).toArray 67)).alloc (.cells (List.replicate 128 (Value.int .u8 0)).toArray 67)) := keeps_alloc (keeps_alloc (Keeps.refl Wk) _) _
    obtain ⟨g7, hg7⟩ : ∃ g, g = Wk.heap.size + 1 := ⟨_, rfl⟩
    obtain ⟨g6, hg6⟩ : ∃ g, g = Wk.heap.size := ⟨_, rfl⟩
    have hgg : Wk.heap.size ≤ g6 ∧ Wk.heap.size ≤ g7 ∧ g6 ≠ g7 ∧ w.heap.size ≤ g6 ∧ w.heap.size ≤ g7 := by have := HKW.out.size; omega
    rw [← hg7] at n2 ⊢
    rw [← hg6] at n1 ⊢
    clear hg6 hg7
    refine wp_gen (fun W => Keeps Wk W ∧ W.heap[g6]? = some (.cells (List.replicate 128 (Value.int .u8 0)).toArray 67 (0, 0)) ∧ W.heap[g7]? = some (.cells (List.replicate 128 (Value.int .u8 0)).toArray 67 (0, 0))) ⟨hkk, n1, n2⟩ ?_
    clear n1 n2 hkk
    intro W5 ⟨hkk, n1, n2⟩
    have HK5 := Lib.hid hkk; have N1 := Lib.hid n1; have N2 := Lib.hid n2; have HGG := Lib.hid hgg
    clear hkk n1 n2 hgg
    go_upto_region 6 with (refine wpList_copy_rd rfl (.tmp 16) (.tmp 17) rfl g6 128 rfl _ _ _ rfl hkn2 (List.replicate 128 (Value.int .u8 0)) 67 N1.out zeros128 (hk0.map (Value.int .u8)) (HKR.out.keeps HK5.out) (int_oneCell hk0) ?_; intro W6 h6 hc6; have N6 := Lib.hid h6; have HC6 := Lib.hid hc6; clear h6 hc6)
    have hk6 : Keeps Wk W6 := keeps_chg HK5.out HC6.out HGG.out.1
    have hn7 : W6.heap[g7]? = some (.cells (List.replicate 128 (Value.int .u8 0)).toArray 67 (0, 0)) := by rw [HC6.out.block g7 (Array.getElem?_eq_some_iff.1 N2.out).1 (fun e => HGG.out.2.2.1 e.symm)]; exact N2.out
    have HK6 := Lib.hid hk6; have N7 := Lib.hid hn7
    clear hk6 hn7 HC6 HK5 N1 N2
    go_upto_region 7 with (refine wpList_copy_rd rfl (.tmp 19) (.tmp 20) rfl g7 128 rfl _ _ _ rfl hkn2 (List.replicate 128 (Value.int .u8 0)) 67 N7.out zeros128 (hk0.map (Value.int .u8)) (HKR.out.keeps HK6.out) (int_oneCell hk0) ?_; intro W7 h7 hc7; have N8 := Lib.hid h7; have HC7 := Lib.hid hc7; clear h7 hc7)
    have hk7 : Keeps Wk W7 := keeps_chg HK6.out HC7.out HGG.out.2.1
    have hn6 : W7.heap[g6]? = some (.cells (hp.map (Value.int .u8)).toArray 67 (0, 0)) := by
      rw [HC7.out.block g6 (Array.getElem?_eq_some_iff.1 N6.out).1 (fun e => HGG.out.2.2.1 e), ← HKM.out _ HKN.out]; exact N6.out
    have hn7 : W7.heap[g7]? = some (.cells (hp.map (Value.int .u8)).toArray 67 (0, 0)) := by
      rw [← HKM.out _ HKN.out]; exact N8.out
    have hr6 := row_block hn6
    have hr7 := row_block hn7
    rw [← hmix_zero 54 hp] at hr6
    rw [← hmix_zero 92 hp] at hr7
    have HK7 := Lib.hid hk7; have HR6 := Lib.hid hr6; have HR7 := Lib.hid hr7
    clear hk7 hn6 hn7 hr6 hr7 HK6 N6 N7 N8 HC7 HKR HKM HKN hkn2
    go_wp2
    go_loopw [22] (fun c wr => ∃ i : Nat, i ≤ 128 ∧ c = .int .i64 i ∧ Keeps Wk wr ∧ Row wr g6 0 ((hmix 54 hp i).map (Value.int .u8)) ∧ Row wr g7 0 ((hmix 92 hp i).map (Value.int .u8))) (fun c _ => (128 - intOf c).toNat)
    case atStart => exact ⟨0, by omega, rfl, HK7.out, HR6.out, HR7.out⟩
    case round =>
      obtain ⟨i, hi, rfl, hkr, hr6, hr7⟩ := hrel
      by_cases hlt : i < 128
      · have c6 := hr6.int0 i (by rw [hmix_length _ _ _ HPL.out hi]; exact hlt)
        have c7 := hr7.int0 i (by rw [hmix_length _ _ _ HPL.out hi]; exact hlt)
        rw [hmix_getD _ _ _ HPL.out hlt] at c6 c7
        have f6 := hr6.free0 i (by rw [List.length_map, hmix_length _ _ _ HPL.out hi]; exact hlt)
        have f7 := hr7.free0 i (by rw [List.length_map, hmix_length _ _ _ HPL.out hi]; exact hlt)
        have hs6 := hr6.setInt0 i (by rw [hmix_length _ _ _ HPL.out hi]; exact hlt) (bits .xor .u8 (hp.getD i 0) 54)
        rw [hmix_set _ _ _ HPL.out hlt] at hs6
        have hgne := HGG.out.2.2.1
        have hs7 := (hr7.other (p := ⟨g6, i, none⟩) (fun e => hgne e.symm) (.int .u8 (bits .xor .u8 (hp.getD i 0) 54))).setInt0 i (by rw [hmix_length _ _ _ HPL.out hi]; exact hlt) (bits .xor .u8 (hp.getD i 0) 92)
        rw [hmix_set _ _ _ HPL.out hlt] at hs7
        have HS6 := Lib.hid (hs6.other (p := ⟨g7, i, none⟩) hgne (.int .u8 (bits .xor .u8 (hp.getD i 0) 92))); have HS7 := Lib.hid hs7; have HKK := Lib.hid hkr
        clear hs6 hs7 hr6 hr7 hkr
        generalize hp.getD i 0 = x at *
        have hgne2 := hgne.symm
        go_wp2
        go_roundw
        case rel => exact ⟨i + 1, by omega, by go_num, Below.setCell (Below.setCell HKK.out (by have := HGG.out.1; exact this) _) (by have := HGG.out.2.1; exact this) _, HS6.out, HS7.out⟩
        case measure => simp [intOf]; omega
      · obtain rfl : i = 128 := by omega
        rw [hmix_full _ _ HPL.out] at hr6 hr7
        have hkw : Keeps w wr := HKW.out.trans hkr
        have hr4 := HR4.out.keeps hkr
        have hO := own_array (w := w) hkw HGG.out.2.2.2.1 (by rw [hxor_length, HPL.out]) (by omega) (by omega) hr6
        have HO := Lib.hid hO; have HR7b := Lib.hid hr7; have HR4b := Lib.hid hr4; have HKWr := Lib.hid hkw
        clear hkw hr4 hO hr6 hr7 hkr HR6 HR7 HK7
        have hp4g : p4 ≠ g6 ∧ p4 ≠ g7 := by have h1 := HR4.out.lt (by simp); have h2 := HGG.out; omega
        go_upto_region 14 with (first | (refine own_append rfl (.tmp 36) (.tmp 37) rfl HO.out (Keeps.refl _) rfl _ rfl n zs (Rd.src (HRB.out.keeps HKWr.out) Tryd.underlying38 (int_oneCell zs)) (by omega) ?_; intro v8 W8 hO8 hG8; have HO8 := Lib.hid hO8; have HG8 := Lib.hid hG8; clear hO8 hG8) | (go_at_call 27; refine (sum512_any _ (128 + n) (hxor 54 hp ++ zs) _ HO8.out.rd (fun x hx => by rcases List.mem_append.1 hx with h | h; exact hxor_bytes 54 hp x h; exact HZB.out x h) (by omega)).mono ?_; rintro e W9 ⟨rfl, hk9⟩; have HK9 := Lib.hid hk9; clear hk9) | (refine wpList_store_row rfl 43 (.tmp 9) (.tmp 39) rfl W9.heap.size 0 rfl (List.replicate 64 (Value.int .u8 0)) ((sha512 (hxor 54 hp ++ zs)).map (Value.int .u8)) rfl (Row.new _ _ _ rfl) (by rw [List.length_map, sha512_length]; rfl) (by rw [List.length_map, sha512_length]; exact sz64) (int_oneCell _) ?_; intro W10 hr10 hc10; have HR10 := Lib.hid hr10; have HC10 := Lib.hid hc10; clear hr10 hc10))
        have hl9 : W8.heap.size ≤ W9.heap.size := HK9.out.size
        have hl8 : wr.heap.size ≤ W8.heap.size := HG8.out.1.size
        have hg7l : g7 < wr.heap.size := HR7b.out.lt (by intro e; have := congrArg List.length e; rw [List.length_map, hxor_length, HPL.out] at this; simp at this)
        have hp4l : p4 < wr.heap.size := HR4b.out.lt (by simp)
        have hr7c : Row W10 g7 0 ((hxor 92 hp).map (Value.int .u8)) := (((HR7b.out.chg HG8.out.1 (fun e => HGG.out.2.2.1 (Option.some.inj (show some g6 = some g7 from e)))).keeps HK9.out).alloc _).chg HC10.out (by omega)
        have hr4c : Row W10 p4 0 (List.replicate 64 (Value.int .u8 0)) := (((HR4b.out.chg HG8.out.1 (fun e => hp4g.1 (Option.some.inj (show some g6 = some p4 from e)).symm)).keeps HK9.out).alloc _).chg HC10.out (by omega)
        have hkc : Keeps w W10 := keeps_chg (keeps_alloc (HO8.out.keeps.trans HK9.out) _) HC10.out (HO8.out.keeps.trans HK9.out).size
        have hq9 : W9.heap.size < W10.heap.size := HR10.out.lt (by intro e; have := congrArg List.length e; rw [List.length_map, sha512_length] at this; simp at this)
        have hd1 := sha512_length (hxor 54 hp ++ zs)
        have HDB := Lib.hid (sha512_bytes (hxor 54 hp ++ zs))
        generalize hde : sha512 (hxor 54 hp ++ zs) = d1 at *
        have HDE := Lib.hid hde
        clear hde
        have HO2 := Lib.hid (own_array (w := w) hkc HGG.out.2.2.2.2 (by rw [hxor_length, HPL.out]) (by omega) (by omega) hr7c)
        have HR4c := Lib.hid hr4c
        have HRD := Lib.hid (show Rd W10 1 (.slice (some ⟨W9.heap.size, 0, none⟩) 64 64) 64 (d1.map (Value.int .u8)) from Rd.of_row HR10.out (by simp [hd1]) hq9 (by omega) (by unfold maxLen; omega))
        have HD1 := Lib.hid hd1
        clear hr7c hr4c hkc hd1 HO HR7b HR4b HKWr HO8 HG8 HK9 HC10 HR10
        generalize W9.heap.size = q9 at *
        refine wp_region_quiet_tail 2 (by kernel_rfl) (by kernel_rfl) ?_
        simp only [List.take_succ_cons, List.take_zero, List.drop_succ_cons, List.drop_zero]
        repeat (first | go_big_quiet_step (fail) | quiet_step (fail))
        refine wpQuiet_nil ?_
        intro _ hw'
        obtain ⟨nq, hw''⟩ := hw'
        subst hw''
        go_wp2_with (first | (refine own_append rfl (.tmp 40) (.tmp 41) rfl HO2.out (Qt.drewN W10 nq).keeps rfl _ rfl 64 d1 (Rd.src (HRD.out.keeps (Qt.drewN W10 nq).keeps) Tryd.underlying38 (int_oneCell d1)) (by omega) ?_; intro v12 W12 hO12 hG12; have HO12 := Lib.hid hO12; have HG12 := Lib.hid hG12; clear hO12 hG12) | (go_at_call 27; refine (sum512_any _ (128 + 64) (hxor 92 hp ++ d1) _ HO12.out.rd (fun x hx => by rcases List.mem_append.1 hx with h | h; exact hxor_bytes 92 hp x h; exact HDB.out x h) (by omega)).mono ?_; rintro e W13 ⟨rfl, hk13⟩; have HK13 := Lib.hid hk13; clear hk13) | (refine wpList_store_row rfl 43 (.tmp 4) (.tmp 43) rfl p4 0 rfl (List.replicate 64 (Value.int .u8 0)) ((sha512 (hxor 92 hp ++ d1)).map (Value.int .u8)) rfl (((HR4c.out.drewN nq).chg HG12.out.1 (fun e => hp4g.2 (Option.some.inj (show some g7 = some p4 from e)).symm)).keeps HK13.out) (by rw [List.length_map, sha512_length]; rfl) (by rw [List.length_map, sha512_length]; exact sz64) (int_oneCell _) ?_; intro W14 hr14 hc14; have HR14 := Lib.hid hr14; have HC14 := Lib.hid hc14; clear hr14 hc14))
        exact bodyPost_ret (v := .agg ((sha512 (hxor 92 hp ++ d1)).map (Value.int .u8)).toArray) (results_cell_at (p := 4) (ty := 43) rfl _ _ p4 0 _ _ rfl HR14.out Tryd.underlying43 rfl (by rw [List.length_map, sha512_length]; exact sz64)) rfl ⟨by rw [HDE.out], keeps_chg (HO12.out.keeps.trans HK13.out) HC14.out (by have := HP4.out; omega)⟩
/-- two slices of one's own that lie apart -/
def Two (W : World) (x v : Value) : Prop := Apart W x v ∧ Apart W v x
theorem Two.symm {W : World} {x v : Value} (h : Two W x v) : Two W v x := ⟨h.2, h.1⟩
theorem Two.grown {w W W' : World} {x v v' : Value} {n : Nat} {l : List Int} (h : Two W x v) (hg : Grown W W' v v') (hb : Own w W' v' n l) : Two W' x v' := by
  refine ⟨h.1.grown hg, fun g e => ⟨hb.buf.lt e, fun e2 => ?_⟩⟩
  rcases hg.2 with e3 | ⟨g', e3, e4⟩
  · rw [e3] at e; exact (h.2 g e).2 e2
  · rw [e3] at e; cases e; have := (h.1 _ e2).1; omega
end Go.Proofs.YtlofddoojkeakaaDoor.B64
