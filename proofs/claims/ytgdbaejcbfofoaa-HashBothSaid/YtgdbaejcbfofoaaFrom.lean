/- hash.FromText: a text of 64 small hexadecimal digits is read back as the bytes, from the last on; another is refused with ErrForm. -/
import Derived.Test.YtgdbaejcbfofoaaText
import Derived.Laws.BitsLemmas
namespace Go.Proofs.Ytgdbaejcbfofoaa
set_option linter.unusedVariables false
set_option linter.unusedSimpArgs false
open Go Go.RowKit

/-- a string's byte -/
def bAt (s : ByteArray) (j : Nat) : Int := ((s.data.toList.getD j 0).toNat : Int)
theorem bAt_range (s : ByteArray) (j : Nat) : 0 ≤ bAt s j ∧ bAt s j < 256 := by
  have := (s.data.toList.getD j 0).toNat_lt
  unfold bAt
  omega
theorem run_index_string (W : World) (s : ByteArray) (j : Nat) (hj : j < s.size) : (Instr.index 9 (.string s) (.int .i64 (j : Int))).run Try.prog W = .ok (.int .u8 (bAt s j)) W := by
  have h1 : (0 : Int) ≤ (j : Int) ∧ (j : Int) < (s.size : Int) := by omega
  simp [Instr.index, run_underlying Try.underlying9, go_sem, asIntOf, h1, bAt]
  have h2 : s[j]? = some s[j] := getElem?_pos s j hj
  have h3 : s.data[j]? = some s[j] := by
    have : j < s.data.size := hj
    rw [getElem?_pos s.data j this]; rfl
  rw [h2, h3]
  rfl
/-- a digit's value, or -1 -/
def hexI (c : Int) : Int := Lib.indexByte digits16.data.toList c.toNat.toUInt8
theorem hexI_all : ∀ c : Fin 256, (-1 ≤ hexI (c.val : Int) ∧ hexI (c.val : Int) < 16) ∧ (0 ≤ hexI (c.val : Int) → dig (hexI (c.val : Int)) = (c.val : Int)) ∧ ((0 ≤ hexI (c.val : Int)) ↔ (48 ≤ c.val ∧ c.val ≤ 57 ∨ 97 ≤ c.val ∧ c.val ≤ 102)) := by decide +kernel
theorem hexI_dig : ∀ k : Fin 16, hexI (dig (k.val : Int)) = (k.val : Int) := by decide +kernel
theorem or16 : ∀ a b : Fin 16, bits .or .i64 ((a.val : Int) * 16) (b.val : Int) = (a.val : Int) * 16 + (b.val : Int) := by decide +kernel
def ftV (s : ByteArray) (j : Nat) : Int := hexI (bAt s (2 * j)) * 16 + hexI (bAt s (2 * j + 1))
def ftK (s : ByteArray) (i : Nat) : List Int := List.replicate (32 - i) 0 ++ ((List.range i).reverse.map (ftV s))
theorem ftK_length (s : ByteArray) (i : Nat) (h : i ≤ 32) : (ftK s i).length = 32 := by simp [ftK]; omega
theorem ftK_set (s : ByteArray) (i : Nat) (h : i < 32) : (ftK s i).set (31 - i) (ftV s i) = ftK s (i + 1) := by
  unfold ftK
  rw [List.set_append_left _ _ (by simp; omega)]
  have e : (List.replicate (32 - i) (0 : Int)).set (31 - i) (ftV s i) = List.replicate (32 - (i + 1)) 0 ++ [ftV s i] := by
    rw [show 32 - i = (32 - (i + 1)) + 1 by omega, List.replicate_succ', List.set_append_right _ _ (by simp)]
    simp [show 31 - i - (32 - (i + 1)) = 0 by omega]
  rw [e, List.range_succ, List.reverse_append, List.append_assoc]
  simp
def ftGood (s : ByteArray) : Prop := s.size = 64 ∧ ∀ j, j < 64 → 0 ≤ hexI (bAt s j)
theorem keeps_allocT {w W : World} (h : Keeps w W) (o : Obj) : Keeps w (W.alloc o) := Below.alloc h h.size o
theorem keeps_chgT {w W W' : World} {p : Nat} (h : Keeps w W) (c : Chg (· = p) W W') (hp : w.heap.size ≤ p) : Keeps w W' := Below.trans h (Chg.below c h.size (fun k hk e => by omega))
theorem idx_any (c : Int) (w : World) : Calls Try.prog 67 #[.string ⟨#[48, 49, 50, 51, 52, 53, 54, 55, 56, 57, 97, 98, 99, 100, 101, 102]⟩, .int .u8 c] w fun e w' => e = .returned (.int .i64 (hexI c)) ∧ w = w' :=
  (Try.strings_IndexByte ⟨#[48, 49, 50, 51, 52, 53, 54, 55, 56, 57, 97, 98, 99, 100, 101, 102]⟩ c w).mono fun e w' ⟨h1, h2⟩ => ⟨h1, h2.symm⟩
theorem results_cell_tmp {P : Program} {fn : Func} {p t : Tmp} {ty : TypeId} (h : fn.results = #[.cell p ty, .tmp t]) (tmps : Array Value) (w : World) (g off : Nat) (cs : List Value) (d : TypeDesc) (u : Value) (hu' : tmps.getD t undef = u)
    (hp : tmps.getD p undef = .pointer (some ⟨g, off, none⟩)) (hg : Row w g off cs)
    (hu : P.underlying ty = some d) (hd : (match d with | .struct _ | .array _ _ => true | _ => false) = true) (hi : (P.info? ty).map (·.size) = some cs.length) :
    (results fn tmps).run P w = .ok (.tuple #[.agg cs.toArray, u]) w := by
  have hp' : tmps[p]?.getD undef = .pointer (some ⟨g, off, none⟩) := by simpa using hp
  have hu2 : tmps[t]?.getD undef = u := by simpa using hu'
  simp [results, h, hp', hu2, asAddr, run_loadVar_at w g off ty cs d hg hu hd hi]
def zeroB : List Int := List.replicate 32 0
/-- what FromText hands back -/
def FtPost (s : ByteArray) (L : List Int) (E : Int) : Prop := ftGood s ∧ L = ftK s 32 ∧ E = 0 ∨ ¬ ftGood s ∧ L = zeroB ∧ E = 3
theorem sz_hash2 : (Try.prog.info? 37).map (·.size) = some 32 := by kernel_rfl
set_option maxRecDepth 100000 in
set_option maxHeartbeats 2000000 in
theorem fromText_any (s : ByteArray) (hmax : s.size ≤ maxLen) (w : World) : Calls Try.prog 22 #[.string s] w fun e w' => ∃ L E, e = .returned (.tuple #[.agg (L.map (Value.int .u8)).toArray, .int .i64 E]) ∧ Keeps w w' ∧ FtPost s L E := by
  unfold maxLen at hmax
  have ZZ : Hid ((Try.prog.info? 37).map (·.size) = some (zeroB.map (Value.int .u8)).length) := Lib.hid sz_hash2
  have bad : ¬ ftGood s → FtPost s zeroB 3 := fun h => .inr ⟨h, rfl, rfl⟩
  have HBAD := Lib.hid bad
  clear bad
  go_enter Try.func22, Try.ntmps22
  go_upto_region 2 with (fail)
  have hk0 : Keeps w ((w.alloc (.cells (zeroB.map (Value.int .u8)).toArray 37)).alloc (.cells (zeroB.map (Value.int .u8)).toArray 37)) := keeps_allocT (keeps_allocT (Keeps.refl w) _) _
  have hr2 : Row ((w.alloc (.cells (zeroB.map (Value.int .u8)).toArray 37)).alloc (.cells (zeroB.map (Value.int .u8)).toArray 37)) w.heap.size 0 (zeroB.map (Value.int .u8)) := (Row.new _ _ _ rfl).alloc _
  have hr4 : Row ((w.alloc (.cells (zeroB.map (Value.int .u8)).toArray 37)).alloc (.cells (zeroB.map (Value.int .u8)).toArray 37)) (w.heap.size + 1) 0 (zeroB.map (Value.int .u8)) := by
    have := Row.new (w := w.alloc (.cells (zeroB.map (Value.int .u8)).toArray 37)) (zeroB.map (Value.int .u8)) _ 37 rfl
    rwa [World.size_alloc] at this
  have hpq : w.heap.size ≤ w.heap.size + 1 := by omega
  obtain ⟨q, hq⟩ : ∃ q, q = w.heap.size + 1 := ⟨_, rfl⟩
  obtain ⟨p, hp⟩ : ∃ p, p = w.heap.size := ⟨_, rfl⟩
  rw [← hq] at hr4 ⊢
  rw [← hp] at hr2 ⊢
  have HP := Lib.hid (And.intro hp hq)
  clear hp hq hpq
  refine wp_gen (fun W => Keeps w W ∧ Row W p 0 (zeroB.map (Value.int .u8)) ∧ Row W q 0 (zeroB.map (Value.int .u8))) ⟨hk0, hr2, hr4⟩ ?_
  clear hk0 hr2 hr4
  intro W0 ⟨hk, hr2, hr4⟩
  have HK := Lib.hid hk; have HR2 := Lib.hid hr2; have HR4 := Lib.hid hr4
  clear hk hr2 hr4
  by_cases h64 : s.size = 64
  · go_wp2
    go_loopw [12] (fun c wr => ∃ i : Nat, i ≤ 32 ∧ c = .int .i64 i ∧ Chg (· = q) W0 wr ∧ Row wr q 0 ((ftK s i).map (Value.int .u8)) ∧ ∀ j, j < 2 * i → 0 ≤ hexI (bAt s j)) (fun c _ => (32 - intOf c).toNat)
    case atStart => exact ⟨0, by omega, rfl, Chg.refl _ _, HR4.out, fun j hj => by omega⟩
    case round =>
      obtain ⟨i, hi, rfl, hch, hrt, hgood⟩ := hrel
      by_cases hlt : i < 32
      · have hi1 := fun W => run_index_string W s (2 * i) (by omega)
        have hi2 := fun W => run_index_string W s (2 * i + 1) (by omega)
        have hv : ftV s i = hexI (bAt s (2 * i)) * 16 + hexI (bAt s (2 * i + 1)) := rfl
        have hx1 := (hexI_all ⟨(bAt s (2 * i)).toNat, by have := bAt_range s (2 * i); omega⟩).1
        have hx2 := (hexI_all ⟨(bAt s (2 * i + 1)).toNat, by have := bAt_range s (2 * i + 1); omega⟩).1
        simp only at hx1 hx2
        rw [Int.toNat_of_nonneg (bAt_range s (2 * i)).1] at hx1
        rw [Int.toNat_of_nonneg (bAt_range s (2 * i + 1)).1] at hx2
        have hce := hrt.int0 (31 - i) (by rw [ftK_length _ _ hi]; omega)
        have hfr := hrt.free0 (31 - i) (by rw [List.length_map, ftK_length _ _ hi]; omega)
        have hset := fun nq => (hrt.drewN nq).setInt0 (31 - i) (by rw [ftK_length _ _ hi]; omega) (ftV s i)
        simp only [ftK_set s i hlt] at hset
        have hbad1 : hexI (bAt s (2 * i)) < 0 → ¬ ftGood s := fun h g => by have := g.2 (2 * i) (by omega); omega
        have hbad2 : hexI (bAt s (2 * i + 1)) < 0 → ¬ ftGood s := fun h g => by have := g.2 (2 * i + 1) (by omega); omega
        have hgood2 : 0 ≤ hexI (bAt s (2 * i)) → 0 ≤ hexI (bAt s (2 * i + 1)) → ∀ j, j < 2 * (i + 1) → 0 ≤ hexI (bAt s j) := fun h1 h2 j hj => by
          by_cases h : j < 2 * i
          · exact hgood j h
          · obtain rfl | rfl : j = 2 * i ∨ j = 2 * i + 1 := by omega
            · exact h1
            · exact h2
        have HSET := Lib.hid hset; have HB1 := Lib.hid hbad1; have HB2 := Lib.hid hbad2; have HG2 := Lib.hid hgood2; have HV := Lib.hid hv; have HCH := Lib.hid hch
        clear hset hbad1 hbad2 hgood2 hv hch hrt hgood
        push_cast at hi1 hi2
        generalize bAt s (2 * i) = c1 at *
        generalize bAt s (2 * i + 1) = c2 at *
        have hidx1 := fun W => idx_any c1 W
        have hidx2 := fun W => idx_any c2 W
        generalize hexI c1 = x at *
        generalize hexI c2 = z at *
        go_wp2
        go_quiet (first | (go_at_call 67; first | exact s1 (hidx1 _) | exact s2 (hidx1 _) | exact s1 (hidx2 _) | exact s2 (hidx2 _)))
        have hstore : ∀ W, Chg (· = q) W0 W → Row W p 0 (zeroB.map (Value.int .u8)) := fun W h => HR2.out.chg h (by have := HP.out; omega)
        have hkq : ∀ W, Chg (· = q) W0 W → Keeps w W := fun W h => keeps_chgT HK.out h (by have := HP.out; omega)
        have HST := Lib.hid hstore; have HKQ := Lib.hid hkq
        clear hstore hkq
        by_cases hx : x < 0 ∨ z < 0
        · have hng : ¬ ftGood s := hx.elim HB1.out HB2.out
          have hd : x < 0 ∨ (0 ≤ x ∧ z < 0) := by omega
          rcases hd with hd | ⟨hd1, hd2⟩
          all_goals
            go_wp2_with (refine wpList_store_row rfl 37 (.tmp 2) (.tmp 32) rfl p 0 rfl _ (zeroB.map (Value.int .u8)) rfl (HST.out _ (HCH.out.trans ((Qt.drewN wr nq).keeps.chg _))) rfl ZZ.out (int_oneCell _) ?_; intro W5 hr5 hc5; have HR5 := Lib.hid hr5; have HC5 := Lib.hid hc5; clear hr5 hc5)
            refine bodyPost_ret (v := .tuple #[.agg (zeroB.map (Value.int .u8)).toArray, .int .i64 3]) (results_cell_tmp (p := 2) (t := 3) (ty := 37) rfl _ _ p 0 _ _ _ rfl rfl HR5.out Try.underlying37 rfl ZZ.out) rfl ⟨zeroB, 3, rfl, ?_, HBAD.out hng⟩
            exact keeps_chgT (HKQ.out _ (HCH.out.trans ((Qt.drewN wr nq).keeps.chg _))) HC5.out (by have := HP.out; omega)
        · have hx0 : 0 ≤ x := by omega
          have hz0 : 0 ≤ z := by omega
          have hor := or16 ⟨x.toNat, by omega⟩ ⟨z.toNat, by omega⟩
          simp only at hor
          rw [Int.toNat_of_nonneg hx0, Int.toNat_of_nonneg hz0] at hor
          have hgd := HG2.out hx0 hz0
          have HGD := Lib.hid hgd
          clear hgd hx
          go_wp2
          go_roundw
          case rel => exact ⟨i + 1, by omega, by go_num, (HCH.out.trans ((Qt.drewN wr nq).keeps.chg _)).setCell (.inr rfl) _, by rw [← HV.out]; exact HSET.out nq, HGD.out⟩
          case measure => simp [intOf]; omega
      · obtain rfl : i = 32 := by omega
        have hg : ftGood s := ⟨h64, fun j hj => hgood j (by omega)⟩
        have hr2' := HR2.out.chg hch (by have := HP.out; omega)
        have hk' := keeps_chgT HK.out hch (by have := HP.out; omega)
        have hlf := ftK_length s 32 (Nat.le_refl _)
        have Z32 : Hid ((Try.prog.info? 37).map (·.size) = some ((ftK s 32).map (Value.int .u8)).length) := by
          rw [List.length_map, hlf]; exact Lib.hid sz_hash2
        have HRT := Lib.hid hrt; have HR2' := Lib.hid hr2'; have HK' := Lib.hid hk'
        clear hrt hr2' hk' hch hgood
        go_wp2_with (first | (refine wpList_load_at rfl 37 (.tmp 4) rfl q 0 rfl _ _ HRT.out Try.underlying37 rfl Z32.out ?_) | (refine wpList_store_row rfl 37 (.tmp 2) (.tmp 42) rfl p 0 rfl _ _ rfl HR2'.out (by simp [zeroB, hlf]) Z32.out (int_oneCell _) ?_; intro W5 hr5 hc5; have HR5 := Lib.hid hr5; have HC5 := Lib.hid hc5; clear hr5 hc5))
        refine bodyPost_ret (v := .tuple #[.agg ((ftK s 32).map (Value.int .u8)).toArray, .int .i64 0]) (results_cell_tmp (p := 2) (t := 3) (ty := 37) rfl _ _ p 0 _ _ _ rfl rfl HR5.out Try.underlying37 rfl Z32.out) rfl ⟨ftK s 32, 0, rfl, ?_, .inl ⟨hg, rfl, rfl⟩⟩
        exact keeps_chgT HK'.out HC5.out (by have := HP.out; omega)
  · have h64' : (s.size : Int) ≠ 64 := by omega
    go_wp2_with (refine wpList_store_row rfl 37 (.tmp 2) (.tmp 11) rfl p 0 rfl _ (zeroB.map (Value.int .u8)) rfl HR2.out rfl ZZ.out (int_oneCell _) ?_; intro W5 hr5 hc5; have HR5 := Lib.hid hr5; have HC5 := Lib.hid hc5; clear hr5 hc5)
    refine bodyPost_ret (v := .tuple #[.agg (zeroB.map (Value.int .u8)).toArray, .int .i64 3]) (results_cell_tmp (p := 2) (t := 3) (ty := 37) rfl _ _ p 0 _ _ _ rfl rfl HR5.out Try.underlying37 rfl ZZ.out) rfl ⟨zeroB, 3, rfl, ?_, HBAD.out (fun h => h64 h.1)⟩
    exact keeps_chgT HK.out HC5.out (by have := HP.out; omega)
end Go.Proofs.Ytgdbaejcbfofoaa
