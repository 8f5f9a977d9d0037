/- The reference's reduce: a wide number modulo m. No condition. -/
import Derived.Test.YtajipagpdphejaaGB5
namespace Go.Proofs.Ytajipagpdphejaa
set_option linter.unusedVariables false
set_option linter.unusedSimpArgs false
open Go Go.RowKit

theorem RedI.start {L : List Int} (hl : L.length = 17) (hd : Digs 4294967296 L) (Hn d : Int) : RedI (_root_.Go.Proofs.Ytajipagpdphejaa.val 4294967296 (L.take 8)) Hn d 0 (mixL L (List.replicate 17 0) 8) where
  len := by rw [mixL_length (by omega) (by simp)]; rfl
  dg := (hd.take 8).append ((Digs.zeros (by decide) 17).drop 8)
  val := by
    unfold mixL
    rw [val_append, show (List.replicate 17 (0 : Int)).drop 8 = List.replicate 9 0 from rfl, val_zeros]
    simp [Int.emod_one]
theorem mixL_8 {L : List Int} : mixL L (List.replicate 8 0) 8 = L.take 8 := by
  unfold mixL
  rw [show (List.replicate 8 (0 : Int)).drop 8 = [] from rfl, List.append_nil]
theorem red_digit {L : List Int} (hl : L.length = 17) (hd : Digs 4294967296 L) {i : Nat} (hi : i < 9) : L.getD (i + 8) 0 = val 4294967296 (L.drop 8) / 4294967296 ^ i % 4294967296 := by
  have := val_getD (by decide) (hd.drop 8) (j := i) (by rw [List.length_drop, hl]; omega)
  rw [← this, getD_drop', Nat.add_comm]
structure FinSt (m lo : Int) (k : Nat) (u : Int) : Prop where
  r : U256 u
  md : u % m = lo % m
  k : k = 0 ∨ (k = 1 ∧ u < m)
/-- the memory of reduce; with its wide number of the round; with its last number -/
def RedMem (w wr : World) (p q : Nat) (L M D : List Int) (Z : List Value) : Prop := Keeps w wr ∧ Row wr p 0 (L.map (Value.int .u32)) ∧ Row wr (p + 1) 0 (M.map (Value.int .u32)) ∧ Row wr (p + 1 + 1) 0 Z ∧ Row wr q 0 (D.map (Value.int .u32)) ∧ p + 1 + 1 < q ∧ q < wr.heap.size
theorem RedMem.keeps {w wr w' : World} {p q : Nat} {L M D : List Int} {Z : List Value} (h : RedMem w wr p q L M D Z) (hk : Keeps wr w') : RedMem w w' p q L M D Z :=
  ⟨h.1.trans hk, h.2.1.keeps hk, h.2.2.1.keeps hk, h.2.2.2.1.keeps hk, h.2.2.2.2.1.keeps hk, h.2.2.2.2.2.1, Nat.lt_of_lt_of_le h.2.2.2.2.2.2 hk.size⟩
theorem RedMem.chg {w wr w' : World} {p q n : Nat} {L M D : List Int} {Z : List Value} (h : RedMem w wr p q L M D Z) (hc : Chg (· = n) wr w') (hp : w.heap.size ≤ p) (hn : q < n) : RedMem w w' p q L M D Z :=
  have h6 := h.2.2.2.2.2.1
  ⟨nm_keeps_chg h.1 hc (by omega), h.2.1.chg hc (by omega), h.2.2.1.chg hc (by omega), h.2.2.2.1.chg hc (by omega), h.2.2.2.2.1.chg hc (by omega), h6, Nat.lt_of_lt_of_le h.2.2.2.2.2.2 hc.size⟩
def RedMem2 (w wr : World) (p q n : Nat) (L M D N : List Int) (Z : List Value) : Prop := RedMem w wr p q L M D Z ∧ Row wr n 0 (N.map (Value.int .u32)) ∧ q < n
theorem RedMem2.drew {w wr : World} {p q n : Nat} {L M D N : List Int} {Z : List Value} (h : RedMem2 w wr p q n L M D N Z) : RedMem2 w wr.drew p q n L M D N Z :=
  ⟨h.1.keeps (keeps_drew1 (Keeps.refl _)), h.2.1.drew, h.2.2⟩
theorem set_chg (w : World) (n i : Nat) (u : Value) : Chg (· = n) w (w.setCell ⟨n, i, none⟩ u) := Chg.setCell (S := (· = n)) (Chg.refl _ _) (.inr rfl) u
theorem RedMem2.set {w wr : World} {p q n : Nat} {L M D N : List Int} {Z : List Value} (h : RedMem2 w wr p q n L M D N Z) (hp : w.heap.size ≤ p) {i : Nat} (hi : i < N.length) (t : Int) : RedMem2 w (wr.setCell ⟨n, i, none⟩ (.int .u32 t)) p q n L M D (N.set i t) Z :=
  ⟨h.1.chg (set_chg _ _ _ _) hp h.2.2, h.2.1.setInt0 i hi t, h.2.2⟩
set_option maxRecDepth 100000 in
set_option maxHeartbeats 8000000 in
theorem reduce_any (m V : Int) (hm : RMod m) (L0 : List Int) (hl : L0.length = 17) (hd : Digs 4294967296 L0) (hV : val 4294967296 L0 = V) (hb : V < redB 0) (w : World) :
    Calls Try.prog 74 #[.agg (L0.map (Value.int .u32)).toArray, .agg ((words8 m).map (Value.int .u32)).toArray] w fun e w' => e = .returned (.agg ((words8 (V % m)).map (Value.int .u32)).toArray) ∧ Keeps w w' := by
  have HS0 := Lib.hid (show RedSt m V 0 L0 from ⟨hl, hd, by rw [hV], by rw [hV]; exact hb⟩)
  have hM2 := hm.two; have hmu := hm.u.2; have hmd := hm.d
  have HMN := Lib.hid (rminus_any 0 m ⟨by omega, by decide⟩ hm.u)
  rw [show words8 (0 - m) = words8 (115792089237316195423570985008687907853269984665640564039457584007913129639936 - m) by rw [words8_mod (0 - m), words8_mod (115792089237316195423570985008687907853269984665640564039457584007913129639936 - m)]; congr 1; omega] at HMN
  rw [show ((words8 0).map (Value.int .u32)).toArray = #[.int .u32 0, .int .u32 0, .int .u32 0, .int .u32 0, .int .u32 0, .int .u32 0, .int .u32 0, .int .u32 0] by simp [words8, List.range_succ]] at HMN
  have HMOD := Lib.hid hm
  obtain ⟨d, hdd⟩ : ∃ d, d = 115792089237316195423570985008687907853269984665640564039457584007913129639936 - m := ⟨_, rfl⟩
  rw [← hdd] at HMN
  have HDD := Lib.hid hdd
  have HD0 := Lib.hid (show 0 ≤ d by omega); have HD1 := Lib.hid (show d < 1361129467683753853853498429727072845824 by omega)
  have HDG := Lib.hid (words8_getD d)
  have HDR := Lib.hid (words8_range d)
  have hdl := words8_length d
  have hml := words8_length m
  have hrl := words8_length (V % m)
  have HLESS := Lib.hid (fun u (hu : U256 u) => rless8_any u m hu hm.u)
  have HSUB := Lib.hid (fun u (hu : U256 u) => rminus_any u m hu hm.u)
  have HFIN := Lib.hid (fun u (h0 : 0 ≤ u) (h1 : u < m) (h2 : u % m = V % m) => show words8 u = words8 (V % m) by rw [← h2, Int.emod_eq_of_lt h0 h1])
  clear hm hl hd hV hb hdd hmd
  generalize words8 (V % m) = RES at *
  generalize words8 d = D at *
  generalize words8 m = M at *
  have HDL := Lib.hid hdl; have HML := Lib.hid hml; have HRL := Lib.hid hrl; have HM2 := Lib.hid hM2; have HMU := Lib.hid hmu
  clear hdl hml hrl hM2 hmu
  go_enter Try.func74, Try.ntmps74
  go_upto_region 1 with (fail)
  refine wp_rows3 (fun W hk hra hrb hr2 hs => ?_)
  obtain ⟨p, hp⟩ : ∃ p, p = w.heap.size := ⟨_, rfl⟩
  rw [← hp] at hra hrb hr2 hs ⊢
  have hkp : w.heap.size ≤ p := by omega
  obtain ⟨Z, hZ, hrz⟩ : ∃ Z : List Value, Z.length = 8 ∧ Row W (p + 1 + 1) 0 Z := ⟨_, rfl, hr2⟩
  have hps : p + 1 + 1 < W.heap.size := by omega
  have HRA := Lib.hid (show Row W p 0 (L0.map (Value.int .u32)) from hra); have HRB := Lib.hid (show Row W (p + 1) 0 (M.map (Value.int .u32)) from hrb); have HRZ := Lib.hid hrz; have HK := Lib.hid hk
  clear hp hra hrb hr2 hrz hk hs
  go_upto_region 2 with (first | ((with_reducible refine gate_load 37 (.tmp 3) ?_); refine wpList_load_at rfl 37 (.tmp 3) rfl _ 0 rfl (M.map (Value.int .u32)) _ HRB.out Try.underlying37 rfl (by rw [List.length_map, HML.out]; exact sz_rnum) ?_) | (go_at_call 60; refine (HMN.out _).mono ?_; rintro e W1 ⟨rfl, hk1⟩; have HK1 := Lib.hid hk1; clear hk1) | ((with_reducible refine gate_store 37 (.tmp 5) (.tmp 22) ?_); refine wpList_store_row rfl 37 (.tmp 5) (.tmp 22) rfl W1.heap.size 0 rfl [.int .u32 0, .int .u32 0, .int .u32 0, .int .u32 0, .int .u32 0, .int .u32 0, .int .u32 0, .int .u32 0] (D.map (Value.int .u32)) rfl (Row.new _ _ _ rfl) (by rw [List.length_map, HDL.out]; rfl) (by rw [List.length_map, HDL.out]; exact sz_rnum) (int_oneCell _) ?_; intro W2 hr2 hc2; have HR2 := Lib.hid hr2; have HK2 := Lib.hid (nm_keeps_chg (nm_keeps_alloc HK1.out _) hc2 HK1.out.size); have HSZ := Lib.hid (hr2.lt (by intro e; have := congrArg List.length e; rw [List.length_map, HDL.out] at this; cases this)); clear hr2 hc2))
  have HMM0 := Lib.hid (show RedMem w W2 p W1.heap.size L0 M D Z from ⟨HK.out.trans HK2.out, HRA.out.keeps HK2.out, HRB.out.keeps HK2.out, HRZ.out.keeps HK2.out, HR2.out, Nat.lt_of_lt_of_le hps HK1.out.size, HSZ.out⟩)
  generalize W1.heap.size = q at *
  clear HRA HRB HRZ HK HK1 HK2 HR2 HSZ hps
  go_wp2
  go_loopw [6, 7, 8, 9, 10, 11, 12, 13, 14, 15, 16] (fun c _ _ _ _ _ _ _ _ _ _ wr => ∃ (k : Nat) (L : List Int), k ≤ 4 ∧ c = .int .i64 k ∧ Hid (RedSt m V k L) ∧ Hid (RedMem w wr p q L M D Z)) (fun c _ _ _ _ _ _ _ _ _ _ _ => (6 - intOf c).toNat)
  case atStart => exact ⟨0, _, by omega, rfl, HS0, HMM0⟩
  case round =>
    obtain ⟨k, L, hk, rfl, HS, HMM⟩ := hrel
    have hk6 : (k : Int) < 6 := by omega
    have hL := HS.out.len
    have HL := Lib.hid hL
    go_wp2
    go_loopw [7, 8] (fun hb c wr => ∃ (i : Nat) (F : Bool), 8 ≤ i ∧ i ≤ 17 ∧ c = .int .i64 i ∧ hb = .bool F ∧ Hid (HiF L i F) ∧ Hid (RedMem w wr p q L M D Z)) (fun _ c _ => (17 - intOf c).toNat)
    case atStart => exact ⟨8, false, by omega, by omega, rfl, rfl, Lib.hid (HiF.zero L), HMM⟩
    case round =>
      obtain ⟨i, F, hi8, hi, rfl, rfl, HF, HMM⟩ := hrel
      by_cases hlt : i < 17
      · cases F with
        | true =>
          go_wp2
          go_roundw
          case rel => exact ⟨i + 1, true, by omega, by omega, by go_num, rfl, Lib.hid HF.out.yes, HMM⟩
          case measure => simp [intOf]; omega
        | false =>
          have ca := HMM.out.2.1.int0 i (by omega)
          have HNX := Lib.hid (HF.out.no hi8)
          generalize L.getD i 0 = a at *
          go_wp2
          go_roundw
          case rel => exact ⟨i + 1, a != 0, by omega, by omega, by go_num, by first | rfl | simp, HNX, HMM⟩
          case measure => simp [intOf]; omega
      · obtain rfl : i = 17 := by omega
        cases F with
        | false =>
          have hz := HF.out.out_no hL
          have hlo := HS.out.lo
          have hsp := HS.out.split
          have hvl := HS.out.val
          rw [hz, Int.mul_zero, Int.add_zero] at hsp
          rw [hsp] at hvl
          have htk := words8_val (HS.out.dg.take 8) (by rw [List.length_take, hL]; rfl)
          generalize val 4294967296 (L.take 8) = lo at *
          have HF0 := Lib.hid (show FinSt m lo 0 lo from ⟨hlo, rfl, .inl rfl⟩)
          have HVL := Lib.hid hvl
          have HTK := Lib.hid htk
          clear hz hlo hsp hvl htk HF HS
          go_upto_region 34 with (fail)
          refine cu_rows1 (fun W3 hk3 hr3 hs3 => ?_)
          have HMM := Lib.hid (show RedMem2 w W3 p q wr.heap.size L M D (mixL L (List.replicate 8 0) 0) Z from ⟨HMM.out.keeps hk3, by rw [mixL_zero]; exact hr3, HMM.out.2.2.2.2.2.2⟩)
          generalize wr.heap.size = n at *
          clear hk3 hr3 hs3
          go_wp2
          go_loopw [18] (fun c wr => ∃ (i : Nat), i ≤ 8 ∧ c = .int .i64 i ∧ Hid (RedMem2 w wr p q n L M D (mixL L (List.replicate 8 0) i) Z)) (fun c _ => (8 - intOf c).toNat)
          case atStart => exact ⟨0, by omega, rfl, HMM⟩
          case round =>
            obtain ⟨i, hi, rfl, HMM⟩ := hrel
            by_cases hlt : i < 8
            · have hl9 : (mixL L (List.replicate 8 0) i).length = 8 := by rw [mixL_length (by omega) (by simp; omega)]; rfl
              have ca := HMM.out.1.2.1.int0 i (by omega)
              have cb := HMM.out.2.1.int0 i (by omega)
              have fb := HMM.out.2.1.free0 i (by rw [List.length_map]; omega)
              have HSET := Lib.hid (HMM.out.set hkp (i := i) (by omega) (L.getD i 0))
              rw [mixL_set (by omega) (by simp; omega)] at HSET
              generalize (mixL L (List.replicate 8 0) i).getD i 0 = old at *
              generalize L.getD i 0 = a at *
              clear HMM
              go_wp2
              go_roundw
              case rel => exact ⟨i + 1, by omega, by go_num, HSET⟩
              case measure => simp [intOf]; omega
            · obtain rfl : i = 8 := by omega
              rw [mixL_8, HTK.out] at HMM
              go_wp2
              go_loopw [19] (fun c wr => ∃ (k : Nat) (u : Int), c = .int .i64 k ∧ Hid (FinSt m lo k u) ∧ Hid (RedMem2 w wr p q n L M D (words8 u) Z)) (fun c _ => (3 - intOf c).toNat)
              case atStart => exact ⟨0, _, rfl, HF0, HMM⟩
              case round =>
                obtain ⟨k, u, rfl, HF, HMM⟩ := hrel
                have hk3 : (k : Int) < 3 := by have := HF.out.k; omega
                have HLS := Lib.hid (HLESS.out u HF.out.r)
                have HSB := Lib.hid (HSUB.out u HF.out.r)
                have hul := words8_length u
                by_cases hum : u < m
                · rw [decide_eq_true hum] at HLS
                  have hfin := HFIN.out u HF.out.r.1 hum (by rw [HF.out.md, HVL.out])
                  rw [hfin] at HMM HLS
                  have hrl := HRL.out
                  have HOM := Lib.hid hum
                  clear hum hfin HSB hul
                  go_upto_region 42 with (first | ((with_reducible refine gate_load 37 (.tmp 17) ?_); refine cu_load (by kernel_rfl) 37 (.tmp 17) rfl _ 0 rfl (RES.map (Value.int .u32)) _ HMM.out.2.1 Try.underlying37 rfl (by rw [List.length_map, hrl]; exact sz_rnum) ?_) | ((with_reducible refine gate_load 37 (.tmp 3) ?_); refine cu_load (by kernel_rfl) 37 (.tmp 3) rfl _ 0 rfl (M.map (Value.int .u32)) _ HMM.out.1.2.2.1 Try.underlying37 rfl (by rw [List.length_map, HML.out]; exact sz_rnum) ?_) | (go_at_call 25; refine (HLS.out _).mono ?_; rintro e W5 ⟨rfl, hk5⟩; have HK5 := Lib.hid hk5; clear hk5))
                  have HM5 := Lib.hid (HMM.out.1.keeps HK5.out)
                  have HR5 := Lib.hid (HMM.out.2.1.keeps HK5.out)
                  go_wp2_with (first | ((with_reducible refine gate_load 37 (.tmp 17) ?_); refine wpList_load_at rfl 37 (.tmp 17) rfl _ 0 rfl (RES.map (Value.int .u32)) _ HR5.out Try.underlying37 rfl (by rw [List.length_map, hrl]; exact sz_rnum) ?_) | ((with_reducible refine gate_store 37 (.tmp 4) (.tmp 136) ?_); refine wpList_store_row rfl 37 (.tmp 4) (.tmp 136) rfl (p + 1 + 1) 0 rfl Z (RES.map (Value.int .u32)) rfl HM5.out.2.2.2.1 (by rw [List.length_map, hrl, hZ]) (by rw [List.length_map, hrl]; exact sz_rnum) (int_oneCell _) ?_; intro w8 hr9 hc9; have H9 := Lib.hid hr9; have HC9 := Lib.hid hc9; clear hr9 hc9))
                  exact bodyPost_ret (v := .agg (RES.map (Value.int .u32)).toArray) (results_cell_at (p := 4) (ty := 37) rfl _ _ (p + 1 + 1) 0 _ _ rfl H9.out Try.underlying37 rfl (by rw [List.length_map, hrl]; exact sz_rnum)) rfl ⟨rfl, nm_keeps_chg HM5.out.1 HC9.out (by omega)⟩
                · rw [decide_eq_false hum] at HLS
                  have hk0 : k = 0 := by have := HF.out.k; omega
                  subst hk0
                  have HNX := Lib.hid (show FinSt m lo 1 (u - m) from ⟨⟨by have := HF.out.r.1; omega, by have := HF.out.r.2; have := HMU.out; have := HMOD.out.u.1; omega⟩, by rw [← HF.out.md]; exact Int.sub_emod_right u m, .inr ⟨rfl, by have := HF.out.r.2; have := HM2.out; omega⟩⟩)
                  have hsl := words8_length (u - m)
                  generalize hU : words8 u = U at *
                  generalize hS : words8 (u - m) = S at *
                  have HSS := Lib.hid hS
                  have HOM := Lib.hid hum
                  clear hU hS hum HF
                  go_upto_region 41 with (first | ((with_reducible refine gate_load 37 (.tmp 17) ?_); refine cu_load (by kernel_rfl) 37 (.tmp 17) rfl _ 0 rfl (U.map (Value.int .u32)) _ HMM.out.2.1 Try.underlying37 rfl (by rw [List.length_map, hul]; exact sz_rnum) ?_) | ((with_reducible refine gate_load 37 (.tmp 3) ?_); refine cu_load (by kernel_rfl) 37 (.tmp 3) rfl _ 0 rfl (M.map (Value.int .u32)) _ HMM.out.1.2.2.1 Try.underlying37 rfl (by rw [List.length_map, HML.out]; exact sz_rnum) ?_) | (go_at_call 25; refine (HLS.out _).mono ?_; rintro e W5 ⟨rfl, hk5⟩; have HK5 := Lib.hid hk5; clear hk5))
                  have HM5 := Lib.hid (HMM.out.1.keeps HK5.out)
                  have HR5 := Lib.hid (HMM.out.2.1.keeps HK5.out)
                  go_upto_region 40 with (first | ((with_reducible refine gate_load 37 (.tmp 17) ?_); refine cu_load (by kernel_rfl) 37 (.tmp 17) rfl _ 0 rfl (U.map (Value.int .u32)) _ HR5.out Try.underlying37 rfl (by rw [List.length_map, hul]; exact sz_rnum) ?_) | ((with_reducible refine gate_load 37 (.tmp 3) ?_); refine cu_load (by kernel_rfl) 37 (.tmp 3) rfl _ 0 rfl (M.map (Value.int .u32)) _ HM5.out.2.2.1 Try.underlying37 rfl (by rw [List.length_map, HML.out]; exact sz_rnum) ?_) | (go_at_call 60; refine (HSB.out _).mono ?_; rintro e W6 ⟨rfl, hk6⟩; have HK6 := Lib.hid hk6; clear hk6) | ((with_reducible refine gate_store 37 (.tmp 17) (.tmp 135) ?_); refine wpList_store_row rfl 37 (.tmp 17) (.tmp 135) rfl n 0 rfl (U.map (Value.int .u32)) (S.map (Value.int .u32)) rfl (HR5.out.keeps HK6.out) (by rw [List.length_map, List.length_map, hsl, hul]) (by rw [List.length_map, hsl]; exact sz_rnum) (int_oneCell _) ?_; intro W8 hr9 hc9; have HNM := Lib.hid (show RedMem2 w W8 p q n L M D S Z from ⟨(HM5.out.keeps HK6.out).chg hc9 hkp HMM.out.2.2, hr9, HMM.out.2.2⟩); clear hr9 hc9))
                  go_wp2
                  go_roundw
                  case rel => first | exact ⟨1, _, rfl, HNX, by rw [HSS.out]; exact HNM⟩ | ((repeat apply Exists.intro); focus (refine ⟨?_, rfl⟩; exact ⟨1, _, rfl, HNX, by rw [HSS.out]; exact HNM⟩))
                  case measure => simp [intOf]
        | true =>
          have hpos := HF.out.out_yes HS.out.dg
          have hlo := HS.out.lo
          have hhi := HS.out.hi
          have HDIG := Lib.hid (fun i (hi : i < 9) => red_digit hL HS.out.dg hi)
          have HI0 := Lib.hid (RedI.start hL HS.out.dg (val 4294967296 (L.drop 8)) d)
          have HNEXT := Lib.hid (fun N (h : RedI (val 4294967296 (L.take 8)) (val 4294967296 (L.drop 8)) d 9 N) => RedI.next (by rw [HDD.out] at h; exact h) HMOD.out HS.out rfl rfl hpos)
          generalize val 4294967296 (L.take 8) = lo at *
          generalize val 4294967296 (L.drop 8) = Hn at *
          have HLO0 := Lib.hid hlo.1
          have HLO1 := Lib.hid (show lo < 4294967296 ^ 8 by rw [B32_eight]; exact hlo.2)
          have HHI := Lib.hid hhi
          clear hpos hlo hhi HF
          go_upto_region 12 with (fail)
          refine cu_rows1 (fun W3 hk3 hr3 hs3 => ?_)
          have HMM := Lib.hid (show RedMem2 w W3 p q wr.heap.size L M D (mixL L (List.replicate 17 0) 0) Z from ⟨HMM.out.keeps hk3, by rw [mixL_zero]; exact hr3, HMM.out.2.2.2.2.2.2⟩)
          generalize wr.heap.size = n at *
          clear hk3 hr3 hs3
          go_wp2
          go_loopw [10] (fun c wr => ∃ (i : Nat), i ≤ 8 ∧ c = .int .i64 i ∧ Hid (RedMem2 w wr p q n L M D (mixL L (List.replicate 17 0) i) Z)) (fun c _ => (8 - intOf c).toNat)
          case atStart => exact ⟨0, by omega, rfl, HMM⟩
          case round =>
            obtain ⟨i, hi, rfl, HMM⟩ := hrel
            by_cases hlt : i < 8
            · have hl9 : (mixL L (List.replicate 17 0) i).length = 17 := by rw [mixL_length (by omega) (by simp; omega)]; rfl
              have ca := HMM.out.1.2.1.int0 i (by omega)
              have cb := HMM.out.2.1.int0 i (by omega)
              have fb := HMM.out.2.1.free0 i (by rw [List.length_map]; omega)
              have HSET := Lib.hid (HMM.out.set hkp (i := i) (by omega) (L.getD i 0))
              rw [mixL_set (by omega) (by simp; omega)] at HSET
              generalize (mixL L (List.replicate 17 0) i).getD i 0 = old at *
              generalize L.getD i 0 = a at *
              clear HMM
              go_wp2
              go_roundw
              case rel => exact ⟨i + 1, by omega, by go_num, HSET⟩
              case measure => simp [intOf]; omega
            · obtain rfl : i = 8 := by omega
              go_wp2
              go_loopw [11, 12, 13, 14, 15, 16] (fun c _ _ _ _ _ wr => ∃ (i ii : Nat) (N : List Int), i ≤ 9 ∧ Hid (ii = i + 8) ∧ c = .int .i64 ii ∧ Hid (RedI lo Hn d i N) ∧ Hid (RedMem2 w wr p q n L M D N Z)) (fun c _ _ _ _ _ _ => (17 - intOf c).toNat)
              case atStart => exact ⟨0, 8, _, by omega, Lib.hid rfl, rfl, HI0, HMM⟩
              case round =>
                obtain ⟨i, ii, N, hi, HII, rfl, HI, HMM⟩ := hrel
                by_cases hlt : i < 9
                · have hii : (ii : Int) < 17 := by have := HII.out; omega
                  have hii2 : ii < 17 := by omega
                  have w9 : IntKind.i64.wrap ((ii : Int) - 8) = (i : Int) := by rw [IntKind.wrap_i64]; have := HII.out; omega
                  have w9' : ((ii : Int) - 8) = (i : Int) := by have := HII.out; omega
                  have hdig := HDIG.out i hlt
                  rw [← HII.out] at hdig
                  have HCA := Lib.hid (fun w9 L9 (h : RedMem2 w w9 p q n L M D L9 Z) => h.1.2.1.int0 ii (by omega))
                  have har := HS.out.dg.getD (i := ii) (by omega)
                  generalize L.getD ii 0 = a at *
                  have HDI := Lib.hid hdig
                  have HOUT := Lib.hid (fun N c (h : RedIn lo Hn d i 8 N c) => h.out HLO0.out HLO1.out HHI.out.1 HHI.out.2 HD0.out HD1.out)
                  clear hdig
                  go_wp2
                  go_loopw [12, 13, 14] (fun cc c _ wr => ∃ (k : Nat) (N : List Int) (cv : Int), k ≤ 8 ∧ c = .int .i64 k ∧ cc = .int .u64 cv ∧ Hid (RedIn lo Hn d i k N cv) ∧ Hid (RedMem2 w wr p q n L M D N Z)) (fun _ c _ _ => (8 - intOf c).toNat)
                  case atStart => exact ⟨0, _, 0, by omega, rfl, rfl, Lib.hid HI.out.inn, HMM⟩
                  case round =>
                    obtain ⟨k, N2, cv, hk4, rfl, rfl, HIN, HM3⟩ := hrel
                    have hL2 := HIN.out.len
                    have c0 := HIN.out.c0; have c1 := HIN.out.c1
                    by_cases hltk : k < 8
                    · have ca := HCA.out _ _ HM3.out
                      have cb := HM3.out.1.2.2.2.2.1.int0 k (by rw [HDL.out]; exact hltk)
                      have hyr := HDR.out k hltk
                      have hdg := HDG.out k hltk
                      have hik : (i : Int) + (k : Int) < 17 := by omega
                      have cl := HM3.out.2.1.int0 (i + k) (by omega)
                      have HCL := Lib.hid (HM3.out.drew.2.1.int0 (i + k) (by omega))
                      have HFL := Lib.hid (HM3.out.drew.2.1.free0 (i + k) (by rw [List.length_map]; omega))
                      have ht := HIN.out.dg.getD (i := i + k) (by omega)
                      have HSTEPk := Lib.hid (fun c' t' => HIN.out.step (a := a) (b := D.getD k 0) (c' := c') (t' := t') hlt hltk HDI.out hdg)
                      have HSET := Lib.hid (fun t => HM3.out.drew.set hkp (i := i + k) (by omega) t)
                      generalize D.getD k 0 = b at *
                      generalize N2.getD (i + k) 0 = t at *
                      clear HM3 hL2 hdg
                      obtain ⟨s, hs0, q1, q2, q3, q4, q5, q6, q7, q8, q9, q10⟩ := mul_digit32 (a := a) (b := b) (c := cv) (t := t) har hyr ⟨c0, c1⟩ ht
                      have HNEW := Lib.hid (HSTEPk.out (s / 4294967296) (s % 4294967296) q6 q7 q8 q9 q10)
                      have HSET := Lib.hid (HSET.out (s % 4294967296))
                      have w0 : IntKind.u64.wrap (a * b) = a * b := by rw [IntKind.wrap_u64]; omega
                      have w1 : IntKind.u64.wrap (a * b + t) = a * b + t := by rw [IntKind.wrap_u64]; omega
                      have w2 : IntKind.u64.wrap (a * b + t + cv) = s := by rw [IntKind.wrap_u64, hs0]; omega
                      have HS0 := Lib.hid hs0
                      clear hs0 q10 q1 q2 q3
                      go_wp2
                      go_region
                      generalize wr.drew = w1 at *
                      have c1 := HCL.out
                      have f1 := HFL.out
                      clear HCL HFL
                      have hw : IntKind.u32.wrap s = s % 4294967296 := by rw [IntKind.wrap_u32]
                      go_wp2
                      go_roundw
                      case rel => first | exact ⟨k + 1, _, s / 4294967296, by omega, by go_num, by first | rfl | go_num, HNEW, HSET⟩ | ((repeat apply Exists.intro); focus (refine ⟨?_, rfl⟩; exact ⟨k + 1, _, s / 4294967296, by omega, by go_num, by first | rfl | go_num, HNEW, HSET⟩))
                      case measure => simp [intOf]; omega
                    · obtain rfl : k = 8 := by omega
                      have HC0 := HOUT.out _ _ HIN.out
                      rw [← HII.out] at HC0
                      have HC0 := Lib.hid HC0
                      clear hL2 c0 c1 HIN
                      go_wp2
                      go_loopw [12, 15, 16] (fun cc c _ wr => ∃ (k : Nat) (N : List Int) (cv : Int), c = .int .i64 k ∧ cc = .int .u64 cv ∧ Hid (RedC (lo + Hn % 4294967296 ^ (i + 1) * d) k N cv) ∧ Hid (RedMem2 w wr p q n L M D N Z)) (fun _ c _ _ => (17 - intOf c).toNat)
                      case atStart => exact ⟨ii, _, _, rfl, rfl, HC0, HM3⟩
                      case round =>
                        obtain ⟨k, N3, cv, rfl, rfl, HC, HM4⟩ := hrel
                        have hL3 := HC.out.len
                        have c0 := HC.out.c0; have c1 := HC.out.c1
                        by_cases hcv : cv = 0
                        · subst hcv
                          have HNI := Lib.hid HC.out.out
                          clear HC hL3 c0 c1
                          by_cases hk17 : k < 17
                          · go_wp2
                            go_roundw
                            case rel => first | exact ⟨i + 1, ii + 1, _, by omega, Lib.hid (by have := HII.out; omega), by go_num, HNI, HM4⟩ | exact ⟨i + 1, by omega, ii + 1, Lib.hid (by have := HII.out; omega), by go_num, _, HNI, HM4⟩ | ((repeat apply Exists.intro); focus (refine ⟨?_, rfl⟩; exact ⟨i + 1, ii + 1, _, by omega, Lib.hid (by have := HII.out; omega), by go_num, HNI, HM4⟩))
                            case measure => simp [intOf]; omega
                          · go_wp2
                            go_roundw
                            case rel => first | exact ⟨i + 1, ii + 1, _, by omega, Lib.hid (by have := HII.out; omega), by go_num, HNI, HM4⟩ | exact ⟨i + 1, by omega, ii + 1, Lib.hid (by have := HII.out; omega), by go_num, _, HNI, HM4⟩ | ((repeat apply Exists.intro); focus (refine ⟨?_, rfl⟩; exact ⟨i + 1, ii + 1, _, by omega, Lib.hid (by have := HII.out; omega), by go_num, HNI, HM4⟩))
                            case measure => simp [intOf]; omega
                        · have hk17 := HC.out.lt hcv
                          have hcp : cv > 0 := by omega
                          have cl := HM4.out.2.1.int0 k (by omega)
                          have fl := HM4.out.2.1.free0 k (by rw [List.length_map]; omega)
                          have ht := HC.out.dg.getD (i := k) (by omega)
                          have HST := Lib.hid (fun c' t' => HC.out.step (c' := c') (t' := t') hk17)
                          have HSET := Lib.hid (fun t => HM4.out.set hkp (i := k) (by omega) t)
                          generalize N3.getD k 0 = t at *
                          clear HM4 hL3
                          have HNEW := Lib.hid (HST.out ((t + cv) / 4294967296) ((t + cv) % 4294967296) (by omega) (by omega) (by omega) (by omega) (by omega))
                          have HSET := Lib.hid (HSET.out ((t + cv) % 4294967296))
                          have w0 : IntKind.u64.wrap (t + cv) = t + cv := by rw [IntKind.wrap_u64]; omega
                          have hz0 : 0 ≤ t + cv := by omega
                          have hz1 : t + cv < 8589934592 := by omega
                          clear HST
                          obtain ⟨z, hz⟩ : ∃ z, t + cv = z := ⟨_, rfl⟩
                          rw [hz] at HNEW HSET hz0 hz1
                          have w0 : IntKind.u64.wrap (t + cv) = z := by rw [w0, hz]
                          have HZ := Lib.hid hz
                          clear hz
                          have hw : IntKind.u32.wrap z = z % 4294967296 := by rw [IntKind.wrap_u32]
                          go_wp2
                          go_roundw
                          case rel => first | exact ⟨k + 1, _, z / 4294967296, by go_num, by first | rfl | go_num | rw [HZ.out], HNEW, by first | exact HSET | (rw [HZ.out]; exact HSET)⟩ | ((repeat apply Exists.intro); focus (refine ⟨?_, rfl⟩; exact ⟨k + 1, _, z / 4294967296, by go_num, by first | rfl | go_num | rw [HZ.out], HNEW, by first | exact HSET | (rw [HZ.out]; exact HSET)⟩))
                          case measure => simp [intOf]; omega
                · obtain rfl : i = 9 := by omega
                  obtain rfl : ii = 17 := by have := HII.out; omega
                  obtain ⟨hk4, hst⟩ := HNEXT.out N HI.out
                  have hnl := HI.out.len
                  have HST := Lib.hid hst
                  clear hst
                  go_upto_region 4 with (first | ((with_reducible refine gate_load 119 (.tmp 9) ?_); refine wpList_load_at rfl 119 (.tmp 9) rfl _ 0 rfl (N.map (Value.int .u32)) _ HMM.out.2.1 Try.underlying119 rfl (by rw [List.length_map, hnl]; exact sz_wide) ?_) | ((with_reducible refine gate_store 119 (.tmp 2) (.tmp 113) ?_); refine wpList_store_row rfl 119 (.tmp 2) (.tmp 113) rfl p 0 rfl (L.map (Value.int .u32)) (N.map (Value.int .u32)) rfl HMM.out.1.2.1 (by rw [List.length_map, List.length_map, hnl, HL.out]) (by rw [List.length_map, hnl]; exact sz_wide) (int_oneCell _) ?_; intro W8 hr9 hc9; have HNM := Lib.hid (show RedMem w W8 p q N M D Z from ⟨nm_keeps_chg HMM.out.1.1 hc9 (by omega), hr9, HMM.out.1.2.2.1.chg hc9 (by omega), HMM.out.1.2.2.2.1.chg hc9 (by omega), HMM.out.1.2.2.2.2.1.chg hc9 (by have := HMM.out.1.2.2.2.2.2.1; omega), HMM.out.1.2.2.2.2.2.1, Nat.lt_of_lt_of_le HMM.out.1.2.2.2.2.2.2 hc9.size⟩); clear hr9 hc9))
                  go_wp2
                  go_roundw
                  case rel => exact ⟨k + 1, N, by omega, by go_num, HST, HNM⟩
                  case measure => simp [intOf]; omega
end Go.Proofs.Ytajipagpdphejaa
