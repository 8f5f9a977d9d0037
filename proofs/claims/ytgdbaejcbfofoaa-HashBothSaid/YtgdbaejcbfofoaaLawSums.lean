/- HashSums: the three digests of any bytes. The walk: true, whatever the bytes. -/
import Derived.Test.YtgdbaejcbfofoaaRip
import Derived.Test.YtgdbaejcbfofoaaRefRip
import Derived.Test.YtgdbaejcbfofoaaTexts
namespace Go.Proofs.Ytgdbaejcbfofoaa
set_option linter.unusedVariables false
set_option linter.unusedSimpArgs false
open Go Go.RowKit

/-- an array of n bytes is the same as itself -/
theorem equal_same_n (n : Nat) (W : World) (t : TypeId) (ht : Try.prog.underlying t = some (.array n 5)) (xs : List Int) (hx : Bytes xs) (hl : xs.length = n) :
    (Op.equalIn 10000 t (.agg (xs.map (Value.int .u8)).toArray) (.agg (xs.map (Value.int .u8)).toArray)).run Try.prog W = .ok true W := by
  have e : xs.map (Value.int .u8) = (xs.map fun x => UInt8.ofNat x.toNat).map Extern.Stop.cell := by
    rw [List.map_map]
    exact List.map_congr_left fun x hx' => u8_cell x (hx x hx').1 (hx x hx').2
  have := run_equalIn_bytes (P := Try.prog) W 9998 t 5 n ht Try.underlying5 sz_u8 (xs.map fun x => UInt8.ofNat x.toNat) (xs.map fun x => UInt8.ofNat x.toNat) (by simp [hl]) (by simp [hl])
  rw [← e] at this
  simpa using this
/-- the first 600 bytes of what came in -/
theorem short_rd {w : World} {a : Option Addr} {len cap : Nat} {zs : List Int} (hr : Rd w 1 (.slice a len cap) len (zs.map (Value.int .u8))) : Rd w 1 (.slice a (min len 600) cap) (min len 600) ((zs.take (min len 600)).map (Value.int .u8)) := by
  obtain ⟨h0, a', cap', e, h2, h3, h4, h5⟩ := hr
  cases e
  have h0' : zs.length = len := by simpa using h0
  refine ⟨by simp; omega, _, _, rfl, by omega, h3, fun e => by have := h4 e; omega, fun ad e hn => ?_⟩
  obtain ⟨g, off, e2, hg, hrw⟩ := h5 ad e (by omega)
  refine ⟨g, off, e2, hg, ?_⟩
  rw [List.map_take]; exact hrw.take _
theorem short_call {w : World} {a : Option Addr} {len cap : Nat} {xs : List Value} (hr : Rd w 1 (.slice a len cap) len xs) : ∀ W, Calls Try.prog 12 #[.slice a len cap] W fun e w' => e = .returned (.slice a (min len 600) cap) ∧ W = w' := fun W => by
  obtain ⟨_, a', cap', e, h2, h3, h4, _⟩ := hr
  cases e
  exact short_any a len cap W h2 h3 (fun e => (h4 e).1)
set_option maxRecDepth 100000 in
set_option maxHeartbeats 4000000 in
theorem sums_law (a : Option Addr) (len cap : Nat) (zs : List Int) (w : World) (hr : Rd w 1 (.slice a len cap) len (zs.map (Value.int .u8))) (hz : Bytes zs) :
    Calls Try.prog 8 #[.slice a len cap] w fun e w' => e = .returned (.bool true) ∧ Keeps w w' := by
  have hsh := short_call hr
  have hr6 := short_rd hr
  have hN : min len 600 ≤ 600 := by omega
  have hzb := hz.take (min len 600)
  clear hz
  have hzl : (zs.take (min len 600)).length = min len 600 := by have := hr6.1; simpa using this
  clear hr
  generalize zs.take (min len 600) = zs at *
  generalize min len 600 = N at *
  have HSH := Lib.hid hsh; have HR := Lib.hid hr6; have HZB := Lib.hid hzb; have HZL := Lib.hid hzl
  clear hsh hr6 hzb hzl
  go_enter Try.func8, Try.ntmps8
  go_upto_region 4 with (first | (go_at_call 11; refine (awake_any _).mono ?_; rintro e W1 ⟨rfl, hk1⟩; have HK1 := Lib.hid hk1; clear hk1) | (go_at_call 12; refine (HSH.out _).mono ?_; rintro e W1' ⟨rfl, rfl⟩))
  go_upto_region 5 with (go_at_call 13; refine (spare_any _ N zs _ (HR.out.keeps HK1.out) (by omega)).mono ?_; rintro e W2 ⟨rfl, hk2, hl2, hr2⟩; have HK2 := Lib.hid hk2; have HR2 := Lib.hid hr2; clear hk2 hr2)
  obtain ⟨q, hq⟩ : ∃ q, q = W1.heap.size := ⟨_, rfl⟩
  rw [← hq] at HR2 hl2 ⊢
  clear hq
  have hrp : Rd W2 1 (.slice (some ⟨q, 0, none⟩) N (N + 9)) N (zs.map (Value.int .u8)) := Rd.of_row (by
    have := HR2.out.take N
    rw [← List.map_take, spareL, List.take_append_of_le_length (by have := HZL.out; omega), List.take_of_length_le (by have := HZL.out; omega)] at this
    exact this) (by have := HZL.out; simp; omega) hl2 (by omega) (by unfold maxLen; omega)
  have hrb := HR.out.keeps (HK1.out.trans HK2.out)
  have h1 : ∀ W, Keeps W2 W → Calls Try.prog 20 #[.slice (some ⟨q, 0, none⟩) N (N + 9)] W fun e w' => e = .returned (.agg ((sha256 zs).map (Value.int .u8)).toArray) ∧ Keeps W w' := fun W hk => sum256_any _ N zs W (hrp.keeps hk) HZB.out (by omega)
  have h2 : ∀ W, Keeps W2 W → Calls Try.prog 17 #[.slice a N cap] W fun e w' => e = .returned (.agg ((sha256 zs).map (Value.int .u8)).toArray) ∧ Keeps W w' := fun W hk => ref_sum256 _ N zs W (hrb.keeps hk) HZB.out (by omega)
  have h3 : ∀ W, Keeps W2 W → Calls Try.prog 44 #[.slice (some ⟨q, 0, none⟩) N (N + 9)] W fun e w' => e = .returned (.agg ((B64.sha512 zs).map (Value.int .u8)).toArray) ∧ Keeps W w' := fun W hk => B64.sum512_any _ N zs W (hrp.keeps hk) HZB.out (by omega)
  have h4 : ∀ W, Keeps W2 W → Calls Try.prog 45 #[.slice a N cap] W fun e w' => e = .returned (.agg ((B64.sha512 zs).map (Value.int .u8)).toArray) ∧ Keeps W w' := fun W hk => B64.ref_sum512 _ N zs W (hrb.keeps hk) HZB.out (by omega)
  have h5 : ∀ W, Keeps W2 W → Calls Try.prog 46 #[.slice (some ⟨q, 0, none⟩) N (N + 9)] W fun e w' => e = .returned (.agg ((Rip.rip160 zs).map (Value.int .u8)).toArray) ∧ Keeps W w' := fun W hk => Rip.ripemd_any _ N zs W (hrp.keeps hk) HZB.out (by omega)
  have h6 : ∀ W, Keeps W2 W → Calls Try.prog 47 #[.slice a N cap] W fun e w' => e = .returned (.agg ((Rip.rip160 zs).map (Value.int .u8)).toArray) ∧ Keeps W w' := fun W hk => Rip.ref_ripemd _ N zs W (hrb.keeps hk) HZB.out (by omega)
  have h7 : ∀ W, Keeps W2 W → Calls Try.prog 15 #[.slice (some ⟨q, 0, none⟩) (N + 9) (N + 9), .slice a N cap] W fun e w' => e = .returned (.bool true) ∧ Keeps W w' := fun W hk => (kept_any _ N q _ zs W (hrb.keeps hk) (by omega) (HR2.out.keeps hk)).mono fun _ _ h => ⟨h.1, h.2.keeps⟩
  have e1 : ∀ W, (Op.equalIn 10000 37 (.agg ((sha256 zs).map (Value.int .u8)).toArray) (.agg ((sha256 zs).map (Value.int .u8)).toArray)).run Try.prog W = .ok true W := fun W => equal_same_n 32 W _ Try.underlying37 _ (sha_bytes _) (sha_length _)
  have e2 : ∀ W, (Op.equalIn 10000 68 (.agg ((B64.sha512 zs).map (Value.int .u8)).toArray) (.agg ((B64.sha512 zs).map (Value.int .u8)).toArray)).run Try.prog W = .ok true W := fun W => equal_same_n 64 W _ Try.underlying68 _ (B64.sha512_bytes _) (B64.sha512_length _)
  have e3 : ∀ W, (Op.equalIn 10000 70 (.agg ((Rip.rip160 zs).map (Value.int .u8)).toArray) (.agg ((Rip.rip160 zs).map (Value.int .u8)).toArray)).run Try.prog W = .ok true W := fun W => equal_same_n 20 W _ Try.underlying70 _ (Rip.rip160_bytes _) (Rip.rip160_length _)
  have H1 := Lib.hid h1; have H2 := Lib.hid h2; have H3 := Lib.hid h3; have H4 := Lib.hid h4; have H5 := Lib.hid h5; have H6 := Lib.hid h6; have H7 := Lib.hid h7
  have E1 := Lib.hid e1; have E2 := Lib.hid e2; have E3 := Lib.hid e3
  have HK12 := Lib.hid (HK1.out.trans HK2.out)
  clear h1 h2 h3 h4 h5 h6 h7 e1 e2 e3 hrp hrb HR2 HR HSH HK1 HK2
  generalize sha256 zs = X1 at *
  generalize B64.sha512 zs = X2 at *
  generalize Rip.rip160 zs = X3 at *
  have HKC := Lib.hid (Keeps.refl W2)
  go_wp2_with (first | (refine wpList_eql_same (by kernel_rfl) _ _ _ _ rfl _ rfl rfl (by first | exact E1.out | exact E2.out | exact E3.out) (by kernel_rfl) ?_) | (go_at_call 20; refine (H1.out _ HKC.out).mono ?_; rintro e W' ⟨rfl, hk⟩; have HKD := Lib.hid (HKC.out.trans hk); clear HKC hk; have HKC := HKD; clear HKD) | (go_at_call 17; refine (H2.out _ HKC.out).mono ?_; rintro e W' ⟨rfl, hk⟩; have HKD := Lib.hid (HKC.out.trans hk); clear HKC hk; have HKC := HKD; clear HKD) | (go_at_call 44; refine (H3.out _ HKC.out).mono ?_; rintro e W' ⟨rfl, hk⟩; have HKD := Lib.hid (HKC.out.trans hk); clear HKC hk; have HKC := HKD; clear HKD) | (go_at_call 45; refine (H4.out _ HKC.out).mono ?_; rintro e W' ⟨rfl, hk⟩; have HKD := Lib.hid (HKC.out.trans hk); clear HKC hk; have HKC := HKD; clear HKD) | (go_at_call 46; refine (H5.out _ HKC.out).mono ?_; rintro e W' ⟨rfl, hk⟩; have HKD := Lib.hid (HKC.out.trans hk); clear HKC hk; have HKC := HKD; clear HKD) | (go_at_call 47; refine (H6.out _ HKC.out).mono ?_; rintro e W' ⟨rfl, hk⟩; have HKD := Lib.hid (HKC.out.trans hk); clear HKC hk; have HKC := HKD; clear HKD) | (go_at_call 15; refine (H7.out _ HKC.out).mono ?_; rintro e W' ⟨rfl, hk⟩; have HKD := Lib.hid (HKC.out.trans hk); clear HKC hk; have HKC := HKD; clear HKD))
  go_ret
  exact ⟨rfl, HK12.out.trans HKC.out⟩
end Go.Proofs.Ytgdbaejcbfofoaa
