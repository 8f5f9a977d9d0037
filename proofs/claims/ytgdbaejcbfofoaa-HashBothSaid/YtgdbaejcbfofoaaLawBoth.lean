/- HashBoth: digests of digests, and digests with a key. The walk: true, whatever the bytes. -/
import Derived.Test.YtgdbaejcbfofoaaRefHmac
import Derived.Test.YtgdbaejcbfofoaaHash160
import Derived.Test.YtgdbaejcbfofoaaLawSums
namespace Go.Proofs.Ytgdbaejcbfofoaa
set_option linter.unusedVariables false
set_option linter.unusedSimpArgs false
open Go Go.RowKit

/-- what Spare has laid reads as the bytes that it copied -/
theorem spare_rd {W : World} {q N : Nat} {zs : List Int} (hr : Row W q 0 ((spareL zs N).map (Value.int .u8))) (hl : q < W.heap.size) (hz : zs.length = N) (hN : N ≤ 600) : Rd W 1 (.slice (some ⟨q, 0, none⟩) N (N + 9)) N (zs.map (Value.int .u8)) :=
  Rd.of_row (by
    have := hr.take N
    rw [← List.map_take, spareL, List.take_append_of_le_length (by omega), List.take_of_length_le (by omega)] at this
    exact this) (by simp; omega) hl (by omega) (by unfold maxLen; omega)
set_option maxRecDepth 100000 in
set_option maxHeartbeats 4000000 in
theorem both_law (a : Option Addr) (len cap : Nat) (ks : List Int) (b : Option Addr) (len2 cap2 : Nat) (zs : List Int) (w : World) (hr : Rd w 1 (.slice a len cap) len (ks.map (Value.int .u8))) (hk : Bytes ks) (hr2 : Rd w 1 (.slice b len2 cap2) len2 (zs.map (Value.int .u8))) (hz : Bytes zs) :
    Calls Try.prog 9 #[.slice a len cap, .slice b len2 cap2] w fun e w' => e = .returned (.bool true) ∧ Keeps w w' := by
  have hsh := short_call hr
  have hsh2 := short_call hr2
  have hr6 := short_rd hr
  have hr62 := short_rd hr2
  have hN : min len 600 ≤ 600 := by omega
  have hN2 : min len2 600 ≤ 600 := by omega
  have hkb := hk.take (min len 600)
  have hzb := hz.take (min len2 600)
  clear hz hk
  have hkl : (ks.take (min len 600)).length = min len 600 := by have := hr6.1; simpa using this
  have hzl : (zs.take (min len2 600)).length = min len2 600 := by have := hr62.1; simpa using this
  clear hr hr2
  generalize ks.take (min len 600) = ks at *
  generalize zs.take (min len2 600) = zs at *
  generalize min len 600 = K at *
  generalize min len2 600 = N at *
  have HSH := Lib.hid hsh; have HR := Lib.hid hr6; have HKB := Lib.hid hkb; have HKL := Lib.hid hkl
  have HSH2 := Lib.hid hsh2; have HR2 := Lib.hid hr62; have HZB := Lib.hid hzb; have HZL := Lib.hid hzl
  clear hsh hr6 hzb hzl hsh2 hr62 hkb hkl
  go_enter Try.func9, Try.ntmps9
  go_upto_region 4 with (first | (go_at_call 11; refine (awake_any _).mono ?_; rintro e W1 ⟨rfl, hk1⟩; have HK1 := Lib.hid hk1; clear hk1) | (go_at_call 12; refine (HSH.out _).mono ?_; rintro e W1' ⟨rfl, rfl⟩) | (go_at_call 12; refine (HSH2.out _).mono ?_; rintro e W1' ⟨rfl, rfl⟩))
  go_upto_region 5 with (go_at_call 13; refine (spare_any _ N zs _ (HR2.out.keeps HK1.out) (by omega)).mono ?_; rintro e W2 ⟨rfl, hk2, hl2, hs2⟩; have HK2 := Lib.hid hk2; have HS2 := Lib.hid hs2; clear hk2 hs2)
  obtain ⟨q, hq⟩ : ∃ q, q = W1.heap.size := ⟨_, rfl⟩
  rw [← hq] at HS2 hl2 ⊢
  clear hq
  go_upto_region 6 with (go_at_call 13; refine (spare_any _ K ks _ (HR.out.keeps (HK1.out.trans HK2.out)) (by omega)).mono ?_; rintro e W3 ⟨rfl, hk3, hl3, hs3⟩; have HK3 := Lib.hid hk3; have HS3 := Lib.hid hs3; clear hk3 hs3)
  obtain ⟨q3, hq3⟩ : ∃ q, q = W2.heap.size := ⟨_, rfl⟩
  rw [← hq3] at HS3 hl3 ⊢
  clear hq3
  have hkk := HK1.out.trans (HK2.out.trans HK3.out)
  have hrp := (spare_rd HS2.out hl2 HZL.out hN2).keeps HK3.out
  have hrk := spare_rd HS3.out hl3 HKL.out hN
  have hrb := HR2.out.keeps hkk
  have hra := HR.out.keeps hkk
  have hs2 := HS2.out.keeps HK3.out
  have h1 : ∀ W, Keeps W3 W → Calls Try.prog 48 #[.slice (some ⟨q, 0, none⟩) N (N + 9)] W fun e w' => e = .returned (.agg ((sha256 (sha256 zs)).map (Value.int .u8)).toArray) ∧ Keeps W w' := fun W hk => double_any _ N zs W (hrp.keeps hk) HZB.out (by omega)
  have h2 : ∀ W, Keeps W3 W → Calls Try.prog 19 #[.slice b N cap2] W fun e w' => e = .returned (.agg ((sha256 (sha256 zs)).map (Value.int .u8)).toArray) ∧ Keeps W w' := fun W hk => ref_double _ N zs W (hrb.keeps hk) HZB.out (by omega)
  have h3 : ∀ W, Keeps W3 W → Calls Try.prog 49 #[.slice (some ⟨q, 0, none⟩) N (N + 9)] W fun e w' => e = .returned (.agg ((Rip.rip160 (sha256 zs)).map (Value.int .u8)).toArray) ∧ Keeps W w' := fun W hk => Rip.hash160_any _ N zs W (hrp.keeps hk) HZB.out (by omega)
  have h4 : ∀ W, Keeps W3 W → Calls Try.prog 50 #[.slice b N cap2] W fun e w' => e = .returned (.agg ((Rip.rip160 (sha256 zs)).map (Value.int .u8)).toArray) ∧ Keeps W w' := fun W hk => Rip.ref_hash160 _ N zs W (hrb.keeps hk) HZB.out (by omega)
  have h5 : ∀ W, Keeps W3 W → Calls Try.prog 51 #[.slice (some ⟨q3, 0, none⟩) K (K + 9), .slice (some ⟨q, 0, none⟩) N (N + 9)] W fun e w' => e = .returned (.agg ((B64.hmac ks zs).map (Value.int .u8)).toArray) ∧ Keeps W w' := fun W hk => B64.hmac_any _ _ K N ks zs W (hrk.keeps hk) HKB.out (by omega) (hrp.keeps hk) HZB.out (by omega)
  have h6 : ∀ W, Keeps W3 W → Calls Try.prog 52 #[.slice a K cap, .slice b N cap2] W fun e w' => e = .returned (.agg ((B64.hmac ks zs).map (Value.int .u8)).toArray) ∧ Keeps W w' := fun W hk => B64.ref_hmac _ _ K N ks zs W (hra.keeps hk) HKB.out (by omega) (hrb.keeps hk) HZB.out (by omega)
  have h7 : ∀ W, Keeps W3 W → Calls Try.prog 15 #[.slice (some ⟨q, 0, none⟩) (N + 9) (N + 9), .slice b N cap2] W fun e w' => e = .returned (.bool true) ∧ Keeps W w' := fun W hk => (kept_any _ N q _ zs W (hrb.keeps hk) (by omega) (hs2.keeps hk)).mono fun _ _ h => ⟨h.1, h.2.keeps⟩
  have h8 : ∀ W, Keeps W3 W → Calls Try.prog 15 #[.slice (some ⟨q3, 0, none⟩) (K + 9) (K + 9), .slice a K cap] W fun e w' => e = .returned (.bool true) ∧ Keeps W w' := fun W hk => (kept_any _ K q3 _ ks W (hra.keeps hk) (by omega) (HS3.out.keeps hk)).mono fun _ _ h => ⟨h.1, h.2.keeps⟩
  have e1 : ∀ W, (Op.equalIn 10000 37 (.agg ((sha256 (sha256 zs)).map (Value.int .u8)).toArray) (.agg ((sha256 (sha256 zs)).map (Value.int .u8)).toArray)).run Try.prog W = .ok true W := fun W => equal_same_n 32 W _ Try.underlying37 _ (sha_bytes _) (sha_length _)
  have e2 : ∀ W, (Op.equalIn 10000 68 (.agg ((B64.hmac ks zs).map (Value.int .u8)).toArray) (.agg ((B64.hmac ks zs).map (Value.int .u8)).toArray)).run Try.prog W = .ok true W := fun W => equal_same_n 64 W _ Try.underlying68 _ (B64.hmac_bytes _ _) (B64.hmac_length _ _)
  have e3 : ∀ W, (Op.equalIn 10000 70 (.agg ((Rip.rip160 (sha256 zs)).map (Value.int .u8)).toArray) (.agg ((Rip.rip160 (sha256 zs)).map (Value.int .u8)).toArray)).run Try.prog W = .ok true W := fun W => equal_same_n 20 W _ Try.underlying70 _ (Rip.rip160_bytes _) (Rip.rip160_length _)
  have H1 := Lib.hid h1; have H2 := Lib.hid h2; have H3 := Lib.hid h3; have H4 := Lib.hid h4; have H5 := Lib.hid h5; have H6 := Lib.hid h6; have H7 := Lib.hid h7; have H8 := Lib.hid h8
  have E1 := Lib.hid e1; have E2 := Lib.hid e2; have E3 := Lib.hid e3
  have HKK := Lib.hid hkk
  clear h1 h2 h3 h4 h5 h6 h7 h8 e1 e2 e3 hrp hrb hrk hra hs2 hkk HR2 HR HSH HSH2 HK1 HK2 HK3 HS2 HS3
  generalize sha256 (sha256 zs) = X1 at *
  generalize B64.hmac ks zs = X2 at *
  generalize Rip.rip160 (sha256 zs) = X3 at *
  have HKC := Lib.hid (Keeps.refl W3)
  go_wp2_with (first | (refine wpList_eql_same (by kernel_rfl) _ _ _ _ rfl _ rfl rfl (by first | exact E1.out | exact E2.out | exact E3.out) (by kernel_rfl) ?_) | (go_at_call 48; refine (H1.out _ HKC.out).mono ?_; rintro e W' ⟨rfl, hk⟩; have HKD := Lib.hid (HKC.out.trans hk); clear HKC hk H1; have HKC := HKD; clear HKD) | (go_at_call 19; refine (H2.out _ HKC.out).mono ?_; rintro e W' ⟨rfl, hk⟩; have HKD := Lib.hid (HKC.out.trans hk); clear HKC hk H2; have HKC := HKD; clear HKD) | (go_at_call 49; refine (H3.out _ HKC.out).mono ?_; rintro e W' ⟨rfl, hk⟩; have HKD := Lib.hid (HKC.out.trans hk); clear HKC hk H3; have HKC := HKD; clear HKD) | (go_at_call 50; refine (H4.out _ HKC.out).mono ?_; rintro e W' ⟨rfl, hk⟩; have HKD := Lib.hid (HKC.out.trans hk); clear HKC hk H4; have HKC := HKD; clear HKD) | (go_at_call 51; refine (H5.out _ HKC.out).mono ?_; rintro e W' ⟨rfl, hk⟩; have HKD := Lib.hid (HKC.out.trans hk); clear HKC hk H5; have HKC := HKD; clear HKD) | (go_at_call 52; refine (H6.out _ HKC.out).mono ?_; rintro e W' ⟨rfl, hk⟩; have HKD := Lib.hid (HKC.out.trans hk); clear HKC hk H6; have HKC := HKD; clear HKD) | (go_at_call 15; refine (H7.out _ HKC.out).mono ?_; rintro e W' ⟨rfl, hk⟩; have HKD := Lib.hid (HKC.out.trans hk); clear HKC hk H7; have HKC := HKD; clear HKD) | (go_at_call 15; refine (H8.out _ HKC.out).mono ?_; rintro e W' ⟨rfl, hk⟩; have HKD := Lib.hid (HKC.out.trans hk); clear HKC hk H8; have HKC := HKD; clear HKD))
  go_ret
  exact ⟨rfl, HKK.out.trans HKC.out⟩
end Go.Proofs.Ytgdbaejcbfofoaa
