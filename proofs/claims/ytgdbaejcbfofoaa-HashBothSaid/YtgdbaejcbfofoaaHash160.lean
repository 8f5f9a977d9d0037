/- hash.Hash160 and the reference's: RIPEMD-160 of SHA-256. -/
import Derived.Test.YtgdbaejcbfofoaaRip
import Derived.Test.YtgdbaejcbfofoaaRefRip
import Derived.Test.YtgdbaejcbfofoaaSums
namespace Go.Proofs.Ytgdbaejcbfofoaa.Rip
set_option linter.unusedVariables false
set_option linter.unusedSimpArgs false
open Go Go.RowKit

def zeros20 : List Value := List.replicate 20 (Value.int .u8 0)
theorem sz_b20 : (Try.prog.info? 70).map (·.size) = some 20 := by kernel_rfl
set_option maxRecDepth 100000 in
theorem hash160_any (v : Value) (n : Nat) (l : List Int) (w : World) (hr : Rd w 1 v n (l.map (Value.int .u8))) (hz : Bytes l) (hn : n ≤ 35184372088832) :
    Calls Try.prog 49 #[v] w fun e w' => e = .returned (.agg ((rip160 (sha256 l)).map (Value.int .u8)).toArray) ∧ Keeps w w' := by
  obtain ⟨a, cap, rfl⟩ : ∃ a cap, v = .slice a n cap := by obtain ⟨_, a, cap, h, _⟩ := hr; exact ⟨a, cap, h⟩
  have HS := Lib.hid hr; have HZ := Lib.hid hz
  clear hr hz
  go_enter Try.func49, Try.ntmps49
  go_upto_region 1 with (fail)
  obtain ⟨p, hp⟩ : ∃ p, p = w.heap.size := ⟨_, rfl⟩
  have hk0 : Keeps w (w.alloc (.cells zeros20.toArray 70)) := keeps_alloc (Keeps.refl w) _
  have hr0 : Row (w.alloc (.cells zeros20.toArray 70)) p 0 zeros20 := by rw [hp]; exact Row.new _ _ _ rfl
  rw [← hp]
  have HP := Lib.hid hp
  clear hp
  refine wp_gen (fun W => Keeps w W ∧ Row W p 0 zeros20) ⟨hk0, hr0⟩ ?_
  clear hk0 hr0
  intro W ⟨hk, hr⟩
  have HK := Lib.hid hk; have HR := Lib.hid hr
  clear hk hr
  have Z1 : Hid ((Try.prog.info? 37).map (·.size) = some ((sha256 l).map (Value.int .u8)).length) := by
    rw [List.length_map, sha_length]; exact Lib.hid sz_hash
  have Z2 : Hid ((Try.prog.info? 70).map (·.size) = some ((rip160 (sha256 l)).map (Value.int .u8)).length) := by
    rw [List.length_map, rip160_length]; exact Lib.hid sz_b20
  have Z0 : Hid (((sha256 l).map (Value.int .u8)).length = (List.replicate 32 (Value.int .u8 0)).length) := by
    rw [List.length_map, sha_length]; exact Lib.hid rfl
  go_upto_region 2 with (first | (go_at_call 20; refine (sum256_any _ n l _ (HS.out.keeps HK.out) HZ.out hn).mono ?_; rintro e W3 ⟨rfl, hk3⟩; have HK3 := Lib.hid hk3; clear hk3) | (refine wpList_store_row rfl 37 (.tmp 3) (.tmp 5) rfl W3.heap.size 0 rfl (List.replicate 32 (Value.int .u8 0)) _ rfl (Row.new _ _ _ rfl) Z0.out Z1.out (int_oneCell _) ?_; intro W4 hr4 hc4; have HR4 := Lib.hid hr4; have HC4 := Lib.hid hc4; clear hr4 hc4))
  have hk4 : Keeps w W4 := keeps_chg (keeps_alloc (HK.out.trans HK3.out) _) HC4.out (HK.out.trans HK3.out).size
  have hp4 : Row W4 p 0 zeros20 := ((HR.out.keeps HK3.out).alloc _).chg HC4.out (by have h1 := HR.out.lt (by simp [zeros20]); have h2 := HK3.out.size; omega)
  have HK4 := Lib.hid hk4; have HP4 := Lib.hid hp4
  clear hk4 hp4 HC4 HR
  go_wp2_with (first | (go_at_call 46; refine (ripemd_any _ 32 (sha256 l) _ (rd_sha HR4.out) (sha_bytes l) (by omega)).mono ?_; rintro e W5 ⟨rfl, hk5⟩; have HK5 := Lib.hid hk5; clear hk5) | (refine wpList_store_row rfl 70 (.tmp 2) (.tmp 7) rfl p 0 rfl _ _ rfl (HP4.out.keeps HK5.out) (by simp [zeros20, rip160_length]) Z2.out (int_oneCell _) ?_; intro W6 hr6 hc6; have HR6 := Lib.hid hr6; have HC6 := Lib.hid hc6; clear hr6 hc6))
  exact bodyPost_ret (v := .agg ((rip160 (sha256 l)).map (Value.int .u8)).toArray) (results_cell_at (p := 2) (ty := 70) rfl _ _ p 0 _ _ rfl HR6.out Try.underlying70 rfl Z2.out) rfl ⟨rfl, keeps_chg (HK4.out.trans HK5.out) HC6.out (by have := HP.out; omega)⟩
set_option maxRecDepth 100000 in
theorem ref_hash160 (v : Value) (n : Nat) (l : List Int) (w : World) (hr : Rd w 1 v n (l.map (Value.int .u8))) (hz : Bytes l) (hn : n ≤ 35184372088832) :
    Calls Try.prog 50 #[v] w fun e w' => e = .returned (.agg ((rip160 (sha256 l)).map (Value.int .u8)).toArray) ∧ Keeps w w' := by
  obtain ⟨a, cap, rfl⟩ : ∃ a cap, v = .slice a n cap := by obtain ⟨_, a, cap, h, _⟩ := hr; exact ⟨a, cap, h⟩
  have HS := Lib.hid hr; have HZ := Lib.hid hz
  clear hr hz
  go_enter Try.func50, Try.ntmps50
  go_upto_region 1 with (fail)
  obtain ⟨p, hp⟩ : ∃ p, p = w.heap.size := ⟨_, rfl⟩
  have hk0 : Keeps w (w.alloc (.cells zeros20.toArray 70)) := keeps_alloc (Keeps.refl w) _
  have hr0 : Row (w.alloc (.cells zeros20.toArray 70)) p 0 zeros20 := by rw [hp]; exact Row.new _ _ _ rfl
  rw [← hp]
  have HP := Lib.hid hp
  clear hp
  refine wp_gen (fun W => Keeps w W ∧ Row W p 0 zeros20) ⟨hk0, hr0⟩ ?_
  clear hk0 hr0
  intro W ⟨hk, hr⟩
  have HK := Lib.hid hk; have HR := Lib.hid hr
  clear hk hr
  have Z1 : Hid ((Try.prog.info? 36).map (·.size) = some ((sha256 l).map (Value.int .u8)).length) := by
    rw [List.length_map, sha_length]; exact Lib.hid sz_b32
  have Z2 : Hid ((Try.prog.info? 70).map (·.size) = some ((rip160 (sha256 l)).map (Value.int .u8)).length) := by
    rw [List.length_map, rip160_length]; exact Lib.hid sz_b20
  have Z0 : Hid (((sha256 l).map (Value.int .u8)).length = (List.replicate 32 (Value.int .u8 0)).length) := by
    rw [List.length_map, sha_length]; exact Lib.hid rfl
  go_upto_region 2 with (first | (go_at_call 17; refine (ref_sum256 _ n l _ (HS.out.keeps HK.out) HZ.out hn).mono ?_; rintro e W3 ⟨rfl, hk3⟩; have HK3 := Lib.hid hk3; clear hk3) | (refine wpList_store_row rfl 36 (.tmp 3) (.tmp 5) rfl W3.heap.size 0 rfl (List.replicate 32 (Value.int .u8 0)) _ rfl (Row.new _ _ _ rfl) Z0.out Z1.out (int_oneCell _) ?_; intro W4 hr4 hc4; have HR4 := Lib.hid hr4; have HC4 := Lib.hid hc4; clear hr4 hc4))
  have hk4 : Keeps w W4 := keeps_chg (keeps_alloc (HK.out.trans HK3.out) _) HC4.out (HK.out.trans HK3.out).size
  have hp4 : Row W4 p 0 zeros20 := ((HR.out.keeps HK3.out).alloc _).chg HC4.out (by have h1 := HR.out.lt (by simp [zeros20]); have h2 := HK3.out.size; omega)
  have HK4 := Lib.hid hk4; have HP4 := Lib.hid hp4
  clear hk4 hp4 HC4 HR
  go_wp2_with (first | (go_at_call 47; refine (ref_ripemd _ 32 (sha256 l) _ (rd_sha HR4.out) (sha_bytes l) (by omega)).mono ?_; rintro e W5 ⟨rfl, hk5⟩; have HK5 := Lib.hid hk5; clear hk5) | (refine wpList_store_row rfl 70 (.tmp 2) (.tmp 7) rfl p 0 rfl _ _ rfl (HP4.out.keeps HK5.out) (by simp [zeros20, rip160_length]) Z2.out (int_oneCell _) ?_; intro W6 hr6 hc6; have HR6 := Lib.hid hr6; have HC6 := Lib.hid hc6; clear hr6 hc6))
  exact bodyPost_ret (v := .agg ((rip160 (sha256 l)).map (Value.int .u8)).toArray) (results_cell_at (p := 2) (ty := 70) rfl _ _ p 0 _ _ rfl HR6.out Try.underlying70 rfl Z2.out) rfl ⟨rfl, keeps_chg (HK4.out.trans HK5.out) HC6.out (by have := HP.out; omega)⟩
end Go.Proofs.Ytgdbaejcbfofoaa.Rip
