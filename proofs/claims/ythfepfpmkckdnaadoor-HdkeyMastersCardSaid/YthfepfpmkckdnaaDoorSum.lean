/- Parts of package hash: the constants, the tail that fills a message, slices.Clone at bytes. -/
import Derived.Test.YthfepfpmkckdnaaDoorShaStep
import Derived.Test.YthfepfpmkckdnaaDoorBuf
import Derived.Great.BuildSlice
namespace Go.Proofs.YthfepfpmkckdnaaDoor
set_option linter.unusedVariables false
set_option linter.unusedSimpArgs false
open Go Go.RowKit

/-- the eight words as a value -/
def St.agg (s : St) : Value := .agg #[.int .u32 s.a, .int .u32 s.b, .int .u32 s.c, .int .u32 s.d, .int .u32 s.e, .int .u32 s.f, .int .u32 s.g, .int .u32 s.h]
theorem u8_info : (Tryd.prog.info? 5).map (fun i => (i.zero, i.size, i.bytes)) = some (some (.int .u8 0), 1, 1) := by kernel_rfl

/-- eight bytes of a number, the greatest first -/
def be8 (v : Int) : List Int := [v / 72057594037927936 % 256, v / 281474976710656 % 256, v / 1099511627776 % 256, v / 4294967296 % 256, v / 16777216 % 256, v / 65536 % 256, v / 256 % 256, v % 256]
theorem be8_bytes (v : Int) : Bytes (be8 v) := by
  intro x hx
  simp only [be8, List.mem_cons, List.mem_singleton, List.not_mem_nil, or_false] at hx
  unfold Byte
  rcases hx with rfl | rfl | rfl | rfl | rfl | rfl | rfl | rfl <;> omega
/-- a head, noughts, and the last i bytes of a number, N in all -/
def tb (N : Nat) (v : Int) (i : Nat) : List Int := (128 :: List.replicate (N - 1 - i) 0) ++ (be8 v).drop (8 - i)
theorem tb_length (N : Nat) (v : Int) (i : Nat) (hN : 9 ≤ N) (hi : i ≤ 8) : (tb N v i).length = N := by simp [tb, be8]; omega
theorem tb_set (N : Nat) (v : Int) (i : Nat) (hN : 9 ≤ N) (hi : i < 8) : (tb N v i).set (N - 1 - i) (v / 2 ^ (8 * i) % 256) = tb N v (i + 1) := by
  unfold tb
  rw [List.set_append_left _ _ (by simp)]
  have e : (128 :: List.replicate (N - 1 - i) (0 : Int)).set (N - 1 - i) (v / 2 ^ (8 * i) % 256) = (128 :: List.replicate (N - 1 - (i + 1)) 0) ++ [v / 2 ^ (8 * i) % 256] := by
    rw [show N - 1 - i = (N - 1 - (i + 1)) + 1 by omega, List.set_cons_succ, List.replicate_succ', List.set_append_right _ _ (by simp)]
    simp
  rw [e, List.append_assoc]
  congr 1
  have : i = 0 ∨ i = 1 ∨ i = 2 ∨ i = 3 ∨ i = 4 ∨ i = 5 ∨ i = 6 ∨ i = 7 := by omega
  rcases this with rfl | rfl | rfl | rfl | rfl | rfl | rfl | rfl <;> simp [be8]
/-- what fills a message of n bytes up to blocks of 64 -/
def fill64 (n : Nat) : Nat := 63 - (n + 8) % 64
def tail64 (n : Nat) : List Int := 128 :: List.replicate (fill64 n) 0 ++ be8 (n * 8)
theorem tail64_eq (n : Nat) : tb (9 + fill64 n) ((n : Int) * 8) 8 = tail64 n := by simp [tb, tail64]

set_option maxRecDepth 100000 in
theorem tail_any (n : Nat) (hn : n < 1152921504606846976) (w : World) : Calls Tryd.prog 42 #[.int .u64 n, .int .i64 64, .int .i64 8] w fun e w' =>
    e = .returned (.slice (some ⟨w.heap.size, 0, none⟩) (9 + fill64 n) (9 + fill64 n)) ∧ Keeps w w' ∧ w.heap.size < w'.heap.size ∧ Row w' w.heap.size 0 ((tail64 n).map (Value.int .u8)) := by
  have hf : ((fill64 n : Nat) : Int) = 63 - ((n : Int) + 8) % 64 := by unfold fill64; omega
  have hf2 : fill64 n ≤ 63 := by unfold fill64; omega
  obtain ⟨i0, hi, hz0, hz1, hz2⟩ := info_parts u8_info
  have HT := Lib.hid (tail64_eq n)
  generalize fill64 n = f at *
  have HF := Lib.hid hf; clear hf
  go_enter Tryd.func42, Tryd.ntmps42
  go_wp2_with (refine wpList_make_row rfl 22 (.tmp 25) (.tmp 25) rfl 5 i0 (.int .u8 0) 1 Tryd.underlying22 hi hz0 hz1 hz2 rfl .i64 .i64 _ (9 + f) rfl rfl (by have := HF.out; omega) (by omega) (by unfold maxLen; omega) ?_; intro w1 hr hk hsz; have c0 := (hr 0 _ (by rw [Nat.add_comm, List.replicate_succ]; rfl)).1; have f0 := (hr 0 _ (by rw [Nat.add_comm, List.replicate_succ]; rfl)).2; have HR := Lib.hid hr; clear hr)
  go_loopw [29] (fun c wr => ∃ i : Nat, i ≤ 8 ∧ c = .int .i64 i ∧ Keeps w wr ∧ w.heap.size < wr.heap.size ∧ Row wr w.heap.size 0 ((tb (9 + f) ((n : Int) * 8) i).map (Value.int .u8))) (fun c _ => (8 - intOf c).toNat)
  case atStart =>
    refine ⟨0, by omega, rfl, Below.setCell hk (Nat.le_refl _) _, by simpa using hsz, ?_⟩
    have := HR.out.set 0 (by simp; omega) (.int .u8 128)
    rw [show (9 + f) = (8 + f) + 1 by omega, List.replicate_succ] at this
    simpa [tb, be8, show 9 + f - 1 = 8 + f by omega] using this
  case round =>
    obtain ⟨i, hi8, rfl, hk2, hsz2, hr⟩ := hrel
    by_cases hlt : i < 8
    · have c1 := hr.int0 (9 + f - 1 - i) (by rw [tb_length _ _ _ (by omega) hi8]; omega)
      have f1 := hr.free0 (9 + f - 1 - i) (by rw [List.length_map, tb_length _ _ _ (by omega) hi8]; omega)
      have hset := hr.setInt0 (9 + f - 1 - i) (by rw [tb_length _ _ _ (by omega) hi8]; omega) ((n : Int) * 8 / 2 ^ (8 * i) % 256)
      rw [tb_set _ _ _ (by omega) hlt] at hset
      have e8 : 9 + f - 1 - i = 8 + f - i := by omega
      rw [e8] at c1 f1 hset
      have HS := Lib.hid hset; have HR2 := Lib.hid hr; clear hr hset e8
      go_wp2
      go_roundw
      case rel => exact ⟨i + 1, by omega, by go_num, Below.setCell hk2 (Nat.le_refl _) _, by simpa using hsz2, HS.out⟩
      case measure => simp [intOf]; omega
    · obtain rfl : i = 8 := by omega
      rw [HT.out] at hr
      have HR2 := Lib.hid hr; clear hr
      go_wp2
      go_ret
      exact ⟨rfl, hk2, hsz2, HR2.out⟩

/-! slices.Clone at []byte -/
theorem clone_nil (w : World) : Calls Tryd.prog 41 #[.slice none 0 0] w fun e w' => e = .returned (.slice none 0 0) ∧ Keeps w w' := by
  have hq := fun (W : World) => Lib.run_eql_slice_nil (P := Tryd.prog) W 22 5 none 0 0 0 0 Tryd.underlying22
  go_enter Tryd.func41, Tryd.ntmps41
  go_wp2
  go_ret
  exact ⟨rfl, Keeps.refl _⟩
theorem clone_some (ad : Addr) (n cap : Nat) (zs : List Int) (w : World) (hr : Rd w 1 (.slice (some ad) n cap) n (zs.map (Value.int .u8))) (hn : n ≤ 140737488355328) :
    Calls Tryd.prog 41 #[.slice (some ad) n cap] w fun e w' => ∃ v', e = .returned v' ∧ Keeps w w' ∧ Buf w' 1 v' n (zs.map (Value.int .u8)) ∧ ∀ g, v'.ownBlock = some g → w.heap.size ≤ g := by
  have hq := fun (W : World) => Lib.run_eql_slice_nil (P := Tryd.prog) W 22 5 (some ad) n cap 0 0 Tryd.underlying22
  obtain ⟨i0, hi, hz0, hz1, hz2⟩ := info_parts u8_info
  have HR := Lib.hid hr; clear hr
  go_enter Tryd.func41, Tryd.ntmps41
  go_wp2_with (at_builtin; refine wpList_append_buf rfl (.tmp 5) (.tmp 6) 22 22 rfl 5 i0 (.int .u8 0) 1 1 Tryd.underlying22 hi hz0 hz1 hz2 rfl (by decide) _ 0 [] rfl (Buf.made _) _ rfl n _ ((HR.out.keeps ((Keeps.refl w).alloc (Nat.le_refl _) _)).src Tryd.underlying22 (int_oneCell zs)) (by unfold maxLen; omega) (by omega) ?_; intro v' w1 hb hc hs hnn; have HB := Lib.hid hb; have HC := Lib.hid hc; have HS := Lib.hid hs; clear hb hc hs hnn)
  go_ret
  refine ⟨v', rfl, ?_, ?_, ?_⟩
  · exact Chg.keeps (((Chg.refl (fun k => k = w.heap.size) w).alloc _).trans (HC.out.mono (fun k _ h => (Option.some.inj (show some w.heap.size = some k from h)).symm))) (fun k hk e => by omega)
  · have := HB.out; simpa using this
  · intro g hg
    rcases HS.out with h | ⟨g', h1, h2⟩
    · have h' : v'.ownBlock = some w.heap.size := h
      rw [hg] at h'; cases h'; exact Nat.le_refl _
    · rw [hg] at h1; cases h1; simp at h2; omega
/-- a copy of its own, nil of nil -/
theorem clone_any (v : Value) (n : Nat) (zs : List Int) (w : World) (hr : Rd w 1 v n (zs.map (Value.int .u8))) (hn : n ≤ 140737488355328) :
    Calls Tryd.prog 41 #[v] w fun e w' => ∃ v', e = .returned v' ∧ Keeps w w' ∧ Buf w' 1 v' n (zs.map (Value.int .u8)) ∧ ∀ g, v'.ownBlock = some g → w.heap.size ≤ g := by
  have hr0 := hr
  obtain ⟨h0, a, cap, rfl, h2, h3, h4, h5⟩ := hr0
  cases a with
  | none =>
    obtain ⟨rfl, rfl⟩ := h4 rfl
    have hx : zs = [] := List.eq_nil_of_length_eq_zero (by simpa using h0)
    subst hx
    refine (clone_nil w).mono ?_
    rintro e w' ⟨rfl, hk⟩
    exact ⟨_, rfl, hk, Buf.nil _ _, fun g hg => by simp [Value.ownBlock] at hg⟩
  | some ad => exact clone_some ad n cap zs w hr hn
end Go.Proofs.YthfepfpmkckdnaaDoor
