/- The program's Verify on numbers. No condition. -/
import Derived.Test.YtajipagpdphejaaGE3
namespace Go.Proofs.Ytajipagpdphejaa
set_option linter.unusedVariables false
set_option linter.unusedSimpArgs false
open Go Go.RowKit Cv

def wN (s : Int) : Nat := s.toNat ^ (nVn - 2) % nVn
def u1N (s m : Int) : Nat := (m % NV).toNat * wN s % nVn
def u2N (r s : Int) : Nat := r.toNat * wN s % nVn
theorem wN_lt (s : Int) : wN s < nVn := Nat.mod_lt _ n_pos
theorem u1N_lt (s m : Int) : u1N s m < nVn := Nat.mod_lt _ n_pos
theorem u2N_lt (r s : Int) : u2N r s < nVn := Nat.mod_lt _ n_pos
def verQ (a : J) (r s m : Int) : J := addJ (timesJ (u1N s m) gJ 256) (timesJ (u2N r s) a 256)
theorem verQ_ok {a : J} (h : a.ok) (r s m : Int) : (verQ a r s m).ok := addJ_ok (timesJ_ok _ gJ_ok 256) (timesJ_ok _ h 256)
/-- is it a signature? -/
def verV (pub msg sig : List Int) : Bool := if sig.length = 64 then (match unpN pub with
  | none => false
  | some a => if keyB (be (sig.take 32)) = true ∧ keyB (be (sig.drop 32)) = true then (if (verQ a (be (sig.take 32)) (be (sig.drop 32)) (be msg)).z = 0 then false else decide ((((flatJ (verQ a (be (sig.take 32)) (be (sig.drop 32)) (be msg))).1 : Nat) : Int) % NV = be (sig.take 32))) else false) else false
theorem nin_any (g : Nat) (x : Int) (hx : U256 x) (w : World) (hr : Row w g 0 gCells) : Calls Try.prog 43 #[.pointer (some ⟨g, 7, none⟩), .agg ((words x).map (Value.int .u64)).toArray] w fun e w' => e = .returned (.agg ((words (x % NV)).map (Value.int .u64)).toArray) ∧ Keeps w w' := by
  have := in_any g 7 NV x NV_u256 hx w (gCells_n hr)
  rwa [in_mod hx.1 hx.2 fld_n.two] at this
theorem ninv_any (g : Nat) (s : Int) (h0 : 0 ≤ s) (h1 : s < NV) (w : World) (hr : Row w g 0 gCells) : Calls Try.prog 40 #[.pointer (some ⟨g, 7, none⟩), .agg ((words s).map (Value.int .u64)).toArray] w fun e w' => e = .returned (.agg ((nw (wN s)).map (Value.int .u64)).toArray) ∧ Keeps w w' := by
  obtain ⟨n1, n2, n3⟩ := nv_toNat h0 h1
  have := inverse_any g 7 nVn _ fld_nn s.toNat n1 w (gc_n hr)
  rw [n3] at this
  exact this
theorem nv_u256 {x : Nat} (h : x < nVn) : U256 (x : Int) := u256_nat (Nat.lt_trans h n_lt)
theorem nmul_any (g : Nat) (x y : Nat) (hx : x < nVn) (hy : y < nVn) (w : World) (hr : Row w g 0 gCells) : Calls Try.prog 42 #[.pointer (some ⟨g, 7, none⟩), .agg ((nw x).map (Value.int .u64)).toArray, .agg ((nw y).map (Value.int .u64)).toArray] w fun e w' => e = .returned (.agg ((nw (x * y % nVn)).map (Value.int .u64)).toArray) ∧ Keeps w w' := by
  have := mul_any g 7 _ _ fld_nn x y (nv_u256 hx) (nv_u256 hy) w (gc_n hr)
  have e : ((x : Int) * (y : Int) % ((nVn : Nat) : Int)) = ((x * y % nVn : Nat) : Int) := by rw [Int.natCast_emod, Int.natCast_mul]
  rwa [e] at this
theorem mod_nat {m : Int} : ((m % NV).toNat : Int) = m % NV ∧ (m % NV).toNat < nVn := by
  have h1 := Int.emod_nonneg m (show NV ≠ 0 by decide)
  have h2 := Int.emod_lt_of_pos m (show 0 < NV by decide)
  have := nv_eq
  exact ⟨by omega, by omega⟩
theorem verify_any (pv sv : Value) (P M S : List Int) (hP : Bytes P) (hM : Bytes M) (hS : Bytes S) (lM : M.length = 32) (w : World) (hpv : Rd w 1 pv P.length (P.map (Value.int .u8))) (hsv : Rd w 1 sv S.length (S.map (Value.int .u8))) :
    Calls Try.prog 17 #[pv, .agg (M.map (Value.int .u8)).toArray, sv] w fun e w' => e = .returned (.bool (verV P M S)) ∧ Keeps w w' := by
  obtain ⟨_, sa, cap, rfl, h2, h3, h4, h5⟩ := hsv
  have hsz : cap < 9223372036854775808 := by unfold maxLen at h3; omega
  by_cases hl : S.length = 64
  · cases sa with
    | none => have := (h4 rfl).1; omega
    | some ad =>
      obtain ⟨g, off, rfl, hg, hrow⟩ := h5 ad rfl (by omega)
      rw [hl] at h2 ⊢
      have lt1 : (S.take 32).length = 32 := by rw [List.length_take, hl]; rfl
      have lt2 : (S.drop 32).length = 32 := by rw [List.length_drop, hl]
      have b1 : Bytes (S.take 32) := fun x h => hS x (List.mem_of_mem_take h)
      have b2 : Bytes (S.drop 32) := fun x h => hS x (List.mem_of_mem_drop h)
      have hU := fun c W hr (hv : Rd W 1 pv P.length (P.map (Value.int .u8))) => unpack_any c pv P hP W hr hv
      have hK1 := fun c W hr => gkey_any c (S.take 32) b1 lt1 W hr
      have hK2 := fun c W hr => gkey_any c (S.drop 32) b2 lt2 W hr
      by_cases hall : ((unpN P).isSome && keyB (be (S.take 32)) && keyB (be (S.drop 32))) = true
      · simp only [Bool.and_eq_true] at hall
        obtain ⟨⟨q1, q2⟩, q3⟩ := hall
        obtain ⟨a, ha⟩ := Option.isSome_iff_exists.1 q1
        obtain ⟨hok, hz1, hon⟩ := unpN_ok hP ha
        have k2 := key_lt q2
        have k3 := key_lt q3
        obtain ⟨r1, r2, r3⟩ := nv_toNat (by omega) k2.2
        have hm := be_u256 hM lM
        obtain ⟨m1, m2⟩ := mod_nat (m := be M)
        have hRR : words (be (S.take 32)) = nw (be (S.take 32)).toNat := by unfold nw; rw [r3]
        have hMI : words (be M % NV) = nw (be M % NV).toNat := by unfold nw; rw [m1]
        have hup : unpC P = ptW a := by unfold unpC; rw [ha]
        have hqok := verQ_ok hok (be (S.take 32)) (be (S.drop 32)) (be M)
        have hM2 := fun c W hr => nmul_any c (be (S.take 32)).toNat (wN (be (S.drop 32))) r2 (wN_lt _) W hr
        rw [← hRR] at hM2
        have hfl : (flatJ (verQ a (be (S.take 32)) (be (S.drop 32)) (be M))).1 < PVn := fm_lt _ _
        have hE := num_equal ((((flatJ (verQ a (be (S.take 32)) (be (S.drop 32)) (be M))).1 : Nat) : Int) % NV) (be (S.take 32)) ⟨Int.emod_nonneg _ (by decide), Int.lt_trans (Int.emod_lt_of_pos _ (by decide)) NV_u256.2⟩ (be_u256 b1 lt1)
        have hver : verV P M S = if (verQ a (be (S.take 32)) (be (S.drop 32)) (be M)).z = 0 then false else decide ((((flatJ (verQ a (be (S.take 32)) (be (S.drop 32)) (be M))).1 : Nat) : Int) % NV = be (S.take 32)) := by
          unfold verV
          rw [if_pos hl, ha]
          dsimp only
          rw [if_pos ⟨q2, q3⟩]
        refine verify_walk pv M P S (unpC P) (words (be (S.take 32))) (words (be (S.drop 32))) (words (be M)) (nw (be M % NV).toNat) (nw (wN (be (S.drop 32)))) (nw (u1N (be (S.drop 32)) (be M))) (nw (u2N (be (S.take 32)) (be (S.drop 32)))) (ptW gJ) (ptW (timesJ (u1N (be (S.drop 32)) (be M)) gJ 256)) (ptW (timesJ (u2N (be (S.take 32)) (be (S.drop 32))) a 256)) (ptW (verQ a (be (S.take 32)) (be (S.drop 32)) (be M))) (nw (flatJ (verQ a (be (S.take 32)) (be (S.drop 32)) (be M))).1) (nw (flatJ (verQ a (be (S.take 32)) (be (S.drop 32)) (be M))).2) (words ((((flatJ (verQ a (be (S.take 32)) (be (S.drop 32)) (be M))).1 : Nat) : Int) % NV)) (unpN P).isSome (keyB (be (S.take 32))) (keyB (be (S.drop 32))) (decide ((verQ a (be (S.take 32)) (be (S.drop 32)) (be M)).z = 0)) false _ g off cap lM hl (unpC_len _) (words_length _) (words_length _) (words_length _) (ptW_len _) (words_length _) (words_length _) w h2 hsz hg hrow hpv hU hK1 hK2
          (.inr ⟨q1, q2, q3, fun c W hr => ninv_any c _ (by omega) k3.2 W hr, fun v W hr => cnumber_any v M W hr hM lM, fun c W hr => by rw [← hMI]; exact nin_any c _ hm W hr, fun c W hr => nmul_any c _ _ m2 (wN_lt _) W hr, fun c W hr => base_any c W hr, fun c W hr => times_any c _ gJ (Nat.lt_trans (u1N_lt _ _) n_lt) gJ_ok W hr, hM2, fun c W hr => by rw [hup]; exact times_any c _ a (Nat.lt_trans (u2N_lt _ _) n_lt) hok W hr, fun c W hr => gadd_any c _ _ (timesJ_ok _ gJ_ok 256) (timesJ_ok _ hok 256) W hr, fun c W hr => infinite_at c _ W hqok.2.2 hr, ?_⟩)
        rw [hver]
        by_cases hz : (verQ a (be (S.take 32)) (be (S.drop 32)) (be M)).z = 0
        · exact .inl ⟨decide_eq_true hz, by rw [if_pos hz]⟩
        · exact .inr ⟨decide_eq_false hz, fun c W hr => flat_any c _ hqok W hr, fun c W hr => nin_any c _ (nat_u256 hfl) W hr, fun W => by rw [if_neg hz]; exact hE W⟩
      · have hver : verV P M S = false := by
          unfold verV
          rw [if_pos hl]
          cases hu : unpN P with
          | none => rfl
          | some a =>
            dsimp only
            rw [if_neg]
            intro h
            apply hall
            rw [hu, h.1, h.2]; rfl
        rw [hver]
        exact verify_walk pv M P S (unpC P) (words (be (S.take 32))) (words (be (S.drop 32))) [] [] (nw 0) [] [] [] [] [] (List.replicate 12 0) (nw 0) (nw 0) [] (unpN P).isSome (keyB (be (S.take 32))) (keyB (be (S.drop 32))) false false _ g off cap lM hl (unpC_len _) (words_length _) (words_length _) (words_length _) rfl (words_length _) (words_length _) w h2 hsz hg hrow hpv hU hK1 hK2
          (.inl ⟨by simpa using hall, rfl⟩)
  · have hver : verV P M S = false := by unfold verV; rw [if_neg hl]
    rw [hver]
    exact verlen_walk pv M sa S.length cap hl (by omega) w
end Go.Proofs.Ytajipagpdphejaa
