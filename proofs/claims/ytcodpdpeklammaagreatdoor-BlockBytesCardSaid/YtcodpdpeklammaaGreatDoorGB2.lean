/- wire's Reader: what it holds; take, which may stop. | Numbers of 256 bits as lists of bytes and of words, in plain Lean. | Numbers of 256 bits: the reference's Less and Sum. | Numbers of 256 bits: block's words, their sum, and back. | wire's Reader: number. | wire's Reader: size. | wire.try: its deferred closures (recover in a frame that panics, and in one that returns). Written by gtry.py. -/
import Derived.Test.YtcodpdpeklammaaGreatDoorGA3
import Derived.Test.YtcodpdpeklammaaGreatDoorGA1
import Derived.Laws.CopyOwn
import Derived.Deep.Cut
import Derived.Deep.LoopGhost
import Derived.StillTail
import Derived.Deep.RegionHeld3
import Derived.Lib.QuietBelow
import Derived.Stop.BytesEq
import Derived.Laws.Externs
import Derived.Defers
import Derived.Recover
import Derived.Laws.Pointers
namespace Go.Proofs.YtcodpdpeklammaaGreatDoor
set_option linter.unusedVariables false
set_option linter.unusedSimpArgs false
open Go Go.RowKit
variable {B : Nat}

/-- the value is a slice (nil, or at a place) that reads l, not in block g -/
def SrcB (B : Nat) (W : World) (g : Nat) (v : Value) (l : List Int) : Prop :=
  (v = .slice none 0 0 ∧ l = []) ∨ ∃ b off cap, v = .slice (some ⟨b, off, none⟩) l.length cap ∧ l.length ≤ cap ∧ cap ≤ maxLen ∧ (b < B ∧ B ≤ W.heap.size) ∧ b ≠ g ∧ Row W b off (l.map (Value.int .u8))
theorem SrcB.chg {W W' : World} {g : Nat} {v : Value} {l : List Int} (h : SrcB B W g v l) (hc : Chg (· = g) W W') : SrcB B W' g v l := by
  rcases h with h | ⟨b, off, cap, h1, h2, h3, h4, h5, h6⟩
  · exact .inl h
  · exact .inr ⟨b, off, cap, h1, h2, h3, ⟨h4.1, Nat.le_trans h4.2 hc.size⟩, h5, h6.chg hc h5⟩
theorem SrcB.rd {W : World} {g : Nat} {v : Value} {l : List Int} (h : SrcB B W g v l) : Rd W 1 v l.length (l.map (Value.int .u8)) := by
  rcases h with ⟨rfl, rfl⟩ | ⟨b, off, cap, rfl, h2, h3, h4, h5, h6⟩
  · exact ⟨by simp, none, 0, rfl, Nat.le_refl _, Nat.zero_le _, fun _ => ⟨rfl, rfl⟩, fun ad e _ => (by cases e)⟩
  · exact Rd.of_row h6 (by simp) (Nat.lt_of_lt_of_le h4.1 h4.2) h2 h3
/-- a reader in block g: what is left, the first error -/
structure RdAt (B : Nat) (W : World) (g : Nat) (v : Value) (e : Int) (l : List Int) : Prop where
  row : Row W g 0 [v, .int .i64 e]
  src : SrcB B W g v l
  bytes : Bytes l
  small : l.length ≤ 140737488355328
theorem RdAt.cells {W : World} {g : Nat} {v : Value} {e : Int} {l : List Int} (h : RdAt B W g v e l) : W.cell? ⟨g, 0, none⟩ = some v ∧ W.frozen? ⟨g, 0, none⟩ = false ∧ W.cell? ⟨g, 1, none⟩ = some (.int .i64 e) ∧ W.frozen? ⟨g, 1, none⟩ = false := by
  have h0 := h.row 0 _ rfl
  have h1 := h.row 1 _ rfl
  exact ⟨h0.1, h0.2, h1.1, h1.2⟩
theorem RdAt.keeps {W W' : World} {g : Nat} {v : Value} {e : Int} {l : List Int} (h : RdAt B W g v e l) (hk : Keeps W W') : RdAt B W' g v e l := ⟨h.row.keeps hk, h.src.chg (hk.chg _), h.bytes, h.small⟩
theorem setg (W : World) (g : Nat) (v : Value) : Chg (· = g) W (W.setCell ⟨g, 0, none⟩ v) := Chg.setCell (p := ⟨g, 0, none⟩) (Chg.refl (· = g) W) (.inr rfl) v
theorem RdAt.put {W : World} {g : Nat} {v v' : Value} {e : Int} {l l' : List Int} (h : RdAt B W g v e l) (hs : SrcB B W g v' l') (hb : Bytes l') (hsm : l'.length ≤ 140737488355328) : RdAt B (W.setCell ⟨g, 0, none⟩ v') g v' e l' :=
  ⟨by have := h.row.set 0 (by simp) v'; simpa using this, hs.chg (setg _ _ _), hb, hsm⟩
theorem Bytes.drop' {l : List Int} (h : Bytes l) (n : Nat) : Bytes (l.drop n) := fun x hx => h x (List.mem_of_mem_drop hx)
theorem Bytes.take' {l : List Int} (h : Bytes l) (n : Nat) : Bytes (l.take n) := fun x hx => h x (List.mem_of_mem_take hx)
theorem SrcB.split {W : World} {g b off cap : Nat} {l : List Int} (h : SrcB B W g (.slice (some ⟨b, off, none⟩) l.length cap) l) (n : Nat) (hn : n ≤ l.length) :
    SrcB B W g (.slice (some ⟨b, off, none⟩) n cap) (l.take n) ∧ SrcB B W g (.slice (some ⟨b, off + n, none⟩) (l.length - n) (cap - n)) (l.drop n) := by
  rcases h with ⟨h, _⟩ | ⟨b', off', cap', h1, h2, h3, h4, h5, h6⟩
  · cases h
  · cases h1
    have hl : (l.take n).length = n := by simp; omega
    have hd : (l.drop n).length = l.length - n := by simp
    refine ⟨.inr ⟨b, off, cap, by rw [hl], by omega, h3, h4, h5, ?_⟩, .inr ⟨b, off + n, cap - n, by rw [hd], by omega, by omega, h4, h5, ?_⟩⟩
    · rw [List.map_take]; exact h6.take n
    · rw [List.map_drop]; exact h6.drop n
/-- what reading stops with -/
def stopV (c : Int) : Value := .iface 121 (.int .i64 c)
def stopC (c : Int) : List PanicEntry := [{ v := stopV c, recovered := false }]
/-- what take does -/
def TakeP (B : Nat) (g : Nat) (e : Int) (l : List Int) (n : Nat) (w : World) (r : Ending) (w' : World) : Prop :=
  (l.length < n ∧ r = .panicked (stopC 4) ∧ w' = w) ∨ (n ≤ l.length ∧ ∃ s v', r = .returned s ∧ SrcB B w' g s (l.take n) ∧ RdAt B w' g v' e (l.drop n) ∧ Chg (· = g) w w')
set_option maxRecDepth 100000 in
theorem take_any (g : Nat) (v : Value) (e : Int) (l : List Int) (n : Nat) (hn : n ≤ 140737488355328) (w : World) (h : RdAt B w g v e l) :
    Calls Tryz.prog 68 #[.pointer (some ⟨g, 0, none⟩), .int .i64 n] w (TakeP B g e l n w) := by
  have HH := Lib.hid h
  obtain ⟨c0, f0, c1, f1⟩ := h.cells
  rcases h.src with ⟨rfl, rfl⟩ | ⟨b, off, cap, rfl, h2, h3, h4, h5, h6⟩
  · by_cases h0 : n = 0
    · subst h0
      clear h
      go_enter Tryz.func68, Tryz.ntmps68
      go_wp2
      go_ret
      refine .inr ⟨Nat.le_refl _, .slice none 0 0, .slice none 0 0, rfl, .inl ⟨rfl, rfl⟩, ?_, setg _ _ _⟩
      exact HH.out.put (.inl ⟨rfl, rfl⟩) HH.out.bytes HH.out.small
    · have hlt : (0 : Int) < (n : Int) := by omega
      clear h
      go_enter Tryz.func68, Tryz.ntmps68
      go_wp2
      exact ⟨rfl, .inl ⟨by show 0 < n; omega, rfl, rfl⟩⟩
  · by_cases hlt : l.length < n
    · have hlt2 : (l.length : Int) < (n : Int) := by omega
      clear h h2 h3 h4 h5 h6
      go_enter Tryz.func68, Tryz.ntmps68
      go_wp2
      exact ⟨rfl, .inl ⟨hlt, rfl, rfl⟩⟩
    · have hle : n ≤ l.length := by omega
      have hle2 : n ≤ cap := by omega
      have HSP := Lib.hid (h.src.split n hle)
      have hnl : ¬ ((l.length : Int) < (n : Int)) := by omega
      by_cases hnc : n = cap
      · obtain rfl : n = cap := hnc
        have hll : l.length = n := by omega
        have hnil : l.drop n = [] := List.drop_eq_nil_of_le (by omega)
        have HLL := Lib.hid hll; have HNIL := Lib.hid hnil; have H4 := Lib.hid h4; have H5 := Lib.hid h5
        clear h h2 h4 h5 h6 hll hnil
        go_enter Tryz.func68, Tryz.ntmps68
        go_wp2
        go_ret
        have hs2 : SrcB B w g (.slice (some ⟨b, off, none⟩) (l.length - n) 0) (l.drop n) := .inr ⟨b, off, 0, by rw [HNIL.out, HLL.out]; simp, by rw [HNIL.out]; exact Nat.zero_le _, Nat.zero_le _, H4.out, H5.out, by rw [HNIL.out]; intro j u hu; simp at hu⟩
        exact .inr ⟨hle, .slice (some ⟨b, off, none⟩) n n, .slice (some ⟨b, off, none⟩) (l.length - n) 0, rfl, HSP.out.1.chg (setg _ _ _), HH.out.put hs2 (HH.out.bytes.drop' n) (by have := HH.out.small; simp; omega), setg _ _ _⟩
      · have hnc2 : n < cap := by omega
        clear h h2 h4 h5 h6 hnc
        go_enter Tryz.func68, Tryz.ntmps68
        go_wp2
        go_ret
        exact .inr ⟨hle, .slice (some ⟨b, off, none⟩) n cap, .slice (some ⟨b, off + n, none⟩) (l.length - n) (cap - n), rfl, HSP.out.1.chg (setg _ _ _), HH.out.put HSP.out.2 (HH.out.bytes.drop' n) (by have := HH.out.small; simp; omega), setg _ _ _⟩
end Go.Proofs.YtcodpdpeklammaaGreatDoor
namespace Go.Proofs.YtcodpdpeklammaaGreatDoor
set_option linter.unusedVariables false
set_option linter.unusedSimpArgs false
open Go Go.RowKit

theorem snoc_ind {P : List Int → Prop} (h0 : P []) (hs : ∀ l x, P l → P (l ++ [x])) (l : List Int) : P l := by
  rw [← List.reverse_reverse l]
  induction l.reverse with
  | nil => exact h0
  | cons a r ih => rw [List.reverse_cons]; exact hs _ _ ih
/-- the number that bytes tell, the greatest first -/
def be (l : List Int) : Int := l.foldl (fun a c => a * 256 + c) 0
theorem be_snoc (l : List Int) (c : Int) : be (l ++ [c]) = be l * 256 + c := by simp [be, List.foldl_append]
theorem be_append (a b : List Int) : be (a ++ b) = be a * 256 ^ b.length + be b := by
  induction b using snoc_ind with
  | h0 => simp [be]
  | hs b c ih =>
    rw [← List.append_assoc, be_snoc, ih, be_snoc, List.length_append, List.length_singleton, Int.pow_succ, Int.add_mul, Int.mul_assoc, Int.add_assoc]
theorem be_range {l : List Int} (h : Bytes l) : 0 ≤ be l ∧ be l < 256 ^ l.length := by
  induction l using snoc_ind with
  | h0 => simp [be]
  | hs b c ih =>
    have hb := ih (fun x hx => h x (by simp [hx]))
    have hc := h c (by simp)
    rw [be_snoc, List.length_append, List.length_singleton, Int.pow_succ]
    obtain ⟨h1, h2⟩ := hb
    obtain ⟨h3, h4⟩ := hc
    omega
/-- the four words of a number, the lowest first -/
def words (v : Int) : List Int := [v % 18446744073709551616, v / 18446744073709551616 % 18446744073709551616, v / 340282366920938463463374607431768211456 % 18446744073709551616, v / 6277101735386680763835789423207666416102355444464034512896 % 18446744073709551616]
/-- less, equal, greater -/
def cmpZ (x y : Int) : Int := if x < y then -1 else if y < x then 1 else 0
theorem nm_keeps_alloc {w W : World} (h : Keeps w W) (o : Obj) : Keeps w (W.alloc o) := Below.alloc h h.size o
theorem nm_keeps_chg {w W W' : World} {p : Nat} (h : Keeps w W) (c : Chg (· = p) W W') (hp : w.heap.size ≤ p) : Keeps w W' := Below.trans h (Chg.below c h.size (fun k hk e => by omega))
theorem keeps_set {w W : World} {p i : Nat} (h : Keeps w W) (hp : w.heap.size ≤ p) (u : Value) : Keeps w (W.setCell ⟨p, i, none⟩ u) := Below.setCell h hp _
/-- two arrays laid one behind the other -/
theorem two_rows (w : World) (a b : List Value) (T U : TypeId) : ∃ p q W, p = w.heap.size ∧ q = w.heap.size + 1 ∧ W = (w.alloc (.cells a.toArray T)).alloc (.cells b.toArray U) ∧ Keeps w W ∧ Row W p 0 a ∧ Row W q 0 b ∧ W.heap.size = w.heap.size + 2 :=
  ⟨_, _, _, rfl, rfl, rfl, nm_keeps_alloc (nm_keeps_alloc (Keeps.refl w) _) _, (Row.new _ _ _ rfl).alloc _, by have := Row.new (w := w.alloc (.cells a.toArray T)) b _ U rfl; rwa [World.size_alloc] at this, by simp⟩
theorem w64_wraps (n : Int) (h₀ : 0 ≤ n) (h₁ : n < 2 ^ 64) : IntKind.u64.wrap n = n := by rw [IntKind.wrap_u64]; omega
theorem u64_join (i : Nat) (x y : Int) (hx₀ : 0 ≤ x) (hx : x % 2 ^ i = 0) (hx₁ : x < 2 ^ 64) (hy₀ : 0 ≤ y) (hy : y < 2 ^ i) (hy₁ : y < 2 ^ 64) : bits .or .u64 x y = x + y :=
  bits_join .u64 64 (by decide) w64_wraps i x y hx₀ hx hx₁ hy₀ hy hy₁
theorem sz_number : (Tryz.prog.info? 51).map (·.size) = some 32 := by kernel_rfl
variable {B : Nat}

theorem leV_range : ∀ {l : List Int}, Bytes l → 0 ≤ leV l ∧ leV l < 256 ^ l.length
  | [], _ => by simp [leV]
  | b :: r, h => by
    have h1 := h b (by simp)
    have h2 := leV_range (l := r) (fun x hx => h x (by simp [hx]))
    obtain ⟨h3, h4⟩ := h1
    obtain ⟨h5, h6⟩ := h2
    simp only [leV, List.length_cons, Int.pow_succ]
    omega
theorem leV_take (L : List Int) (i : Nat) (h : i < L.length) : leV (L.take (i + 1)) = leV (L.take i) + 256 ^ i * L.getD i 0 := by
  have e : L.take (i + 1) = L.take i ++ [L.getD i 0] := by rw [List.take_add_one]; simp [List.getD, h]
  rw [e, leV_app]
  have : (L.take i).length = i := by simp; omega
  rw [this]
  simp [leV]
theorem low_or (k : Nat) (x c : Int) (hx0 : 0 ≤ x) (hx1 : x < 2 ^ k) (hc0 : 0 ≤ c) (hc1 : c * 2 ^ k < 2 ^ 64) (hk : x < 2 ^ 64) : bits .or .u64 x (c * 2 ^ k) = x + c * 2 ^ k := by
  have hcm : bits .or .u64 x (c * 2 ^ k) = bits .or .u64 (c * 2 ^ k) x := by simp only [bits, BitVec.or_comm]
  rw [hcm, u64_join k (c * 2 ^ k) x (Int.mul_nonneg hc0 (Int.pow_nonneg (by decide))) (Int.mul_emod_left _ _) hc1 hx0 hx1 hk, Int.add_comm]
theorem or_at (i : Nat) (hi : i < 8) (X c : Int) (hx0 : 0 ≤ X) (hx1 : X < 256 ^ i) (hc0 : 0 ≤ c) (hc1 : c < 256) : Value.int .u64 (bits .or .u64 X (c * 256 ^ i)) = Value.int .u64 (X + 256 ^ i * c) := by
  have e : (256 : Int) ^ i = 2 ^ (8 * i) := by rw [Int.pow_mul]; rfl
  have hi8 : i = 0 ∨ i = 1 ∨ i = 2 ∨ i = 3 ∨ i = 4 ∨ i = 5 ∨ i = 6 ∨ i = 7 := by omega
  rw [e] at hx1 ⊢
  rw [low_or (8 * i) X c hx0 hx1 hc0 ?_ ?_, Int.mul_comm c]
  · rcases hi8 with rfl | rfl | rfl | rfl | rfl | rfl | rfl | rfl <;> omega
  · rcases hi8 with rfl | rfl | rfl | rfl | rfl | rfl | rfl | rfl <;> omega
theorem take_no (g : Nat) (v : Value) (e : Int) (l : List Int) (n : Nat) (hn : n ≤ 140737488355328) (hlt : l.length < n) (w : World) (h : RdAt B w g v e l) :
    Calls Tryz.prog 68 #[.pointer (some ⟨g, 0, none⟩), .int .i64 n] w fun r w' => r = .panicked (stopC 4) ∧ w' = w :=
  (take_any g v e l n hn w h).mono (fun r w' h => by
    rcases h with ⟨_, h1, h2⟩ | ⟨h, _⟩
    · exact ⟨h1, h2⟩
    · omega)
theorem take_ok (g : Nat) (v : Value) (e : Int) (l : List Int) (n : Nat) (hn : n ≤ 140737488355328) (hle : n ≤ l.length) (w : World) (h : RdAt B w g v e l) :
    Calls Tryz.prog 68 #[.pointer (some ⟨g, 0, none⟩), .int .i64 n] w fun r w' => ∃ s v', r = .returned s ∧ SrcB B w' g s (l.take n) ∧ RdAt B w' g v' e (l.drop n) ∧ Chg (· = g) w w' :=
  (take_any g v e l n hn w h).mono (fun r w' h => by
    rcases h with ⟨h, _⟩ | ⟨_, h⟩
    · omega
    · exact h)
theorem SrcB.any {W : World} {g : Nat} {v : Value} {l : List Int} (h : SrcB B W g v l) : ∃ a cap, v = .slice a l.length cap ∧ l.length ≤ cap ∧ cap ≤ maxLen ∧ ∀ i, i < l.length → ∃ b off, a = some ⟨b, off, none⟩ ∧ W.cell? ⟨b, off + i, none⟩ = some (.int .u8 (l.getD i 0)) := by
  rcases h with ⟨rfl, rfl⟩ | ⟨b, off, cap, rfl, h2, h3, h4, h5, h6⟩
  · exact ⟨none, 0, rfl, Nat.le_refl _, Nat.zero_le _, fun i hi => by simp at hi⟩
  · exact ⟨_, cap, rfl, h2, h3, fun i hi => ⟨b, off, rfl, h6.int i hi⟩⟩
set_option maxRecDepth 100000 in
theorem number_no (g : Nat) (v : Value) (e : Int) (l : List Int) (n : Nat) (hn : n ≤ 8) (hlt : l.length < n) (w : World) (h : RdAt B w g v e l) :
    Calls Tryz.prog 87 #[.pointer (some ⟨g, 0, none⟩), .int .i64 n] w fun r w' => r = .panicked (stopC 4) ∧ w' = w := by
  have HT := Lib.hid (take_no g v e l n (by omega) hlt w h)
  go_enter Tryz.func87, Tryz.ntmps87
  go_wp2_with (go_at_call 68; refine HT.out.mono ?_; rintro r W1 ⟨rfl, rfl⟩)
  exact ⟨rfl, rfl, rfl⟩
set_option maxRecDepth 100000 in
theorem number_ok (g : Nat) (v : Value) (e : Int) (l : List Int) (n : Nat) (hn : n ≤ 8) (hle : n ≤ l.length) (w : World) (h : RdAt B w g v e l) :
    Calls Tryz.prog 87 #[.pointer (some ⟨g, 0, none⟩), .int .i64 n] w fun r w' => ∃ v', r = .returned (.int .u64 (leV (l.take n))) ∧ RdAt B w' g v' e (l.drop n) ∧ Chg (· = g) w w' := by
  have HT := Lib.hid (take_ok g v e l n (by omega) hle w h)
  have hby : Bytes (l.take n) := h.bytes.take' n
  have hll : (l.take n).length = n := by simp; omega
  clear h
  go_enter Tryz.func87, Tryz.ntmps87
  go_upto_region 3 with (go_at_call 68; refine HT.out.mono ?_; rintro r W1 ⟨s, v', rfl, hs, hr, hc⟩; obtain ⟨sa, sc, rfl, h1, h2, h3⟩ := hs.any; have HR := Lib.hid hr; have HC := Lib.hid hc; have HCE := Lib.hid h3; have HBY := Lib.hid hby; have HLL := Lib.hid hll; clear hs hr hc h3)
  generalize hTL : l.take n = L at *
  have HTL := Lib.hid hTL
  clear hTL
  go_loopw [5, 12] (fun x c wr => ∃ i : Nat, i ≤ n ∧ c = .int .i64 i ∧ x = .int .u64 (leV (L.take i)) ∧ wr = W1) (fun _ c _ => (n - intOf c).toNat)
  case atStart => exact ⟨0, by omega, rfl, rfl, rfl⟩
  case round =>
    obtain ⟨i, hi, rfl, rfl, rfl⟩ := hrel
    by_cases hlt : i < n
    · obtain ⟨b, off, rfl, hcb⟩ := HCE.out i (by rw [HLL.out]; exact hlt)
      have hlv := leV_take L i (by rw [HLL.out]; exact hlt)
      have hrg := leV_range (l := L.take i) (HBY.out.take' i)
      rw [show (L.take i).length = i by rw [List.length_take, HLL.out]; omega] at hrg
      obtain ⟨hx0, hx1⟩ := hrg
      obtain ⟨hc0, hc1⟩ := HBY.out.getD i
      have HLV := Lib.hid hlv
      clear hlv
      generalize L.getD i 0 = c at *
      generalize leV (L.take i) = X at *
      have hi8 : i = 0 ∨ i = 1 ∨ i = 2 ∨ i = 3 ∨ i = 4 ∨ i = 5 ∨ i = 6 ∨ i = 7 := by omega
      rcases hi8 with rfl | rfl | rfl | rfl | rfl | rfl | rfl | rfl
      all_goals
        have hor := or_at _ (by omega) X c hx0 hx1 hc0 hc1
        rw [← HLV.out] at hor
        have HOR := Lib.hid hor
        clear hor hx0 hx1
        try rw [Nat.add_zero] at hcb
        go_wp2
        refine ⟨⟨_, hlt, rfl, ?_, trivial⟩, by simp [intOf]; omega⟩
        first
          | exact HOR.out
          | (have := HOR.out; simpa using this)
    · obtain rfl : i = n := by omega
      have htk : L.take i = L := List.take_of_length_le (by rw [HLL.out]; exact Nat.le_refl _)
      rw [htk]
      go_wp2
      go_ret
      exact ⟨v', by first | rfl | (rw [HTL.out]; rfl), HR.out, HC.out⟩
end Go.Proofs.YtcodpdpeklammaaGreatDoor
namespace Go.Proofs.YtcodpdpeklammaaGreatDoor
set_option linter.unusedVariables false
set_option linter.unusedSimpArgs false
open Go Go.RowKit
variable {B : Nat}

/-- what a reading function does, by its law in plain Lean: the reader's block alone is changed -/
def ReadP (B : Nat) {α : Type} (p : Rdr α) (enc : World → α → Value → Prop) (g : Nat) (e : Int) (l : List Int) (w : World) (r : Ending) (w' : World) : Prop :=
  ∃ v' l', RdAt B w' g v' e l' ∧ Chg (· = g) w w' ∧ ((∃ x val, p l = .ok (x, l') ∧ r = .returned val ∧ enc w' x val) ∨ (∃ c, p l = .error c ∧ r = .panicked (stopC c)))
def encU (k : IntKind) (_ : World) (x : Int) (v : Value) : Prop := v = .int k x
theorem num_no {n : Nat} {l : List Int} (h : l.length < n) : rdNum n l = .error 4 := by unfold rdNum rdBind rdTake; rw [if_pos h]
theorem num_ok {n : Nat} {l : List Int} (h : n ≤ l.length) : rdNum n l = .ok (leV (l.take n), l.drop n) := by unfold rdNum rdBind rdTake; rw [if_neg (by omega)]; rfl
theorem wide_len (x : Int) : ((sizeB x).length : Int) = wideZ x + 1 := by
  unfold sizeB wideZ
  split
  · simp
  · split
    · simp [leB_length]
    · split <;> simp [leB_length]
theorem length_any (x : Int) (h0 : 0 ≤ x) (h1 : x < 18446744073709551616) (w : World) : Calls Tryz.prog 97 #[.int .u64 x] w fun e w' => e = .returned (.int .i64 ((sizeB x).length : Int)) ∧ w' = w := by
  have HW := Lib.hid (wide_any x h0 h1)
  have hwl := wide_len x
  have hb := sizeB_len x
  rw [hwl]
  have hr : -1 ≤ wideZ x ∧ wideZ x ≤ 8 := by omega
  clear hwl hb
  generalize wideZ x = Z at *
  go_enter Tryz.func97, Tryz.ntmps97
  go_wp2_with (go_at_call 50; refine (HW.out _).mono ?_; rintro e w1 ⟨rfl, rfl⟩)
  go_ret
  exact ⟨rfl, rfl⟩
theorem readp_ret {α : Type} {p : Rdr α} {enc : World → α → Value → Prop} {g : Nat} {e : Int} {l l' : List Int} {w w' : World} {v' val : Value} {x : α} (h : RdAt B w' g v' e l') (hc : Chg (· = g) w w') (hp : p l = .ok (x, l')) (he : enc w' x val) : ReadP B p enc g e l w (.returned val) w' := ⟨v', l', h, hc, .inl ⟨x, val, hp, rfl, he⟩⟩
theorem readp_stop {α : Type} {p : Rdr α} {enc : World → α → Value → Prop} {g : Nat} {e c : Int} {l l' : List Int} {w w' : World} {v' : Value} (h : RdAt B w' g v' e l') (hc : Chg (· = g) w w') (hp : p l = .error c) : ReadP B p enc g e l w (.panicked (stopC c)) w' := ⟨v', l', h, hc, .inr ⟨c, hp, rfl⟩⟩
set_option maxRecDepth 100000 in
set_option maxHeartbeats 1000000 in
theorem size_read (g : Nat) (v : Value) (e : Int) (l : List Int) (w : World) (h : RdAt B w g v e l) :
    Calls Tryz.prog 65 #[.pointer (some ⟨g, 0, none⟩)] w (ReadP B rdSize (encU .u64) g e l w) := by
  have HH := Lib.hid h
  by_cases hl0 : l.length < 1
  · have HN := Lib.hid (number_no g v e l 1 (by omega) hl0 w h)
    have hsz : rdSize l = .error 4 := by unfold rdSize; exact rdBind_err (num_no hl0)
    clear h
    go_enter Tryz.func65, Tryz.ntmps65
    go_wp2_with (go_at_call 87; refine HN.out.mono ?_; rintro r W1 ⟨rfl, rfl⟩)
    exact ⟨rfl, readp_stop HH.out (Chg.refl _ _) hsz⟩
  · have HN := Lib.hid (number_ok g v e l 1 (by omega) (by omega) w h)
    obtain ⟨f, r1, rfl⟩ : ∃ f r1, l = f :: r1 := by cases l with | nil => simp at hl0 | cons f r1 => exact ⟨f, r1, rfl⟩
    have hf := h.bytes f (by simp)
    obtain ⟨hf0, hf1⟩ := hf
    have e1 : leV ((f :: r1).take 1) = f := by simp [leV]
    have e2 : (f :: r1).drop 1 = r1 := rfl
    have hone : rdNum 1 (f :: r1) = .ok (f, r1) := by rw [num_ok (by simp), e1, e2]
    rw [e1, e2] at HN
    by_cases hf2 : f < 253
    · have hsz : rdSize (f :: r1) = .ok (f, r1) := by unfold rdSize; rw [rdBind_ok hone, if_pos hf2]; rfl
      clear h
      go_enter Tryz.func65, Tryz.ntmps65
      go_wp2_with (go_at_call 87; refine HN.out.mono ?_; rintro r W1 ⟨v1, rfl, hr1, hc1⟩; have HR1 := Lib.hid hr1; have HC1 := Lib.hid hc1; clear hr1 hc1)
      go_ret
      exact readp_ret HR1.out HC1.out hsz rfl
    · obtain ⟨k, hk, hkc⟩ : ∃ k : Nat, markLen f = k ∧ ((f = 253 ∧ k = 2) ∨ (f = 254 ∧ k = 4) ∨ (f = 255 ∧ k = 8)) := by
        refine ⟨_, rfl, ?_⟩
        have : f = 253 ∨ f = 254 ∨ f = 255 := by omega
        rcases this with rfl | rfl | rfl
        · exact .inl ⟨rfl, rfl⟩
        · exact .inr (.inl ⟨rfl, rfl⟩)
        · exact .inr (.inr ⟨rfl, rfl⟩)
      have hk8 : k ≤ 8 := by omega
      have hsz0 : rdSize (f :: r1) = rdBind (rdNum k) (fun x => if (sizeB x).length ≠ k + 1 then rdErr 3 else if 33554432 < x then rdErr 2 else rdOk x) r1 := by unfold rdSize; rw [rdBind_ok hone, if_neg hf2, hk]
      by_cases hl2 : r1.length < k
      · have HN2 := Lib.hid (fun W v1 (hr : RdAt B W g v1 e r1) => number_no g v1 e r1 k hk8 hl2 W hr)
        have hsz : rdSize (f :: r1) = .error 4 := by rw [hsz0]; exact rdBind_err (num_no hl2)
        clear h hsz0
        rcases hkc with ⟨rfl, rfl⟩ | ⟨rfl, rfl⟩ | ⟨rfl, rfl⟩
        all_goals
          go_enter Tryz.func65, Tryz.ntmps65
          go_wp2_with (go_at_call 87; first | (refine (HN2.out _ _ HR1.out).mono ?_; rintro r W2 ⟨rfl, rfl⟩) | (refine HN.out.mono ?_; rintro r W1 ⟨v1, rfl, hr1, hc1⟩; have HR1 := Lib.hid hr1; have HC1 := Lib.hid hc1; clear hr1 hc1))
          exact ⟨rfl, readp_stop HR1.out HC1.out hsz⟩
      · have HN2 := Lib.hid (fun W v1 (hr : RdAt B W g v1 e r1) => number_ok g v1 e r1 k hk8 (by omega) W hr)
        have hlk : (r1.take k).length = k := by simp; omega
        have hrg := leV_range (l := r1.take k) (fun y hy => h.bytes y (List.mem_cons_of_mem _ (List.mem_of_mem_take hy)))
        rw [hlk] at hrg
        rw [rdBind_ok (num_ok (by omega))] at hsz0
        obtain ⟨hx0, hx1⟩ := hrg
        have hx2 : leV (r1.take k) < 18446744073709551616 := by rcases hkc with ⟨_, rfl⟩ | ⟨_, rfl⟩ | ⟨_, rfl⟩ <;> omega
        generalize leV (r1.take k) = X at *
        have HLN := Lib.hid (length_any X hx0 hx2)
        clear h hlk hx1
        generalize hSL : (sizeB X).length = SL at *
        clear hSL
        by_cases hs1 : SL = k + 1
        · rw [if_neg (by omega)] at hsz0
          by_cases hs2 : 33554432 < X
          · have hsz : rdSize (f :: r1) = .error 2 := by rw [hsz0, if_pos hs2]; rfl
            clear hsz0
            rcases hkc with ⟨rfl, rfl⟩ | ⟨rfl, rfl⟩ | ⟨rfl, rfl⟩
            all_goals
              subst hs1
              go_enter Tryz.func65, Tryz.ntmps65
              go_wp2_with (first | (go_at_call 97; refine (HLN.out _).mono ?_; rintro r W5 ⟨rfl, rfl⟩) | (go_at_call 87; first | (refine (HN2.out _ _ HR1.out).mono ?_; rintro r W2 ⟨v2, rfl, hr2, hc2⟩; have HR2 := Lib.hid hr2; have HC2 := Lib.hid hc2; clear hr2 hc2) | (refine HN.out.mono ?_; rintro r W1 ⟨v1, rfl, hr1, hc1⟩; have HR1 := Lib.hid hr1; have HC1 := Lib.hid hc1; clear hr1 hc1)))
              exact ⟨rfl, readp_stop HR2.out (HC1.out.trans HC2.out) hsz⟩
          · have hsz : rdSize (f :: r1) = .ok (X, r1.drop k) := by rw [hsz0, if_neg hs2]; rfl
            clear hsz0
            rcases hkc with ⟨rfl, rfl⟩ | ⟨rfl, rfl⟩ | ⟨rfl, rfl⟩
            all_goals
              subst hs1
              go_enter Tryz.func65, Tryz.ntmps65
              go_wp2_with (first | (go_at_call 97; refine (HLN.out _).mono ?_; rintro r W5 ⟨rfl, rfl⟩) | (go_at_call 87; first | (refine (HN2.out _ _ HR1.out).mono ?_; rintro r W2 ⟨v2, rfl, hr2, hc2⟩; have HR2 := Lib.hid hr2; have HC2 := Lib.hid hc2; clear hr2 hc2) | (refine HN.out.mono ?_; rintro r W1 ⟨v1, rfl, hr1, hc1⟩; have HR1 := Lib.hid hr1; have HC1 := Lib.hid hc1; clear hr1 hc1)))
              go_ret
              exact readp_ret HR2.out (HC1.out.trans HC2.out) hsz rfl
        · have hsz : rdSize (f :: r1) = .error 3 := by rw [hsz0, if_pos hs1]; rfl
          clear hsz0
          rcases hkc with ⟨rfl, rfl⟩ | ⟨rfl, rfl⟩ | ⟨rfl, rfl⟩
          · have hne : ((SL : Int) == 3) = false := beq_eq_false_iff_ne.2 (by omega)
            have hne2 : ((SL : Int) != 3) = true := by simp only [bne, hne]; rfl
            go_enter Tryz.func65, Tryz.ntmps65
            go_wp2_with (first | (go_at_call 97; refine (HLN.out _).mono ?_; rintro r W5 ⟨rfl, rfl⟩) | (go_at_call 87; first | (refine (HN2.out _ _ HR1.out).mono ?_; rintro r W2 ⟨v2, rfl, hr2, hc2⟩; have HR2 := Lib.hid hr2; have HC2 := Lib.hid hc2; clear hr2 hc2) | (refine HN.out.mono ?_; rintro r W1 ⟨v1, rfl, hr1, hc1⟩; have HR1 := Lib.hid hr1; have HC1 := Lib.hid hc1; clear hr1 hc1)))
            exact ⟨rfl, readp_stop HR2.out (HC1.out.trans HC2.out) hsz⟩
          · have hne : ((SL : Int) == 5) = false := beq_eq_false_iff_ne.2 (by omega)
            have hne2 : ((SL : Int) != 5) = true := by simp only [bne, hne]; rfl
            go_enter Tryz.func65, Tryz.ntmps65
            go_wp2_with (first | (go_at_call 97; refine (HLN.out _).mono ?_; rintro r W5 ⟨rfl, rfl⟩) | (go_at_call 87; first | (refine (HN2.out _ _ HR1.out).mono ?_; rintro r W2 ⟨v2, rfl, hr2, hc2⟩; have HR2 := Lib.hid hr2; have HC2 := Lib.hid hc2; clear hr2 hc2) | (refine HN.out.mono ?_; rintro r W1 ⟨v1, rfl, hr1, hc1⟩; have HR1 := Lib.hid hr1; have HC1 := Lib.hid hc1; clear hr1 hc1)))
            exact ⟨rfl, readp_stop HR2.out (HC1.out.trans HC2.out) hsz⟩
          · have hne : ((SL : Int) == 9) = false := beq_eq_false_iff_ne.2 (by omega)
            have hne2 : ((SL : Int) != 9) = true := by simp only [bne, hne]; rfl
            go_enter Tryz.func65, Tryz.ntmps65
            go_wp2_with (first | (go_at_call 97; refine (HLN.out _).mono ?_; rintro r W5 ⟨rfl, rfl⟩) | (go_at_call 87; first | (refine (HN2.out _ _ HR1.out).mono ?_; rintro r W2 ⟨v2, rfl, hr2, hc2⟩; have HR2 := Lib.hid hr2; have HC2 := Lib.hid hc2; clear hr2 hc2) | (refine HN.out.mono ?_; rintro r W1 ⟨v1, rfl, hr1, hc1⟩; have HR1 := Lib.hid hr1; have HC1 := Lib.hid hc1; clear hr1 hc1)))
            exact ⟨rfl, readp_stop HR2.out (HC1.out.trans HC2.out) hsz⟩
end Go.Proofs.YtcodpdpeklammaaGreatDoor
namespace Go.Proofs.YtcodpdpeklammaaGreatDoor
set_option linter.unusedVariables false
set_option linter.unusedSimpArgs false
open Go Go.RowKit
theorem run_assert_ok {P : Program} (t xT : TypeId) (v : Value) {k : IntKind} (h : P.underlying t = some (.int k)) (w : World) : (Instr.typeAssert (.iface t v) xT t true).run P w = .ok (.tuple #[v, .bool true]) w := by
  simp [Instr.typeAssert, run_underlying h, go_sem, Result.andThen]
def recD (c : Int) : List PanicEntry := [{ v := stopV c, recovered := true }]
set_option maxRecDepth 100000 in
set_option maxHeartbeats 1000000 in
theorem catch64 (g p0 p1 p2 : Nat) (ad : Option Addr) (sl sc : Nat) (vb : Value) (eb c : Int) (ob : Int) (w : World) (h2 : w.cell? ⟨p2, 0, none⟩ = some (.slice ad sl sc)) (h0 : w.cell? ⟨p0, 0, none⟩ = some (.pointer (some ⟨g, 0, none⟩)))
    (hg : Row w g 0 [vb, .int .i64 eb]) (h1 : Row w p1 0 [.int .u64 ob]) (hn1 : p1 ≠ g) (hn0 : p0 ≠ g) (hn2 : p2 ≠ g) :
    CallsD Tryz.prog 96 #[.pointer (some ⟨p2, 0, none⟩), .pointer (some ⟨p0, 0, none⟩), .pointer (some ⟨p1, 0, none⟩)] (.panicking (stopC c)) w fun e u' w' =>
      e = .returned (.tuple #[]) ∧ u' = .panicking (recD c) ∧ w' = ((w.setCell ⟨g, 0, none⟩ (.slice ad sl sc)).setCell ⟨g, 1, none⟩ (.int .i64 c)).setCell ⟨p1, 0, none⟩ (.int .u64 0) := by
  have c0 := (hg 0 _ rfl).1
  have f0 := (hg 0 _ rfl).2
  have c1 := (hg 1 _ rfl).1
  have f1 := (hg 1 _ rfl).2
  have d1 := (h1 0 _ rfl).1
  have e1 := (h1 0 _ rfl).2
  simp only [Nat.zero_add] at c0 f0 c1 f1 d1 e1
  refine callsD_of_wpS Tryz.func96 rfl fun c₀ cs hu => ?_
  apply wpS_seq
  apply wpS_region
  simp [wpOpsS, go_sem, recoverD, hu, stopC, Tryz.ntmps96, Exit.thenS]
  refine wpS_of_wp ?_
  simp only [Act.put, List.setIfInBounds_toArray, List.set_cons_zero, List.set_cons_succ, Array.replicate_succ, Array.replicate_zero, List.push_toArray, List.append_toArray, List.nil_append, List.cons_append]
  simp only [stopV]
  go_wp2
  rw [run_assert_ok _ _ _ (k := .i64) (by kernel_rfl)]
  simp only [Result.andThen]
  rw [Oper.upon_value]
  go_wp2
  simp [bodyPostS, results, Tryz.results96, recD, stopV]
set_option maxRecDepth 100000 in
set_option maxHeartbeats 1000000 in
theorem idle64 (a b d : Value) (w : World) :
    CallsD Tryz.prog 96 #[a, b, d] .returning w fun e u' w' => e = .returned (.tuple #[]) ∧ u' = .returning ∧ w' = w := by
  refine callsD_of_wpS Tryz.func96 rfl fun c₀ cs hu => ?_
  apply wpS_seq
  apply wpS_region
  simp [wpOpsS, go_sem, recoverD, hu, Tryz.ntmps96, Exit.thenS]
  refine wpS_of_wp ?_
  simp only [Act.put, List.setIfInBounds_toArray, List.set_cons_zero, List.set_cons_succ, Array.replicate_succ, Array.replicate_zero, List.push_toArray, List.append_toArray, List.nil_append, List.cons_append]
  go_wp2
  cases c₀
  simp_all [bodyPostS, results, Tryz.results96]
set_option maxRecDepth 100000 in
set_option maxHeartbeats 1000000 in
theorem catch32 (g p0 p1 p2 : Nat) (ad : Option Addr) (sl sc : Nat) (vb : Value) (eb c : Int) (ob : Int) (w : World) (h2 : w.cell? ⟨p2, 0, none⟩ = some (.slice ad sl sc)) (h0 : w.cell? ⟨p0, 0, none⟩ = some (.pointer (some ⟨g, 0, none⟩)))
    (hg : Row w g 0 [vb, .int .i64 eb]) (h1 : Row w p1 0 [.int .u32 ob]) (hn1 : p1 ≠ g) (hn0 : p0 ≠ g) (hn2 : p2 ≠ g) :
    CallsD Tryz.prog 116 #[.pointer (some ⟨p2, 0, none⟩), .pointer (some ⟨p0, 0, none⟩), .pointer (some ⟨p1, 0, none⟩)] (.panicking (stopC c)) w fun e u' w' =>
      e = .returned (.tuple #[]) ∧ u' = .panicking (recD c) ∧ w' = ((w.setCell ⟨g, 0, none⟩ (.slice ad sl sc)).setCell ⟨g, 1, none⟩ (.int .i64 c)).setCell ⟨p1, 0, none⟩ (.int .u32 0) := by
  have c0 := (hg 0 _ rfl).1
  have f0 := (hg 0 _ rfl).2
  have c1 := (hg 1 _ rfl).1
  have f1 := (hg 1 _ rfl).2
  have d1 := (h1 0 _ rfl).1
  have e1 := (h1 0 _ rfl).2
  simp only [Nat.zero_add] at c0 f0 c1 f1 d1 e1
  refine callsD_of_wpS Tryz.func116 rfl fun c₀ cs hu => ?_
  apply wpS_seq
  apply wpS_region
  simp [wpOpsS, go_sem, recoverD, hu, stopC, Tryz.ntmps116, Exit.thenS]
  refine wpS_of_wp ?_
  simp only [Act.put, List.setIfInBounds_toArray, List.set_cons_zero, List.set_cons_succ, Array.replicate_succ, Array.replicate_zero, List.push_toArray, List.append_toArray, List.nil_append, List.cons_append]
  simp only [stopV]
  go_wp2
  rw [run_assert_ok _ _ _ (k := .i64) (by kernel_rfl)]
  simp only [Result.andThen]
  rw [Oper.upon_value]
  go_wp2
  simp [bodyPostS, results, Tryz.results116, recD, stopV]
set_option maxRecDepth 100000 in
set_option maxHeartbeats 1000000 in
theorem idle32 (a b d : Value) (w : World) :
    CallsD Tryz.prog 116 #[a, b, d] .returning w fun e u' w' => e = .returned (.tuple #[]) ∧ u' = .returning ∧ w' = w := by
  refine callsD_of_wpS Tryz.func116 rfl fun c₀ cs hu => ?_
  apply wpS_seq
  apply wpS_region
  simp [wpOpsS, go_sem, recoverD, hu, Tryz.ntmps116, Exit.thenS]
  refine wpS_of_wp ?_
  simp only [Act.put, List.setIfInBounds_toArray, List.set_cons_zero, List.set_cons_succ, Array.replicate_succ, Array.replicate_zero, List.push_toArray, List.append_toArray, List.nil_append, List.cons_append]
  go_wp2
  cases c₀
  simp_all [bodyPostS, results, Tryz.results116]
set_option maxRecDepth 100000 in
set_option maxHeartbeats 1000000 in
theorem catch8 (g p0 p1 p2 : Nat) (ad : Option Addr) (sl sc : Nat) (vb : Value) (eb c : Int) (ob : Int) (w : World) (h2 : w.cell? ⟨p2, 0, none⟩ = some (.slice ad sl sc)) (h0 : w.cell? ⟨p0, 0, none⟩ = some (.pointer (some ⟨g, 0, none⟩)))
    (hg : Row w g 0 [vb, .int .i64 eb]) (h1 : Row w p1 0 [.int .u8 ob]) (hn1 : p1 ≠ g) (hn0 : p0 ≠ g) (hn2 : p2 ≠ g) :
    CallsD Tryz.prog 125 #[.pointer (some ⟨p2, 0, none⟩), .pointer (some ⟨p0, 0, none⟩), .pointer (some ⟨p1, 0, none⟩)] (.panicking (stopC c)) w fun e u' w' =>
      e = .returned (.tuple #[]) ∧ u' = .panicking (recD c) ∧ w' = ((w.setCell ⟨g, 0, none⟩ (.slice ad sl sc)).setCell ⟨g, 1, none⟩ (.int .i64 c)).setCell ⟨p1, 0, none⟩ (.int .u8 0) := by
  have c0 := (hg 0 _ rfl).1
  have f0 := (hg 0 _ rfl).2
  have c1 := (hg 1 _ rfl).1
  have f1 := (hg 1 _ rfl).2
  have d1 := (h1 0 _ rfl).1
  have e1 := (h1 0 _ rfl).2
  simp only [Nat.zero_add] at c0 f0 c1 f1 d1 e1
  refine callsD_of_wpS Tryz.func125 rfl fun c₀ cs hu => ?_
  apply wpS_seq
  apply wpS_region
  simp [wpOpsS, go_sem, recoverD, hu, stopC, Tryz.ntmps125, Exit.thenS]
  refine wpS_of_wp ?_
  simp only [Act.put, List.setIfInBounds_toArray, List.set_cons_zero, List.set_cons_succ, Array.replicate_succ, Array.replicate_zero, List.push_toArray, List.append_toArray, List.nil_append, List.cons_append]
  simp only [stopV]
  go_wp2
  rw [run_assert_ok _ _ _ (k := .i64) (by kernel_rfl)]
  simp only [Result.andThen]
  rw [Oper.upon_value]
  go_wp2
  simp [bodyPostS, results, Tryz.results125, recD, stopV]
set_option maxRecDepth 100000 in
set_option maxHeartbeats 1000000 in
theorem idle8 (a b d : Value) (w : World) :
    CallsD Tryz.prog 125 #[a, b, d] .returning w fun e u' w' => e = .returned (.tuple #[]) ∧ u' = .returning ∧ w' = w := by
  refine callsD_of_wpS Tryz.func125 rfl fun c₀ cs hu => ?_
  apply wpS_seq
  apply wpS_region
  simp [wpOpsS, go_sem, recoverD, hu, Tryz.ntmps125, Exit.thenS]
  refine wpS_of_wp ?_
  simp only [Act.put, List.setIfInBounds_toArray, List.set_cons_zero, List.set_cons_succ, Array.replicate_succ, Array.replicate_zero, List.push_toArray, List.append_toArray, List.nil_append, List.cons_append]
  go_wp2
  cases c₀
  simp_all [bodyPostS, results, Tryz.results125]
set_option maxRecDepth 100000 in
set_option maxHeartbeats 1000000 in
theorem catchB (g p0 p1 p2 : Nat) (ad : Option Addr) (sl sc : Nat) (vb ob : Value) (eb c : Int) (w : World) (h2 : w.cell? ⟨p2, 0, none⟩ = some (.slice ad sl sc)) (h0 : w.cell? ⟨p0, 0, none⟩ = some (.pointer (some ⟨g, 0, none⟩)))
    (hg : Row w g 0 [vb, .int .i64 eb]) (h1 : Row w p1 0 [ob]) (hn1 : p1 ≠ g) (hn0 : p0 ≠ g) (hn2 : p2 ≠ g) :
    CallsD Tryz.prog 98 #[.pointer (some ⟨p2, 0, none⟩), .pointer (some ⟨p0, 0, none⟩), .pointer (some ⟨p1, 0, none⟩)] (.panicking (stopC c)) w fun e u' w' =>
      e = .returned (.tuple #[]) ∧ u' = .panicking (recD c) ∧ w' = ((w.setCell ⟨g, 0, none⟩ (.slice ad sl sc)).setCell ⟨g, 1, none⟩ (.int .i64 c)).setCell ⟨p1, 0, none⟩ (.slice none 0 0) := by
  have c0 := (hg 0 _ rfl).1
  have f0 := (hg 0 _ rfl).2
  have c1 := (hg 1 _ rfl).1
  have f1 := (hg 1 _ rfl).2
  have d1 := (h1 0 _ rfl).1
  have e1 := (h1 0 _ rfl).2
  simp only [Nat.zero_add] at c0 f0 c1 f1 d1 e1
  refine callsD_of_wpS Tryz.func98 rfl fun c₀ cs hu => ?_
  apply wpS_seq
  apply wpS_region
  simp [wpOpsS, go_sem, recoverD, hu, stopC, Tryz.ntmps98, Exit.thenS]
  refine wpS_of_wp ?_
  simp only [Act.put, List.setIfInBounds_toArray, List.set_cons_zero, List.set_cons_succ, Array.replicate_succ, Array.replicate_zero, List.push_toArray, List.append_toArray, List.nil_append, List.cons_append]
  simp only [stopV]
  go_wp2
  rw [run_assert_ok _ _ _ (k := .i64) (by kernel_rfl)]
  simp only [Result.andThen]
  rw [Oper.upon_value]
  go_wp2
  simp [bodyPostS, results, Tryz.results98, recD, stopV]
set_option maxRecDepth 100000 in
set_option maxHeartbeats 1000000 in
theorem idleB (a b d : Value) (w : World) :
    CallsD Tryz.prog 98 #[a, b, d] .returning w fun e u' w' => e = .returned (.tuple #[]) ∧ u' = .returning ∧ w' = w := by
  refine callsD_of_wpS Tryz.func98 rfl fun c₀ cs hu => ?_
  apply wpS_seq
  apply wpS_region
  simp [wpOpsS, go_sem, recoverD, hu, Tryz.ntmps98, Exit.thenS]
  refine wpS_of_wp ?_
  simp only [Act.put, List.setIfInBounds_toArray, List.set_cons_zero, List.set_cons_succ, Array.replicate_succ, Array.replicate_zero, List.push_toArray, List.append_toArray, List.nil_append, List.cons_append]
  go_wp2
  cases c₀
  simp_all [bodyPostS, results, Tryz.results98]
end Go.Proofs.YtcodpdpeklammaaGreatDoor
