/- wire's U8, U32, U64, Size, Left, Err, Close. | wire's Raw, Bytes, Left, Err, Close. | wire's Bytes. | wire.Open; tx.reader's must, fine. -/
import Derived.Test.YtcodpdpeklammaaGreatDoorGB3
namespace Go.Proofs.YtcodpdpeklammaaGreatDoor
set_option linter.unusedVariables false
set_option linter.unusedSimpArgs false
open Go Go.RowKit
variable {B : Nat}
theorem leV_small (l : List Int) (h : Bytes l) (n : Nat) (hn : n ≤ l.length) : 0 ≤ leV (l.take n) ∧ leV (l.take n) < 256 ^ n := by
  have := leV_range (h.take' n)
  rwa [List.length_take, Nat.min_eq_left hn] at this
set_option maxRecDepth 100000 in
theorem u64_read (g : Nat) (v : Value) (e : Int) (l : List Int) (w : World) (h : RdAt B w g v e l) :
    Calls Tryz.prog 126 #[.pointer (some ⟨g, 0, none⟩)] w (ReadP B (rdNum 8) (encU .u64) g e l w) := by
  have HH := Lib.hid h
  by_cases hl : l.length < 8
  · have HN := Lib.hid (number_no g v e l 8 (by omega) hl w h)
    clear h
    go_enter Tryz.func126, Tryz.ntmps126
    go_wp2_with (go_at_call 87; refine HN.out.mono ?_; rintro r W1 ⟨rfl, rfl⟩)
    exact ⟨rfl, readp_stop HH.out (Chg.refl _ _) (num_no hl)⟩
  · have HN := Lib.hid (number_ok g v e l 8 (by omega) (by omega) w h)
    clear h
    go_enter Tryz.func126, Tryz.ntmps126
    go_wp2_with (go_at_call 87; refine HN.out.mono ?_; rintro r W1 ⟨v', rfl, hr, hc⟩)
    go_ret
    exact readp_ret hr hc (num_ok (by omega)) rfl
set_option maxRecDepth 100000 in
theorem u32_read (g : Nat) (v : Value) (e : Int) (l : List Int) (w : World) (h : RdAt B w g v e l) :
    Calls Tryz.prog 86 #[.pointer (some ⟨g, 0, none⟩)] w (ReadP B (rdNum 4) (encU .u32) g e l w) := by
  have HH := Lib.hid h
  by_cases hl : l.length < 4
  · have HN := Lib.hid (number_no g v e l 4 (by omega) hl w h)
    clear h
    go_enter Tryz.func86, Tryz.ntmps86
    go_wp2_with (go_at_call 87; refine HN.out.mono ?_; rintro r W1 ⟨rfl, rfl⟩)
    exact ⟨rfl, readp_stop HH.out (Chg.refl _ _) (num_no hl)⟩
  · have HN := Lib.hid (number_ok g v e l 4 (by omega) (by omega) w h)
    have hs := leV_small l h.bytes 4 (by omega)
    have hw : IntKind.u32.wrap (leV (l.take 4)) = leV (l.take 4) := by
      have h1 := hs.1; have h2 := hs.2
      simp only [Int.reducePow] at h2
      rw [IntKind.wrap_u32]; omega
    clear h
    go_enter Tryz.func86, Tryz.ntmps86
    go_wp2_with (go_at_call 87; refine HN.out.mono ?_; rintro r W1 ⟨v', rfl, hr, hc⟩)
    go_ret
    exact readp_ret hr hc (num_ok (by omega)) (by show _ = _; simp [hw])
set_option maxRecDepth 100000 in
theorem u8_read (g : Nat) (v : Value) (e : Int) (l : List Int) (w : World) (h : RdAt B w g v e l) :
    Calls Tryz.prog 121 #[.pointer (some ⟨g, 0, none⟩)] w (ReadP B (rdNum 1) (encU .u8) g e l w) := by
  have HH := Lib.hid h
  by_cases hl : l.length < 1
  · have HN := Lib.hid (number_no g v e l 1 (by omega) hl w h)
    clear h
    go_enter Tryz.func121, Tryz.ntmps121
    go_wp2_with (go_at_call 87; refine HN.out.mono ?_; rintro r W1 ⟨rfl, rfl⟩)
    exact ⟨rfl, readp_stop HH.out (Chg.refl _ _) (num_no hl)⟩
  · have HN := Lib.hid (number_ok g v e l 1 (by omega) (by omega) w h)
    have hs := leV_small l h.bytes 1 (by omega)
    have hw : IntKind.u8.wrap (leV (l.take 1)) = leV (l.take 1) := by
      have h1 := hs.1; have h2 := hs.2
      simp only [Int.reducePow] at h2
      rw [IntKind.wrap_u8]; omega
    clear h
    go_enter Tryz.func121, Tryz.ntmps121
    go_wp2_with (go_at_call 87; refine HN.out.mono ?_; rintro r W1 ⟨v', rfl, hr, hc⟩)
    go_ret
    exact readp_ret hr hc (num_ok (by omega)) (by show _ = _; simp [hw])
def TryN (B : Nat) (k : IntKind) (p : Rdr Int) (g : Nat) (v : Value) (e : Int) (l : List Int) (w : World) (r : Ending) (w' : World) : Prop := TryP B p (encU k) (.int k 0) g v e l w r w'
theorem SrcB.slice {W : World} {g : Nat} {v : Value} {l : List Int} (h : SrcB B W g v l) : ∃ ad sl sc, v = .slice ad sl sc := by
  rcases h with ⟨rfl, _⟩ | ⟨b, off, cap, rfl, _⟩
  · exact ⟨_, _, _, rfl⟩
  · exact ⟨_, _, _, rfl⟩
theorem RdAt.slice {W : World} {g : Nat} {v : Value} {e : Int} {l : List Int} (h : RdAt B W g v e l) : ∃ ad sl sc, v = .slice ad sl sc := h.src.slice
set_option maxRecDepth 100000 in
theorem rdr_size_run (args : Array Value) (W : World) : (callFunc 65 args).run Tryz.prog W = .ok (.enter 65 args) W := by simp [go_sem]
set_option maxRecDepth 100000 in
theorem rdr_size_any (g : Nat) (v : Value) (e : Int) (l : List Int) (w : World) (h : RdAt B w g v e l) (hB : B ≤ w.heap.size) (hg : g < w.heap.size) :
    Calls Tryz.prog 36 #[.pointer (some ⟨g, 0, none⟩)] w (TryN B .u64 (rdSize) g v e l w) := by
  obtain ⟨ad, sl, sc, rfl⟩ := h.slice
  have HH := Lib.hid h
  by_cases he : e = 0
  · subst he
    have HT := Lib.hid (try64_read (rdSize) (encU .u64) 65 g ad sl sc l w h hg hB (fun W hW _ _ => size_read g _ 0 l W hW) rdr_size_run (fun W u x v h => h) (fun W x v h => ⟨x, h⟩))
    clear h
    go_enter Tryz.func36, Tryz.ntmps36
    go_wp2_with (go_at_call 64; refine HT.out.mono ?_; rintro r W1 ⟨hc, ⟨h0, _⟩ | ⟨h0, x, val, v', l', hp, rfl, hx, hr⟩ | ⟨h0, c, hp, rfl, hr⟩⟩)
    · go_ret
      exact ⟨hc, .inr (.inl ⟨rfl, x, _, v', l', hp, rfl, hx, hr⟩)⟩
    · go_ret
      exact ⟨hc, .inr (.inr ⟨rfl, c, hp, rfl, hr⟩)⟩
  · have HT := Lib.hid (fun fv => try64_done fv g ad sl sc e he l w h hg hB)
    clear h
    go_enter Tryz.func36, Tryz.ntmps36
    go_wp2_with (go_at_call 64; refine (HT.out _).mono ?_; rintro r W1 ⟨rfl, hk⟩)
    go_ret
    exact ⟨hk.chg _, .inl ⟨he, rfl, HH.out.keeps hk⟩⟩
set_option maxRecDepth 100000 in
theorem rdr_u64_run (args : Array Value) (W : World) : (callFunc 126 args).run Tryz.prog W = .ok (.enter 126 args) W := by simp [go_sem]
set_option maxRecDepth 100000 in
theorem rdr_u64_any (g : Nat) (v : Value) (e : Int) (l : List Int) (w : World) (h : RdAt B w g v e l) (hB : B ≤ w.heap.size) (hg : g < w.heap.size) :
    Calls Tryz.prog 122 #[.pointer (some ⟨g, 0, none⟩)] w (TryN B .u64 (rdNum 8) g v e l w) := by
  obtain ⟨ad, sl, sc, rfl⟩ := h.slice
  have HH := Lib.hid h
  by_cases he : e = 0
  · subst he
    have HT := Lib.hid (try64_read (rdNum 8) (encU .u64) 126 g ad sl sc l w h hg hB (fun W hW _ _ => u64_read g _ 0 l W hW) rdr_u64_run (fun W u x v h => h) (fun W x v h => ⟨x, h⟩))
    clear h
    go_enter Tryz.func122, Tryz.ntmps122
    go_wp2_with (go_at_call 64; refine HT.out.mono ?_; rintro r W1 ⟨hc, ⟨h0, _⟩ | ⟨h0, x, val, v', l', hp, rfl, hx, hr⟩ | ⟨h0, c, hp, rfl, hr⟩⟩)
    · go_ret
      exact ⟨hc, .inr (.inl ⟨rfl, x, _, v', l', hp, rfl, hx, hr⟩)⟩
    · go_ret
      exact ⟨hc, .inr (.inr ⟨rfl, c, hp, rfl, hr⟩)⟩
  · have HT := Lib.hid (fun fv => try64_done fv g ad sl sc e he l w h hg hB)
    clear h
    go_enter Tryz.func122, Tryz.ntmps122
    go_wp2_with (go_at_call 64; refine (HT.out _).mono ?_; rintro r W1 ⟨rfl, hk⟩)
    go_ret
    exact ⟨hk.chg _, .inl ⟨he, rfl, HH.out.keeps hk⟩⟩
set_option maxRecDepth 100000 in
theorem rdr_u32_run (args : Array Value) (W : World) : (callFunc 86 args).run Tryz.prog W = .ok (.enter 86 args) W := by simp [go_sem]
set_option maxRecDepth 100000 in
theorem rdr_u32_any (g : Nat) (v : Value) (e : Int) (l : List Int) (w : World) (h : RdAt B w g v e l) (hB : B ≤ w.heap.size) (hg : g < w.heap.size) :
    Calls Tryz.prog 56 #[.pointer (some ⟨g, 0, none⟩)] w (TryN B .u32 (rdNum 4) g v e l w) := by
  obtain ⟨ad, sl, sc, rfl⟩ := h.slice
  have HH := Lib.hid h
  by_cases he : e = 0
  · subst he
    have HT := Lib.hid (try32_read (rdNum 4) (encU .u32) 86 g ad sl sc l w h hg hB (fun W hW _ _ => u32_read g _ 0 l W hW) rdr_u32_run (fun W u x v h => h) (fun W x v h => ⟨x, h⟩))
    clear h
    go_enter Tryz.func56, Tryz.ntmps56
    go_wp2_with (go_at_call 85; refine HT.out.mono ?_; rintro r W1 ⟨hc, ⟨h0, _⟩ | ⟨h0, x, val, v', l', hp, rfl, hx, hr⟩ | ⟨h0, c, hp, rfl, hr⟩⟩)
    · go_ret
      exact ⟨hc, .inr (.inl ⟨rfl, x, _, v', l', hp, rfl, hx, hr⟩)⟩
    · go_ret
      exact ⟨hc, .inr (.inr ⟨rfl, c, hp, rfl, hr⟩)⟩
  · have HT := Lib.hid (fun fv => try32_done fv g ad sl sc e he l w h hg hB)
    clear h
    go_enter Tryz.func56, Tryz.ntmps56
    go_wp2_with (go_at_call 85; refine (HT.out _).mono ?_; rintro r W1 ⟨rfl, hk⟩)
    go_ret
    exact ⟨hk.chg _, .inl ⟨he, rfl, HH.out.keeps hk⟩⟩
set_option maxRecDepth 100000 in
theorem rdr_u8_run (args : Array Value) (W : World) : (callFunc 121 args).run Tryz.prog W = .ok (.enter 121 args) W := by simp [go_sem]
set_option maxRecDepth 100000 in
theorem rdr_u8_any (g : Nat) (v : Value) (e : Int) (l : List Int) (w : World) (h : RdAt B w g v e l) (hB : B ≤ w.heap.size) (hg : g < w.heap.size) :
    Calls Tryz.prog 101 #[.pointer (some ⟨g, 0, none⟩)] w (TryN B .u8 (rdNum 1) g v e l w) := by
  obtain ⟨ad, sl, sc, rfl⟩ := h.slice
  have HH := Lib.hid h
  by_cases he : e = 0
  · subst he
    have HT := Lib.hid (try8_read (rdNum 1) (encU .u8) 121 g ad sl sc l w h hg hB (fun W hW _ _ => u8_read g _ 0 l W hW) rdr_u8_run (fun W u x v h => h) (fun W x v h => ⟨x, h⟩))
    clear h
    go_enter Tryz.func101, Tryz.ntmps101
    go_wp2_with (go_at_call 120; refine HT.out.mono ?_; rintro r W1 ⟨hc, ⟨h0, _⟩ | ⟨h0, x, val, v', l', hp, rfl, hx, hr⟩ | ⟨h0, c, hp, rfl, hr⟩⟩)
    · go_ret
      exact ⟨hc, .inr (.inl ⟨rfl, x, _, v', l', hp, rfl, hx, hr⟩)⟩
    · go_ret
      exact ⟨hc, .inr (.inr ⟨rfl, c, hp, rfl, hr⟩)⟩
  · have HT := Lib.hid (fun fv => try8_done fv g ad sl sc e he l w h hg hB)
    clear h
    go_enter Tryz.func101, Tryz.ntmps101
    go_wp2_with (go_at_call 120; refine (HT.out _).mono ?_; rintro r W1 ⟨rfl, hk⟩)
    go_ret
    exact ⟨hk.chg _, .inl ⟨he, rfl, HH.out.keeps hk⟩⟩
end Go.Proofs.YtcodpdpeklammaaGreatDoor
namespace Go.Proofs.YtcodpdpeklammaaGreatDoor
set_option linter.unusedVariables false
set_option linter.unusedSimpArgs false
open Go Go.RowKit
variable {B : Nat}
set_option maxRecDepth 100000 in
theorem rdr_err_any (g : Nat) (v : Value) (e : Int) (l : List Int) (w : World) (h : RdAt B w g v e l) :
    Calls Tryz.prog 38 #[.pointer (some ⟨g, 0, none⟩)] w fun r w' => r = .returned (.int .i64 e) ∧ w' = w := by
  obtain ⟨c0, f0, c1, f1⟩ := h.cells
  clear h
  go_enter Tryz.func38, Tryz.ntmps38
  go_wp2
  go_ret
  exact ⟨rfl, rfl⟩
set_option maxRecDepth 100000 in
theorem rdr_left_any (g : Nat) (v : Value) (e : Int) (l : List Int) (w : World) (h : RdAt B w g v e l) :
    Calls Tryz.prog 110 #[.pointer (some ⟨g, 0, none⟩)] w fun r w' => r = .returned (.int .i64 l.length) ∧ w' = w := by
  obtain ⟨c0, f0, c1, f1⟩ := h.cells
  obtain ⟨a, cap, rfl, _⟩ := h.src.any
  clear h
  go_enter Tryz.func110, Tryz.ntmps110
  go_wp2
  go_ret
  exact ⟨rfl, rfl⟩
def closeE (e : Int) (l : List Int) : Int := if e = 0 ∧ 0 < l.length then 3 else e
set_option maxRecDepth 100000 in
theorem rdr_close_any (g : Nat) (v : Value) (e : Int) (l : List Int) (w : World) (h : RdAt B w g v e l) :
    Calls Tryz.prog 29 #[.pointer (some ⟨g, 0, none⟩)] w fun r w' => r = .returned (.int .i64 (closeE e l)) ∧ w' = w := by
  obtain ⟨c0, f0, c1, f1⟩ := h.cells
  obtain ⟨a, cap, rfl, _⟩ := h.src.any
  clear h
  by_cases he : e = 0
  · subst he
    by_cases hl : 0 < l.length
    · have hl2 : (0 : Int) < (l.length : Int) := by omega
      have hE : closeE 0 l = 3 := by simp [closeE, hl]
      rw [hE]
      go_enter Tryz.func29, Tryz.ntmps29
      go_wp2
      go_ret
      exact ⟨rfl, rfl⟩
    · have hl2 : ¬ (0 : Int) < (l.length : Int) := by omega
      have hE : closeE 0 l = 0 := by unfold closeE; rw [if_neg (fun h => hl h.2)]
      rw [hE]
      go_enter Tryz.func29, Tryz.ntmps29
      go_wp2
      go_ret
      exact ⟨rfl, rfl⟩
  · have hE : closeE e l = e := by simp [closeE, he]
    rw [hE]
    go_enter Tryz.func29, Tryz.ntmps29
    go_wp2
    go_ret
    exact ⟨rfl, rfl⟩
/-- a value that holds x, in a block of A and more -/
def byV (A : Nat) (W : World) (x : List Int) (v : Value) : Prop := Buf W 1 v x.length (x.map (Value.int .u8)) ∧ ∀ g, v.ownBlock = some g → A ≤ g
theorem byV.set {A : Nat} {W : World} {x : List Int} {v : Value} (h : byV A W x v) {p : Addr} (hp : p.block < A) (u : Value) : byV A (W.setCell p u) x v :=
  ⟨h.1.chg (S := (· = p.block)) (Chg.setCell (p := p) (Chg.refl (· = p.block) W) (.inr rfl) u) (fun g hg e => by have := h.2 g hg; omega), h.2⟩
theorem byV.keeps {A : Nat} {W W' : World} {x : List Int} {v : Value} (h : byV A W x v) (hk : Keeps W W') : byV A W' x v := ⟨h.1.keeps hk, h.2⟩
theorem byV.slice {A : Nat} {W : World} {x : List Int} {v : Value} (h : byV A W x v) : ∃ n m k, v = .slice n m k := by
  obtain ⟨a, cap, e, _⟩ := h.1.any
  exact ⟨_, _, _, e⟩
theorem take_no' {n : Nat} {l : List Int} (h : l.length < n) : rdTake n l = .error 4 := by unfold rdTake; rw [if_pos h]
theorem take_ok' {n : Nat} {l : List Int} (h : n ≤ l.length) : rdTake n l = .ok (l.take n, l.drop n) := by unfold rdTake; rw [if_neg (by omega)]
set_option maxRecDepth 100000 in
theorem raw_read (A g bx : Nat) (v : Value) (e : Int) (l : List Int) (n : Nat) (hn : n ≤ 140737488355328) (w : World) (h : RdAt B w g v e l) (hA : A ≤ w.heap.size) (c2 : w.cell? ⟨bx, 0, none⟩ = some (.int .i64 n)) :
    Calls Tryz.prog 88 #[.pointer (some ⟨g, 0, none⟩), .pointer (some ⟨bx, 0, none⟩)] w (ReadP B (rdTake n) (byV A) g e l w) := by
  have HH := Lib.hid h
  have hmax : (if (0 : Int) < (n : Int) then (n : Int) else 0) = n := by split <;> omega
  by_cases hl : l.length < n
  · have HN := Lib.hid (take_no g v e l n hn hl w h)
    clear h
    go_enter Tryz.func88, Tryz.ntmps88
    go_wp2_with (go_at_call 68; refine HN.out.mono ?_; rintro r W1 ⟨rfl, rfl⟩)
    exact ⟨rfl, readp_stop HH.out (Chg.refl _ _) (take_no' hl)⟩
  · have HN := Lib.hid (take_ok g v e l n hn (by omega) w h)
    clear h
    go_enter Tryz.func88, Tryz.ntmps88
    go_wp2_with (first | (go_at_call 68; refine HN.out.mono ?_; rintro r W1 ⟨s, v', rfl, hs, hr, hc⟩; have HS := Lib.hid (And.intro hs (And.intro hr hc)); clear hs hr hc) | (go_at_call 55; refine (bclone_any s _ _ W1 HS.out.1.rd (by simp; omega)).mono ?_; rintro r2 W2 ⟨v2, rfl, hO⟩; have HO := Lib.hid hO; clear hO))
    go_ret
    obtain ⟨hs, hr, hc⟩ := HS.out
    have hO := HO.out
    refine readp_ret (hr.keeps hO.keeps) (hc.trans (hO.keeps.chg _)) (take_ok' (by omega)) ⟨hO.buf, fun b hb => ?_⟩
    have h1 := hO.new b hb
    have h2 := hc.size
    omega
theorem rdr_raw_run (args : Array Value) (W : World) : (callFunc 88 args).run Tryz.prog W = .ok (.enter 88 args) W := by simp [go_sem]
/-- what try does where bytes come -/
def TryB (B : Nat) (p : Rdr (List Int)) (g : Nat) (v : Value) (e : Int) (l : List Int) (w : World) (r : Ending) (w' : World) : Prop := TryP B p (byV w.heap.size) (.slice none 0 0) g v e l w r w'
set_option maxRecDepth 100000 in
theorem rdr_raw_any (g : Nat) (v : Value) (e : Int) (l : List Int) (n : Nat) (hn : n ≤ 140737488355328) (w : World) (h : RdAt B w g v e l) (hB : B ≤ w.heap.size) (hg : g < w.heap.size) :
    Calls Tryz.prog 57 #[.pointer (some ⟨g, 0, none⟩), .int .i64 n] w (TryB B (rdTake n) g v e l w) := by
  obtain ⟨ad, sl, sc, rfl⟩ := h.slice
  have HH := Lib.hid h
  have hA : Keeps w (w.alloc (.cells #[.int .i64 n] 3)) := (Keeps.refl w).alloc (Nat.le_refl _) _
  have hsz : (w.alloc (.cells #[.int .i64 n] 3)).heap.size = w.heap.size + 1 := by simp
  have hbx : Row (w.alloc (.cells #[.int .i64 n] 3)) w.heap.size 0 [.int .i64 n] := Row.new _ _ _ rfl
  by_cases he : e = 0
  · subst he
    have HT := Lib.hid (tryB_read (rdTake n) (byV (w.heap.size + 3)) 88 g (.pointer (some ⟨w.heap.size, 0, none⟩)) ad sl sc l _ (h.keeps hA) (by omega) (by omega) (fun W hW hk hs => raw_read _ g _ _ 0 l n hn W hW (by omega) (((hbx.keeps hk) 0 _ rfl).1)) rdr_raw_run (fun W u x v h => h.set (by rw [hsz]; show w.heap.size + 1 + 1 < _; omega) u) (fun W x v h => h.slice))
    clear h
    go_enter Tryz.func57, Tryz.ntmps57
    go_wp2_with (go_at_call 66; refine HT.out.mono ?_; rintro r W1 ⟨hc, ⟨h0, _⟩ | ⟨h0, x, val, v', l', hp, rfl, hx, hr⟩ | ⟨h0, c, hp, rfl, hr⟩⟩)
    · go_ret
      exact ⟨(hA.chg _).trans hc, .inr (.inl ⟨rfl, x, _, v', l', hp, rfl, ⟨hx.1, fun b hb => by have := hx.2 b hb; omega⟩, hr⟩)⟩
    · go_ret
      exact ⟨(hA.chg _).trans hc, .inr (.inr ⟨rfl, c, hp, rfl, hr⟩)⟩
  · have HT := Lib.hid (fun fv => tryB_done fv g ad sl sc e he l _ (h.keeps hA) (by omega) (by omega))
    clear h
    go_enter Tryz.func57, Tryz.ntmps57
    go_wp2_with (go_at_call 66; refine (HT.out _).mono ?_; rintro r W1 ⟨rfl, hk⟩)
    go_ret
    exact ⟨(hA.trans hk).chg _, .inl ⟨he, rfl, HH.out.keeps (hA.trans hk)⟩⟩
end Go.Proofs.YtcodpdpeklammaaGreatDoor
namespace Go.Proofs.YtcodpdpeklammaaGreatDoor
set_option linter.unusedVariables false
set_option linter.unusedSimpArgs false
open Go Go.RowKit
variable {B : Nat}
theorem rdNum_range {n : Nat} {l r : List Int} {x : Int} (hb : Bytes l) (h : rdNum n l = .ok (x, r)) : 0 ≤ x ∧ Bytes r := by
  by_cases hl : l.length < n
  · rw [num_no hl] at h; cases h
  · rw [num_ok (by omega)] at h
    injection h with h
    obtain ⟨rfl, rfl⟩ := Prod.mk.inj h
    exact ⟨(leV_range (hb.take' n)).1, hb.drop' n⟩
theorem rdSize_range {l r : List Int} {x : Int} (hb : Bytes l) (h : rdSize l = .ok (x, r)) : 0 ≤ x ∧ x ≤ 33554432 := by
  unfold rdSize at h
  cases h1 : rdNum 1 l with
  | error c => rw [rdBind_err h1] at h; cases h
  | ok p =>
    obtain ⟨y, r1⟩ := p
    obtain ⟨y0, hb1⟩ := rdNum_range hb h1
    rw [rdBind_ok h1] at h
    by_cases hy : y < 253
    · rw [if_pos hy] at h
      injection h with h
      obtain ⟨rfl, rfl⟩ := Prod.mk.inj h
      omega
    · rw [if_neg hy] at h
      cases h2 : rdNum (markLen y) r1 with
      | error c => rw [rdBind_err h2] at h; cases h
      | ok p =>
        obtain ⟨z, r2⟩ := p
        obtain ⟨z0, hb2⟩ := rdNum_range hb1 h2
        rw [rdBind_ok h2] at h
        by_cases hz : (sizeB z).length ≠ markLen y + 1
        · rw [if_pos hz] at h; cases h
        · rw [if_neg hz] at h
          by_cases hz2 : (33554432 : Int) < z
          · rw [if_pos hz2] at h; cases h
          · rw [if_neg hz2] at h
            injection h with h
            obtain ⟨rfl, rfl⟩ := Prod.mk.inj h
            omega
theorem list_size_err {l : List Int} {m c : Int} (h : rdSize l = .error c) : rdList m l = .error c := by unfold rdList rdBind; rw [h]
theorem list_size_ok {l r : List Int} {m x : Int} (h : rdSize l = .ok (x, r)) : rdList m l = if m < x then .error 2 else rdTake x.toNat r := by
  unfold rdList rdBind; rw [h]; simp only []; split <;> rfl
set_option maxRecDepth 100000 in
theorem bytes_read (A g bx : Nat) (v : Value) (e : Int) (l : List Int) (m : Int) (hbg : bx ≠ g) (w : World) (h : RdAt B w g v e l) (hA : A ≤ w.heap.size) (hbx : Row w bx 0 [.int .i64 m]) :
    Calls Tryz.prog 67 #[.pointer (some ⟨g, 0, none⟩), .pointer (some ⟨bx, 0, none⟩)] w (ReadP B (rdList m) (byV A) g e l w) := by
  have HH := Lib.hid h
  have HSZ := Lib.hid (size_read g v e l w h)
  have HBX := Lib.hid hbx
  have HBG := Lib.hid hbg
  clear h hbx hbg
  go_enter Tryz.func67, Tryz.ntmps67
  go_wp2_with (first
    | (go_at_call 65; refine HSZ.out.mono ?_; rintro r W1 ⟨v1, l1, hr, hc, ⟨x, val, hp, rfl, rfl⟩ | ⟨c, hp, rfl⟩⟩
       have hx := rdSize_range HH.out.bytes hp
       obtain ⟨n, rfl⟩ : ∃ n : Nat, x = n := ⟨x.toNat, by omega⟩
       have hw : wrap64 (n : Int) = n := by unfold wrap64; omega
       have c2 := ((HBX.out.chg hc HBG.out) 0 _ rfl).1
       simp only [Nat.zero_add] at c2
       have HT := Lib.hid (take_any g v1 e l1 n (by omega) W1 hr)
       have HN := Lib.hid (show n ≤ 140737488355328 by omega)
       have HP := Lib.hid hp
       have HR := Lib.hid hr
       have HC := Lib.hid hc
       clear hx hr hc hp
       by_cases hm : m < (n : Int))
    | (go_at_call 68; refine HT.out.mono ?_; intro r W2 hT; rcases Or.symm hT with ⟨hl, s, v2, rfl, hs, hr2, hc2⟩ | ⟨hl, rfl, rfl⟩
       have HS := Lib.hid (And.intro hs (And.intro hr2 hc2))
       clear hs hr2 hc2)
    | (go_at_call 55; refine (bclone_any s _ _ _ HS.out.1.rd (by have := HN.out; simp; omega)).mono ?_; rintro r2 W3 ⟨v3, rfl, hO⟩; have HO := Lib.hid hO; clear hO))
  · exact ⟨rfl, readp_stop HR.out HC.out (by rw [list_size_ok HP.out, if_pos hm])⟩
  · go_ret
    obtain ⟨hs, hr2, hc2⟩ := HS.out
    have hO := HO.out
    have hp : rdList m l = .ok (l1.take n, l1.drop n) := by
      rw [list_size_ok HP.out, if_neg (by omega)]
      show rdTake n l1 = _
      exact take_ok' hl
    refine readp_ret (hr2.keeps hO.keeps) ((HC.out.trans hc2).trans (hO.keeps.chg _)) hp ⟨hO.buf, fun b hb => ?_⟩
    have h1 := hO.new b hb
    have h2 := (HC.out.trans hc2).size
    omega
  · refine ⟨rfl, readp_stop HR.out HC.out ?_⟩
    rw [list_size_ok HP.out, if_neg (by omega)]
    show rdTake n l1 = _
    exact take_no' hl
  · exact ⟨rfl, readp_stop hr hc (list_size_err hp)⟩
theorem rdr_bytes_run (args : Array Value) (W : World) : (callFunc 67 args).run Tryz.prog W = .ok (.enter 67 args) W := by simp [go_sem]
set_option maxRecDepth 100000 in
theorem rdr_bytes_any (g : Nat) (v : Value) (e : Int) (l : List Int) (m : Int) (w : World) (h : RdAt B w g v e l) (hB : B ≤ w.heap.size) (hg : g < w.heap.size) :
    Calls Tryz.prog 37 #[.pointer (some ⟨g, 0, none⟩), .int .i64 m] w (TryB B (rdList m) g v e l w) := by
  obtain ⟨ad, sl, sc, rfl⟩ := h.slice
  have HH := Lib.hid h
  have hA : Keeps w (w.alloc (.cells #[.int .i64 m] 3)) := (Keeps.refl w).alloc (Nat.le_refl _) _
  have hsz : (w.alloc (.cells #[.int .i64 m] 3)).heap.size = w.heap.size + 1 := by simp
  have hbx : Row (w.alloc (.cells #[.int .i64 m] 3)) w.heap.size 0 [.int .i64 m] := Row.new _ _ _ rfl
  by_cases he : e = 0
  · subst he
    have HT := Lib.hid (tryB_read (rdList m) (byV (w.heap.size + 3)) 67 g (.pointer (some ⟨w.heap.size, 0, none⟩)) ad sl sc l _ (h.keeps hA) (by omega) (by omega) (fun W hW hk hs => bytes_read _ g _ _ 0 l m (by omega) W hW (by omega) (hbx.keeps hk)) rdr_bytes_run (fun W u x v h => h.set (by rw [hsz]; show w.heap.size + 1 + 1 < _; omega) u) (fun W x v h => h.slice))
    clear h
    go_enter Tryz.func37, Tryz.ntmps37
    go_wp2_with (go_at_call 66; refine HT.out.mono ?_; rintro r W1 ⟨hc, ⟨h0, _⟩ | ⟨h0, x, val, v', l', hp, rfl, hx, hr⟩ | ⟨h0, c, hp, rfl, hr⟩⟩)
    · go_ret
      exact ⟨(hA.chg _).trans hc, .inr (.inl ⟨rfl, x, _, v', l', hp, rfl, ⟨hx.1, fun b hb => by have := hx.2 b hb; omega⟩, hr⟩)⟩
    · go_ret
      exact ⟨(hA.chg _).trans hc, .inr (.inr ⟨rfl, c, hp, rfl, hr⟩)⟩
  · have HT := Lib.hid (fun fv => tryB_done fv g ad sl sc e he l _ (h.keeps hA) (by omega) (by omega))
    clear h
    go_enter Tryz.func37, Tryz.ntmps37
    go_wp2_with (go_at_call 66; refine (HT.out _).mono ?_; rintro r W1 ⟨rfl, hk⟩)
    go_ret
    exact ⟨(hA.trans hk).chg _, .inl ⟨he, rfl, HH.out.keeps (hA.trans hk)⟩⟩
end Go.Proofs.YtcodpdpeklammaaGreatDoor
namespace Go.Proofs.YtcodpdpeklammaaGreatDoor
set_option linter.unusedVariables false
set_option linter.unusedSimpArgs false
open Go Go.RowKit
variable {B : Nat}
theorem Buf.srcB {W : World} {v : Value} {l : List Int} (h : Buf W 1 v l.length (l.map (Value.int .u8))) {g : Nat} (hg : ∀ b, v.ownBlock = some b → b ≠ g) : SrcB W.heap.size W g v l := by
  by_cases hv : v = .slice none 0 0 ∧ l = []
  · exact .inl hv
  · have hb := h
    obtain ⟨b, off, cap, rfl, h1, h2, h3, h4⟩ := h.form (by
      rcases l with _ | ⟨x, l⟩
      · exact .inl (fun e => hv ⟨e, rfl⟩)
      · exact .inr (by simp))
    exact .inr ⟨b, off, cap, rfl, by assumption, by assumption, ⟨hb.lt rfl, Nat.le_refl _⟩, hg b rfl, by assumption⟩
set_option maxRecDepth 100000 in
theorem rdr_open_any (v : Value) (l : List Int) (w : World) (hr : Rd w 1 v l.length (l.map (Value.int .u8))) (hn : l.length ≤ 140737488355328) (hb : Bytes l) :
    Calls Tryz.prog 27 #[v] w fun r w' => ∃ g v', r = .returned (.pointer (some ⟨g, 0, none⟩)) ∧ w.heap.size ≤ g ∧ g < w'.heap.size ∧ RdAt w'.heap.size w' g v' 0 l ∧ Keeps w w' := by
  obtain ⟨ad, cap, rfl⟩ : ∃ a c, v = .slice a l.length c := by obtain ⟨_, a, c, e, _⟩ := hr; exact ⟨a, c, e⟩
  have HR := Lib.hid hr
  clear hr
  go_enter Tryz.func27, Tryz.ntmps27
  go_wp2_with (go_at_call 55; refine (bclone_any _ _ l _ (HR.out.keeps (by first | exact Keeps.refl _ | exact (Keeps.refl _).alloc (Nat.le_refl _) _)) hn).mono ?_; rintro r W1 ⟨v1, rfl, hO⟩; obtain ⟨a1, c1, rfl⟩ := hO.any; have HO := Lib.hid hO; clear hO)
  go_ret
  have hO := HO.out
  have hk : Keeps W1 (W1.alloc (.cells #[.slice a1 l.length c1, .int .i64 0] 110)) := (Keeps.refl W1).alloc (Nat.le_refl _) _
  refine ⟨W1.heap.size, .slice a1 l.length c1, rfl, hO.keeps.size, by simp, ⟨Row.new _ _ _ rfl, (hO.buf.keeps hk).srcB (fun b hb => ?_), hb, hn⟩, hO.keeps.trans hk⟩
  have := hO.buf.lt hb
  omega
def rdV (g : Nat) : Value := .agg #[.pointer (some ⟨g, 0, none⟩)]
def stopT (c : Int) : List PanicEntry := [{ v := .iface 123 (.int .i64 c), recovered := false }]
set_option maxRecDepth 100000 in
theorem must_no (g : Nat) (c : Int) (w : World) : Calls Tryz.prog 103 #[rdV g, .bool false, .int .i64 c] w fun r w' => r = .returned (.tuple #[]) ∧ Keeps w w' := by
  unfold rdV
  go_enter Tryz.func103, Tryz.ntmps103
  go_wp2
  go_end0
  exact ⟨rfl, (Keeps.refl _).alloc (Nat.le_refl _) _⟩
set_option maxRecDepth 100000 in
theorem must_yes (g : Nat) (c : Int) (w : World) : Calls Tryz.prog 103 #[rdV g, .bool true, .int .i64 c] w fun r w' => r = .panicked (stopT c) ∧ Keeps w w' := by
  unfold rdV
  go_enter Tryz.func103, Tryz.ntmps103
  go_wp2
  exact ⟨rfl, rfl, (Keeps.refl _).alloc (Nat.le_refl _) _⟩
end Go.Proofs.YtcodpdpeklammaaGreatDoor
