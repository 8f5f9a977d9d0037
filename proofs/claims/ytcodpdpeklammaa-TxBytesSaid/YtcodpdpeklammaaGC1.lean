/- wire's U8, U32, U64, Size, Left, Err, Close. -/
import Derived.Test.YtcodpdpeklammaaGC0
namespace Go.Proofs.Ytcodpdpeklammaa
set_option linter.unusedVariables false
set_option linter.unusedSimpArgs false
open Go Go.RowKit
variable {B : Nat}
theorem leV_small (l : List Int) (h : Bytes l) (n : Nat) (hn : n ≤ l.length) : 0 ≤ leV (l.take n) ∧ leV (l.take n) < 256 ^ n := by
  have := leV_range (h.take' n)
  rwa [List.length_take, Nat.min_eq_left hn] at this
set_option maxRecDepth 100000 in
theorem u64_read (g : Nat) (v : Value) (e : Int) (l : List Int) (w : World) (h : RdAt B w g v e l) :
    Calls Try.prog 90 #[.pointer (some ⟨g, 0, none⟩)] w (ReadP B (rdNum 8) (encU .u64) g e l w) := by
  have HH := Lib.hid h
  by_cases hl : l.length < 8
  · have HN := Lib.hid (number_no g v e l 8 (by omega) hl w h)
    clear h
    go_enter Try.func90, Try.ntmps90
    go_wp2_with (go_at_call 77; refine HN.out.mono ?_; rintro r W1 ⟨rfl, rfl⟩)
    exact ⟨rfl, readp_stop HH.out (Chg.refl _ _) (num_no hl)⟩
  · have HN := Lib.hid (number_ok g v e l 8 (by omega) (by omega) w h)
    clear h
    go_enter Try.func90, Try.ntmps90
    go_wp2_with (go_at_call 77; refine HN.out.mono ?_; rintro r W1 ⟨v', rfl, hr, hc⟩)
    go_ret
    exact readp_ret hr hc (num_ok (by omega)) rfl
set_option maxRecDepth 100000 in
theorem u32_read (g : Nat) (v : Value) (e : Int) (l : List Int) (w : World) (h : RdAt B w g v e l) :
    Calls Try.prog 83 #[.pointer (some ⟨g, 0, none⟩)] w (ReadP B (rdNum 4) (encU .u32) g e l w) := by
  have HH := Lib.hid h
  by_cases hl : l.length < 4
  · have HN := Lib.hid (number_no g v e l 4 (by omega) hl w h)
    clear h
    go_enter Try.func83, Try.ntmps83
    go_wp2_with (go_at_call 77; refine HN.out.mono ?_; rintro r W1 ⟨rfl, rfl⟩)
    exact ⟨rfl, readp_stop HH.out (Chg.refl _ _) (num_no hl)⟩
  · have HN := Lib.hid (number_ok g v e l 4 (by omega) (by omega) w h)
    have hs := leV_small l h.bytes 4 (by omega)
    have hw : IntKind.u32.wrap (leV (l.take 4)) = leV (l.take 4) := by
      have h1 := hs.1; have h2 := hs.2
      simp only [Int.reducePow] at h2
      rw [IntKind.wrap_u32]; omega
    clear h
    go_enter Try.func83, Try.ntmps83
    go_wp2_with (go_at_call 77; refine HN.out.mono ?_; rintro r W1 ⟨v', rfl, hr, hc⟩)
    go_ret
    exact readp_ret hr hc (num_ok (by omega)) (by show _ = _; simp [hw])
set_option maxRecDepth 100000 in
theorem u8_read (g : Nat) (v : Value) (e : Int) (l : List Int) (w : World) (h : RdAt B w g v e l) :
    Calls Try.prog 76 #[.pointer (some ⟨g, 0, none⟩)] w (ReadP B (rdNum 1) (encU .u8) g e l w) := by
  have HH := Lib.hid h
  by_cases hl : l.length < 1
  · have HN := Lib.hid (number_no g v e l 1 (by omega) hl w h)
    clear h
    go_enter Try.func76, Try.ntmps76
    go_wp2_with (go_at_call 77; refine HN.out.mono ?_; rintro r W1 ⟨rfl, rfl⟩)
    exact ⟨rfl, readp_stop HH.out (Chg.refl _ _) (num_no hl)⟩
  · have HN := Lib.hid (number_ok g v e l 1 (by omega) (by omega) w h)
    have hs := leV_small l h.bytes 1 (by omega)
    have hw : IntKind.u8.wrap (leV (l.take 1)) = leV (l.take 1) := by
      have h1 := hs.1; have h2 := hs.2
      simp only [Int.reducePow] at h2
      rw [IntKind.wrap_u8]; omega
    clear h
    go_enter Try.func76, Try.ntmps76
    go_wp2_with (go_at_call 77; refine HN.out.mono ?_; rintro r W1 ⟨v', rfl, hr, hc⟩)
    go_ret
    exact readp_ret hr hc (num_ok (by omega)) (by show _ = _; simp [hw])
def TryN (B : Nat) (k : IntKind) (p : Rdr Int) (g : Nat) (v : Value) (e : Int) (l : List Int) (w : World) (r : Ending) (w' : World) : Prop := TryP B p (encU k) (.int k 0) g v e l w r w'
theorem SrcB.slice {W : World} {g : Nat} {v : Value} {l : List Int} (h : SrcB B W g v l) : ∃ ad sl sc, v = .slice ad sl sc := by
  rcases h with ⟨rfl, _⟩ | ⟨b, off, cap, rfl, _⟩
  · exact ⟨_, _, _, rfl⟩
  · exact ⟨_, _, _, rfl⟩
theorem RdAt.slice {W : World} {g : Nat} {v : Value} {e : Int} {l : List Int} (h : RdAt B W g v e l) : ∃ ad sl sc, v = .slice ad sl sc := h.src.slice
set_option maxRecDepth 100000 in
theorem rdr_size_run (args : Array Value) (W : World) : (callFunc 85 args).run Try.prog W = .ok (.enter 85 args) W := by simp [go_sem]
set_option maxRecDepth 100000 in
theorem rdr_size_any (g : Nat) (v : Value) (e : Int) (l : List Int) (w : World) (h : RdAt B w g v e l) (hB : B ≤ w.heap.size) (hg : g < w.heap.size) :
    Calls Try.prog 74 #[.pointer (some ⟨g, 0, none⟩)] w (TryN B .u64 (rdSize) g v e l w) := by
  obtain ⟨ad, sl, sc, rfl⟩ := h.slice
  have HH := Lib.hid h
  by_cases he : e = 0
  · subst he
    have HT := Lib.hid (try64_read (rdSize) (encU .u64) 85 g ad sl sc l w h hg hB (fun W hW _ _ => size_read g _ 0 l W hW) rdr_size_run (fun W u x v h => h) (fun W x v h => ⟨x, h⟩))
    clear h
    go_enter Try.func74, Try.ntmps74
    go_wp2_with (go_at_call 84; refine HT.out.mono ?_; rintro r W1 ⟨hc, ⟨h0, _⟩ | ⟨h0, x, val, v', l', hp, rfl, hx, hr⟩ | ⟨h0, c, hp, rfl, hr⟩⟩)
    · go_ret
      exact ⟨hc, .inr (.inl ⟨rfl, x, _, v', l', hp, rfl, hx, hr⟩)⟩
    · go_ret
      exact ⟨hc, .inr (.inr ⟨rfl, c, hp, rfl, hr⟩)⟩
  · have HT := Lib.hid (fun fv => try64_done fv g ad sl sc e he l w h hg hB)
    clear h
    go_enter Try.func74, Try.ntmps74
    go_wp2_with (go_at_call 84; refine (HT.out _).mono ?_; rintro r W1 ⟨rfl, hk⟩)
    go_ret
    exact ⟨hk.chg _, .inl ⟨he, rfl, HH.out.keeps hk⟩⟩
set_option maxRecDepth 100000 in
theorem rdr_u64_run (args : Array Value) (W : World) : (callFunc 90 args).run Try.prog W = .ok (.enter 90 args) W := by simp [go_sem]
set_option maxRecDepth 100000 in
theorem rdr_u64_any (g : Nat) (v : Value) (e : Int) (l : List Int) (w : World) (h : RdAt B w g v e l) (hB : B ≤ w.heap.size) (hg : g < w.heap.size) :
    Calls Try.prog 80 #[.pointer (some ⟨g, 0, none⟩)] w (TryN B .u64 (rdNum 8) g v e l w) := by
  obtain ⟨ad, sl, sc, rfl⟩ := h.slice
  have HH := Lib.hid h
  by_cases he : e = 0
  · subst he
    have HT := Lib.hid (try64_read (rdNum 8) (encU .u64) 90 g ad sl sc l w h hg hB (fun W hW _ _ => u64_read g _ 0 l W hW) rdr_u64_run (fun W u x v h => h) (fun W x v h => ⟨x, h⟩))
    clear h
    go_enter Try.func80, Try.ntmps80
    go_wp2_with (go_at_call 84; refine HT.out.mono ?_; rintro r W1 ⟨hc, ⟨h0, _⟩ | ⟨h0, x, val, v', l', hp, rfl, hx, hr⟩ | ⟨h0, c, hp, rfl, hr⟩⟩)
    · go_ret
      exact ⟨hc, .inr (.inl ⟨rfl, x, _, v', l', hp, rfl, hx, hr⟩)⟩
    · go_ret
      exact ⟨hc, .inr (.inr ⟨rfl, c, hp, rfl, hr⟩)⟩
  · have HT := Lib.hid (fun fv => try64_done fv g ad sl sc e he l w h hg hB)
    clear h
    go_enter Try.func80, Try.ntmps80
    go_wp2_with (go_at_call 84; refine (HT.out _).mono ?_; rintro r W1 ⟨rfl, hk⟩)
    go_ret
    exact ⟨hk.chg _, .inl ⟨he, rfl, HH.out.keeps hk⟩⟩
set_option maxRecDepth 100000 in
theorem rdr_u32_run (args : Array Value) (W : World) : (callFunc 83 args).run Try.prog W = .ok (.enter 83 args) W := by simp [go_sem]
set_option maxRecDepth 100000 in
theorem rdr_u32_any (g : Nat) (v : Value) (e : Int) (l : List Int) (w : World) (h : RdAt B w g v e l) (hB : B ≤ w.heap.size) (hg : g < w.heap.size) :
    Calls Try.prog 73 #[.pointer (some ⟨g, 0, none⟩)] w (TryN B .u32 (rdNum 4) g v e l w) := by
  obtain ⟨ad, sl, sc, rfl⟩ := h.slice
  have HH := Lib.hid h
  by_cases he : e = 0
  · subst he
    have HT := Lib.hid (try32_read (rdNum 4) (encU .u32) 83 g ad sl sc l w h hg hB (fun W hW _ _ => u32_read g _ 0 l W hW) rdr_u32_run (fun W u x v h => h) (fun W x v h => ⟨x, h⟩))
    clear h
    go_enter Try.func73, Try.ntmps73
    go_wp2_with (go_at_call 82; refine HT.out.mono ?_; rintro r W1 ⟨hc, ⟨h0, _⟩ | ⟨h0, x, val, v', l', hp, rfl, hx, hr⟩ | ⟨h0, c, hp, rfl, hr⟩⟩)
    · go_ret
      exact ⟨hc, .inr (.inl ⟨rfl, x, _, v', l', hp, rfl, hx, hr⟩)⟩
    · go_ret
      exact ⟨hc, .inr (.inr ⟨rfl, c, hp, rfl, hr⟩)⟩
  · have HT := Lib.hid (fun fv => try32_done fv g ad sl sc e he l w h hg hB)
    clear h
    go_enter Try.func73, Try.ntmps73
    go_wp2_with (go_at_call 82; refine (HT.out _).mono ?_; rintro r W1 ⟨rfl, hk⟩)
    go_ret
    exact ⟨hk.chg _, .inl ⟨he, rfl, HH.out.keeps hk⟩⟩
set_option maxRecDepth 100000 in
theorem rdr_u8_run (args : Array Value) (W : World) : (callFunc 76 args).run Try.prog W = .ok (.enter 76 args) W := by simp [go_sem]
set_option maxRecDepth 100000 in
theorem rdr_u8_any (g : Nat) (v : Value) (e : Int) (l : List Int) (w : World) (h : RdAt B w g v e l) (hB : B ≤ w.heap.size) (hg : g < w.heap.size) :
    Calls Try.prog 55 #[.pointer (some ⟨g, 0, none⟩)] w (TryN B .u8 (rdNum 1) g v e l w) := by
  obtain ⟨ad, sl, sc, rfl⟩ := h.slice
  have HH := Lib.hid h
  by_cases he : e = 0
  · subst he
    have HT := Lib.hid (try8_read (rdNum 1) (encU .u8) 76 g ad sl sc l w h hg hB (fun W hW _ _ => u8_read g _ 0 l W hW) rdr_u8_run (fun W u x v h => h) (fun W x v h => ⟨x, h⟩))
    clear h
    go_enter Try.func55, Try.ntmps55
    go_wp2_with (go_at_call 75; refine HT.out.mono ?_; rintro r W1 ⟨hc, ⟨h0, _⟩ | ⟨h0, x, val, v', l', hp, rfl, hx, hr⟩ | ⟨h0, c, hp, rfl, hr⟩⟩)
    · go_ret
      exact ⟨hc, .inr (.inl ⟨rfl, x, _, v', l', hp, rfl, hx, hr⟩)⟩
    · go_ret
      exact ⟨hc, .inr (.inr ⟨rfl, c, hp, rfl, hr⟩)⟩
  · have HT := Lib.hid (fun fv => try8_done fv g ad sl sc e he l w h hg hB)
    clear h
    go_enter Try.func55, Try.ntmps55
    go_wp2_with (go_at_call 75; refine (HT.out _).mono ?_; rintro r W1 ⟨rfl, hk⟩)
    go_ret
    exact ⟨hk.chg _, .inl ⟨he, rfl, HH.out.keeps hk⟩⟩
end Go.Proofs.Ytcodpdpeklammaa
