/- hash.Sum's Add: what has come so far, and more: the state is that of all whole blocks, what waits is the rest. -/
import Derived.Test.YthfepfpmkckdnaaDoorSum
import Derived.Deep.Cut
import Derived.Deep.LoopGhost
namespace Go.Proofs.YthfepfpmkckdnaaDoor
set_option linter.unusedVariables false
set_option linter.unusedSimpArgs false
open Go Go.RowKit

theorem Rd.chg' {S : Nat → Prop} {w w' : World} {size : Nat} {v : Value} {n : Nat} {xs : List Value} (h : Rd w size v n xs) (hc : Chg S w w') (hs : 0 < n → ∀ g, v.ownBlock = some g → ¬ S g) : Rd w' size v n xs := by
  obtain ⟨h0, a, cap, rfl, h2, h3, h4, h5⟩ := h
  refine ⟨h0, a, cap, rfl, h2, h3, h4, fun ad e hn => ?_⟩
  obtain ⟨g, off, e2, hg, hr⟩ := h5 ad e hn
  subst e e2
  exact ⟨g, off, rfl, Nat.lt_of_lt_of_le hg hc.size, hr.chg hc (hs hn g rfl)⟩
theorem Rd.own_lt {w : World} {size : Nat} {v : Value} {n : Nat} {xs : List Value} (h : Rd w size v n xs) (hn : 0 < n) : ∀ g, v.ownBlock = some g → g < w.heap.size := by
  obtain ⟨h0, a, cap, rfl, h2, h3, h4, h5⟩ := h
  intro g hg
  cases a with
  | none => have := (h4 rfl).1; omega
  | some ad =>
    obtain ⟨g', off, e2, hg', _⟩ := h5 ad rfl hn
    subst e2
    have e3 : g' = g := Option.some.inj hg
    omega
/-- a Sum at a place, to which these bytes have come; wv: what waits -/
structure SumAt (w : World) (b o : Nat) (wv : Value) (l : List Int) : Prop where
  bytes : Bytes l
  small : l.length < 1152921504606846976
  st : ∃ (st : St) (bg : Bool), st.ok ∧ (bg = true ∧ st = run256 iv256 l (l.length / 64) ∨ bg = false ∧ l = []) ∧ Row w b o (st.list.map (Value.int .u32) ++ [wv, .int .u64 l.length, .bool bg])
  buf : Buf w 1 wv (l.length % 64) ((l.drop (64 * (l.length / 64))).map (Value.int .u8))
  apart : wv.ownBlock ≠ some b
def AddPost (w w' : World) (b o : Nat) (wv : Value) (l : List Int) : Prop :=
  ∃ wv', SumAt w' b o wv' l ∧ Chg (fun k => k = b ∨ wv.ownBlock = some k) w w' ∧ ∀ g, wv'.ownBlock = some g → wv.ownBlock = some g ∨ w.heap.size ≤ g
theorem St.list_ok {s : St} : ∀ v ∈ s.list.map (Value.int .u32), v.oneCell' = true := int_oneCell _

/-- what holds once the Sum has begun -/
structure Begun (W0 W : World) (b o : Nat) (wv : Value) (l : List Int) (a : Option Addr) (m cap : Nat) (zs : List Int) : Prop where
  chg : Chg (fun k => k = b ∨ wv.ownBlock = some k) W0 W
  row : Row W b o ((run256 iv256 l (l.length / 64)).list.map (Value.int .u32) ++ [wv, .int .u64 l.length, .bool true])
  buf : Buf W 1 wv (l.length % 64) ((l.drop (64 * (l.length / 64))).map (Value.int .u8))
  rd : Rd W 1 (.slice a m cap) m (zs.map (Value.int .u8))

structure Mid (W0 W : World) (b o : Nat) (wv : Value) (wn : Nat) (ws : List Int) (s : St) (N : Int) (v : Value) (m : Nat) (zs : List Int) : Prop where
  chg : Chg (fun k => k = b ∨ wv.ownBlock = some k) W0 W
  row : Row W b o (s.list.map (Value.int .u32) ++ [wv, .int .u64 N, .bool true])
  buf : Buf W 1 wv wn (ws.map (Value.int .u8))
  rd : Rd W 1 v m (zs.map (Value.int .u8))
structure Aft (W0 W : World) (b o : Nat) (wb : Option Nat) (v : Value) (n : Nat) (L : List Int) (s : St) (N : Int) : Prop where
  chg : Chg (fun k => k = b ∨ wb = some k) W0 W
  row : Row W b o (s.list.map (Value.int .u32) ++ [v, .int .u64 N, .bool true])
  buf : Buf W 1 v n (L.map (Value.int .u8))
  ne : v.ownBlock ≠ some b
  old : ∀ g, v.ownBlock = some g → wb = some g ∨ W0.heap.size ≤ g
/-- the loop: i blocks have been taken -/
structure Lp (W0 W : World) (b o bk : Nat) (wb : Option Nat) (L : List Int) (s : St) (N : Int) (i : Nat) (a : Option Addr) (n c : Nat) : Prop where
  chg : Chg (fun k => k = b ∨ wb = some k) W0 W
  row : Row W b o ((run256 s L i).list.map (Value.int .u32) ++ [.slice a n c, .int .u64 N, .bool true])
  buf : Buf W 1 (.slice a n c) n ((L.drop (64 * i)).map (Value.int .u8))
  ne : (Value.slice a n c).ownBlock ≠ some b
  nek : (Value.slice a n c).ownBlock ≠ some bk
  old : ∀ g, (Value.slice a n c).ownBlock = some g → wb = some g ∨ W0.heap.size ≤ g
  key : Row W bk 0 (k256.map (Value.int .u32))
  new : W0.heap.size ≤ bk
  nb : bk ≠ b
  len : n + 64 * i = L.length
  cap : n ≤ c ∧ c ≤ maxLen
theorem Lp.next {W0 W w4 : World} {b o bk : Nat} {wb : Option Nat} {L : List Int} {s : St} {N : Int} {i : Nat} {a : Option Addr} {n c : Nat} (h : Lp W0 W b o bk wb L s N i a n c)
    (hst : Row w4 b o ((run256 s L (i + 1)).list.map (Value.int .u32) ++ [.slice a n c, .int .u64 N, .bool true])) (hc4 : Chg (· = b) W w4) (a' : Option Addr) (n' c' : Nat)
    (hbuf : Buf W 1 (.slice a' n' c') n' ((L.drop (64 * (i + 1))).map (Value.int .u8))) (hob : (Value.slice a' n' c').ownBlock = (Value.slice a n c).ownBlock) (hn : n' + 64 = n) (hcap : n' ≤ c' ∧ c' ≤ maxLen) :
    Lp W0 (w4.setCell ⟨b, o + 8, none⟩ (.slice a' n' c')) b o bk wb L s N (i + 1) a' n' c' := by
  have hc : Chg (· = b) W (w4.setCell ⟨b, o + 8, none⟩ (.slice a' n' c')) := hc4.setCell (p := ⟨b, o + 8, none⟩) (.inr rfl) _
  have hne : (Value.slice a' n' c').ownBlock ≠ some b := by rw [hob]; exact h.ne
  exact ⟨h.chg.trans (hc.mono (fun k _ e => .inl e)), hst.set 8 (by simp [St.list]) _, hbuf.chg hc (fun g hg e => hne (by rw [hg, e])), hne, by rw [hob]; exact h.nek, fun g hg => h.old g (by rw [← hob]; exact hg),
    h.key.chg hc h.nb, h.new, h.nb, by have := h.len; omega, hcap⟩
end Go.Proofs.YthfepfpmkckdnaaDoor
