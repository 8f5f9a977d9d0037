/- The reference's RIPEMD-160 (strongboxref02.Ripemd) is RIPEMD-160. | hash.Hash160 and the reference's: RIPEMD-160 of SHA-256. | Keys of a tree in plain words: what is good, a key's point, a child, a walk; and that walking without the secret comes to the same. No condition. | strings.Builder's WriteString; hdkey.Path. No condition. | strongboxlaw06.awake: yes. strongboxlaw06.Told. No condition. | strongboxlaw06.Told; two keys compared; strongboxlaw06.HdkeyMasters: the walk. No condition. | hdkey's keys, with and without a secret: Private, secret, good, Point, Public, four; the law's Own. No condition. -/
import Derived.Test.YtlofddoojkeakaaDoorGE0
import Derived.Test.YtlofddoojkeakaaDoorGD4
import Derived.Test.YtlofddoojkeakaaDoorGE1
import Derived.Test.YtlofddoojkeakaaDoorGD6
import Derived.Test.YtlofddoojkeakaaDoorGC8
import Derived.Test.YtlofddoojkeakaaDoorGD8
import Derived.Test.YtlofddoojkeakaaDoorGA4
import Derived.Laws.BitsAllLaws
import Derived.Lib.AppendStr
import Derived.Lib.ItoaNum
import Derived.Test.YtlofddoojkeakaaDoorGC6
import Derived.Test.YtlofddoojkeakaaDoorGA8
namespace Go.Proofs.YtlofddoojkeakaaDoor.Rip
set_option linter.unusedVariables false
set_option linter.unusedSimpArgs false
open Go Go.RowKit

/-- the six tables -/
structure Tabs (W : World) (b3 b4 b5 b6 b7 b8 : Nat) : Prop where
  r3 : Row W b3 0 ((ints rL).map (Value.int .i64))
  r4 : Row W b4 0 ((ints rR).map (Value.int .i64))
  r5 : Row W b5 0 ((ints sL).map (Value.int .i64))
  r6 : Row W b6 0 ((ints sR).map (Value.int .i64))
  r7 : Row W b7 0 (kL.map (Value.int .u32))
  r8 : Row W b8 0 (kR.map (Value.int .u32))
theorem Tabs.chg {S : Nat → Prop} {W W' : World} {b3 b4 b5 b6 b7 b8 : Nat} (h : Tabs W b3 b4 b5 b6 b7 b8) (hc : Chg S W W') (hs : ¬ S b3 ∧ ¬ S b4 ∧ ¬ S b5 ∧ ¬ S b6 ∧ ¬ S b7 ∧ ¬ S b8) : Tabs W' b3 b4 b5 b6 b7 b8 :=
  ⟨h.r3.chg hc hs.1, h.r4.chg hc hs.2.1, h.r5.chg hc hs.2.2.1, h.r6.chg hc hs.2.2.2.1, h.r7.chg hc hs.2.2.2.2.1, h.r8.chg hc hs.2.2.2.2.2⟩
theorem Tabs.keeps {W W' : World} {b3 b4 b5 b6 b7 b8 : Nat} (h : Tabs W b3 b4 b5 b6 b7 b8) (hk : Keeps W W') : Tabs W' b3 b4 b5 b6 b7 b8 := h.chg (hk.chg (fun _ => False)) ⟨id, id, id, id, id, id⟩
theorem ints_ne (l : List Nat) (h : l.length = 80) : (ints l).map (Value.int .i64) ≠ [] := by intro e; have := congrArg List.length e; rw [List.length_map, ints_length, h] at this; simp at this
theorem k_ne (l : List Int) (h : l.length = 5) : l.map (Value.int .u32) ≠ [] := by intro e; have := congrArg List.length e; rw [List.length_map, h] at this; simp at this
theorem Tabs.lt {W : World} {b3 b4 b5 b6 b7 b8 : Nat} (h : Tabs W b3 b4 b5 b6 b7 b8) : b3 < W.heap.size ∧ b4 < W.heap.size ∧ b5 < W.heap.size ∧ b6 < W.heap.size ∧ b7 < W.heap.size ∧ b8 < W.heap.size :=
  ⟨h.r3.lt (ints_ne _ rfl), h.r4.lt (ints_ne _ rfl), h.r5.lt (ints_ne _ rfl), h.r6.lt (ints_ne _ rfl), h.r7.lt (k_ne _ rfl), h.r8.lt (k_ne _ rfl)⟩
/-- what the tables hold for step j -/
theorem Tabs.at {W : World} {b3 b4 b5 b6 b7 b8 : Nat} (h : Tabs W b3 b4 b5 b6 b7 b8) (j : Nat) (hj : j < 80) :
    W.cell? ⟨b3, j, none⟩ = some (.int .i64 ((rL.getD j 0 : Nat) : Int)) ∧ W.cell? ⟨b4, j, none⟩ = some (.int .i64 ((rR.getD j 0 : Nat) : Int)) ∧ W.cell? ⟨b5, j, none⟩ = some (.int .i64 ((sL.getD j 0 : Nat) : Int)) ∧ W.cell? ⟨b6, j, none⟩ = some (.int .i64 ((sR.getD j 0 : Nat) : Int)) ∧ W.cell? ⟨b7, j / 16, none⟩ = some (.int .u32 (kL.getD (j / 16) 0)) ∧ W.cell? ⟨b8, j / 16, none⟩ = some (.int .u32 (kR.getD (j / 16) 0)) := by
  have h80 : ∀ l : List Nat, l.length = 80 → j < (ints l).length := fun l hl => by rw [ints_length, hl]; exact hj
  have g3 := h.r3.int0 j (h80 _ rfl)
  have g4 := h.r4.int0 j (h80 _ rfl)
  have g5 := h.r5.int0 j (h80 _ rfl)
  have g6 := h.r6.int0 j (h80 _ rfl)
  rw [ints_getD] at g3 g4 g5 g6
  exact ⟨g3, g4, g5, g6, h.r7.int0 (j / 16) (by show j / 16 < 5; omega), h.r8.int0 (j / 16) (by show j / 16 < 5; omega)⟩
/-- what the reference's Ripemd holds at a block's beginning -/
structure RefR (w W : World) (p2 b3 b4 b5 b6 b7 b8 p9 gm om : Nat) (M : List Int) (s : S5) : Prop where
  keeps : Keeps w W
  res : Row W p2 0 (List.replicate 20 (Value.int .u8 0))
  tabs : Tabs W b3 b4 b5 b6 b7 b8
  st : Row W p9 0 (s.list.map (Value.int .u32))
  msg : Row W gm om (M.map (Value.int .u8))
  new : w.heap.size ≤ p9 ∧ p2 ≠ p9 ∧ b3 ≠ p9 ∧ b4 ≠ p9 ∧ b5 ≠ p9 ∧ b6 ≠ p9 ∧ b7 ≠ p9 ∧ b8 ≠ p9 ∧ gm ≠ p9
theorem RefR.step {w W W' : World} {p2 b3 b4 b5 b6 b7 b8 p9 gm om : Nat} {M : List Int} {s : S5} (h : RefR w W p2 b3 b4 b5 b6 b7 b8 p9 gm om M s) (hk : Keeps W W') : RefR w W' p2 b3 b4 b5 b6 b7 b8 p9 gm om M s :=
  ⟨h.keeps.trans hk, h.res.keeps hk, h.tabs.keeps hk, h.st.keeps hk, h.msg.keeps hk, h.new⟩
theorem RefR.chg {w W W' : World} {p2 b3 b4 b5 b6 b7 b8 p9 gm om : Nat} {M : List Int} {s s' : S5} (h : RefR w W p2 b3 b4 b5 b6 b7 b8 p9 gm om M s) (hc : Chg (· = p9) W W') (hr : Row W' p9 0 (s'.list.map (Value.int .u32))) : RefR w W' p2 b3 b4 b5 b6 b7 b8 p9 gm om M s' := by
  obtain ⟨n0, n1, n2, n3, n4, n5, n6, n7, n8⟩ := h.new
  exact ⟨keeps_chg h.keeps hc n0, h.res.chg hc n1, h.tabs.chg hc ⟨n2, n3, n4, n5, n6, n7⟩, hr, h.msg.chg hc n8, h.new⟩
/-- blocks from N on have changed -/
theorem RefR.other {S : Nat → Prop} {w W W' : World} {p2 b3 b4 b5 b6 b7 b8 p9 gm om N : Nat} {M : List Int} {s : S5} (h : RefR w W p2 b3 b4 b5 b6 b7 b8 p9 gm om M s) (hc : Chg S W W') (hS : ∀ k, S k → N ≤ k) (hN : w.heap.size ≤ N ∧ p2 < N ∧ b3 < N ∧ b4 < N ∧ b5 < N ∧ b6 < N ∧ b7 < N ∧ b8 < N ∧ p9 < N ∧ gm < N) : RefR w W' p2 b3 b4 b5 b6 b7 b8 p9 gm om M s := by
  obtain ⟨n0, n1, n2, n3, n4, n5, n6, n7, n8, n9⟩ := hN
  have hn : ∀ b, b < N → ¬ S b := fun b hb hs => by have := hS b hs; omega
  exact ⟨Below.trans h.keeps (hc.below h.keeps.size (fun k hk e => by have := hS k e; omega)), h.res.chg hc (hn _ n1), h.tabs.chg hc ⟨hn _ n2, hn _ n3, hn _ n4, hn _ n5, hn _ n6, hn _ n7⟩, h.st.chg hc (hn _ n8), h.msg.chg hc (hn _ n9), h.new⟩
theorem RefR.lt {w W : World} {p2 b3 b4 b5 b6 b7 b8 p9 gm om : Nat} {M : List Int} {s : S5} (h : RefR w W p2 b3 b4 b5 b6 b7 b8 p9 gm om M s) (hM : M ≠ []) : w.heap.size ≤ W.heap.size ∧ p2 < W.heap.size ∧ b3 < W.heap.size ∧ b4 < W.heap.size ∧ b5 < W.heap.size ∧ b6 < W.heap.size ∧ b7 < W.heap.size ∧ b8 < W.heap.size ∧ p9 < W.heap.size ∧ gm < W.heap.size := by
  obtain ⟨t3, t4, t5, t6, t7, t8⟩ := h.tabs.lt
  exact ⟨h.keeps.size, h.res.lt (by simp), t3, t4, t5, t6, t7, t8, h.st.lt (by simp [S5.list]), h.msg.lt (by simpa using hM)⟩
def zeros20 : List Value := List.replicate 20 (Value.int .u8 0)
theorem sz_b20 : (Tryd.prog.info? 60).map (·.size) = some 20 := by kernel_rfl
set_option maxRecDepth 100000 in
theorem hash160_any (v : Value) (n : Nat) (l : List Int) (w : World) (hr : Rd w 1 v n (l.map (Value.int .u8))) (hz : Bytes l) (hn : n ≤ 35184372088832) :
    Calls Tryd.prog 23 #[v] w fun e w' => e = .returned (.agg ((rip160 (sha256 l)).map (Value.int .u8)).toArray) ∧ Keeps w w' := by
  obtain ⟨a, cap, rfl⟩ : ∃ a cap, v = .slice a n cap := by obtain ⟨_, a, cap, h, _⟩ := hr; exact ⟨a, cap, h⟩
  have HS := Lib.hid hr; have HZ := Lib.hid hz
  clear hr hz
  go_enter Tryd.func23, Tryd.ntmps23
  go_upto_region 1 with (fail)
  obtain ⟨p, hp⟩ : ∃ p, p = w.heap.size := ⟨_, rfl⟩
  have hk0 : Keeps w (w.alloc (.cells zeros20.toArray 60)) := keeps_alloc (Keeps.refl w) _
  have hr0 : Row (w.alloc (.cells zeros20.toArray 60)) p 0 zeros20 := by rw [hp]; exact Row.new _ _ _ rfl
  rw [← hp]
  have HP := Lib.hid hp
  clear hp
  refine wp_gen (fun W => Keeps w W ∧ Row W p 0 zeros20) ⟨hk0, hr0⟩ ?_
  clear hk0 hr0
  intro W ⟨hk, hr⟩
  have HK := Lib.hid hk; have HR := Lib.hid hr
  clear hk hr
  have Z1 : Hid ((Tryd.prog.info? 80).map (·.size) = some ((sha256 l).map (Value.int .u8)).length) := by
    rw [List.length_map, sha_length]; exact Lib.hid sz_hash
  have Z2 : Hid ((Tryd.prog.info? 60).map (·.size) = some ((rip160 (sha256 l)).map (Value.int .u8)).length) := by
    rw [List.length_map, rip160_length]; exact Lib.hid sz_b20
  have Z0 : Hid (((sha256 l).map (Value.int .u8)).length = (List.replicate 32 (Value.int .u8 0)).length) := by
    rw [List.length_map, sha_length]; exact Lib.hid rfl
  go_upto_region 2 with (first | (go_at_call 33; refine (sum256_any _ n l _ (HS.out.keeps HK.out) HZ.out hn).mono ?_; rintro e W3 ⟨rfl, hk3⟩; have HK3 := Lib.hid hk3; clear hk3) | (refine wpList_store_row rfl 80 (.tmp 3) (.tmp 5) rfl W3.heap.size 0 rfl (List.replicate 32 (Value.int .u8 0)) _ rfl (Row.new _ _ _ rfl) Z0.out Z1.out (int_oneCell _) ?_; intro W4 hr4 hc4; have HR4 := Lib.hid hr4; have HC4 := Lib.hid hc4; clear hr4 hc4))
  have hk4 : Keeps w W4 := keeps_chg (keeps_alloc (HK.out.trans HK3.out) _) HC4.out (HK.out.trans HK3.out).size
  have hp4 : Row W4 p 0 zeros20 := ((HR.out.keeps HK3.out).alloc _).chg HC4.out (by have h1 := HR.out.lt (by simp [zeros20]); have h2 := HK3.out.size; omega)
  have HK4 := Lib.hid hk4; have HP4 := Lib.hid hp4
  clear hk4 hp4 HC4 HR
  go_wp2_with (first | (go_at_call 34; refine (ripemd_any _ 32 (sha256 l) _ (rd_sha HR4.out) (sha_bytes l) (by omega)).mono ?_; rintro e W5 ⟨rfl, hk5⟩; have HK5 := Lib.hid hk5; clear hk5) | (refine wpList_store_row rfl 60 (.tmp 2) (.tmp 7) rfl p 0 rfl _ _ rfl (HP4.out.keeps HK5.out) (by simp [zeros20, rip160_length]) Z2.out (int_oneCell _) ?_; intro W6 hr6 hc6; have HR6 := Lib.hid hr6; have HC6 := Lib.hid hc6; clear hr6 hc6))
  exact bodyPost_ret (v := .agg ((rip160 (sha256 l)).map (Value.int .u8)).toArray) (results_cell_at (p := 2) (ty := 60) rfl _ _ p 0 _ _ rfl HR6.out Tryd.underlying60 rfl Z2.out) rfl ⟨rfl, keeps_chg (HK4.out.trans HK5.out) HC6.out (by have := HP.out; omega)⟩
end Go.Proofs.YtlofddoojkeakaaDoor.Rip
namespace Go.Proofs.YtlofddoojkeakaaDoor
set_option linter.unusedVariables false
set_option linter.unusedSimpArgs false
open Go Go.RowKit Cv

/-- a key's fields -/
structure KD where
  d : Int
  fg : List Int
  ch : Int
  cc : List Int
  x : Int
  z : List Int
def KD.da (k : KD) : List Int := k.x :: k.z
def KD.cells (k : KD) : List Value := keyCells k.d k.fg k.ch k.cc (k.x :: k.z)
structure KD.ok (k : KD) : Prop where
  d : 0 ≤ k.d ∧ k.d < 256
  fl : k.fg.length = 4
  fb : Bytes k.fg
  ch : 0 ≤ k.ch ∧ k.ch < 4294967296
  cl : k.cc.length = 32
  cb : Bytes k.cc
  x : Byte k.x
  zl : k.z.length = 32
  zb : Bytes k.z
theorem KD.ok.db {k : KD} (h : k.ok) : Bytes (k.x :: k.z) := fun y hy => by
  rcases List.mem_cons.1 hy with e | hy
  · subst e; exact h.x
  · exact h.zb y hy
theorem KD.ok.dl {k : KD} (h : k.ok) : (k.x :: k.z).length = 33 := by rw [List.length_cons, h.zl]
def K0 : KD := ⟨0, Z4, 0, Z32k, 0, Z32k⟩
theorem z32_bytes : Bytes Z32k := fun y hy => by
  rw [(List.mem_replicate.1 (show y ∈ List.replicate 32 0 from hy)).2]
  exact ⟨by omega, by omega⟩
theorem K0_ok : K0.ok := ⟨⟨by decide, by decide⟩, rfl, fun y hy => by
  rw [(List.mem_replicate.1 (show y ∈ List.replicate 4 0 from hy)).2]
  exact ⟨by omega, by omega⟩, ⟨by decide, by decide⟩, rfl, z32_bytes, ⟨by decide, by decide⟩, rfl, z32_bytes⟩
/-- is it a key at all? -/
def goodV (x : Int) (z : List Int) : Bool := if x = 0 then keyB (be z) else (unpN (x :: z)).isSome
/-- its public key -/
def pointV (x : Int) (z : List Int) : List Int := if x = 0 then pubV (be z) else x :: z
def four (n : Int) : List Int := [n / 16777216, n / 65536 % 256, n / 256 % 256, n % 256]
theorem four_bytes {n : Int} (h0 : 0 ≤ n) (h1 : n < 4294967296) : Bytes (four n) := fun y hy => by
  simp only [four, List.mem_cons, List.not_mem_nil, or_false] at hy
  rcases hy with rfl | rfl | rfl | rfl <;> exact ⟨by omega, by omega⟩
/-- what a child is made of: 64 bytes -/
def childH (k : KD) (n : Int) : List Int := B64.hmac k.cc ((if 2147483648 ≤ n then k.x :: k.z else pointV k.x k.z) ++ four n)
theorem childH_len (k : KD) (n : Int) : (childH k n).length = 64 := B64.hmac_length _ _
theorem childH_bytes (k : KD) (n : Int) : Bytes (childH k n) := B64.hmac_bytes _ _
def fingerV (k : KD) : List Int := (Rip.rip160 (sha256 (pointV k.x k.z))).take 4
def childB (k : KD) (n : Int) : List Int × Int := if k.x = 0 then ((0 :: (addKV (be k.z) (be ((childH k n).take 32))).1), (addKV (be k.z) (be ((childH k n).take 32))).2) else addPV (k.x :: k.z) (be ((childH k n).take 32))
/-- a child -/
def stepV (k : KD) (n : Int) : KD × Int :=
  if goodV k.x k.z = true then
    (if k.d = 255 then (K0, 2)
     else if 2147483648 ≤ n ∧ ¬ k.x = 0 then (K0, 1)
     else if (childB k n).2 = 0 then (⟨k.d + 1, fingerV k, n, (childH k n).drop 32, (childB k n).1.headD 0, (childB k n).1.drop 1⟩, 0)
     else (K0, 7))
  else (K0, 3)
/-- step by step -/
def goV : KD → List Int → KD × Int
  | k, [] => (k, 0)
  | k, n :: l => if (stepV k n).2 = 0 then goV (stepV k n).1 l else (K0, (stepV k n).2)
def walkV (k : KD) (l : List Int) : KD × Int := if goodV k.x k.z = true then goV k l else (K0, 3)
/-- without its secret -/
def pubK (k : KD) : KD := ⟨k.d, k.fg, k.ch, k.cc, (pointV k.x k.z).headD 0, (pointV k.x k.z).drop 1⟩
def publicV (k : KD) : KD × Int := if goodV k.x k.z = true then (pubK k, 0) else (K0, 3)
end Go.Proofs.YtlofddoojkeakaaDoor
namespace Go.Proofs.YtlofddoojkeakaaDoor
set_option linter.unusedVariables false
set_option linter.unusedSimpArgs false
open Go Go.RowKit Go.Shelf

set_option maxHeartbeats 2000000 in
set_option maxRecDepth 100000 in
theorem writeString_any (B b : Nat) (bs : List Value) (s : ByteArray) (w : World) (h : Lib.IsBuilder 47 5 B b bs w) (hlen : bs.length + s.size ≤ 140737488355328) (hBw : B ≤ w.heap.size) :
    Calls Tryd.prog 16 #[.pointer (some ⟨b, 0, none⟩), .string s] w fun e w' => e = .returned (.tuple #[.int .i64 s.size, .nilIface]) ∧ (Lib.BuilderAt 47 5 B b (.pointer (some ⟨b, 0, none⟩)) (bs ++ Lib.strCells s) w' ∧ Below B w w' ∧ w.heap.size ≤ w'.heap.size) := by
  obtain ⟨i0, hi, hz0, hz1, hz2⟩ := info_parts u8_info
  have hck := check_any B b bs w h
  go_enter Tryd.func16, Tryd.ntmps16
  go_wp2_with (go_at_call 28; refine hck.mono ?_)
  rintro e w1 ⟨rfl, h1, hb1, hk1, hs1⟩
  obtain ⟨hB, v, hbk, hown, hne⟩ := h1
  have c0 : w1.cell? ⟨b, 0, none⟩ = some (.pointer (some ⟨b, 0, none⟩)) := by rw [Lib.cell_of_heap hbk]; rfl
  have c1 : w1.cell? ⟨b, 1, none⟩ = some v := by rw [Lib.cell_of_heap hbk]; rfl
  go_wp2_with (at_builtin; refine Lib.wpList_append_own_string _ rfl _ _ 38 9 rfl B 5 i0 Tryd.underlying38 Tryd.underlying9 hi hz0 hz1 hz2 _ _ _ rfl hown s rfl ?c3 ?c4 ?c5 ?_)
  case c3 => unfold maxLen; omega
  case c4 => omega
  case c5 => have := hb1.size; omega
  intro v' w2 hown' hgrow _
  have hlt : b < w1.heap.size := by
    rcases Nat.lt_or_ge b w1.heap.size with h' | h'
    · exact h'
    · simp [Array.getElem?_eq_none h'] at hbk
  have hb2 : w2.heap[b]? = some (.cells #[.pointer (some ⟨b, 0, none⟩), v] 47 (0, 0)) := by
    rw [hgrow.block b hlt (fun e => hne e.symm)]
    exact hbk
  have d0 : w2.cell? ⟨b, 0, none⟩ = some (.pointer (some ⟨b, 0, none⟩)) := by rw [Lib.cell_of_heap hb2]; rfl
  have d1 : w2.cell? ⟨b, 1, none⟩ = some v := by rw [Lib.cell_of_heap hb2]; rfl
  have f1 : w2.frozen? ⟨b, 1, none⟩ = false := Lib.frozen_of_heap hb2 1
  obtain ⟨ao, n', cap, rfl⟩ : ∃ ao n' cap, v' = .slice ao n' cap := by
    rcases hown'.2 with ⟨hv, _⟩ | ⟨g, cap, cur, hv, _⟩
    · exact ⟨_, _, _, hv⟩
    · exact ⟨_, _, _, hv⟩
  go_wp2
  go_ret2
  refine ⟨rfl, ?_, ?_, ?_⟩
  · exact Lib.BuilderAt.put (T := 47) (e := 5) hB hb2 (bs' := bs ++ Lib.strCells s) (by simpa [Lib.strCells_length] using hown') (by decide)
  · exact (hb1.grown hgrow (by have := hb1.size; omega) (fun k hk => (hown.lt k hk).1)).setCell (p := ⟨b, 1, none⟩) hB _
  · have := hgrow.size; simp at this ⊢; omega
/-- a step's number, a step, a path, as text -/
def numT (x : Int) : List UInt8 := Lib.decDigits (x % 2147483648).toNat
def stepT (x : Int) : List UInt8 := 47 :: (numT x ++ (if 2147483648 ≤ x then [39] else []))
def pathT (l : List Int) : List UInt8 := 109 :: l.flatMap stepT
theorem stepT_hard {x : Int} (h : 2147483648 ≤ x) : stepT x = 47 :: numT x ++ [39] := by unfold stepT; rw [if_pos h]; rfl
theorem stepT_soft {x : Int} (h : ¬ 2147483648 ≤ x) : stepT x = 47 :: numT x := by unfold stepT; rw [if_neg h]; simp
theorem and_hard {x : Int} (h0 : 0 ≤ x) (h1 : x < 4294967296) : bits .andNot .u32 x 2147483648 = x % 2147483648 := by
  rw [u32_andNot x 2147483648 h0 h1 (by omega) (by omega)]
  have e : (4294967295 - (2147483648 : Int).toNat : Nat) = 2 ^ 31 - 1 := by decide
  rw [e, Nat.and_two_pow_sub_one_eq_mod]
  omega
theorem flat_prefix {α : Type} (f : α → List UInt8) (l : List α) (i : Nat) : ((l.take i).flatMap f).length ≤ (l.flatMap f).length := by
  have : l.flatMap f = (l.take i).flatMap f ++ (l.drop i).flatMap f := by rw [← List.flatMap_append, List.take_append_drop]
  rw [this, List.length_append]; omega
theorem take_step (l : List Int) (i : Nat) (h : i < l.length) : (l.take (i + 1)).flatMap stepT = (l.take i).flatMap stepT ++ stepT (l.getD i 0) := by
  rw [List.take_succ_eq_append_getElem h, List.flatMap_append]
  simp [List.getD, h]
theorem byteCells_append (a b : List UInt8) : Lib.byteCells (a ++ b) = Lib.byteCells a ++ Lib.byteCells b := by simp [Lib.byteCells]
theorem strCells_of (l : List UInt8) : Lib.strCells ⟨l.toArray⟩ = Lib.byteCells l := rfl
set_option maxHeartbeats 2000000 in
set_option maxRecDepth 100000 in
theorem path_any (v : Value) (n : Nat) (l : List Int) (w : World) (hr : Rd w 1 v n (l.map (Value.int .u32))) (hln : l.length = n) (hx : ∀ x ∈ l, 0 ≤ x ∧ x < 4294967296) (hn : (pathT l).length ≤ 1000000) (hn2 : n ≤ 1000000)
    (hf : ∀ x ∈ l, ∀ W, Calls Tryd.prog 17 #[.int .u64 (x % 2147483648), .int .i64 10] W fun e w' => e = .returned (.string ⟨(numT x).toArray⟩) ∧ w' = W) :
    Calls Tryd.prog 10 #[v] w fun e w' => e = .returned (.string ⟨(pathT l).toArray⟩) ∧ Keeps w w' := by
  obtain ⟨a, cap, rfl⟩ : ∃ a c, v = .slice a n c := by obtain ⟨_, a, c, e, _⟩ := hr; exact ⟨a, c, e⟩
  have hcell : ∀ i, i < n → ∃ g off, a = some ⟨g, off, none⟩ ∧ ∀ W, Keeps w W → W.cell? ⟨g, off + i, none⟩ = some (.int .u32 (l.getD i 0)) := fun i hi => by
    obtain ⟨_, a', cap', e, h2, h3, h4, h5⟩ := hr
    cases e
    cases a with
    | none => have := (h4 rfl).1; omega
    | some ad =>
      obtain ⟨g, off, rfl, hg, hrow⟩ := h5 ad rfl (by omega)
      exact ⟨g, off, rfl, fun W hk => (hrow.keeps hk).int i (by omega)⟩
  have HCELL := Lib.hid hcell; have HLN := Lib.hid hln; have HX := Lib.hid hx; have HF := Lib.hid hf; have HN := Lib.hid hn
  clear hr hcell hln hx hf hn
  obtain ⟨P, hP⟩ : ∃ P, P = pathT l := ⟨_, rfl⟩
  rw [← hP]
  have HP := Lib.hid hP
  clear hP
  go_enter Tryd.func10, Tryd.ntmps10
  go_upto_region 2 with (fail)
  refine wp_gen (fun W => Keeps w W ∧ Lib.IsBuilder 47 5 w.heap.size w.heap.size (Lib.byteCells []) W ∧ w.heap.size < W.heap.size) ⟨nm_keeps_alloc (Keeps.refl w) _, Lib.fresh_isBuilder 47 5 w, by simp⟩ ?_
  intro W0 ⟨hk0, hb0, hs0⟩
  have HK0 := Lib.hid hk0; have HB0 := Lib.hid hb0; have HS0 := Lib.hid hs0
  clear hk0 hb0 hs0
  obtain ⟨b, hbe⟩ : ∃ b, b = w.heap.size := ⟨_, rfl⟩
  rw [← hbe] at HB0 HS0 ⊢
  have HBE := Lib.hid hbe
  clear hbe
  go_upto_region 3 with (go_at_call 15; refine (writeByte_any b b _ 109 W0 HB0.out (by simp [Lib.byteCells]) (Nat.le_of_lt HS0.out)).mono ?_; rintro e W1 ⟨rfl, hb1, hbl1, -, hs1⟩; have HB1 := Lib.hid hb1; have HBL1 := Lib.hid hbl1; have HS1 := Lib.hid hs1; clear hb1 hbl1 hs1)
  have hk1 : Below b w W1 := Below.trans (by have := HK0.out; rw [HBE.out]; exact this) HBL1.out
  have HK1 := Lib.hid hk1
  have HW1 := Lib.hid (Nat.lt_of_lt_of_le HS0.out HS1.out)
  clear hk1 HB0 HBL1 HS0 HS1 HK0
  go_wp2
  go_loopw [5, 9] (fun _ c wr => ∃ i : Nat, i ≤ n ∧ c = .int .i64 i ∧ Hid (Below b w wr) ∧ Hid (Lib.IsBuilder 47 5 b b (Lib.byteCells (109 :: (l.take i).flatMap stepT)) wr) ∧ Hid (b < wr.heap.size)) (fun _ c _ => (n - intOf c).toNat)
  case atStart => exact ⟨0, by omega, rfl, HK1, Lib.hid (.inr HB1.out), HW1⟩
  case round =>
    obtain ⟨i, hi, rfl, HKR, HBR, HSR⟩ := hrel
    by_cases hlt : i < n
    · obtain ⟨g, off, rfl, hc⟩ := HCELL.out i hlt
      have hil : i < l.length := by rw [HLN.out]; exact hlt
      have hxm : l.getD i 0 ∈ l := by
        have : l.getD i 0 = l[i] := by simp [List.getD, hil]
        rw [this]; exact List.getElem_mem hil
      have cz := hc wr (by have := HKR.out; rw [HBE.out] at this; exact this)
      obtain ⟨x0, x1⟩ := HX.out _ hxm
      have HFX := Lib.hid (HF.out _ hxm)
      have HTS := Lib.hid (take_step l i hil)
      have hlen := flat_prefix stepT l (i + 1)
      rw [HTS.out] at hlen
      have hlen2 : (109 :: ((l.take i).flatMap stepT ++ stepT (l.getD i 0))).length ≤ 1000000 := by
        have := HN.out; unfold pathT at this; simp only [List.length_cons] at this ⊢; omega
      have HLEN := Lib.hid hlen2
      clear hlen hlen2 hc hxm hil
      generalize (l.take i).flatMap stepT = T at *
      generalize l.getD i 0 = x at *
      have hand := and_hard x0 x1
      have hm0 : 0 ≤ x % 2147483648 := by omega
      have hm1 : x % 2147483648 < 2147483648 := by omega
      have hsn : (ByteArray.mk #[47] ++ ByteArray.mk (numT x).toArray) = ByteArray.mk (47 :: numT x).toArray := by
        apply ByteArray.ext; simp
      generalize x % 2147483648 = y at *
      by_cases hh : 2147483648 ≤ x
      · rw [stepT_hard hh] at HTS HLEN
        have hnl : ¬ 9223372036854775807 < 1 + (numT x).length := by have := HLEN.out; simp at this; omega
        go_upto_region 7 with (first
          | (go_at_call 17; refine (HFX.out _).mono ?_; rintro e W2 ⟨rfl, rfl⟩)
          | (go_at_call 16; refine (writeString_any b b _ ⟨(47 :: numT x).toArray⟩ _ HBR.out (by have := HLEN.out; simp [Lib.byteCells, ByteArray.size] at this ⊢; omega) (Nat.le_of_lt HSR.out)).mono ?_; rintro e W3 ⟨rfl, hb3, hbl3, hs3⟩; have HB3 := Lib.hid hb3; have HBL3 := Lib.hid hbl3; have HS3 := Lib.hid hs3; clear hb3 hbl3 hs3))
        clear hnl
        go_wp2_with (go_at_call 15; refine (writeByte_any b b _ 39 W3 (.inr HB3.out) (by have := HLEN.out; simp [Lib.byteCells, strCells_of] at this ⊢; omega) (Nat.le_of_lt (Nat.lt_of_lt_of_le HSR.out HS3.out))).mono ?_; rintro e W4 ⟨rfl, hb4, hbl4, -, hs4⟩; have HB4 := Lib.hid hb4; have HBL4 := Lib.hid hbl4; have HS4 := Lib.hid hs4; clear hb4 hbl4 hs4)
        go_roundw
        case rel =>
          refine ⟨i + 1, by omega, by go_num, Lib.hid ((HKR.out.trans HBL3.out).trans HBL4.out), Lib.hid (.inr ?_), Lib.hid (Nat.lt_of_lt_of_le HSR.out (Nat.le_trans HS3.out HS4.out))⟩
          rw [HTS.out]
          have h := HB4.out
          rw [strCells_of, ← byteCells_append] at h
          have e : Lib.byteCells (109 :: T ++ 47 :: numT x) ++ [Value.int .u8 39] = Lib.byteCells (109 :: (T ++ (47 :: numT x ++ [39]))) := by
            rw [show [Value.int .u8 39] = Lib.byteCells [39] from rfl, ← byteCells_append]; simp
          rw [e] at h
          exact h
        case measure => simp [intOf]; omega
      · rw [stepT_soft hh] at HTS HLEN
        have hnl : ¬ 9223372036854775807 < 1 + (numT x).length := by have := HLEN.out; simp at this; omega
        go_upto_region 7 with (first
          | (go_at_call 17; refine (HFX.out _).mono ?_; rintro e W2 ⟨rfl, rfl⟩)
          | (go_at_call 16; refine (writeString_any b b _ ⟨(47 :: numT x).toArray⟩ _ HBR.out (by have := HLEN.out; simp [Lib.byteCells, ByteArray.size] at this ⊢; omega) (Nat.le_of_lt HSR.out)).mono ?_; rintro e W3 ⟨rfl, hb3, hbl3, hs3⟩; have HB3 := Lib.hid hb3; have HBL3 := Lib.hid hbl3; have HS3 := Lib.hid hs3; clear hb3 hbl3 hs3))
        clear hnl
        go_wp2
        go_roundw
        case rel =>
          refine ⟨i + 1, by omega, by go_num, Lib.hid (HKR.out.trans HBL3.out), Lib.hid (.inr ?_), Lib.hid (Nat.lt_of_lt_of_le HSR.out HS3.out)⟩
          rw [HTS.out]
          have h := HB3.out
          rw [strCells_of, ← byteCells_append] at h
          exact h
        case measure => simp [intOf]; omega
    · obtain rfl : i = n := by omega
      rw [List.take_of_length_le (by rw [HLN.out]; exact Nat.le_refl _)] at HBR
      have hpt : 109 :: l.flatMap stepT = pathT l := rfl
      rw [hpt, ← HP.out] at HBR
      clear hpt
      go_wp2_with (go_at_call 18; refine (Tryd.Builder_String_any b b P wr HBR.out (Nat.le_of_lt HSR.out)).mono ?_; rintro e W5 ⟨rfl, hbl5⟩; have HBL5 := Lib.hid hbl5; clear hbl5)
      go_ret
      exact ⟨rfl, by have := HKR.out.trans HBL5.out; rw [HBE.out] at this; exact this⟩
theorem fmt_small (i : Nat) (h : i < 100) (W : World) : Calls Tryd.prog 17 #[.int .u64 i, .int .i64 10] W fun e w' => e = .returned (.string ⟨(Lib.decDigits i).toArray⟩) ∧ w' = W := by
  have h0 : (i : Int) < 100 := by omega
  have hin : Calls Tryd.prog 29 #[.int .u64 i, .int .i64 10] W fun e w' => e = .returned (.string ⟨(Lib.decDigits i).toArray⟩) ∧ w' = W := by
    go_enter Tryd.func29, Tryd.ntmps29
    go_wp2_with (go_at_call 51; refine (Tryd.internal_strconv_small i h W).mono ?_; rintro e w' ⟨rfl, rfl⟩)
    go_ret
    exact ⟨rfl, rfl⟩
  have HIN := Lib.hid hin
  clear hin
  go_enter Tryd.func17, Tryd.ntmps17
  go_wp2_with (go_at_call 29; refine HIN.out.mono ?_; rintro e w' ⟨rfl, rfl⟩)
  go_ret
  exact ⟨rfl, rfl⟩
theorem num_hard : numT 2147483648 = [48] := by
  unfold numT
  rw [show ((2147483648 : Int) % 2147483648).toNat = 0 by decide, Lib.decDigits, dif_pos (by omega)]; rfl
theorem num_one : numT 1 = [49] := by
  unfold numT
  rw [show ((1 : Int) % 2147483648).toNat = 1 by decide, Lib.decDigits, dif_pos (by omega)]; rfl
theorem path_awk : pathT [2147483648, 1] = [109, 47, 48, 39, 47, 49] := by
  unfold pathT
  rw [List.flatMap_cons, List.flatMap_cons, List.flatMap_nil, stepT_hard (by decide), stepT_soft (by decide), num_hard, num_one]; rfl
def seed0 : List Int := [0, 1, 2, 3, 4, 5, 6, 7, 8, 9, 10, 11, 12, 13, 14, 15]
theorem seed0_h : keyB (be ((seedH seed0).take 32)) = true ∧ ((seedH seed0).take 32).getD 0 0 = 232 := by decide +kernel
theorem seed0_m : masterK seed0 = (rootK ((seedH seed0).drop 32) ((seedH seed0).take 32), 0) := by
  unfold masterK
  rw [if_pos (show seedOk seed0.length = true from rfl), if_pos seed0_h.1]
theorem path_two (g : Nat) (W : World) (hr : Row W g 0 (([2147483648, 1] : List Int).map (Value.int .u32))) (hg : g < W.heap.size) : Calls Tryd.prog 10 #[.slice (some ⟨g, 0, none⟩) 2 2] W fun e w' => e = .returned (.string ⟨#[109, 47, 48, 39, 47, 49]⟩) ∧ Keeps W w' := by
  have h := path_any (.slice (some ⟨g, 0, none⟩) 2 2) 2 [2147483648, 1] W (Rd.of_row hr rfl hg (Nat.le_refl _) (by unfold maxLen; omega)) rfl (fun x hx => by
    simp only [List.mem_cons, List.not_mem_nil, or_false] at hx
    rcases hx with rfl | rfl <;> exact ⟨by omega, by omega⟩) (by rw [path_awk]; decide) (by omega) (fun x hx W => by
    simp only [List.mem_cons, List.not_mem_nil, or_false] at hx
    rcases hx with rfl | rfl
    · have := fmt_small 0 (by omega) W
      exact this
    · have := fmt_small 1 (by omega) W
      exact this)
  rw [path_awk] at h
  exact h
set_option maxRecDepth 100000 in
set_option maxHeartbeats 4000000 in
theorem awake_any (w : World) : Calls Tryd.prog 4 #[] w fun e w' => e = .returned (.bool true) ∧ Keeps w w' := by
  have hcl : ((seedH seed0).drop 32).length = 32 := by rw [List.length_drop, seedH_length]
  have hzl : ((seedH seed0).take 32).length = 32 := by rw [List.length_take, seedH_length]; omega
  have HM := Lib.hid (fun (W : World) (v : Value) (hr : Rd W 1 v 16 (seed0.map (Value.int .u8))) => master_any v 16 seed0 W hr (by unfold Bytes Byte seed0; decide) rfl)
  have h232 := seed0_h.2
  rw [seed0_m] at HM
  simp only at HM
  generalize (seedH seed0).drop 32 = CC at *
  generalize (seedH seed0).take 32 = ZZ at *
  obtain ⟨Z', rfl⟩ : ∃ Z', ZZ = 232 :: Z' := by
    cases ZZ with
    | nil => cases hzl
    | cons x r => simp [List.getD] at h232; exact ⟨r, by rw [h232]⟩
  clear h232
  have HSZ := Lib.hid (sz_root hcl hzl)
  have HLN := Lib.hid (rootK_length hcl hzl)
  have HON := Lib.hid (rootK_one CC (232 :: Z'))
  have HPR := Lib.hid (fun W => (show Calls Tryd.prog 9 #[.agg (rootK CC (232 :: Z')).toArray] W _ from private_any (d := 0) (ch := 0) (fg := Z4) rfl hcl W))
  have HD := Lib.hid (fun (W : World) (p : Nat) (hr : Row W p 0 (rootK CC (232 :: Z'))) => (key_data hr rfl hcl 1 (.int .u8 232) rfl).1)
  generalize rootK CC (232 :: Z') = K at *
  clear hcl hzl
  go_enter Tryd.func4, Tryd.ntmps4
  have HRS := Lib.hid (show Rd (w.alloc (.cells (seed0.map (Value.int .u8)).toArray 5)) 1 (.slice (some ⟨w.heap.size, 0, none⟩) 16 16) 16 (seed0.map (Value.int .u8)) from Rd.of_row (Row.new _ _ _ rfl) rfl (by simp) (by omega) (by unfold maxLen; omega))
  go_upto_region 2 with (first
    | (go_at_call 8; refine (HM.out _ _ HRS.out).mono ?_; rintro e W2 ⟨rfl, hk2⟩; have HK2 := Lib.hid hk2; clear hk2)
    | (refine wpList_store_row rfl 30 (.tmp 1) (.tmp 6) rfl W2.heap.size 0 rfl (rootK Z32k Z32k) K rfl (Row.new _ _ _ rfl) HLN.out HSZ.out HON.out ?_; intro W3 hr3 hc3; have HR3 := Lib.hid hr3; have HK3 := Lib.hid (nm_keeps_chg (nm_keeps_alloc (Keeps.refl W2) _) hc3 (Nat.le_refl _)); clear hr3 hc3))
  have HKW := Lib.hid (show Keeps w W3 from (Keeps.trans (nm_keeps_alloc (Keeps.refl w) _) HK2.out).trans HK3.out)
  clear HK2 HK3 HRS HM HLN HON
  generalize W2.heap.size = q at *
  have hTL : (ByteArray.mk #[109, 47, 48, 39, 47, 49]).toList = [109, 47, 48, 39, 47, 49] := by decide +kernel
  go_wp2_with (first
    | (refine cu_load (by kernel_rfl) 30 (.tmp 1) rfl q 0 rfl _ _ HR3.out Tryd.underlying30 rfl HSZ.out ?_)
    | (go_at_call 9; refine (HPR.out _).mono ?_; rintro e W4 ⟨rfl, hk4⟩; have HK4 := Lib.hid hk4; have c39 := HD.out _ _ (HR3.out.keeps hk4); clear hk4)
    | (go_at_call 10; refine (path_two _ _ (Row.new _ _ _ rfl) (by simp)).mono ?_; rintro e W5 ⟨rfl, hk5⟩; have HK5 := Lib.hid (show Keeps W4 W5 from Keeps.trans (nm_keeps_alloc (Keeps.refl W4) _) hk5); clear hk5))
  go_ret
  exact ⟨by first | rfl | exact ret_bool (by simp), (HKW.out.trans HK4.out).trans HK5.out⟩
end Go.Proofs.YtlofddoojkeakaaDoor
namespace Go.Proofs.YtlofddoojkeakaaDoor
set_option linter.unusedVariables false
set_option linter.unusedSimpArgs false
open Go Go.RowKit

theorem hk_fold_set (off : Nat) : ∀ (new : List Value) (k : Nat) (pre olds post : List Value), olds.length = new.length → pre.length = off + k →
    (new.zipIdx k).foldl (fun (cs : Array Value) (x : Value × Nat) => cs.setIfInBounds (off + x.2) x.1) (pre ++ olds ++ post).toArray = (pre ++ new ++ post).toArray
  | [], k, pre, olds, post, h, _ => by
    obtain rfl : olds = [] := List.eq_nil_of_length_eq_zero (by simpa using h)
    rfl
  | v :: new, k, pre, [], post, h, _ => by simp at h
  | v :: new, k, pre, u :: olds, post, h, hp => by
    rw [List.zipIdx_cons, List.foldl_cons]
    have e : (pre ++ u :: olds ++ post).toArray.setIfInBounds (off + k) v = ((pre ++ [v]) ++ olds ++ post).toArray := by
      rw [List.setIfInBounds_toArray, ← hp]
      simp
    show List.foldl _ ((pre ++ u :: olds ++ post).toArray.setIfInBounds (off + k) v) _ = _
    rw [e, hk_fold_set off new (k + 1) (pre ++ [v]) olds post (by simpa using h) (by simp; omega)]
    simp
theorem hk_fill_at (place : Nat → Option (Nat × Nat)) (pre olds post new : List Value) (i : Nat) (v : Value) (rest : List (Nat × Value)) (hv : v.cells = new.toArray) (hl : olds.length = new.length) (hp : place i = some (pre.length, new.length)) :
    Instr.fill place (pre ++ olds ++ post).toArray ((i, v) :: rest) = Instr.fill place (pre ++ new ++ post).toArray rest := by
  have h0 := hk_fold_set pre.length new 0 pre olds post hl (by omega)
  rw [Instr.fill, hp]
  simp only [hv]
  rw [if_neg (by simp; omega)]
  congr 1
  rw [← h0, ← Array.foldl_toList]
  simp
theorem sz_b4 : (Tryd.prog.info? 22).map (·.size) = some 4 := by kernel_rfl
theorem hk_lits1 (D : Nat) (t : TypeId) (k : IntKind) (x : Int) (hu : Tryd.prog.underlying t = some (.int k)) (hw : (Lit.int k x).wf = true) : Tryd.prog.keyLits (D + 1) t [.int k x] = some [.int k x] := by
  unfold Program.keyLits
  rw [hu]
  simp only [hw, and_self, if_true]
theorem wf_u8' {x : Int} (h : Byte x) : (Lit.int .u8 x).wf = true := by
  obtain ⟨h0, h1⟩ := h
  unfold Lit.wf
  rw [Bool.and_eq_true, decide_eq_true_eq, decide_eq_true_eq]
  exact ⟨show (0 : Int) ≤ x from h0, show x ≤ (255 : Int) by omega⟩
end Go.Proofs.YtlofddoojkeakaaDoor
namespace Go.Proofs.YtlofddoojkeakaaDoor
set_option linter.unusedVariables false
set_option linter.unusedSimpArgs false
open Go Go.RowKit Cv

/-- a row stored into a part of a block -/
theorem wpList_store_in {P : Program} {w : World} {ops : Array Oper} {rest : List Oper} {o : Oper} {a : Act} {Q : Exit → Act → World → Prop} (hgd : o.guard = none) (T : TypeId) (x y : Operand) (ho : o.op = .store T x y)
    (g off : Nat) (hx : a.eval x = .pointer (some ⟨g, off, none⟩)) (vs cs : List Value) (hy : a.eval y = .agg cs.toArray) (hg : Row w g 0 vs) (hl : off + cs.length ≤ vs.length)
    (hi : (P.info? T).map (·.size) = some cs.length) (h1 : ∀ v ∈ cs, v.oneCell' = true)
    (h : ∀ w', Row w' g 0 (vs.take off ++ cs ++ vs.drop (off + cs.length)) → Chg (· = g) w w' → wpList P ops Q rest (a.put o.dst undef) w') : wpList P ops Q (o :: rest) a w :=
  wpList_plain hgd fun _ hK => by
    have hsub : Row w g off ((vs.drop off).take cs.length) := by
      have := (hg.drop off).take cs.length
      rwa [Nat.zero_add] at this
    unfold Oper.wp execOp
    simp only [ho, hx, hy, Instr.storeAt, Instr.sureAddr, Sem.run_bind, Sem.run_pure, Result.andThen_ok, run_storeVar_row w g off T _ cs hsub (by rw [List.length_take, List.length_drop]; omega) hi h1]
    have := Row.setCells (w := w) cs off hg hl
    rw [Nat.zero_add] at this
    exact hK _ _ (h _ this (setCells_chg _ _ _ _))
theorem KD.ok.len {k : KD} (h : k.ok) : k.cells.length = 71 := keyCells_length h.fl h.cl h.dl
theorem KD.one (k : KD) : ∀ v ∈ k.cells, v.oneCell' = true := keyCells_one _ _ _ _ _
theorem KD.ok.sz {k : KD} (h : k.ok) : (Tryd.prog.info? 30).map (·.size) = some k.cells.length := sz_hkey h.fl h.cl h.dl
theorem KD.ok.row38 {k : KD} (h : k.ok) {W : World} {p : Nat} (hr : Row W p 0 k.cells) : Row W p 38 ((k.x :: k.z).map (Value.int .u8)) := key_data hr h.fl h.cl
theorem KD.ok.row39 {k : KD} (h : k.ok) {W : World} {p : Nat} (hr : Row W p 0 k.cells) : Row W p 39 (k.z.map (Value.int .u8)) := by have := (h.row38 hr).drop 1; simpa using this
theorem KD.ok.cell38 {k : KD} (h : k.ok) {W : World} {p : Nat} (hr : Row W p 0 k.cells) : W.cell? ⟨p, 38, none⟩ = some (.int .u8 k.x) := (h.row38 hr 0 (.int .u8 k.x) rfl).1
set_option maxRecDepth 100000 in
theorem private_k (k : KD) (h : k.ok) (w : World) : Calls Tryd.prog 9 #[.agg k.cells.toArray] w fun e w' => e = .returned (.bool (decide (k.x = 0))) ∧ Keeps w w' := by
  have HD := Lib.hid (fun (W : World) (p : Nat) (hr : Row W p 0 k.cells) => h.cell38 hr)
  generalize k.cells = X at *
  generalize k.x = x at *
  clear h
  go_enter Tryd.func9, Tryd.ntmps9
  go_upto_region 1 with (fail)
  refine cu_rows1 (fun W hk hr hs => ?_)
  have c38 := HD.out _ _ (show Row W w.heap.size 0 X from by simpa using hr)
  have HK := Lib.hid hk
  clear hk hr hs
  go_wp2
  go_ret
  exact ⟨by first | rfl | exact ret_bool (by simp) | (rw [show (x == 0) = decide (x = 0) from rfl]), HK.out⟩
set_option maxRecDepth 100000 in
set_option maxHeartbeats 1000000 in
theorem secret_k (k : KD) (h : k.ok) (w : World) : Calls Tryd.prog 20 #[.agg k.cells.toArray] w fun e w' => e = .returned (.agg (k.z.map (Value.int .u8)).toArray) ∧ Keeps w w' := by
  have HD := Lib.hid (fun (W : World) (p : Nat) (hr : Row W p 0 k.cells) => h.row39 hr)
  have hz := h.zl
  generalize k.cells = X at *
  generalize k.z = z at *
  clear h
  have hsp := fun W => run_arrayAt (P := Tryd.prog) (w := W) 24 5 32 (some ⟨w.heap.size, 39, none⟩) 32 32 Tryd.underlying24 (Nat.le_refl _)
  go_enter Tryd.func20, Tryd.ntmps20
  go_upto_region 1 with (fail)
  refine cu_rows2 (fun W hk hr hr2 hs => ?_)
  have HR := Lib.hid (HD.out _ _ (show Row W w.heap.size 0 X from by simpa using hr))
  obtain ⟨Z, hZ, hrz⟩ : ∃ Z : List Value, Z.length = 32 ∧ Row W (w.heap.size + 1) 0 Z := ⟨_, rfl, hr2⟩
  have HRZ := Lib.hid hrz; have HK := Lib.hid hk
  clear hk hr hr2 hrz
  go_wp2_with (first | (refine wpList_load_at rfl 24 (.tmp 5) rfl w.heap.size 39 rfl _ _ HR.out Tryd.underlying24 rfl (by rw [List.length_map, hz]; exact sz_b32') ?_) | (refine wpList_store_row rfl 24 (.tmp 2) (.tmp 6) rfl (w.heap.size + 1) 0 rfl Z (z.map (Value.int .u8)) rfl HRZ.out (by rw [List.length_map, hz, hZ]) (by rw [List.length_map, hz]; exact sz_b32') (int_oneCell _) ?_; intro w9 hr9 hc9; have H9 := Lib.hid hr9; have HC9 := Lib.hid hc9; clear hr9 hc9))
  exact bodyPost_ret (v := .agg (z.map (Value.int .u8)).toArray) (results_cell_at (p := 2) (ty := 24) rfl _ _ (w.heap.size + 1) 0 _ _ rfl H9.out Tryd.underlying24 rfl (by rw [List.length_map, hz]; exact sz_b32')) rfl ⟨rfl, nm_keeps_chg HK.out HC9.out (by omega)⟩
set_option maxRecDepth 100000 in
set_option maxHeartbeats 1000000 in
theorem good_k (k : KD) (h : k.ok) (w : World) : Calls Tryd.prog 11 #[.agg k.cells.toArray] w fun e w' => e = .returned (.bool (goodV k.x k.z)) ∧ Keeps w w' := by
  have HP := Lib.hid (fun W => private_k k h W)
  have HS := Lib.hid (fun W => secret_k k h W)
  have HV := Lib.hid (fun W => valid_any k.z h.zb h.zl W)
  have HI := Lib.hid (fun (v : Value) W (hv : Rd W 1 v 33 ((k.x :: k.z).map (Value.int .u8))) => ispub_any v (k.x :: k.z) h.db W (by rw [h.dl]; exact hv))
  have HD := Lib.hid (fun (W : World) (p : Nat) (hr : Row W p 0 k.cells) => h.row38 hr)
  have ZK := Lib.hid h.sz
  have hdl := h.dl
  have hne : k.cells ≠ [] := fun e => by have := h.len; rw [e] at this; cases this
  have hcase : (k.x = 0 ∧ goodV k.x k.z = keyB (be k.z)) ∨ (¬ k.x = 0 ∧ goodV k.x k.z = (unpN (k.x :: k.z)).isSome) := by
    by_cases hx : k.x = 0
    · exact .inl ⟨hx, by unfold goodV; rw [if_pos hx]⟩
    · exact .inr ⟨hx, by unfold goodV; rw [if_neg hx]⟩
  generalize k.cells = X at *
  generalize k.z = z at *
  generalize k.x = x at *
  clear h
  rcases hcase with ⟨hx, he⟩ | ⟨hx, he⟩
  · rw [he]
    rw [decide_eq_true hx] at HP
    clear he hx HI
    generalize keyB (be z) = KB at *
    go_enter Tryd.func11, Tryd.ntmps11
    go_upto_region 1 with (fail)
    refine cu_rows1 (fun W hk hr hs => ?_)
    have HR := Lib.hid (show Row W w.heap.size 0 X from by simpa using hr); have HK := Lib.hid hk
    clear hk hr hs
    go_wp2_with (first | (refine wpList_load_at rfl 30 (.tmp 1) rfl w.heap.size 0 rfl _ _ (by first | exact HR.out | exact HR.out.keeps HK1.out) Tryd.underlying30 rfl ZK.out ?_) | (go_at_call 9; refine (HP.out _).mono ?_; rintro e W1 ⟨rfl, hk1⟩; have HK1 := Lib.hid hk1; clear hk1) | (go_at_call 20; refine (HS.out _).mono ?_; rintro e W2 ⟨rfl, hk2⟩; have HK2 := Lib.hid hk2; clear hk2) | (go_at_call 19; refine (HV.out _).mono ?_; rintro e W3 ⟨rfl, hk3⟩; have HK3 := Lib.hid hk3; clear hk3))
    go_ret
    exact ⟨rfl, ((HK.out.trans HK1.out).trans HK2.out).trans HK3.out⟩
  · rw [he]
    rw [decide_eq_false hx] at HP
    clear he hx HV HS
    generalize (unpN (x :: z)).isSome = KB at *
    go_enter Tryd.func11, Tryd.ntmps11
    go_upto_region 1 with (fail)
    refine cu_rows1 (fun W hk hr hs => ?_)
    have HR := Lib.hid (show Row W w.heap.size 0 X from by simpa using hr); have HK := Lib.hid hk
    have hlt : w.heap.size < W.heap.size := by omega
    clear hk hr hs
    go_wp2_with (first | (refine wpList_load_at rfl 30 (.tmp 1) rfl w.heap.size 0 rfl _ _ (by first | exact HR.out | exact HR.out.keeps HK1.out) Tryd.underlying30 rfl ZK.out ?_) | (go_at_call 9; refine (HP.out _).mono ?_; rintro e W1 ⟨rfl, hk1⟩; have HK1 := Lib.hid hk1; have HRD := Lib.hid (show Rd W1 1 (.slice (some ⟨w.heap.size, 38, none⟩) 33 33) 33 ((x :: z).map (Value.int .u8)) from Rd.of_row (HD.out _ _ (HR.out.keeps hk1)) (by rw [List.length_map, hdl]) (Nat.lt_of_lt_of_le hlt hk1.size) (Nat.le_refl _) (by unfold maxLen; omega)); clear hk1) | (go_at_call 21; refine (HI.out _ _ HRD.out).mono ?_; rintro e W3 ⟨rfl, hk3⟩; have HK3 := Lib.hid hk3; clear hk3))
    go_ret
    exact ⟨rfl, (HK.out.trans HK1.out).trans HK3.out⟩
end Go.Proofs.YtlofddoojkeakaaDoor
