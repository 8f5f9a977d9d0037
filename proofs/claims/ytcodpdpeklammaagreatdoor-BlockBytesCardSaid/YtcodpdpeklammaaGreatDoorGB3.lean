/- wire.try. -/
import Derived.Test.YtcodpdpeklammaaGreatDoorGB2
namespace Go.Proofs.YtcodpdpeklammaaGreatDoor
set_option linter.unusedVariables false
set_option linter.unusedSimpArgs false
open Go Go.RowKit
variable {B : Nat}
theorem SrcB.other {W : World} {g : Nat} {v : Value} {l : List Int} (h : SrcB B W g v l) {p : Addr} (hp : B ≤ p.block) (u : Value) : SrcB B (W.setCell p u) g v l := by
  have hs : (W.setCell p u).heap.size = W.heap.size := by simp
  rcases h with h | ⟨b, off, cap, h1, h2, h3, h4, h5, h6⟩
  · exact .inl h
  · exact .inr ⟨b, off, cap, h1, h2, h3, ⟨h4.1, by rw [hs]; exact h4.2⟩, h5, h6.other (by omega) u⟩
theorem RdAt.other {W : World} {g : Nat} {v : Value} {e : Int} {l : List Int} (h : RdAt B W g v e l) {p : Addr} (hp : B ≤ p.block) (hg : g ≠ p.block) (u : Value) : RdAt B (W.setCell p u) g v e l :=
  ⟨h.row.other hg u, h.src.other hp u, h.bytes, h.small⟩
/-- what try does -/
def TryP (B : Nat) {α : Type} (p : Rdr α) (enc : World → α → Value → Prop) (z : Value) (g : Nat) (v : Value) (e : Int) (l : List Int) (w : World) (r : Ending) (w' : World) : Prop :=
  Chg (· = g) w w' ∧ ((e ≠ 0 ∧ r = .returned z ∧ RdAt B w' g v e l) ∨
    (e = 0 ∧ ∃ x val v' l', p l = .ok (x, l') ∧ r = .returned val ∧ enc w' x val ∧ RdAt B w' g v' 0 l') ∨
    (e = 0 ∧ ∃ c, p l = .error c ∧ r = .returned z ∧ RdAt B w' g v c l))
set_option maxRecDepth 100000 in
set_option maxHeartbeats 1000000 in
theorem try64_done (fv : Value) (g : Nat) (ad : Option Addr) (sl sc : Nat) (e : Int) (he : e ≠ 0) (l : List Int) (w : World) (h : RdAt B w g (.slice ad sl sc) e l) (hlt : g < w.heap.size) (hB : B ≤ w.heap.size) :
    Calls Tryz.prog 64 #[.pointer (some ⟨g, 0, none⟩), fv] w fun r w' => r = .returned (.int .u64 0) ∧ Keeps w w' := by
  have hmf : ∀ (fn : Fn) (first cap : Array Value) (w : World), (Instr.makeFunc fn first cap).run Tryz.prog w = .ok (.func fn first cap) w := fun _ _ _ _ => rfl
  obtain ⟨c0, f0, c1, f1⟩ := h.cells
  clear h
  have q0 : g ≠ w.heap.size := by omega
  have q1 : g ≠ w.heap.size + 1 := by omega
  have q2 : g ≠ w.heap.size + 1 + 1 := by omega
  have k1 : g < w.heap.size + 1 := by omega
  have k2 : g < w.heap.size + 1 + 1 := by omega
  go_enter_defers Tryz.func64, Tryz.ntmps64
  go_wp2
  refine leaves_cons (f := 96) (args := #[.pointer (some ⟨w.heap.size + 1 + 1, 0, none⟩), .pointer (some ⟨w.heap.size, 0, none⟩), .pointer (some ⟨w.heap.size + 1, 0, none⟩)]) (by simp) (by simp [go_sem]) ?_
  refine (idle64 _ _ _ _).mono ?_
  rintro r u' w'' ⟨rfl, rfl, rfl⟩
  simp [Leaves, settle, results, Tryz.results64, go_sem]
  exact (((Keeps.refl w).alloc (Nat.le_refl _) _).alloc (by simp) _).alloc (by simp; omega) _
set_option maxRecDepth 100000 in
set_option maxHeartbeats 1000000 in
theorem try64_read {α : Type} (p : Rdr α) (enc : World → α → Value → Prop) (f g : Nat) (ad : Option Addr) (sl sc : Nat) (l : List Int) (w : World) (h : RdAt B w g (.slice ad sl sc) 0 l) (hlt : g < w.heap.size) (hB : B ≤ w.heap.size)
    (hf : ∀ W, RdAt B W g (.slice ad sl sc) 0 l → Keeps w W → W.heap.size = w.heap.size + 1 + 1 + 1 → Calls Tryz.prog f #[.pointer (some ⟨g, 0, none⟩)] W (ReadP B p enc g 0 l W))
    (hrun : ∀ args W, (callFunc f args).run Tryz.prog W = .ok (.enter f args) W)
    (hst : ∀ W u x v, enc W x v → enc (W.setCell ⟨w.heap.size + 1, 0, none⟩ u) x v) (hu : ∀ W x v, enc W x v → ∃ n, v = .int .u64 n) :
    Calls Tryz.prog 64 #[.pointer (some ⟨g, 0, none⟩), .func (.func f) #[] #[]] w (TryP B p enc (.int .u64 0) g (.slice ad sl sc) 0 l w) := by
  have hmf : ∀ (fn : Fn) (first cap : Array Value) (w : World), (Instr.makeFunc fn first cap).run Tryz.prog w = .ok (.func fn first cap) w := fun _ _ _ _ => rfl
  obtain ⟨c0, f0, c1, f1⟩ := h.cells
  have HH := Lib.hid h
  have HF := Lib.hid hf
  clear h hf
  have q0 : g ≠ w.heap.size := by omega
  have q1 : g ≠ w.heap.size + 1 := by omega
  have q2 : g ≠ w.heap.size + 1 + 1 := by omega
  have k1 : g < w.heap.size + 1 := by omega
  have k2 : g < w.heap.size + 1 + 1 := by omega
  go_enter_defers Tryz.func64, Tryz.ntmps64
  go_wp2
  have hk : Keeps w (((w.alloc (Obj.cells #[Value.pointer (some { block := g, off := 0 })] 66)).alloc (Obj.cells #[Value.int IntKind.u64 0] 61)).alloc (Obj.cells #[Value.slice ad sl sc] 32)) := (((Keeps.refl w).alloc (Nat.le_refl _) _).alloc (by simp) _).alloc (by simp; omega) _
  have b0 : Row (((w.alloc (Obj.cells #[Value.pointer (some { block := g, off := 0 })] 66)).alloc (Obj.cells #[Value.int IntKind.u64 0] 61)).alloc (Obj.cells #[Value.slice ad sl sc] 32)) w.heap.size 0 [.pointer (some ⟨g, 0, none⟩)] := ((Row.new (w := w) _ _ _ (by rfl)).alloc _).alloc _
  have b1 : Row (((w.alloc (Obj.cells #[Value.pointer (some { block := g, off := 0 })] 66)).alloc (Obj.cells #[Value.int IntKind.u64 0] 61)).alloc (Obj.cells #[Value.slice ad sl sc] 32)) (w.heap.size + 1) 0 [.int .u64 0] := by
    have := (Row.new (w := w.alloc (Obj.cells #[Value.pointer (some { block := g, off := 0 })] 66)) [.int .u64 0] _ 61 rfl).alloc (Obj.cells #[Value.slice ad sl sc] 32)
    simpa using this
  have b2 : Row (((w.alloc (Obj.cells #[Value.pointer (some { block := g, off := 0 })] 66)).alloc (Obj.cells #[Value.int IntKind.u64 0] 61)).alloc (Obj.cells #[Value.slice ad sl sc] 32)) (w.heap.size + 1 + 1) 0 [.slice ad sl sc] := by
    have := Row.new (w := (w.alloc (Obj.cells #[Value.pointer (some { block := g, off := 0 })] 66)).alloc (Obj.cells #[Value.int IntKind.u64 0] 61)) [.slice ad sl sc] _ 32 rfl
    simpa using this
  refine (HF.out _ (HH.out.keeps hk) hk (by simp)).mono ?_
  generalize ((w.alloc (Obj.cells #[Value.pointer (some { block := g, off := 0 })] 66)).alloc (Obj.cells #[Value.int IntKind.u64 0] 61)).alloc (Obj.cells #[Value.slice ad sl sc] 32) = W0 at *
  rintro r W1 ⟨v', l', hr, hc, hcase⟩
  have b0 := b0.chg hc (fun e => q0 e.symm)
  have b1 := b1.chg hc (fun e => q1 e.symm)
  have b2 := b2.chg hc (fun e => q2 e.symm)
  have d0 := (b0 0 _ rfl).1
  have d1 := (b1 0 _ rfl).1
  have e1 := (b1 0 _ rfl).2
  have d2 := (b2 0 _ rfl).1
  simp only [Nat.zero_add] at d0 d1 e1 d2
  have hck : Chg (· = g) w W1 := (hk.chg _).trans hc
  rcases hcase with ⟨x, val, hp, rfl, he⟩ | ⟨c, hp, rfl⟩
  · obtain ⟨n, rfl⟩ := hu _ _ _ he
    have HX := Lib.hid (And.intro hr (And.intro hck (And.intro he hst)))
    clear hr hc he hst hu hk b0 b1 b2 hck
    go_wp2
    refine leaves_cons (f := 96) (args := #[.pointer (some ⟨w.heap.size + 1 + 1, 0, none⟩), .pointer (some ⟨w.heap.size, 0, none⟩), .pointer (some ⟨w.heap.size + 1, 0, none⟩)]) (by simp) (by simp [go_sem]) ?_
    refine (idle64 _ _ _ _).mono ?_
    rintro r u' w'' ⟨rfl, rfl, rfl⟩
    simp only [Leaves, settle]
    refine ⟨.int .u64 n, ?_, ?_⟩
    · simp [results, Tryz.results64, go_sem, d1, e1]
    · obtain ⟨hr, hck, he, hst⟩ := HX.out
      exact ⟨hck.setCell (.inl (by simp)) _, .inr (.inl ⟨rfl, x, _, v', l', hp, rfl, hst _ _ _ _ he, hr.other (by show B ≤ w.heap.size + 1; omega) q1 _⟩)⟩
  · have HX := Lib.hid (And.intro hr (And.intro hck (And.intro b0 (And.intro b1 b2))))
    clear hst hu hk hrun
    refine leaves_cons (f := 96) (args := #[.pointer (some ⟨w.heap.size + 1 + 1, 0, none⟩), .pointer (some ⟨w.heap.size, 0, none⟩), .pointer (some ⟨w.heap.size + 1, 0, none⟩)]) (by simp) (by simp [go_sem]) ?_
    refine (catch64 g w.heap.size (w.heap.size + 1) (w.heap.size + 1 + 1) ad sl sc v' 0 c 0 W1 d2 d0 hr.row b1 (fun e => q1 e.symm) (fun e => q0 e.symm) (fun e => q2 e.symm)).mono ?_
    rintro r u' w'' ⟨rfl, rfl, rfl⟩
    simp only [Leaves, settle, recD]
    refine ⟨.int .u64 0, ?_, ?_⟩
    · have z1 : ¬ w.heap.size + 1 = g := fun e => q1 e.symm
      simp [results, Tryz.results64, go_sem, d1, e1, z1]
    · have hr2 : RdAt B ((W1.setCell ⟨g, 0, none⟩ (.slice ad sl sc)).setCell ⟨g, 1, none⟩ (.int .i64 c)) g (.slice ad sl sc) c l := by
        have h1 := (hr.row.set 0 (by simp) (.slice ad sl sc)).set 1 (by simp) (.int .i64 c)
        have h2 := ((HH.out.src.chg (hck)).chg (setg W1 g (.slice ad sl sc))).chg (Chg.setCell (p := ⟨g, 1, none⟩) (Chg.refl (· = g) _) (.inr rfl) (.int .i64 c))
        exact ⟨by simpa using h1, h2, HH.out.bytes, HH.out.small⟩
      refine ⟨((hck.trans (setg _ _ _)).trans (Chg.setCell (p := ⟨g, 1, none⟩) (Chg.refl (· = g) _) (.inr rfl) _)).setCell (.inl (by simp)) _, .inr (.inr ⟨rfl, c, hp, rfl, hr2.other (by show B ≤ w.heap.size + 1; omega) q1 _⟩)⟩
set_option maxRecDepth 100000 in
set_option maxHeartbeats 1000000 in
theorem try32_done (fv : Value) (g : Nat) (ad : Option Addr) (sl sc : Nat) (e : Int) (he : e ≠ 0) (l : List Int) (w : World) (h : RdAt B w g (.slice ad sl sc) e l) (hlt : g < w.heap.size) (hB : B ≤ w.heap.size) :
    Calls Tryz.prog 85 #[.pointer (some ⟨g, 0, none⟩), fv] w fun r w' => r = .returned (.int .u32 0) ∧ Keeps w w' := by
  have hmf : ∀ (fn : Fn) (first cap : Array Value) (w : World), (Instr.makeFunc fn first cap).run Tryz.prog w = .ok (.func fn first cap) w := fun _ _ _ _ => rfl
  obtain ⟨c0, f0, c1, f1⟩ := h.cells
  clear h
  have q0 : g ≠ w.heap.size := by omega
  have q1 : g ≠ w.heap.size + 1 := by omega
  have q2 : g ≠ w.heap.size + 1 + 1 := by omega
  have k1 : g < w.heap.size + 1 := by omega
  have k2 : g < w.heap.size + 1 + 1 := by omega
  go_enter_defers Tryz.func85, Tryz.ntmps85
  go_wp2
  refine leaves_cons (f := 116) (args := #[.pointer (some ⟨w.heap.size + 1 + 1, 0, none⟩), .pointer (some ⟨w.heap.size, 0, none⟩), .pointer (some ⟨w.heap.size + 1, 0, none⟩)]) (by simp) (by simp [go_sem]) ?_
  refine (idle32 _ _ _ _).mono ?_
  rintro r u' w'' ⟨rfl, rfl, rfl⟩
  simp [Leaves, settle, results, Tryz.results85, go_sem]
  exact (((Keeps.refl w).alloc (Nat.le_refl _) _).alloc (by simp) _).alloc (by simp; omega) _
set_option maxRecDepth 100000 in
set_option maxHeartbeats 1000000 in
theorem try32_read {α : Type} (p : Rdr α) (enc : World → α → Value → Prop) (f g : Nat) (ad : Option Addr) (sl sc : Nat) (l : List Int) (w : World) (h : RdAt B w g (.slice ad sl sc) 0 l) (hlt : g < w.heap.size) (hB : B ≤ w.heap.size)
    (hf : ∀ W, RdAt B W g (.slice ad sl sc) 0 l → Keeps w W → W.heap.size = w.heap.size + 1 + 1 + 1 → Calls Tryz.prog f #[.pointer (some ⟨g, 0, none⟩)] W (ReadP B p enc g 0 l W))
    (hrun : ∀ args W, (callFunc f args).run Tryz.prog W = .ok (.enter f args) W)
    (hst : ∀ W u x v, enc W x v → enc (W.setCell ⟨w.heap.size + 1, 0, none⟩ u) x v) (hu : ∀ W x v, enc W x v → ∃ n, v = .int .u32 n) :
    Calls Tryz.prog 85 #[.pointer (some ⟨g, 0, none⟩), .func (.func f) #[] #[]] w (TryP B p enc (.int .u32 0) g (.slice ad sl sc) 0 l w) := by
  have hmf : ∀ (fn : Fn) (first cap : Array Value) (w : World), (Instr.makeFunc fn first cap).run Tryz.prog w = .ok (.func fn first cap) w := fun _ _ _ _ => rfl
  obtain ⟨c0, f0, c1, f1⟩ := h.cells
  have HH := Lib.hid h
  have HF := Lib.hid hf
  clear h hf
  have q0 : g ≠ w.heap.size := by omega
  have q1 : g ≠ w.heap.size + 1 := by omega
  have q2 : g ≠ w.heap.size + 1 + 1 := by omega
  have k1 : g < w.heap.size + 1 := by omega
  have k2 : g < w.heap.size + 1 + 1 := by omega
  go_enter_defers Tryz.func85, Tryz.ntmps85
  go_wp2
  have hk : Keeps w (((w.alloc (Obj.cells #[Value.pointer (some { block := g, off := 0 })] 66)).alloc (Obj.cells #[Value.int IntKind.u32 0] 24)).alloc (Obj.cells #[Value.slice ad sl sc] 32)) := (((Keeps.refl w).alloc (Nat.le_refl _) _).alloc (by simp) _).alloc (by simp; omega) _
  have b0 : Row (((w.alloc (Obj.cells #[Value.pointer (some { block := g, off := 0 })] 66)).alloc (Obj.cells #[Value.int IntKind.u32 0] 24)).alloc (Obj.cells #[Value.slice ad sl sc] 32)) w.heap.size 0 [.pointer (some ⟨g, 0, none⟩)] := ((Row.new (w := w) _ _ _ (by rfl)).alloc _).alloc _
  have b1 : Row (((w.alloc (Obj.cells #[Value.pointer (some { block := g, off := 0 })] 66)).alloc (Obj.cells #[Value.int IntKind.u32 0] 24)).alloc (Obj.cells #[Value.slice ad sl sc] 32)) (w.heap.size + 1) 0 [.int .u32 0] := by
    have := (Row.new (w := w.alloc (Obj.cells #[Value.pointer (some { block := g, off := 0 })] 66)) [.int .u32 0] _ 24 rfl).alloc (Obj.cells #[Value.slice ad sl sc] 32)
    simpa using this
  have b2 : Row (((w.alloc (Obj.cells #[Value.pointer (some { block := g, off := 0 })] 66)).alloc (Obj.cells #[Value.int IntKind.u32 0] 24)).alloc (Obj.cells #[Value.slice ad sl sc] 32)) (w.heap.size + 1 + 1) 0 [.slice ad sl sc] := by
    have := Row.new (w := (w.alloc (Obj.cells #[Value.pointer (some { block := g, off := 0 })] 66)).alloc (Obj.cells #[Value.int IntKind.u32 0] 24)) [.slice ad sl sc] _ 32 rfl
    simpa using this
  refine (HF.out _ (HH.out.keeps hk) hk (by simp)).mono ?_
  generalize ((w.alloc (Obj.cells #[Value.pointer (some { block := g, off := 0 })] 66)).alloc (Obj.cells #[Value.int IntKind.u32 0] 24)).alloc (Obj.cells #[Value.slice ad sl sc] 32) = W0 at *
  rintro r W1 ⟨v', l', hr, hc, hcase⟩
  have b0 := b0.chg hc (fun e => q0 e.symm)
  have b1 := b1.chg hc (fun e => q1 e.symm)
  have b2 := b2.chg hc (fun e => q2 e.symm)
  have d0 := (b0 0 _ rfl).1
  have d1 := (b1 0 _ rfl).1
  have e1 := (b1 0 _ rfl).2
  have d2 := (b2 0 _ rfl).1
  simp only [Nat.zero_add] at d0 d1 e1 d2
  have hck : Chg (· = g) w W1 := (hk.chg _).trans hc
  rcases hcase with ⟨x, val, hp, rfl, he⟩ | ⟨c, hp, rfl⟩
  · obtain ⟨n, rfl⟩ := hu _ _ _ he
    have HX := Lib.hid (And.intro hr (And.intro hck (And.intro he hst)))
    clear hr hc he hst hu hk b0 b1 b2 hck
    go_wp2
    refine leaves_cons (f := 116) (args := #[.pointer (some ⟨w.heap.size + 1 + 1, 0, none⟩), .pointer (some ⟨w.heap.size, 0, none⟩), .pointer (some ⟨w.heap.size + 1, 0, none⟩)]) (by simp) (by simp [go_sem]) ?_
    refine (idle32 _ _ _ _).mono ?_
    rintro r u' w'' ⟨rfl, rfl, rfl⟩
    simp only [Leaves, settle]
    refine ⟨.int .u32 n, ?_, ?_⟩
    · simp [results, Tryz.results85, go_sem, d1, e1]
    · obtain ⟨hr, hck, he, hst⟩ := HX.out
      exact ⟨hck.setCell (.inl (by simp)) _, .inr (.inl ⟨rfl, x, _, v', l', hp, rfl, hst _ _ _ _ he, hr.other (by show B ≤ w.heap.size + 1; omega) q1 _⟩)⟩
  · have HX := Lib.hid (And.intro hr (And.intro hck (And.intro b0 (And.intro b1 b2))))
    clear hst hu hk hrun
    refine leaves_cons (f := 116) (args := #[.pointer (some ⟨w.heap.size + 1 + 1, 0, none⟩), .pointer (some ⟨w.heap.size, 0, none⟩), .pointer (some ⟨w.heap.size + 1, 0, none⟩)]) (by simp) (by simp [go_sem]) ?_
    refine (catch32 g w.heap.size (w.heap.size + 1) (w.heap.size + 1 + 1) ad sl sc v' 0 c 0 W1 d2 d0 hr.row b1 (fun e => q1 e.symm) (fun e => q0 e.symm) (fun e => q2 e.symm)).mono ?_
    rintro r u' w'' ⟨rfl, rfl, rfl⟩
    simp only [Leaves, settle, recD]
    refine ⟨.int .u32 0, ?_, ?_⟩
    · have z1 : ¬ w.heap.size + 1 = g := fun e => q1 e.symm
      simp [results, Tryz.results85, go_sem, d1, e1, z1]
    · have hr2 : RdAt B ((W1.setCell ⟨g, 0, none⟩ (.slice ad sl sc)).setCell ⟨g, 1, none⟩ (.int .i64 c)) g (.slice ad sl sc) c l := by
        have h1 := (hr.row.set 0 (by simp) (.slice ad sl sc)).set 1 (by simp) (.int .i64 c)
        have h2 := ((HH.out.src.chg (hck)).chg (setg W1 g (.slice ad sl sc))).chg (Chg.setCell (p := ⟨g, 1, none⟩) (Chg.refl (· = g) _) (.inr rfl) (.int .i64 c))
        exact ⟨by simpa using h1, h2, HH.out.bytes, HH.out.small⟩
      refine ⟨((hck.trans (setg _ _ _)).trans (Chg.setCell (p := ⟨g, 1, none⟩) (Chg.refl (· = g) _) (.inr rfl) _)).setCell (.inl (by simp)) _, .inr (.inr ⟨rfl, c, hp, rfl, hr2.other (by show B ≤ w.heap.size + 1; omega) q1 _⟩)⟩
set_option maxRecDepth 100000 in
set_option maxHeartbeats 1000000 in
theorem try8_done (fv : Value) (g : Nat) (ad : Option Addr) (sl sc : Nat) (e : Int) (he : e ≠ 0) (l : List Int) (w : World) (h : RdAt B w g (.slice ad sl sc) e l) (hlt : g < w.heap.size) (hB : B ≤ w.heap.size) :
    Calls Tryz.prog 120 #[.pointer (some ⟨g, 0, none⟩), fv] w fun r w' => r = .returned (.int .u8 0) ∧ Keeps w w' := by
  have hmf : ∀ (fn : Fn) (first cap : Array Value) (w : World), (Instr.makeFunc fn first cap).run Tryz.prog w = .ok (.func fn first cap) w := fun _ _ _ _ => rfl
  obtain ⟨c0, f0, c1, f1⟩ := h.cells
  clear h
  have q0 : g ≠ w.heap.size := by omega
  have q1 : g ≠ w.heap.size + 1 := by omega
  have q2 : g ≠ w.heap.size + 1 + 1 := by omega
  have k1 : g < w.heap.size + 1 := by omega
  have k2 : g < w.heap.size + 1 + 1 := by omega
  go_enter_defers Tryz.func120, Tryz.ntmps120
  go_wp2
  refine leaves_cons (f := 125) (args := #[.pointer (some ⟨w.heap.size + 1 + 1, 0, none⟩), .pointer (some ⟨w.heap.size, 0, none⟩), .pointer (some ⟨w.heap.size + 1, 0, none⟩)]) (by simp) (by simp [go_sem]) ?_
  refine (idle8 _ _ _ _).mono ?_
  rintro r u' w'' ⟨rfl, rfl, rfl⟩
  simp [Leaves, settle, results, Tryz.results120, go_sem]
  exact (((Keeps.refl w).alloc (Nat.le_refl _) _).alloc (by simp) _).alloc (by simp; omega) _
set_option maxRecDepth 100000 in
set_option maxHeartbeats 1000000 in
theorem try8_read {α : Type} (p : Rdr α) (enc : World → α → Value → Prop) (f g : Nat) (ad : Option Addr) (sl sc : Nat) (l : List Int) (w : World) (h : RdAt B w g (.slice ad sl sc) 0 l) (hlt : g < w.heap.size) (hB : B ≤ w.heap.size)
    (hf : ∀ W, RdAt B W g (.slice ad sl sc) 0 l → Keeps w W → W.heap.size = w.heap.size + 1 + 1 + 1 → Calls Tryz.prog f #[.pointer (some ⟨g, 0, none⟩)] W (ReadP B p enc g 0 l W))
    (hrun : ∀ args W, (callFunc f args).run Tryz.prog W = .ok (.enter f args) W)
    (hst : ∀ W u x v, enc W x v → enc (W.setCell ⟨w.heap.size + 1, 0, none⟩ u) x v) (hu : ∀ W x v, enc W x v → ∃ n, v = .int .u8 n) :
    Calls Tryz.prog 120 #[.pointer (some ⟨g, 0, none⟩), .func (.func f) #[] #[]] w (TryP B p enc (.int .u8 0) g (.slice ad sl sc) 0 l w) := by
  have hmf : ∀ (fn : Fn) (first cap : Array Value) (w : World), (Instr.makeFunc fn first cap).run Tryz.prog w = .ok (.func fn first cap) w := fun _ _ _ _ => rfl
  obtain ⟨c0, f0, c1, f1⟩ := h.cells
  have HH := Lib.hid h
  have HF := Lib.hid hf
  clear h hf
  have q0 : g ≠ w.heap.size := by omega
  have q1 : g ≠ w.heap.size + 1 := by omega
  have q2 : g ≠ w.heap.size + 1 + 1 := by omega
  have k1 : g < w.heap.size + 1 := by omega
  have k2 : g < w.heap.size + 1 + 1 := by omega
  go_enter_defers Tryz.func120, Tryz.ntmps120
  go_wp2
  have hk : Keeps w (((w.alloc (Obj.cells #[Value.pointer (some { block := g, off := 0 })] 66)).alloc (Obj.cells #[Value.int IntKind.u8 0] 5)).alloc (Obj.cells #[Value.slice ad sl sc] 32)) := (((Keeps.refl w).alloc (Nat.le_refl _) _).alloc (by simp) _).alloc (by simp; omega) _
  have b0 : Row (((w.alloc (Obj.cells #[Value.pointer (some { block := g, off := 0 })] 66)).alloc (Obj.cells #[Value.int IntKind.u8 0] 5)).alloc (Obj.cells #[Value.slice ad sl sc] 32)) w.heap.size 0 [.pointer (some ⟨g, 0, none⟩)] := ((Row.new (w := w) _ _ _ (by rfl)).alloc _).alloc _
  have b1 : Row (((w.alloc (Obj.cells #[Value.pointer (some { block := g, off := 0 })] 66)).alloc (Obj.cells #[Value.int IntKind.u8 0] 5)).alloc (Obj.cells #[Value.slice ad sl sc] 32)) (w.heap.size + 1) 0 [.int .u8 0] := by
    have := (Row.new (w := w.alloc (Obj.cells #[Value.pointer (some { block := g, off := 0 })] 66)) [.int .u8 0] _ 5 rfl).alloc (Obj.cells #[Value.slice ad sl sc] 32)
    simpa using this
  have b2 : Row (((w.alloc (Obj.cells #[Value.pointer (some { block := g, off := 0 })] 66)).alloc (Obj.cells #[Value.int IntKind.u8 0] 5)).alloc (Obj.cells #[Value.slice ad sl sc] 32)) (w.heap.size + 1 + 1) 0 [.slice ad sl sc] := by
    have := Row.new (w := (w.alloc (Obj.cells #[Value.pointer (some { block := g, off := 0 })] 66)).alloc (Obj.cells #[Value.int IntKind.u8 0] 5)) [.slice ad sl sc] _ 32 rfl
    simpa using this
  refine (HF.out _ (HH.out.keeps hk) hk (by simp)).mono ?_
  generalize ((w.alloc (Obj.cells #[Value.pointer (some { block := g, off := 0 })] 66)).alloc (Obj.cells #[Value.int IntKind.u8 0] 5)).alloc (Obj.cells #[Value.slice ad sl sc] 32) = W0 at *
  rintro r W1 ⟨v', l', hr, hc, hcase⟩
  have b0 := b0.chg hc (fun e => q0 e.symm)
  have b1 := b1.chg hc (fun e => q1 e.symm)
  have b2 := b2.chg hc (fun e => q2 e.symm)
  have d0 := (b0 0 _ rfl).1
  have d1 := (b1 0 _ rfl).1
  have e1 := (b1 0 _ rfl).2
  have d2 := (b2 0 _ rfl).1
  simp only [Nat.zero_add] at d0 d1 e1 d2
  have hck : Chg (· = g) w W1 := (hk.chg _).trans hc
  rcases hcase with ⟨x, val, hp, rfl, he⟩ | ⟨c, hp, rfl⟩
  · obtain ⟨n, rfl⟩ := hu _ _ _ he
    have HX := Lib.hid (And.intro hr (And.intro hck (And.intro he hst)))
    clear hr hc he hst hu hk b0 b1 b2 hck
    go_wp2
    refine leaves_cons (f := 125) (args := #[.pointer (some ⟨w.heap.size + 1 + 1, 0, none⟩), .pointer (some ⟨w.heap.size, 0, none⟩), .pointer (some ⟨w.heap.size + 1, 0, none⟩)]) (by simp) (by simp [go_sem]) ?_
    refine (idle8 _ _ _ _).mono ?_
    rintro r u' w'' ⟨rfl, rfl, rfl⟩
    simp only [Leaves, settle]
    refine ⟨.int .u8 n, ?_, ?_⟩
    · simp [results, Tryz.results120, go_sem, d1, e1]
    · obtain ⟨hr, hck, he, hst⟩ := HX.out
      exact ⟨hck.setCell (.inl (by simp)) _, .inr (.inl ⟨rfl, x, _, v', l', hp, rfl, hst _ _ _ _ he, hr.other (by show B ≤ w.heap.size + 1; omega) q1 _⟩)⟩
  · have HX := Lib.hid (And.intro hr (And.intro hck (And.intro b0 (And.intro b1 b2))))
    clear hst hu hk hrun
    refine leaves_cons (f := 125) (args := #[.pointer (some ⟨w.heap.size + 1 + 1, 0, none⟩), .pointer (some ⟨w.heap.size, 0, none⟩), .pointer (some ⟨w.heap.size + 1, 0, none⟩)]) (by simp) (by simp [go_sem]) ?_
    refine (catch8 g w.heap.size (w.heap.size + 1) (w.heap.size + 1 + 1) ad sl sc v' 0 c 0 W1 d2 d0 hr.row b1 (fun e => q1 e.symm) (fun e => q0 e.symm) (fun e => q2 e.symm)).mono ?_
    rintro r u' w'' ⟨rfl, rfl, rfl⟩
    simp only [Leaves, settle, recD]
    refine ⟨.int .u8 0, ?_, ?_⟩
    · have z1 : ¬ w.heap.size + 1 = g := fun e => q1 e.symm
      simp [results, Tryz.results120, go_sem, d1, e1, z1]
    · have hr2 : RdAt B ((W1.setCell ⟨g, 0, none⟩ (.slice ad sl sc)).setCell ⟨g, 1, none⟩ (.int .i64 c)) g (.slice ad sl sc) c l := by
        have h1 := (hr.row.set 0 (by simp) (.slice ad sl sc)).set 1 (by simp) (.int .i64 c)
        have h2 := ((HH.out.src.chg (hck)).chg (setg W1 g (.slice ad sl sc))).chg (Chg.setCell (p := ⟨g, 1, none⟩) (Chg.refl (· = g) _) (.inr rfl) (.int .i64 c))
        exact ⟨by simpa using h1, h2, HH.out.bytes, HH.out.small⟩
      refine ⟨((hck.trans (setg _ _ _)).trans (Chg.setCell (p := ⟨g, 1, none⟩) (Chg.refl (· = g) _) (.inr rfl) _)).setCell (.inl (by simp)) _, .inr (.inr ⟨rfl, c, hp, rfl, hr2.other (by show B ≤ w.heap.size + 1; omega) q1 _⟩)⟩
set_option maxRecDepth 100000 in
set_option maxHeartbeats 1000000 in
theorem tryB_done (fv : Value) (g : Nat) (ad : Option Addr) (sl sc : Nat) (e : Int) (he : e ≠ 0) (l : List Int) (w : World) (h : RdAt B w g (.slice ad sl sc) e l) (hlt : g < w.heap.size) (hB : B ≤ w.heap.size) :
    Calls Tryz.prog 66 #[.pointer (some ⟨g, 0, none⟩), fv] w fun r w' => r = .returned (.slice none 0 0) ∧ Keeps w w' := by
  have hmf : ∀ (fn : Fn) (first cap : Array Value) (w : World), (Instr.makeFunc fn first cap).run Tryz.prog w = .ok (.func fn first cap) w := fun _ _ _ _ => rfl
  obtain ⟨c0, f0, c1, f1⟩ := h.cells
  clear h
  have q0 : g ≠ w.heap.size := by omega
  have q1 : g ≠ w.heap.size + 1 := by omega
  have q2 : g ≠ w.heap.size + 1 + 1 := by omega
  have k1 : g < w.heap.size + 1 := by omega
  have k2 : g < w.heap.size + 1 + 1 := by omega
  go_enter_defers Tryz.func66, Tryz.ntmps66
  go_wp2
  refine leaves_cons (f := 98) (args := #[.pointer (some ⟨w.heap.size + 1 + 1, 0, none⟩), .pointer (some ⟨w.heap.size, 0, none⟩), .pointer (some ⟨w.heap.size + 1, 0, none⟩)]) (by simp) (by simp [go_sem]) ?_
  refine (idleB _ _ _ _).mono ?_
  rintro r u' w'' ⟨rfl, rfl, rfl⟩
  simp [Leaves, settle, results, Tryz.results66, go_sem]
  exact (((Keeps.refl w).alloc (Nat.le_refl _) _).alloc (by simp) _).alloc (by simp; omega) _
set_option maxRecDepth 100000 in
set_option maxHeartbeats 1000000 in
theorem tryB_read {α : Type} (p : Rdr α) (enc : World → α → Value → Prop) (f g : Nat) (cp : Value) (ad : Option Addr) (sl sc : Nat) (l : List Int) (w : World) (h : RdAt B w g (.slice ad sl sc) 0 l) (hlt : g < w.heap.size) (hB : B ≤ w.heap.size)
    (hf : ∀ W, RdAt B W g (.slice ad sl sc) 0 l → Keeps w W → W.heap.size = w.heap.size + 1 + 1 + 1 → Calls Tryz.prog f #[.pointer (some ⟨g, 0, none⟩), cp] W (ReadP B p enc g 0 l W))
    (hrun : ∀ args W, (callFunc f args).run Tryz.prog W = .ok (.enter f args) W)
    (hst : ∀ W u x v, enc W x v → enc (W.setCell ⟨w.heap.size + 1, 0, none⟩ u) x v) (hu : ∀ W x v, enc W x v → ∃ n m k, v = .slice n m k) :
    Calls Tryz.prog 66 #[.pointer (some ⟨g, 0, none⟩), .func (.func f) #[] #[cp]] w (TryP B p enc (.slice none 0 0) g (.slice ad sl sc) 0 l w) := by
  have hmf : ∀ (fn : Fn) (first cap : Array Value) (w : World), (Instr.makeFunc fn first cap).run Tryz.prog w = .ok (.func fn first cap) w := fun _ _ _ _ => rfl
  obtain ⟨c0, f0, c1, f1⟩ := h.cells
  have HH := Lib.hid h
  have HF := Lib.hid hf
  clear h hf
  have q0 : g ≠ w.heap.size := by omega
  have q1 : g ≠ w.heap.size + 1 := by omega
  have q2 : g ≠ w.heap.size + 1 + 1 := by omega
  have k1 : g < w.heap.size + 1 := by omega
  have k2 : g < w.heap.size + 1 + 1 := by omega
  go_enter_defers Tryz.func66, Tryz.ntmps66
  go_wp2
  have hk : Keeps w (((w.alloc (Obj.cells #[Value.pointer (some { block := g, off := 0 })] 66)).alloc (Obj.cells #[Value.slice none 0 0] 32)).alloc (Obj.cells #[Value.slice ad sl sc] 32)) := (((Keeps.refl w).alloc (Nat.le_refl _) _).alloc (by simp) _).alloc (by simp; omega) _
  have b0 : Row (((w.alloc (Obj.cells #[Value.pointer (some { block := g, off := 0 })] 66)).alloc (Obj.cells #[Value.slice none 0 0] 32)).alloc (Obj.cells #[Value.slice ad sl sc] 32)) w.heap.size 0 [.pointer (some ⟨g, 0, none⟩)] := ((Row.new (w := w) _ _ _ (by rfl)).alloc _).alloc _
  have b1 : Row (((w.alloc (Obj.cells #[Value.pointer (some { block := g, off := 0 })] 66)).alloc (Obj.cells #[Value.slice none 0 0] 32)).alloc (Obj.cells #[Value.slice ad sl sc] 32)) (w.heap.size + 1) 0 [.slice none 0 0] := by
    have := (Row.new (w := w.alloc (Obj.cells #[Value.pointer (some { block := g, off := 0 })] 66)) [.slice none 0 0] _ 32 rfl).alloc (Obj.cells #[Value.slice ad sl sc] 32)
    simpa using this
  have b2 : Row (((w.alloc (Obj.cells #[Value.pointer (some { block := g, off := 0 })] 66)).alloc (Obj.cells #[Value.slice none 0 0] 32)).alloc (Obj.cells #[Value.slice ad sl sc] 32)) (w.heap.size + 1 + 1) 0 [.slice ad sl sc] := by
    have := Row.new (w := (w.alloc (Obj.cells #[Value.pointer (some { block := g, off := 0 })] 66)).alloc (Obj.cells #[Value.slice none 0 0] 32)) [.slice ad sl sc] _ 32 rfl
    simpa using this
  refine (HF.out _ (HH.out.keeps hk) hk (by simp)).mono ?_
  generalize ((w.alloc (Obj.cells #[Value.pointer (some { block := g, off := 0 })] 66)).alloc (Obj.cells #[Value.slice none 0 0] 32)).alloc (Obj.cells #[Value.slice ad sl sc] 32) = W0 at *
  rintro r W1 ⟨v', l', hr, hc, hcase⟩
  have b0 := b0.chg hc (fun e => q0 e.symm)
  have b1 := b1.chg hc (fun e => q1 e.symm)
  have b2 := b2.chg hc (fun e => q2 e.symm)
  have d0 := (b0 0 _ rfl).1
  have d1 := (b1 0 _ rfl).1
  have e1 := (b1 0 _ rfl).2
  have d2 := (b2 0 _ rfl).1
  simp only [Nat.zero_add] at d0 d1 e1 d2
  have hck : Chg (· = g) w W1 := (hk.chg _).trans hc
  rcases hcase with ⟨x, val, hp, rfl, he⟩ | ⟨c, hp, rfl⟩
  · obtain ⟨n, m, k, rfl⟩ := hu _ _ _ he
    have HX := Lib.hid (And.intro hr (And.intro hck (And.intro he hst)))
    clear hr hc he hst hu hk b0 b1 b2 hck
    go_wp2
    refine leaves_cons (f := 98) (args := #[.pointer (some ⟨w.heap.size + 1 + 1, 0, none⟩), .pointer (some ⟨w.heap.size, 0, none⟩), .pointer (some ⟨w.heap.size + 1, 0, none⟩)]) (by simp) (by simp [go_sem]) ?_
    refine (idleB _ _ _ _).mono ?_
    rintro r u' w'' ⟨rfl, rfl, rfl⟩
    simp only [Leaves, settle]
    refine ⟨.slice n m k, ?_, ?_⟩
    · simp [results, Tryz.results66, go_sem, d1, e1]
    · obtain ⟨hr, hck, he, hst⟩ := HX.out
      exact ⟨hck.setCell (.inl (by simp)) _, .inr (.inl ⟨rfl, x, _, v', l', hp, rfl, hst _ _ _ _ he, hr.other (by show B ≤ w.heap.size + 1; omega) q1 _⟩)⟩
  · have HX := Lib.hid (And.intro hr (And.intro hck (And.intro b0 (And.intro b1 b2))))
    clear hst hu hk hrun
    refine leaves_cons (f := 98) (args := #[.pointer (some ⟨w.heap.size + 1 + 1, 0, none⟩), .pointer (some ⟨w.heap.size, 0, none⟩), .pointer (some ⟨w.heap.size + 1, 0, none⟩)]) (by simp) (by simp [go_sem]) ?_
    refine (catchB g w.heap.size (w.heap.size + 1) (w.heap.size + 1 + 1) ad sl sc v' (.slice none 0 0) 0 c W1 d2 d0 hr.row b1 (fun e => q1 e.symm) (fun e => q0 e.symm) (fun e => q2 e.symm)).mono ?_
    rintro r u' w'' ⟨rfl, rfl, rfl⟩
    simp only [Leaves, settle, recD]
    refine ⟨.slice none 0 0, ?_, ?_⟩
    · have z1 : ¬ w.heap.size + 1 = g := fun e => q1 e.symm
      simp [results, Tryz.results66, go_sem, d1, e1, z1]
    · have hr2 : RdAt B ((W1.setCell ⟨g, 0, none⟩ (.slice ad sl sc)).setCell ⟨g, 1, none⟩ (.int .i64 c)) g (.slice ad sl sc) c l := by
        have h1 := (hr.row.set 0 (by simp) (.slice ad sl sc)).set 1 (by simp) (.int .i64 c)
        have h2 := ((HH.out.src.chg (hck)).chg (setg W1 g (.slice ad sl sc))).chg (Chg.setCell (p := ⟨g, 1, none⟩) (Chg.refl (· = g) _) (.inr rfl) (.int .i64 c))
        exact ⟨by simpa using h1, h2, HH.out.bytes, HH.out.small⟩
      refine ⟨((hck.trans (setg _ _ _)).trans (Chg.setCell (p := ⟨g, 1, none⟩) (Chg.refl (· = g) _) (.inr rfl) _)).setCell (.inl (by simp)) _, .inr (.inr ⟨rfl, c, hp, rfl, hr2.other (by show B ≤ w.heap.size + 1; omega) q1 _⟩)⟩
end Go.Proofs.YtcodpdpeklammaaGreatDoor
