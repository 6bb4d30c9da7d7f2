/-
  Two disks that the call itself made, and blocks beside them.
-/
import Derived.Test.YtndpmjanflahhaaKp1
import Derived.Test.YtndpmjanflahhaaKp2
namespace Go.Proofs.Ytndpmjanflahhaa
open Go.RowKit Go.MapKept

/-- Two disks apart; the blocks O are neither's, and hold this. -/
def Two (w0 : World) (a : Nat) (D : DiskA) (b : Nat) (E : DiskA) (O : Nat → Option Obj) (w : World) : Prop :=
  ∃ F G : Nat → Prop, IsDisk w a D F ∧ IsDisk w b E G ∧ (∀ k, F k → ¬ G k) ∧ (∀ k, F k ∨ G k → w0.heap.size ≤ k) ∧ (∀ k o, O k = some o → w.heap[k]? = some o ∧ ¬ F k ∧ ¬ G k) ∧ Below w0.heap.size w0 w
theorem Two.symm {w0 w : World} {a b : Nat} {D E : DiskA} {O : Nat → Option Obj} (h : Two w0 a D b E O w) : Two w0 b E a D O w := by
  obtain ⟨F, G, h1, h2, h3, h4, h5, h6⟩ := h
  exact ⟨G, F, h2, h1, fun k hk hf => h3 k hf hk, fun k hk => h4 k hk.symm, fun k o ho => ⟨(h5 k o ho).1, (h5 k o ho).2.2, (h5 k o ho).2.1⟩, h6⟩
theorem Two.grew {w0 w : World} {a b : Nat} {D E : DiskA} {O : Nat → Option Obj} (h : Two w0 a D b E O w) : Below w0.heap.size w0 w := by
  obtain ⟨F, G, h1, h2, h3, h4, h5, h6⟩ := h; exact h6
theorem Two.ok {w0 w : World} {a b : Nat} {D E : DiskA} {O : Nat → Option Obj} (h : Two w0 a D b E O w) : D.Ok ∧ E.Ok := by
  obtain ⟨F, G, h1, h2, h3, h4, h5, h6⟩ := h; exact ⟨h1.ok, h2.ok⟩
theorem Two.block {w0 w : World} {a b : Nat} {D E : DiskA} {O : Nat → Option Obj} (h : Two w0 a D b E O w) {k : Nat} {o : Obj} (ho : O k = some o) : w.heap[k]? = some o := by
  obtain ⟨F, G, h1, h2, h3, h4, h5, h6⟩ := h; exact (h5 k o ho).1
/-- A step of the first. -/
theorem Two.first {w0 w : World} {a b : Nat} {D E : DiskA} {O : Nat → Option Obj} (h : Two w0 a D b E O w) :
    ∃ F : Nat → Prop, IsDisk w a D F ∧ (∀ k, F k → w0.heap.size ≤ k) ∧ (∀ k o, O k = some o → ¬ F k) ∧ ∀ D' F' w', IsDisk w' a D' F' → Step F w F' w' → Two w0 a D' b E O w' := by
  obtain ⟨F, G, h1, h2, h3, h4, h5, h6⟩ := h
  refine ⟨F, h1, fun k hk => h4 k (.inl hk), fun k o ho => (h5 k o ho).2.1, fun D' F' w' hd hs => ?_⟩
  have hlt : ∀ k o, O k = some o → k < w.heap.size := fun k o ho => (Array.getElem?_eq_some_iff.1 (h5 k o ho).1).1
  refine ⟨F', fun k => G k ∧ k < w.heap.size, hd, h2.tight.kept (fun k hk _ => hs.block k hk.2 (fun hf => h3 k hf hk.1)), fun k hk hg => ?_, fun k hk => ?_, fun k o ho => ⟨(hs.block k (hlt k o ho) (h5 k o ho).2.1).trans (h5 k o ho).1, fun hk => ?_, fun hk => (h5 k o ho).2.2 hk.1⟩, h6.trans (hs.below h6.size (fun k hk => h4 k (.inl hk)))⟩
  · rcases hs.new k hk with h | h
    · exact h3 k h hg.1
    · have := hg.2; omega
  · rcases hk with hk | hk
    · rcases hs.new k hk with h | h
      · exact h4 k (.inl h)
      · exact Nat.le_trans h6.size h
    · exact h4 k (.inr hk.1)
  · rcases hs.new k hk with h | h
    · exact (h5 k o ho).2.1 h
    · have := hlt k o ho; omega
theorem Two.below {w0 w w' : World} {a b : Nat} {D E : DiskA} {O : Nat → Option Obj} (h : Two w0 a D b E O w) (hB : Below w.heap.size w w') : Two w0 a D b E O w' := by
  obtain ⟨F, G, h1, h2, h3, h4, h5, h6⟩ := h
  exact ⟨F, G, h1.below hB, h2.below hB, h3, h4, fun k o ho => ⟨(hB.block k (Array.getElem?_eq_some_iff.1 (h5 k o ho).1).1).trans (h5 k o ho).1, (h5 k o ho).2⟩, h6.trans (hB.mono h6.size)⟩
/-- A block more. -/
theorem Two.add {w0 w : World} {a b : Nat} {D E : DiskA} {O : Nat → Option Obj} (h : Two w0 a D b E O w) (o : Obj) : Two w0 a D b E (fun k => if k = w.heap.size then some o else O k) (w.alloc o) := by
  have hB : Below w.heap.size w (w.alloc o) := (Below.refl _ w).alloc (Nat.le_refl _) _
  obtain ⟨F, G, h1, h2, h3, h4, h5, h6⟩ := h
  refine ⟨fun k => F k ∧ k < w.heap.size, fun k => G k ∧ k < w.heap.size, h1.tight.below hB, h2.tight.below hB, fun k hf hg => h3 k hf.1 hg.1, fun k hk => h4 k (hk.imp (·.1) (·.1)), fun k o' ho => ?_, h6.trans (hB.mono h6.size)⟩
  dsimp only at ho
  by_cases hk : k = w.heap.size
  · rw [if_pos hk] at ho
    injection ho with ho
    subst ho
    subst hk
    exact ⟨heap_alloc_new w _, fun h => by omega, fun h => by omega⟩
  · rw [if_neg hk] at ho
    exact ⟨(hB.block k (Array.getElem?_eq_some_iff.1 (h5 k o' ho).1).1).trans (h5 k o' ho).1, fun h => (h5 k o' ho).2.1 h.1, fun h => (h5 k o' ho).2.2 h.1⟩
theorem Two.forget {w0 w : World} {a b : Nat} {D E : DiskA} {O O' : Nat → Option Obj} (h : Two w0 a D b E O w) (hs : ∀ k o, O' k = some o → O k = some o) : Two w0 a D b E O' w := by
  obtain ⟨F, G, h1, h2, h3, h4, h5, h6⟩ := h
  exact ⟨F, G, h1, h2, h3, h4, fun k o ho => h5 k o (hs k o ho), h6⟩
/-- A second disk made beside one. -/
theorem Lives.second {w0 w : World} {a : Nat} {D : DiskA} (h : Lives w0 a D w) (c : Int) (hc : -9223372036854775808 ≤ c ∧ c ≤ 9223372036854775807) :
    Calls Try.prog 40 #[.int .i64 c] w fun e w' => ∃ b, e = .returned (.pointer (some ⟨b, 0, none⟩)) ∧ Two w0 a D b (newD c) (fun _ => none) w' := by
  obtain ⟨F, hd, hF, hB⟩ := h
  refine (New_any c w hc).mono ?_
  rintro e w' ⟨b, G, he, hg, hb, hG⟩
  exact ⟨b, he, fun k => F k ∧ k < w.heap.size, G, hd.tight.below hb, hg, fun k hf hk => by have := hG k hk; have := hf.2; omega, fun k hk => hk.elim (fun h => hF k h.1) (fun h => Nat.le_trans hB.size (hG k h)), (fun k o ho => by cases ho), hB.trans (hb.mono hB.size)⟩

theorem Two.doOp {w0 w : World} {a b : Nat} {D E : DiskA} {O : Nat → Option Obj} (h : Two w0 a D b E O w) (hfit : D.Fit) (o : OpV) (hg : o.Good w0 (fun k => w0.heap.size ≤ k)) (hs : o.Small) (hwl : D.waits.length < 1099511627776) (hfl : D.files.length < 4294967296) :
    Calls Try.prog 44 #[.pointer (some ⟨a, 0, none⟩), .agg o.cells] w fun e w' => ∃ id, e = .returned (.int .i64 (D.doOp o id).1) ∧ Two w0 a (D.doOp o id).2 b E O w' ∧ (∀ f ∈ D.files, f.id ≠ id) := by
  have hb := h.grew
  obtain ⟨F, hd, hF, _, hn⟩ := h.first
  refine (Do_any a D F w hd hfit o (hg.kept (fun q hq _ => ⟨hb.block q hq, fun h => absurd (hF q h) (by omega)⟩)) hs hwl hfl).mono ?_
  rintro e w' ⟨id, F', he, hd', hs, hid⟩
  exact ⟨id, he, hn _ _ _ hd' hs, hid⟩
theorem Two.same {w0 w : World} {a b : Nat} {D E : DiskA} {O : Nat → Option Obj} (h : Two w0 a D b E O w) (hs : HasAll D E) :
    Calls Try.prog 57 #[.pointer (some ⟨a, 0, none⟩), .pointer (some ⟨b, 0, none⟩)] w fun e w' => e = .returned (.bool true) ∧ Two w0 a D b E O w' := by
  have h' := h
  obtain ⟨F, G, h1, h2, _⟩ := h'
  exact (Same_yes a b D E F G w h1 h2 hs).mono fun e w' ⟨he, hb⟩ => ⟨he, h.below hb⟩
theorem Two.waits {w0 w : World} {a b : Nat} {D E : DiskA} {O : Nat → Option Obj} (h : Two w0 a D b E O w) :
    Calls Try.prog 54 #[.pointer (some ⟨a, 0, none⟩)] w fun e w' => e = .returned (.int .i64 (D.waits.length : Nat)) ∧ w = w' := by
  obtain ⟨F, G, h1, h2, _⟩ := h
  exact Waits_any a D F w h1
theorem Two.size {w0 w : World} {a b : Nat} {D E : DiskA} {O : Nat → Option Obj} (h : Two w0 a D b E O w) :
    Calls Try.prog 53 #[.pointer (some ⟨a, 0, none⟩)] w fun e w' => e = .returned (.int .i64 (sizes D.files : Nat)) ∧ Two w0 a D b E O w' := by
  have h' := h
  obtain ⟨F, G, h1, h2, _⟩ := h'
  exact (Size_any a D F w h1).mono fun e w' ⟨he, hb⟩ => ⟨he, h.below hb⟩
theorem Two.list {w0 w : World} {a b : Nat} {D E : DiskA} {O : Nat → Option Obj} (h : Two w0 a D b E O w) (hd : ByteArray) (hh : hd.size ≤ maxLen) :
    Calls Try.prog 55 #[.pointer (some ⟨a, 0, none⟩), .string hd] w fun e w' => ∃ l cap, e = .returned (.slice l (D.list hd).length cap) ∧ StrSl w' l (D.list hd) ∧ Two w0 a D b E O w' ∧ Below w.heap.size w w' := by
  have h' := h
  obtain ⟨F, G, h1, h2, _⟩ := h'
  refine (List_any a D F w h1 hd hh).mono ?_
  rintro e w' ⟨l, cap, he, hr, hb⟩
  exact ⟨l, cap, he, strSl_of_row hr, h.below hb, hb⟩
theorem Two.crash {w0 w : World} {a b : Nat} {D E : DiskA} {O : Nat → Option Obj} (h : Two w0 a D b E O w) (hfit : D.Fit) (kb kcap : Nat) (ks : List Bool) (o : Obj) (ho : O kb = some o) (hkl : ks.length ≤ 1099511627776) (hkc : ks.length ≤ kcap) (hc : ∀ i x, ks[i]? = some x → w.cell? ⟨kb, i, none⟩ = some (.bool x)) :
    Calls Try.prog 47 #[.pointer (some ⟨a, 0, none⟩), .agg #[.slice (some ⟨kb, 0, none⟩) ks.length kcap, .int .i64 0]] w fun e w' => e = .returned (.tuple #[]) ∧ Two w0 a (D.crash ks 0) b E O w' := by
  obtain ⟨F, hd, hF, hO, hn⟩ := h.first
  refine (Crash_any a D F w hd hfit ks 0 (by omega) _ kcap hkl (.inr ⟨_, rfl, hkc, fun i x hx => ⟨kb, 0, rfl, by rw [Nat.zero_add]; exact hc i x hx, hO kb o ho⟩⟩)).mono ?_
  rintro e w' ⟨he, hd', hs⟩
  exact ⟨he, hn _ _ _ hd' hs⟩
theorem Two.crash0 {w0 w : World} {a b : Nat} {D E : DiskA} {O : Nat → Option Obj} (h : Two w0 a D b E O w) (hfit : D.Fit) :
    Calls Try.prog 47 #[.pointer (some ⟨a, 0, none⟩), .agg #[.slice none 0 0, .int .i64 0]] w fun e w' => e = .returned (.tuple #[]) ∧ Two w0 a (D.crash [] 0) b E O w' := by
  obtain ⟨F, hd, hF, hO, hn⟩ := h.first
  refine (Crash_any a D F w hd hfit [] 0 (by omega) none 0 (by simp) (.inl ⟨rfl, rfl, rfl⟩)).mono ?_
  rintro e w' ⟨he, hd', hs⟩
  exact ⟨he, hn _ _ _ hd' hs⟩

theorem Two.grown {w0 w w' : World} {a b : Nat} {D E : DiskA} {O : Nat → Option Obj} (h : Two w0 a D b E O w) (hg : w.grownBy w' none) {o : Obj} (ho : w'.heap[w.heap.size]? = some o) : Two w0 a D b E (fun k => if k = w.heap.size then some o else O k) w' := by
  have hB : Below w.heap.size w w' := (Below.refl _ w).grown hg (Nat.le_refl _) (fun k hk => by cases hk)
  obtain ⟨F, G, h1, h2, h3, h4, h5, h6⟩ := h
  refine ⟨fun k => F k ∧ k < w.heap.size, fun k => G k ∧ k < w.heap.size, h1.tight.below hB, h2.tight.below hB, fun k hf hg => h3 k hf.1 hg.1, fun k hk => h4 k (hk.imp (·.1) (·.1)), fun k o' ho' => ?_, h6.trans (hB.mono h6.size)⟩
  dsimp only at ho'
  by_cases hk : k = w.heap.size
  · rw [if_pos hk] at ho'
    injection ho' with ho'
    subst ho'
    subst hk
    exact ⟨ho, fun h => by omega, fun h => by omega⟩
  · rw [if_neg hk] at ho'
    exact ⟨(hB.block k (Array.getElem?_eq_some_iff.1 (h5 k o' ho').1).1).trans (h5 k o' ho').1, fun h => (h5 k o' ho').2.1 h.1, fun h => (h5 k o' ho').2.2 h.1⟩
/-- A store into a block beside. -/
theorem Two.store {w0 w : World} {a b : Nat} {D E : DiskA} {kb : Nat} {cs : Array Value} {T : TypeId} (h : Two w0 a D b E (fun k => if k = kb then some (.cells cs T (0, 0)) else none) w) (hkb : w0.heap.size ≤ kb) (i : Nat) (v : Value) : Two w0 a D b E (fun k => if k = kb then some (.cells (cs.setIfInBounds i v) T (0, 0)) else none) (w.setCell ⟨kb, i, none⟩ v) := by
  obtain ⟨F, G, h1, h2, h3, h4, h5, h6⟩ := h
  obtain ⟨hc, hF, hG⟩ := h5 kb _ (if_pos rfl)
  have hblk : Blk w kb cs T := hc
  refine ⟨F, G, h1.kept (fun k hk _ => setCell_heap _ _ _ _ (fun e => hF (by have e' : k = kb := e; rw [← e']; exact hk))), h2.kept (fun k hk _ => setCell_heap _ _ _ _ (fun e => hG (by have e' : k = kb := e; rw [← e']; exact hk))), h3, h4, fun k o ho => ?_, h6.setCell (p := ⟨kb, i, none⟩) hkb _⟩
  dsimp only at ho
  by_cases hk : k = kb
  · rw [if_pos hk] at ho
    injection ho with ho
    subst ho
    subst hk
    exact ⟨hblk.set i v, hF, hG⟩
  · rw [if_neg hk] at ho; cases ho
end Go.Proofs.Ytndpmjanflahhaa
