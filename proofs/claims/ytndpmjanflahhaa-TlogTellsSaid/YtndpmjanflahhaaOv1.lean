/-
  ANY OBJECT OF THE CALL'S OWN, blocks beside it that keep their objects, and rows of the call's own beside it.
-/
import Derived.Test.YtndpmjanflahhaaMK
import Derived.Test.YtndpmjanflahhaaMB
namespace Go.Proofs.Ytndpmjanflahhaa
open Go.RowKit Go.MapKept

/-- An object that its own blocks tell. -/
structure Kind1 (P : World → (Nat → Prop) → Prop) : Prop where
  kept : ∀ {w w' : World} {F : Nat → Prop}, P w F → (∀ k, F k → k < w.heap.size → w'.heap[k]? = w.heap[k]?) → P w' F
  tight : ∀ {w : World} {F : Nat → Prop}, P w F → P w (fun k => F k ∧ k < w.heap.size)
theorem kind_over (T : TypeId) (xb b : Nat) (D : DiskA) (n : Int) : Kind1 (fun w F => IsOver T w xb b D n F) := ⟨fun h hk => h.kept hk, fun h => h.tight⟩
theorem kind_disk (b : Nat) (D : DiskA) : Kind1 (fun w F => IsDisk w b D F) := ⟨fun h hk => h.kept hk, fun h => h.tight⟩

/-- .. that the call itself made; the blocks O are not its own, and hold this. -/
def SX (P : World → (Nat → Prop) → Prop) (w0 : World) (O : Nat → Option Obj) (w : World) : Prop :=
  ∃ F, P w F ∧ (∀ k, F k → w0.heap.size ≤ k) ∧ (∀ k o, O k = some o → w.heap[k]? = some o ∧ ¬ F k) ∧ Below w0.heap.size w0 w
section
variable {P P' : World → (Nat → Prop) → Prop} {w0 w w' : World} {O O' : Nat → Option Obj}
theorem SX.grew (hl : SX P w0 O w) : Below w0.heap.size w0 w := by obtain ⟨F, h1, h2, h3, h4⟩ := hl; exact h4
theorem SX.block (hl : SX P w0 O w) {k : Nat} {o : Obj} (ho : O k = some o) : w.heap[k]? = some o := by obtain ⟨F, h1, h2, h3, h4⟩ := hl; exact (h3 k o ho).1
theorem SX.imp (hl : SX P w0 O w) (hP : ∀ F, P w F → P' w F) : SX P' w0 O w := by obtain ⟨F, h1, h⟩ := hl; exact ⟨F, hP F h1, h⟩
theorem SX.more (hP : Kind1 P) (hl : SX P w0 O w) (hB : Below w.heap.size w w') (O' : Nat → Option Obj) (hO : ∀ k o, O' k = some o → O k = some o ∨ (w.heap.size ≤ k ∧ w'.heap[k]? = some o)) : SX P w0 O' w' := by
  obtain ⟨F, h1, h2, h3, h4⟩ := hl
  refine ⟨fun k => F k ∧ k < w.heap.size, hP.kept (hP.tight h1) (fun k _ hk => hB.block k hk), fun k hk => h2 k hk.1, fun k o ho => ?_, h4.trans (hB.mono h4.size)⟩
  rcases hO k o ho with h | ⟨h, hc⟩
  · exact ⟨(hB.block k (Array.getElem?_eq_some_iff.1 (h3 k o h).1).1).trans (h3 k o h).1, fun hf => (h3 k o h).2 hf.1⟩
  · exact ⟨hc, fun hf => by have := hf.2; omega⟩
theorem SX.below (hP : Kind1 P) (hl : SX P w0 O w) (hB : Below w.heap.size w w') : SX P w0 O w' := hl.more hP hB O (fun _ _ h => .inl h)
theorem SX.less (hl : SX P w0 O w) (hO : ∀ k o, O' k = some o → O k = some o) : SX P w0 O' w := by
  obtain ⟨F, h1, h2, h3, h4⟩ := hl; exact ⟨F, h1, h2, fun k o ho => h3 k o (hO k o ho), h4⟩
theorem oAnd_new {w : World} {c : Array Value} {Y : TypeId} {k : Nat} {o : Obj} (ho : OAnd O w.heap.size (.cells c Y) k = some o) : O k = some o ∨ (w.heap.size ≤ k ∧ (w.alloc (.cells c Y)).heap[k]? = some o) := by
  by_cases hk : k = w.heap.size
  · subst hk; rw [OAnd.at] at ho; cases ho; exact .inr ⟨Nat.le_refl _, Blk.new _ _ _⟩
  · rw [OAnd.ne hk] at ho; exact .inl ho
/-- A step of its own. -/
theorem SX.step (hl : SX P w0 O w) (hc : ∀ F, P w F → ∃ F', P' w' F' ∧ Step F w F' w') : SX P' w0 O w' := by
  obtain ⟨F, h1, h2, h3, h4⟩ := hl
  obtain ⟨F', h5, hst⟩ := hc F h1
  refine ⟨F', h5, fun k hk => (hst.new k hk).elim (h2 k) (fun h => Nat.le_trans h4.size h), fun k o ho => ?_, h4.trans (hst.below h4.size h2)⟩
  have hlt := (Array.getElem?_eq_some_iff.1 (h3 k o ho).1).1
  exact ⟨(hst.block k hlt (h3 k o ho).2).trans (h3 k o ho).1, fun hk => (hst.new k hk).elim (h3 k o ho).2 (fun h => by omega)⟩

/-- A row of the call's own. -/
structure Row where
  S : TypeId
  sz : Nat
  v : Value
  len : Nat
  cs : List Value
/-- The rows' blocks, as they are; and others. -/
def rowsO (R : List Row) (w : World) (O : Nat → Option Obj) : Nat → Option Obj := fun k => if R.any (fun r => r.v.ownBlock == some k) then w.heap[k]? else O k
structure RX (P : World → (Nat → Prop) → Prop) (w0 : World) (R : List Row) (O : Nat → Option Obj) (w : World) : Prop where
  ox : SX P w0 (rowsO R w O) w
  row : ∀ r ∈ R, w.ownsRow 0 r.S r.sz r.v r.len r.cs
  base : ∀ r ∈ R, ∀ g, r.v.ownBlock = some g → w0.heap.size ≤ g
  sep : ∀ r ∈ R, ∀ k o, O k = some o → r.v.ownBlock ≠ some k
  dis : R.Pairwise (fun r s => ∀ g, r.v.ownBlock = some g → s.v.ownBlock ≠ some g)
variable {R R' : List Row} {r : Row}
theorem rowsO_own {g : Nat} (hr : r ∈ R) (h : r.v.ownBlock = some g) : rowsO R w O g = w.heap[g]? := by
  unfold rowsO; rw [if_pos]; exact List.any_eq_true.2 ⟨r, hr, by rw [h]; exact beq_self_eq_true _⟩
theorem rowsO_ne {g : Nat} (h : ∀ r ∈ R, r.v.ownBlock ≠ some g) : rowsO R w O g = O g := by
  unfold rowsO; rw [if_neg]
  intro he
  obtain ⟨r, hr, he⟩ := List.any_eq_true.1 he
  exact h r hr (eq_of_beq he)
theorem rowsO_cases (g : Nat) : (∃ r ∈ R, r.v.ownBlock = some g) ∨ (∀ r ∈ R, r.v.ownBlock ≠ some g) := by
  by_cases h : ∃ r ∈ R, r.v.ownBlock = some g
  · exact .inl h
  · exact .inr (fun r hr e => h ⟨r, hr, e⟩)
theorem SX.rx (h : SX P w0 O w) : RX P w0 [] O w := ⟨h.less (fun k o ho => by rw [rowsO_ne (by simp)] at ho; exact ho), by simp, by simp, by simp, List.Pairwise.nil⟩
theorem RX.sx (h : RX P w0 R O w) : SX P w0 O w := h.ox.less (fun k o ho => by rw [rowsO_ne (fun r hr => h.sep r hr k o ho)]; exact ho)
theorem RX.lt (h : RX P w0 R O w) (hr : r ∈ R) : ∀ g, r.v.ownBlock = some g → g < w.heap.size := fun g hg => (World.ownsRow.lt (h.row r hr) g hg).2
theorem RX.grew (h : RX P w0 R O w) : Below w0.heap.size w0 w := h.ox.grew
theorem RX.block (h : RX P w0 R O w) {k : Nat} {o : Obj} (ho : O k = some o) : w.heap[k]? = some o := h.sx.block ho
/-- Rows are as they were when their blocks are. -/
theorem RX.with (h : RX P w0 R O w) (hk : ∀ r ∈ R, ∀ g, r.v.ownBlock = some g → w'.heap[g]? = w.heap[g]?) (hx : SX P' w0 (rowsO R w O) w') : RX P' w0 R O w' := by
  refine ⟨hx.less (fun k o ho => ?_), fun r hr => owns_kept (h.row r hr) (hk r hr), h.base, h.sep, h.dis⟩
  rcases rowsO_cases (R := R) k with ⟨r, hr, e⟩ | e
  · rw [rowsO_own hr e] at ho ⊢; rw [← hk r hr k e]; exact ho
  · rw [rowsO_ne e] at ho ⊢; exact ho
theorem RX.own (h : RX P w0 R O w) (hr : r ∈ R) {g : Nat} (hg : r.v.ownBlock = some g) : rowsO R w O g = some (w.heap[g]'(h.lt hr g hg)) := by
  rw [rowsO_own hr hg]; simp [h.lt hr g hg]
theorem RX.back (h : RX P w0 R O w) (hx : SX P' w0 (rowsO R w O) w') : RX P' w0 R O w' :=
  h.with (fun r hr g hg => by rw [hx.block (h.own hr hg)]; simp [h.lt hr g hg]) hx
theorem RX.below (hP : Kind1 P) (h : RX P w0 R O w) (hB : Below w.heap.size w w') : RX P w0 R O w' := h.back (h.ox.below hP hB)
theorem RX.less (h : RX P w0 R O w) (hO : ∀ k o, O' k = some o → O k = some o) : RX P w0 R O' w :=
  ⟨h.ox.less (fun k o ho => by
    rcases rowsO_cases (R := R) k with ⟨r, hr, e⟩ | e
    · rw [rowsO_own hr e] at ho ⊢; exact ho
    · rw [rowsO_ne e] at ho ⊢; exact hO k o ho), h.row, h.base, fun r hr k o ho => h.sep r hr k o (hO k o ho), h.dis⟩
theorem RX.more (hP : Kind1 P) (h : RX P w0 R O w) (hB : Below w.heap.size w w') (O' : Nat → Option Obj) (hO : ∀ k o, O' k = some o → O k = some o ∨ (w.heap.size ≤ k ∧ w'.heap[k]? = some o)) : RX P w0 R O' w' := by
  have hk : ∀ r ∈ R, ∀ g, r.v.ownBlock = some g → w'.heap[g]? = w.heap[g]? := fun r hr g hg => hB.block g (h.lt hr g hg)
  refine ⟨h.ox.more hP hB _ (fun k o ho => ?_), fun r hr => owns_kept (h.row r hr) (hk r hr), h.base, fun r hr k o ho e => ?_, h.dis⟩
  · rcases rowsO_cases (R := R) k with ⟨r, hr, e⟩ | e
    · rw [rowsO_own hr e] at ho ⊢; rw [← hk r hr k e]; exact .inl ho
    · rw [rowsO_ne e] at ho ⊢; exact hO k o ho
  · rcases hO k o ho with h1 | ⟨h1, _⟩
    · exact h.sep r hr k o h1 e
    · have := h.lt hr k e; omega
theorem RX.one (hP : Kind1 P) (h : RX P w0 R O w) (c : Array Value) (Y : TypeId) : RX P w0 R (OAnd O w.heap.size (.cells c Y)) (w.alloc (.cells c Y)) :=
  h.more hP ((Below.refl _ w).alloc (Nat.le_refl _) _) _ (fun k o ho => oAnd_new ho)
/-- One more row, nil. -/
theorem RX.nil (h : RX P w0 R O w) (S : TypeId) (sz : Nat) : RX P w0 (⟨S, sz, .slice none 0 0, 0, []⟩ :: R) O w := by
  refine ⟨h.ox.less (fun k o ho => ?_), ?_, ?_, ?_, List.pairwise_cons.2 ⟨(fun s _ g hg => by cases hg), h.dis⟩⟩
  · rcases rowsO_cases (R := R) k with ⟨r, hr, e⟩ | e
    · rw [rowsO_own (List.mem_cons_of_mem _ hr) e] at ho; rw [rowsO_own hr e]; exact ho
    · rw [rowsO_ne (fun r hr => by rcases List.mem_cons.1 hr with rfl | hr; exact (fun e => by cases e); exact e r hr)] at ho; rw [rowsO_ne e]; exact ho
  · intro r hr
    rcases List.mem_cons.1 hr with rfl | hr
    · exact World.ownsRow_nil _ _ _ _
    · exact h.row r hr
  · intro r hr g hg
    rcases List.mem_cons.1 hr with rfl | hr
    · cases hg
    · exact h.base r hr g hg
  · intro r hr k o ho
    rcases List.mem_cons.1 hr with rfl | hr
    · exact fun e => by cases e
    · exact h.sep r hr k o ho
/-- Rows in another order, or fewer. -/
theorem RX.perm (h : RX P w0 R O w) (hp : R.Perm R') : RX P w0 R' O w := by
  refine ⟨h.ox.less (fun k o ho => ?_), fun r hr => h.row r (hp.mem_iff.2 hr), fun r hr => h.base r (hp.mem_iff.2 hr), fun r hr => h.sep r (hp.mem_iff.2 hr), ?_⟩
  · rcases rowsO_cases (R := R) k with ⟨r, hr, e⟩ | e
    · rw [rowsO_own (hp.mem_iff.1 hr) e] at ho; rw [rowsO_own hr e]; exact ho
    · rw [rowsO_ne (fun r hr => e r (hp.mem_iff.2 hr))] at ho; rw [rowsO_ne e]; exact ho
  · exact (hp.pairwise_iff (fun {a b} hab g hg e => hab g e hg)).1 h.dis
theorem RX.tail (h : RX P w0 (r :: R) O w) : RX P w0 R O w := by
  have hm : ∀ {s}, s ∈ R → s ∈ r :: R := fun hs => List.mem_cons_of_mem _ hs
  refine ⟨h.ox.less (fun k o ho => ?_), fun s hs => h.row s (hm hs), fun s hs => h.base s (hm hs), fun s hs => h.sep s (hm hs), (List.pairwise_cons.1 h.dis).2⟩
  rcases rowsO_cases (R := R) k with ⟨s, hs, e⟩ | e
  · rw [rowsO_own hs e] at ho; rw [rowsO_own (hm hs) e]; exact ho
  · rw [rowsO_ne e] at ho
    rw [rowsO_ne (fun s hs => h.sep s hs k o ho)]; exact ho
/-- The first row has grown. -/
theorem RX.push (hP : Kind1 P) {S : TypeId} {sz : Nat} {v : Value} {len : Nat} {cs : List Value} (h : RX P w0 (⟨S, sz, v, len, cs⟩ :: R) O w) {v' : Value} {len' : Nat} {cs' : List Value} (hA : Appended w S sz v v' w' len' cs') : RX P w0 (⟨S, sz, v', len', cs'⟩ :: R) O w' := by
  obtain ⟨F, h1, h2, h3, h4⟩ := h.ox
  have hv : (⟨S, sz, v, len, cs⟩ : Row) ∈ (⟨S, sz, v, len, cs⟩ : Row) :: R := List.mem_cons_self
  have hdis := (List.pairwise_cons.1 h.dis).1
  have ho0 : ∀ g, v.ownBlock = some g → g < w.heap.size ∧ ¬ F g := fun g hg => ⟨h.lt hv g hg, (h3 g _ (h.own hv hg)).2⟩
  have hF : ∀ k, F k → k < w.heap.size → w'.heap[k]? = w.heap[k]? := fun k hk hl => hA.grown.block k hl (fun e => (ho0 k (by simpa using e.symm)).2 hk)
  have hO : ∀ k o, O k = some o → w'.heap[k]? = some o ∧ ¬ F k ∧ k < w.heap.size := fun k o ho => by
    have hx : rowsO (⟨S, sz, v, len, cs⟩ :: R) w O k = some o := by rw [rowsO_ne (fun r hr => h.sep r hr k o ho)]; exact ho
    have hl := (Array.getElem?_eq_some_iff.1 (h3 k o hx).1).1
    exact ⟨(hA.grown.block k hl (fun e => h.sep _ hv k o ho (by simpa using e.symm))).trans (h3 k o hx).1, (h3 k o hx).2, hl⟩
  have hR : ∀ s ∈ R, ∀ g, s.v.ownBlock = some g → w'.heap[g]? = w.heap[g]? ∧ ¬ F g ∧ g < w.heap.size := fun s hs g hg => by
    have hm : s ∈ (⟨S, sz, v, len, cs⟩ : Row) :: R := List.mem_cons_of_mem _ hs
    exact ⟨hA.grown.block g (h.lt hm g hg) (fun e => hdis s hs g (by simpa using e.symm) hg), (h3 g _ (h.own hm hg)).2, h.lt hm g hg⟩
  have hnew : ∀ g, v'.ownBlock = some g → ¬ (F g ∧ g < w.heap.size) := fun g hg hf => (hA.block g hg).elim (fun h5 => (ho0 g h5).2 hf.1) (fun h5 => by have := hf.2; omega)
  refine ⟨⟨fun k => F k ∧ k < w.heap.size, hP.kept (hP.tight h1) (fun k hk hl => hF k hk.1 hl), fun k hk => h2 k hk.1, fun k o ho => ?_, h4.grown hA.grown h4.size (fun k hk => h.base _ hv k hk)⟩, ?_, ?_, ?_, List.pairwise_cons.2 ⟨?_, (List.pairwise_cons.1 h.dis).2⟩⟩
  · rcases rowsO_cases (R := (⟨S, sz, v', len', cs'⟩ : Row) :: R) k with ⟨s, hs, e⟩ | e
    · rw [rowsO_own hs e] at ho
      refine ⟨ho, ?_⟩
      rcases List.mem_cons.1 hs with rfl | hs
      · exact hnew k e
      · exact fun hf => (hR s hs k e).2.1 hf.1
    · rw [rowsO_ne e] at ho
      exact ⟨(hO k o ho).1, fun hf => (hO k o ho).2.1 hf.1⟩
  · intro s hs
    rcases List.mem_cons.1 hs with rfl | hs
    · exact hA.row
    · exact owns_kept (h.row s (List.mem_cons_of_mem _ hs)) (fun g hg => (hR s hs g hg).1)
  · intro s hs g hg
    rcases List.mem_cons.1 hs with rfl | hs
    · exact (hA.block g hg).elim (h.base _ hv g) (fun h5 => Nat.le_trans h4.size h5)
    · exact h.base s (List.mem_cons_of_mem _ hs) g hg
  · intro s hs k o ho e
    rcases List.mem_cons.1 hs with rfl | hs
    · exact (hA.block k e).elim (h.sep _ hv k o ho) (fun h5 => by have := (hO k o ho).2.2; omega)
    · exact h.sep s (List.mem_cons_of_mem _ hs) k o ho e
  · intro s hs g hg e
    have h6 := hR s hs g e
    exact (hA.block g hg).elim (fun h5 => hdis s hs g h5 e) (fun h5 => by omega)
/-- A row that a call made joins the others. -/
theorem RX.join (h : RX P w0 R O w) (hx : RX P' w0 [r] (rowsO R w O) w') : RX P' w0 (r :: R) O w' := by
  have hm : r ∈ [r] := List.mem_singleton.2 rfl
  have hk : ∀ s ∈ R, ∀ g, s.v.ownBlock = some g → w'.heap[g]? = w.heap[g]? := fun s hs g hg => by
    rw [hx.block (h.own hs hg)]; simp [h.lt hs g hg]
  refine ⟨hx.ox.less (fun k o ho => ?_), fun s hs => ?_, fun s hs => ?_, fun s hs k o ho => ?_, List.pairwise_cons.2 ⟨fun s hs g hg e => ?_, h.dis⟩⟩
  · rcases rowsO_cases (R := r :: R) k with ⟨s, hs, e⟩ | e
    · rw [rowsO_own hs e] at ho
      rcases List.mem_cons.1 hs with rfl | hs
      · rw [rowsO_own hm e]; exact ho
      · rw [rowsO_ne (fun q hq => by rw [List.mem_singleton.1 hq]; exact hx.sep r hm k _ (h.own hs e)), rowsO_own hs e, ← hk s hs k e]; exact ho
    · rw [rowsO_ne e] at ho
      rw [rowsO_ne (fun q hq => by rw [List.mem_singleton.1 hq]; exact e r List.mem_cons_self), rowsO_ne (fun q hq => e q (List.mem_cons_of_mem _ hq))]; exact ho
  · rcases List.mem_cons.1 hs with rfl | hs
    · exact hx.row _ hm
    · exact owns_kept (h.row s hs) (hk s hs)
  · rcases List.mem_cons.1 hs with rfl | hs
    · exact hx.base _ hm
    · exact h.base s hs
  · rcases List.mem_cons.1 hs with rfl | hs
    · exact hx.sep _ hm k o (by rw [rowsO_ne (fun q hq => h.sep q hq k o ho)]; exact ho)
    · exact h.sep s hs k o ho
  · exact hx.sep r hm g _ (h.own hs e) hg
end
end Go.Proofs.Ytndpmjanflahhaa
