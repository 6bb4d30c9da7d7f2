/-
  disk.Write: what it tells and leaves, as plain data, and how that lies in memory.
-/
import Derived.Test.YtndpmjanflahhaaDk8
import Derived.Test.YtndpmjanflahhaaOwn
namespace Go.Proofs.Ytndpmjanflahhaa
open Go.RowKit Go.MapKept

/-- One file's bytes and image turned. -/
def turn (l : List FileA) (id : Nat) (u : FileA → FileA) : List FileA := l.map fun g => if g.id = id then u g else g
def FileA.setNow (s : ByteArray) (g : FileA) : FileA := { g with now := s }
def DiskA.put (D : DiskA) (f : FileA) (p : Nat) (s : ByteArray) : DiskA :=
  { D with files := turn D.files f.id (FileA.setNow (laidB f.now p s)), waits := D.waits ++ [⟨f.id, p, s⟩] }
/-- What Write tells, and leaves. -/
def DiskA.write (D : DiskA) (n : ByteArray) (p : Int) (s : ByteArray) : Int × DiskA :=
  if D.down then (8, D) else match findF D.files n with
  | none => (9, D)
  | some f =>
    if p < 0 ∨ (f.now.size : Int) < p then (2, D)
    else if (D.cap : Int) - sizes D.files < p + s.size - f.now.size ∧ (f.now.size : Int) < p + s.size then (7, D)
    else if D.burn.1 = false then (8, D.burn.2)
    else (0, if s.size = 0 then D.burn.2 else D.burn.2.put f p.toNat s)

theorem turn_names (l : List FileA) (id : Nat) (u : FileA → FileA) (hu : ∀ g, (u g).name = g.name) : (turn l id u).map (·.name) = l.map (·.name) := by
  unfold turn; rw [List.map_map]; congr 1; funext g; simp only [Function.comp]; split
  · exact hu g
  · rfl
theorem turn_ids (l : List FileA) (id : Nat) (u : FileA → FileA) (hu : ∀ g, (u g).id = g.id) : (turn l id u).map (·.id) = l.map (·.id) := by
  unfold turn; rw [List.map_map]; congr 1; funext g; simp only [Function.comp]; split
  · exact hu g
  · rfl
theorem turn_entries (l : List FileA) (id : Nat) (u : FileA → FileA) (hu : ∀ g, (u g).name = g.name ∧ (u g).id = g.id) : (turn l id u).map FileA.entry = l.map FileA.entry := by
  unfold turn; rw [List.map_map]; congr 1; funext g; simp only [Function.comp]; split
  · unfold FileA.entry; rw [(hu g).1, (hu g).2]
  · rfl
theorem turn_mem {l : List FileA} {id : Nat} {u : FileA → FileA} {x : FileA} (h : x ∈ turn l id u) : ∃ g ∈ l, (g.id = id ∧ x = u g) ∨ (g.id ≠ id ∧ x = g) := by
  unfold turn at h
  obtain ⟨g, hg, e⟩ := List.mem_map.1 h
  refine ⟨g, hg, ?_⟩
  split at e
  · exact .inl ⟨by assumption, e.symm⟩
  · exact .inr ⟨by assumption, e.symm⟩
theorem turn_sizes {l : List FileA} (hn : (l.map (·.id)).Nodup) {f : FileA} (hf : f ∈ l) (u : FileA → FileA) : sizes (turn l f.id u) + f.now.size = sizes l + (u f).now.size := by
  induction l with
  | nil => cases hf
  | cons x t ih =>
    simp only [List.map_cons, List.nodup_cons] at hn
    unfold turn sizes
    simp only [List.map_cons, List.sum_cons]
    rcases List.mem_cons.1 hf with rfl | h
    · rw [if_pos rfl]
      have : (t.map fun g => if g.id = f.id then u g else g) = t := by
        conv => rhs; rw [← List.map_id t]
        apply List.map_congr_left
        intro g hg
        rw [if_neg (fun e => hn.1 (List.mem_map.2 ⟨g, hg, e⟩))]; rfl
      rw [this]
      omega
    · have hne : x.id ≠ f.id := fun e => hn.1 (List.mem_map.2 ⟨f, h, e.symm⟩)
      rw [if_neg hne]
      have := ih hn.2 h
      unfold turn sizes at this
      omega
theorem laidB_size (s : ByteArray) (p : Nat) (o : ByteArray) (h : o.size ≠ 0) : (laidB s p o).size = max s.size (p + o.size) := by
  have hne : o.data.toList ≠ [] := fun e => h (by rw [size_eq_len, e]; rfl)
  show (laidL _ _ _).toArray.size = _
  rw [List.size_toArray, laidL_len _ _ _ hne, ← size_eq_len, ← size_eq_len]
where size_eq_len (a : ByteArray) : a.size = a.data.toList.length := by simp

theorem DiskA.Ok.put {D : DiskA} (h : D.Ok) {f : FileA} (hf : f ∈ D.files) {p : Nat} {s : ByteArray} (hs : s.size ≠ 0)
    (hroom : ¬ ((D.cap : Int) - sizes D.files < p + s.size - f.now.size ∧ (f.now.size : Int) < p + s.size)) : (D.put f p s).Ok := by
  have hu : ∀ g : FileA, (FileA.setNow (laidB f.now p s) g).name = g.name ∧ (FileA.setNow (laidB f.now p s) g).id = g.id := fun g => ⟨rfl, rfl⟩
  refine ⟨?_, ?_, h.left, h.cap, ?_, ?_, ?_, ?_⟩
  · show ((turn _ _ _).map _).Nodup
    rw [turn_names _ _ _ (fun g => (hu g).1)]; exact h.names
  · show ((turn _ _ _).map _).Nodup
    rw [turn_ids _ _ _ (fun g => (hu g).2)]; exact h.ids
  · show sizes (turn _ _ _) ≤ D.cap
    have h1 := turn_sizes h.ids hf (FileA.setNow (laidB f.now p s))
    have h2 : (FileA.setNow (laidB f.now p s) f).now.size = max f.now.size (p + s.size) := laidB_size _ _ _ hs
    have h3 : sizes D.files ≤ D.cap := h.size
    omega
  · intro x hx
    obtain ⟨g, hg, ⟨_, rfl⟩ | ⟨_, rfl⟩⟩ := turn_mem hx
    · exact h.nameLen g hg
    · exact h.nameLen x hg
  · show (turn _ _ _).length ≤ _
    unfold turn; rw [List.length_map]; exact h.files
  · intro x hx
    have : ∀ y, (∃ g ∈ D.files, g.id = y) → ∃ g ∈ turn D.files f.id (FileA.setNow (laidB f.now p s)), g.id = y := by
      rintro y ⟨g, hg, rfl⟩
      refine ⟨if g.id = f.id then FileA.setNow (laidB f.now p s) g else g, List.mem_map.2 ⟨g, hg, rfl⟩, ?_⟩
      split <;> rfl
    rcases List.mem_append.1 hx with h1 | h1
    · exact this x.id (h.waits x h1)
    · simp at h1; subst h1
      exact this f.id ⟨f, hf, rfl⟩

theorem waitCells_snoc (l : List WaitA) (x : WaitA) : waitCells (l ++ [x]) = waitCells l ++ x.cells := by unfold waitCells; simp

theorem blk_ne {w : World} {k k' : Nat} {c c' : Array Value} {T T' : TypeId} (h : Blk w k c T) (h' : Blk w k' c' T') (hT : T ≠ T') : k ≠ k' := by
  rintro rfl
  unfold Blk at h h'
  rw [h] at h'; injection h' with h'; injection h' with _ h'; exact hT h'

/-- The disk's head behind such a step. -/
theorem put_head {b : Nat} {D : DiskA} {F : Nat → Prop} {w w2 : World} (hd : IsDisk w b D F) {m : Nat} {v v' : Value} {f : FileA} (hf : f ∈ D.files) {x : Value} {c : Array Value} {n : Nat} {xs : List Value}
    (hb : Blk w b #[.int .i64 D.left, .bool D.down, .map (some m), v, .int .i64 D.cap] 120)
    (hr : w.ownsRow 0 127 3 v D.waits.length (waitCells D.waits))
    (ha : Appended ((w.setCell ⟨f.id, 1, none⟩ x).alloc (.cells c 127)) 127 3 v v' w2 n xs) :
    Blk w2 b #[.int .i64 D.left, .bool D.down, .map (some m), v, .int .i64 D.cap] 120 := by
  have hsz : ((w.setCell ⟨f.id, 1, none⟩ x).alloc (.cells c 127)).heap.size = w.heap.size + 1 := by simp [World.setCell]
  have hbf : b ≠ f.id := blk_ne hb (hd.files f hf).2 (by decide)
  have hown : v.ownBlock ≠ some b := by
    intro e
    rcases hr.2 with ⟨h1, _⟩ | ⟨g, cap, cur, hv, _, hh, _⟩
    · rw [h1] at e; cases e
    · rw [hv] at e; simp [Value.ownBlock] at e; subst e
      unfold Blk at hb; rw [hh] at hb; injection hb with hb; injection hb with _ hb; exact absurd hb (by decide)
  refine hb.at ((ha.grown.block b (by have := hb.lt; omega) (fun e => hown e.symm)).trans ((heap_alloc_old _ _ (by rw [setCell_size]; exact hb.lt)).trans (setCell_heap _ _ _ _ hbf)))

theorem put_owns {b : Nat} {D : DiskA} {F : Nat → Prop} {w : World} (hd : IsDisk w b D F) {v : Value} {f : FileA} (hf : f ∈ D.files) (x : Value) (o : Obj)
    (hr : w.ownsRow 0 127 3 v D.waits.length (waitCells D.waits)) : ((w.setCell ⟨f.id, 1, none⟩ x).alloc o).ownsRow 0 127 3 v D.waits.length (waitCells D.waits) := by
  refine owns_kept hr (fun g hg => (heap_alloc_old _ _ (by rw [setCell_size]; exact (World.ownsRow.lt hr g hg).2)).trans (setCell_heap _ _ _ _ ?_))
  rintro rfl
  have hfb := (hd.files f hf).2
  rcases hr.2 with ⟨h1, _⟩ | ⟨g', cap, cur, hv, _, hh, _⟩
  · rw [h1] at hg; cases hg
  · rw [hv] at hg; simp [Value.ownBlock] at hg; subst hg
    unfold Blk at hfb; rw [hh] at hfb; injection hfb with hfb; injection hfb with _ hfb; exact absurd hfb (by decide)

/-- A file's bytes written, the write laid behind those that wait: how it lies. -/
theorem put_disk {b : Nat} {D : DiskA} {F : Nat → Prop} {w w2 : World} (hd : IsDisk w b D F) {m : Nat} {v v' : Value} {f : FileA} (hf : f ∈ D.files) {p : Nat} {s : ByteArray} {c : Array Value}
    (hb : Blk w b #[.int .i64 D.left, .bool D.down, .map (some m), v, .int .i64 D.cap] 120) (hm : IsMap w m (D.files.map FileA.entry)) (fm : F m) (fg : ∀ g, v.ownBlock = some g → F g)
    (hr : w.ownsRow 0 127 3 v D.waits.length (waitCells D.waits))
    (ha : Appended ((w.setCell ⟨f.id, 1, none⟩ (.string (laidB f.now p s))).alloc (.cells c 127)) 127 3 v v' w2 (D.waits.length + 1) (waitCells D.waits ++ [ptr f.id, .int .i64 p, .string s]))
    (hok : (D.put f p s).Ok) :
    IsDisk (w2.setCell ⟨b, 3, none⟩ v') b (D.put f p s) (fun k => F k ∨ w.heap.size ≤ k) ∧ Step F w (fun k => F k ∨ w.heap.size ≤ k) (w2.setCell ⟨b, 3, none⟩ v') := by
  have hsz : ((w.setCell ⟨f.id, 1, none⟩ (.string (laidB f.now p s))).alloc (.cells c 127)).heap.size = w.heap.size + 1 := by simp [World.setCell]
  have hlt1 : ∀ k, k < w.heap.size → ((w.setCell ⟨f.id, 1, none⟩ (.string (laidB f.now p s))).alloc (.cells c 127)).heap[k]? = (w.setCell ⟨f.id, 1, none⟩ (.string (laidB f.now p s))).heap[k]? := fun k hk => heap_alloc_old _ _ (by rw [setCell_size]; exact hk)
  -- a block that is not the waits' own is as it was behind the first store
  have keep : ∀ k, k < w.heap.size → v.ownBlock ≠ some k → w2.heap[k]? = (w.setCell ⟨f.id, 1, none⟩ (.string (laidB f.now p s))).heap[k]? := fun k hk hne =>
    (ha.grown.block k (by omega) (fun e => hne e.symm)).trans (hlt1 k hk)
  have hfb := (hd.files f hf).2
  have ownT : ∀ k c T, Blk w k c T → T ≠ 127 → v.ownBlock ≠ some k := by
    intro k c T hk hT e
    rcases hr.2 with ⟨h1, _⟩ | ⟨g, cap, cur, hv, _, hh, _⟩
    · rw [h1] at e; cases e
    · rw [hv] at e; simp [Value.ownBlock] at e; subst e
      unfold Blk at hk; rw [hh] at hk; injection hk with hk; injection hk with _ hk; exact hT hk.symm
  have ownM : v.ownBlock ≠ some m := by
    intro e
    rcases hr.2 with ⟨h1, _⟩ | ⟨g, cap, cur, hv, _, hh, _⟩
    · rw [h1] at e; cases e
    · rw [hv] at e; simp [Value.ownBlock] at e; subst e
      obtain ⟨es, cl, h1, _⟩ := hm
      rw [h1] at hh; cases hh
  have hbf : b ≠ f.id := blk_ne hb hfb (by decide)
  have hbm : b ≠ m := by
    rintro rfl
    obtain ⟨es, cl, h1, _⟩ := hm
    unfold Blk at hb; rw [h1] at hb; cases hb
  have hmf : m ≠ f.id := by
    rintro rfl
    obtain ⟨es, cl, h1, _⟩ := hm
    unfold Blk at hfb; rw [h1] at hfb; cases hfb
  have hb2 : Blk w2 b #[.int .i64 D.left, .bool D.down, .map (some m), v, .int .i64 D.cap] 120 :=
    hb.at ((keep b hb.lt (ownT _ _ _ hb (by decide))).trans (setCell_heap _ _ _ _ hbf))
  have hv'b : ∀ g, v'.ownBlock = some g → F g ∨ w.heap.size ≤ g := fun g hg => (ha.block g hg).elim (fun h => .inl (fg g h)) (fun h => .inr (by omega))
  refine ⟨⟨hok, ⟨m, v', hb2.set 3 v', ?_, ?_, .inl fm, hv'b⟩, .inl hd.own, ?_⟩, ?_⟩
  · show IsMap _ m ((turn _ _ _).map _)
    rw [turn_entries _ _ (FileA.setNow (laidB f.now p s)) (fun g => ⟨rfl, rfl⟩)]
    exact hm.at ((setCell_heap _ _ _ _ (fun e => hbm e.symm)).trans ((keep m hm.lt ownM).trans (setCell_heap _ _ _ _ hmf)))
  · show World.ownsRow _ 0 _ 3 v' (D.waits ++ [_]).length (waitCells (D.waits ++ [_]))
    rw [waitCells_snoc, List.length_append]
    refine owns_kept ha.row (fun g hg => setCell_heap _ _ _ _ ?_)
    rintro rfl
    have := ha.row
    rcases this.2 with ⟨h1, _⟩ | ⟨g', cap, cur, hv, _, hh, _⟩
    · rw [h1] at hg; cases hg
    · rw [hv] at hg; simp [Value.ownBlock] at hg; subst hg
      unfold Blk at hb2; rw [hh] at hb2; injection hb2 with hb2; injection hb2 with _ hb2; exact absurd hb2 (by decide)
  · intro x hx
    obtain ⟨g, hg, hcase⟩ := turn_mem hx
    have hgb := (hd.files g hg).2
    have hne : g.id ≠ b := fun e => by have := blk_ne hb hgb (by decide); exact this e.symm
    have hk2 : (w2.setCell ⟨b, 3, none⟩ v').heap[g.id]? = (w.setCell ⟨f.id, 1, none⟩ (.string (laidB f.now p s))).heap[g.id]? :=
      (setCell_heap _ _ _ _ hne).trans (keep g.id hgb.lt (ownT _ _ _ hgb (by decide)))
    rcases hcase with ⟨hid, rfl⟩ | ⟨hid, rfl⟩
    · refine ⟨.inl (hd.files g hg).1, ?_⟩
      show Blk _ g.id #[.string g.image, .string (laidB f.now p s)] _
      have := hgb.set 1 (.string (laidB f.now p s))
      rw [← hid] at hk2
      exact this.at hk2
    · exact ⟨.inl (hd.files x hg).1, hgb.at (hk2.trans (setCell_heap _ _ _ _ hid))⟩
  · refine ⟨ha.grown.os, ha.grown.tape, ha.grown.output, by rw [setCell_size]; have := ha.grown.size; omega, ?_, fun k hk => hk⟩
    intro k hk hnf
    have h1 : k ≠ b := by rintro rfl; exact hnf hd.own
    have h2 : k ≠ f.id := by rintro rfl; exact hnf (hd.files f hf).1
    have h3 : v.ownBlock ≠ some k := fun e => hnf (fg k e)
    rw [setCell_heap _ _ _ _ h1, keep k hk h3, setCell_heap _ _ _ _ h2]
end Go.Proofs.Ytndpmjanflahhaa
