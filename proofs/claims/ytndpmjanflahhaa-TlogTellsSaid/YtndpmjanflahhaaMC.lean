/-
  Dk9, Dk10, Dk11, Dk12, one behind the other.
-/
import Derived.Test.YtndpmjanflahhaaMB
import Derived.Deep.RegionHeld3
/-
  disk.Write: what it tells and leaves, as plain data, and how that lies in memory.
-/
namespace Go.Proofs.Ytndpmjanflahhaa
open Go.RowKit Go.MapKept

/-- One file's bytes and image turned. -/
def turn (l : List FileA) (id : Nat) (u : FileA → FileA) : List FileA := l.map fun g => if g.id = id then u g else g
def FileA.setNow (s : ByteArray) (g : FileA) : FileA := { g with now := s }
def DiskA.put (D : DiskA) (f : FileA) (p : Nat) (s : ByteArray) : DiskA :=
  { D with files := turn D.files f.id (FileA.setNow (laidB f.now p s)), waits := D.waits ++ [⟨f.id, p, s⟩] }
/-- What Write tells, and leaves. -/
def DiskA.write (D : DiskA) (n : ByteArray) (p : Int) (s : ByteArray) : Int × DiskA :=
  if D.down then (8, D) else match findF D.files n with
  | none => (9, D)
  | some f =>
    if p < 0 ∨ (f.now.size : Int) < p then (2, D)
    else if (D.cap : Int) - sizes D.files < p + s.size - f.now.size ∧ (f.now.size : Int) < p + s.size then (7, D)
    else if D.burn.1 = false then (8, D.burn.2)
    else (0, if s.size = 0 then D.burn.2 else D.burn.2.put f p.toNat s)

theorem turn_names (l : List FileA) (id : Nat) (u : FileA → FileA) (hu : ∀ g, (u g).name = g.name) : (turn l id u).map (·.name) = l.map (·.name) := by
  unfold turn; rw [List.map_map]; congr 1; funext g; simp only [Function.comp]; split
  · exact hu g
  · rfl
theorem turn_ids (l : List FileA) (id : Nat) (u : FileA → FileA) (hu : ∀ g, (u g).id = g.id) : (turn l id u).map (·.id) = l.map (·.id) := by
  unfold turn; rw [List.map_map]; congr 1; funext g; simp only [Function.comp]; split
  · exact hu g
  · rfl
theorem turn_entries (l : List FileA) (id : Nat) (u : FileA → FileA) (hu : ∀ g, (u g).name = g.name ∧ (u g).id = g.id) : (turn l id u).map FileA.entry = l.map FileA.entry := by
  unfold turn; rw [List.map_map]; congr 1; funext g; simp only [Function.comp]; split
  · unfold FileA.entry; rw [(hu g).1, (hu g).2]
  · rfl
theorem turn_mem {l : List FileA} {id : Nat} {u : FileA → FileA} {x : FileA} (h : x ∈ turn l id u) : ∃ g ∈ l, (g.id = id ∧ x = u g) ∨ (g.id ≠ id ∧ x = g) := by
  unfold turn at h
  obtain ⟨g, hg, e⟩ := List.mem_map.1 h
  refine ⟨g, hg, ?_⟩
  split at e
  · exact .inl ⟨by assumption, e.symm⟩
  · exact .inr ⟨by assumption, e.symm⟩
theorem turn_sizes {l : List FileA} (hn : (l.map (·.id)).Nodup) {f : FileA} (hf : f ∈ l) (u : FileA → FileA) : sizes (turn l f.id u) + f.now.size = sizes l + (u f).now.size := by
  induction l with
  | nil => cases hf
  | cons x t ih =>
    simp only [List.map_cons, List.nodup_cons] at hn
    unfold turn sizes
    simp only [List.map_cons, List.sum_cons]
    rcases List.mem_cons.1 hf with rfl | h
    · rw [if_pos rfl]
      have : (t.map fun g => if g.id = f.id then u g else g) = t := by
        conv => rhs; rw [← List.map_id t]
        apply List.map_congr_left
        intro g hg
        rw [if_neg (fun e => hn.1 (List.mem_map.2 ⟨g, hg, e⟩))]; rfl
      rw [this]
      omega
    · have hne : x.id ≠ f.id := fun e => hn.1 (List.mem_map.2 ⟨f, h, e.symm⟩)
      rw [if_neg hne]
      have := ih hn.2 h
      unfold turn sizes at this
      omega
theorem laidB_size (s : ByteArray) (p : Nat) (o : ByteArray) (h : o.size ≠ 0) : (laidB s p o).size = max s.size (p + o.size) := by
  have hne : o.data.toList ≠ [] := fun e => h (by rw [size_eq_len, e]; rfl)
  show (laidL _ _ _).toArray.size = _
  rw [List.size_toArray, laidL_len _ _ _ hne, ← size_eq_len, ← size_eq_len]
where size_eq_len (a : ByteArray) : a.size = a.data.toList.length := by simp

theorem DiskA.Ok.put {D : DiskA} (h : D.Ok) {f : FileA} (hf : f ∈ D.files) {p : Nat} {s : ByteArray} (hs : s.size ≠ 0)
    (hroom : ¬ ((D.cap : Int) - sizes D.files < p + s.size - f.now.size ∧ (f.now.size : Int) < p + s.size)) : (D.put f p s).Ok := by
  have hu : ∀ g : FileA, (FileA.setNow (laidB f.now p s) g).name = g.name ∧ (FileA.setNow (laidB f.now p s) g).id = g.id := fun g => ⟨rfl, rfl⟩
  refine ⟨?_, ?_, h.left, h.cap, ?_, ?_, ?_, ?_⟩
  · show ((turn _ _ _).map _).Nodup
    rw [turn_names _ _ _ (fun g => (hu g).1)]; exact h.names
  · show ((turn _ _ _).map _).Nodup
    rw [turn_ids _ _ _ (fun g => (hu g).2)]; exact h.ids
  · show sizes (turn _ _ _) ≤ D.cap
    have h1 := turn_sizes h.ids hf (FileA.setNow (laidB f.now p s))
    have h2 : (FileA.setNow (laidB f.now p s) f).now.size = max f.now.size (p + s.size) := laidB_size _ _ _ hs
    have h3 : sizes D.files ≤ D.cap := h.size
    omega
  · intro x hx
    obtain ⟨g, hg, ⟨_, rfl⟩ | ⟨_, rfl⟩⟩ := turn_mem hx
    · exact h.nameLen g hg
    · exact h.nameLen x hg
  · show (turn _ _ _).length ≤ _
    unfold turn; rw [List.length_map]; exact h.files
  · intro x hx
    have : ∀ y, (∃ g ∈ D.files, g.id = y) → ∃ g ∈ turn D.files f.id (FileA.setNow (laidB f.now p s)), g.id = y := by
      rintro y ⟨g, hg, rfl⟩
      refine ⟨if g.id = f.id then FileA.setNow (laidB f.now p s) g else g, List.mem_map.2 ⟨g, hg, rfl⟩, ?_⟩
      split <;> rfl
    rcases List.mem_append.1 hx with h1 | h1
    · exact this x.id (h.waits x h1)
    · simp at h1; subst h1
      exact this f.id ⟨f, hf, rfl⟩

theorem waitCells_snoc (l : List WaitA) (x : WaitA) : waitCells (l ++ [x]) = waitCells l ++ x.cells := by unfold waitCells; simp

theorem blk_ne {w : World} {k k' : Nat} {c c' : Array Value} {T T' : TypeId} (h : Blk w k c T) (h' : Blk w k' c' T') (hT : T ≠ T') : k ≠ k' := by
  rintro rfl
  unfold Blk at h h'
  rw [h] at h'; injection h' with h'; injection h' with _ h'; exact hT h'

/-- The disk's head behind such a step. -/
theorem put_head {b : Nat} {D : DiskA} {F : Nat → Prop} {w w2 : World} (hd : IsDisk w b D F) {m : Nat} {v v' : Value} {f : FileA} (hf : f ∈ D.files) {x : Value} {c : Array Value} {n : Nat} {xs : List Value}
    (hb : Blk w b #[.int .i64 D.left, .bool D.down, .map (some m), v, .int .i64 D.cap] 120)
    (hr : w.ownsRow 0 127 3 v D.waits.length (waitCells D.waits))
    (ha : Appended ((w.setCell ⟨f.id, 1, none⟩ x).alloc (.cells c 127)) 127 3 v v' w2 n xs) :
    Blk w2 b #[.int .i64 D.left, .bool D.down, .map (some m), v, .int .i64 D.cap] 120 := by
  have hsz : ((w.setCell ⟨f.id, 1, none⟩ x).alloc (.cells c 127)).heap.size = w.heap.size + 1 := by simp [World.setCell]
  have hbf : b ≠ f.id := blk_ne hb (hd.files f hf).2 (by decide)
  have hown : v.ownBlock ≠ some b := by
    intro e
    rcases hr.2 with ⟨h1, _⟩ | ⟨g, cap, cur, hv, _, hh, _⟩
    · rw [h1] at e; cases e
    · rw [hv] at e; simp [Value.ownBlock] at e; subst e
      unfold Blk at hb; rw [hh] at hb; injection hb with hb; injection hb with _ hb; exact absurd hb (by decide)
  refine hb.at ((ha.grown.block b (by have := hb.lt; omega) (fun e => hown e.symm)).trans ((heap_alloc_old _ _ (by rw [setCell_size]; exact hb.lt)).trans (setCell_heap _ _ _ _ hbf)))

theorem put_owns {b : Nat} {D : DiskA} {F : Nat → Prop} {w : World} (hd : IsDisk w b D F) {v : Value} {f : FileA} (hf : f ∈ D.files) (x : Value) (o : Obj)
    (hr : w.ownsRow 0 127 3 v D.waits.length (waitCells D.waits)) : ((w.setCell ⟨f.id, 1, none⟩ x).alloc o).ownsRow 0 127 3 v D.waits.length (waitCells D.waits) := by
  refine owns_kept hr (fun g hg => (heap_alloc_old _ _ (by rw [setCell_size]; exact (World.ownsRow.lt hr g hg).2)).trans (setCell_heap _ _ _ _ ?_))
  rintro rfl
  have hfb := (hd.files f hf).2
  rcases hr.2 with ⟨h1, _⟩ | ⟨g', cap, cur, hv, _, hh, _⟩
  · rw [h1] at hg; cases hg
  · rw [hv] at hg; simp [Value.ownBlock] at hg; subst hg
    unfold Blk at hfb; rw [hh] at hfb; injection hfb with hfb; injection hfb with _ hfb; exact absurd hfb (by decide)

/-- A file's bytes written, the write laid behind those that wait: how it lies. -/
theorem put_disk {b : Nat} {D : DiskA} {F : Nat → Prop} {w w2 : World} (hd : IsDisk w b D F) {m : Nat} {v v' : Value} {f : FileA} (hf : f ∈ D.files) {p : Nat} {s : ByteArray} {c : Array Value}
    (hb : Blk w b #[.int .i64 D.left, .bool D.down, .map (some m), v, .int .i64 D.cap] 120) (hm : IsMap w m (D.files.map FileA.entry)) (fm : F m) (fg : ∀ g, v.ownBlock = some g → F g)
    (hr : w.ownsRow 0 127 3 v D.waits.length (waitCells D.waits))
    (ha : Appended ((w.setCell ⟨f.id, 1, none⟩ (.string (laidB f.now p s))).alloc (.cells c 127)) 127 3 v v' w2 (D.waits.length + 1) (waitCells D.waits ++ [ptr f.id, .int .i64 p, .string s]))
    (hok : (D.put f p s).Ok) :
    IsDisk (w2.setCell ⟨b, 3, none⟩ v') b (D.put f p s) (fun k => F k ∨ w.heap.size ≤ k) ∧ Step F w (fun k => F k ∨ w.heap.size ≤ k) (w2.setCell ⟨b, 3, none⟩ v') := by
  have hsz : ((w.setCell ⟨f.id, 1, none⟩ (.string (laidB f.now p s))).alloc (.cells c 127)).heap.size = w.heap.size + 1 := by simp [World.setCell]
  have hlt1 : ∀ k, k < w.heap.size → ((w.setCell ⟨f.id, 1, none⟩ (.string (laidB f.now p s))).alloc (.cells c 127)).heap[k]? = (w.setCell ⟨f.id, 1, none⟩ (.string (laidB f.now p s))).heap[k]? := fun k hk => heap_alloc_old _ _ (by rw [setCell_size]; exact hk)
  -- a block that is not the waits' own is as it was behind the first store
  have keep : ∀ k, k < w.heap.size → v.ownBlock ≠ some k → w2.heap[k]? = (w.setCell ⟨f.id, 1, none⟩ (.string (laidB f.now p s))).heap[k]? := fun k hk hne =>
    (ha.grown.block k (by omega) (fun e => hne e.symm)).trans (hlt1 k hk)
  have hfb := (hd.files f hf).2
  have ownT : ∀ k c T, Blk w k c T → T ≠ 127 → v.ownBlock ≠ some k := by
    intro k c T hk hT e
    rcases hr.2 with ⟨h1, _⟩ | ⟨g, cap, cur, hv, _, hh, _⟩
    · rw [h1] at e; cases e
    · rw [hv] at e; simp [Value.ownBlock] at e; subst e
      unfold Blk at hk; rw [hh] at hk; injection hk with hk; injection hk with _ hk; exact hT hk.symm
  have ownM : v.ownBlock ≠ some m := by
    intro e
    rcases hr.2 with ⟨h1, _⟩ | ⟨g, cap, cur, hv, _, hh, _⟩
    · rw [h1] at e; cases e
    · rw [hv] at e; simp [Value.ownBlock] at e; subst e
      obtain ⟨es, cl, h1, _⟩ := hm
      rw [h1] at hh; cases hh
  have hbf : b ≠ f.id := blk_ne hb hfb (by decide)
  have hbm : b ≠ m := by
    rintro rfl
    obtain ⟨es, cl, h1, _⟩ := hm
    unfold Blk at hb; rw [h1] at hb; cases hb
  have hmf : m ≠ f.id := by
    rintro rfl
    obtain ⟨es, cl, h1, _⟩ := hm
    unfold Blk at hfb; rw [h1] at hfb; cases hfb
  have hb2 : Blk w2 b #[.int .i64 D.left, .bool D.down, .map (some m), v, .int .i64 D.cap] 120 :=
    hb.at ((keep b hb.lt (ownT _ _ _ hb (by decide))).trans (setCell_heap _ _ _ _ hbf))
  have hv'b : ∀ g, v'.ownBlock = some g → F g ∨ w.heap.size ≤ g := fun g hg => (ha.block g hg).elim (fun h => .inl (fg g h)) (fun h => .inr (by omega))
  refine ⟨⟨hok, ⟨m, v', hb2.set 3 v', ?_, ?_, .inl fm, hv'b⟩, .inl hd.own, ?_⟩, ?_⟩
  · show IsMap _ m ((turn _ _ _).map _)
    rw [turn_entries _ _ (FileA.setNow (laidB f.now p s)) (fun g => ⟨rfl, rfl⟩)]
    exact hm.at ((setCell_heap _ _ _ _ (fun e => hbm e.symm)).trans ((keep m hm.lt ownM).trans (setCell_heap _ _ _ _ hmf)))
  · show World.ownsRow _ 0 _ 3 v' (D.waits ++ [_]).length (waitCells (D.waits ++ [_]))
    rw [waitCells_snoc, List.length_append]
    refine owns_kept ha.row (fun g hg => setCell_heap _ _ _ _ ?_)
    rintro rfl
    have := ha.row
    rcases this.2 with ⟨h1, _⟩ | ⟨g', cap, cur, hv, _, hh, _⟩
    · rw [h1] at hg; cases hg
    · rw [hv] at hg; simp [Value.ownBlock] at hg; subst hg
      unfold Blk at hb2; rw [hh] at hb2; injection hb2 with hb2; injection hb2 with _ hb2; exact absurd hb2 (by decide)
  · intro x hx
    obtain ⟨g, hg, hcase⟩ := turn_mem hx
    have hgb := (hd.files g hg).2
    have hne : g.id ≠ b := fun e => by have := blk_ne hb hgb (by decide); exact this e.symm
    have hk2 : (w2.setCell ⟨b, 3, none⟩ v').heap[g.id]? = (w.setCell ⟨f.id, 1, none⟩ (.string (laidB f.now p s))).heap[g.id]? :=
      (setCell_heap _ _ _ _ hne).trans (keep g.id hgb.lt (ownT _ _ _ hgb (by decide)))
    rcases hcase with ⟨hid, rfl⟩ | ⟨hid, rfl⟩
    · refine ⟨.inl (hd.files g hg).1, ?_⟩
      show Blk _ g.id #[.string g.image, .string (laidB f.now p s)] _
      have := hgb.set 1 (.string (laidB f.now p s))
      rw [← hid] at hk2
      exact this.at hk2
    · exact ⟨.inl (hd.files x hg).1, hgb.at (hk2.trans (setCell_heap _ _ _ _ hid))⟩
  · refine ⟨ha.grown.os, ha.grown.tape, ha.grown.output, by rw [setCell_size]; have := ha.grown.size; omega, ?_, fun k hk => hk⟩
    intro k hk hnf
    have h1 : k ≠ b := by rintro rfl; exact hnf hd.own
    have h2 : k ≠ f.id := by rintro rfl; exact hnf (hd.files f hf).1
    have h3 : v.ownBlock ≠ some k := fun e => hnf (fg k e)
    rw [setCell_heap _ _ _ _ h1, keep k hk h3, setCell_heap _ _ _ _ h2]
end Go.Proofs.Ytndpmjanflahhaa

/-
  THE WALK OF disk.Write.
-/
namespace Go.Proofs.Ytndpmjanflahhaa
open Go.RowKit Go.MapKept

theorem alloc_disk {b : Nat} {D : DiskA} {F : Nat → Prop} {w : World} (h : IsDisk w b D F) (o : Obj) : IsDisk (w.alloc o) b D F := h.below ((Below.refl _ w).alloc (Nat.le_refl _) _)
theorem alloc_below (w : World) (o : Obj) : Below w.heap.size w (w.alloc o) := (Below.refl _ w).alloc (Nat.le_refl _) _
theorem strs_one (w : World) (n : ByteArray) : StrSl (w.alloc (.cells #[.string n] 9)) (some ⟨w.heap.size, 0, none⟩) [n] := fun i s hi => by
  cases i with
  | zero => simp at hi; subst hi; exact ⟨_, 0, rfl, by simp⟩
  | succ i => simp at hi

section
variable (b : Nat) (D : DiskA) (F : Nat → Prop) (w : World) (h : IsDisk w b D F) (n : ByteArray) (p : Int) (s : ByteArray)

/-- Down, or no such file. -/
theorem Write_barred (e : Int) (he : D.bars [n] = e) (hne : e ≠ 0) (h : IsDisk w b D F) :
    Calls Try.prog 42 #[ptr b, .string n, .int .i64 p, .string s] w fun e' w' => e' = .returned (errn e) ∧ IsDisk w' b D F ∧ Below w.heap.size w w' := by
  have hw1 := alloc_disk h (.cells #[.string n] 9)
  have cb := bars_any b D F _ hw1 _ 1 [n] (by simp) (strs_one w n)
  rw [he] at cb
  have hB := alloc_below w (.cells #[.string n] 9)
  have hne' : (e == 0) = false := by simpa using hne
  clear he hne
  unfold ptr errn at *
  go_enter Try.func42, Try.ntmps42
  go_wp2_with (go_at_call 84; refine cb.mono ?_; rintro e w' ⟨rfl, rfl⟩)
  go_ret
  exact ⟨rfl, hw1, hB⟩

set_option maxHeartbeats 1000000 in
/-- The place is none. -/
theorem Write_range (hdn : D.down = false) (f : FileA) (hf : findF D.files n = some f) (hp : p < 0 ∨ (f.now.size : Int) < p) (h : IsDisk w b D F) :
    Calls Try.prog 42 #[ptr b, .string n, .int .i64 p, .string s] w fun e' w' => e' = .returned (errn 2) ∧ IsDisk w' b D F ∧ Below w.heap.size w w' := by
  have hw1 := alloc_disk h (.cells #[.string n] 9)
  have cb := bars_any b D F _ hw1 _ 1 [n] (by simp) (strs_one w n)
  rw [bars_one, hdn, hf] at cb
  have hB := alloc_below w (.cells #[.string n] 9)
  obtain ⟨m, v, hb, hm, hrow, fm, fg⟩ := hw1.head
  have c2 : (w.alloc (.cells #[.string n] 9)).cell? ⟨b, 2, none⟩ = some (.map (some m)) := hb.cell 2
  have hlk := run_look h.ok.names hm n
  unfold lookV at hlk
  rw [hf] at hlk
  have hfb := (hw1.files f (findF_some hf).1).2
  have cf : (w.alloc (.cells #[.string n] 9)).cell? ⟨f.id, 1, none⟩ = some (.string f.now) := hfb.cell 1
  clear hf hdn
  unfold ptr errn at *
  by_cases h0 : p < 0
  · clear hp
    go_enter Try.func42, Try.ntmps42
    go_wp2_with (go_at_call 84; refine cb.mono ?_; rintro e w' ⟨rfl, rfl⟩)
    go_ret
    exact ⟨rfl, hw1, hB⟩
  · have h1 : (f.now.size : Int) < p := by omega
    clear hp
    go_enter Try.func42, Try.ntmps42
    go_wp2_with (go_at_call 84; refine cb.mono ?_; rintro e w' ⟨rfl, rfl⟩)
    go_ret
    exact ⟨rfl, hw1, hB⟩

set_option maxRecDepth 100000 in
set_option maxHeartbeats 4000000 in
/-- No room. -/
theorem Write_full (hdn : D.down = false) (f : FileA) (hf : findF D.files n = some f) (hp0 : 0 ≤ p) (hp1 : p ≤ f.now.size) (hs : s.size ≤ 1073741824)
    (hC1 : (D.cap : Int) - sizes D.files < p + s.size - f.now.size) (hC2 : (f.now.size : Int) < p + s.size) (h : IsDisk w b D F) :
    Calls Try.prog 42 #[ptr b, .string n, .int .i64 p, .string s] w fun e' w' => e' = .returned (errn 7) ∧ IsDisk w' b D F ∧ Below w.heap.size w w' := by
  have hw1 := alloc_disk h (.cells #[.string n] 9)
  have cb := bars_any b D F _ hw1 _ 1 [n] (by simp) (strs_one w n)
  rw [bars_one, hdn, hf] at cb
  have hB := alloc_below w (.cells #[.string n] 9)
  obtain ⟨m, v, hb, hm, hrow, fm, fg⟩ := hw1.head
  have hw1' := hw1
  have c2 : (w.alloc (.cells #[.string n] 9)).cell? ⟨b, 2, none⟩ = some (.map (some m)) := hb.cell 2
  have hlk := run_look h.ok.names hm n
  unfold lookV at hlk
  rw [hf] at hlk
  have hfb := (hw1.files f (findF_some hf).1).2
  have cf : (w.alloc (.cells #[.string n] 9)).cell? ⟨f.id, 1, none⟩ = some (.string f.now) := hfb.cell 1
  have cR := Room_any b D F (w.alloc (.cells #[.string n] 9)).drew (hw1.below (Below.refl _ _).drew)
  have hlt := hfb.lt
  have hS : sizes D.files ≤ 16777216 := Nat.le_trans h.ok.size h.ok.cap
  have hC := h.ok.cap
  have hN : f.now.size ≤ 16777216 := by have := sizes_without h.ok.names (findF_some hf).1; omega
  clear hf hdn
  generalize sizes D.files = S at *
  generalize D.cap = C at *
  unfold ptr errn at *
  go_enter Try.func42, Try.ntmps42
  go_wp2_with (go_at_call 84; refine cb.mono ?_; rintro e w' ⟨rfl, rfl⟩)
  have e1 : IntKind.i64.wrap (p + (s.size : Int)) = p + s.size := Go.IntWalk.i64_in _ (by omega)
  have e2 : IntKind.i64.wrap (p + (s.size : Int) - (f.now.size : Int)) = p + s.size - f.now.size := Go.IntWalk.i64_in _ (by omega)
  have d1 : decide ((C : Int) - (S : Int) < p + s.size - f.now.size) = true := decide_eq_true hC1
  have d2 : decide ((f.now.size : Int) < p + s.size) = true := decide_eq_true hC2
  go_region_held3 (fun W => W.cell? ⟨f.id, 1, none⟩ = some (.string f.now) ∧ IsDisk W b D F ∧ Below w.heap.size w W)
    (first | exact ⟨cf, hw1, hB⟩ | exact ⟨cf, hw1.below (Below.refl _ _).drew, hB.drew⟩ | exact ⟨cf1, hd1, hB1⟩)
    (first | (go_at_call 56; refine cR.mono ?_; rintro e w1 ⟨rfl, hb1⟩; have cf1 : w1.cell? ⟨f.id, 1, none⟩ = some (.string f.now) := (hb1.cell (p := ⟨f.id, 1, none⟩) hlt).trans cf; have hd1 : IsDisk w1 b D F := (hw1.below (Below.refl _ _).drew).below hb1; have hB1 : Below w.heap.size w w1 := hB.drew.trans (hb1.mono hB.size)))
  go_wp2
  go_ret
  exact ⟨rfl, by assumption, by assumption⟩
end
end Go.Proofs.Ytndpmjanflahhaa

/-
  THE WALK OF disk.Write where there is room: the fuse has burnt; an empty text; a text.
-/
namespace Go.Proofs.Ytndpmjanflahhaa
open Go.RowKit Go.MapKept

theorem info_write : (Try.prog.info? 127).map (fun i => (i.zero, i.size, i.bytes)) = some (some (.agg #[.pointer none, .int .i64 0, .string ByteArray.empty]), 3, 32) := by kernel_rfl
theorem new_cells3 (w : World) (a b c : Value) (T : TypeId) : ∀ j u, [a, b, c][j]? = some u → (w.alloc (.cells #[a, b, c] T)).cell? ((⟨w.heap.size, 0, none⟩ : Addr).add j) = some u := by
  intro j u hj
  match j, hj with
  | 0, hj => simp at hj; subst hj; simp [Addr.add]
  | 1, hj => simp at hj; subst hj; simp [Addr.add]
  | 2, hj => simp at hj; subst hj; simp [Addr.add]
  | j + 3, hj => simp at hj
theorem new_cells3' (w : World) (K : Nat) (hK : w.heap.size = K) (a b c : Value) (T : TypeId) : ∀ j u, [a, b, c][j]? = some u → (w.alloc (.cells #[a, b, c] T)).cell? ((⟨K, 0, none⟩ : Addr).add j) = some u := by
  subst hK; exact new_cells3 w a b c T

section
variable (b : Nat) (D : DiskA) (F : Nat → Prop) (w : World) (n : ByteArray) (p : Nat) (s : ByteArray)

set_option maxRecDepth 100000 in
set_option maxHeartbeats 8000000 in
theorem Write_burnt_yes (hdn : D.down = false) (f : FileA) (hf : findF D.files n = some f) (hp1 : p ≤ f.now.size) (hs : s.size ≤ 1073741824)
    (hC : (D.cap : Int) - sizes D.files < p + s.size - f.now.size ∧ ¬ (f.now.size : Int) < p + s.size) (hbn : D.burn.1 = false) (h : IsDisk w b D F) :
    Calls Try.prog 42 #[ptr b, .string n, .int .i64 p, .string s] w fun e' w' => e' = .returned (errn 8) ∧ IsDisk w' b D.burn.2 F ∧ Step F w F w' := by
  have hw1 := alloc_disk h (.cells #[.string n] 9)
  have cb := bars_any b D F _ hw1 _ 1 [n] (by simp) (strs_one w n)
  rw [bars_one, hdn, hf] at cb
  have hB := alloc_below w (.cells #[.string n] 9)
  obtain ⟨m, v, hb, hm, hrow, fm, fg⟩ := hw1.head
  have c2 : (w.alloc (.cells #[.string n] 9)).cell? ⟨b, 2, none⟩ = some (.map (some m)) := hb.cell 2
  have hlk := run_look h.ok.names hm n
  unfold lookV at hlk
  rw [hf] at hlk
  have hfb := (hw1.files f (findF_some hf).1).2
  have cf : (w.alloc (.cells #[.string n] 9)).cell? ⟨f.id, 1, none⟩ = some (.string f.now) := hfb.cell 1
  have cR := Room_any b D F (w.alloc (.cells #[.string n] 9)).drew (hw1.below (Below.refl _ _).drew)
  have cd := fun W hW => done_any b D F W hW
  have hlt := hfb.lt
  have hS : sizes D.files ≤ 16777216 := Nat.le_trans h.ok.size h.ok.cap
  have hCc := h.ok.cap
  have hN : f.now.size ≤ 16777216 := by have := sizes_without h.ok.names (findF_some hf).1; omega
  rw [hbn] at cd
  clear hf hdn hbn
  generalize hSD : sizes D.files = S at *
  have hSD' := Lib.hid hSD
  clear hSD
  unfold ptr errn at *
  have e1 : IntKind.i64.wrap ((p : Int) + (s.size : Int)) = p + s.size := Go.IntWalk.i64_in _ (by omega)
  have e2 : IntKind.i64.wrap ((p : Int) + (s.size : Int) - (f.now.size : Int)) = p + s.size - f.now.size := Go.IntWalk.i64_in _ (by omega)
  have hC1 := hC.1
  have d1 : decide ((D.cap : Int) - (S : Int) < p + s.size - f.now.size) = true := decide_eq_true hC.1
  have d2 : decide ((f.now.size : Int) < p + s.size) = false := decide_eq_false hC.2
  have hroom : Hid (¬ ((D.cap : Int) - (S : Int) < p + s.size - f.now.size ∧ (f.now.size : Int) < p + s.size)) := fun hh => hC.2 hh.2
  clear hC
  go_enter Try.func42, Try.ntmps42
  go_wp2_with (go_at_call 84; refine cb.mono ?_; rintro e w' ⟨rfl, rfl⟩)
  go_region_held3 (fun W => W.cell? ⟨f.id, 1, none⟩ = some (.string f.now) ∧ IsDisk W b D F ∧ Below w.heap.size w W)
    (first | exact ⟨cf, hw1, hB⟩ | exact ⟨cf, hw1.below (Below.refl _ _).drew, hB.drew⟩ | exact ⟨cf1, hd1, hB1⟩)
    (first | (go_at_call 56; refine cR.mono ?_; rintro e w1 ⟨rfl, hb1⟩; have cf1 : w1.cell? ⟨f.id, 1, none⟩ = some (.string f.now) := (hb1.cell (p := ⟨f.id, 1, none⟩) hlt).trans cf; have hd1 : IsDisk w1 b D F := (hw1.below (Below.refl _ _).drew).below hb1; have hB1 : Below w.heap.size w w1 := hB.drew.trans (hb1.mono hB.size)))
  have cd1 := cd _ hd1
  clear cd
  go_wp2_with (go_at_call 85; refine cd1.mono ?_; rintro e w2 ⟨rfl, hd2, hs2⟩)
  go_ret
  exact ⟨rfl, hd2, (Step.of_below hB1).trans hs2⟩

set_option maxRecDepth 100000 in
set_option maxHeartbeats 8000000 in
theorem Write_empty_yes (hdn : D.down = false) (f : FileA) (hf : findF D.files n = some f) (hp1 : p ≤ f.now.size) (hs : s.size ≤ 1073741824)
    (hC : (D.cap : Int) - sizes D.files < p + s.size - f.now.size ∧ ¬ (f.now.size : Int) < p + s.size) (hbn : D.burn.1 = true) (hse : s.toList = []) (h : IsDisk w b D F) :
    Calls Try.prog 42 #[ptr b, .string n, .int .i64 p, .string s] w fun e' w' => e' = .returned (errn 0) ∧ IsDisk w' b D.burn.2 F ∧ Step F w F w' := by
  have hw1 := alloc_disk h (.cells #[.string n] 9)
  have cb := bars_any b D F _ hw1 _ 1 [n] (by simp) (strs_one w n)
  rw [bars_one, hdn, hf] at cb
  have hB := alloc_below w (.cells #[.string n] 9)
  obtain ⟨m, v, hb, hm, hrow, fm, fg⟩ := hw1.head
  have c2 : (w.alloc (.cells #[.string n] 9)).cell? ⟨b, 2, none⟩ = some (.map (some m)) := hb.cell 2
  have hlk := run_look h.ok.names hm n
  unfold lookV at hlk
  rw [hf] at hlk
  have hfb := (hw1.files f (findF_some hf).1).2
  have cf : (w.alloc (.cells #[.string n] 9)).cell? ⟨f.id, 1, none⟩ = some (.string f.now) := hfb.cell 1
  have cR := Room_any b D F (w.alloc (.cells #[.string n] 9)).drew (hw1.below (Below.refl _ _).drew)
  have cd := fun W hW => done_any b D F W hW
  have hlt := hfb.lt
  have hS : sizes D.files ≤ 16777216 := Nat.le_trans h.ok.size h.ok.cap
  have hCc := h.ok.cap
  have hN : f.now.size ≤ 16777216 := by have := sizes_without h.ok.names (findF_some hf).1; omega
  rw [hbn] at cd
  clear hf hdn hbn
  generalize hSD : sizes D.files = S at *
  have hSD' := Lib.hid hSD
  clear hSD
  unfold ptr errn at *
  have e1 : IntKind.i64.wrap ((p : Int) + (s.size : Int)) = p + s.size := Go.IntWalk.i64_in _ (by omega)
  have e2 : IntKind.i64.wrap ((p : Int) + (s.size : Int) - (f.now.size : Int)) = p + s.size - f.now.size := Go.IntWalk.i64_in _ (by omega)
  have hC1 := hC.1
  have d1 : decide ((D.cap : Int) - (S : Int) < p + s.size - f.now.size) = true := decide_eq_true hC.1
  have d2 : decide ((f.now.size : Int) < p + s.size) = false := decide_eq_false hC.2
  have hroom : Hid (¬ ((D.cap : Int) - (S : Int) < p + s.size - f.now.size ∧ (f.now.size : Int) < p + s.size)) := fun hh => hC.2 hh.2
  clear hC
  go_enter Try.func42, Try.ntmps42
  go_wp2_with (go_at_call 84; refine cb.mono ?_; rintro e w' ⟨rfl, rfl⟩)
  go_region_held3 (fun W => W.cell? ⟨f.id, 1, none⟩ = some (.string f.now) ∧ IsDisk W b D F ∧ Below w.heap.size w W)
    (first | exact ⟨cf, hw1, hB⟩ | exact ⟨cf, hw1.below (Below.refl _ _).drew, hB.drew⟩ | exact ⟨cf1, hd1, hB1⟩)
    (first | (go_at_call 56; refine cR.mono ?_; rintro e w1 ⟨rfl, hb1⟩; have cf1 : w1.cell? ⟨f.id, 1, none⟩ = some (.string f.now) := (hb1.cell (p := ⟨f.id, 1, none⟩) hlt).trans cf; have hd1 : IsDisk w1 b D F := (hw1.below (Below.refl _ _).drew).below hb1; have hB1 : Below w.heap.size w w1 := hB.drew.trans (hb1.mono hB.size)))
  have cd1 := cd _ hd1
  clear cd
  go_wp2_with (go_at_call 85; refine cd1.mono ?_; rintro e w2 ⟨rfl, hd2, hs2⟩)
  go_ret
  exact ⟨rfl, hd2, (Step.of_below hB1).trans hs2⟩

set_option maxRecDepth 100000 in
set_option maxHeartbeats 8000000 in
theorem Write_put_yes (hdn : D.down = false) (f : FileA) (hf : findF D.files n = some f) (hp1 : p ≤ f.now.size) (hs : s.size ≤ 1073741824)
    (hC : (D.cap : Int) - sizes D.files < p + s.size - f.now.size ∧ ¬ (f.now.size : Int) < p + s.size) (hbn : D.burn.1 = true) (hse0 : ¬ s.toList = []) (hwl : D.waits.length < 1099511627776) (h : IsDisk w b D F) :
    Calls Try.prog 42 #[ptr b, .string n, .int .i64 p, .string s] w fun e' w' => ∃ F', e' = .returned (errn 0) ∧ IsDisk w' b (D.burn.2.put f p s) F' ∧ Step F w F' w' := by
  have hw1 := alloc_disk h (.cells #[.string n] 9)
  have cb := bars_any b D F _ hw1 _ 1 [n] (by simp) (strs_one w n)
  rw [bars_one, hdn, hf] at cb
  have hB := alloc_below w (.cells #[.string n] 9)
  obtain ⟨m, v, hb, hm, hrow, fm, fg⟩ := hw1.head
  have c2 : (w.alloc (.cells #[.string n] 9)).cell? ⟨b, 2, none⟩ = some (.map (some m)) := hb.cell 2
  have hlk := run_look h.ok.names hm n
  unfold lookV at hlk
  rw [hf] at hlk
  have hfb := (hw1.files f (findF_some hf).1).2
  have cf : (w.alloc (.cells #[.string n] 9)).cell? ⟨f.id, 1, none⟩ = some (.string f.now) := hfb.cell 1
  have cR := Room_any b D F (w.alloc (.cells #[.string n] 9)).drew (hw1.below (Below.refl _ _).drew)
  have cd := fun W hW => done_any b D F W hW
  have hlt := hfb.lt
  have hS : sizes D.files ≤ 16777216 := Nat.le_trans h.ok.size h.ok.cap
  have hCc := h.ok.cap
  have hN : f.now.size ≤ 16777216 := by have := sizes_without h.ok.names (findF_some hf).1; omega
  rw [hbn] at cd
  have hfm := (findF_some hf).1
  have hbf := burn_files D
  have hcL := fun W => laid_any f.now p s W (by omega) (by omega) hs
  have hse := isEmpty_of_ne hse0
  have hsn : Hid (s.size ≠ 0) := fun e => hse0 (nil_of_size.2 e)
  have hid0 := h.ok
  have hwl' := Lib.hid hwl
  obtain ⟨iW, hiW, hzW, hsW, hyW⟩ := info_parts info_write
  clear hf hdn hbn hse0 hwl
  generalize hSD : sizes D.files = S at *
  have hSD' := Lib.hid hSD
  clear hSD
  unfold ptr errn at *
  have e1 : IntKind.i64.wrap ((p : Int) + (s.size : Int)) = p + s.size := Go.IntWalk.i64_in _ (by omega)
  have e2 : IntKind.i64.wrap ((p : Int) + (s.size : Int) - (f.now.size : Int)) = p + s.size - f.now.size := Go.IntWalk.i64_in _ (by omega)
  have hC1 := hC.1
  have d1 : decide ((D.cap : Int) - (S : Int) < p + s.size - f.now.size) = true := decide_eq_true hC.1
  have d2 : decide ((f.now.size : Int) < p + s.size) = false := decide_eq_false hC.2
  have hroom : Hid (¬ ((D.cap : Int) - (S : Int) < p + s.size - f.now.size ∧ (f.now.size : Int) < p + s.size)) := fun hh => hC.2 hh.2
  clear hC
  go_enter Try.func42, Try.ntmps42
  go_wp2_with (go_at_call 84; refine cb.mono ?_; rintro e w' ⟨rfl, rfl⟩)
  go_region_held3 (fun W => W.cell? ⟨f.id, 1, none⟩ = some (.string f.now) ∧ IsDisk W b D F ∧ Below w.heap.size w W)
    (first | exact ⟨cf, hw1, hB⟩ | exact ⟨cf, hw1.below (Below.refl _ _).drew, hB.drew⟩ | exact ⟨cf1, hd1, hB1⟩)
    (first | (go_at_call 56; refine cR.mono ?_; rintro e w1 ⟨rfl, hb1⟩; have cf1 : w1.cell? ⟨f.id, 1, none⟩ = some (.string f.now) := (hb1.cell (p := ⟨f.id, 1, none⟩) hlt).trans cf; have hd1 : IsDisk w1 b D F := (hw1.below (Below.refl _ _).drew).below hb1; have hB1 : Below w.heap.size w w1 := hB.drew.trans (hb1.mono hB.size)))
  have cd1 := cd _ hd1
  clear cd
  go_wp2_with (first
    | (go_at_call 85; refine cd1.mono ?_; rintro e w2 ⟨rfl, hd2, hs2⟩; have hfm2 : f ∈ D.burn.2.files := (by rw [hbf.1]; exact hfm); have cf2 : w2.cell? ⟨f.id, 1, none⟩ = some (.string f.now) := (hd2.files f hfm2).2.cell 1)
    | (go_at_call 86; refine (hcL _).mono ?_; rintro e w3 ⟨rfl, hB3⟩; have hd3 := hd2.below hB3; have cf3 : w3.cell? ⟨f.id, 1, none⟩ = some (.string f.now) := (hd3.files f hfm2).2.cell 1; have ff3 := (hd3.files f hfm2).2.frozen 1; obtain ⟨m3, v3, hb3, hm3, hr3, fm3, fg3⟩ := hd3.head; have c33 : w3.cell? ⟨b, 3, none⟩ = some v3 := hb3.cell 3)
    | (at_builtin; refine wpList_append_new rfl _ _ 118 rfl 127 3 32 iW _ Try.underlying118 hiW hzW hsW hyW rfl (by decide) v3 _ _ rfl (put_owns hd3 hfm2 _ _ hr3) _ 1 1 [.pointer (some ⟨f.id, 0, none⟩), .int .i64 p, .string s] rfl rfl (new_cells3' _ _ (setCell_size _ _ _) _ _ _ _) (by simp [Value.oneCell']) (by decide) (by rw [hbf.2.1]; have := hwl'.out; unfold maxLen; omega) (by rw [hbf.2.1]; have := hwl'.out; omega) ?_; intro g4 cap4 w4 ha; have hbb := put_head hd3 hfm2 hb3 hr3 ha; have c34 : w4.cell? ⟨b, 3, none⟩ = some v3 := hbb.cell 3; have f34 := hbb.frozen 3))
  go_ret
  obtain ⟨hd4, hs4⟩ := put_disk hd3 hfm2 hb3 hm3 fm3 fg3 hr3 ha (DiskA.Ok.put hd3.ok hfm2 hsn.out (by rw [hbf.1, hbf.2.2]; have := hroom.out; rw [hSD'.out]; exact this))
  rw [hbf.2.1] at hd4 hs4
  exact ⟨_, rfl, hd4, (Step.of_below hB1).trans (hs2.trans ((Step.of_below hB3).trans hs4))⟩

set_option maxRecDepth 100000 in
set_option maxHeartbeats 8000000 in
theorem Write_burnt_no (hdn : D.down = false) (f : FileA) (hf : findF D.files n = some f) (hp1 : p ≤ f.now.size) (hs : s.size ≤ 1073741824)
    (hC : ¬ (D.cap : Int) - sizes D.files < p + s.size - f.now.size) (hbn : D.burn.1 = false) (h : IsDisk w b D F) :
    Calls Try.prog 42 #[ptr b, .string n, .int .i64 p, .string s] w fun e' w' => e' = .returned (errn 8) ∧ IsDisk w' b D.burn.2 F ∧ Step F w F w' := by
  have hw1 := alloc_disk h (.cells #[.string n] 9)
  have cb := bars_any b D F _ hw1 _ 1 [n] (by simp) (strs_one w n)
  rw [bars_one, hdn, hf] at cb
  have hB := alloc_below w (.cells #[.string n] 9)
  obtain ⟨m, v, hb, hm, hrow, fm, fg⟩ := hw1.head
  have c2 : (w.alloc (.cells #[.string n] 9)).cell? ⟨b, 2, none⟩ = some (.map (some m)) := hb.cell 2
  have hlk := run_look h.ok.names hm n
  unfold lookV at hlk
  rw [hf] at hlk
  have hfb := (hw1.files f (findF_some hf).1).2
  have cf : (w.alloc (.cells #[.string n] 9)).cell? ⟨f.id, 1, none⟩ = some (.string f.now) := hfb.cell 1
  have cR := Room_any b D F (w.alloc (.cells #[.string n] 9)).drew (hw1.below (Below.refl _ _).drew)
  have cd := fun W hW => done_any b D F W hW
  have hlt := hfb.lt
  have hS : sizes D.files ≤ 16777216 := Nat.le_trans h.ok.size h.ok.cap
  have hCc := h.ok.cap
  have hN : f.now.size ≤ 16777216 := by have := sizes_without h.ok.names (findF_some hf).1; omega
  rw [hbn] at cd
  clear hf hdn hbn
  generalize hSD : sizes D.files = S at *
  have hSD' := Lib.hid hSD
  clear hSD
  unfold ptr errn at *
  have e1 : IntKind.i64.wrap ((p : Int) + (s.size : Int)) = p + s.size := Go.IntWalk.i64_in _ (by omega)
  have e2 : IntKind.i64.wrap ((p : Int) + (s.size : Int) - (f.now.size : Int)) = p + s.size - f.now.size := Go.IntWalk.i64_in _ (by omega)
  have d1 : decide ((D.cap : Int) - (S : Int) < p + s.size - f.now.size) = false := decide_eq_false hC
  have hroom : Hid (¬ ((D.cap : Int) - (S : Int) < p + s.size - f.now.size ∧ (f.now.size : Int) < p + s.size)) := fun hh => hC hh.1
  clear hC
  go_enter Try.func42, Try.ntmps42
  go_wp2_with (go_at_call 84; refine cb.mono ?_; rintro e w' ⟨rfl, rfl⟩)
  refine wp_region_held_drew (S := fun W => W.cell? ⟨f.id, 1, none⟩ = some (.string f.now) ∧ IsDisk W b D F ∧ Below w.heap.size w W) (by kernel_rfl) ⟨cf, hw1.below (Below.refl _ _).drew, hB.drew⟩ (fun hHeld => ?_)
  refine wpAnyH_take (i := 0) (v := ?_) (oi := ⟨some 38, _, _, _, _, _⟩) rfl (by kernel_rfl) (by kernel_rfl) (by kernel_rfl) (fun _ _ _ h => h) (Or.inl ⟨rfl, ?_⟩) (by assumption) ?_
  rotate_left
  · (intro W hW; (try dsimp only at hW); go_simp; try with_reducible rfl)
  try simp only [Act.put, List.setIfInBounds_toArray, List.set_cons_zero, List.set_cons_succ]
  refine wpAnyH_take (i := 1) (v := ?_) (oi := ⟨some 39, _, _, _, _, _⟩) rfl (by kernel_rfl) (by kernel_rfl) (by kernel_rfl) (fun _ _ _ h => h) (Or.inl ⟨rfl, ?_⟩) (by assumption) ?_
  rotate_left
  · (intro W hW; (try dsimp only at hW); go_simp; try with_reducible rfl)
  try simp only [Act.put, List.setIfInBounds_toArray, List.set_cons_zero, List.set_cons_succ]
  refine wpAnyH_take (i := 2) (v := ?_) (oi := ⟨some 40, _, _, _, _, _⟩) rfl (by kernel_rfl) (by kernel_rfl) (by kernel_rfl) (fun _ _ _ h => h) (Or.inl ⟨rfl, ?_⟩) (by assumption) ?_
  rotate_left
  · (intro W hW; (try dsimp only at hW); go_simp; try with_reducible rfl)
  try simp only [Act.put, List.setIfInBounds_toArray, List.set_cons_zero, List.set_cons_succ]
  refine wpAnyH_take (i := 3) (v := ?_) (oi := ⟨some 41, _, _, _, _, _⟩) rfl (by kernel_rfl) (by kernel_rfl) (by kernel_rfl) (fun _ _ _ h => h) (Or.inl ⟨rfl, ?_⟩) (by assumption) ?_
  rotate_left
  · (intro W hW; (try dsimp only at hW); go_simp; try with_reducible rfl)
  try simp only [Act.put, List.setIfInBounds_toArray, List.set_cons_zero, List.set_cons_succ]
  refine wpAnyH_take (i := 4) (v := ?_) (oi := ⟨some 42, _, _, _, _, _⟩) rfl (by kernel_rfl) (by kernel_rfl) (by kernel_rfl) (fun _ _ _ h => h) (Or.inl ⟨rfl, ?_⟩) (by assumption) ?_
  rotate_left
  · (intro W hW; (try dsimp only at hW); go_simp; try with_reducible rfl)
  try simp only [Act.put, List.setIfInBounds_toArray, List.set_cons_zero, List.set_cons_succ]
  refine wpAnyH_take (i := 5) (v := ?_) (oi := ⟨some 43, _, _, _, _, _⟩) rfl (by kernel_rfl) (by kernel_rfl) (by kernel_rfl) (fun _ _ _ h => h) (Or.inl ⟨rfl, ?_⟩) (by assumption) ?_
  rotate_left
  · (intro W hW; (try dsimp only at hW); go_simp; try with_reducible rfl)
  try simp only [Act.put, List.setIfInBounds_toArray, List.set_cons_zero, List.set_cons_succ]
  refine wpAnyH_take (i := 6) (v := ?_) (oi := ⟨some 44, _, _, _, _, _⟩) rfl (by kernel_rfl) (by kernel_rfl) (by kernel_rfl) (fun _ _ _ h => h) (Or.inl ⟨rfl, ?_⟩) (by assumption) ?_
  rotate_left
  · (intro W hW; (try dsimp only at hW); go_simp; try with_reducible rfl)
  try simp only [Act.put, List.setIfInBounds_toArray, List.set_cons_zero, List.set_cons_succ]
  refine wpAnyH_take (i := 7) (v := ?_) (oi := ⟨some 45, _, _, _, _, _⟩) rfl (by kernel_rfl) (by kernel_rfl) (by kernel_rfl) (fun _ _ _ h => h) (Or.inl ⟨rfl, ?_⟩) (by assumption) ?_
  rotate_left
  · (intro W hW; (try dsimp only at hW); go_simp; try with_reducible rfl)
  try simp only [Act.put, List.setIfInBounds_toArray, List.set_cons_zero, List.set_cons_succ]
  refine wpAnyH_take (i := 8) (v := ?_) (oi := ⟨some 46, _, _, _, _, _⟩) rfl (by kernel_rfl) (by kernel_rfl) (by kernel_rfl) (fun _ _ _ h => h) (Or.inl ⟨rfl, ?_⟩) (by assumption) ?_
  rotate_left
  · (intro W hW; (try dsimp only at hW); go_simp; try with_reducible rfl)
  try simp only [Act.put, List.setIfInBounds_toArray, List.set_cons_zero, List.set_cons_succ]
  refine wpAnyH_take (i := 9) (v := ?_) (oi := ⟨some 47, _, _, _, _, _⟩) rfl (by kernel_rfl) (by kernel_rfl) (by kernel_rfl) (fun _ _ _ h => h) (Or.inl ⟨rfl, ?_⟩) (by assumption) ?_
  rotate_left
  · (intro W hW; (try dsimp only at hW); go_simp; try with_reducible rfl)
  try simp only [Act.put, List.setIfInBounds_toArray, List.set_cons_zero, List.set_cons_succ]
  refine wpAnyH_take (i := 10) (v := ?_) (oi := ⟨some 48, _, _, _, _, _⟩) rfl (by kernel_rfl) (by kernel_rfl) (by kernel_rfl) (fun _ _ _ h => h) (Or.inl ⟨rfl, ?_⟩) (by assumption) ?_
  rotate_left
  · (intro W hW; (try dsimp only at hW); go_simp; try with_reducible rfl)
  try simp only [Act.put, List.setIfInBounds_toArray, List.set_cons_zero, List.set_cons_succ]
  refine wpAnyH_ready (rs := [11]) (by kernel_rfl) (by simp) ?_
  refine AllReadyH.cons (o := ⟨some 49, _, _, _, _, _⟩) rfl (fun K hK => ?_) AllReadyH.nil
  go_simp
  go_at_call 56
  refine cR.mono ?_
  rintro e w1 ⟨rfl, hb1⟩
  have cf1 : w1.cell? ⟨f.id, 1, none⟩ = some (.string f.now) := (hb1.cell (p := ⟨f.id, 1, none⟩) hlt).trans cf
  have hd1 : IsDisk w1 b D F := (hw1.below (Below.refl _ _).drew).below hb1
  have hB1 : Below w.heap.size w w1 := hB.drew.trans (hb1.mono hB.size)
  refine hK.out _ _ ⟨cf1, hd1, hB1⟩ (fun hHeld1 => ?_)
  clear hK K hHeld
  try simp only [Act.put, List.setIfInBounds_toArray, List.set_cons_zero, List.set_cons_succ]
  refine wpAnyH_take (i := 12) (v := ?_) (oi := ⟨some 50, _, _, _, _, _⟩) rfl (by kernel_rfl) (by kernel_rfl) (by kernel_rfl) (fun _ _ _ h => h) (Or.inl ⟨rfl, ?_⟩) (by assumption) ?_
  rotate_left
  · (intro W hW; (try dsimp only at hW); go_simp; try with_reducible rfl)
  try simp only [Act.put, List.setIfInBounds_toArray, List.set_cons_zero, List.set_cons_succ]
  refine wpAnyH_take (i := 13) (v := ?_) (oi := ⟨some 51, _, _, _, _, _⟩) rfl (by kernel_rfl) (by kernel_rfl) (by kernel_rfl) (fun _ _ _ h => h) (Or.inl ⟨rfl, ?_⟩) (by assumption) ?_
  rotate_left
  · (intro W hW; (try dsimp only at hW); go_simp; try with_reducible rfl)
  try simp only [Act.put, List.setIfInBounds_toArray, List.set_cons_zero, List.set_cons_succ]
  refine wpAnyH_take (i := 14) (v := undef) (oi := ⟨some 52, _, _, _, _, _⟩) rfl (by kernel_rfl) (by kernel_rfl) (by kernel_rfl) (fun _ _ _ h => h) (Or.inr ⟨rfl, rfl⟩) (by assumption) ?_
  try simp only [Act.put, List.setIfInBounds_toArray, List.set_cons_zero, List.set_cons_succ]
  refine wpAnyH_take (i := 15) (v := undef) (oi := ⟨some 53, _, _, _, _, _⟩) rfl (by kernel_rfl) (by kernel_rfl) (by kernel_rfl) (fun _ _ _ h => h) (Or.inr ⟨rfl, rfl⟩) (by assumption) ?_
  try simp only [Act.put, List.setIfInBounds_toArray, List.set_cons_zero, List.set_cons_succ]
  refine wpAnyH_take (i := 16) (v := undef) (oi := ⟨some 54, _, _, _, _, _⟩) rfl (by kernel_rfl) (by kernel_rfl) (by kernel_rfl) (fun _ _ _ h => h) (Or.inr ⟨rfl, rfl⟩) (by assumption) ?_
  try simp only [Act.put, List.setIfInBounds_toArray, List.set_cons_zero, List.set_cons_succ]
  refine wpAnyH_take (i := 17) (v := undef) (oi := ⟨some 55, _, _, _, _, _⟩) rfl (by kernel_rfl) (by kernel_rfl) (by kernel_rfl) (fun _ _ _ h => h) (Or.inr ⟨rfl, rfl⟩) (by assumption) ?_
  try simp only [Act.put, List.setIfInBounds_toArray, List.set_cons_zero, List.set_cons_succ]
  refine wpAnyH_take (i := 18) (v := undef) (oi := ⟨some 56, _, _, _, _, _⟩) rfl (by kernel_rfl) (by kernel_rfl) (by kernel_rfl) (fun _ _ _ h => h) (Or.inr ⟨rfl, rfl⟩) (by assumption) ?_
  try simp only [Act.put, List.setIfInBounds_toArray, List.set_cons_zero, List.set_cons_succ]
  refine wpAnyH_take (i := 19) (v := undef) (oi := ⟨some 57, _, _, _, _, _⟩) rfl (by kernel_rfl) (by kernel_rfl) (by kernel_rfl) (fun _ _ _ h => h) (Or.inr ⟨rfl, rfl⟩) (by assumption) ?_
  try simp only [Act.put, List.setIfInBounds_toArray, List.set_cons_zero, List.set_cons_succ]
  refine wpAnyH_take (i := 20) (v := undef) (oi := ⟨some 58, _, _, _, _, _⟩) rfl (by kernel_rfl) (by kernel_rfl) (by kernel_rfl) (fun _ _ _ h => h) (Or.inr ⟨rfl, rfl⟩) (by assumption) ?_
  try simp only [Act.put, List.setIfInBounds_toArray, List.set_cons_zero, List.set_cons_succ]
  refine wpAnyH_take (i := 21) (v := undef) (oi := ⟨some 59, _, _, _, _, _⟩) rfl (by kernel_rfl) (by kernel_rfl) (by kernel_rfl) (fun _ _ _ h => h) (Or.inr ⟨rfl, rfl⟩) (by assumption) ?_
  try simp only [Act.put, List.setIfInBounds_toArray, List.set_cons_zero, List.set_cons_succ]
  refine wpAnyH_take (i := 22) (v := undef) (oi := ⟨some 60, _, _, _, _, _⟩) rfl (by kernel_rfl) (by kernel_rfl) (by kernel_rfl) (fun _ _ _ h => h) (Or.inr ⟨rfl, rfl⟩) (by assumption) ?_
  try simp only [Act.put, List.setIfInBounds_toArray, List.set_cons_zero, List.set_cons_succ]
  refine wpAnyH_take (i := 23) (v := undef) (oi := ⟨some 61, _, _, _, _, _⟩) rfl (by kernel_rfl) (by kernel_rfl) (by kernel_rfl) (fun _ _ _ h => h) (Or.inr ⟨rfl, rfl⟩) (by assumption) ?_
  try simp only [Act.put, List.setIfInBounds_toArray, List.set_cons_zero, List.set_cons_succ]
  refine wpAnyH_take (i := 24) (v := ?_) (oi := ⟨some 62, _, _, _, _, _⟩) rfl (by kernel_rfl) (by kernel_rfl) (by kernel_rfl) (fun _ _ _ h => h) (Or.inl ⟨rfl, ?_⟩) (by assumption) ?_
  rotate_left
  · (intro W hW; (try dsimp only at hW); go_simp; try with_reducible rfl)
  try simp only [Act.put, List.setIfInBounds_toArray, List.set_cons_zero, List.set_cons_succ]
  refine wpAnyH_take (i := 25) (v := ?_) (oi := ⟨some 37, _, _, _, _, _⟩) rfl (by kernel_rfl) (by kernel_rfl) (by kernel_rfl) (fun _ _ _ h => h) (Or.inl ⟨rfl, ?_⟩) (by assumption) ?_
  rotate_left
  · (intro W hW; (try dsimp only at hW); go_simp; try with_reducible rfl)
  try simp only [Act.put, List.setIfInBounds_toArray, List.set_cons_zero, List.set_cons_succ]
  refine wpAnyH_done (by kernel_rfl) ?_ _
  have cd1 := cd _ hd1
  clear cd
  go_wp2_with (go_at_call 85; refine cd1.mono ?_; rintro e w2 ⟨rfl, hd2, hs2⟩)
  go_ret
  exact ⟨rfl, hd2, (Step.of_below hB1).trans hs2⟩

set_option maxRecDepth 100000 in
set_option maxHeartbeats 8000000 in
theorem Write_empty_no (hdn : D.down = false) (f : FileA) (hf : findF D.files n = some f) (hp1 : p ≤ f.now.size) (hs : s.size ≤ 1073741824)
    (hC : ¬ (D.cap : Int) - sizes D.files < p + s.size - f.now.size) (hbn : D.burn.1 = true) (hse : s.toList = []) (h : IsDisk w b D F) :
    Calls Try.prog 42 #[ptr b, .string n, .int .i64 p, .string s] w fun e' w' => e' = .returned (errn 0) ∧ IsDisk w' b D.burn.2 F ∧ Step F w F w' := by
  have hw1 := alloc_disk h (.cells #[.string n] 9)
  have cb := bars_any b D F _ hw1 _ 1 [n] (by simp) (strs_one w n)
  rw [bars_one, hdn, hf] at cb
  have hB := alloc_below w (.cells #[.string n] 9)
  obtain ⟨m, v, hb, hm, hrow, fm, fg⟩ := hw1.head
  have c2 : (w.alloc (.cells #[.string n] 9)).cell? ⟨b, 2, none⟩ = some (.map (some m)) := hb.cell 2
  have hlk := run_look h.ok.names hm n
  unfold lookV at hlk
  rw [hf] at hlk
  have hfb := (hw1.files f (findF_some hf).1).2
  have cf : (w.alloc (.cells #[.string n] 9)).cell? ⟨f.id, 1, none⟩ = some (.string f.now) := hfb.cell 1
  have cR := Room_any b D F (w.alloc (.cells #[.string n] 9)).drew (hw1.below (Below.refl _ _).drew)
  have cd := fun W hW => done_any b D F W hW
  have hlt := hfb.lt
  have hS : sizes D.files ≤ 16777216 := Nat.le_trans h.ok.size h.ok.cap
  have hCc := h.ok.cap
  have hN : f.now.size ≤ 16777216 := by have := sizes_without h.ok.names (findF_some hf).1; omega
  rw [hbn] at cd
  clear hf hdn hbn
  generalize hSD : sizes D.files = S at *
  have hSD' := Lib.hid hSD
  clear hSD
  unfold ptr errn at *
  have e1 : IntKind.i64.wrap ((p : Int) + (s.size : Int)) = p + s.size := Go.IntWalk.i64_in _ (by omega)
  have e2 : IntKind.i64.wrap ((p : Int) + (s.size : Int) - (f.now.size : Int)) = p + s.size - f.now.size := Go.IntWalk.i64_in _ (by omega)
  have d1 : decide ((D.cap : Int) - (S : Int) < p + s.size - f.now.size) = false := decide_eq_false hC
  have hroom : Hid (¬ ((D.cap : Int) - (S : Int) < p + s.size - f.now.size ∧ (f.now.size : Int) < p + s.size)) := fun hh => hC hh.1
  clear hC
  go_enter Try.func42, Try.ntmps42
  go_wp2_with (go_at_call 84; refine cb.mono ?_; rintro e w' ⟨rfl, rfl⟩)
  refine wp_region_held_drew (S := fun W => W.cell? ⟨f.id, 1, none⟩ = some (.string f.now) ∧ IsDisk W b D F ∧ Below w.heap.size w W) (by kernel_rfl) ⟨cf, hw1.below (Below.refl _ _).drew, hB.drew⟩ (fun hHeld => ?_)
  refine wpAnyH_take (i := 0) (v := ?_) (oi := ⟨some 38, _, _, _, _, _⟩) rfl (by kernel_rfl) (by kernel_rfl) (by kernel_rfl) (fun _ _ _ h => h) (Or.inl ⟨rfl, ?_⟩) (by assumption) ?_
  rotate_left
  · (intro W hW; (try dsimp only at hW); go_simp; try with_reducible rfl)
  try simp only [Act.put, List.setIfInBounds_toArray, List.set_cons_zero, List.set_cons_succ]
  refine wpAnyH_take (i := 1) (v := ?_) (oi := ⟨some 39, _, _, _, _, _⟩) rfl (by kernel_rfl) (by kernel_rfl) (by kernel_rfl) (fun _ _ _ h => h) (Or.inl ⟨rfl, ?_⟩) (by assumption) ?_
  rotate_left
  · (intro W hW; (try dsimp only at hW); go_simp; try with_reducible rfl)
  try simp only [Act.put, List.setIfInBounds_toArray, List.set_cons_zero, List.set_cons_succ]
  refine wpAnyH_take (i := 2) (v := ?_) (oi := ⟨some 40, _, _, _, _, _⟩) rfl (by kernel_rfl) (by kernel_rfl) (by kernel_rfl) (fun _ _ _ h => h) (Or.inl ⟨rfl, ?_⟩) (by assumption) ?_
  rotate_left
  · (intro W hW; (try dsimp only at hW); go_simp; try with_reducible rfl)
  try simp only [Act.put, List.setIfInBounds_toArray, List.set_cons_zero, List.set_cons_succ]
  refine wpAnyH_take (i := 3) (v := ?_) (oi := ⟨some 41, _, _, _, _, _⟩) rfl (by kernel_rfl) (by kernel_rfl) (by kernel_rfl) (fun _ _ _ h => h) (Or.inl ⟨rfl, ?_⟩) (by assumption) ?_
  rotate_left
  · (intro W hW; (try dsimp only at hW); go_simp; try with_reducible rfl)
  try simp only [Act.put, List.setIfInBounds_toArray, List.set_cons_zero, List.set_cons_succ]
  refine wpAnyH_take (i := 4) (v := ?_) (oi := ⟨some 42, _, _, _, _, _⟩) rfl (by kernel_rfl) (by kernel_rfl) (by kernel_rfl) (fun _ _ _ h => h) (Or.inl ⟨rfl, ?_⟩) (by assumption) ?_
  rotate_left
  · (intro W hW; (try dsimp only at hW); go_simp; try with_reducible rfl)
  try simp only [Act.put, List.setIfInBounds_toArray, List.set_cons_zero, List.set_cons_succ]
  refine wpAnyH_take (i := 5) (v := ?_) (oi := ⟨some 43, _, _, _, _, _⟩) rfl (by kernel_rfl) (by kernel_rfl) (by kernel_rfl) (fun _ _ _ h => h) (Or.inl ⟨rfl, ?_⟩) (by assumption) ?_
  rotate_left
  · (intro W hW; (try dsimp only at hW); go_simp; try with_reducible rfl)
  try simp only [Act.put, List.setIfInBounds_toArray, List.set_cons_zero, List.set_cons_succ]
  refine wpAnyH_take (i := 6) (v := ?_) (oi := ⟨some 44, _, _, _, _, _⟩) rfl (by kernel_rfl) (by kernel_rfl) (by kernel_rfl) (fun _ _ _ h => h) (Or.inl ⟨rfl, ?_⟩) (by assumption) ?_
  rotate_left
  · (intro W hW; (try dsimp only at hW); go_simp; try with_reducible rfl)
  try simp only [Act.put, List.setIfInBounds_toArray, List.set_cons_zero, List.set_cons_succ]
  refine wpAnyH_take (i := 7) (v := ?_) (oi := ⟨some 45, _, _, _, _, _⟩) rfl (by kernel_rfl) (by kernel_rfl) (by kernel_rfl) (fun _ _ _ h => h) (Or.inl ⟨rfl, ?_⟩) (by assumption) ?_
  rotate_left
  · (intro W hW; (try dsimp only at hW); go_simp; try with_reducible rfl)
  try simp only [Act.put, List.setIfInBounds_toArray, List.set_cons_zero, List.set_cons_succ]
  refine wpAnyH_take (i := 8) (v := ?_) (oi := ⟨some 46, _, _, _, _, _⟩) rfl (by kernel_rfl) (by kernel_rfl) (by kernel_rfl) (fun _ _ _ h => h) (Or.inl ⟨rfl, ?_⟩) (by assumption) ?_
  rotate_left
  · (intro W hW; (try dsimp only at hW); go_simp; try with_reducible rfl)
  try simp only [Act.put, List.setIfInBounds_toArray, List.set_cons_zero, List.set_cons_succ]
  refine wpAnyH_take (i := 9) (v := ?_) (oi := ⟨some 47, _, _, _, _, _⟩) rfl (by kernel_rfl) (by kernel_rfl) (by kernel_rfl) (fun _ _ _ h => h) (Or.inl ⟨rfl, ?_⟩) (by assumption) ?_
  rotate_left
  · (intro W hW; (try dsimp only at hW); go_simp; try with_reducible rfl)
  try simp only [Act.put, List.setIfInBounds_toArray, List.set_cons_zero, List.set_cons_succ]
  refine wpAnyH_take (i := 10) (v := ?_) (oi := ⟨some 48, _, _, _, _, _⟩) rfl (by kernel_rfl) (by kernel_rfl) (by kernel_rfl) (fun _ _ _ h => h) (Or.inl ⟨rfl, ?_⟩) (by assumption) ?_
  rotate_left
  · (intro W hW; (try dsimp only at hW); go_simp; try with_reducible rfl)
  try simp only [Act.put, List.setIfInBounds_toArray, List.set_cons_zero, List.set_cons_succ]
  refine wpAnyH_ready (rs := [11]) (by kernel_rfl) (by simp) ?_
  refine AllReadyH.cons (o := ⟨some 49, _, _, _, _, _⟩) rfl (fun K hK => ?_) AllReadyH.nil
  go_simp
  go_at_call 56
  refine cR.mono ?_
  rintro e w1 ⟨rfl, hb1⟩
  have cf1 : w1.cell? ⟨f.id, 1, none⟩ = some (.string f.now) := (hb1.cell (p := ⟨f.id, 1, none⟩) hlt).trans cf
  have hd1 : IsDisk w1 b D F := (hw1.below (Below.refl _ _).drew).below hb1
  have hB1 : Below w.heap.size w w1 := hB.drew.trans (hb1.mono hB.size)
  refine hK.out _ _ ⟨cf1, hd1, hB1⟩ (fun hHeld1 => ?_)
  clear hK K hHeld
  try simp only [Act.put, List.setIfInBounds_toArray, List.set_cons_zero, List.set_cons_succ]
  refine wpAnyH_take (i := 12) (v := ?_) (oi := ⟨some 50, _, _, _, _, _⟩) rfl (by kernel_rfl) (by kernel_rfl) (by kernel_rfl) (fun _ _ _ h => h) (Or.inl ⟨rfl, ?_⟩) (by assumption) ?_
  rotate_left
  · (intro W hW; (try dsimp only at hW); go_simp; try with_reducible rfl)
  try simp only [Act.put, List.setIfInBounds_toArray, List.set_cons_zero, List.set_cons_succ]
  refine wpAnyH_take (i := 13) (v := ?_) (oi := ⟨some 51, _, _, _, _, _⟩) rfl (by kernel_rfl) (by kernel_rfl) (by kernel_rfl) (fun _ _ _ h => h) (Or.inl ⟨rfl, ?_⟩) (by assumption) ?_
  rotate_left
  · (intro W hW; (try dsimp only at hW); go_simp; try with_reducible rfl)
  try simp only [Act.put, List.setIfInBounds_toArray, List.set_cons_zero, List.set_cons_succ]
  refine wpAnyH_take (i := 14) (v := undef) (oi := ⟨some 52, _, _, _, _, _⟩) rfl (by kernel_rfl) (by kernel_rfl) (by kernel_rfl) (fun _ _ _ h => h) (Or.inr ⟨rfl, rfl⟩) (by assumption) ?_
  try simp only [Act.put, List.setIfInBounds_toArray, List.set_cons_zero, List.set_cons_succ]
  refine wpAnyH_take (i := 15) (v := undef) (oi := ⟨some 53, _, _, _, _, _⟩) rfl (by kernel_rfl) (by kernel_rfl) (by kernel_rfl) (fun _ _ _ h => h) (Or.inr ⟨rfl, rfl⟩) (by assumption) ?_
  try simp only [Act.put, List.setIfInBounds_toArray, List.set_cons_zero, List.set_cons_succ]
  refine wpAnyH_take (i := 16) (v := undef) (oi := ⟨some 54, _, _, _, _, _⟩) rfl (by kernel_rfl) (by kernel_rfl) (by kernel_rfl) (fun _ _ _ h => h) (Or.inr ⟨rfl, rfl⟩) (by assumption) ?_
  try simp only [Act.put, List.setIfInBounds_toArray, List.set_cons_zero, List.set_cons_succ]
  refine wpAnyH_take (i := 17) (v := undef) (oi := ⟨some 55, _, _, _, _, _⟩) rfl (by kernel_rfl) (by kernel_rfl) (by kernel_rfl) (fun _ _ _ h => h) (Or.inr ⟨rfl, rfl⟩) (by assumption) ?_
  try simp only [Act.put, List.setIfInBounds_toArray, List.set_cons_zero, List.set_cons_succ]
  refine wpAnyH_take (i := 18) (v := undef) (oi := ⟨some 56, _, _, _, _, _⟩) rfl (by kernel_rfl) (by kernel_rfl) (by kernel_rfl) (fun _ _ _ h => h) (Or.inr ⟨rfl, rfl⟩) (by assumption) ?_
  try simp only [Act.put, List.setIfInBounds_toArray, List.set_cons_zero, List.set_cons_succ]
  refine wpAnyH_take (i := 19) (v := undef) (oi := ⟨some 57, _, _, _, _, _⟩) rfl (by kernel_rfl) (by kernel_rfl) (by kernel_rfl) (fun _ _ _ h => h) (Or.inr ⟨rfl, rfl⟩) (by assumption) ?_
  try simp only [Act.put, List.setIfInBounds_toArray, List.set_cons_zero, List.set_cons_succ]
  refine wpAnyH_take (i := 20) (v := undef) (oi := ⟨some 58, _, _, _, _, _⟩) rfl (by kernel_rfl) (by kernel_rfl) (by kernel_rfl) (fun _ _ _ h => h) (Or.inr ⟨rfl, rfl⟩) (by assumption) ?_
  try simp only [Act.put, List.setIfInBounds_toArray, List.set_cons_zero, List.set_cons_succ]
  refine wpAnyH_take (i := 21) (v := undef) (oi := ⟨some 59, _, _, _, _, _⟩) rfl (by kernel_rfl) (by kernel_rfl) (by kernel_rfl) (fun _ _ _ h => h) (Or.inr ⟨rfl, rfl⟩) (by assumption) ?_
  try simp only [Act.put, List.setIfInBounds_toArray, List.set_cons_zero, List.set_cons_succ]
  refine wpAnyH_take (i := 22) (v := undef) (oi := ⟨some 60, _, _, _, _, _⟩) rfl (by kernel_rfl) (by kernel_rfl) (by kernel_rfl) (fun _ _ _ h => h) (Or.inr ⟨rfl, rfl⟩) (by assumption) ?_
  try simp only [Act.put, List.setIfInBounds_toArray, List.set_cons_zero, List.set_cons_succ]
  refine wpAnyH_take (i := 23) (v := undef) (oi := ⟨some 61, _, _, _, _, _⟩) rfl (by kernel_rfl) (by kernel_rfl) (by kernel_rfl) (fun _ _ _ h => h) (Or.inr ⟨rfl, rfl⟩) (by assumption) ?_
  try simp only [Act.put, List.setIfInBounds_toArray, List.set_cons_zero, List.set_cons_succ]
  refine wpAnyH_take (i := 24) (v := ?_) (oi := ⟨some 62, _, _, _, _, _⟩) rfl (by kernel_rfl) (by kernel_rfl) (by kernel_rfl) (fun _ _ _ h => h) (Or.inl ⟨rfl, ?_⟩) (by assumption) ?_
  rotate_left
  · (intro W hW; (try dsimp only at hW); go_simp; try with_reducible rfl)
  try simp only [Act.put, List.setIfInBounds_toArray, List.set_cons_zero, List.set_cons_succ]
  refine wpAnyH_take (i := 25) (v := ?_) (oi := ⟨some 37, _, _, _, _, _⟩) rfl (by kernel_rfl) (by kernel_rfl) (by kernel_rfl) (fun _ _ _ h => h) (Or.inl ⟨rfl, ?_⟩) (by assumption) ?_
  rotate_left
  · (intro W hW; (try dsimp only at hW); go_simp; try with_reducible rfl)
  try simp only [Act.put, List.setIfInBounds_toArray, List.set_cons_zero, List.set_cons_succ]
  refine wpAnyH_done (by kernel_rfl) ?_ _
  have cd1 := cd _ hd1
  clear cd
  go_wp2_with (go_at_call 85; refine cd1.mono ?_; rintro e w2 ⟨rfl, hd2, hs2⟩)
  go_ret
  exact ⟨rfl, hd2, (Step.of_below hB1).trans hs2⟩

set_option maxRecDepth 100000 in
set_option maxHeartbeats 8000000 in
theorem Write_put_no (hdn : D.down = false) (f : FileA) (hf : findF D.files n = some f) (hp1 : p ≤ f.now.size) (hs : s.size ≤ 1073741824)
    (hC : ¬ (D.cap : Int) - sizes D.files < p + s.size - f.now.size) (hbn : D.burn.1 = true) (hse0 : ¬ s.toList = []) (hwl : D.waits.length < 1099511627776) (h : IsDisk w b D F) :
    Calls Try.prog 42 #[ptr b, .string n, .int .i64 p, .string s] w fun e' w' => ∃ F', e' = .returned (errn 0) ∧ IsDisk w' b (D.burn.2.put f p s) F' ∧ Step F w F' w' := by
  have hw1 := alloc_disk h (.cells #[.string n] 9)
  have cb := bars_any b D F _ hw1 _ 1 [n] (by simp) (strs_one w n)
  rw [bars_one, hdn, hf] at cb
  have hB := alloc_below w (.cells #[.string n] 9)
  obtain ⟨m, v, hb, hm, hrow, fm, fg⟩ := hw1.head
  have c2 : (w.alloc (.cells #[.string n] 9)).cell? ⟨b, 2, none⟩ = some (.map (some m)) := hb.cell 2
  have hlk := run_look h.ok.names hm n
  unfold lookV at hlk
  rw [hf] at hlk
  have hfb := (hw1.files f (findF_some hf).1).2
  have cf : (w.alloc (.cells #[.string n] 9)).cell? ⟨f.id, 1, none⟩ = some (.string f.now) := hfb.cell 1
  have cR := Room_any b D F (w.alloc (.cells #[.string n] 9)).drew (hw1.below (Below.refl _ _).drew)
  have cd := fun W hW => done_any b D F W hW
  have hlt := hfb.lt
  have hS : sizes D.files ≤ 16777216 := Nat.le_trans h.ok.size h.ok.cap
  have hCc := h.ok.cap
  have hN : f.now.size ≤ 16777216 := by have := sizes_without h.ok.names (findF_some hf).1; omega
  rw [hbn] at cd
  have hfm := (findF_some hf).1
  have hbf := burn_files D
  have hcL := fun W => laid_any f.now p s W (by omega) (by omega) hs
  have hse := isEmpty_of_ne hse0
  have hsn : Hid (s.size ≠ 0) := fun e => hse0 (nil_of_size.2 e)
  have hid0 := h.ok
  have hwl' := Lib.hid hwl
  obtain ⟨iW, hiW, hzW, hsW, hyW⟩ := info_parts info_write
  clear hf hdn hbn hse0 hwl
  generalize hSD : sizes D.files = S at *
  have hSD' := Lib.hid hSD
  clear hSD
  unfold ptr errn at *
  have e1 : IntKind.i64.wrap ((p : Int) + (s.size : Int)) = p + s.size := Go.IntWalk.i64_in _ (by omega)
  have e2 : IntKind.i64.wrap ((p : Int) + (s.size : Int) - (f.now.size : Int)) = p + s.size - f.now.size := Go.IntWalk.i64_in _ (by omega)
  have d1 : decide ((D.cap : Int) - (S : Int) < p + s.size - f.now.size) = false := decide_eq_false hC
  have hroom : Hid (¬ ((D.cap : Int) - (S : Int) < p + s.size - f.now.size ∧ (f.now.size : Int) < p + s.size)) := fun hh => hC hh.1
  clear hC
  go_enter Try.func42, Try.ntmps42
  go_wp2_with (go_at_call 84; refine cb.mono ?_; rintro e w' ⟨rfl, rfl⟩)
  refine wp_region_held_drew (S := fun W => W.cell? ⟨f.id, 1, none⟩ = some (.string f.now) ∧ IsDisk W b D F ∧ Below w.heap.size w W) (by kernel_rfl) ⟨cf, hw1.below (Below.refl _ _).drew, hB.drew⟩ (fun hHeld => ?_)
  refine wpAnyH_take (i := 0) (v := ?_) (oi := ⟨some 38, _, _, _, _, _⟩) rfl (by kernel_rfl) (by kernel_rfl) (by kernel_rfl) (fun _ _ _ h => h) (Or.inl ⟨rfl, ?_⟩) (by assumption) ?_
  rotate_left
  · (intro W hW; (try dsimp only at hW); go_simp; try with_reducible rfl)
  try simp only [Act.put, List.setIfInBounds_toArray, List.set_cons_zero, List.set_cons_succ]
  refine wpAnyH_take (i := 1) (v := ?_) (oi := ⟨some 39, _, _, _, _, _⟩) rfl (by kernel_rfl) (by kernel_rfl) (by kernel_rfl) (fun _ _ _ h => h) (Or.inl ⟨rfl, ?_⟩) (by assumption) ?_
  rotate_left
  · (intro W hW; (try dsimp only at hW); go_simp; try with_reducible rfl)
  try simp only [Act.put, List.setIfInBounds_toArray, List.set_cons_zero, List.set_cons_succ]
  refine wpAnyH_take (i := 2) (v := ?_) (oi := ⟨some 40, _, _, _, _, _⟩) rfl (by kernel_rfl) (by kernel_rfl) (by kernel_rfl) (fun _ _ _ h => h) (Or.inl ⟨rfl, ?_⟩) (by assumption) ?_
  rotate_left
  · (intro W hW; (try dsimp only at hW); go_simp; try with_reducible rfl)
  try simp only [Act.put, List.setIfInBounds_toArray, List.set_cons_zero, List.set_cons_succ]
  refine wpAnyH_take (i := 3) (v := ?_) (oi := ⟨some 41, _, _, _, _, _⟩) rfl (by kernel_rfl) (by kernel_rfl) (by kernel_rfl) (fun _ _ _ h => h) (Or.inl ⟨rfl, ?_⟩) (by assumption) ?_
  rotate_left
  · (intro W hW; (try dsimp only at hW); go_simp; try with_reducible rfl)
  try simp only [Act.put, List.setIfInBounds_toArray, List.set_cons_zero, List.set_cons_succ]
  refine wpAnyH_take (i := 4) (v := ?_) (oi := ⟨some 42, _, _, _, _, _⟩) rfl (by kernel_rfl) (by kernel_rfl) (by kernel_rfl) (fun _ _ _ h => h) (Or.inl ⟨rfl, ?_⟩) (by assumption) ?_
  rotate_left
  · (intro W hW; (try dsimp only at hW); go_simp; try with_reducible rfl)
  try simp only [Act.put, List.setIfInBounds_toArray, List.set_cons_zero, List.set_cons_succ]
  refine wpAnyH_take (i := 5) (v := ?_) (oi := ⟨some 43, _, _, _, _, _⟩) rfl (by kernel_rfl) (by kernel_rfl) (by kernel_rfl) (fun _ _ _ h => h) (Or.inl ⟨rfl, ?_⟩) (by assumption) ?_
  rotate_left
  · (intro W hW; (try dsimp only at hW); go_simp; try with_reducible rfl)
  try simp only [Act.put, List.setIfInBounds_toArray, List.set_cons_zero, List.set_cons_succ]
  refine wpAnyH_take (i := 6) (v := ?_) (oi := ⟨some 44, _, _, _, _, _⟩) rfl (by kernel_rfl) (by kernel_rfl) (by kernel_rfl) (fun _ _ _ h => h) (Or.inl ⟨rfl, ?_⟩) (by assumption) ?_
  rotate_left
  · (intro W hW; (try dsimp only at hW); go_simp; try with_reducible rfl)
  try simp only [Act.put, List.setIfInBounds_toArray, List.set_cons_zero, List.set_cons_succ]
  refine wpAnyH_take (i := 7) (v := ?_) (oi := ⟨some 45, _, _, _, _, _⟩) rfl (by kernel_rfl) (by kernel_rfl) (by kernel_rfl) (fun _ _ _ h => h) (Or.inl ⟨rfl, ?_⟩) (by assumption) ?_
  rotate_left
  · (intro W hW; (try dsimp only at hW); go_simp; try with_reducible rfl)
  try simp only [Act.put, List.setIfInBounds_toArray, List.set_cons_zero, List.set_cons_succ]
  refine wpAnyH_take (i := 8) (v := ?_) (oi := ⟨some 46, _, _, _, _, _⟩) rfl (by kernel_rfl) (by kernel_rfl) (by kernel_rfl) (fun _ _ _ h => h) (Or.inl ⟨rfl, ?_⟩) (by assumption) ?_
  rotate_left
  · (intro W hW; (try dsimp only at hW); go_simp; try with_reducible rfl)
  try simp only [Act.put, List.setIfInBounds_toArray, List.set_cons_zero, List.set_cons_succ]
  refine wpAnyH_take (i := 9) (v := ?_) (oi := ⟨some 47, _, _, _, _, _⟩) rfl (by kernel_rfl) (by kernel_rfl) (by kernel_rfl) (fun _ _ _ h => h) (Or.inl ⟨rfl, ?_⟩) (by assumption) ?_
  rotate_left
  · (intro W hW; (try dsimp only at hW); go_simp; try with_reducible rfl)
  try simp only [Act.put, List.setIfInBounds_toArray, List.set_cons_zero, List.set_cons_succ]
  refine wpAnyH_take (i := 10) (v := ?_) (oi := ⟨some 48, _, _, _, _, _⟩) rfl (by kernel_rfl) (by kernel_rfl) (by kernel_rfl) (fun _ _ _ h => h) (Or.inl ⟨rfl, ?_⟩) (by assumption) ?_
  rotate_left
  · (intro W hW; (try dsimp only at hW); go_simp; try with_reducible rfl)
  try simp only [Act.put, List.setIfInBounds_toArray, List.set_cons_zero, List.set_cons_succ]
  refine wpAnyH_ready (rs := [11]) (by kernel_rfl) (by simp) ?_
  refine AllReadyH.cons (o := ⟨some 49, _, _, _, _, _⟩) rfl (fun K hK => ?_) AllReadyH.nil
  go_simp
  go_at_call 56
  refine cR.mono ?_
  rintro e w1 ⟨rfl, hb1⟩
  have cf1 : w1.cell? ⟨f.id, 1, none⟩ = some (.string f.now) := (hb1.cell (p := ⟨f.id, 1, none⟩) hlt).trans cf
  have hd1 : IsDisk w1 b D F := (hw1.below (Below.refl _ _).drew).below hb1
  have hB1 : Below w.heap.size w w1 := hB.drew.trans (hb1.mono hB.size)
  refine hK.out _ _ ⟨cf1, hd1, hB1⟩ (fun hHeld1 => ?_)
  clear hK K hHeld
  try simp only [Act.put, List.setIfInBounds_toArray, List.set_cons_zero, List.set_cons_succ]
  refine wpAnyH_take (i := 12) (v := ?_) (oi := ⟨some 50, _, _, _, _, _⟩) rfl (by kernel_rfl) (by kernel_rfl) (by kernel_rfl) (fun _ _ _ h => h) (Or.inl ⟨rfl, ?_⟩) (by assumption) ?_
  rotate_left
  · (intro W hW; (try dsimp only at hW); go_simp; try with_reducible rfl)
  try simp only [Act.put, List.setIfInBounds_toArray, List.set_cons_zero, List.set_cons_succ]
  refine wpAnyH_take (i := 13) (v := ?_) (oi := ⟨some 51, _, _, _, _, _⟩) rfl (by kernel_rfl) (by kernel_rfl) (by kernel_rfl) (fun _ _ _ h => h) (Or.inl ⟨rfl, ?_⟩) (by assumption) ?_
  rotate_left
  · (intro W hW; (try dsimp only at hW); go_simp; try with_reducible rfl)
  try simp only [Act.put, List.setIfInBounds_toArray, List.set_cons_zero, List.set_cons_succ]
  refine wpAnyH_take (i := 14) (v := undef) (oi := ⟨some 52, _, _, _, _, _⟩) rfl (by kernel_rfl) (by kernel_rfl) (by kernel_rfl) (fun _ _ _ h => h) (Or.inr ⟨rfl, rfl⟩) (by assumption) ?_
  try simp only [Act.put, List.setIfInBounds_toArray, List.set_cons_zero, List.set_cons_succ]
  refine wpAnyH_take (i := 15) (v := undef) (oi := ⟨some 53, _, _, _, _, _⟩) rfl (by kernel_rfl) (by kernel_rfl) (by kernel_rfl) (fun _ _ _ h => h) (Or.inr ⟨rfl, rfl⟩) (by assumption) ?_
  try simp only [Act.put, List.setIfInBounds_toArray, List.set_cons_zero, List.set_cons_succ]
  refine wpAnyH_take (i := 16) (v := undef) (oi := ⟨some 54, _, _, _, _, _⟩) rfl (by kernel_rfl) (by kernel_rfl) (by kernel_rfl) (fun _ _ _ h => h) (Or.inr ⟨rfl, rfl⟩) (by assumption) ?_
  try simp only [Act.put, List.setIfInBounds_toArray, List.set_cons_zero, List.set_cons_succ]
  refine wpAnyH_take (i := 17) (v := undef) (oi := ⟨some 55, _, _, _, _, _⟩) rfl (by kernel_rfl) (by kernel_rfl) (by kernel_rfl) (fun _ _ _ h => h) (Or.inr ⟨rfl, rfl⟩) (by assumption) ?_
  try simp only [Act.put, List.setIfInBounds_toArray, List.set_cons_zero, List.set_cons_succ]
  refine wpAnyH_take (i := 18) (v := undef) (oi := ⟨some 56, _, _, _, _, _⟩) rfl (by kernel_rfl) (by kernel_rfl) (by kernel_rfl) (fun _ _ _ h => h) (Or.inr ⟨rfl, rfl⟩) (by assumption) ?_
  try simp only [Act.put, List.setIfInBounds_toArray, List.set_cons_zero, List.set_cons_succ]
  refine wpAnyH_take (i := 19) (v := undef) (oi := ⟨some 57, _, _, _, _, _⟩) rfl (by kernel_rfl) (by kernel_rfl) (by kernel_rfl) (fun _ _ _ h => h) (Or.inr ⟨rfl, rfl⟩) (by assumption) ?_
  try simp only [Act.put, List.setIfInBounds_toArray, List.set_cons_zero, List.set_cons_succ]
  refine wpAnyH_take (i := 20) (v := undef) (oi := ⟨some 58, _, _, _, _, _⟩) rfl (by kernel_rfl) (by kernel_rfl) (by kernel_rfl) (fun _ _ _ h => h) (Or.inr ⟨rfl, rfl⟩) (by assumption) ?_
  try simp only [Act.put, List.setIfInBounds_toArray, List.set_cons_zero, List.set_cons_succ]
  refine wpAnyH_take (i := 21) (v := undef) (oi := ⟨some 59, _, _, _, _, _⟩) rfl (by kernel_rfl) (by kernel_rfl) (by kernel_rfl) (fun _ _ _ h => h) (Or.inr ⟨rfl, rfl⟩) (by assumption) ?_
  try simp only [Act.put, List.setIfInBounds_toArray, List.set_cons_zero, List.set_cons_succ]
  refine wpAnyH_take (i := 22) (v := undef) (oi := ⟨some 60, _, _, _, _, _⟩) rfl (by kernel_rfl) (by kernel_rfl) (by kernel_rfl) (fun _ _ _ h => h) (Or.inr ⟨rfl, rfl⟩) (by assumption) ?_
  try simp only [Act.put, List.setIfInBounds_toArray, List.set_cons_zero, List.set_cons_succ]
  refine wpAnyH_take (i := 23) (v := undef) (oi := ⟨some 61, _, _, _, _, _⟩) rfl (by kernel_rfl) (by kernel_rfl) (by kernel_rfl) (fun _ _ _ h => h) (Or.inr ⟨rfl, rfl⟩) (by assumption) ?_
  try simp only [Act.put, List.setIfInBounds_toArray, List.set_cons_zero, List.set_cons_succ]
  refine wpAnyH_take (i := 24) (v := ?_) (oi := ⟨some 62, _, _, _, _, _⟩) rfl (by kernel_rfl) (by kernel_rfl) (by kernel_rfl) (fun _ _ _ h => h) (Or.inl ⟨rfl, ?_⟩) (by assumption) ?_
  rotate_left
  · (intro W hW; (try dsimp only at hW); go_simp; try with_reducible rfl)
  try simp only [Act.put, List.setIfInBounds_toArray, List.set_cons_zero, List.set_cons_succ]
  refine wpAnyH_take (i := 25) (v := ?_) (oi := ⟨some 37, _, _, _, _, _⟩) rfl (by kernel_rfl) (by kernel_rfl) (by kernel_rfl) (fun _ _ _ h => h) (Or.inl ⟨rfl, ?_⟩) (by assumption) ?_
  rotate_left
  · (intro W hW; (try dsimp only at hW); go_simp; try with_reducible rfl)
  try simp only [Act.put, List.setIfInBounds_toArray, List.set_cons_zero, List.set_cons_succ]
  refine wpAnyH_done (by kernel_rfl) ?_ _
  have cd1 := cd _ hd1
  clear cd
  go_wp2_with (first
    | (go_at_call 85; refine cd1.mono ?_; rintro e w2 ⟨rfl, hd2, hs2⟩; have hfm2 : f ∈ D.burn.2.files := (by rw [hbf.1]; exact hfm); have cf2 : w2.cell? ⟨f.id, 1, none⟩ = some (.string f.now) := (hd2.files f hfm2).2.cell 1)
    | (go_at_call 86; refine (hcL _).mono ?_; rintro e w3 ⟨rfl, hB3⟩; have hd3 := hd2.below hB3; have cf3 : w3.cell? ⟨f.id, 1, none⟩ = some (.string f.now) := (hd3.files f hfm2).2.cell 1; have ff3 := (hd3.files f hfm2).2.frozen 1; obtain ⟨m3, v3, hb3, hm3, hr3, fm3, fg3⟩ := hd3.head; have c33 : w3.cell? ⟨b, 3, none⟩ = some v3 := hb3.cell 3)
    | (at_builtin; refine wpList_append_new rfl _ _ 118 rfl 127 3 32 iW _ Try.underlying118 hiW hzW hsW hyW rfl (by decide) v3 _ _ rfl (put_owns hd3 hfm2 _ _ hr3) _ 1 1 [.pointer (some ⟨f.id, 0, none⟩), .int .i64 p, .string s] rfl rfl (new_cells3' _ _ (setCell_size _ _ _) _ _ _ _) (by simp [Value.oneCell']) (by decide) (by rw [hbf.2.1]; have := hwl'.out; unfold maxLen; omega) (by rw [hbf.2.1]; have := hwl'.out; omega) ?_; intro g4 cap4 w4 ha; have hbb := put_head hd3 hfm2 hb3 hr3 ha; have c34 : w4.cell? ⟨b, 3, none⟩ = some v3 := hbb.cell 3; have f34 := hbb.frozen 3))
  go_ret
  obtain ⟨hd4, hs4⟩ := put_disk hd3 hfm2 hb3 hm3 fm3 fg3 hr3 ha (DiskA.Ok.put hd3.ok hfm2 hsn.out (by rw [hbf.1, hbf.2.2]; have := hroom.out; rw [hSD'.out]; exact this))
  rw [hbf.2.1] at hd4 hs4
  exact ⟨_, rfl, hd4, (Step.of_below hB1).trans (hs2.trans ((Step.of_below hB3).trans hs4))⟩

end
end Go.Proofs.Ytndpmjanflahhaa

/-
  disk.Write and disk.Read: what they tell and leave.
-/
namespace Go.Proofs.Ytndpmjanflahhaa
open Go.RowKit Go.MapKept

theorem Write_any (b : Nat) (D : DiskA) (F : Nat → Prop) (w : World) (h : IsDisk w b D F) (n : ByteArray) (p : Int) (s : ByteArray) (hs : s.size ≤ 1073741824) (hwl : D.waits.length < 1099511627776) :
    Calls Try.prog 42 #[ptr b, .string n, .int .i64 p, .string s] w fun e' w' => ∃ F', e' = .returned (errn (D.write n p s).1) ∧ IsDisk w' b (D.write n p s).2 F' ∧ Step F w F' w' := by
  unfold DiskA.write
  cases hdn : D.down
  case true =>
    refine (Write_barred b D F w n p s 8 (by rw [bars_one, hdn]; rfl) (by decide) h).mono ?_
    rintro e w' ⟨rfl, hd, hb⟩
    exact ⟨F, rfl, hd, Step.of_below hb⟩
  case false =>
    simp only [Bool.false_eq_true, if_false]
    cases hf : findF D.files n with
    | none =>
      refine (Write_barred b D F w n p s 9 (by rw [bars_one, hdn, hf]; rfl) (by decide) h).mono ?_
      rintro e w' ⟨rfl, hd, hb⟩
      exact ⟨F, rfl, hd, Step.of_below hb⟩
    | some f =>
      dsimp only
      by_cases hr : p < 0 ∨ (f.now.size : Int) < p
      · rw [if_pos hr]
        refine (Write_range b D F w n p s hdn f hf hr h).mono ?_
        rintro e w' ⟨rfl, hd, hb⟩
        exact ⟨F, rfl, hd, Step.of_below hb⟩
      · rw [if_neg hr]
        obtain ⟨k, rfl⟩ : ∃ k : Nat, p = k := ⟨p.toNat, by omega⟩
        have hk : k ≤ f.now.size := by omega
        by_cases hc : (D.cap : Int) - sizes D.files < k + s.size - f.now.size ∧ (f.now.size : Int) < k + s.size
        · rw [if_pos hc]
          refine (Write_full b D F w n k s hdn f hf (by omega) (by omega) hs hc.1 hc.2 h).mono ?_
          rintro e w' ⟨rfl, hd, hb⟩
          exact ⟨F, rfl, hd, Step.of_below hb⟩
        · rw [if_neg hc]
          have hcase : ((D.cap : Int) - sizes D.files < k + s.size - f.now.size ∧ ¬ (f.now.size : Int) < k + s.size) ∨ ¬ (D.cap : Int) - sizes D.files < k + s.size - f.now.size := by omega
          cases hbn : D.burn.1
          · rw [if_pos rfl]
            rcases hcase with hc | hc
            · refine (Write_burnt_yes b D F w n k s hdn f hf hk hs hc hbn h).mono ?_
              rintro e w' ⟨rfl, hd, hs⟩
              exact ⟨F, rfl, hd, hs⟩
            · refine (Write_burnt_no b D F w n k s hdn f hf hk hs hc hbn h).mono ?_
              rintro e w' ⟨rfl, hd, hs⟩
              exact ⟨F, rfl, hd, hs⟩
          · rw [if_neg (by decide)]
            by_cases he : s.toList = []
            · rw [if_pos (nil_of_size.1 he)]
              rcases hcase with hc | hc
              · refine (Write_empty_yes b D F w n k s hdn f hf hk hs hc hbn he h).mono ?_
                rintro e w' ⟨rfl, hd, hs⟩
                exact ⟨F, rfl, hd, hs⟩
              · refine (Write_empty_no b D F w n k s hdn f hf hk hs hc hbn he h).mono ?_
                rintro e w' ⟨rfl, hd, hs⟩
                exact ⟨F, rfl, hd, hs⟩
            · rw [if_neg (fun e => he (nil_of_size.2 e))]
              have hkt : (k : Int).toNat = k := by omega
              rw [hkt]
              rcases hcase with hc | hc
              · exact Write_put_yes b D F w n k s hdn f hf hk hs hc hbn he hwl h
              · exact Write_put_no b D F w n k s hdn f hf hk hs hc hbn he hwl h

/-- What Read tells. -/
def DiskA.read (D : DiskA) (n : ByteArray) (p k : Int) : ByteArray × Int :=
  if (D.all n).2 ≠ 0 then (ByteArray.empty, (D.all n).2)
  else if p < 0 ∨ k < 0 ∨ ((D.all n).1.size : Int) < p ∨ ((D.all n).1.size : Int) - p < k then (ByteArray.empty, 2)
  else ((D.all n).1.extract p.toNat (p + k).toNat, 0)

theorem ret_str_err {a b : ByteArray} {x y : Int} (h : a = b) (k : x = y) : Ending.returned (.tuple #[.string a, errn x]) = .returned (.tuple #[.string b, errn y]) := by rw [h, k]

theorem all_size (D : DiskA) (hok : D.Ok) (n : ByteArray) : (D.all n).1.size ≤ 16777216 := by
  unfold DiskA.all
  split
  · decide
  · cases hf : findF D.files n with
    | none => decide
    | some f =>
      have h1 := sizes_without hok.names (findF_some hf).1
      have h2 : sizes D.files ≤ D.cap := hok.size
      have := hok.cap
      show f.now.size ≤ _
      omega
theorem all_err (D : DiskA) (n : ByteArray) : 0 ≤ (D.all n).2 ∧ (D.all n).2 ≤ 9 := by
  unfold DiskA.all
  split
  · decide
  · cases findF D.files n <;> simp

set_option maxRecDepth 100000 in
set_option maxHeartbeats 1000000 in
theorem Read_any (b : Nat) (D : DiskA) (F : Nat → Prop) (w : World) (h : IsDisk w b D F) (n : ByteArray) (p k : Int) (hp : -9223372036854775808 ≤ p ∧ p ≤ 9223372036854775807) (hk : -9223372036854775808 ≤ k ∧ k ≤ 9223372036854775807) :
    Calls Try.prog 103 #[ptr b, .string n, .int .i64 p, .int .i64 k] w fun e w' => e = .returned (.tuple #[.string (D.read n p k).1, errn (D.read n p k).2]) ∧ Below w.heap.size w w' ∧ IsDisk w' b D F := by
  have cA := All_any b D F w h n
  have hsz := all_size D h.ok n
  have hR : D.read n p k = if (D.all n).2 ≠ 0 then (ByteArray.empty, (D.all n).2) else if p < 0 ∨ k < 0 ∨ ((D.all n).1.size : Int) < p ∨ ((D.all n).1.size : Int) - p < k then (ByteArray.empty, (2 : Int)) else ((D.all n).1.extract p.toNat (p + k).toNat, (0 : Int)) := rfl
  generalize D.read n p k = R at *
  generalize D.all n = A at *
  obtain ⟨s, e⟩ := A
  dsimp only at cA hsz hR
  obtain ⟨hp1, hp2⟩ := hp
  obtain ⟨hk1, hk2⟩ := hk
  unfold ptr errn at *
  by_cases he : e = 0
  case neg =>
    rw [if_pos he] at hR
    have hR' := Lib.hid hR
    have he' : (e == 0) = false := by simpa using he
    clear hR he h
    go_enter Try.func103, Try.ntmps103
    go_wp2_with (go_at_call 45; refine cA.mono ?_; rintro e' w' ⟨rfl, hb, hd⟩)
    go_ret2
    exact ⟨by rw [hR'.out]; rfl, hb, hd⟩
  case pos =>
    subst he
    rw [if_neg (by simp)] at hR
    by_cases hbad : p < 0 ∨ k < 0 ∨ (s.size : Int) < p ∨ (s.size : Int) - p < k
    · rw [if_pos hbad] at hR
      have hR' := Lib.hid hR
      clear hR h
      by_cases b1 : p < 0
      · clear hbad
        go_enter Try.func103, Try.ntmps103
        go_wp2_with (go_at_call 45; refine cA.mono ?_; rintro e' w' ⟨rfl, hb, hd⟩)
        go_ret2
        exact ⟨by rw [hR'.out]; rfl, hb, hd⟩
      by_cases b2 : k < 0
      · clear hbad
        go_enter Try.func103, Try.ntmps103
        go_wp2_with (go_at_call 45; refine cA.mono ?_; rintro e' w' ⟨rfl, hb, hd⟩)
        go_ret2
        exact ⟨by rw [hR'.out]; rfl, hb, hd⟩
      by_cases b3 : (s.size : Int) < p
      · clear hbad
        go_enter Try.func103, Try.ntmps103
        go_wp2_with (go_at_call 45; refine cA.mono ?_; rintro e' w' ⟨rfl, hb, hd⟩)
        go_ret2
        exact ⟨by rw [hR'.out]; rfl, hb, hd⟩
      have b4 : (s.size : Int) - p < k := by omega
      clear hbad
      go_enter Try.func103, Try.ntmps103
      go_wp2_with (go_at_call 45; refine cA.mono ?_; rintro e' w' ⟨rfl, hb, hd⟩)
      go_ret2
      exact ⟨by rw [hR'.out]; rfl, hb, hd⟩
    · rw [if_neg hbad] at hR
      obtain ⟨pn, rfl⟩ : ∃ q : Nat, p = q := ⟨p.toNat, by omega⟩
      obtain ⟨kn, rfl⟩ : ∃ q : Nat, k = q := ⟨k.toNat, by omega⟩
      have b3 : pn ≤ s.size := by omega
      have b4 : pn + kn ≤ s.size := by omega
      have b5 : (kn : Int) ≤ (s.size : Int) - pn := by omega
      have e1 : ((pn : Int) + (kn : Int)).toNat = pn + kn := by omega
      have e2 : (pn : Int).toNat = pn := by omega
      rw [e1, e2] at hR
      have hR' := Lib.hid hR
      clear hR h hbad e1 e2
      go_enter Try.func103, Try.ntmps103
      go_wp2_with (go_at_call 45; refine cA.mono ?_; rintro e' w' ⟨rfl, hb, hd⟩)
      go_ret2
      exact ⟨by rw [hR'.out]; rfl, hb, hd⟩
end Go.Proofs.Ytndpmjanflahhaa
