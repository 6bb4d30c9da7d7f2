/-
  What a crash leaves, as plain data.
-/
import Derived.Test.YtndpmjanflahhaaDk27
namespace Go.Proofs.Ytndpmjanflahhaa
open Go.RowKit Go.MapKept

/-- No file's image is more than what it has; no write that waits reaches beyond that. -/
structure DiskA.Fit (D : DiskA) : Prop where
  image : ∀ f ∈ D.files, f.image.size ≤ f.now.size
  wait : ∀ x ∈ D.waits, ∀ f ∈ D.files, f.id = x.id → x.pos + x.s.size ≤ f.now.size

def lackS (s : ByteArray) (lack : Int) : ByteArray := s.extract 0 ((s.size : Int) - min (max lack 0) (s.size : Int)).toNat
theorem lackS_le (s : ByteArray) (lack : Int) : (lackS s lack).size ≤ s.size := by unfold lackS; rw [ByteArray.size_extract]; omega
/-- The bytes of a write that a crash lays. -/
def layS (done : List Bool) (lack : Int) (k : Nat) (s : ByteArray) : ByteArray := if (done.drop (k + 1)).any id then s else lackS s lack
theorem layS_le (done : List Bool) (lack : Int) (k : Nat) (s : ByteArray) : (layS done lack k s).size ≤ s.size := by
  unfold layS; split
  · exact Nat.le_refl _
  · exact lackS_le _ _
def byId (l : List FileA) (id : Nat) : Option FileA := l.find? (fun f => f.id == id)
theorem byId_some {l : List FileA} {id : Nat} {f : FileA} (h : byId l id = some f) : f ∈ l ∧ f.id = id :=
  ⟨List.mem_of_find?_eq_some h, by have := List.find?_some h; simpa using this⟩
theorem byId_mem {l : List FileA} (hn : (l.map (·.id)).Nodup) {f : FileA} (hf : f ∈ l) : byId l f.id = some f := by
  cases h : byId l f.id with
  | none => exact absurd (by simp : (f.id == f.id) = true) (List.find?_eq_none.1 h f hf)
  | some g => rw [nodup_id_eq hn (byId_some h).1 hf (byId_some h).2]
def DiskA.layOne (D : DiskA) (x : WaitA) (s : ByteArray) : DiskA := match byId D.files x.id with | some f => D.imaged f.id (laidB f.image x.pos s) | none => D
def DiskA.layUp (D : DiskA) (done : List Bool) (lack : Int) (ws : List WaitA) : Nat → DiskA
  | 0 => D
  | k + 1 => match done[k]?, ws[k]? with
    | some true, some x => (D.layUp done lack ws k).layOne x (layS done lack k x.s)
    | _, _ => D.layUp done lack ws k
def FileA.still (f : FileA) : FileA := { f with now := f.image }
def DiskA.stilled (D : DiskA) (left : List FileA) : DiskA := { D with files := D.files.map (fun g => if left.any (fun x => x.name == g.name) then g else g.still) }
def DiskA.crash (D : DiskA) (keep : List Bool) (lack : Int) : DiskA :=
  { (D.layUp (keep.take (min keep.length D.waits.length)) lack D.waits (min keep.length D.waits.length)).stilled [] with left := -1, down := false, waits := [] }

theorem imaged_fit {D : DiskA} (h : D.Fit) (id : Nat) (s : ByteArray) (hs : ∀ f ∈ D.files, f.id = id → s.size ≤ f.now.size) : (D.imaged id s).Fit := by
  refine ⟨fun f hf => ?_, fun x hx f hf e => ?_⟩
  · obtain ⟨g, hg, ⟨e, rfl⟩ | ⟨_, rfl⟩⟩ := turn_mem hf
    · exact hs g hg e
    · exact h.image f hg
  · obtain ⟨g, hg, ⟨_, rfl⟩ | ⟨_, rfl⟩⟩ := turn_mem hf
    · exact h.wait x hx g hg e
    · exact h.wait x hx f hg e
theorem laidB_le {s : ByteArray} {p : Nat} {o : ByteArray} {n : Nat} (h1 : s.size ≤ n) (h2 : p + o.size ≤ n) : (laidB s p o).size ≤ n := by
  by_cases h : o.size = 0
  · rw [laidB_nil]
    · exact h1
    · have : o.data.toList.length = 0 := by simpa using h
      exact List.length_eq_zero_iff.1 this
  · rw [laidB_size _ _ _ h]; omega
theorem layOne_fit {D : DiskA} (hok : D.Ok) (h : D.Fit) {x : WaitA} {s : ByteArray} (hs : ∀ f ∈ D.files, f.id = x.id → x.pos + s.size ≤ f.now.size) : (D.layOne x s).Fit := by
  unfold DiskA.layOne
  cases hf : byId D.files x.id with
  | none => exact h
  | some f =>
    have hb := byId_some hf
    refine imaged_fit h _ _ (fun g hg e => ?_)
    have := nodup_id_eq hok.ids hg hb.1 e
    subst this
    exact laidB_le (h.image _ hb.1) (hs _ hb.1 hb.2)
theorem imaged_ok {D : DiskA} (h : D.Ok) (id : Nat) (s : ByteArray) : (D.imaged id s).Ok :=
  turn_ok h id (FileA.setImage s) (fun _ => ⟨rfl, rfl⟩) (by rw [turn_sizes_image]; exact h.size)
theorem layOne_ok {D : DiskA} (h : D.Ok) (x : WaitA) (s : ByteArray) : (D.layOne x s).Ok := by
  unfold DiskA.layOne
  split
  · exact imaged_ok h _ _
  · exact h

/-- Two disks alike but for their images. -/
structure AlikeI (D D' : DiskA) : Prop where
  left : D'.left = D.left
  down : D'.down = D.down
  cap : D'.cap = D.cap
  waits : D'.waits = D.waits
  files : D'.files.map (fun f => (f.name, f.id, f.now)) = D.files.map (fun f => (f.name, f.id, f.now))
theorem AlikeI.refl (D : DiskA) : AlikeI D D := ⟨rfl, rfl, rfl, rfl, rfl⟩
theorem AlikeI.trans {D D1 D2 : DiskA} (h : AlikeI D D1) (k : AlikeI D1 D2) : AlikeI D D2 := ⟨k.left.trans h.left, k.down.trans h.down, k.cap.trans h.cap, k.waits.trans h.waits, k.files.trans h.files⟩
theorem AlikeI.imaged (D : DiskA) (id : Nat) (s : ByteArray) : AlikeI D (D.imaged id s) := by
  refine ⟨rfl, rfl, rfl, rfl, ?_⟩
  show (turn _ _ _).map _ = _
  unfold turn
  rw [List.map_map]
  apply List.map_congr_left
  intro g _
  simp only [Function.comp]
  split <;> rfl
theorem AlikeI.layOne (D : DiskA) (x : WaitA) (s : ByteArray) : AlikeI D (D.layOne x s) := by
  unfold DiskA.layOne
  split
  · exact .imaged _ _ _
  · exact .refl _
theorem AlikeI.layUp (D : DiskA) (done : List Bool) (lack : Int) (ws : List WaitA) (k : Nat) : AlikeI D (D.layUp done lack ws k) := by
  induction k with
  | zero => exact .refl _
  | succ k ih =>
    unfold DiskA.layUp
    split
    · exact ih.trans (.layOne _ _ _)
    · exact ih
theorem AlikeI.mem {D D' : DiskA} (h : AlikeI D D') {f : FileA} (hf : f ∈ D'.files) : ∃ g ∈ D.files, g.name = f.name ∧ g.id = f.id ∧ g.now = f.now := by
  have : (f.name, f.id, f.now) ∈ D'.files.map (fun f => (f.name, f.id, f.now)) := List.mem_map.2 ⟨f, hf, rfl⟩
  rw [h.files] at this
  obtain ⟨g, hg, e⟩ := List.mem_map.1 this
  simp only [Prod.mk.injEq] at e
  exact ⟨g, hg, e⟩
theorem AlikeI.entries {D D' : DiskA} (h : AlikeI D D') : D'.files.map FileA.entry = D.files.map FileA.entry := by
  have := congrArg (List.map (fun p : ByteArray × Nat × ByteArray => (Value.string p.1, ptr p.2.1))) h.files
  simp only [List.map_map] at this
  exact this
theorem AlikeI.ids {D D' : DiskA} (h : AlikeI D D') : D'.files.map (·.id) = D.files.map (·.id) := by
  have := congrArg (List.map (fun p : ByteArray × Nat × ByteArray => p.2.1)) h.files
  simpa [List.map_map, Function.comp_def] using this

theorem layUp_ok {D : DiskA} (hok : D.Ok) (h : D.Fit) (done : List Bool) (lack : Int) (k : Nat) : (D.layUp done lack D.waits k).Ok ∧ (D.layUp done lack D.waits k).Fit := by
  induction k with
  | zero => exact ⟨hok, h⟩
  | succ k ih =>
    unfold DiskA.layUp
    split
    · rename_i x _ hx
      refine ⟨layOne_ok ih.1 _ _, layOne_fit ih.1 ih.2 (fun f hf e => ?_)⟩
      obtain ⟨g, hg, _, e2, e3⟩ := (AlikeI.layUp D done lack D.waits k).mem hf
      have := h.wait x (List.mem_of_getElem? hx) g hg (e2.trans e)
      rw [e3] at this
      have := layS_le done lack k x.s
      omega
    · exact ih

theorem map_mem_still {l left : List FileA} {x : FileA} (h : x ∈ l.map (fun g => if left.any (fun x => x.name == g.name) then g else g.still)) : ∃ g ∈ l, x.name = g.name ∧ x.id = g.id ∧ x.image = g.image ∧ (x.now = g.now ∨ x.now = g.image) := by
  obtain ⟨g, hg, e⟩ := List.mem_map.1 h
  refine ⟨g, hg, ?_⟩
  split at e <;> subst e
  · exact ⟨rfl, rfl, rfl, .inl rfl⟩
  · exact ⟨rfl, rfl, rfl, .inr rfl⟩
theorem stilled_names (D : DiskA) (left : List FileA) : (D.stilled left).files.map (·.name) = D.files.map (·.name) := by
  show (D.files.map _).map _ = _
  rw [List.map_map]; apply List.map_congr_left; intro g _; simp only [Function.comp]; split <;> rfl
theorem stilled_ids (D : DiskA) (left : List FileA) : (D.stilled left).files.map (·.id) = D.files.map (·.id) := by
  show (D.files.map _).map _ = _
  rw [List.map_map]; apply List.map_congr_left; intro g _; simp only [Function.comp]; split <;> rfl
theorem stilled_entries (D : DiskA) (left : List FileA) : (D.stilled left).files.map FileA.entry = D.files.map FileA.entry := by
  show (D.files.map _).map _ = _
  rw [List.map_map]; apply List.map_congr_left; intro g _; simp only [Function.comp]; split <;> rfl
theorem stilled_all (D : DiskA) (hD : True) : (D.stilled D.files).files = D.files := by
  show D.files.map _ = _
  conv => rhs; rw [← List.map_id D.files]
  apply List.map_congr_left
  intro g hg
  rw [if_pos]
  · rfl
  · rw [List.any_eq_true]; exact ⟨g, hg, (bytes_beq _ _).2 rfl⟩
theorem stilled_sizes {D : DiskA} (h : D.Fit) (left : List FileA) : sizes (D.stilled left).files ≤ sizes D.files := by
  show sizes (D.files.map _) ≤ _
  have : ∀ l : List FileA, (∀ f ∈ l, f.image.size ≤ f.now.size) → sizes (l.map (fun g => if left.any (fun x => x.name == g.name) then g else g.still)) ≤ sizes l := by
    intro l hl
    induction l with
    | nil => exact Nat.le_refl _
    | cons x t ih =>
      have h1 := ih (fun f hf => hl f (List.mem_cons_of_mem _ hf))
      have h2 := hl x List.mem_cons_self
      unfold sizes at *
      simp only [List.map_cons, List.sum_cons]
      have h3 : (if (left.any fun y => y.name == x.name) = true then x else x.still).now.size ≤ x.now.size := by
        split
        · exact Nat.le_refl _
        · exact h2
      omega
  exact this _ h.image
/-- One more file stilled. -/
theorem stilled_step {D : DiskA} (hn : (D.files.map (·.name)).Nodup) (hi : (D.files.map (·.id)).Nodup) {left : List FileA} {f : FileA} (hf : f ∈ D.files) (hl : f ∈ left) (hsub : ∀ x ∈ left, x ∈ D.files) :
    ((D.stilled left).nowed f.id f.image) = D.stilled (without left f) := by
  unfold DiskA.nowed DiskA.stilled turn
  simp only [List.map_map]
  congr 1
  apply List.map_congr_left
  intro g hg
  simp only [Function.comp]
  by_cases e : g = f
  · subst e
    have h1 : (left.any fun x => x.name == g.name) = true := by rw [List.any_eq_true]; exact ⟨g, hl, (bytes_beq _ _).2 rfl⟩
    have h2 : ((without left g).any fun x => x.name == g.name) = false := by
      rw [List.any_eq_false]
      intro x hx
      have := (List.mem_filter.1 hx).2
      simpa using this
    rw [if_pos h1, h2]
    simp only [if_true]
    rfl
  · have hid : g.id ≠ f.id := fun e2 => e (nodup_id_eq hi hg hf e2)
    have hnm : g.name ≠ f.name := fun e2 => e (nodup_name_eq hn hg hf e2)
    have h3 : ((without left f).any fun x => x.name == g.name) = (left.any fun x => x.name == g.name) := by
      rw [Bool.eq_iff_iff, List.any_eq_true, List.any_eq_true]
      constructor
      · rintro ⟨x, hx, e3⟩; exact ⟨x, (List.mem_filter.1 hx).1, e3⟩
      · rintro ⟨x, hx, e3⟩
        refine ⟨x, List.mem_filter.2 ⟨hx, ?_⟩, e3⟩
        have : x.name = g.name := (bytes_beq _ _).1 e3
        cases hh : x.name == f.name
        · rfl
        · exact absurd (this.symm.trans ((bytes_beq _ _).1 hh)) hnm
    rw [h3]
    have hif : (if (left.any fun x => x.name == g.name) = true then g else g.still).id = g.id := by split <;> rfl
    rw [if_neg (by rw [hif]; exact hid)]
end Go.Proofs.Ytndpmjanflahhaa
