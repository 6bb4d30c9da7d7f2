/-
  A file's image written; the waits put anew: how the disk lies behind it.
-/
import Derived.Test.YtndpmjanflahhaaDk17
namespace Go.Proofs.Ytndpmjanflahhaa
open Go.RowKit Go.MapKept

def FileA.setImage (s : ByteArray) (g : FileA) : FileA := { g with image := s }
def DiskA.imaged (D : DiskA) (id : Nat) (s : ByteArray) : DiskA := { D with files := turn D.files id (FileA.setImage s) }
def DiskA.nowed (D : DiskA) (id : Nat) (s : ByteArray) : DiskA := { D with files := turn D.files id (FileA.setNow s) }
def DiskA.waited (D : DiskA) (l : List WaitA) : DiskA := { D with waits := l }

theorem turn_sizes_image (l : List FileA) (id : Nat) (s : ByteArray) : sizes (turn l id (FileA.setImage s)) = sizes l := by
  unfold turn sizes
  rw [List.map_map]
  congr 1
  apply List.map_congr_left
  intro g _
  simp only [Function.comp]
  split <;> rfl

theorem turn_ok {D : DiskA} (h : D.Ok) (id : Nat) (u : FileA → FileA) (hu : ∀ g : FileA, (u g).name = g.name ∧ (u g).id = g.id) (hs : sizes (turn D.files id u) ≤ D.cap) : ({ D with files := turn D.files id u } : DiskA).Ok := by
  refine ⟨?_, ?_, h.left, h.cap, hs, ?_, ?_, ?_⟩
  · show ((turn _ _ _).map _).Nodup
    rw [turn_names _ _ _ (fun g => (hu g).1)]; exact h.names
  · show ((turn _ _ _).map _).Nodup
    rw [turn_ids _ _ _ (fun g => (hu g).2)]; exact h.ids
  · intro x hx
    obtain ⟨g, hg, ⟨_, rfl⟩ | ⟨_, rfl⟩⟩ := turn_mem hx
    · rw [(hu g).1]; exact h.nameLen g hg
    · exact h.nameLen x hg
  · show (turn _ _ _).length ≤ _
    unfold turn; rw [List.length_map]; exact h.files
  · intro x hx
    obtain ⟨g, hg, e⟩ := h.waits x hx
    refine ⟨if g.id = id then u g else g, List.mem_map.2 ⟨g, hg, rfl⟩, ?_⟩
    split
    · rw [(hu g).2]; exact e
    · exact e

/-- One cell of a file's block written. -/
theorem IsDisk.turned {b : Nat} {D : DiskA} {F : Nat → Prop} {w : World} (hd : IsDisk w b D F) {f : FileA} (hf : f ∈ D.files) (i : Nat) (x : ByteArray) (u : FileA → FileA) (hu : ∀ g : FileA, (u g).name = g.name ∧ (u g).id = g.id)
    (hi : ∀ g : FileA, (#[Value.string g.image, .string g.now].setIfInBounds i (.string x)) = #[.string (u g).image, .string (u g).now]) (hs : sizes (turn D.files f.id u) ≤ D.cap) :
    IsDisk (w.setCell ⟨f.id, i, none⟩ (.string x)) b { D with files := turn D.files f.id u } F ∧ Step F w F (w.setCell ⟨f.id, i, none⟩ (.string x)) := by
  obtain ⟨m, v, hb, hm, hr, fm, fg⟩ := hd.head
  have hfb := (hd.files f hf).2
  have hbf : b ≠ f.id := blk_ne hb hfb (by decide)
  have hmf : m ≠ f.id := by
    rintro rfl
    obtain ⟨es, cl, h1, _⟩ := hm
    unfold Blk at hfb; rw [h1] at hfb; cases hfb
  refine ⟨⟨turn_ok hd.ok f.id u hu hs, ⟨m, v, hb.at (setCell_heap _ _ _ _ hbf), ?_, ?_, fm, fg⟩, hd.own, ?_⟩, (Step.refl F w).setCell _ _ (.inl (hd.files f hf).1)⟩
  · show IsMap _ m ((turn _ _ _).map _)
    rw [turn_entries _ _ u hu]
    exact hm.at (setCell_heap _ _ _ _ hmf)
  · refine owns_kept hr (fun g hg => setCell_heap _ _ _ _ ?_)
    rintro rfl
    rcases hr.2 with ⟨h1, _⟩ | ⟨g', cap, cur, hv, _, hh, _⟩
    · rw [h1] at hg; cases hg
    · rw [hv] at hg; simp [Value.ownBlock] at hg; subst hg
      unfold Blk at hfb; rw [hh] at hfb; injection hfb with hfb; injection hfb with _ hfb; exact absurd hfb (by decide)
  · intro y hy
    obtain ⟨g, hg, hcase⟩ := turn_mem hy
    have hgb := (hd.files g hg).2
    rcases hcase with ⟨hid, rfl⟩ | ⟨hid, rfl⟩
    · rw [(hu g).2]
      refine ⟨(hd.files g hg).1, ?_⟩
      have := hgb.set i (.string x)
      rw [hi g, hid] at this
      rw [hid]; exact this
    · exact ⟨(hd.files y hg).1, hgb.at (setCell_heap _ _ _ _ hid)⟩

theorem IsDisk.imaged {b : Nat} {D : DiskA} {F : Nat → Prop} {w : World} (hd : IsDisk w b D F) {f : FileA} (hf : f ∈ D.files) (x : ByteArray) :
    IsDisk (w.setCell ⟨f.id, 0, none⟩ (.string x)) b (D.imaged f.id x) F ∧ Step F w F (w.setCell ⟨f.id, 0, none⟩ (.string x)) :=
  hd.turned hf 0 x (FileA.setImage x) (fun _ => ⟨rfl, rfl⟩) (fun _ => rfl) (by rw [turn_sizes_image]; exact hd.ok.size)
theorem IsDisk.nowed {b : Nat} {D : DiskA} {F : Nat → Prop} {w : World} (hd : IsDisk w b D F) {f : FileA} (hf : f ∈ D.files) (x : ByteArray) (hx : x.size ≤ f.now.size) :
    IsDisk (w.setCell ⟨f.id, 1, none⟩ (.string x)) b (D.nowed f.id x) F ∧ Step F w F (w.setCell ⟨f.id, 1, none⟩ (.string x)) :=
  hd.turned hf 1 x (FileA.setNow x) (fun _ => ⟨rfl, rfl⟩) (fun _ => rfl) (by
    have := turn_sizes hd.ok.ids hf (FileA.setNow x)
    have h3 : sizes D.files ≤ D.cap := hd.ok.size
    have h4 : (FileA.setNow x f).now = x := rfl
    rw [h4] at this
    omega)

theorem owned_ne {w : World} {v : Value} {n : Nat} {xs : List Value} (hr : w.ownsRow 0 127 3 v n xs) {k : Nat} {c : Array Value} {T : TypeId} (h : Blk w k c T) (hT : T ≠ 127) : v.ownBlock ≠ some k := by
  intro e
  rcases hr.2 with ⟨h1, _⟩ | ⟨g, cap, cur, hv, _, hh, _⟩
  · rw [h1] at e; cases e
  · rw [hv] at e; simp [Value.ownBlock] at e; subst e
    unfold Blk at h; rw [hh] at h; injection h with h; injection h with _ h; exact hT h.symm
theorem owned_ne_map {w : World} {v : Value} {n : Nat} {xs : List Value} (hr : w.ownsRow 0 127 3 v n xs) {m : Nat} {l : List (Value × Value)} (h : IsMap w m l) : v.ownBlock ≠ some m := by
  intro e
  rcases hr.2 with ⟨h1, _⟩ | ⟨g, cap, cur, hv, _, hh, _⟩
  · rw [h1] at e; cases e
  · rw [hv] at e; simp [Value.ownBlock] at e; subst e
    obtain ⟨es, cl, h1, _⟩ := h
    rw [h1] at hh; cases hh

/-- The waits put anew. -/
theorem IsDisk.waited {b : Nat} {D : DiskA} {F : Nat → Prop} {w w' : World} (hd : IsDisk w b D F) {m : Nat} {v v' : Value} {l : List WaitA}
    (hb : Blk w b #[.int .i64 D.left, .bool D.down, .map (some m), v, .int .i64 D.cap] 120)
    (hr' : w'.ownsRow 0 127 3 v' l.length (waitCells l)) (hs : Step (fun k => v.ownBlock = some k) w (fun k => v.ownBlock = some k) w') (hv : v'.ownBlock = v.ownBlock)
    (hl : ∀ x ∈ l, ∃ f ∈ D.files, f.id = x.id) :
    IsDisk (w'.setCell ⟨b, 3, none⟩ v') b (D.waited l) F ∧ Step F w F (w'.setCell ⟨b, 3, none⟩ v') := by
  obtain ⟨m2, v2, hb2, hm, hr, fm, fg⟩ := hd.head
  have heq : m2 = m ∧ v2 = v := by
    unfold Blk at hb hb2; rw [hb] at hb2; injection hb2 with hb2; injection hb2 with hb2; simp at hb2; exact ⟨hb2.1.symm, hb2.2.symm⟩
  obtain ⟨rfl, rfl⟩ := heq
  have keep : ∀ k, k < w.heap.size → v2.ownBlock ≠ some k → w'.heap[k]? = w.heap[k]? := fun k hk hne => hs.block k hk hne
  have hbw := hb.at (keep b hb.lt (owned_ne hr hb (by decide)))
  have hbm : m2 ≠ b := by
    rintro rfl
    obtain ⟨es, cl, h1, _⟩ := hm
    unfold Blk at hb; rw [h1] at hb; cases hb
  have hok := hd.ok
  refine ⟨⟨⟨hok.names, hok.ids, hok.left, hok.cap, hok.size, hok.nameLen, hok.files, hl⟩, ⟨m2, v', hbw.set 3 v', ?_, ?_, fm, ?_⟩, hd.own, ?_⟩, ?_⟩
  · exact hm.at ((setCell_heap _ _ _ _ hbm).trans (keep m2 hm.lt (owned_ne_map hr hm)))
  · refine owns_kept hr' (fun g hg => setCell_heap _ _ _ _ ?_)
    rintro rfl
    rcases hr'.2 with ⟨h1, _⟩ | ⟨g', cap, cur, hv2, _, hh, _⟩
    · rw [h1] at hg; cases hg
    · rw [hv2] at hg; simp [Value.ownBlock] at hg; subst hg
      unfold Blk at hbw; rw [hh] at hbw; injection hbw with hbw; injection hbw with _ hbw; exact absurd hbw (by decide)
  · intro g hg; exact fg g (hv ▸ hg)
  · intro f hf
    have hfb := (hd.files f hf).2
    exact ⟨(hd.files f hf).1, hfb.at ((setCell_heap _ _ _ _ (fun e => blk_ne hb hfb (by decide) e.symm)).trans (keep f.id hfb.lt (owned_ne hr hfb (by decide))))⟩
  · refine ⟨hs.os, hs.tape, hs.output, by rw [setCell_size]; exact hs.size, ?_, fun k hk => .inl hk⟩
    intro k hk hnf
    have h1 : k ≠ b := by rintro rfl; exact hnf hd.own
    rw [setCell_heap _ _ _ _ h1, keep k hk (fun e => hnf (fg k e))]
end Go.Proofs.Ytndpmjanflahhaa
