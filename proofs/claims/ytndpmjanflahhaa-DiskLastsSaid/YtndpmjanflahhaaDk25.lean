/-
  disk.Rename.
-/
import Derived.Test.YtndpmjanflahhaaDk24
namespace Go.Proofs.Ytndpmjanflahhaa
open Go.RowKit Go.MapKept

def DiskA.moved (D : DiskA) (f : FileA) (to_ : ByteArray) : DiskA := { D with files := gone (D.files ++ [{ f with name := to_ }]) f.name }
def DiskA.rename (D : DiskA) (n to_ : ByteArray) : Int × DiskA :=
  if D.down then (8, D) else match findF D.files n with
  | none => (9, D)
  | some f => if D.burn.1 then (0, if n == to_ then D.burn.2 else (D.burn.2.dropOf to_).moved f to_) else (8, D.burn.2)

theorem sizes_append (l k : List FileA) : sizes (l ++ k) = sizes l + sizes k := by unfold sizes; rw [List.map_append, List.sum_append]
theorem gone_append (l k : List FileA) (n : ByteArray) : gone (l ++ k) n = gone l n ++ gone k n := by unfold gone; rw [List.filter_append]
theorem gone_length {l : List FileA} (hn : (l.map (·.name)).Nodup) {f : FileA} (hf : f ∈ l) : (gone l f.name).length + 1 = l.length := by
  obtain ⟨j, hj, e⟩ := List.getElem_of_mem hf
  rw [← gone_erase hn (j := j) (f := f) (by rw [List.getElem?_eq_getElem hj, e]), List.length_eraseIdx_of_lt hj]
  omega
theorem moved_files (D : DiskA) (f : FileA) (to_ : ByteArray) (hne : f.name ≠ to_) : (D.moved f to_).files = gone D.files f.name ++ [{ f with name := to_ }] := by
  show gone (D.files ++ [_]) f.name = _
  rw [gone_append, gone_none (l := [{ f with name := to_ }])]
  intro g hg; simp at hg; subst hg; exact fun e => hne e.symm
theorem DiskA.Ok.moved {D : DiskA} (h : D.Ok) {f : FileA} (hf : f ∈ D.files) {to_ : ByteArray} (hne : f.name ≠ to_) (ht : to_.size ≤ 140737488351232) (hno : ∀ g ∈ D.files, g.name ≠ to_) : (D.moved f to_).Ok := by
  have e := moved_files D f to_ hne
  have hsub := gone_sub D.files f.name
  refine ⟨?_, ?_, h.left, h.cap, ?_, ?_, ?_, ?_⟩
  · rw [e, List.map_append]
    exact nodup_snoc ((hsub.map _).nodup h.names) (fun x hx => by
      obtain ⟨g, hg, rfl⟩ := List.mem_map.1 hx
      exact hno g (gone_mem.1 hg).1)
  · rw [e, List.map_append]
    exact nodup_snoc ((hsub.map _).nodup h.ids) (fun x hx => by
      obtain ⟨g, hg, rfl⟩ := List.mem_map.1 hx
      intro e2
      have := nodup_id_eq h.ids (gone_mem.1 hg).1 hf e2
      exact (gone_mem.1 hg).2 (by rw [this]))
  · rw [e]
    show sizes _ ≤ D.cap
    rw [sizes_append]
    have h1 := sizes_without h.names hf
    have h2 : sizes D.files ≤ D.cap := h.size
    have h3 : without D.files f = gone D.files f.name := rfl
    rw [h3] at h1
    have h4 : sizes [{ f with name := to_ }] = f.now.size := by simp [sizes]
    omega
  · rw [e]
    intro g hg
    rcases List.mem_append.1 hg with hg | hg
    · exact h.nameLen g (gone_mem.1 hg).1
    · simp at hg; subst hg; exact ht
  · rw [e, List.length_append]
    have := gone_length h.names hf
    have := h.files
    simp only [List.length_singleton]; omega
  · rw [e]
    intro x hx
    obtain ⟨g, hg, e2⟩ := h.waits x hx
    by_cases hgf : g.name = f.name
    · have := nodup_name_eq h.names hg hf hgf
      subst this
      exact ⟨_, List.mem_append.2 (.inr (List.mem_singleton.2 rfl)), e2⟩
    · exact ⟨g, List.mem_append.2 (.inl (gone_mem.2 ⟨hg, hgf⟩)), e2⟩

theorem IsDisk.moved {b : Nat} {D : DiskA} {F : Nat → Prop} {w w' : World} (hd : IsDisk w b D F) {m : Nat} {v : Value} {f : FileA} (hf : f ∈ D.files) {to_ : ByteArray} (hne : f.name ≠ to_) (ht : to_.size ≤ 140737488351232) (hno : ∀ g ∈ D.files, g.name ≠ to_)
    (hb : Blk w b #[.int .i64 D.left, .bool D.down, .map (some m), v, .int .i64 D.cap] 120)
    (hm' : IsMap w' m ((gone (D.files ++ [{ f with name := to_ }]) f.name).map FileA.entry)) (hg : w.grownBy w' (some m)) :
    IsDisk w' b (D.moved f to_) F ∧ Step F w F w' := by
  obtain ⟨m2, v2, hb2, hm, hr, fm, fg⟩ := hd.head
  have heq : m2 = m ∧ v2 = v := by
    unfold Blk at hb hb2; rw [hb] at hb2; injection hb2 with hb2; injection hb2 with hb2; simp at hb2; exact ⟨hb2.1.symm, hb2.2.symm⟩
  obtain ⟨rfl, rfl⟩ := heq
  have keep : ∀ k, k < w.heap.size → k ≠ m2 → w'.heap[k]? = w.heap[k]? := fun k hk hne => hg.block k hk (fun e => hne (by cases e; rfl))
  have ne_map : ∀ {k : Nat} {c : Array Value} {T : TypeId}, Blk w k c T → k ≠ m2 := by
    rintro k c T hk rfl
    obtain ⟨es, cl, h1, _⟩ := hm
    unfold Blk at hk; rw [h1] at hk; cases hk
  refine ⟨⟨hd.ok.moved hf hne ht hno, ⟨m2, v2, hb.at (keep b hb.lt (ne_map hb)), hm', ?_, fm, fg⟩, hd.own, ?_⟩, ?_⟩
  · refine owns_kept hr (fun g hgo => keep g (World.ownsRow.lt hr g hgo).2 ?_)
    rintro rfl; exact owned_ne_map hr hm hgo
  · intro g hg
    rw [moved_files D f to_ hne] at hg
    rcases List.mem_append.1 hg with hg | hg
    · have hfb := (hd.files g (gone_mem.1 hg).1)
      exact ⟨hfb.1, hfb.2.at (keep _ hfb.2.lt (ne_map hfb.2))⟩
    · simp at hg; subst hg
      have hfb := hd.files f hf
      exact ⟨hfb.1, hfb.2.at (keep _ hfb.2.lt (ne_map hfb.2))⟩
  · exact ⟨hg.os, hg.tape, hg.output, hg.size, fun k hk hnf => keep k hk (fun e => hnf (e ▸ fm)), fun k hk => .inl hk⟩
end Go.Proofs.Ytndpmjanflahhaa
