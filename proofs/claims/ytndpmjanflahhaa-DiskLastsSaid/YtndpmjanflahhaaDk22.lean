/-
  A file deleted from the files' map; (*disk.Disk).drop.
-/
import Derived.Test.YtndpmjanflahhaaDk21
namespace Go.Proofs.Ytndpmjanflahhaa
open Go.RowKit Go.MapKept

def gone (l : List FileA) (n : ByteArray) : List FileA := l.filter (fun f => !(f.name == n))
theorem gone_none {l : List FileA} {n : ByteArray} (h : ∀ f ∈ l, f.name ≠ n) : gone l n = l := by
  unfold gone
  rw [List.filter_eq_self]
  intro f hf
  have := h f hf
  cases hh : f.name == n
  · rfl
  · exact absurd ((bytes_beq _ _).1 hh) this
theorem gone_erase {l : List FileA} (hn : (l.map (·.name)).Nodup) {j : Nat} {f : FileA} (hj : l[j]? = some f) : l.eraseIdx j = gone l f.name := by
  induction l generalizing j with
  | nil => simp at hj
  | cons x t ih =>
    simp only [List.map_cons, List.nodup_cons] at hn
    cases j with
    | zero =>
      simp at hj; subst hj
      have e : gone (x :: t) x.name = gone t x.name := by
        unfold gone
        rw [List.filter_cons, if_neg]
        have : (x.name == x.name) = true := (bytes_beq _ _).2 rfl
        simp [this]
      rw [e, gone_none (fun g hg e => hn.1 (List.mem_map.2 ⟨g, hg, e⟩))]
      rfl
    | succ j =>
      have hj' : t[j]? = some f := by simpa using hj
      have hne : x.name ≠ f.name := fun e => hn.1 (List.mem_map.2 ⟨f, List.mem_of_getElem? hj', e.symm⟩)
      have e : gone (x :: t) f.name = x :: gone t f.name := by
        unfold gone
        rw [List.filter_cons, if_pos]
        cases hh : x.name == f.name
        · rfl
        · exact absurd ((bytes_beq _ _).1 hh) hne
      rw [e, ← ih hn.2 hj']; rfl
theorem map_eraseIdx' {α β : Type} (g : α → β) (l : List α) (j : Nat) : (l.eraseIdx j).map g = (l.map g).eraseIdx j := by
  induction l generalizing j with
  | nil => rfl
  | cons x t ih => cases j with
    | zero => rfl
    | succ j => simp only [List.eraseIdx_cons_succ, List.map_cons, ih]

set_option maxRecDepth 100000 in
theorem run_del {w : World} {m : Nat} {l : List FileA} (h : IsMap w m (l.map FileA.entry)) (hn : (l.map (·.name)).Nodup) (n : ByteArray) :
    ∃ w', (∀ ty, (Builtin.delete_ #[117, 9] ty #[.map (some m), .string n]).run Try.prog w = .ok (.tuple #[]) w') ∧ IsMap w' m ((gone l n).map FileA.entry) ∧ w.grownBy w' (some m) ∧ w'.heap.size = w.heap.size := by
  obtain ⟨es, clock, hb, hs, he⟩ := h
  have hm := Try.underlying117
  have hd := Try.underlying9
  have hkey : IsKey .string (.string n) := trivial
  have hks := keys_of_map he (entry_keys l)
  rcases findNow_spec hkey es.toList 0 hks with ⟨h1, h2⟩ | ⟨j, e, h1, h2, h3⟩
  · refine ⟨{ w with heap := w.heap.setIfInBounds m (.map es clock) }, fun ty => ?_, ⟨es, clock, (heap_set hb).1, hs, ?_⟩, heap_put hb, by simp⟩
    · simp [Builtin.delete_, run_underlying hm, MapKept.run_getObj_map hb, run_checkKey hd hkey, run_findKey hd h1, MapKept.run_setObj_map _ hb, Result.andThen]
    · rw [he, gone_none]
      intro f hf ef
      have : (f.entry) ∈ es.toList.map (fun e => (e.key, e.val)) := by rw [he]; exact List.mem_map.2 ⟨f, hf, rfl⟩
      obtain ⟨x, hx, ex⟩ := List.mem_map.1 this
      have : x.key = .string f.name := by have := congrArg Prod.fst ex; exact this
      exact h2 x hx (by rw [this, ef])
  · refine ⟨{ w with heap := w.heap.setIfInBounds m (.map (es.eraseIdxIfInBounds j) clock) }, fun ty => ?_, ⟨_, clock, (heap_set hb).1, stamped_erase hs _, ?_⟩, heap_put hb, by simp⟩
    · simp [Builtin.delete_, run_underlying hm, MapKept.run_getObj_map hb, run_checkKey hd hkey, run_findKey hd h1, MapKept.run_setObj_map _ hb, Result.andThen]
    · have hj : (l.map FileA.entry)[j]? = some (e.key, e.val) := by rw [← he, List.getElem?_map, h2]; rfl
      rw [List.getElem?_map] at hj
      obtain ⟨f, hf, ef⟩ := Option.map_eq_some_iff.1 hj
      have hfn : f.name = n := by
        have := congrArg Prod.fst ef
        rw [h3] at this
        unfold FileA.entry at this; injection this
      have hlt : j < es.size := by have := (List.getElem?_eq_some_iff.1 h2).1; simpa using this
      rw [show (es.eraseIdxIfInBounds j).toList = es.toList.eraseIdx j by unfold Array.eraseIdxIfInBounds; rw [dif_pos hlt]; simp, map_eraseIdx', he, ← map_eraseIdx', gone_erase hn hf, hfn]
end Go.Proofs.Ytndpmjanflahhaa
