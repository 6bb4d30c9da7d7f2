/-
  Ranging over the files' map: the iterator's block, what a step of it tells; disk.Size.
-/
import Derived.Test.YtndpmjanflahhaaDk4
namespace Go.Proofs.Ytndpmjanflahhaa
open Go.RowKit Go.MapKept

theorem run_next_at {P : Program} (w : World) (r bm since c0 : Nat) (seen : Array Nat) (es : Array MapEntry) (clock : Nat) (hr : w.heap[r]? = some (.mapIter (some bm) since seen c0)) (hb : w.heap[bm]? = some (.map es clock))
    (hold : ∀ x ∈ es.toList, x.born < since) (hsc : since ≤ c0) :
    ((leftOf es seen).size = 0 ∧ ∀ ty, (Instr.next (.pointer (some ⟨r, 0, none⟩)) false ty).run P w = .ok (.tuple #[.bool false]) w) ∨
    ∃ e ∈ (leftOf es seen).toList, ∃ w' : World, w.grownBy w' (some r) ∧ w'.heap[r]? = some (.mapIter (some bm) since (seen.push e.born) clock) ∧ w'.heap.size = w.heap.size ∧
      ∀ ty, (Instr.next (.pointer (some ⟨r, 0, none⟩)) false ty).run P w = .ok (.tuple #[.bool true, e.key, e.val]) w' := by
  simp only [Instr.next, getObj, Sem.run_bind, Sem.run, hr, hb, Result.andThen, next_test_false seen es since c0 hold hsc, Bool.false_eq_true, if_false]
  unfold leftOf
  have hmem : ∀ x ∈ (Array.filter (fun e => !seen.contains e.born) es).toList, x.born < since := fun x hx => hold x (by simp at hx ⊢; exact hx.1)
  generalize Array.filter (fun e => !seen.contains e.born) es = L at hmem ⊢
  have e1 : L.filter (fun x => decide (x.born < since)) = L := Array.filter_eq_self.2 (fun x hx => by simpa using hmem x (by simpa using hx))
  have e2 : L.filter (fun x => decide (x.born ≥ since)) = #[] := by
    rw [Array.filter_eq_empty_iff]
    intro x hx
    have := hmem x (by simpa using hx)
    simp
    omega
  simp only [e1, e2, Array.append_empty]
  by_cases h0 : L.size = 0
  · left
    have : L = #[] := Array.eq_empty_of_size_eq_zero h0
    subst this
    refine ⟨rfl, fun _ => ?_⟩
    simp [choose, Sem.run, Question.forced]
  · right
    have hne : L.isEmpty = false := by simp [Array.isEmpty, h0]
    simp only [hne, Bool.false_eq_true, if_false, Array.empty_append, Array.size_map]
    have hch : ∃ (j : Nat) (w1 : World), j < L.size ∧ w1.Alike w ∧ (choose (Question.mapNext L.size)).run P w = .ok j w1 := by
      by_cases hf : L.size ≤ 1
      · exact ⟨0, w, by omega, ⟨rfl, rfl, rfl⟩, by simp [choose, Sem.run, Question.forced, hf]⟩
      · exact ⟨_, w.drew, Nat.mod_lt _ (by omega), ⟨rfl, rfl, rfl⟩, by
          simp only [choose, Sem.run, Question.forced, decide_eq_true_eq, hf, if_false, Question.cut]
          rfl⟩
    obtain ⟨j, w1, hj, hal, hrun⟩ := hch
    have hr1 : w1.heap[r]? = some (.mapIter (some bm) since seen c0) := by rw [hal.1]; exact hr
    have ht : w1.tape = w.tape := by
      by_cases hf : L.size ≤ 1
      · have : (choose (Question.mapNext L.size)).run P w = .ok 0 w := by simp [choose, Sem.run, Question.forced, hf]
        rw [this] at hrun; injection hrun with _ h; rw [← h]
      · have : (choose (Question.mapNext L.size)).run P w = .ok (w.tape w.drawn (.mapNext L.size) % L.size) w.drew := by
          simp only [choose, Sem.run, Question.forced, decide_eq_true_eq, hf, if_false, Question.cut]
          rfl
        rw [this] at hrun; injection hrun with _ h; rw [← h]; rfl
    refine ⟨L[j], by simp, { w1 with heap := w1.heap.setIfInBounds r (.mapIter (some bm) since (seen.push L[j].born) clock) }, ⟨hal.2.1, ht, hal.2.2, by simp [hal.1], ?_⟩, (heap_set hr1).1, by simp [hal.1], fun _ => ?_⟩
    · intro k _ hne
      rw [← hal.1]
      exact (heap_set hr1).2 k (fun e => hne (by rw [e]))
    · have hset : ∀ o', (setObj r o').run P w1 = .ok () { w1 with heap := w1.heap.setIfInBounds r o' } := fun o' => by
        simp only [setObj, Sem.run, hr1]
      simp only [hrun, Array.getElem?_map, Array.getElem?_eq_getElem hj, Option.map_some, Sem.run_bind, hset, Result.andThen]
      rfl

theorem run_entry_at {P : Program} (w : World) (r bm since : Nat) (seen : Array Nat) (es : Array MapEntry) (clock : Nat) (e : MapEntry) (hr : w.heap[r]? = some (.mapIter (some bm) since (seen.push e.born) clock)) (hb : w.heap[bm]? = some (.map es clock)) (he : e ∈ es.toList) (hn : (es.toList.map (·.born)).Nodup) :
    (Instr.entry (.pointer (some ⟨r, 0, none⟩))).run P w = .ok (.tuple #[e.key, e.val]) w := by
  have hf : es.find? (·.born == e.born) = some e := by rw [← Array.find?_toList]; exact find_born e es.toList hn he
  simp only [Instr.entry, getObj, Sem.run_bind, Sem.run, hr, hb, Result.andThen, Array.back?_push, bne_self_eq_false, Bool.false_eq_true, if_false, hf]
  rfl

/-- An iterator over the files' map: these are left. -/
def Iter (w : World) (r m : Nat) (fs left : List FileA) : Prop :=
  ∃ es clock seen, w.heap[r]? = some (.mapIter (some m) clock seen clock) ∧ w.heap[m]? = some (.map es clock) ∧ Stamped es clock ∧ es.toList.map (fun e => (e.key, e.val)) = fs.map FileA.entry ∧
    (leftOf es seen).toList.map (fun e => (e.key, e.val)) = left.map FileA.entry ∧ left.Sublist fs

def without (l : List FileA) (f : FileA) : List FileA := l.filter (fun g => !(g.name == f.name))

theorem Iter.at {w w' : World} {r m : Nat} {fs left : List FileA} (h : Iter w r m fs left) (hr : w'.heap[r]? = w.heap[r]?) (hm : w'.heap[m]? = w.heap[m]?) : Iter w' r m fs left := by
  obtain ⟨es, clock, seen, h1, h2, h3⟩ := h
  exact ⟨es, clock, seen, hr.trans h1, hm.trans h2, h3⟩

theorem pairs_filter {es : List MapEntry} {l : List FileA} (h : es.map (fun e => (e.key, e.val)) = l.map FileA.entry) (p : MapEntry → Bool) (q : FileA → Bool) (hpq : ∀ e ∈ es, ∀ f ∈ l, (e.key, e.val) = f.entry → p e = q f) :
    (es.filter p).map (fun e => (e.key, e.val)) = (l.filter q).map FileA.entry := by
  induction es generalizing l with
  | nil =>
    cases l with
    | nil => rfl
    | cons _ _ => simp at h
  | cons e t ih =>
    cases l with
    | nil => simp at h
    | cons f u =>
      simp only [List.map_cons, List.cons.injEq] at h
      have := hpq e (.head _) f (.head _) h.1
      have ih' := ih h.2 (fun e' he' f' hf' => hpq e' (.tail _ he') f' (.tail _ hf'))
      rw [List.filter_cons, List.filter_cons, this]
      split
      · rw [List.map_cons, List.map_cons, h.1, ih']
      · exact ih'

def clockOf (w : World) (m : Nat) : Nat := match w.heap[m]? with | some (.map _ c) => c | _ => 0
theorem Iter.start {w : World} {m : Nat} {fs : List FileA} (h : IsMap w m (fs.map FileA.entry)) :
    (Instr.range 117 (.map (some m))).run Try.prog w = .ok (.pointer (some ⟨w.heap.size, 0, none⟩)) (w.alloc (.mapIter (some m) (clockOf w m) #[] (clockOf w m))) ∧
    Iter (w.alloc (.mapIter (some m) (clockOf w m) #[] (clockOf w m))) w.heap.size m fs fs := by
  have hlt := h.lt
  obtain ⟨es, clock, hb, hs, he⟩ := h
  have hc : clockOf w m = clock := by unfold clockOf; rw [hb]
  rw [hc]
  refine ⟨run_range_map w _ _ _ m es clock Try.underlying117 hb, es, clock, #[], heap_alloc_new _ _, (heap_alloc_old _ _ hlt).trans hb, hs, he, ?_, List.Sublist.refl _⟩
  rw [← he]
  congr 1
  unfold leftOf
  simp

theorem Iter.next {w : World} {r m : Nat} {fs left : List FileA} (h : Iter w r m fs left) (hn : (fs.map (·.name)).Nodup) :
    (left = [] ∧ ∀ ty, (Instr.next (.pointer (some ⟨r, 0, none⟩)) false ty).run Try.prog w = .ok (.tuple #[.bool false]) w) ∨
    ∃ f ∈ left, f ∈ fs ∧ ∃ w', w.grownBy w' (some r) ∧ w'.heap.size = w.heap.size ∧ Iter w' r m fs (without left f) ∧
      (∀ ty, (Instr.next (.pointer (some ⟨r, 0, none⟩)) false ty).run Try.prog w = .ok (.tuple #[.bool true, .string f.name, .pointer (some ⟨f.id, 0, none⟩)]) w') ∧
      (Instr.entry (.pointer (some ⟨r, 0, none⟩))).run Try.prog w' = .ok (.tuple #[.string f.name, .pointer (some ⟨f.id, 0, none⟩)]) w' := by
  obtain ⟨es, clock, seen, hr, hm, hs, he, hl, hsub⟩ := h
  have hne : r ≠ m := by rintro rfl; rw [hr] at hm; cases hm
  rcases run_next_at (P := Try.prog) w r m clock clock seen es clock hr hm hs.1 (Nat.le_refl _) with ⟨h0, hrun⟩ | ⟨e, hel, w', hg, hr', hsz, hrun⟩
  · left
    have : (leftOf es seen).toList = [] := by simpa using Array.eq_empty_of_size_eq_zero h0
    rw [this] at hl
    exact ⟨by simpa using hl.symm, hrun⟩
  · right
    have hes := (mem_left hel).1
    have : (e.key, e.val) ∈ left.map FileA.entry := by rw [← hl]; exact List.mem_map.2 ⟨e, hel, rfl⟩
    obtain ⟨f, hf, hfe⟩ := List.mem_map.1 this
    have hff : f ∈ fs := hsub.subset hf
    have hk : e.key = .string f.name ∧ e.val = .pointer (some ⟨f.id, 0, none⟩) := by
      unfold FileA.entry ptr at hfe
      simp only [Prod.mk.injEq] at hfe
      exact ⟨hfe.1.symm, hfe.2.symm⟩
    have hm' : w'.heap[m]? = some (.map es clock) := (hg.block m (Array.getElem?_eq_some_iff.1 hm).1 (fun e => hne (by injection e with e; exact e.symm))).trans hm
    refine ⟨f, hf, hff, w', hg, hsz, ⟨es, clock, seen.push e.born, hr', hm', hs, he, ?_, List.filter_sublist.trans hsub⟩, ?_, ?_⟩
    · have e1 : (leftOf es (seen.push e.born)).toList = (leftOf es seen).toList.filter (fun x => !(x.born == e.born)) := by
        unfold leftOf
        rw [Array.toList_filter, Array.toList_filter, List.filter_filter]
        congr 1
        funext x
        rw [contains_push, Bool.not_or, Bool.and_comm]
      rw [e1]
      refine pairs_filter hl _ _ ?_
      intro x hx g hg2 hxg
      congr 1
      rw [Bool.eq_iff_iff, bytes_beq, beq_iff_eq]
      have hxk : x.key = .string g.name := by
        unfold FileA.entry at hxg; injection hxg
      constructor
      · intro hb
        have := born_inj hs.2.1 (mem_left hx).1 hes hb
        subst this
        rw [hk.1] at hxk; injection hxk with hxk; exact hxk.symm
      · intro hng
        have := entry_eq_of_key ((stamped_iff es clock).1 hs).2.2 (mem_left hx).1 hes (by rw [hxk, hk.1, hng])
        rw [this]
    · intro ty; rw [hrun ty, hk.1, hk.2]
    · rw [run_entry_at w' r m clock seen es clock e hr' hm' hes hs.2.1, hk.1, hk.2]

def sizes (l : List FileA) : Nat := (l.map (fun f => f.now.size)).sum
theorem sizes_without {l : List FileA} (hn : (l.map (·.name)).Nodup) {f : FileA} (hf : f ∈ l) : sizes l = f.now.size + sizes (without l f) := by
  induction l with
  | nil => cases hf
  | cons x t ih =>
    simp only [List.map_cons, List.nodup_cons] at hn
    unfold without
    rw [List.filter_cons]
    rcases List.mem_cons.1 hf with rfl | h
    · have e1 : (f.name == f.name) = true := (bytes_beq _ _).2 rfl
      have e2 : t.filter (fun g => !(g.name == f.name)) = t := by
        rw [List.filter_eq_self]
        intro g hg
        cases hh : (g.name == f.name)
        · rfl
        · exact absurd (List.mem_map.2 ⟨g, hg, (bytes_beq _ _).1 hh⟩) hn.1
      rw [e1, e2]; rfl
    · have hne : (x.name == f.name) = false := by
        cases hh : (x.name == f.name)
        · rfl
        · exact absurd (List.mem_map.2 ⟨f, h, ((bytes_beq _ _).1 hh).symm⟩) hn.1
      rw [hne]
      have := ih hn.2 h
      simp only [Bool.not_false, if_true]
      unfold sizes at *
      rw [List.map_cons, List.map_cons, List.sum_cons, List.sum_cons, this]
      unfold without
      omega
theorem without_length {l : List FileA} {f : FileA} (hf : f ∈ l) : (without l f).length < l.length := by
  unfold without
  rcases Nat.lt_or_ge (l.filter (fun g => !(g.name == f.name))).length l.length with h | h
  · exact h
  · have := List.Sublist.eq_of_length_le (List.filter_sublist (l := l) (p := fun g => !(g.name == f.name))) h
    have h2 := List.filter_eq_self.1 this f hf
    rw [(bytes_beq _ _).2 rfl] at h2; cases h2
end Go.Proofs.Ytndpmjanflahhaa
