/-
  WHAT WAITS IN THE TIMER LOG, and what is told (plain).
-/
import Derived.Test.YtndpmjanflahhaaTl0
namespace Go.Proofs.Ytndpmjanflahhaa

/-- The sum over the first slots. -/
def tot (f : List WRec → Nat) (Q : Nat → List WRec) : Nat → Nat
  | 0 => 0
  | k + 1 => tot f Q k + f (Q k)
theorem tot_out {f : List WRec → Nat} {Q : Nat → List WRec} {s : Nat} {l : List WRec} : ∀ {k : Nat}, k ≤ s → tot f (setQ Q s l) k = tot f Q k
  | 0, _ => rfl
  | k + 1, h => by
    show tot f (setQ Q s l) k + f (setQ Q s l k) = tot f Q k + f (Q k)
    rw [tot_out (by omega), setQ_ne (by omega)]
theorem tot_set {f : List WRec → Nat} {Q : Nat → List WRec} {s : Nat} {l : List WRec} : ∀ {k : Nat}, s < k → tot f (setQ Q s l) k + f (Q s) = tot f Q k + f l
  | k + 1, h => by
    show tot f (setQ Q s l) k + f (setQ Q s l k) + f (Q s) = tot f Q k + f (Q k) + f l
    by_cases hk : s = k
    · subst hk
      rw [tot_out (Nat.le_refl _), setQ_at]; omega
    · have := tot_set (f := f) (Q := Q) (s := s) (l := l) (k := k) (by omega)
      rw [setQ_ne (fun e => hk e.symm)]; omega

/-- How many are of the first slots. -/
theorem filter_succ (W : List (Nat × Nat)) (k : Nat) : (W.filter (fun x => decide (x.1 % 16 < k + 1))).length = (W.filter (fun x => decide (x.1 % 16 < k))).length + (W.filter (fun x => x.1 % 16 == k)).length := by
  induction W with
  | nil => rfl
  | cons x t ih =>
    simp only [List.filter_cons]
    by_cases h1 : x.1 % 16 < k
    · have h2 : x.1 % 16 < k + 1 := by omega
      have h3 : ¬ x.1 % 16 = k := by omega
      simp [h1, h2, h3]; omega
    · by_cases h3 : x.1 % 16 = k
      · have h2 : x.1 % 16 < k + 1 := by omega
        simp [h1, h2, h3]; omega
      · have h2 : ¬ x.1 % 16 < k + 1 := by omega
        simp [h1, h2, h3]; omega

/-- What waits: W, in the order in which it was put, at the time h; begun at h0; P were put, n marks laid. -/
structure Tells (M h0 h P n : Nat) (W : List (Nat × Nat)) (Q : Nat → List WRec) : Prop where
  le : h0 ≤ h
  q : ∀ s, s < 16 → (Q s).map (fun r => (r.due, r.at_)) = W.filter (fun x => x.1 % 16 == s)
  far : ∀ s, s < 16 → ∀ r ∈ Q s, h < r.due ∧ 1 ≤ r.puts ∧ r.puts + (r.due - h - 1) / 16 ≤ 1 + (r.due - h0 - 1) / 16
  sum : n + tot (fun l => (l.map (fun r => M - r.puts)).sum) Q 16 ≤ P * M
section
variable {M h0 h P n : Nat} {W : List (Nat × Nat)} {Q : Nat → List WRec}
theorem Tells.len (t : Tells M h0 h P n W Q) {k : Nat} (hk : k ≤ 16) : tot List.length Q k = (W.filter (fun x => decide (x.1 % 16 < k))).length := by
  induction k with
  | zero => rw [List.filter_eq_nil_iff.2 (by simp)]; rfl
  | succ k ih =>
    rw [filter_succ]
    show tot List.length Q k + (Q k).length = _
    rw [ih (by omega), ← t.q k (by omega), List.length_map]
theorem Tells.waits (t : Tells M h0 h P n W Q) : tot List.length Q 16 = W.length := by
  rw [t.len (Nat.le_refl _), List.filter_eq_self.2]
  intro x _
  have := Nat.mod_lt x.1 (show 0 < 16 by omega)
  simpa using this
theorem Tells.many (t : Tells M h0 h P n W Q) : n ≤ P * M := by have := t.sum; omega
theorem Tells.start (M h0 : Nat) : Tells M h0 h0 0 0 [] (fun _ => []) := ⟨Nat.le_refl _, fun _ _ => rfl, (fun _ _ r hr => by cases hr), by show 0 + (0 + 0 + 0 + 0 + 0 + 0 + 0 + 0 + 0 + 0 + 0 + 0 + 0 + 0 + 0 + 0 + 0) ≤ 0 * M; omega⟩
theorem Tells.put (t : Tells M h0 h P n W Q) (hM : 1 ≤ M) {due at_ : Nat} (hd : h < due) : Tells M h0 h (P + 1) (n + 1) (W ++ [(due, at_)]) (setQ Q (due % 16) (Q (due % 16) ++ [⟨due, at_, 1⟩])) := by
  have h16 : due % 16 < 16 := Nat.mod_lt _ (by omega)
  refine ⟨t.le, fun s hs => ?_, fun s hs r hr => ?_, ?_⟩
  · by_cases he : s = due % 16
    · subst he
      rw [setQ_at, List.map_append, t.q _ hs, List.filter_append]
      simp
    · rw [setQ_ne he, t.q _ hs, List.filter_append]
      have : ¬ due % 16 = s := fun e => he e.symm
      simp [this]
  · by_cases he : s = due % 16
    · subst he
      rw [setQ_at] at hr
      rcases List.mem_append.1 hr with hr | hr
      · exact t.far _ hs r hr
      · simp at hr; subst hr
        have := t.le
        exact ⟨hd, Nat.le_refl _, by show 1 + (due - h - 1) / 16 ≤ 1 + (due - h0 - 1) / 16; omega⟩
    · rw [setQ_ne he] at hr
      exact t.far _ hs r hr
  · have h1 := tot_set (f := fun l => (l.map (fun r => M - r.puts)).sum) (Q := Q) (l := Q (due % 16) ++ [⟨due, at_, 1⟩]) h16
    have h2 := t.sum
    simp only [List.map_append, List.sum_append, List.map_cons, List.map_nil, List.sum_cons, List.sum_nil] at h1
    have h3 : (P + 1) * M = P * M + M := by rw [Nat.add_mul, Nat.one_mul]
    omega
/-- What is told, and what is put again, when a second's slot is taken. -/
def toldW (sec : Nat) (l : List WRec) : List WRec := l.filter (fun r => decide (r.due ≤ sec))
def leftW (sec : Nat) (l : List WRec) : List WRec := (l.filter (fun r => decide (sec < r.due))).map (fun r => ⟨r.due, r.at_, r.puts + 1⟩)
theorem left_sum (sec M : Nat) (l : List WRec) (hp : ∀ r ∈ l, sec < r.due → r.puts + 1 ≤ M) : (leftW sec l).length + ((leftW sec l).map (fun r => M - r.puts)).sum ≤ (l.map (fun r => M - r.puts)).sum := by
  unfold leftW
  induction l with
  | nil => simp
  | cons x t ih =>
    have := ih (fun r hr => hp r (List.mem_cons_of_mem _ hr))
    by_cases hx : sec < x.due
    · have h1 := hp x List.mem_cons_self hx
      simp only [List.filter_cons, hx, decide_true, if_true, List.map_cons, List.length_cons, List.sum_cons] at this ⊢
      omega
    · simp only [List.filter_cons, hx, decide_false, Bool.false_eq_true, if_false, List.map_cons, List.sum_cons] at this ⊢
      omega
theorem map_filter_due (p : Nat → Bool) (l : List WRec) : (l.filter (fun r => p r.due)).map (fun r => (r.due, r.at_)) = (l.map (fun r => (r.due, r.at_))).filter (fun x => p x.1) := by
  rw [List.filter_map]; rfl
theorem Tells.told (t : Tells M h0 h P n W Q) : (toldW (h + 1) (Q ((h + 1) % 16))).map (fun r => (r.due, r.at_)) = W.filter (fun x => x.1 == h + 1) := by
  have h16 : (h + 1) % 16 < 16 := Nat.mod_lt _ (by omega)
  unfold toldW
  have e1 : (Q ((h + 1) % 16)).filter (fun r => decide (r.due ≤ h + 1)) = (Q ((h + 1) % 16)).filter (fun r => r.due == h + 1) := by
    apply List.filter_congr
    intro r hr
    have := (t.far _ h16 r hr).1
    rw [Bool.eq_iff_iff]; simp; omega
  rw [e1, map_filter_due (fun d => d == h + 1), t.q _ h16, List.filter_filter]
  apply List.filter_congr
  intro x _
  rw [Bool.eq_iff_iff]; simp; omega
theorem Tells.next (t : Tells M h0 h P n W Q) (hM : 2 + (h - h0 + 15) / 16 ≤ M) : Tells M h0 (h + 1) P (n + (leftW (h + 1) (Q ((h + 1) % 16))).length) (W.filter (fun x => !(x.1 == h + 1))) (setQ Q ((h + 1) % 16) (leftW (h + 1) (Q ((h + 1) % 16)))) := by
  have h16 : (h + 1) % 16 < 16 := Nat.mod_lt _ (by omega)
  have hslot : ∀ s, s < 16 → ∀ r ∈ Q s, r.due % 16 = s := fun s hs r hr => by
    have : (r.due, r.at_) ∈ W.filter (fun x => x.1 % 16 == s) := by rw [← t.q s hs]; exact List.mem_map.2 ⟨r, hr, rfl⟩
    simpa using (List.mem_filter.1 this).2
  refine ⟨by have := t.le; omega, fun s hs => ?_, fun s hs r hr => ?_, ?_⟩
  · by_cases he : s = (h + 1) % 16
    · subst he
      rw [setQ_at]
      unfold leftW
      rw [List.map_map]
      show (List.filter _ _).map (fun r : WRec => (r.due, r.at_)) = _
      have e1 : (Q ((h + 1) % 16)).filter (fun r => decide (h + 1 < r.due)) = (Q ((h + 1) % 16)).filter (fun r => !(r.due == h + 1)) := by
        apply List.filter_congr
        intro r hr
        have := (t.far _ h16 r hr).1
        rw [Bool.eq_iff_iff]; simp; omega
      rw [e1, map_filter_due (fun d => !(d == h + 1)), t.q _ h16, List.filter_filter, List.filter_filter]
      apply List.filter_congr
      intro x _
      rw [Bool.and_comm]
    · rw [setQ_ne he, t.q _ hs, List.filter_filter]
      apply List.filter_congr
      intro x _
      rw [Bool.eq_iff_iff]; simp; omega
  · by_cases he : s = (h + 1) % 16
    · subst he
      rw [setQ_at] at hr
      unfold leftW at hr
      obtain ⟨q, hq, rfl⟩ := List.mem_map.1 hr
      obtain ⟨hq1, hq2⟩ := List.mem_filter.1 hq
      simp only [decide_eq_true_eq] at hq2
      obtain ⟨f1, f2, f3⟩ := t.far _ h16 q hq1
      have := hslot _ h16 q hq1
      refine ⟨hq2, by show 1 ≤ q.puts + 1; omega, ?_⟩
      show q.puts + 1 + (q.due - (h + 1) - 1) / 16 ≤ _
      show _ ≤ 1 + (q.due - h0 - 1) / 16
      omega
    · rw [setQ_ne he] at hr
      obtain ⟨f1, f2, f3⟩ := t.far _ hs r hr
      have := hslot _ hs r hr
      refine ⟨by omega, f2, by omega⟩
  · have h1 := tot_set (f := fun l => (l.map (fun r => M - r.puts)).sum) (Q := Q) (l := leftW (h + 1) (Q ((h + 1) % 16))) h16
    have h2 := t.sum
    have h3 := left_sum (h + 1) M (Q ((h + 1) % 16)) (fun r hr _ => by
      obtain ⟨f1, f2, f3⟩ := t.far _ h16 r hr
      have := t.le
      omega)
    omega
/-- Of each that waits, the number of its marks is small. -/
theorem Tells.small (t : Tells M h0 h P n W Q) (hM : 2 + (h - h0 + 15) / 16 ≤ M) {s : Nat} (hs : s < 16) : ∀ r ∈ Q s, r.puts + 1 ≤ M := fun r hr => by
  obtain ⟨f1, f2, f3⟩ := t.far _ hs r hr
  have := t.le
  omega
end
end Go.Proofs.Ytndpmjanflahhaa
