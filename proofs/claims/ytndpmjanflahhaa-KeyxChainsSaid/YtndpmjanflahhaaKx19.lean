/-
  THE STATEMENTS OF LAYER 11: each entry stands in just one bucket's chain (plain).
-/
import Derived.Test.YtndpmjanflahhaaKx15
namespace Go.Proofs.Ytndpmjanflahhaa

/-- What has been seen, when the first b buckets' chains were gone along. -/
def seenTo (rs : List KRec) : Nat → List Nat
  | 0 => []
  | b + 1 => seenTo rs b ++ chainTo rs b rs.length
theorem seenTo_mem {rs : List KRec} {n : Nat} : ∀ {b : Nat}, n ∈ seenTo rs b → ∃ r, rs[n - 1]? = some r ∧ r.hash % 8 < b
  | 0, h => by cases h
  | b + 1, h => by
    rcases List.mem_append.1 h with h | h
    · obtain ⟨r, h1, h2⟩ := seenTo_mem h; exact ⟨r, h1, by omega⟩
    · obtain ⟨_, _, r, h1, h2⟩ := chainTo_mem (Nat.le_refl _) h; exact ⟨r, h1, by omega⟩
theorem seen_not {rs : List KRec} {b j n : Nat} (h : (chainTo rs b rs.length)[j]? = some n) : n ∉ seenTo rs b ++ (chainTo rs b rs.length).take j := by
  intro hm
  obtain ⟨_, _, r, h1, h2⟩ := chainTo_mem (Nat.le_refl _) (List.mem_of_getElem? h)
  rcases List.mem_append.1 hm with hm | hm
  · obtain ⟨r', h3, h4⟩ := seenTo_mem hm
    rw [h1] at h3; cases h3; omega
  · obtain ⟨i, hi⟩ := List.mem_iff_getElem?.1 hm
    rw [List.getElem?_take] at hi
    split at hi
    · rename_i hij
      have hlt := (List.pairwise_iff_getElem.1 (chainTo_falls rs b rs.length).1) i j (List.getElem?_eq_some_iff.1 hi).1 (List.getElem?_eq_some_iff.1 h).1 hij
      rw [(List.getElem?_eq_some_iff.1 hi).2, (List.getElem?_eq_some_iff.1 h).2] at hlt
      omega
    · cases hi
theorem chain_first {rs : List KRec} {b j n : Nat} (h : (chainTo rs b rs.length)[j]? = some n) : 1 ≤ n ∧ n ≤ rs.length := by
  obtain ⟨h1, h2, _⟩ := chainTo_mem (Nat.le_refl _) (List.mem_of_getElem? h); exact ⟨h1, h2⟩
theorem chain_next {rs : List KRec} {b j n q : Nat} (h : (chainTo rs b rs.length)[j]? = some n) (h' : (chainTo rs b rs.length)[j + 1]? = some q) : q < n := by
  have hlt := (List.pairwise_iff_getElem.1 (chainTo_falls rs b rs.length).1) j (j + 1) (List.getElem?_eq_some_iff.1 h).1 (List.getElem?_eq_some_iff.1 h').1 (by omega)
  rw [(List.getElem?_eq_some_iff.1 h).2, (List.getElem?_eq_some_iff.1 h').2] at hlt
  exact hlt
/-- How many stand in the first b buckets' chains, of the first m entries. -/
def cntC (rs : List KRec) (m : Nat) : Nat → Nat
  | 0 => 0
  | b + 1 => cntC rs m b + (chainTo rs b m).length
theorem cntC_succ {rs : List KRec} {m : Nat} {r : KRec} (hr : rs[m]? = some r) (b : Nat) : cntC rs (m + 1) b = cntC rs m b + (if r.hash % 8 < b then 1 else 0) := by
  induction b with
  | zero => simp [cntC]
  | succ b ih =>
    have hc : (chainTo rs b (m + 1)).length = (chainTo rs b m).length + (if r.hash % 8 = b then 1 else 0) := by
      rw [chainTo_succ]
      unfold inB
      rw [hr]
      by_cases h : r.hash % 8 = b
      · simp [h]
      · simp [h]
    show cntC rs (m + 1) b + (chainTo rs b (m + 1)).length = cntC rs m b + (chainTo rs b m).length + _
    rw [ih, hc]
    by_cases h1 : r.hash % 8 < b
    · rw [if_pos h1, if_neg (by omega), if_pos (by omega)]; omega
    · by_cases h2 : r.hash % 8 = b
      · rw [if_neg h1, if_pos h2, if_pos (by omega)]; omega
      · rw [if_neg h1, if_neg h2, if_neg (by omega)]; omega
theorem cntC_all {rs : List KRec} : ∀ {m : Nat}, m ≤ rs.length → cntC rs m 8 = m
  | 0, _ => by simp [cntC, chainTo]
  | m + 1, h => by
    rw [cntC_succ (r := rs[m]) (by simp), cntC_all (by omega), if_pos (Nat.mod_lt _ (by omega))]
theorem seenTo_len (rs : List KRec) : ∀ b, (seenTo rs b).length = cntC rs rs.length b
  | 0 => rfl
  | b + 1 => by
    show (seenTo rs b ++ chainTo rs b rs.length).length = cntC rs rs.length b + _
    rw [List.length_append, seenTo_len rs b]
theorem seen_all (rs : List KRec) : (seenTo rs 8).length = rs.length := by rw [seenTo_len, cntC_all (Nat.le_refl _)]
end Go.Proofs.Ytndpmjanflahhaa
