/-
  THE STATEMENTS OF LAYER 11: KeyxMost, what is found (plain).
-/
import Derived.Test.YtndpmjanflahhaaKx13
namespace Go.Proofs.Ytndpmjanflahhaa
open Go.RowKit Go.MapKept

theorem chainTo_falls (rs : List KRec) (b m : Nat) : (chainTo rs b m).Pairwise (fun x y => y < x) ∧ ∀ n ∈ chainTo rs b m, n ≤ m := by
  induction m with
  | zero => exact ⟨List.Pairwise.nil, fun n h => by cases h⟩
  | succ m ih =>
    rw [chainTo_succ]
    split
    · refine ⟨List.pairwise_cons.2 ⟨fun n hn => by have := ih.2 n hn; omega, ih.1⟩, fun n hn => ?_⟩
      rcases List.mem_cons.1 hn with rfl | hn
      · exact Nat.le_refl _
      · have := ih.2 n hn; omega
    · exact ⟨ih.1, fun n hn => by have := ih.2 n hn; omega⟩
/-- All hits of KeyxMost. -/
def mostHits (rs : List KRec) (q : Nat) : List Int := hitsAt rs (94399 + q) (chainTo rs ((94399 + q) % 8) rs.length)
theorem mostHits_mem {keys : List UInt8} {rs : List KRec} (h : MostR keys rs) {q : Nat} {y : Int} (hy : y ∈ mostHits rs q) : ∃ i : Nat, i < rs.length ∧ y = ((10 * i : Nat) : Int) ∧ ∃ x : UInt8, keys[i]? = some x ∧ x.toNat % 4 = q := by
  unfold mostHits hitsAt at hy
  obtain ⟨n, hn, hr⟩ := List.mem_filterMap.1 hy
  obtain ⟨h1, h2, r, hr1, _⟩ := chainTo_mem (Nat.le_refl _) hn
  rw [hr1] at hr
  dsimp only at hr
  by_cases hq : r.hash = 94399 + q
  · rw [if_pos hq] at hr
    obtain ⟨e1, x, e2, e3⟩ := h.at_ _ _ hr1
    refine ⟨n - 1, by omega, ?_, x, e2, by omega⟩
    injection hr with hr
    rw [← hr, e1]
  · rw [if_neg hq] at hr; cases hr
theorem mostHits_falls {keys : List UInt8} {rs : List KRec} (h : MostR keys rs) (q : Nat) : (mostHits rs q).Pairwise (fun x y => y < x) := by
  unfold mostHits hitsAt
  rw [List.pairwise_filterMap]
  refine (chainTo_falls rs _ _).1.imp_of_mem (fun {n m} hn hm hlt => ?_)
  intro y hy z hz
  obtain ⟨h1, h2, r, hr1, _⟩ := chainTo_mem (Nat.le_refl _) hn
  obtain ⟨g1, g2, s, hs1, _⟩ := chainTo_mem (Nat.le_refl _) hm
  rw [hr1] at hy
  rw [hs1] at hz
  dsimp only at hy hz
  split at hy
  · split at hz
    · injection hy with hy; injection hz with hz
      rw [← hy, ← hz, (h.at_ _ _ hr1).1, (h.at_ _ _ hs1).1]
      omega
    · cases hz
  · cases hy
end Go.Proofs.Ytndpmjanflahhaa
