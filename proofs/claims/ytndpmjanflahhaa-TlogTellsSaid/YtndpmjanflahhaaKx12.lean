/-
  WHAT IS FOUND, where the least is no bar (plain).
-/
import Derived.Test.YtndpmjanflahhaaML
namespace Go.Proofs.Ytndpmjanflahhaa

/-- Where the records of a number lie, along a chain. -/
def hitsAt (rs : List KRec) (H : Nat) (l : List Nat) : List Int := l.filterMap fun n => match rs[n - 1]? with | some r => if r.hash = H then some (r.at_ : Int) else none | none => none
theorem findRun_low {rs : List KRec} {H : Nat} {least most : Int} (hlow : ∀ r ∈ rs, least ≤ (r.at_ : Int)) : ∀ (l : List Nat) (acc : List Int), (∀ n ∈ l, ∃ r, rs[n - 1]? = some r) → ((acc.length : Int) < most ∨ acc = []) →
    findRun rs H least most l acc = acc ++ (hitsAt rs H l).take (most.toNat - acc.length)
  | [], acc, _, _ => by simp [findRun, hitsAt]
  | n :: t, acc, hc, ha => by
    obtain ⟨r, hr⟩ := hc n List.mem_cons_self
    have hl := hlow r (List.mem_of_getElem? hr)
    have hct : ∀ n ∈ t, ∃ r, rs[n - 1]? = some r := fun n hn => hc n (List.mem_cons_of_mem _ hn)
    rw [findRun, hr]
    dsimp only
    by_cases hH : r.hash = H
    · have hh : hitsAt rs H (n :: t) = (r.at_ : Int) :: hitsAt rs H t := by
        unfold hitsAt; rw [List.filterMap_cons, hr]; simp [hH]
      rw [hh]
      by_cases hm : (acc.length : Int) < most
      · have hacc : findAcc H least most acc r.hash r.at_ = acc ++ [(r.at_ : Int)] := by unfold findAcc; rw [if_pos ⟨hH, hl, hm⟩]
        rw [hacc]
        have h1 : most.toNat - acc.length = (most.toNat - (acc.length + 1)) + 1 := by omega
        rw [h1, List.take_succ_cons]
        unfold findOk
        by_cases ho : ((acc ++ [(r.at_ : Int)]).length : Int) < most
        · rw [if_pos (by simp only [decide_eq_true_eq]; exact ⟨ho, hl⟩), findRun_low hlow t _ hct (.inl ho)]
          simp
        · rw [if_neg (by simp only [decide_eq_true_eq]; exact fun h => ho h.1)]
          have : most.toNat - (acc.length + 1) = 0 := by simp at ho; omega
          rw [this]; simp
      · have hacc : findAcc H least most acc r.hash r.at_ = acc := by unfold findAcc; rw [if_neg (fun h => hm h.2.2)]
        rw [hacc]
        unfold findOk
        rw [if_neg (by simp only [decide_eq_true_eq]; exact fun h => hm h.1)]
        have : most.toNat - acc.length = 0 := by omega
        rw [this]; simp
    · have hh : hitsAt rs H (n :: t) = hitsAt rs H t := by
        unfold hitsAt; rw [List.filterMap_cons, hr]; simp [hH]
      have hacc : findAcc H least most acc r.hash r.at_ = acc := by unfold findAcc; rw [if_neg (fun h => hH h.1)]
      rw [hh, hacc]
      unfold findOk
      by_cases hm : (acc.length : Int) < most
      · rw [if_pos (by simp only [decide_eq_true_eq]; exact ⟨hm, hl⟩), findRun_low hlow t acc hct ha]
      · rw [if_neg (by simp only [decide_eq_true_eq]; exact fun h => hm h.1)]
        have : most.toNat - acc.length = 0 := by omega
        rw [this]; simp
theorem chainTo_mem {rs : List KRec} {b m n : Nat} (hm : m ≤ rs.length) (h : n ∈ chainTo rs b m) : 1 ≤ n ∧ n ≤ m ∧ ∃ r, rs[n - 1]? = some r ∧ r.hash % 8 = b := by
  induction m with
  | zero => cases h
  | succ m ih =>
    rw [chainTo_succ] at h
    split at h
    · rename_i hb
      rcases List.mem_cons.1 h with rfl | h
      · refine ⟨by omega, Nat.le_refl _, ?_⟩
        unfold inB at hb
        split at hb
        · rename_i r hr; exact ⟨r, hr, by simpa using hb⟩
        · cases hb
      · obtain ⟨h1, h2, h3⟩ := ih (by omega) h; exact ⟨h1, by omega, h3⟩
    · obtain ⟨h1, h2, h3⟩ := ih (by omega) h; exact ⟨h1, by omega, h3⟩
theorem findL_low {rs : List KRec} {H : Nat} {least most : Int} (hlow : ∀ r ∈ rs, least ≤ (r.at_ : Int)) : findL rs H least most = (hitsAt rs H (chainTo rs (H % 8) rs.length)).take most.toNat := by
  unfold findL
  rw [findRun_low hlow _ [] (fun n hn => (chainTo_mem (Nat.le_refl _) hn).2.2.imp fun r h => h.1) (.inr rfl)]
  simp
end Go.Proofs.Ytndpmjanflahhaa
