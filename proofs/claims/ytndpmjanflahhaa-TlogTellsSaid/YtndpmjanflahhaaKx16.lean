/-
  THE STATEMENTS OF LAYER 11: KeyxFinds, the document's loop (plain).
-/
import Derived.Test.YtndpmjanflahhaaKx12
namespace Go.Proofs.Ytndpmjanflahhaa

section
variable {rs : List KRec} {H : Nat} {least most : Int}
theorem findRun_full : ∀ (l : List Nat) (acc : List Int), ¬ ((acc.length : Int) < most) → findRun rs H least most l acc = acc
  | [], acc, _ => rfl
  | n :: t, acc, h => by
    rw [findRun]
    split
    · rfl
    · rename_i r hr
      have : findAcc H least most acc r.hash r.at_ = acc := by unfold findAcc; rw [if_neg (fun h' => h h'.2.2)]
      rw [this, if_neg]
      unfold findOk; simp only [decide_eq_true_eq]; exact fun h' => h h'.1
/-- The document's loop has m entries to go, and has found acc. -/
def FindInv (rs : List KRec) (H : Nat) (least most : Int) (m : Nat) (acc : List Int) : Prop := findRun rs H least most (chainTo rs (H % 8) m) acc = findL rs H least most
theorem FindInv.start : FindInv rs H least most rs.length [] := rfl
theorem FindInv.none {acc : List Int} (h : FindInv rs H least most 0 acc) : acc = findL rs H least most := h
theorem FindInv.full {m : Nat} {acc : List Int} (h : FindInv rs H least most m acc) (hf : ¬ (acc.length : Int) < most) : acc = findL rs H least most := by
  unfold FindInv at h; rw [findRun_full _ _ hf] at h; exact h
theorem inB_of {m b : Nat} {r : KRec} (hr : rs[m]? = some r) (hb : r.hash % 8 = b) : inB rs b m = true := by unfold inB; rw [hr]; simpa using hb
theorem inB_not {m b : Nat} {r : KRec} (hr : rs[m]? = some r) (hb : ¬ r.hash % 8 = b) : inB rs b m = false := by unfold inB; rw [hr]; simpa using hb
theorem FindInv.other {m : Nat} {acc : List Int} {r : KRec} (h : FindInv rs H least most (m + 1) acc) (hr : rs[m]? = some r) (hb : ¬ r.hash % 8 = H % 8) : FindInv rs H least most m acc := by
  unfold FindInv at *
  rw [chainTo_succ, inB_not hr hb, if_neg (by simp)] at h
  exact h
theorem FindInv.here {m : Nat} {acc : List Int} {r : KRec} (h : FindInv rs H least most (m + 1) acc) (hr : rs[m]? = some r) (hb : r.hash % 8 = H % 8) :
    (if findOk least most (findAcc H least most acc r.hash r.at_) r.at_ then findRun rs H least most (chainTo rs (H % 8) m) (findAcc H least most acc r.hash r.at_) else findAcc H least most acc r.hash r.at_) = findL rs H least most := by
  unfold FindInv at h
  rw [chainTo_succ, inB_of hr hb, if_pos rfl, findRun, Nat.add_sub_cancel, hr] at h
  exact h
theorem FindInv.stop {m : Nat} {acc : List Int} {r : KRec} (h : FindInv rs H least most (m + 1) acc) (hr : rs[m]? = some r) (hb : r.hash % 8 = H % 8) (hl : (r.at_ : Int) < least) : acc = findL rs H least most := by
  have := h.here hr hb
  have e1 : findAcc H least most acc r.hash r.at_ = acc := by unfold findAcc; rw [if_neg (fun h' => by omega)]
  rw [e1, if_neg] at this
  · exact this
  · unfold findOk; simp only [decide_eq_true_eq]; exact fun h' => by omega
theorem FindInv.skip {m : Nat} {acc : List Int} {r : KRec} (h : FindInv rs H least most (m + 1) acc) (hr : rs[m]? = some r) (hb : r.hash % 8 = H % 8) (hl : ¬ (r.at_ : Int) < least) (hlt : (acc.length : Int) < most) (hne : ¬ r.hash = H) : FindInv rs H least most m acc := by
  have := h.here hr hb
  have e1 : findAcc H least most acc r.hash r.at_ = acc := by unfold findAcc; rw [if_neg (fun h' => hne h'.1)]
  rw [e1, if_pos] at this
  · exact this
  · unfold findOk; simp only [decide_eq_true_eq]; exact ⟨hlt, by omega⟩
theorem FindInv.take {m : Nat} {acc : List Int} {r : KRec} (h : FindInv rs H least most (m + 1) acc) (hr : rs[m]? = some r) (hl : ¬ (r.at_ : Int) < least) (hlt : (acc.length : Int) < most) (he : r.hash = H) : FindInv rs H least most m (acc ++ [(r.at_ : Int)]) := by
  have := h.here hr (by rw [he])
  have e1 : findAcc H least most acc r.hash r.at_ = acc ++ [(r.at_ : Int)] := by unfold findAcc; rw [if_pos ⟨he, by omega, hlt⟩]
  rw [e1] at this
  by_cases ho : findOk least most (acc ++ [(r.at_ : Int)]) r.at_ = true
  · rw [if_pos ho] at this; exact this
  · rw [if_neg ho] at this
    unfold FindInv
    rw [findRun_full]
    · exact this
    · intro h'
      apply ho
      unfold findOk; simp only [decide_eq_true_eq]; exact ⟨h', by omega⟩
end
end Go.Proofs.Ytndpmjanflahhaa
