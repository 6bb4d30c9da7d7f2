/-
  name.Plain, Group, own, Retry, Dead: what they return, for every text of the model's reach.
-/
import Derived.Test.YtndpmjanflahhaaNm1
namespace Go.Proofs.Ytndpmjanflahhaa
open Go.RowKit

/-- All bytes are plain signs. -/
def signs (s : ByteArray) : Bool := s.data.toList.all fun b => signB b.toNat
/-- A plain name. -/
def plainB (s : ByteArray) : Bool := decide (1 ≤ s.size) && decide (s.size ≤ 16) && signs s
def groupB (s : ByteArray) : Bool := plainB s && decide (s.size ≤ 8)

theorem decode_lo (s : ByteArray) (i : Nat) (h : (s.get! i).toNat < 128) : Utf8.decode s i = ((s.get! i).toNat, 1) := by
  unfold Utf8.decode; simp [h]
theorem decode_hi (s : ByteArray) (i : Nat) (h : 128 ≤ (s.get! i).toNat) : 128 ≤ (Utf8.decode s i).1 := by
  unfold Utf8.decode
  simp only [Nat.add_zero]
  rw [if_neg (by omega)]
  split
  · split
    · simpa using by assumption
    · simp [Utf8.runeError]
  · split
    · split
      · rename_i h2; simp at h2 ⊢; omega
      · simp [Utf8.runeError]
    · split
      · split
        · rename_i h2; simp at h2 ⊢; omega
        · simp [Utf8.runeError]
      · simp [Utf8.runeError]
theorem signB_hi (c : Nat) (h : 128 ≤ c) : signB c = false := by unfold signB; simp; omega

theorem idx_signs (s : ByteArray) : ∀ (f pos : Nat), s.size ≤ pos + f →
    (Lib.idxFuncFrom notSign true s f pos = -1 ↔ ∀ j, pos ≤ j → j < s.size → signB (s.get! j).toNat = true)
  | 0, pos, h => by
    constructor
    · intro _ j h1 h2; omega
    · intro _; rfl
  | f + 1, pos, h => by
    by_cases hp : pos < s.size
    · unfold Lib.idxFuncFrom
      rw [if_pos hp]
      by_cases hb : (s.get! pos).toNat < 128
      · rw [decode_lo s pos hb]
        simp only [notSign]
        by_cases hs : signB ((s.get! pos).toNat : Int) = true
        case neg =>
          rw [Bool.not_eq_true] at hs
          simp only [hs, Bool.not_false, if_true]
          constructor
          · intro hh; omega
          · intro hh; have := hh pos (Nat.le_refl _) hp; rw [hs] at this; cases this
        case pos =>
          simp only [hs, Bool.not_true, Bool.false_eq_true, if_false]
          rw [idx_signs s f (pos + 1) (by omega)]
          constructor
          · intro hh j h1 h2
            rcases Nat.eq_or_lt_of_le h1 with e | e
            · rw [← e]; exact hs
            · exact hh j e h2
          · intro hh j h1 h2; exact hh j (by omega) h2
      · have hd := decode_hi s pos (by omega)
        have h1 : notSign (Utf8.decode s pos).1 = true := by unfold notSign; rw [signB_hi _ hd]; rfl
        rw [if_pos h1]
        constructor
        · intro hh; omega
        · intro hh; have := hh pos (Nat.le_refl _) hp; rw [signB_hi _ (by omega)] at this; cases this
    · unfold Lib.idxFuncFrom
      rw [if_neg hp]
      constructor
      · intro _ j h1 h2; omega
      · intro _; rfl

theorem signs_iff (s : ByteArray) : signs s = true ↔ ∀ j, j < s.size → signB (s.get! j).toNat = true := by
  unfold signs
  rw [List.all_eq_true]
  constructor
  · intro h j hj
    have hj' : j < s.data.size := hj
    have : s.get! j = s.data[j] := getElem!_pos s.data j hj'
    rw [this]; exact h _ (Array.getElem_mem_toList hj')
  · intro h x hx
    obtain ⟨j, hj, e⟩ := List.getElem_of_mem hx
    have hj' : j < s.data.size := by simpa using hj
    have := h j hj'
    have e2 : s.get! j = s.data[j] := getElem!_pos s.data j hj'
    rw [e2] at this
    rw [← e]; simpa using this

theorem idx_plain (s : ByteArray) : decide (Lib.idxFunc notSign true s < 0) = signs s := by
  have h := idx_signs s s.size 0 (by omega)
  have hr := Lib.idxFuncFrom_range notSign true s s.size 0
  rw [Bool.eq_iff_iff, signs_iff]
  unfold Lib.idxFunc
  simp only [decide_eq_true_eq]
  constructor
  · intro hh; exact fun j hj => h.1 (by omega) j (Nat.zero_le _) hj
  · intro hh; have := h.2 (fun j _ hj => hh j hj); omega

theorem IndexFunc_plain (s : ByteArray) (w : World) :
    Calls Try.prog 79 #[.string s, .func (.func 80) #[] #[]] w fun e w' => e = .returned (.int .i64 (Lib.idxFunc notSign true s)) ∧ Below w.heap.size w w' := by
  go_enter Try.func79, Try.ntmps79
  go_wp2_with (go_at_call 115; refine (indexFunc_plain _ _).mono ?_; rintro e w' ⟨rfl, hb⟩)
  go_ret
  exact ⟨rfl, hb⟩

theorem nil_of_size {s : ByteArray} : s.toList = [] ↔ s.size = 0 := by
  rw [ByteArray.toList_eq, List.eq_nil_iff_length_eq_zero]; simp
theorem isEmpty_of_ne {s : ByteArray} (h : ¬ s.toList = []) : s.toList.isEmpty = false := by
  cases e : s.toList.isEmpty
  · rfl
  · exact absurd (List.isEmpty_iff.1 e) h

theorem Plain_any (s : ByteArray) (w : World) (hs : s.size ≤ maxLen) :
    Calls Try.prog 24 #[.string s] w fun e w' => e = .returned (.bool (plainB s)) ∧ Below w.heap.size w w' := by
  unfold maxLen at hs
  have hI := idx_plain s
  by_cases h0 : s.toList = []
  · have hp : plainB s = false := by unfold plainB; rw [nil_of_size.1 h0]; rfl
    go_enter Try.func24, Try.ntmps24
    go_wp2
    go_ret
    exact ⟨ret_bool hp.symm, Below.refl _ _⟩
  · have h1 : 1 ≤ s.size := by have := mt nil_of_size.2 h0; omega
    have he := Lib.hid (isEmpty_of_ne h0)
    by_cases h2 : s.size ≤ 16
    · go_enter Try.func24, Try.ntmps24
      go_wp2_with (go_at_call 79; refine (IndexFunc_plain _ _).mono ?_; rintro e w' ⟨rfl, hb⟩)
      go_ret
      exact ⟨ret_bool (by unfold plainB; rw [he.out]; simp [h1, h2]), hb⟩
    · go_enter Try.func24, Try.ntmps24
      go_wp2
      go_ret
      exact ⟨ret_bool (by unfold plainB; simp; omega), Below.refl _ _⟩

theorem Group_any (s : ByteArray) (w : World) (hs : s.size ≤ maxLen) :
    Calls Try.prog 21 #[.string s] w fun e w' => e = .returned (.bool (groupB s)) ∧ Below w.heap.size w w' := by
  have c := Plain_any s w hs
  unfold maxLen at hs
  cases hp : plainB s
  · rw [hp] at c
    have hg : groupB s = false := by unfold groupB; rw [hp]; rfl
    go_enter Try.func21, Try.ntmps21
    go_wp2_with (go_at_call 24; refine c.mono ?_; rintro e w' ⟨rfl, hb⟩)
    go_ret
    exact ⟨ret_bool hg.symm, hb⟩
  · rw [hp] at c
    go_enter Try.func21, Try.ntmps21
    go_wp2_with (go_at_call 24; refine c.mono ?_; rintro e w' ⟨rfl, hb⟩)
    go_ret
    exact ⟨ret_bool (by unfold groupB; rw [hp]; simp; omega), hb⟩

/-- A group's topic of the broker's own. -/
def ownOf (h g : ByteArray) : ByteArray := if groupB g then h ++ g else ByteArray.empty
theorem ownOf_yes {h g : ByteArray} (hg : groupB g = true) : ownOf h g = h ++ g := by unfold ownOf; rw [if_pos hg]
theorem ownOf_no {h g : ByteArray} (hg : groupB g = false) : ownOf h g = ByteArray.empty := by unfold ownOf; rw [hg]; rfl

theorem own_any (h g : ByteArray) (w : World) (hs : g.size ≤ maxLen) (hh : h.size ≤ 100) :
    Calls Try.prog 78 #[.string h, .string g] w fun e w' => e = .returned (.string (ownOf h g)) ∧ Below w.heap.size w w' := by
  have c := Group_any g w hs
  unfold maxLen at hs
  cases hp : groupB g <;> rw [hp] at c <;> have hp2 := Lib.hid hp <;> clear hp
  · go_enter Try.func78, Try.ntmps78
    go_wp2_with (go_at_call 21; refine c.mono ?_; rintro e w' ⟨rfl, hb⟩)
    go_ret
    exact ⟨ret_str (ownOf_no hp2.out).symm, hb⟩
  · have h8 : g.size ≤ 8 := by have := hp2.out; unfold groupB at this; simp at this; omega
    go_enter Try.func78, Try.ntmps78
    go_wp2_with (go_at_call 21; refine c.mono ?_; rintro e w' ⟨rfl, hb⟩)
    go_ret
    exact ⟨ret_str (ownOf_yes hp2.out).symm, hb⟩

@[reducible] def retryHead : ByteArray := ⟨#[37, 114, 101, 116, 114, 121, 37]⟩
@[reducible] def deadHead : ByteArray := ⟨#[37, 100, 101, 97, 100, 37]⟩

theorem Retry_any (g : ByteArray) (w : World) (hs : g.size ≤ maxLen) :
    Calls Try.prog 22 #[.string g] w fun e w' => e = .returned (.string (ownOf retryHead g)) ∧ Below w.heap.size w w' := by
  have c := own_any retryHead g w hs (by decide)
  go_enter Try.func22, Try.ntmps22
  go_wp2_with (go_at_call 78; refine c.mono ?_; rintro e w' ⟨rfl, hb⟩)
  go_ret
  exact ⟨rfl, hb⟩
theorem Dead_any (g : ByteArray) (w : World) (hs : g.size ≤ maxLen) :
    Calls Try.prog 23 #[.string g] w fun e w' => e = .returned (.string (ownOf deadHead g)) ∧ Below w.heap.size w w' := by
  have c := own_any deadHead g w hs (by decide)
  go_enter Try.func23, Try.ntmps23
  go_wp2_with (go_at_call 78; refine c.mono ?_; rintro e w' ⟨rfl, hb⟩)
  go_ret
  exact ⟨rfl, hb⟩
end Go.Proofs.Ytndpmjanflahhaa
