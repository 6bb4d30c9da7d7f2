/-
  name.Tag, name.Key, and the reference's Plain, Group, Of, Topic, Tag, Key: what they return, for every text of the model's reach.
-/
import Derived.Test.YtndpmjanflahhaaMA
namespace Go.Proofs.Ytndpmjanflahhaa
open Go.RowKit

theorem ba_take (s : ByteArray) (k : Nat) (h : k < s.size) : (s.data.toList.take (k + 1)).all (fun b => signB b.toNat) = ((s.data.toList.take k).all (fun b => signB b.toNat) && signB s[k].toNat) := by
  rw [take_snoc s k h]; simp
theorem take_all_false {l : List UInt8} {p : UInt8 → Bool} {k : Nat} (h : (l.take k).all p = false) : l.all p = false := by
  rw [← List.take_append_drop k l, List.all_append, h]; rfl

set_option maxHeartbeats 2000000 in
theorem refPlain_any (s : ByteArray) (w : World) (hs : s.size ≤ maxLen) :
    Calls Try.prog 27 #[.string s] w fun e w' => e = .returned (.bool (plainB s)) ∧ w = w' := by
  unfold maxLen at hs
  go_enter Try.func27, Try.ntmps27
  go_wp2
  go_loop [3] (fun i => ∃ k : Nat, k ≤ s.size ∧ i = .int .i64 k ∧ Hid ((s.data.toList.take k).all (fun b => signB b.toNat) = true)) (fun i => s.size - (intOf i).toNat)
  case atStart => exact ⟨0, by omega, rfl, rfl⟩
  case round =>
    obtain ⟨k, hk, rfl, hH⟩ := hrel
    by_cases hks : k < s.size
    · have hstep := Lib.hid (ba_take s k hks)
      by_cases h1 : 97 ≤ (s[k].toNat : Int) <;> by_cases h2 : (s[k].toNat : Int) ≤ 122 <;> by_cases h3 : 48 ≤ (s[k].toNat : Int) <;> by_cases h4 : (s[k].toNat : Int) ≤ 57 <;> by_cases h5 : (s[k].toNat : Int) = 45 <;> try omega
      all_goals
        have h6 : ((s[k].toNat : Int) != 45) = decide (¬ (s[k].toNat : Int) = 45) := by rw [Bool.eq_iff_iff]; simp
        simp only [h5, not_true_eq_false, not_false_eq_true, decide_true, decide_false] at h6
        go_wp2
        first
        | (go_round
           case measure => simp [intOf]; omega
           case rel => exact ⟨k + 1, by omega, by go_num, by show _ = _; rw [hstep.out, hH.out]; unfold signB; simp <;> omega⟩)
        | (go_ret
           exact ⟨ret_bool (by
             have e : signs s = false := take_all_false (k := k + 1) (by rw [hstep.out, hH.out]; unfold signB; simp <;> omega)
             unfold plainB; rw [e]; simp), rfl⟩)
    · have hall : signs s = true := by unfold signs; have := hH.out; rwa [List.take_of_length_le (by simp; omega)] at this
      have hP : plainB s = (decide (1 ≤ s.size) && decide (s.size ≤ 16)) := by unfold plainB; rw [hall]; simp
      have hP' := Lib.hid hP
      clear hP hall
      by_cases h1 : 1 ≤ s.size
      · by_cases h2 : s.size ≤ 16
        all_goals
          go_wp2
          go_ret
          exact ⟨ret_bool (by rw [hP'.out]; simp [h1, h2] <;> omega), rfl⟩
      · go_wp2
        go_ret
        exact ⟨ret_bool (by rw [hP'.out]; simp [h1]), rfl⟩

theorem refGroup_any (s : ByteArray) (w : World) (hs : s.size ≤ maxLen) :
    Calls Try.prog 28 #[.string s] w fun e w' => e = .returned (.bool (groupB s)) ∧ w = w' := by
  have c := refPlain_any s w hs
  unfold maxLen at hs
  have hg : groupB s = (plainB s && decide (s.size ≤ 8)) := rfl
  cases hp : plainB s <;> rw [hp] at c hg <;> have hg' := Lib.hid hg <;> clear hg hp
  · go_enter Try.func28, Try.ntmps28
    go_wp2_with (go_at_call 27; refine c.mono ?_; rintro e w' ⟨rfl, rfl⟩)
    go_ret
    exact ⟨ret_bool (by rw [hg'.out]; rfl), rfl⟩
  · go_enter Try.func28, Try.ntmps28
    go_wp2_with (go_at_call 27; refine c.mono ?_; rintro e w' ⟨rfl, rfl⟩)
    go_ret
    exact ⟨ret_bool (by rw [hg'.out]; simp; omega), rfl⟩

theorem has_any (s h : ByteArray) (w : World) (hs : s.size ≤ maxLen) (hh : h.size ≤ maxLen) :
    Calls Try.prog 83 #[.string s, .string h] w fun e w' => e = .returned (.bool (preB s h)) ∧ w = w' := by
  unfold maxLen at hs hh
  by_cases hl : h.size ≤ s.size
  · go_enter Try.func83, Try.ntmps83
    go_wp2
    go_ret
    exact ⟨ret_bool (by unfold preB; simp [hl]), rfl⟩
  · go_enter Try.func83, Try.ntmps83
    go_wp2
    go_ret
    exact ⟨ret_bool (by unfold preB; simp [hl]), rfl⟩

theorem preB_le {s h : ByteArray} (hp : preB s h = true) : h.size ≤ s.size := by unfold preB at hp; simp at hp; exact hp.1

theorem ofS_eq (s : ByteArray) : ofS s = if preB s retryHead && groupB (s.extract 7 s.size) then s.extract 7 s.size else if preB s deadHead && groupB (s.extract 6 s.size) then s.extract 6 s.size else ByteArray.empty := by
  unfold ofS ofYes
  have k1 : preB s retryHead = true → cutB s retryHead = s.extract 7 s.size := fun h => cutB_yes h
  have k2 : preB s deadHead = true → cutB s deadHead = s.extract 6 s.size := fun h => cutB_yes h
  by_cases p1 : preB s retryHead = true <;> by_cases p2 : preB s deadHead = true <;> simp only [p1, p2, k1, k2, Bool.true_and, Bool.false_and, Bool.false_eq_true, if_false]

set_option maxHeartbeats 4000000 in
theorem refOf_any (s : ByteArray) (w : World) (hs : s.size ≤ maxLen) :
    Calls Try.prog 35 #[.string s] w fun e w' => e = .returned (.string (ofS s)) ∧ w = w' := by
  have c1 := fun w => has_any s retryHead w hs (by decide)
  have c2 := fun w => has_any s deadHead w hs (by decide)
  have g1 := fun w => refGroup_any (s.extract 7 s.size) w (by rw [ByteArray.size_extract]; omega)
  have g2 := fun w => refGroup_any (s.extract 6 s.size) w (by rw [ByteArray.size_extract]; omega)
  have H := Lib.hid (ofS_eq s)
  unfold maxLen at hs
  have l1 : preB s retryHead = true → 7 ≤ s.size := fun h => preB_le h
  have l2 : preB s deadHead = true → 6 ≤ s.size := fun h => preB_le h
  generalize preB s retryHead = P1 at *
  generalize preB s deadHead = P2 at *
  generalize groupB (s.extract 7 s.size) = Q1 at *
  generalize groupB (s.extract 6 s.size) = Q2 at *
  cases P1 <;> cases P2 <;> cases Q1 <;> cases Q2 <;> simp only [Bool.false_eq_true, false_implies, true_implies, forall_const] at l1 l2
  all_goals
    go_enter Try.func35, Try.ntmps35
    go_wp2_with (first | (go_at_call 83; (with_reducible refine (c1 _).mono ?_); rintro e w' ⟨rfl, rfl⟩) | (go_at_call 83; (with_reducible refine (c2 _).mono ?_); rintro e w' ⟨rfl, rfl⟩) | (go_at_call 28; (with_reducible refine (g1 _).mono ?_); rintro e w' ⟨rfl, rfl⟩) | (go_at_call 28; (with_reducible refine (g2 _).mono ?_); rintro e w' ⟨rfl, rfl⟩))
    go_ret
    exact ⟨ret_str (by rw [H.out]; rfl), rfl⟩

theorem ofS_empty (s : ByteArray) : ofB s = !(ofS s).toList.isEmpty := by
  have hg : ∀ x, groupB x = true → (x.toList.isEmpty) = false := by
    intro x hx
    have : 1 ≤ x.size := by unfold groupB plainB at hx; simp at hx; omega
    apply isEmpty_of_ne
    intro h
    have := nil_of_size.1 h
    omega
  unfold ofB ofS
  cases h1 : ofYes s retryHead
  · cases h2 : ofYes s deadHead
    · have : ByteArray.empty.toList = [] := by rw [ByteArray.toList_eq]; rfl
      simp [this]
    · unfold ofYes at h2; simp only [Bool.and_eq_true] at h2
      simp [hg _ h2.2]
  · unfold ofYes at h1; simp only [Bool.and_eq_true] at h1
    simp [hg _ h1.2]

theorem refTopic_any (s : ByteArray) (w : World) (hs : s.size ≤ maxLen) :
    Calls Try.prog 30 #[.string s] w fun e w' => e = .returned (.bool (topicB s)) ∧ w = w' := by
  have c1 := fun w => refPlain_any s w hs
  have c2 := fun w => refOf_any s w hs
  have H : Hid (topicB s = (!(ofS s).toList.isEmpty || plainB s)) := by show _ = _; rw [← ofS_empty]; rfl
  generalize ofS s = O at *
  generalize plainB s = P at *
  cases P
  all_goals
    go_enter Try.func30, Try.ntmps30
    go_wp2_with (first | (go_at_call 27; (with_reducible refine (c1 _).mono ?_); rintro e w' ⟨rfl, rfl⟩) | (go_at_call 35; (with_reducible refine (c2 _).mono ?_); rintro e w' ⟨rfl, rfl⟩))
    go_ret
    exact ⟨ret_bool (by rw [H.out]; simp), rfl⟩

def tagB (s : ByteArray) : Bool := s.toList.isEmpty || plainB s
theorem refTag_any (s : ByteArray) (w : World) (hs : s.size ≤ maxLen) :
    Calls Try.prog 32 #[.string s] w fun e w' => e = .returned (.bool (tagB s)) ∧ w = w' := by
  have c1 := fun w => refPlain_any s w hs
  by_cases h0 : s.toList = []
  · have ht := Lib.hid (show tagB s = true by unfold tagB; rw [h0]; rfl)
    go_enter Try.func32, Try.ntmps32
    go_wp2
    go_ret
    exact ⟨ret_bool ht.out.symm, rfl⟩
  · have ht := Lib.hid (show tagB s = plainB s by unfold tagB; rw [isEmpty_of_ne h0]; rfl)
    have h1 := isEmpty_of_ne h0
    go_enter Try.func32, Try.ntmps32
    go_wp2_with (go_at_call 27; (with_reducible refine (c1 _).mono ?_); rintro e w' ⟨rfl, rfl⟩)
    go_ret
    exact ⟨ret_bool (by rw [ht.out]), rfl⟩
theorem Tag_any (s : ByteArray) (w : World) (hs : s.size ≤ maxLen) :
    Calls Try.prog 31 #[.string s] w fun e w' => e = .returned (.bool (tagB s)) ∧ Below w.heap.size w w' := by
  have c1 := fun w => Plain_any s w hs
  by_cases h0 : s.toList = []
  · have ht := Lib.hid (show tagB s = true by unfold tagB; rw [h0]; rfl)
    go_enter Try.func31, Try.ntmps31
    go_wp2
    go_ret
    exact ⟨ret_bool ht.out.symm, Below.refl _ _⟩
  · have ht := Lib.hid (show tagB s = plainB s by unfold tagB; rw [isEmpty_of_ne h0]; rfl)
    have h1 := isEmpty_of_ne h0
    go_enter Try.func31, Try.ntmps31
    go_wp2_with (go_at_call 24; (with_reducible refine (c1 _).mono ?_); rintro e w' ⟨rfl, hb⟩)
    go_ret
    exact ⟨ret_bool (by rw [ht.out]), hb⟩
end Go.Proofs.Ytndpmjanflahhaa
