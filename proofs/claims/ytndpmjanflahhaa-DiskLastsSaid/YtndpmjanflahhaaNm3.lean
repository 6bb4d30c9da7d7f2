/-
  strings.HasPrefix, CutPrefix, name.Of, name.Topic: what they return, for every text of the model's reach.
-/
import Derived.Test.YtndpmjanflahhaaNm2
namespace Go.Proofs.Ytndpmjanflahhaa
open Go.RowKit

/-- Does a text begin so? -/
def preB (s h : ByteArray) : Bool := decide (h.size ≤ s.size) && ((s.extract 0 h.size).toList == h.toList)

theorem hasPrefix_in (s h : ByteArray) (w : World) (hs : s.size ≤ maxLen) (hh : h.size ≤ maxLen) :
    Calls Try.prog 126 #[.string s, .string h] w fun e w' => e = .returned (.bool (preB s h)) ∧ w = w' := by
  unfold maxLen at hs hh
  by_cases hl : h.size ≤ s.size
  · go_enter Try.func126, Try.ntmps126
    go_wp2
    go_ret
    exact ⟨ret_bool (by unfold preB; simp [hl]), rfl⟩
  · go_enter Try.func126, Try.ntmps126
    go_wp2
    go_ret
    exact ⟨ret_bool (by unfold preB; simp [hl]), rfl⟩

theorem HasPrefix_any (s h : ByteArray) (w : World) (hs : s.size ≤ maxLen) (hh : h.size ≤ maxLen) :
    Calls Try.prog 98 #[.string s, .string h] w fun e w' => e = .returned (.bool (preB s h)) ∧ w = w' := by
  go_enter Try.func98, Try.ntmps98
  go_wp2_with (go_at_call 126; refine (hasPrefix_in _ _ _ hs hh).mono ?_; rintro e w' ⟨rfl, rfl⟩)
  go_ret
  exact ⟨rfl, rfl⟩

/-- What is left of a text behind a head, and whether it began so. -/
def cutB (s h : ByteArray) : ByteArray := if preB s h then s.extract h.size s.size else s
theorem cutB_yes {s h : ByteArray} (hp : preB s h = true) : cutB s h = s.extract h.size s.size := by unfold cutB; rw [if_pos hp]
theorem cutB_no {s h : ByteArray} (hp : preB s h = false) : cutB s h = s := by unfold cutB; rw [hp]; rfl
theorem ret_str_bool {a b : ByteArray} {p q : Bool} (h : a = b) (k : p = q) : Ending.returned (.tuple #[.string a, .bool p]) = .returned (.tuple #[.string b, .bool q]) := by rw [h, k]

theorem cutPrefix_in (s h : ByteArray) (w : World) (hs : s.size ≤ maxLen) (hh : h.size ≤ maxLen) :
    Calls Try.prog 116 #[.string s, .string h] w fun e w' => e = .returned (.tuple #[.string (cutB s h), .bool (preB s h)]) ∧ w = w' := by
  have c := hasPrefix_in s h w hs hh
  unfold maxLen at hs hh
  cases hp : preB s h <;> rw [hp] at c
  · have hc := Lib.hid (cutB_no hp); clear hp
    go_enter Try.func116, Try.ntmps116
    go_wp2_with (go_at_call 126; refine c.mono ?_; rintro e w' ⟨rfl, rfl⟩)
    go_ret2
    exact ⟨ret_str_bool hc.out.symm rfl, rfl⟩
  · have hc := Lib.hid (cutB_yes hp)
    have hl : h.size ≤ s.size := by unfold preB at hp; simp at hp; exact hp.1
    clear hp
    go_enter Try.func116, Try.ntmps116
    go_wp2_with (go_at_call 126; refine c.mono ?_; rintro e w' ⟨rfl, rfl⟩)
    go_ret2
    exact ⟨ret_str_bool hc.out.symm rfl, rfl⟩

theorem CutPrefix_any (s h : ByteArray) (w : World) (hs : s.size ≤ maxLen) (hh : h.size ≤ maxLen) :
    Calls Try.prog 82 #[.string s, .string h] w fun e w' => e = .returned (.tuple #[.string (cutB s h), .bool (preB s h)]) ∧ w = w' := by
  go_enter Try.func82, Try.ntmps82
  go_wp2_with (go_at_call 116; refine (cutPrefix_in _ _ _ hs hh).mono ?_; rintro e w' ⟨rfl, rfl⟩)
  go_ret2
  exact ⟨rfl, rfl⟩

theorem cutB_size (s h : ByteArray) : (cutB s h).size ≤ s.size := by
  unfold cutB; split
  · rw [ByteArray.size_extract]; omega
  · exact Nat.le_refl _

/-- The group of a topic of the broker's own. -/
def ofYes (s h : ByteArray) : Bool := preB s h && groupB (cutB s h)
def ofS (s : ByteArray) : ByteArray := if ofYes s retryHead then cutB s retryHead else if ofYes s deadHead then cutB s deadHead else ByteArray.empty
def ofB (s : ByteArray) : Bool := ofYes s retryHead || ofYes s deadHead

set_option maxHeartbeats 1000000 in
theorem Of_any (s : ByteArray) (w : World) (hs : s.size ≤ maxLen) :
    Calls Try.prog 26 #[.string s] w fun e w' => e = .returned (.tuple #[.string (ofS s), .bool (ofB s)]) ∧ Below w.heap.size w w' := by
  go_enter Try.func26, Try.ntmps26
  go_wp2
  go_loopw [10] (fun i wr => ∃ k : Nat, k ≤ 2 ∧ i = .int .i64 k ∧ Below w.heap.size w wr ∧ wr.cell? ⟨w.heap.size, 0, none⟩ = some (.string retryHead) ∧ wr.cell? ⟨w.heap.size, 1, none⟩ = some (.string deadHead) ∧ w.heap.size < wr.heap.size ∧ (1 ≤ k → ofYes s retryHead = false) ∧ (2 ≤ k → ofYes s deadHead = false)) (fun i _ => 2 - (intOf i).toNat)
  case atStart => exact ⟨0, by omega, rfl, (Below.refl _ w).alloc (Nat.le_refl _) _, by simp [retryHead], by simp [deadHead], by simp, by omega, by omega⟩
  case round =>
    obtain ⟨k, hk, rfl, hb, c0, c1, hz, p0, p1⟩ := hrel
    obtain rfl | rfl | rfl : k = 0 ∨ k = 1 ∨ k = 2 := by omega
    · have hres : ofYes s retryHead = (preB s retryHead && groupB (cutB s retryHead)) := rfl
      clear p0 p1
      have cc := fun w => CutPrefix_any s retryHead w hs (by decide)
      have cg := fun w => Group_any (cutB s retryHead) w (Nat.le_trans (cutB_size _ _) hs)
      cases hp : preB s retryHead <;> cases hg : groupB (cutB s retryHead) <;> (rw [hp, hg] at hres; simp only [hp] at cc; simp only [hg] at cg; clear hp hg; have hR := Lib.hid hres; clear hres)
      all_goals
        go_wp2_with (first | (go_at_call 82; refine (cc _).mono ?_; rintro e w' ⟨rfl, rfl⟩) | (go_at_call 21; refine (cg _).mono ?_; rintro e w1 ⟨rfl, hb1⟩))
      · go_roundw
        case rel => exact ⟨1, by omega, by go_num, hb, c0, c1, hz, fun _ => by simpa using hR.out, by omega⟩
        case measure => simp [intOf]
      · go_roundw
        case rel => exact ⟨1, by omega, by go_num, hb, c0, c1, hz, fun _ => by simpa using hR.out, by omega⟩
        case measure => simp [intOf]
      · go_roundw
        case rel => exact ⟨1, by omega, by go_num, hb.trans (hb1.mono hb.size), (hb1.cell (p := ⟨_, _, _⟩) hz).trans c0, (hb1.cell (p := ⟨_, _, _⟩) hz).trans c1, Nat.lt_of_lt_of_le hz hb1.size, fun _ => by simpa using hR.out, by omega⟩
        case measure => simp [intOf]
      · go_ret2
        exact ⟨ret_str_bool (by unfold ofS; rw [show ofYes s retryHead = true by simpa using hR.out]; rfl) (by unfold ofB; rw [show ofYes s retryHead = true by simpa using hR.out]; rfl), hb.trans (hb1.mono hb.size)⟩
    · have hres : ofYes s deadHead = (preB s deadHead && groupB (cutB s deadHead)) := rfl
      clear p1
      have p0' := Lib.hid (p0 (by omega)); clear p0
      have cc := fun w => CutPrefix_any s deadHead w hs (by decide)
      have cg := fun w => Group_any (cutB s deadHead) w (Nat.le_trans (cutB_size _ _) hs)
      cases hp : preB s deadHead <;> cases hg : groupB (cutB s deadHead) <;> (rw [hp, hg] at hres; simp only [hp] at cc; simp only [hg] at cg; clear hp hg; have hR := Lib.hid hres; clear hres)
      all_goals
        go_wp2_with (first | (go_at_call 82; refine (cc _).mono ?_; rintro e w' ⟨rfl, rfl⟩) | (go_at_call 21; refine (cg _).mono ?_; rintro e w1 ⟨rfl, hb1⟩))
      · go_roundw
        case rel => exact ⟨2, by omega, by go_num, hb, c0, c1, hz, fun _ => p0'.out, fun _ => by simpa using hR.out⟩
        case measure => simp [intOf]
      · go_roundw
        case rel => exact ⟨2, by omega, by go_num, hb, c0, c1, hz, fun _ => p0'.out, fun _ => by simpa using hR.out⟩
        case measure => simp [intOf]
      · go_roundw
        case rel => exact ⟨2, by omega, by go_num, hb.trans (hb1.mono hb.size), (hb1.cell (p := ⟨_, _, _⟩) hz).trans c0, (hb1.cell (p := ⟨_, _, _⟩) hz).trans c1, Nat.lt_of_lt_of_le hz hb1.size, fun _ => p0'.out, fun _ => by simpa using hR.out⟩
        case measure => simp [intOf]
      · go_ret2
        exact ⟨ret_str_bool (by unfold ofS; rw [show ofYes s retryHead = false from p0'.out, show ofYes s deadHead = true by simpa using hR.out]; rfl) (by unfold ofB; rw [show ofYes s retryHead = false from p0'.out, show ofYes s deadHead = true by simpa using hR.out]; rfl), hb.trans (hb1.mono hb.size)⟩
    · have p0' := Lib.hid (p0 (by omega))
      have p1' := Lib.hid (p1 (by omega))
      clear p0 p1
      go_wp2
      go_ret2
      exact ⟨ret_str_bool (by unfold ofS; rw [p0'.out, p1'.out]; rfl) (by unfold ofB; rw [p0'.out, p1'.out]; rfl), hb⟩

def topicB (s : ByteArray) : Bool := ofB s || plainB s
theorem Topic_any (s : ByteArray) (w : World) (hs : s.size ≤ maxLen) :
    Calls Try.prog 29 #[.string s] w fun e w' => e = .returned (.bool (topicB s)) ∧ Below w.heap.size w w' := by
  have co := fun w => Of_any s w hs
  have cp := fun w => Plain_any s w hs
  have hres : topicB s = (ofB s || plainB s) := rfl
  cases ho : ofB s <;> (simp only [ho] at co hres; have hR := Lib.hid hres; clear ho hres)
  · go_enter Try.func29, Try.ntmps29
    go_wp2_with (first | (go_at_call 26; refine (co _).mono ?_; rintro e w1 ⟨rfl, hb1⟩) | (go_at_call 24; refine (cp _).mono ?_; rintro e w2 ⟨rfl, hb2⟩))
    go_ret
    exact ⟨ret_bool (by rw [hR.out]; simp), hb1.trans (hb2.mono hb1.size)⟩
  · go_enter Try.func29, Try.ntmps29
    go_wp2_with (first | (go_at_call 26; refine (co _).mono ?_; rintro e w1 ⟨rfl, hb1⟩) | (go_at_call 24; refine (cp _).mono ?_; rintro e w2 ⟨rfl, hb2⟩))
    go_ret
    exact ⟨ret_bool (by rw [hR.out]; simp), hb1⟩
end Go.Proofs.Ytndpmjanflahhaa
