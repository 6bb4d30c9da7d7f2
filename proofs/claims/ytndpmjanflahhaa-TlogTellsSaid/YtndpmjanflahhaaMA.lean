/-
  Nm0, Nm1, Nm2, Nm3, Nm4, Nm5, one behind the other.
-/
import Derived.Test.YtndpmjanflahhaaProg
import Derived.WalkKit
import Derived.KernelRfl
import Derived.Lib.Hide
import Derived.Deep.LoopGhost
import Derived.Shelf.GgClosure.StringsIndexFunc
/-
  THE TEST OF A PLAIN SIGN (name.sign, and the function value that name.Plain hands on): what they return, for every rune; no condition.
-/
namespace Go.Proofs.Ytndpmjanflahhaa
open Go.RowKit

theorem ret_bool {a b : Bool} (h : a = b) : Ending.returned (.bool a) = .returned (.bool b) := by rw [h]
theorem ret_int {k : IntKind} {a b : Int} (h : a = b) : Ending.returned (.int k a) = .returned (.int k b) := by rw [h]
theorem ret_str {a b : ByteArray} (h : a = b) : Ending.returned (.string a) = .returned (.string b) := by rw [h]

/-- Of a rune: is it a plain sign? -/
def signB (c : Int) : Bool := decide ((97 ≤ c ∧ c ≤ 122) ∨ (48 ≤ c ∧ c ≤ 57) ∨ c = 45)

theorem sign_any (c : Int) (w : World) :
    Calls Try.prog 81 #[.int .i32 c] w fun e w' => e = .returned (.bool (signB c)) ∧ w = w' := by
  by_cases h1 : 97 ≤ c <;> by_cases h2 : c ≤ 122 <;> by_cases h3 : 48 ≤ c <;> by_cases h4 : c ≤ 57 <;> by_cases h5 : c = 45 <;> try omega
  all_goals
    go_enter Try.func81, Try.ntmps81
    go_wp2
    go_ret
    exact ⟨ret_bool (by unfold signB; rw [Bool.eq_iff_iff]; simp <;> omega), rfl⟩

/-- The function value that Plain hands to IndexFunc. -/
theorem plain1_any (c : Int) (w : World) :
    Calls Try.prog 80 #[.int .i32 c] w fun e w' => e = .returned (.bool (!signB c)) ∧ w = w' := by
  go_enter Try.func80, Try.ntmps80
  go_wp2_with (go_at_call 81; refine (sign_any _ _).mono ?_; rintro e w' ⟨rfl, rfl⟩)
  go_ret
  exact ⟨rfl, rfl⟩
end Go.Proofs.Ytndpmjanflahhaa

/-
  strings.indexFunc AT THE FUNCTION VALUE OF name.Plain: where the first rune lies that is no plain sign, for every text; no condition.
-/
namespace Go.Proofs.Ytndpmjanflahhaa
open Go.RowKit

def notSign (c : Nat) : Bool := !signB c

set_option maxHeartbeats 1000000 in
theorem indexFunc_plain (s : ByteArray) (w : World) :
    Calls Try.prog 115 #[.string s, .func (.func 80) #[] #[], .bool true] w fun e w' => e = .returned (.int .i64 (Lib.idxFunc notSign true s)) ∧ Below w.heap.size w w' := by
  go_enter Try.func115, Try.ntmps115
  go_wp2
  go_loopg [] s.size (fun gf wx => ∃ pos : Nat, wx.heap[w.heap.size]? = some (.stringIter s pos) ∧ Below w.heap.size w wx ∧ Lib.idxFuncFrom notSign true s gf pos = Lib.idxFunc notSign true s ∧ s.size ≤ pos + gf)
  case atStart => exact ⟨0, World.iter_heap w s 0, (Below.refl _ w).alloc (Nat.le_refl _) _, rfl, by omega⟩
  case round =>
    obtain ⟨pos, hit, hbw, hleft, hfu⟩ := hrel
    by_cases hps : pos < s.size
    · obtain ⟨g', rfl⟩ : ∃ g', gk = g' + 1 := ⟨gk - 1, by omega⟩
      have hnx : ∀ ty, (Instr.next (.pointer (some ⟨w.heap.size, 0, none⟩)) true ty).run Try.prog wr = _ := fun ty => Lib.run_next_any_at wr w.heap.size s pos ty hit hps
      have hwd := Lib.width_pos s pos
      obtain ⟨R, hR⟩ : ∃ R, (Utf8.decode s pos).1 = R := ⟨_, rfl⟩
      obtain ⟨K, hK⟩ : ∃ K, (Utf8.decode s pos).2 = K := ⟨_, rfl⟩
      simp only [Lib.idxFuncFrom, hps, if_true, hR, hK] at hleft
      rw [hR, hK] at hnx
      rw [hK] at hwd
      have hit2 := Lib.iterAt_heap wr w.heap.size s pos (pos + K) hit
      have hbw2 := Lib.below_iterAt hbw (k := w.heap.size) (Nat.le_refl _) s (pos + K)
      obtain ⟨W, hWd⟩ : ∃ W, wr.iterAt w.heap.size s (pos + K) = W := ⟨_, rfl⟩
      rw [hWd] at hnx hit2 hbw2
      have cS := plain1_any (R : Int) W
      cases hsp : signB (R : Int) <;> rw [hsp] at cS <;> simp only [notSign, hsp, Bool.not_true, Bool.not_false, if_true, Bool.false_eq_true, Bool.true_eq_false, if_false] at hleft
      · go_wp2_with (go_at_call 80; refine cS.mono ?_; rintro e W' ⟨rfl, rfl⟩)
        go_ret
        exact ⟨by rw [← hleft] <;> rfl, hbw2⟩
      · go_wp2_with (go_at_call 80; refine cS.mono ?_; rintro e W' ⟨rfl, rfl⟩)
        go_roundg g'
        case measure => omega
        case rel => exact ⟨pos + K, hit2, hbw2, hleft, by omega⟩
    · have hnx : ∀ ty, (Instr.next (.pointer (some ⟨w.heap.size, 0, none⟩)) true ty).run Try.prog wr = _ := fun ty => Lib.run_next_end_at wr w.heap.size s pos ty hit hps
      rw [Lib.idxFuncFrom_end notSign true s gk pos hps] at hleft
      go_wp2
      go_ret
      exact ⟨by rw [← hleft] <;> rfl, hbw⟩
end Go.Proofs.Ytndpmjanflahhaa

/-
  name.Plain, Group, own, Retry, Dead: what they return, for every text of the model's reach.
-/
namespace Go.Proofs.Ytndpmjanflahhaa
open Go.RowKit

/-- All bytes are plain signs. -/
def signs (s : ByteArray) : Bool := s.data.toList.all fun b => signB b.toNat
/-- A plain name. -/
def plainB (s : ByteArray) : Bool := decide (1 ≤ s.size) && decide (s.size ≤ 16) && signs s
def groupB (s : ByteArray) : Bool := plainB s && decide (s.size ≤ 8)

theorem decode_lo (s : ByteArray) (i : Nat) (h : (s.get! i).toNat < 128) : Utf8.decode s i = ((s.get! i).toNat, 1) := by
  unfold Utf8.decode; simp [h]
theorem decode_hi (s : ByteArray) (i : Nat) (h : 128 ≤ (s.get! i).toNat) : 128 ≤ (Utf8.decode s i).1 := by
  unfold Utf8.decode
  simp only [Nat.add_zero]
  rw [if_neg (by omega)]
  split
  · split
    · simpa using by assumption
    · simp [Utf8.runeError]
  · split
    · split
      · rename_i h2; simp at h2 ⊢; omega
      · simp [Utf8.runeError]
    · split
      · split
        · rename_i h2; simp at h2 ⊢; omega
        · simp [Utf8.runeError]
      · simp [Utf8.runeError]
theorem signB_hi (c : Nat) (h : 128 ≤ c) : signB c = false := by unfold signB; simp; omega

theorem idx_signs (s : ByteArray) : ∀ (f pos : Nat), s.size ≤ pos + f →
    (Lib.idxFuncFrom notSign true s f pos = -1 ↔ ∀ j, pos ≤ j → j < s.size → signB (s.get! j).toNat = true)
  | 0, pos, h => by
    constructor
    · intro _ j h1 h2; omega
    · intro _; rfl
  | f + 1, pos, h => by
    by_cases hp : pos < s.size
    · unfold Lib.idxFuncFrom
      rw [if_pos hp]
      by_cases hb : (s.get! pos).toNat < 128
      · rw [decode_lo s pos hb]
        simp only [notSign]
        by_cases hs : signB ((s.get! pos).toNat : Int) = true
        case neg =>
          rw [Bool.not_eq_true] at hs
          simp only [hs, Bool.not_false, if_true]
          constructor
          · intro hh; omega
          · intro hh; have := hh pos (Nat.le_refl _) hp; rw [hs] at this; cases this
        case pos =>
          simp only [hs, Bool.not_true, Bool.false_eq_true, if_false]
          rw [idx_signs s f (pos + 1) (by omega)]
          constructor
          · intro hh j h1 h2
            rcases Nat.eq_or_lt_of_le h1 with e | e
            · rw [← e]; exact hs
            · exact hh j e h2
          · intro hh j h1 h2; exact hh j (by omega) h2
      · have hd := decode_hi s pos (by omega)
        have h1 : notSign (Utf8.decode s pos).1 = true := by unfold notSign; rw [signB_hi _ hd]; rfl
        rw [if_pos h1]
        constructor
        · intro hh; omega
        · intro hh; have := hh pos (Nat.le_refl _) hp; rw [signB_hi _ (by omega)] at this; cases this
    · unfold Lib.idxFuncFrom
      rw [if_neg hp]
      constructor
      · intro _ j h1 h2; omega
      · intro _; rfl

theorem signs_iff (s : ByteArray) : signs s = true ↔ ∀ j, j < s.size → signB (s.get! j).toNat = true := by
  unfold signs
  rw [List.all_eq_true]
  constructor
  · intro h j hj
    have hj' : j < s.data.size := hj
    have : s.get! j = s.data[j] := getElem!_pos s.data j hj'
    rw [this]; exact h _ (Array.getElem_mem_toList hj')
  · intro h x hx
    obtain ⟨j, hj, e⟩ := List.getElem_of_mem hx
    have hj' : j < s.data.size := by simpa using hj
    have := h j hj'
    have e2 : s.get! j = s.data[j] := getElem!_pos s.data j hj'
    rw [e2] at this
    rw [← e]; simpa using this

theorem idx_plain (s : ByteArray) : decide (Lib.idxFunc notSign true s < 0) = signs s := by
  have h := idx_signs s s.size 0 (by omega)
  have hr := Lib.idxFuncFrom_range notSign true s s.size 0
  rw [Bool.eq_iff_iff, signs_iff]
  unfold Lib.idxFunc
  simp only [decide_eq_true_eq]
  constructor
  · intro hh; exact fun j hj => h.1 (by omega) j (Nat.zero_le _) hj
  · intro hh; have := h.2 (fun j _ hj => hh j hj); omega

theorem IndexFunc_plain (s : ByteArray) (w : World) :
    Calls Try.prog 79 #[.string s, .func (.func 80) #[] #[]] w fun e w' => e = .returned (.int .i64 (Lib.idxFunc notSign true s)) ∧ Below w.heap.size w w' := by
  go_enter Try.func79, Try.ntmps79
  go_wp2_with (go_at_call 115; refine (indexFunc_plain _ _).mono ?_; rintro e w' ⟨rfl, hb⟩)
  go_ret
  exact ⟨rfl, hb⟩

theorem nil_of_size {s : ByteArray} : s.toList = [] ↔ s.size = 0 := by
  rw [ByteArray.toList_eq, List.eq_nil_iff_length_eq_zero]; simp
theorem isEmpty_of_ne {s : ByteArray} (h : ¬ s.toList = []) : s.toList.isEmpty = false := by
  cases e : s.toList.isEmpty
  · rfl
  · exact absurd (List.isEmpty_iff.1 e) h

theorem Plain_any (s : ByteArray) (w : World) (hs : s.size ≤ maxLen) :
    Calls Try.prog 24 #[.string s] w fun e w' => e = .returned (.bool (plainB s)) ∧ Below w.heap.size w w' := by
  unfold maxLen at hs
  have hI := idx_plain s
  by_cases h0 : s.toList = []
  · have hp : plainB s = false := by unfold plainB; rw [nil_of_size.1 h0]; rfl
    go_enter Try.func24, Try.ntmps24
    go_wp2
    go_ret
    exact ⟨ret_bool hp.symm, Below.refl _ _⟩
  · have h1 : 1 ≤ s.size := by have := mt nil_of_size.2 h0; omega
    have he := Lib.hid (isEmpty_of_ne h0)
    by_cases h2 : s.size ≤ 16
    · go_enter Try.func24, Try.ntmps24
      go_wp2_with (go_at_call 79; refine (IndexFunc_plain _ _).mono ?_; rintro e w' ⟨rfl, hb⟩)
      go_ret
      exact ⟨ret_bool (by unfold plainB; rw [he.out]; simp [h1, h2]), hb⟩
    · go_enter Try.func24, Try.ntmps24
      go_wp2
      go_ret
      exact ⟨ret_bool (by unfold plainB; simp; omega), Below.refl _ _⟩

theorem Group_any (s : ByteArray) (w : World) (hs : s.size ≤ maxLen) :
    Calls Try.prog 21 #[.string s] w fun e w' => e = .returned (.bool (groupB s)) ∧ Below w.heap.size w w' := by
  have c := Plain_any s w hs
  unfold maxLen at hs
  cases hp : plainB s
  · rw [hp] at c
    have hg : groupB s = false := by unfold groupB; rw [hp]; rfl
    go_enter Try.func21, Try.ntmps21
    go_wp2_with (go_at_call 24; refine c.mono ?_; rintro e w' ⟨rfl, hb⟩)
    go_ret
    exact ⟨ret_bool hg.symm, hb⟩
  · rw [hp] at c
    go_enter Try.func21, Try.ntmps21
    go_wp2_with (go_at_call 24; refine c.mono ?_; rintro e w' ⟨rfl, hb⟩)
    go_ret
    exact ⟨ret_bool (by unfold groupB; rw [hp]; simp; omega), hb⟩

/-- A group's topic of the broker's own. -/
def ownOf (h g : ByteArray) : ByteArray := if groupB g then h ++ g else ByteArray.empty
theorem ownOf_yes {h g : ByteArray} (hg : groupB g = true) : ownOf h g = h ++ g := by unfold ownOf; rw [if_pos hg]
theorem ownOf_no {h g : ByteArray} (hg : groupB g = false) : ownOf h g = ByteArray.empty := by unfold ownOf; rw [hg]; rfl

theorem own_any (h g : ByteArray) (w : World) (hs : g.size ≤ maxLen) (hh : h.size ≤ 100) :
    Calls Try.prog 78 #[.string h, .string g] w fun e w' => e = .returned (.string (ownOf h g)) ∧ Below w.heap.size w w' := by
  have c := Group_any g w hs
  unfold maxLen at hs
  cases hp : groupB g <;> rw [hp] at c <;> have hp2 := Lib.hid hp <;> clear hp
  · go_enter Try.func78, Try.ntmps78
    go_wp2_with (go_at_call 21; refine c.mono ?_; rintro e w' ⟨rfl, hb⟩)
    go_ret
    exact ⟨ret_str (ownOf_no hp2.out).symm, hb⟩
  · have h8 : g.size ≤ 8 := by have := hp2.out; unfold groupB at this; simp at this; omega
    go_enter Try.func78, Try.ntmps78
    go_wp2_with (go_at_call 21; refine c.mono ?_; rintro e w' ⟨rfl, hb⟩)
    go_ret
    exact ⟨ret_str (ownOf_yes hp2.out).symm, hb⟩

@[reducible] def retryHead : ByteArray := ⟨#[37, 114, 101, 116, 114, 121, 37]⟩
@[reducible] def deadHead : ByteArray := ⟨#[37, 100, 101, 97, 100, 37]⟩

theorem Retry_any (g : ByteArray) (w : World) (hs : g.size ≤ maxLen) :
    Calls Try.prog 22 #[.string g] w fun e w' => e = .returned (.string (ownOf retryHead g)) ∧ Below w.heap.size w w' := by
  have c := own_any retryHead g w hs (by decide)
  go_enter Try.func22, Try.ntmps22
  go_wp2_with (go_at_call 78; refine c.mono ?_; rintro e w' ⟨rfl, hb⟩)
  go_ret
  exact ⟨rfl, hb⟩
theorem Dead_any (g : ByteArray) (w : World) (hs : g.size ≤ maxLen) :
    Calls Try.prog 23 #[.string g] w fun e w' => e = .returned (.string (ownOf deadHead g)) ∧ Below w.heap.size w w' := by
  have c := own_any deadHead g w hs (by decide)
  go_enter Try.func23, Try.ntmps23
  go_wp2_with (go_at_call 78; refine c.mono ?_; rintro e w' ⟨rfl, hb⟩)
  go_ret
  exact ⟨rfl, hb⟩
end Go.Proofs.Ytndpmjanflahhaa

/-
  strings.HasPrefix, CutPrefix, name.Of, name.Topic: what they return, for every text of the model's reach.
-/
namespace Go.Proofs.Ytndpmjanflahhaa
open Go.RowKit

/-- Does a text begin so? -/
def preB (s h : ByteArray) : Bool := decide (h.size ≤ s.size) && ((s.extract 0 h.size).toList == h.toList)

theorem hasPrefix_in (s h : ByteArray) (w : World) (hs : s.size ≤ maxLen) (hh : h.size ≤ maxLen) :
    Calls Try.prog 126 #[.string s, .string h] w fun e w' => e = .returned (.bool (preB s h)) ∧ w = w' := by
  unfold maxLen at hs hh
  by_cases hl : h.size ≤ s.size
  · go_enter Try.func126, Try.ntmps126
    go_wp2
    go_ret
    exact ⟨ret_bool (by unfold preB; simp [hl]), rfl⟩
  · go_enter Try.func126, Try.ntmps126
    go_wp2
    go_ret
    exact ⟨ret_bool (by unfold preB; simp [hl]), rfl⟩

theorem HasPrefix_any (s h : ByteArray) (w : World) (hs : s.size ≤ maxLen) (hh : h.size ≤ maxLen) :
    Calls Try.prog 98 #[.string s, .string h] w fun e w' => e = .returned (.bool (preB s h)) ∧ w = w' := by
  go_enter Try.func98, Try.ntmps98
  go_wp2_with (go_at_call 126; refine (hasPrefix_in _ _ _ hs hh).mono ?_; rintro e w' ⟨rfl, rfl⟩)
  go_ret
  exact ⟨rfl, rfl⟩

/-- What is left of a text behind a head, and whether it began so. -/
def cutB (s h : ByteArray) : ByteArray := if preB s h then s.extract h.size s.size else s
theorem cutB_yes {s h : ByteArray} (hp : preB s h = true) : cutB s h = s.extract h.size s.size := by unfold cutB; rw [if_pos hp]
theorem cutB_no {s h : ByteArray} (hp : preB s h = false) : cutB s h = s := by unfold cutB; rw [hp]; rfl
theorem ret_str_bool {a b : ByteArray} {p q : Bool} (h : a = b) (k : p = q) : Ending.returned (.tuple #[.string a, .bool p]) = .returned (.tuple #[.string b, .bool q]) := by rw [h, k]

theorem cutPrefix_in (s h : ByteArray) (w : World) (hs : s.size ≤ maxLen) (hh : h.size ≤ maxLen) :
    Calls Try.prog 116 #[.string s, .string h] w fun e w' => e = .returned (.tuple #[.string (cutB s h), .bool (preB s h)]) ∧ w = w' := by
  have c := hasPrefix_in s h w hs hh
  unfold maxLen at hs hh
  cases hp : preB s h <;> rw [hp] at c
  · have hc := Lib.hid (cutB_no hp); clear hp
    go_enter Try.func116, Try.ntmps116
    go_wp2_with (go_at_call 126; refine c.mono ?_; rintro e w' ⟨rfl, rfl⟩)
    go_ret2
    exact ⟨ret_str_bool hc.out.symm rfl, rfl⟩
  · have hc := Lib.hid (cutB_yes hp)
    have hl : h.size ≤ s.size := by unfold preB at hp; simp at hp; exact hp.1
    clear hp
    go_enter Try.func116, Try.ntmps116
    go_wp2_with (go_at_call 126; refine c.mono ?_; rintro e w' ⟨rfl, rfl⟩)
    go_ret2
    exact ⟨ret_str_bool hc.out.symm rfl, rfl⟩

theorem CutPrefix_any (s h : ByteArray) (w : World) (hs : s.size ≤ maxLen) (hh : h.size ≤ maxLen) :
    Calls Try.prog 82 #[.string s, .string h] w fun e w' => e = .returned (.tuple #[.string (cutB s h), .bool (preB s h)]) ∧ w = w' := by
  go_enter Try.func82, Try.ntmps82
  go_wp2_with (go_at_call 116; refine (cutPrefix_in _ _ _ hs hh).mono ?_; rintro e w' ⟨rfl, rfl⟩)
  go_ret2
  exact ⟨rfl, rfl⟩

theorem cutB_size (s h : ByteArray) : (cutB s h).size ≤ s.size := by
  unfold cutB; split
  · rw [ByteArray.size_extract]; omega
  · exact Nat.le_refl _

/-- The group of a topic of the broker's own. -/
def ofYes (s h : ByteArray) : Bool := preB s h && groupB (cutB s h)
def ofS (s : ByteArray) : ByteArray := if ofYes s retryHead then cutB s retryHead else if ofYes s deadHead then cutB s deadHead else ByteArray.empty
def ofB (s : ByteArray) : Bool := ofYes s retryHead || ofYes s deadHead

set_option maxHeartbeats 1000000 in
theorem Of_any (s : ByteArray) (w : World) (hs : s.size ≤ maxLen) :
    Calls Try.prog 26 #[.string s] w fun e w' => e = .returned (.tuple #[.string (ofS s), .bool (ofB s)]) ∧ Below w.heap.size w w' := by
  go_enter Try.func26, Try.ntmps26
  go_wp2
  go_loopw [10] (fun i wr => ∃ k : Nat, k ≤ 2 ∧ i = .int .i64 k ∧ Below w.heap.size w wr ∧ wr.cell? ⟨w.heap.size, 0, none⟩ = some (.string retryHead) ∧ wr.cell? ⟨w.heap.size, 1, none⟩ = some (.string deadHead) ∧ w.heap.size < wr.heap.size ∧ (1 ≤ k → ofYes s retryHead = false) ∧ (2 ≤ k → ofYes s deadHead = false)) (fun i _ => 2 - (intOf i).toNat)
  case atStart => exact ⟨0, by omega, rfl, (Below.refl _ w).alloc (Nat.le_refl _) _, by simp [retryHead], by simp [deadHead], by simp, by omega, by omega⟩
  case round =>
    obtain ⟨k, hk, rfl, hb, c0, c1, hz, p0, p1⟩ := hrel
    obtain rfl | rfl | rfl : k = 0 ∨ k = 1 ∨ k = 2 := by omega
    · have hres : ofYes s retryHead = (preB s retryHead && groupB (cutB s retryHead)) := rfl
      clear p0 p1
      have cc := fun w => CutPrefix_any s retryHead w hs (by decide)
      have cg := fun w => Group_any (cutB s retryHead) w (Nat.le_trans (cutB_size _ _) hs)
      cases hp : preB s retryHead <;> cases hg : groupB (cutB s retryHead) <;> (rw [hp, hg] at hres; simp only [hp] at cc; simp only [hg] at cg; clear hp hg; have hR := Lib.hid hres; clear hres)
      all_goals
        go_wp2_with (first | (go_at_call 82; refine (cc _).mono ?_; rintro e w' ⟨rfl, rfl⟩) | (go_at_call 21; refine (cg _).mono ?_; rintro e w1 ⟨rfl, hb1⟩))
      · go_roundw
        case rel => exact ⟨1, by omega, by go_num, hb, c0, c1, hz, fun _ => by simpa using hR.out, by omega⟩
        case measure => simp [intOf]
      · go_roundw
        case rel => exact ⟨1, by omega, by go_num, hb, c0, c1, hz, fun _ => by simpa using hR.out, by omega⟩
        case measure => simp [intOf]
      · go_roundw
        case rel => exact ⟨1, by omega, by go_num, hb.trans (hb1.mono hb.size), (hb1.cell (p := ⟨_, _, _⟩) hz).trans c0, (hb1.cell (p := ⟨_, _, _⟩) hz).trans c1, Nat.lt_of_lt_of_le hz hb1.size, fun _ => by simpa using hR.out, by omega⟩
        case measure => simp [intOf]
      · go_ret2
        exact ⟨ret_str_bool (by unfold ofS; rw [show ofYes s retryHead = true by simpa using hR.out]; rfl) (by unfold ofB; rw [show ofYes s retryHead = true by simpa using hR.out]; rfl), hb.trans (hb1.mono hb.size)⟩
    · have hres : ofYes s deadHead = (preB s deadHead && groupB (cutB s deadHead)) := rfl
      clear p1
      have p0' := Lib.hid (p0 (by omega)); clear p0
      have cc := fun w => CutPrefix_any s deadHead w hs (by decide)
      have cg := fun w => Group_any (cutB s deadHead) w (Nat.le_trans (cutB_size _ _) hs)
      cases hp : preB s deadHead <;> cases hg : groupB (cutB s deadHead) <;> (rw [hp, hg] at hres; simp only [hp] at cc; simp only [hg] at cg; clear hp hg; have hR := Lib.hid hres; clear hres)
      all_goals
        go_wp2_with (first | (go_at_call 82; refine (cc _).mono ?_; rintro e w' ⟨rfl, rfl⟩) | (go_at_call 21; refine (cg _).mono ?_; rintro e w1 ⟨rfl, hb1⟩))
      · go_roundw
        case rel => exact ⟨2, by omega, by go_num, hb, c0, c1, hz, fun _ => p0'.out, fun _ => by simpa using hR.out⟩
        case measure => simp [intOf]
      · go_roundw
        case rel => exact ⟨2, by omega, by go_num, hb, c0, c1, hz, fun _ => p0'.out, fun _ => by simpa using hR.out⟩
        case measure => simp [intOf]
      · go_roundw
        case rel => exact ⟨2, by omega, by go_num, hb.trans (hb1.mono hb.size), (hb1.cell (p := ⟨_, _, _⟩) hz).trans c0, (hb1.cell (p := ⟨_, _, _⟩) hz).trans c1, Nat.lt_of_lt_of_le hz hb1.size, fun _ => p0'.out, fun _ => by simpa using hR.out⟩
        case measure => simp [intOf]
      · go_ret2
        exact ⟨ret_str_bool (by unfold ofS; rw [show ofYes s retryHead = false from p0'.out, show ofYes s deadHead = true by simpa using hR.out]; rfl) (by unfold ofB; rw [show ofYes s retryHead = false from p0'.out, show ofYes s deadHead = true by simpa using hR.out]; rfl), hb.trans (hb1.mono hb.size)⟩
    · have p0' := Lib.hid (p0 (by omega))
      have p1' := Lib.hid (p1 (by omega))
      clear p0 p1
      go_wp2
      go_ret2
      exact ⟨ret_str_bool (by unfold ofS; rw [p0'.out, p1'.out]; rfl) (by unfold ofB; rw [p0'.out, p1'.out]; rfl), hb⟩

def topicB (s : ByteArray) : Bool := ofB s || plainB s
theorem Topic_any (s : ByteArray) (w : World) (hs : s.size ≤ maxLen) :
    Calls Try.prog 29 #[.string s] w fun e w' => e = .returned (.bool (topicB s)) ∧ Below w.heap.size w w' := by
  have co := fun w => Of_any s w hs
  have cp := fun w => Plain_any s w hs
  have hres : topicB s = (ofB s || plainB s) := rfl
  cases ho : ofB s <;> (simp only [ho] at co hres; have hR := Lib.hid hres; clear ho hres)
  · go_enter Try.func29, Try.ntmps29
    go_wp2_with (first | (go_at_call 26; refine (co _).mono ?_; rintro e w1 ⟨rfl, hb1⟩) | (go_at_call 24; refine (cp _).mono ?_; rintro e w2 ⟨rfl, hb2⟩))
    go_ret
    exact ⟨ret_bool (by rw [hR.out]; simp), hb1.trans (hb2.mono hb1.size)⟩
  · go_enter Try.func29, Try.ntmps29
    go_wp2_with (first | (go_at_call 26; refine (co _).mono ?_; rintro e w1 ⟨rfl, hb1⟩) | (go_at_call 24; refine (cp _).mono ?_; rintro e w2 ⟨rfl, hb2⟩))
    go_ret
    exact ⟨ret_bool (by rw [hR.out]; simp), hb1⟩
end Go.Proofs.Ytndpmjanflahhaa

/-
  THE WALK OF reveillelaw03.NameOwn: it returns true, for every two texts of the model's reach.
-/
namespace Go.Proofs.Ytndpmjanflahhaa
open Go.RowKit

def gB : ByteArray := ⟨#[103]⟩
def rgB : ByteArray := ⟨#[37, 114, 101, 116, 114, 121, 37, 103]⟩
theorem own_g : ownOf retryHead gB = rgB := by kernel_rfl
theorem topic_rg : topicB rgB = true := by kernel_rfl
theorem plain_rg : plainB rgB = false := by kernel_rfl

theorem awake03 (w : World) : Calls Try.prog 20 #[] w fun e w' => e = .returned (.bool true) ∧ Below w.heap.size w w' := by
  have c1 := fun w => Retry_any gB w (by decide)
  have c2 := fun w => Topic_any rgB w (by decide)
  have c3 := fun w => Plain_any rgB w (by decide)
  rw [own_g] at c1
  rw [topic_rg] at c2
  rw [plain_rg] at c3
  have h0 : rgB.toList = [37, 114, 101, 116, 114, 121, 37, 103] := by rw [ByteArray.toList_eq]; rfl
  go_enter Try.func20, Try.ntmps20
  go_wp2_with (first | (go_at_call 22; refine (c1 _).mono ?_; rintro e w1 ⟨rfl, hb1⟩) | (go_at_call 29; refine (c2 _).mono ?_; rintro e w2 ⟨rfl, hb2⟩) | (go_at_call 24; refine (c3 _).mono ?_; rintro e w3 ⟨rfl, hb3⟩))
  go_ret
  exact ⟨rfl, hb1.trans ((hb2.trans (hb3.mono hb2.size)).mono hb1.size)⟩

theorem head_not_plain (h g : ByteArray) (c : UInt8) (h0 : h.data.toList.head? = some c) (hc : signB c.toNat = false) : plainB (h ++ g) = false := by
  have : signs (h ++ g) = false := by
    unfold signs
    have e : (h ++ g).data.toList = h.data.toList ++ g.data.toList := by simp
    rw [e]
    cases hl : h.data.toList with
    | nil => rw [hl] at h0; cases h0
    | cons x t => rw [hl] at h0; simp at h0; rw [h0]; simp [hc]
  unfold plainB; rw [this]; simp

theorem toList_append (a b : ByteArray) : (a ++ b).toList = a.toList ++ b.toList := by
  simp [ByteArray.toList_eq]

theorem beq_eq_of_iff {x y a b : List UInt8} (h : x = y ↔ a = b) : (x == y) = (a == b) := by
  rw [Bool.eq_iff_iff]; simpa using h

set_option maxRecDepth 100000 in
set_option maxHeartbeats 1000000 in
theorem nameOwn_in (a b : ByteArray) (w : World) (ha : a.size ≤ 100) (hb : b.size ≤ 100) (ga : groupB a = true) (gb : groupB b = true) :
    Calls Try.prog 3 #[.string a, .string b] w fun e w' => e = .returned (.bool true) ∧ Below w.heap.size w w' := by
  have ma : a.size ≤ maxLen := by unfold maxLen; omega
  have mb : b.size ≤ maxLen := by unfold maxLen; omega
  have cA := fun w => awake03 w
  have cga := fun w => Group_any a w ma
  have cgb := fun w => Group_any b w mb
  have cra := fun w => Retry_any a w ma
  have crb := fun w => Retry_any b w mb
  have cda := fun w => Dead_any a w ma
  have cdb := fun w => Dead_any b w mb
  rw [ownOf_yes ga] at cra cda
  rw [ownOf_yes gb] at crb cdb
  simp only [ga] at cga
  simp only [gb] at cgb
  have sz : ∀ h g : ByteArray, (h ++ g).size = h.size + g.size := fun h g => by simp
  have cpr := fun w => Plain_any (retryHead ++ a) w (by rw [sz]; unfold maxLen; show 7 + _ ≤ _; omega)
  have cpd := fun w => Plain_any (deadHead ++ a) w (by rw [sz]; unfold maxLen; show 6 + _ ≤ _; omega)
  rw [head_not_plain retryHead a 37 rfl (by decide)] at cpr
  rw [head_not_plain deadHead a 37 rfl (by decide)] at cpd
  have hpa : plainB a = true := by unfold groupB at ga; simp at ga; exact ga.1
  have cpa := fun w => Plain_any a w ma
  simp only [hpa] at cpa
  have hrd : ∀ x y : ByteArray, ¬ (retryHead ++ x).toList = (deadHead ++ y).toList := by
    intro x y h
    rw [toList_append, toList_append, ByteArray.toList_eq, ByteArray.toList_eq, ByteArray.toList_eq deadHead] at h
    simp [retryHead, deadHead] at h
  have n1 : ((retryHead ++ a).toList == (deadHead ++ a).toList) = false := by simpa using hrd a a
  have n2 : ((retryHead ++ a).toList == (deadHead ++ b).toList) = false := by simpa using hrd a b
  have n3 : ((retryHead ++ a).toList == (retryHead ++ b).toList) = (a.toList == b.toList) := beq_eq_of_iff (by rw [toList_append, toList_append]; simp)
  have n4 : ((deadHead ++ a).toList == (deadHead ++ b).toList) = (a.toList == b.toList) := beq_eq_of_iff (by rw [toList_append, toList_append]; simp)
  generalize retryHead ++ a = ra at *
  generalize retryHead ++ b = rb at *
  generalize deadHead ++ a = da at *
  generalize deadHead ++ b = db at *
  clear hrd sz ga gb hpa
  have HB := Below.refl w.heap.size w
  go_enter Try.func3, Try.ntmps3
  go_wp2_with (first
    | (go_at_call 20; (with_reducible refine (cA _).mono ?_); rintro e w' ⟨rfl, hb'⟩; replace HB := HB.trans (hb'.mono HB.size); clear hb')
    | (go_at_call 21; (with_reducible refine (cga _).mono ?_); rintro e w' ⟨rfl, hb'⟩; replace HB := HB.trans (hb'.mono HB.size); clear hb')
    | (go_at_call 21; (with_reducible refine (cgb _).mono ?_); rintro e w' ⟨rfl, hb'⟩; replace HB := HB.trans (hb'.mono HB.size); clear hb')
    | (go_at_call 22; (with_reducible refine (cra _).mono ?_); rintro e w' ⟨rfl, hb'⟩; replace HB := HB.trans (hb'.mono HB.size); clear hb')
    | (go_at_call 23; (with_reducible refine (cda _).mono ?_); rintro e w' ⟨rfl, hb'⟩; replace HB := HB.trans (hb'.mono HB.size); clear hb')
    | (go_at_call 24; (with_reducible refine (cpr _).mono ?_); rintro e w' ⟨rfl, hb'⟩; replace HB := HB.trans (hb'.mono HB.size); clear hb')
    | (go_at_call 24; (with_reducible refine (cpd _).mono ?_); rintro e w' ⟨rfl, hb'⟩; replace HB := HB.trans (hb'.mono HB.size); clear hb')
    | (go_at_call 23; (with_reducible refine (cdb _).mono ?_); rintro e w' ⟨rfl, hb'⟩; replace HB := HB.trans (hb'.mono HB.size); clear hb')
    | (go_at_call 22; (with_reducible refine (crb _).mono ?_); rintro e w' ⟨rfl, hb'⟩; replace HB := HB.trans (hb'.mono HB.size); clear hb')
    | (go_at_call 24; (with_reducible refine (cpa _).mono ?_); rintro e w' ⟨rfl, hb'⟩; replace HB := HB.trans (hb'.mono HB.size); clear hb'))
  go_ret
  exact ⟨rfl, HB⟩

set_option maxRecDepth 100000 in
set_option maxHeartbeats 1000000 in
theorem nameOwn_out (a b : ByteArray) (w : World) (ma : a.size ≤ maxLen) (mb : b.size ≤ maxLen) (ho : ¬ (a.size ≤ 100 ∧ b.size ≤ 100 ∧ groupB a = true ∧ groupB b = true)) :
    Calls Try.prog 3 #[.string a, .string b] w fun e w' => e = .returned (.bool true) ∧ Below w.heap.size w w' := by
  have cA := fun w => awake03 w
  have cga := fun w => Group_any a w ma
  have cgb := fun w => Group_any b w mb
  have HB := Below.refl w.heap.size w
  unfold maxLen at ma mb
  by_cases h1 : a.size ≤ 100
  case neg =>
    clear ho
    go_enter Try.func3, Try.ntmps3
    go_wp2_with (go_at_call 20; (with_reducible refine (cA _).mono ?_); rintro e w' ⟨rfl, hb'⟩; replace HB := HB.trans (hb'.mono HB.size); clear hb')
    go_ret
    exact ⟨rfl, HB⟩
  by_cases h2 : b.size ≤ 100
  case neg =>
    clear ho
    go_enter Try.func3, Try.ntmps3
    go_wp2_with (go_at_call 20; (with_reducible refine (cA _).mono ?_); rintro e w' ⟨rfl, hb'⟩; replace HB := HB.trans (hb'.mono HB.size); clear hb')
    go_ret
    exact ⟨rfl, HB⟩
  have ho' : groupB a = true → groupB b = false := fun h3 => by
    cases h4 : groupB b
    · rfl
    · exact absurd ⟨h1, h2, h3, h4⟩ ho
  clear ho
  cases h3 : groupB a <;> simp only [h3] at cga
  · clear ho' h3
    go_enter Try.func3, Try.ntmps3
    go_wp2_with (first
      | (go_at_call 20; (with_reducible refine (cA _).mono ?_); rintro e w' ⟨rfl, hb'⟩; replace HB := HB.trans (hb'.mono HB.size); clear hb')
      | (go_at_call 21; (with_reducible refine (cga _).mono ?_); rintro e w' ⟨rfl, hb'⟩; replace HB := HB.trans (hb'.mono HB.size); clear hb'))
    go_ret
    exact ⟨rfl, HB⟩
  · have h4 := ho' h3
    simp only [h4] at cgb
    clear ho' h3 h4
    go_enter Try.func3, Try.ntmps3
    go_wp2_with (first
      | (go_at_call 20; (with_reducible refine (cA _).mono ?_); rintro e w' ⟨rfl, hb'⟩; replace HB := HB.trans (hb'.mono HB.size); clear hb')
      | (go_at_call 21; (with_reducible refine (cga _).mono ?_); rintro e w' ⟨rfl, hb'⟩; replace HB := HB.trans (hb'.mono HB.size); clear hb')
      | (go_at_call 21; (with_reducible refine (cgb _).mono ?_); rintro e w' ⟨rfl, hb'⟩; replace HB := HB.trans (hb'.mono HB.size); clear hb'))
    go_ret
    exact ⟨rfl, HB⟩

theorem nameOwn_any (a b : ByteArray) (w : World) (ma : a.size ≤ maxLen) (mb : b.size ≤ maxLen) :
    Calls Try.prog 3 #[.string a, .string b] w fun e w' => e = .returned (.bool true) ∧ Below w.heap.size w w' := by
  by_cases h : a.size ≤ 100 ∧ b.size ≤ 100 ∧ groupB a = true ∧ groupB b = true
  · exact nameOwn_in a b w h.1 h.2.1 h.2.2.1 h.2.2.2
  · exact nameOwn_out a b w ma mb h
end Go.Proofs.Ytndpmjanflahhaa

/-
  name.Hash: what it returns, for every slice of texts that lies in memory.
-/
namespace Go.Proofs.Ytndpmjanflahhaa
open Go.RowKit

def hStep (h : Nat) (c : UInt8) : Nat := (31 * h + c.toNat) % 4294967296
def hashB (h : Nat) (l : List UInt8) : Nat := l.foldl hStep h
def hashL (l : List ByteArray) : Nat := l.foldl (fun h s => hashB h s.data.toList) 0
theorem hStep_lt (h : Nat) (c : UInt8) : hStep h c < 4294967296 := Nat.mod_lt _ (by decide)
theorem hashB_lt (h : Nat) (l : List UInt8) (hh : h < 4294967296) : hashB h l < 4294967296 := by
  induction l generalizing h with
  | nil => exact hh
  | cons c t ih => exact ih _ (hStep_lt _ _)
theorem foldl_hash_lt (l : List ByteArray) : ∀ h, h < 4294967296 → l.foldl (fun h s => hashB h s.data.toList) h < 4294967296 := by
  induction l with
  | nil => exact fun h hh => hh
  | cons s t ih => exact fun h hh => ih _ (hashB_lt _ _ hh)
theorem hashL_lt (l : List ByteArray) : hashL l < 4294967296 := foldl_hash_lt l 0 (by decide)
theorem hashB_snoc (h : Nat) (l : List UInt8) (c : UInt8) : hashB h (l ++ [c]) = hStep (hashB h l) c := by simp [hashB]
theorem take_snoc (s : ByteArray) (k : Nat) (h : k < s.size) : s.data.toList.take (k + 1) = s.data.toList.take k ++ [s[k]] := by
  rw [List.take_succ_eq_append_getElem (by simpa using h)]; rfl

/-- A slice of texts: from an address on lie these. -/
def StrSl (w : World) (a : Option Addr) (ss : List ByteArray) : Prop :=
  ∀ i s, ss[i]? = some s → ∃ b off, a = some ⟨b, off, none⟩ ∧ w.cell? ⟨b, off + i, none⟩ = some (.string s)

theorem StrSl.at {w : World} {a : Option Addr} {ss : List ByteArray} (h : StrSl w a ss) (hne : 0 < ss.length) : ∃ b off, a = some ⟨b, off, none⟩ ∧ ∀ i s, ss[i]? = some s → w.cell? ⟨b, off + i, none⟩ = some (.string s) := by
  obtain ⟨b, off, ha, _⟩ := h 0 ss[0] (by simp [hne])
  refine ⟨b, off, ha, fun i s hi => ?_⟩
  obtain ⟨b', off', ha', hc⟩ := h i s hi
  rw [ha] at ha'
  cases ha'
  exact hc

theorem u32_step (G : Nat) (c : UInt8) : Value.int .u32 ((31 * (G : Int) % 4294967296 + (c.toNat : Int) % 4294967296) % 4294967296) = Value.int .u32 (hStep G c : Nat) := by
  unfold hStep; congr 1; omega
theorem hashL_snoc (ss : List ByteArray) (k : Nat) (s : ByteArray) (h : ss[k]? = some s) : hashL (ss.take (k + 1)) = hashB (hashL (ss.take k)) s.data.toList := by
  unfold hashL; rw [List.take_add_one, h]; simp

set_option maxHeartbeats 1000000 in
theorem Hash_any (a : Option Addr) (cap : Nat) (ss : List ByteArray) (w : World) (hl : ss.length ≤ maxLen) (hz : ∀ s ∈ ss, s.size ≤ maxLen) (hr : StrSl w a ss) :
    Calls Try.prog 25 #[.slice a ss.length cap] w fun e w' => e = .returned (.int .i64 (hashL ss)) ∧ w = w' := by
  unfold maxLen at hl
  obtain ⟨n, hn⟩ : ∃ n, ss.length = n := ⟨_, rfl⟩
  rw [hn]
  have hn' := Lib.hid hn
  rw [hn] at hl
  clear hn
  go_enter Try.func25, Try.ntmps25
  go_wp2
  go_loop [3, 9] (fun h i => ∃ k H : Nat, k ≤ n ∧ i = .int .i64 k ∧ h = .int .u32 H ∧ Hid (H = hashL (ss.take k)) ∧ H < 4294967296) (fun _ i => n - (intOf i).toNat)
  case atStart => exact ⟨0, 0, by omega, rfl, rfl, rfl, by omega⟩
  case round =>
    obtain ⟨k, H, hk, rfl, rfl, hH, hlt⟩ := hrel
    by_cases hkn : k < n
    · have hkl : k < ss.length := by rw [hn'.out]; exact hkn
      obtain ⟨b, off, rfl, hcell⟩ := hr.at (by omega)
      obtain ⟨s, hs⟩ : ∃ s, ss[k]? = some s := ⟨ss[k], by simp [hkl]⟩
      have hc := hcell k s hs
      have hsz := hz s (List.mem_of_getElem? hs)
      unfold maxLen at hsz
      have hs' := Lib.hid hs
      have hH' := Lib.hid hlt
      clear hs hcell hr hkl
      go_wp2
      go_loop [3, 15] (fun h i => ∃ j G : Nat, j ≤ s.size ∧ i = .int .i64 j ∧ h = .int .u32 G ∧ Hid (G = hashB H (s.data.toList.take j)) ∧ G < 4294967296) (fun _ i => s.size - (intOf i).toNat)
      case atStart => exact ⟨0, H, by omega, rfl, rfl, rfl, hH'.out⟩
      case round =>
        obtain ⟨j, G, hj, rfl, rfl, hG, hlt2⟩ := hrel
        by_cases hjs : j < s.size
        · go_wp2
          go_roundw
          case measure => simp [intOf]; omega
          case rel => exact ⟨j + 1, hStep G s[j], by omega, by go_num, u32_step G s[j], by rw [take_snoc s j hjs, hashB_snoc, ← hG.out]; rfl, hStep_lt _ _⟩
        · go_wp2
          go_round
          case measure => simp [intOf]; omega
          case rel => exact ⟨k + 1, G, by omega, by go_num, rfl, by rw [hashL_snoc ss k s hs'.out, ← hH.out, hG.out, List.take_of_length_le (by simp; omega)]; rfl, hlt2⟩
    · go_wp2
      go_ret
      exact ⟨ret_int (by have := hH.out; rw [List.take_of_length_le (by rw [hn'.out]; omega)] at this; rw [← this]), rfl⟩
end Go.Proofs.Ytndpmjanflahhaa
