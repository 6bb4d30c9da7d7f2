/-
  name.Key, name.All, and the reference's Key and Hash: what they return, for every text of the model's reach.
-/
import Derived.Test.YtndpmjanflahhaaNm7
namespace Go.Proofs.Ytndpmjanflahhaa
open Go.RowKit

def keyC (c : Int) : Bool := decide (33 ≤ c) && decide (c ≤ 126)
def keys (s : ByteArray) : Bool := s.data.toList.all fun b => keyC b.toNat
def keyB (s : ByteArray) : Bool := decide (1 ≤ s.size) && decide (s.size ≤ 16) && keys s
theorem key_take (s : ByteArray) (k : Nat) (h : k < s.size) : (s.data.toList.take (k + 1)).all (fun b => keyC b.toNat) = ((s.data.toList.take k).all (fun b => keyC b.toNat) && keyC s[k].toNat) := by
  rw [take_snoc s k h]; simp

set_option maxHeartbeats 2000000 in
theorem refKey_any (s : ByteArray) (w : World) (hs : s.size ≤ maxLen) :
    Calls Try.prog 34 #[.string s] w fun e w' => e = .returned (.bool (keyB s)) ∧ w = w' := by
  unfold maxLen at hs
  go_enter Try.func34, Try.ntmps34
  go_wp2
  go_loop [3] (fun i => ∃ k : Nat, k ≤ s.size ∧ i = .int .i64 k ∧ Hid ((s.data.toList.take k).all (fun b => keyC b.toNat) = true)) (fun i => s.size - (intOf i).toNat)
  case atStart => exact ⟨0, by omega, rfl, rfl⟩
  case round =>
    obtain ⟨k, hk, rfl, hH⟩ := hrel
    by_cases hks : k < s.size
    · have hstep := Lib.hid (key_take s k hks)
      by_cases h1 : 33 ≤ (s[k].toNat : Int) <;> by_cases h2 : (s[k].toNat : Int) ≤ 126 <;> try omega
      all_goals
        go_wp2
        first
        | (go_round
           case measure => simp [intOf]; omega
           case rel => exact ⟨k + 1, by omega, by go_num, by show _ = _; rw [hstep.out, hH.out]; unfold keyC; simp <;> omega⟩)
        | (go_ret
           exact ⟨ret_bool (by
             have e : keys s = false := take_all_false (k := k + 1) (by rw [hstep.out, hH.out]; unfold keyC; simp <;> omega)
             unfold keyB; rw [e]; simp), rfl⟩)
    · have hall : keys s = true := by unfold keys; have := hH.out; rwa [List.take_of_length_le (by simp; omega)] at this
      have hP : keyB s = (decide (1 ≤ s.size) && decide (s.size ≤ 16)) := by unfold keyB; rw [hall]; simp
      have hP' := Lib.hid hP
      clear hP hall
      by_cases h1 : 1 ≤ s.size
      · by_cases h2 : s.size ≤ 16
        all_goals
          go_wp2
          go_ret
          exact ⟨ret_bool (by rw [hP'.out]; simp [h1, h2] <;> omega), rfl⟩
      · go_wp2
        go_ret
        exact ⟨ret_bool (by rw [hP'.out]; simp [h1]), rfl⟩

set_option maxHeartbeats 2000000 in
theorem Key_any (s : ByteArray) (w : World) (hs : s.size ≤ maxLen) :
    Calls Try.prog 33 #[.string s] w fun e w' => e = .returned (.bool (keyB s)) ∧ w = w' := by
  unfold maxLen at hs
  by_cases h0 : s.toList = []
  · have ht := Lib.hid (show keyB s = false by unfold keyB; rw [nil_of_size.1 h0]; rfl)
    go_enter Try.func33, Try.ntmps33
    go_wp2
    go_ret
    exact ⟨ret_bool ht.out.symm, rfl⟩
  · have hpos : 1 ≤ s.size := by have := mt nil_of_size.2 h0; omega
    have h1 := isEmpty_of_ne h0
    by_cases h2 : s.size ≤ 16
    · have hK := Lib.hid (show keyB s = keys s by unfold keyB; simp [hpos, h2])
      go_enter Try.func33, Try.ntmps33
      go_wp2
      go_loop [13] (fun i => ∃ k : Nat, k ≤ s.size ∧ i = .int .i64 k ∧ Hid ((s.data.toList.take k).all (fun b => keyC b.toNat) = true)) (fun i => s.size - (intOf i).toNat)
      case atStart => exact ⟨0, by omega, rfl, rfl⟩
      case round =>
        obtain ⟨k, hk, rfl, hH⟩ := hrel
        by_cases hks : k < s.size
        · have hstep := Lib.hid (key_take s k hks)
          by_cases h3 : 33 ≤ (s[k].toNat : Int) <;> by_cases h4 : (s[k].toNat : Int) ≤ 126 <;> try omega
          all_goals
            go_wp2
            first
            | (go_round
               case measure => simp [intOf]; omega
               case rel => exact ⟨k + 1, by omega, by go_num, by show _ = _; rw [hstep.out, hH.out]; unfold keyC; simp <;> omega⟩)
            | (go_ret
               exact ⟨ret_bool (by
                 have e : keys s = false := take_all_false (k := k + 1) (by rw [hstep.out, hH.out]; unfold keyC; simp <;> omega)
                 rw [hK.out, e]), rfl⟩)
        · have hall : Hid (keys s = true) := by show _ = _; unfold keys; have := hH.out; rwa [List.take_of_length_le (by simp; omega)] at this
          go_wp2
          go_ret
          exact ⟨ret_bool (by rw [hK.out, hall.out]), rfl⟩
    · have ht := Lib.hid (show keyB s = false by unfold keyB; simp; omega)
      go_enter Try.func33, Try.ntmps33
      go_wp2
      go_ret
      exact ⟨ret_bool ht.out.symm, rfl⟩

theorem refHash_step (H : Nat) (c : UInt8) (h : H < 4294967296) : ((31 * (H : Int) + (c.toNat : Int)) % 4294967296) = (hStep H c : Nat) := by unfold hStep; omega

set_option maxHeartbeats 1000000 in
theorem refHash_any (s : ByteArray) (w : World) (hs : s.size ≤ maxLen) :
    Calls Try.prog 36 #[.string s] w fun e w' => e = .returned (.int .i64 (hashB 0 s.data.toList : Nat)) ∧ w = w' := by
  unfold maxLen at hs
  go_enter Try.func36, Try.ntmps36
  go_wp2
  go_loop [3, 4] (fun h i => ∃ k H : Nat, k ≤ s.size ∧ i = .int .i64 k ∧ h = .int .i64 H ∧ Hid (H = hashB 0 (s.data.toList.take k)) ∧ H < 4294967296) (fun _ i => s.size - (intOf i).toNat)
  case atStart => exact ⟨0, 0, by omega, rfl, rfl, rfl, by omega⟩
  case round =>
    obtain ⟨k, H, hk, rfl, rfl, hH, hlt⟩ := hrel
    by_cases hks : k < s.size
    · have hu := s[k].toNat_lt
      go_wp2
      go_round
      case measure => simp [intOf]; omega
      case rel => exact ⟨k + 1, hStep H s[k], by omega, by go_num, by rw [← refHash_step H s[k] hlt], by show _ = _; rw [take_snoc s k hks, hashB_snoc, ← hH.out], hStep_lt _ _⟩
    · go_wp2
      go_ret
      exact ⟨ret_int (by have := hH.out; rw [List.take_of_length_le (by simp; omega)] at this; rw [← this]), rfl⟩
end Go.Proofs.Ytndpmjanflahhaa
