/-
  slices.Index, slices.Contains at bools.
-/
import Derived.Test.YtndpmjanflahhaaDk26
namespace Go.Proofs.Ytndpmjanflahhaa
open Go.RowKit Go.MapKept

/-- From a place on bools lie, one behind the other. -/
def BoolAt (w : World) (g o : Nat) (ks : List Bool) : Prop := ∀ i x, ks[i]? = some x → w.cell? ⟨g, o + i, none⟩ = some (.bool x)
theorem BoolAt.kept {w w' : World} {g o : Nat} {ks : List Bool} (h : BoolAt w g o ks) (e : w'.heap[g]? = w.heap[g]?) : BoolAt w' g o ks := by
  intro i x hx
  rw [← h i x hx]; simp only [World.cell?]; rw [e]
theorem BoolAt.drop {w : World} {g o : Nat} {ks : List Bool} (h : BoolAt w g o ks) (j : Nat) : BoolAt w g (o + j) (ks.drop j) := by
  intro i x hx
  rw [List.getElem?_drop] at hx
  have := h _ _ hx
  rwa [Nat.add_assoc]
theorem BoolAt.take {w : World} {g o : Nat} {ks : List Bool} (h : BoolAt w g o ks) (j : Nat) : BoolAt w g o (ks.take j) := by
  intro i x hx
  rw [List.getElem?_take] at hx
  split at hx
  · exact h _ _ hx
  · cases hx

set_option maxRecDepth 100000 in
theorem IndexBool (g o cap : Nat) (ks : List Bool) (w : World) (hl : ks.length ≤ 1099511627776) (hr : BoolAt w g o ks) :
    Calls Try.prog 121 #[.slice (some ⟨g, o, none⟩) ks.length cap, .bool true] w fun e w' => ∃ r : Int, e = .returned (.int .i64 r) ∧ w = w' ∧ -1 ≤ r ∧ decide (0 ≤ r) = ks.any id := by
  obtain ⟨n, hn⟩ : ∃ n, ks.length = n := ⟨_, rfl⟩
  rw [hn]
  have hn' := Lib.hid hn
  rw [hn] at hl
  clear hn
  go_enter Try.func121, Try.ntmps121
  go_wp2
  go_loop [8] (fun i => ∃ k : Nat, k ≤ n ∧ i = .int .i64 k ∧ Hid ((ks.take k).any id = false)) (fun i => n - (intOf i).toNat)
  case atStart => exact ⟨0, by omega, rfl, rfl⟩
  case round =>
    obtain ⟨k, hk, rfl, hH⟩ := hrel
    by_cases hkn : k < n
    · have hkl : k < ks.length := by rw [hn'.out]; exact hkn
      obtain ⟨x, hx⟩ : ∃ x, ks[k]? = some x := ⟨ks[k], by simp [hkl]⟩
      have hc := hr k x hx
      have hst : Hid ((ks.take (k + 1)).any id = ((ks.take k).any id || x)) := by show _ = _; rw [List.take_add_one, hx]; simp
      have hany : Hid (x = true → ks.any id = true) := fun h => by rw [List.any_eq_true]; exact ⟨x, List.mem_of_getElem? hx, h⟩
      clear hx hkl hr
      cases x
      · go_wp2
        go_round
        case measure => simp [intOf]; omega
        case rel => exact ⟨k + 1, by omega, by go_num, by show _ = _; rw [hst.out, hH.out]; rfl⟩
      · go_wp2
        go_ret
        exact ⟨k, rfl, rfl, by omega, by rw [hany.out trivial]; simp⟩
    · have hz := hH.out
      rw [List.take_of_length_le (by rw [hn'.out]; omega)] at hz
      have hz' := Lib.hid hz
      clear hz hr
      go_wp2
      go_ret
      exact ⟨-1, rfl, rfl, by omega, by rw [hz'.out]; rfl⟩

theorem ContainsBool (g o cap : Nat) (ks : List Bool) (w : World) (hl : ks.length ≤ 1099511627776) (hr : BoolAt w g o ks) :
    Calls Try.prog 92 #[.slice (some ⟨g, o, none⟩) ks.length cap, .bool true] w fun e w' => e = .returned (.bool (ks.any id)) ∧ w = w' := by
  have ci := IndexBool g o cap ks w hl hr
  generalize ks.any id = r at *
  generalize ks.length = n at *
  clear hr
  go_enter Try.func92, Try.ntmps92
  go_wp2_with (go_at_call 121; (with_reducible refine ci.mono ?_); rintro e w1 ⟨x, rfl, rfl, hx, hd⟩)
  go_ret
  exact ⟨rfl, rfl⟩
end Go.Proofs.Ytndpmjanflahhaa
