/-
  THE TEST OF A PLAIN SIGN (name.sign, and the function value that name.Plain hands on): what they return, for every rune; no condition.
-/
import Derived.Test.YtndpmjanflahhaaProg
import Derived.WalkKit
import Derived.KernelRfl
import Derived.Lib.Hide
namespace Go.Proofs.Ytndpmjanflahhaa
open Go.RowKit

theorem ret_bool {a b : Bool} (h : a = b) : Ending.returned (.bool a) = .returned (.bool b) := by rw [h]
theorem ret_int {k : IntKind} {a b : Int} (h : a = b) : Ending.returned (.int k a) = .returned (.int k b) := by rw [h]
theorem ret_str {a b : ByteArray} (h : a = b) : Ending.returned (.string a) = .returned (.string b) := by rw [h]

/-- Of a rune: is it a plain sign? -/
def signB (c : Int) : Bool := decide ((97 ≤ c ∧ c ≤ 122) ∨ (48 ≤ c ∧ c ≤ 57) ∨ c = 45)

theorem sign_any (c : Int) (w : World) :
    Calls Try.prog 81 #[.int .i32 c] w fun e w' => e = .returned (.bool (signB c)) ∧ w = w' := by
  by_cases h1 : 97 ≤ c <;> by_cases h2 : c ≤ 122 <;> by_cases h3 : 48 ≤ c <;> by_cases h4 : c ≤ 57 <;> by_cases h5 : c = 45 <;> try omega
  all_goals
    go_enter Try.func81, Try.ntmps81
    go_wp2
    go_ret
    exact ⟨ret_bool (by unfold signB; rw [Bool.eq_iff_iff]; simp <;> omega), rfl⟩

/-- The function value that Plain hands to IndexFunc. -/
theorem plain1_any (c : Int) (w : World) :
    Calls Try.prog 80 #[.int .i32 c] w fun e w' => e = .returned (.bool (!signB c)) ∧ w = w' := by
  go_enter Try.func80, Try.ntmps80
  go_wp2_with (go_at_call 81; refine (sign_any _ _).mono ?_; rintro e w' ⟨rfl, rfl⟩)
  go_ret
  exact ⟨rfl, rfl⟩
end Go.Proofs.Ytndpmjanflahhaa
