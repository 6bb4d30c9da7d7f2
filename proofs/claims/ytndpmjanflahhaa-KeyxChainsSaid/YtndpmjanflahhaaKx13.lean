/-
  THE STATEMENTS OF LAYER 11: KeyxMost.
-/
import Derived.Test.YtndpmjanflahhaaKx11
import Derived.Test.YtndpmjanflahhaaKx12
import Derived.Test.YtndpmjanflahhaaWh3
namespace Go.Proofs.Ytndpmjanflahhaa
open Go.RowKit Go.MapKept

/-- What KeyxMost has added. -/
structure MostR (keys : List UInt8) (rs : List KRec) : Prop where
  at_ : ∀ i r, rs[i]? = some r → r.at_ = 10 * i ∧ ∃ x : UInt8, keys[i]? = some x ∧ r.hash = 94399 + x.toNat % 4
theorem mostHash (m : Nat) (hm : m < 4) : hashL [⟨#[97]⟩, ⟨#[35]⟩, ⟨#[UInt8.ofNat (97 + m)]⟩] = 94399 + m ∧ keyB ⟨#[UInt8.ofNat (97 + m)]⟩ = true := by
  have : m = 0 ∨ m = 1 ∨ m = 2 ∨ m = 3 := by omega
  rcases this with rfl | rfl | rfl | rfl <;> exact ⟨by decide +kernel, by decide +kernel⟩
theorem MostR.add {keys : List UInt8} {rs : List KRec} (h : MostR keys rs) {x : UInt8} (hx : keys[rs.length]? = some x) (p : Nat) (hp : p = 10 * rs.length) (b a : Nat) : MostR keys (rs ++ [⟨94399 + x.toNat % 4, p, b, a⟩]) := by
  subst hp
  refine ⟨fun i r hi => ?_⟩
  by_cases hil : i < rs.length
  · rw [List.getElem?_append_left hil] at hi
    exact h.at_ i r hi
  · have : i = rs.length := by
      have := (List.getElem?_eq_some_iff.1 hi).1
      simp at this; omega
    subst this
    simp at hi
    subst hi
    exact ⟨rfl, x, hx, rfl⟩
end Go.Proofs.Ytndpmjanflahhaa
