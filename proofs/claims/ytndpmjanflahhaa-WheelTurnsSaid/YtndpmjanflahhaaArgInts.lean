/-
  HOW SLICES OF INTS, OF PAIRS OF INTS THAT CAME IN READ.
-/
import Derived.Test.YtndpmjanflahhaaArgRows
import Derived.Test.YtndpmjanflahhaaMI
namespace Go.Proofs.Ytndpmjanflahhaa
open Go.ChangeShapes Go.WideShapes Go.RowKit Go.Deep

set_option maxRecDepth 100000 in
theorem open_i64s {H : Type} {enc : TypeId × Value → H} {W : World} {v : Value} {d : DataW H} {p : List MemPlace} {base : Nat}
    (hv : Value.okWide Try.prog W .any base 67 v) (h : DataW.Trod enc Try.prog W 0 (fun _ => true) true 67 v d p) :
    ∃ (a : Option Addr) (cap : Nat) (xs : List Int), v = .slice a xs.length cap ∧ xs.length ≤ maxLen ∧ IntSl W a xs ∧ ∀ x ∈ xs, -9223372036854775808 ≤ x ∧ x ≤ 9223372036854775807 := by
  obtain ⟨a0, len, cap, rfl⟩ := okWide_slice Try.underlying67 hv
  obtain ⟨fuel, hf⟩ := h
  obtain ⟨a, len', cap', hcs, hl, hm, _, hi⟩ := open_rows Try.underlying67 (C := 1) (by kernel_rfl) (by omega) hf
  simp [Value.cells] at hcs
  obtain ⟨rfl, rfl, rfl⟩ := hcs
  have hs : ∀ i, i < len → ∃ x : Int, (-9223372036854775808 ≤ x ∧ x ≤ 9223372036854775807) ∧ ∃ g off, a0 = some ⟨g, off, none⟩ ∧ W.cell? ⟨g, off + i, none⟩ = some (.int .i64 x) := by
    intro i hil
    obtain ⟨g, off, cs', y, n, ha, hcl, hat, ht⟩ := hi i hil
    obtain ⟨z, rfl, _, hz⟩ := DataW.trod_int Try.underlying3 ht
    refine ⟨z, i64_range hz, g, off, ha, ?_⟩
    have := hat 0 (by omega)
    simpa using this
  obtain ⟨f, hf⟩ := choose_lt (α := Int) hs
  have hlen : ((List.range len).map f).length = len := by simp
  refine ⟨a0, cap, (List.range len).map f, by rw [hlen], by rw [hlen]; omega, ?_, ?_⟩
  · intro i s hs
    have hil : i < len := by have := (List.getElem?_eq_some_iff.1 hs).1; rwa [hlen] at this
    have : f i = s := by simpa [hil] using hs
    subst this
    exact (hf i hil).2
  · intro s hs
    obtain ⟨i, hi, rfl⟩ := List.mem_map.1 hs
    exact (hf i (List.mem_range.1 hi)).1
end Go.Proofs.Ytndpmjanflahhaa
