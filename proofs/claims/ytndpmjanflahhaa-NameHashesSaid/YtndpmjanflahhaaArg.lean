/-
  HOW A SLICE OF TEXTS THAT CAME IN READS: its texts lie one behind the other, each within the form's reach.
-/
import Derived.Test.YtndpmjanflahhaaNm5
import Derived.SliceStrings
import Derived.SizedLaws
import Derived.WideShapes
namespace Go.Proofs.Ytndpmjanflahhaa
open Go.ChangeShapes Go.WideShapes Go.RowKit

theorem strs_weights {H : Type} {P : Program} {e : TypeId} : ∀ (ss : List ByteArray) (s : ByteArray), s ∈ ss → s.size ∈ DataW.weightsAll (H := H) P e (strs ss)
  | x :: t, s, h => by
    show s.size ∈ _ ++ _
    rw [List.mem_append]
    rcases List.mem_cons.1 h with rfl | h
    · left; simp [DataW.weights]
    · right; exact strs_weights t s h

set_option maxRecDepth 100000 in
theorem open_strs {H : Type} {enc : TypeId × Value → H} {W : World} {v : Value} {d : DataW H} {p : List MemPlace} {base : Nat}
    (hv : Value.okWide Try.prog W .any base 30 v)
    (h : DataW.Trod enc Try.prog W 0 (fun _ => true) true 30 v d p) (hw : ∀ n ∈ d.weights Try.prog 30, n ≤ reachBytes) :
    ∃ (a : Option Addr) (cap : Nat) (ss : List ByteArray), v = .slice a ss.length cap ∧ ss.length * 16 ≤ reachBytes ∧ StrSl W a ss ∧ ∀ s ∈ ss, s.size ≤ reachBytes := by
  obtain ⟨a0, len, cap, rfl⟩ := okWide_slice Try.underlying30 hv
  obtain ⟨fuel, hf⟩ := h
  rcases open_strings Try.underlying30 Try.underlying9 (by kernel_rfl) hf with ⟨hcs, hx⟩ | ⟨a, len', cap', ss, hcs, _, hl, hm, hz, hx, hcell, hws⟩
  · simp [Value.cells] at hcs
    obtain ⟨rfl, rfl, rfl⟩ := hcs
    exact ⟨none, 0, [], rfl, by simp [reachBytes], fun i s hi => by simp at hi, by simp⟩
  · simp [Value.cells] at hcs
    obtain ⟨rfl, rfl, rfl⟩ := hcs
    simp only [Prod.mk.injEq] at hx
    obtain ⟨rfl, rfl⟩ := hx
    simp only [if_true] at hz
    have hlen : (ss.take len).length = len := by rw [List.length_take]; omega
    have hb : Try.prog.bytesOf 9 = 16 := by kernel_rfl
    refine ⟨some a, cap, ss.take len, by rw [hlen], ?_, ?_, ?_⟩
    · have := hw (((strs (H := H) (ss.take len)).length + (strs (H := H) (ss.drop len)).length) * 16) (by simp [DataW.weights, Try.underlying30, hb])
      have h1 : (strs (H := H) (ss.take len)).length = len := by unfold strs; rw [List.length_map, hlen]
      rw [hlen]; rw [h1] at this; omega
    · intro i s hi
      have hi2 : ss[i]? = some s := by
        rw [List.getElem?_take] at hi
        split at hi
        · exact hi
        · cases hi
      have hil : i < ss.length := by rw [List.getElem?_eq_some_iff] at hi2; exact hi2.1
      have hc := hcell i hil
      rw [List.getD_eq_getElem?_getD, hi2] at hc
      obtain ⟨b, off, spot⟩ := a
      by_cases h0 : i = 0
      · subst h0
        have hs : spot = none := by simpa [Addr.add] using World.cell?_spot hc
        subst hs
        exact ⟨b, off, rfl, by simpa [Addr.add] using hc⟩
      · have hc0 := hcell 0 (by omega)
        have hs : spot = none := by simpa [Addr.add] using World.cell?_spot hc0
        subst hs
        exact ⟨b, off, rfl, by simpa [Addr.add, h0] using hc⟩
    · intro s hs
      refine hw s.size ?_
      simp only [DataW.weights, Try.underlying30, List.mem_cons, List.mem_append]
      exact .inr (.inl (strs_weights _ _ hs))
end Go.Proofs.Ytndpmjanflahhaa
