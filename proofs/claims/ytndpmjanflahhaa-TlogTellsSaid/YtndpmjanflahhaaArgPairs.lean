/-
  HOW SLICES OF PAIRS THAT CAME IN READ.
-/
import Derived.Test.YtndpmjanflahhaaArgRows
import Derived.Test.YtndpmjanflahhaaMI
import Derived.OpenShut
namespace Go.Proofs.Ytndpmjanflahhaa
open Go.ChangeShapes Go.WideShapes Go.RowKit Go.Deep

/-- A slice of pairs: from an address on lie these. -/
def PairSl (K : IntKind) (w : World) (a : Option Addr) (xs : List (Int × Int)) : Prop :=
  ∀ i x, xs[i]? = some x → ∃ g off, a = some ⟨g, off, none⟩ ∧ w.cell? ⟨g, off + i * 2, none⟩ = some (.int K x.1) ∧ w.cell? ⟨g, off + i * 2 + 1, none⟩ = some (.int K x.2)

set_option maxRecDepth 100000 in
theorem open_pairs {H : Type} {enc : TypeId × Value → H} {W : World} {v : Value} {d : DataW H} {p : List MemPlace} {base : Nat} {K : IntKind} {t t1 t2 : TypeId} (u0 : Try.prog.underlying t = some (.slice t1)) (u1 : Try.prog.underlying t1 = some (.array 2 t2)) (u2 : Try.prog.underlying t2 = some (.int K)) (z1 : Try.prog.cellsOf t1 = 2) (z2 : Try.prog.cellsOf t2 = 1)
    (hv : Value.okWide Try.prog W .any base t v) (h : DataW.Trod enc Try.prog W 0 (fun _ => true) true t v d p) :
    ∃ (a : Option Addr) (cap : Nat) (xs : List (Int × Int)), v = .slice a xs.length cap ∧ xs.length ≤ maxLen ∧ PairSl K W a xs ∧ ∀ x ∈ xs, (Lit.int K x.1).wf = true ∧ (Lit.int K x.2).wf = true := by
  obtain ⟨a0, len, cap, rfl⟩ := okWide_slice u0 hv
  obtain ⟨fuel, hf⟩ := h
  obtain ⟨a, len', cap', hcs, hl, hm, _, hi⟩ := open_rows u0 (C := 2) z1 (by omega) hf
  simp [Value.cells] at hcs
  obtain ⟨rfl, rfl, rfl⟩ := hcs
  have hs : ∀ i, i < len → ∃ x : Int × Int, ((Lit.int K x.1).wf = true ∧ (Lit.int K x.2).wf = true) ∧ ∃ g off, a0 = some ⟨g, off, none⟩ ∧ W.cell? ⟨g, off + i * 2, none⟩ = some (.int K x.1) ∧ W.cell? ⟨g, off + i * 2 + 1, none⟩ = some (.int K x.2) := by
    intro i hil
    obtain ⟨g, off, cs', y, n, ha, hcl, hat, ht⟩ := hi i hil
    obtain ⟨ys, m, rfl, rfl, hlen, hyl, hel⟩ := DataW.trod_array u1 ht
    rw [z2] at hel
    obtain ⟨c0, c1, rfl⟩ : ∃ c0 c1, cs' = [c0, c1] := by
      match cs', hcl with
      | [c0, c1], _ => exact ⟨c0, c1, rfl⟩
    obtain ⟨y0, y1, rfl⟩ : ∃ y0 y1, ys = [y0, y1] := by
      match ys, hyl with
      | [y0, y1], _ => exact ⟨y0, y1, rfl⟩
    have e0 := hel 0 (by omega)
    have e1 := hel 1 (by omega)
    simp at e0 e1
    obtain ⟨x0, h0, _, w0⟩ := DataW.trod_int u2 e0
    obtain ⟨x1, h1, _, w1⟩ := DataW.trod_int u2 e1
    cases h0; cases h1
    exact ⟨(x0, x1), ⟨w0, w1⟩, g, off, ha, hat 0 (by omega), hat 1 (by omega)⟩
  obtain ⟨f, hf⟩ := choose_lt (α := Int × Int) hs
  have hlen : ((List.range len).map f).length = len := by simp
  refine ⟨a0, cap, (List.range len).map f, by rw [hlen], by rw [hlen]; omega, ?_, ?_⟩
  · intro i s hs
    have hil : i < len := by have := (List.getElem?_eq_some_iff.1 hs).1; rwa [hlen] at this
    have : f i = s := by simpa [hil] using hs
    subst this
    exact (hf i hil).2
  · intro s hs
    obtain ⟨i, hi, rfl⟩ := List.mem_map.1 hs
    exact (hf i (List.mem_range.1 hi)).1
set_option maxRecDepth 100000 in
theorem open_pairs_u16 {H : Type} {enc : TypeId × Value → H} {W : World} {v : Value} {d : DataW H} {p : List MemPlace} {base : Nat}
    (hv : Value.okWide Try.prog W .any base 77 v) (h : DataW.Trod enc Try.prog W 0 (fun _ => true) true 77 v d p) :
    ∃ (a : Option Addr) (cap : Nat) (xs : List (Int × Int)), v = .slice a xs.length cap ∧ xs.length ≤ maxLen ∧ PairSl .u16 W a xs ∧ ∀ x ∈ xs, (Lit.int .u16 x.1).wf = true ∧ (Lit.int .u16 x.2).wf = true :=
  open_pairs Try.underlying77 Try.underlying78 Try.underlying52 (by kernel_rfl) (by kernel_rfl) hv h
set_option maxRecDepth 100000 in
theorem open_pairs_int {H : Type} {enc : TypeId × Value → H} {W : World} {v : Value} {d : DataW H} {p : List MemPlace} {base : Nat}
    (hv : Value.okWide Try.prog W .any base 66 v) (h : DataW.Trod enc Try.prog W 0 (fun _ => true) true 66 v d p) :
    ∃ (a : Option Addr) (cap : Nat) (xs : List (Int × Int)), v = .slice a xs.length cap ∧ xs.length ≤ maxLen ∧ PairSl .i64 W a xs ∧ ∀ x ∈ xs, (Lit.int .i64 x.1).wf = true ∧ (Lit.int .i64 x.2).wf = true :=
  open_pairs Try.underlying66 Try.underlying68 Try.underlying3 (by kernel_rfl) (by kernel_rfl) hv h
end Go.Proofs.Ytndpmjanflahhaa
