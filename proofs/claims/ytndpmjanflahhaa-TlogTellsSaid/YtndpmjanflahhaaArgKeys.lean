/-
  HOW THE KEYS OF LAYER 11's STATEMENTS THAT CAME IN READ.
-/
import Derived.Test.YtndpmjanflahhaaArgRows
import Derived.Test.YtndpmjanflahhaaArgPairs
namespace Go.Proofs.Ytndpmjanflahhaa
open Go.ChangeShapes Go.WideShapes Go.RowKit Go.Deep

/-- A key, and where its record lies. -/
structure AddV where
  topic : ByteArray
  key : ByteArray
  at_ : Int
  born : Int
deriving instance Inhabited for AddV
def AddV.cells (o : AddV) : Array Value := #[.string o.topic, .string o.key, .int .i64 o.at_, .int .i64 o.born]
def AddV.Fits (o : AddV) : Prop := o.topic.size ≤ maxLen ∧ o.key.size ≤ maxLen ∧ (-9223372036854775808 ≤ o.at_ ∧ o.at_ ≤ 9223372036854775807) ∧ (-9223372036854775808 ≤ o.born ∧ o.born ≤ 9223372036854775807)
/-- A slice of them. -/
def AddSl (w : World) (a : Option Addr) (os : List AddV) : Prop :=
  ∀ i o, os[i]? = some o → ∃ g off, a = some ⟨g, off, none⟩ ∧ w.cell? ⟨g, off + i * 4, none⟩ = some (.string o.topic) ∧ w.cell? ⟨g, off + i * 4 + 1, none⟩ = some (.string o.key) ∧ w.cell? ⟨g, off + i * 4 + 2, none⟩ = some (.int .i64 o.at_) ∧ w.cell? ⟨g, off + i * 4 + 3, none⟩ = some (.int .i64 o.born)
set_option maxRecDepth 100000 in
theorem open_add_c {H : Type} {enc : TypeId × Value → H} {W : World} {fuel : Nat} {cs : List Value} {x : DataW H × List MemPlace} (h : DataW.trod enc Try.prog W 0 (fun _ => true) true fuel 89 cs = some x) :
    ∃ o : AddV, cs = o.cells.toList ∧ o.Fits := by
  obtain ⟨xs, n, _, _, hcl, hxl, hf⟩ := DataW.trod_struct Try.underlying89 h
  have e0 : Try.prog.cellsOf 89 = 4 := by kernel_rfl
  have e1 : Try.prog.cellsOf 3 = 1 := by kernel_rfl
  have e2 : Try.prog.cellsOf 9 = 1 := by kernel_rfl
  rw [e0] at hcl
  match cs, hcl, xs, hxl, hf with
  | [c0, c1, c2, c3], _, [y0, y1, y2, y3], _, hf =>
    have f0 : DataW.trod enc Try.prog W 0 (fun _ => true) true n 9 [c0] = some y0 := by have := hf 0 _ rfl; simpa [e1, e2] using this
    have f1 : DataW.trod enc Try.prog W 0 (fun _ => true) true n 9 [c1] = some y1 := by have := hf 1 _ rfl; simpa [e1, e2] using this
    have f2 : DataW.trod enc Try.prog W 0 (fun _ => true) true n 3 [c2] = some y2 := by have := hf 2 _ rfl; simpa [e1, e2] using this
    have f3 : DataW.trod enc Try.prog W 0 (fun _ => true) true n 3 [c3] = some y3 := by have := hf 3 _ rfl; simpa [e1, e2] using this
    obtain ⟨T, h0, _, w0⟩ := DataW.trod_string Try.underlying9 f0
    obtain ⟨K, h1, _, w1⟩ := DataW.trod_string Try.underlying9 f1
    obtain ⟨A, h2, _, w2⟩ := DataW.trod_int Try.underlying3 f2
    obtain ⟨B, h3, _, w3⟩ := DataW.trod_int Try.underlying3 f3
    cases h0; cases h1; cases h2; cases h3
    exact ⟨⟨T, K, A, B⟩, rfl, w0, w1, i64_range w2, i64_range w3⟩
set_option maxRecDepth 100000 in
theorem open_adds {H : Type} {enc : TypeId × Value → H} {W : World} {v : Value} {d : DataW H} {p : List MemPlace} {base : Nat}
    (hv : Value.okWide Try.prog W .any base 87 v) (h : DataW.Trod enc Try.prog W 0 (fun _ => true) true 87 v d p) :
    ∃ (a : Option Addr) (cap : Nat) (os : List AddV), v = .slice a os.length cap ∧ os.length ≤ maxLen ∧ AddSl W a os ∧ ∀ o ∈ os, o.Fits := by
  obtain ⟨a0, len, cap, rfl⟩ := okWide_slice Try.underlying87 hv
  obtain ⟨fuel, hf⟩ := h
  obtain ⟨a, len', cap', hcs, hl, hm, _, hi⟩ := open_rows Try.underlying87 (C := 4) (by kernel_rfl) (by omega) hf
  simp [Value.cells] at hcs
  obtain ⟨rfl, rfl, rfl⟩ := hcs
  have hs : ∀ i, i < len → ∃ o : AddV, o.Fits ∧ ∃ g off, a0 = some ⟨g, off, none⟩ ∧ W.cell? ⟨g, off + i * 4, none⟩ = some (.string o.topic) ∧ W.cell? ⟨g, off + i * 4 + 1, none⟩ = some (.string o.key) ∧ W.cell? ⟨g, off + i * 4 + 2, none⟩ = some (.int .i64 o.at_) ∧ W.cell? ⟨g, off + i * 4 + 3, none⟩ = some (.int .i64 o.born) := by
    intro i hil
    obtain ⟨g, off, cs', y, n, ha, hcl, hat, ht⟩ := hi i hil
    obtain ⟨o, rfl, hf⟩ := open_add_c ht
    exact ⟨o, hf, g, off, ha, hat 0 (by omega), hat 1 (by omega), hat 2 (by omega), hat 3 (by omega)⟩
  obtain ⟨f, hf⟩ := choose_lt (α := AddV) hs
  have hlen : ((List.range len).map f).length = len := by simp
  refine ⟨a0, cap, (List.range len).map f, by rw [hlen], by rw [hlen]; omega, ?_, ?_⟩
  · intro i s hs
    have hil : i < len := by have := (List.getElem?_eq_some_iff.1 hs).1; rwa [hlen] at this
    have : f i = s := by simpa [hil] using hs
    subst this
    exact (hf i hil).2
  · intro s hs
    obtain ⟨i, hi, rfl⟩ := List.mem_map.1 hs
    exact (hf i (List.mem_range.1 hi)).1
end Go.Proofs.Ytndpmjanflahhaa
