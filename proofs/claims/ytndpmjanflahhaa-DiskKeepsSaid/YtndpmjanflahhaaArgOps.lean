/-
  HOW THE CALLS OF LAYER 4's STATEMENTS THAT CAME IN READ.
-/
import Derived.Test.YtndpmjanflahhaaArgRows
import Derived.Test.YtndpmjanflahhaaMG
namespace Go.Proofs.Ytndpmjanflahhaa
open Go.ChangeShapes Go.WideShapes Go.RowKit Go.Deep

/-- A slice of bools. -/
theorem open_bools_c {H : Type} {enc : TypeId × Value → H} {W : World} {fuel : Nat} {cs : List Value} {x : DataW H × List MemPlace} (h : DataW.trod enc Try.prog W 0 (fun _ => true) true fuel 42 cs = some x) :
    ∃ (a : Option Addr) (cap : Nat) (ks : List Bool), cs = [.slice a ks.length cap] ∧ ks.length ≤ maxLen ∧ KeepV W (fun k => W.heap.size ≤ k) a cap ks := by
  obtain ⟨a, len, cap, rfl, hl, hm, hno, hi⟩ := open_rows Try.underlying42 (C := 1) (by kernel_rfl) (by omega) h
  have hs : ∀ i, i < len → ∃ s : Bool, ∃ g off, a = some ⟨g, off, none⟩ ∧ W.cell? ⟨g, off + i, none⟩ = some (.bool s) := by
    intro i hil
    obtain ⟨g, off, cs', y, n, ha, hcl, hat, ht⟩ := hi i hil
    obtain ⟨s, rfl, _⟩ := DataW.trod_bool Try.underlying4 ht
    refine ⟨s, g, off, ha, ?_⟩
    have := hat 0 (by omega)
    simpa using this
  obtain ⟨f, hf⟩ := choose_lt (α := Bool) hs
  have hlen : ((List.range len).map f).length = len := by simp
  refine ⟨a, cap, (List.range len).map f, by rw [hlen], by rw [hlen]; omega, ?_⟩
  cases a with
  | none =>
    obtain ⟨rfl, rfl⟩ := hno rfl
    exact .inl ⟨rfl, rfl, rfl⟩
  | some a =>
    refine .inr ⟨a, rfl, by rw [hlen]; exact hl, fun i s hs => ?_⟩
    have hil : i < len := by have := (List.getElem?_eq_some_iff.1 hs).1; rwa [hlen] at this
    have : f i = s := by simpa [hil] using hs
    subst this
    obtain ⟨g, off, ha, hc⟩ := hf i hil
    injection ha with ha
    have := World.block_lt_of_cell? _ _ hc
    exact ⟨g, off, ha, hc, by show ¬ W.heap.size ≤ g; simp only at this; omega⟩

instance : Inhabited OpV := ⟨⟨0, 0, .empty, .empty, .empty, none, 0, [], none, 0, [], 0⟩⟩

def OpV.Fits (o : OpV) : Prop := o.A.size ≤ maxLen ∧ o.B.size ≤ maxLen ∧ o.S.size ≤ maxLen ∧ o.L.length ≤ maxLen ∧ o.keep.length ≤ maxLen ∧ ∀ n ∈ o.L, n.size ≤ maxLen
theorem wf_range {n : Int} (h : (Lit.int .i64 n).wf = true) : -9223372036854775808 ≤ n ∧ n ≤ 9223372036854775807 := by
  simp [Lit.wf, IntKind.min, IntKind.max, IntKind.bits, IntKind.signed] at h
  omega

set_option maxRecDepth 100000 in
theorem open_op_c {H : Type} {enc : TypeId × Value → H} {W : World} {fuel : Nat} {cs : List Value} {x : DataW H × List MemPlace} (h : DataW.trod enc Try.prog W 0 (fun _ => true) true fuel 46 cs = some x) :
    ∃ o : OpV, cs = o.cells.toList ∧ o.Good W (fun k => W.heap.size ≤ k) ∧ o.Fits := by
  obtain ⟨xs, n, _, _, hcl, hxl, hf⟩ := DataW.trod_struct Try.underlying46 h
  have e0 : Try.prog.cellsOf 46 = 8 := by kernel_rfl
  have e1 : Try.prog.cellsOf 3 = 1 := by kernel_rfl
  have e2 : Try.prog.cellsOf 9 = 1 := by kernel_rfl
  have e3 : Try.prog.cellsOf 30 = 1 := by kernel_rfl
  have e4 : Try.prog.cellsOf 44 = 2 := by kernel_rfl
  have e5 : Try.prog.cellsOf 42 = 1 := by kernel_rfl
  rw [e0] at hcl
  match cs, hcl, xs, hxl, hf with
  | [c0, c1, c2, c3, c4, c5, c6, c7], _, [y0, y1, y2, y3, y4, y5, y6], _, hf =>
    have f0 : DataW.trod enc Try.prog W 0 (fun _ => true) true n 3 [c0] = some y0 := by have := hf 0 _ rfl; simpa [e1, e2, e3, e4] using this
    have f1 : DataW.trod enc Try.prog W 0 (fun _ => true) true n 3 [c1] = some y1 := by have := hf 1 _ rfl; simpa [e1, e2, e3, e4] using this
    have f2 : DataW.trod enc Try.prog W 0 (fun _ => true) true n 9 [c2] = some y2 := by have := hf 2 _ rfl; simpa [e1, e2, e3, e4] using this
    have f3 : DataW.trod enc Try.prog W 0 (fun _ => true) true n 9 [c3] = some y3 := by have := hf 3 _ rfl; simpa [e1, e2, e3, e4] using this
    have f4 : DataW.trod enc Try.prog W 0 (fun _ => true) true n 9 [c4] = some y4 := by have := hf 4 _ rfl; simpa [e1, e2, e3, e4] using this
    have f5 : DataW.trod enc Try.prog W 0 (fun _ => true) true n 30 [c5] = some y5 := by have := hf 5 _ rfl; simpa [e1, e2, e3, e4] using this
    have f6 : DataW.trod enc Try.prog W 0 (fun _ => true) true n 44 [c6, c7] = some y6 := by have := hf 6 _ rfl; simpa [e1, e2, e3, e4] using this
    obtain ⟨K, h0, _, w0⟩ := DataW.trod_int Try.underlying3 f0
    obtain ⟨N, h1, _, w1⟩ := DataW.trod_int Try.underlying3 f1
    obtain ⟨A, h2, _, w2⟩ := DataW.trod_string Try.underlying9 f2
    obtain ⟨B, h3, _, w3⟩ := DataW.trod_string Try.underlying9 f3
    obtain ⟨S, h4, _, w4⟩ := DataW.trod_string Try.underlying9 f4
    obtain ⟨la, lcap, L, h5, w5, hL, hLs⟩ := open_strs_c f5
    obtain ⟨zs, n2, _, _, _, hzl, hz⟩ := DataW.trod_struct Try.underlying44 f6
    match zs, hzl, hz with
    | [z0, z1], _, hz =>
      have g0 : DataW.trod enc Try.prog W 0 (fun _ => true) true n2 42 [c6] = some z0 := by have := hz 0 _ rfl; simpa [e5] using this
      have g1 : DataW.trod enc Try.prog W 0 (fun _ => true) true n2 3 [c7] = some z1 := by have := hz 1 _ rfl; simpa [e1] using this
      obtain ⟨ka, kcap, ks, h6, w6, hk⟩ := open_bools_c g0
      obtain ⟨lack, h7, _, w7⟩ := DataW.trod_int Try.underlying3 g1
      cases h0; cases h1; cases h2; cases h3; cases h4; cases h5; cases h6; cases h7
      refine ⟨⟨K, N, A, B, S, la, lcap, L, ka, kcap, ks, lack⟩, rfl, ⟨wf_range w0, wf_range w1, wf_range w7, hL, ?_, hk⟩, w2, w3, w4, w5, w6, hLs⟩
      intro hl x hx
      have := hL.lt hl hx
      show ¬ W.heap.size ≤ x.block
      omega

set_option maxRecDepth 100000 in
theorem open_ops_c {H : Type} {enc : TypeId × Value → H} {W : World} {fuel : Nat} {cs : List Value} {x : DataW H × List MemPlace} (h : DataW.trod enc Try.prog W 0 (fun _ => true) true fuel 34 cs = some x) :
    ∃ (a : Option Addr) (cap : Nat) (os : List OpV), cs = [.slice a os.length cap] ∧ os.length ≤ maxLen ∧ OpSl W a os ∧ ∀ o ∈ os, o.Good W (fun k => W.heap.size ≤ k) ∧ o.Fits := by
  obtain ⟨a, len, cap, rfl, hl, hm, _, hi⟩ := open_rows Try.underlying34 (C := 8) (by kernel_rfl) (by omega) h
  have hs : ∀ i, i < len → ∃ o : OpV, (o.Good W (fun k => W.heap.size ≤ k) ∧ o.Fits) ∧ ∃ g off, a = some ⟨g, off, none⟩ ∧ ∀ j, j < 8 → W.cell? ⟨g, off + i * 8 + j, none⟩ = o.cells[j]? := by
    intro i hil
    obtain ⟨g, off, cs', y, n, ha, hcl, hat, ht⟩ := hi i hil
    obtain ⟨o, rfl, hg, hf⟩ := open_op_c ht
    exact ⟨o, ⟨hg, hf⟩, g, off, ha, fun j hj => by rw [hat j hj]; simp⟩
  obtain ⟨f, hf⟩ := choose_lt (α := OpV) hs
  have hlen : ((List.range len).map f).length = len := by simp
  refine ⟨a, cap, (List.range len).map f, by rw [hlen], by rw [hlen]; omega, ?_, ?_⟩
  · intro i s hs
    have hil : i < len := by have := (List.getElem?_eq_some_iff.1 hs).1; rwa [hlen] at this
    have : f i = s := by simpa [hil] using hs
    subst this
    exact (hf i hil).2
  · intro s hs
    obtain ⟨i, hi, rfl⟩ := List.mem_map.1 hs
    exact (hf i (List.mem_range.1 hi)).1

set_option maxRecDepth 100000 in
theorem open_ops {H : Type} {enc : TypeId × Value → H} {W : World} {v : Value} {d : DataW H} {p : List MemPlace} {base : Nat}
    (hv : Value.okWide Try.prog W .any base 34 v) (h : DataW.Trod enc Try.prog W 0 (fun _ => true) true 34 v d p) :
    ∃ (a : Option Addr) (cap : Nat) (os : List OpV), v = .slice a os.length cap ∧ os.length ≤ maxLen ∧ OpSl W a os ∧ ∀ o ∈ os, o.Good W (fun k => W.heap.size ≤ k) ∧ o.Fits := by
  obtain ⟨a0, len, cap, rfl⟩ := okWide_slice Try.underlying34 hv
  obtain ⟨fuel, hf⟩ := h
  obtain ⟨a, cap', os, hcs, h1, h2, h3⟩ := open_ops_c hf
  simp [Value.cells] at hcs
  obtain ⟨rfl, rfl, rfl⟩ := hcs
  exact ⟨a0, cap, os, rfl, h1, h2, h3⟩
end Go.Proofs.Ytndpmjanflahhaa
