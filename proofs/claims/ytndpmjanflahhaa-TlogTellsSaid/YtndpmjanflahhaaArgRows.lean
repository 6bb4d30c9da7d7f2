/-
  HOW A SLICE THAT CAME IN READS, whatever its elements: each element's cells lie one behind the other, and read as its type says.
-/
import Derived.Test.YtndpmjanflahhaaMA
import Derived.SliceStrings
import Derived.Deep.Slices
import Derived.WideShapes
namespace Go.Proofs.Ytndpmjanflahhaa
open Go.ChangeShapes Go.WideShapes Go.RowKit Go.Deep

section
variable {H : Type} {enc : TypeId × Value → H} {P : Program} {w : World} {base : Nat} {spare : Nat → Bool} {held : Bool}

/-- A slice, element by element. -/
theorem open_rows {t e : TypeId} {C : Nat} {fuel : Nat} {cs : List Value} {x : DataW H × List MemPlace} (ht : P.underlying t = some (.slice e)) (hC : P.cellsOf e = C) (hpos : 0 < C) (h : DataW.trod enc P w base spare held fuel t cs = some x) :
    ∃ (a : Option Addr) (len cap : Nat), cs = [.slice a len cap] ∧ len ≤ cap ∧ cap ≤ maxLen ∧ (a = none → len = 0 ∧ cap = 0) ∧
      ∀ i, i < len → ∃ (g off : Nat) (cs' : List Value) (y : DataW H × List MemPlace) (n : Nat), a = some ⟨g, off, none⟩ ∧ cs'.length = C ∧ (∀ j, j < C → w.cell? ⟨g, off + i * C + j, none⟩ = cs'[j]?) ∧ DataW.trod enc P w base spare held n e cs' = some y := by
  rcases open_slice ht h with ⟨rfl, _⟩ | ⟨a, len, cap, m, n, D, Pl, rfl, hb, hl, hm, hmm, hx, hi⟩
  · exact ⟨none, 0, 0, rfl, Nat.le_refl _, Nat.zero_le _, fun _ => ⟨rfl, rfl⟩, fun i hi => absurd hi (by omega)⟩
  · refine ⟨some a, len, cap, rfl, hl, hm, (fun e => by cases e), fun i hil => ?_⟩
    obtain ⟨cs', hc, ht'⟩ := hi i (by split at hmm <;> omega)
    rw [hC] at hc
    obtain ⟨_, hcl, hat⟩ := World.cells?_some hc
    obtain ⟨g, off, spot⟩ := a
    have hs : spot = none := by
      obtain ⟨cs0, hc0, _⟩ := hi 0 (by split at hmm <;> omega)
      rw [hC] at hc0
      obtain ⟨_, hcl0, hat0⟩ := World.cells?_some hc0
      have h0 := hat0 0 hpos
      have hv : cs0[0]? = some (cs0[0]'(by omega)) := List.getElem?_eq_getElem (by omega)
      rw [hv] at h0
      have h0' := World.cell?_spot h0
      simpa [Addr.add] using h0'
    subst hs
    refine ⟨g, off, cs', _, n, rfl, hcl, fun j hj => ?_, ht'⟩
    rw [← hat j hj, add_add]
    congr 1
    unfold Addr.add
    split <;> simp_all [Nat.add_assoc]
end

set_option maxRecDepth 100000 in
theorem open_strs_c {H : Type} {enc : TypeId × Value → H} {W : World} {fuel : Nat} {cs : List Value} {x : DataW H × List MemPlace} (h : DataW.trod enc Try.prog W 0 (fun _ => true) true fuel 30 cs = some x) :
    ∃ (a : Option Addr) (cap : Nat) (ss : List ByteArray), cs = [.slice a ss.length cap] ∧ ss.length ≤ maxLen ∧ StrSl W a ss ∧ ∀ s ∈ ss, s.size ≤ maxLen := by
  obtain ⟨a, len, cap, rfl, hl, hm, _, hi⟩ := open_rows Try.underlying30 (C := 1) (by kernel_rfl) (by omega) h
  have hs : ∀ i, i < len → ∃ s : ByteArray, s.size ≤ maxLen ∧ ∃ g off, a = some ⟨g, off, none⟩ ∧ W.cell? ⟨g, off + i, none⟩ = some (.string s) := by
    intro i hil
    obtain ⟨g, off, cs', y, n, ha, hcl, hat, ht⟩ := hi i hil
    obtain ⟨s, rfl, _, hs⟩ := DataW.trod_string Try.underlying9 ht
    refine ⟨s, hs, g, off, ha, ?_⟩
    have := hat 0 (by omega)
    simpa using this
  obtain ⟨f, hf⟩ := choose_lt (α := ByteArray) hs
  have hlen : ((List.range len).map f).length = len := by simp
  refine ⟨a, cap, (List.range len).map f, by rw [hlen], by rw [hlen]; omega, ?_, ?_⟩
  · intro i s hs
    have hil : i < len := by have := (List.getElem?_eq_some_iff.1 hs).1; rwa [hlen] at this
    have : f i = s := by simpa [hil] using hs
    subst this
    exact (hf i hil).2
  · intro s hs
    obtain ⟨i, hi, rfl⟩ := List.mem_map.1 hs
    exact (hf i (List.mem_range.1 hi)).1


set_option maxRecDepth 100000 in
theorem open_u8s {H : Type} {enc : TypeId × Value → H} {W : World} {v : Value} {d : DataW H} {p : List MemPlace} {base : Nat}
    (hv : Value.okWide Try.prog W .any base 53 v) (h : DataW.Trod enc Try.prog W 0 (fun _ => true) true 53 v d p) :
    ∃ (a : Option Addr) (cap : Nat) (xs : List UInt8), v = .slice a xs.length cap ∧ xs.length ≤ maxLen ∧ ∀ i x, xs[i]? = some x → ∃ b off, a = some ⟨b, off, none⟩ ∧ W.cell? ⟨b, off + i, none⟩ = some (.int .u8 x.toNat) := by
  obtain ⟨a0, len, cap, rfl⟩ := okWide_slice Try.underlying53 hv
  obtain ⟨fuel, hf⟩ := h
  obtain ⟨a, len', cap', hcs, hl, hm, _, hi⟩ := open_rows Try.underlying53 (C := 1) (by kernel_rfl) (by omega) hf
  simp [Value.cells] at hcs
  obtain ⟨rfl, rfl, rfl⟩ := hcs
  have hs : ∀ i, i < len → ∃ x : UInt8, ∃ g off, a0 = some ⟨g, off, none⟩ ∧ W.cell? ⟨g, off + i, none⟩ = some (.int .u8 x.toNat) := by
    intro i hil
    obtain ⟨g, off, cs', y, n, ha, hcl, hat, ht⟩ := hi i hil
    obtain ⟨z, rfl, _, hz⟩ := DataW.trod_int Try.underlying5 ht
    simp [Lit.wf, IntKind.min, IntKind.max, IntKind.bits, IntKind.signed] at hz
    obtain ⟨y, rfl⟩ := Int.eq_ofNat_of_zero_le hz.1
    refine ⟨UInt8.ofNat y, g, off, ha, ?_⟩
    have := hat 0 (by omega)
    have e : (UInt8.ofNat y).toNat = y := by simp; omega
    rw [e]
    simpa using this
  obtain ⟨f, hf⟩ := choose_lt (α := UInt8) hs
  have hlen : ((List.range len).map f).length = len := by simp
  refine ⟨a0, cap, (List.range len).map f, by rw [hlen], by rw [hlen]; omega, ?_⟩
  intro i s hs
  have hil : i < len := by have := (List.getElem?_eq_some_iff.1 hs).1; rwa [hlen] at this
  have : f i = s := by simpa [hil] using hs
  subst this
  exact hf i hil

theorem u16_range {n : Int} (h : (Lit.int .u16 n).wf = true) : ∃ m : Nat, n = m ∧ m < 65536 := by
  simp [Lit.wf, IntKind.min, IntKind.max, IntKind.bits, IntKind.signed] at h
  exact ⟨n.toNat, by omega, by omega⟩
theorem u8_range {n : Int} (h : (Lit.int .u8 n).wf = true) : ∃ m : Nat, n = m ∧ m < 256 := by
  simp [Lit.wf, IntKind.min, IntKind.max, IntKind.bits, IntKind.signed] at h
  exact ⟨n.toNat, by omega, by omega⟩
theorem i64_range {n : Int} (h : (Lit.int .i64 n).wf = true) : -9223372036854775808 ≤ n ∧ n ≤ 9223372036854775807 := by
  simp [Lit.wf, IntKind.min, IntKind.max, IntKind.bits, IntKind.signed] at h
  omega
end Go.Proofs.Ytndpmjanflahhaa
