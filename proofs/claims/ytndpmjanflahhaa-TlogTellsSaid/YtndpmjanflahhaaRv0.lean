/-
  slices.Reverse at []entry.Mark: the library's contract, laid at this program; a row of the call's own reversed.
-/
import Derived.Test.YtndpmjanflahhaaTl3
import Derived.Shelf.SlicesQ.Reverse
namespace Go.Proofs.Ytndpmjanflahhaa
open Go.RowKit Go.MapKept Go.Shelf Go.Sort Go.Lib

def revL_ren : Go.Shelf.Ren := ⟨fun | 35 => 138 | n => n, fun | 0 => 0 | 3 => 3 | 4 => 4 | 22 => 98 | 23 => 102 | n => n, fun | n => n⟩
theorem revL : Go.Proofs.SlLaysE0.n35 Try.prog revL_ren := {
  mixed := by kernel_rfl
  f35 := ⟨Try.f138.name, by decide, Try.func138.trans (congrArg some (by kernel_rfl))⟩
  t0 := Try.underlying0
  a0 := Try.isAgg0
  z0 := Try.sizeOf0
  v0 := Try.zeroValue0
  t3 := Try.underlying3
  a3 := Try.isAgg3
  z3 := Try.sizeOf3
  v3 := Try.zeroValue3
  t4 := Try.underlying4
  a4 := Try.isAgg4
  z4 := Try.sizeOf4
  v4 := Try.zeroValue4
  t22 := Try.underlying98
  a22 := Try.isAgg98
  z22 := Try.sizeOf98
  v22 := Try.zeroValue98 }

/-- A row, written whole. -/
theorem row_put {w : World} {e : TypeId} {sz : Nat} {n cap g : Nat} {xs : List Value} (h : w.ownsRow 0 e sz (.slice (some ⟨g, 0, none⟩) n cap) n xs) (m : Nat) (F : Array Value) (hF : F.size = n * sz) :
    (putRow id (Go.Sort.ahead w m) g 0 F).ownsRow 0 e sz (.slice (some ⟨g, 0, none⟩) n cap) n F.toList ∧ w.grownBy (putRow id (Go.Sort.ahead w m) g 0 F) (some g) := by
  have hoth : ∀ k, k ≠ g → (putRow id (Go.Sort.ahead w m) g 0 F).heap[k]? = w.heap[k]? := fun k hk => by
    show (w.heap.modify g _)[k]? = _
    rw [Array.getElem?_modify, if_neg (fun e => hk e.symm)]
  refine ⟨⟨by simp [hF], ?_⟩, ⟨rfl, rfl, rfl, by simp, fun k _ hne => hoth k (fun e => hne (by rw [e]))⟩⟩
  rcases h.2 with ⟨h1, _⟩ | ⟨g', cap', cur, hv, hb, hh, hnc, hcm, hcs, htk⟩
  · cases h1
  · cases hv
    refine .inr ⟨g, cap, putCells id 0 F cur, rfl, hb, ?_, hnc, hcm, by simp [putCells, hcs], ?_⟩
    · show (w.heap.modify g _)[g]? = _
      rw [Array.getElem?_modify, if_pos rfl, hh]; rfl
    · apply List.ext_getElem?
      intro k
      have hle : n * sz ≤ cap * sz := Nat.mul_le_mul_right _ hnc
      by_cases hk : k < n * sz
      · rw [List.getElem?_take_of_lt hk]
        simp only [Array.getElem?_toList, putCells, Array.getElem?_mapIdx]
        rw [Array.getElem?_eq_getElem (by omega), Array.getElem?_eq_getElem (by omega)]
        simp only [Option.map_some]
        rw [if_pos ⟨Nat.zero_le _, by omega⟩, Nat.sub_zero, getElem!_pos F k (by omega)]
        rfl
      · rw [List.getElem?_eq_none (by rw [List.length_take]; omega), List.getElem?_eq_none (by simp; omega)]
theorem flatK_list {α : Type} [Inhabited α] {enc : α → List Value} {k : Nat} (hk : ∀ x, (enc x).length = k) (h0 : 0 < k) (l : List α) : (flatK enc k l.toArray).toList = l.flatMap enc := by
  apply List.ext_getElem?
  intro t
  have hlen := recs_len hk l
  by_cases ht : t < l.length * k
  · have hi : t / k < l.length := (Nat.div_lt_iff_lt_mul h0).2 ht
    have hr : t % k < k := Nat.mod_lt _ h0
    have h1 := recs_at hk l (t / k) (x := l[t / k]) (by simp)
    have h2 : (l.flatMap enc)[t]? = (enc l[t / k])[t % k]? := by
      rw [← h1, List.getElem?_take_of_lt hr, List.getElem?_drop, Nat.div_add_mod]
    rw [h2]
    unfold flatK
    simp only [Array.getElem?_toList, Array.getElem?_map]
    rw [Array.getElem?_eq_getElem (by simpa using ht)]
    simp only [Array.getElem_range, Option.map_some]
    rw [getElem!_pos l.toArray (t / k) (by simpa using hi), getElem!_pos _ (t % k) (by rw [hk]; exact hr), List.getElem?_eq_getElem (by rw [hk]; exact hr)]
    simp
  · rw [List.getElem?_eq_none (by unfold flatK; simp; omega), List.getElem?_eq_none (by rw [hlen, Nat.mul_comm]; omega)]

instance : Inhabited MRec := ⟨⟨0, 0, 0, 0⟩⟩
def MRec.cells (m : MRec) : List Value := [.int .i64 m.due, .int .i64 m.at_, .int .i64 m.ahead, .int .i64 m.puts]
def markCells (l : List MRec) : List Value := l.flatMap MRec.cells
theorem markCells_len (l : List MRec) : (markCells l).length = l.length * 4 := by unfold markCells; rw [recs_len (C := 4) (f := MRec.cells) (fun _ => rfl)]; omega
theorem markCells_at (l : List MRec) (i : Nat) {m : MRec} (h : l[i]? = some m) (j : Nat) (hj : j < 4) : (markCells l)[4 * i + j]? = m.cells[j]? := by
  have h1 := recs_at (C := 4) (f := MRec.cells) (fun _ => rfl) l i h
  rw [← h1, List.getElem?_take_of_lt hj, List.getElem?_drop]; rfl
set_option maxRecDepth 100000 in
theorem Rev_row (l : List MRec) {w : World} {a : Option Addr} {c : Nat} (h : w.ownsRow 0 102 4 (.slice a l.length c) l.length (markCells l)) (hl : l.length ≤ 1000000000) :
    Calls Try.prog 138 #[.slice a l.length c] w fun e w' => e = .returned (.tuple #[]) ∧ Appended w 102 4 (.slice a l.length c) (.slice a l.length c) w' l.length (markCells l.reverse) := by
  by_cases h0 : l.length = 0
  · obtain rfl : l = [] := List.length_eq_zero_iff.1 h0
    refine (AnyQ.slices_Reverse_empty revL a c w).mono ?_
    rintro e w' ⟨rfl, rfl⟩
    exact ⟨rfl, h, ⟨rfl, rfl, rfl, Nat.le_refl _, fun _ _ _ => rfl⟩, fun g hg => .inl hg, fun hn => absurd rfl hn⟩
  · have h' := h
    rcases h'.2 with ⟨_, h2⟩ | ⟨g, cap, cur, hv, hb, hh, hnc, hcm, hcs, htk⟩
    · exact absurd h2 h0
    · cases hv
      have hfl := flatK_list (enc := MRec.cells) (k := 4) (fun _ => rfl) (by omega) l
      have hfs : (flatK MRec.cells 4 l.toArray).size = l.length * 4 := by simp [flatK]
      have hH : HoldsK MRec.cells 4 w g 0 l.toArray := by
        intro j hj
        rw [hfs] at hj
        refine ⟨?_, ?_⟩
        · have := World.ownsRow.cellAt h j (by omega)
          rw [Nat.zero_add, this]
          show (markCells l)[j]? = _
          have e : (flatK MRec.cells 4 l.toArray)[j]? = (markCells l)[j]? := by
            rw [← Array.getElem?_toList, hfl]; rfl
          rw [← e, Array.getElem?_eq_getElem (by omega), getElem!_pos _ j (by omega)]; rfl
        · have := World.ownsRow.frozenAt h j
          rw [Nat.zero_add]; exact this
      have hc := AnyQ.slices_Reverse revL 4 Try.isAgg102 Try.sizeOf102 MRec.cells (fun _ => rfl) (fun x v hv => by
        simp [MRec.cells] at hv; rcases hv with rfl | rfl | rfl | rfl <;> rfl) g 0 c l.toArray w hH (by simp; omega)
      have hsz : (l.toArray).size = l.length := by simp
      rw [hsz] at hc
      refine hc.mono ?_
      rintro e w' ⟨rfl, m, rfl⟩
      have hr := row_put h m (flatK MRec.cells 4 l.toArray.reverse) (by simp [flatK])
      have hfr : (flatK MRec.cells 4 l.toArray.reverse).toList = markCells l.reverse := by
        have : l.toArray.reverse = l.reverse.toArray := by simp
        rw [this]; exact flatK_list (enc := MRec.cells) (k := 4) (fun _ => rfl) (by omega) l.reverse
      rw [hfr] at hr
      exact ⟨rfl, hr.1, hr.2, fun q hq => .inl hq, fun _ hv => by cases hv⟩
end Go.Proofs.Ytndpmjanflahhaa
