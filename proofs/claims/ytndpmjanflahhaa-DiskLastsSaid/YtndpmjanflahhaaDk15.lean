/-
  The row of the writes that wait: one written in place; its tail cleared.
-/
import Derived.Test.YtndpmjanflahhaaDk14
import Derived.Lib.SliceRun
namespace Go.Proofs.Ytndpmjanflahhaa
open Go.RowKit Go.MapKept

def WRow (w : World) (g cap : Nat) (m : List WaitA) : Prop := w.ownsRow 0 127 3 (.slice (some ⟨g, 0, none⟩) m.length cap) m.length (waitCells m)

theorem WRow.parts {w : World} {g cap : Nat} {m : List WaitA} (h : WRow w g cap m) : ∃ cur, w.heap[g]? = some (.cells cur 127 (0, 0)) ∧ m.length ≤ cap ∧ cap ≤ maxLen ∧ cur.size = cap * 3 ∧ cur.toList.take (m.length * 3) = waitCells m := by
  obtain ⟨_, ⟨h1, _⟩ | ⟨g', cap', cur, hv, _, h2, h3, h4, h5, h6⟩⟩ := h
  · cases h1
  · cases hv; exact ⟨cur, h2, h3, h4, h5, h6⟩
theorem WRow.mk {w : World} {g cap : Nat} {m : List WaitA} {cur : Array Value} (h : w.heap[g]? = some (.cells cur 127 (0, 0))) (h1 : m.length ≤ cap) (h2 : cap ≤ maxLen) (h3 : cur.size = cap * 3) (h4 : cur.toList.take (m.length * 3) = waitCells m) : WRow w g cap m :=
  ⟨waitCells_len m, .inr ⟨g, cap, cur, rfl, Nat.zero_le _, h, h1, h2, h3, h4⟩⟩
theorem WRow.lt {w : World} {g cap : Nat} {m : List WaitA} (h : WRow w g cap m) : g < w.heap.size := by
  obtain ⟨cur, h1, _⟩ := h.parts; exact (Array.getElem?_eq_some_iff.1 h1).1
theorem WRow.at {w w' : World} {g cap : Nat} {m : List WaitA} (h : WRow w g cap m) (e : w'.heap[g]? = w.heap[g]?) : WRow w' g cap m := by
  obtain ⟨cur, h1, h2, h3, h4, h5⟩ := h.parts; exact .mk (e.trans h1) h2 h3 h4 h5
theorem WRow.cellAt {w : World} {g cap : Nat} {m : List WaitA} (h : WRow w g cap m) {i : Nat} {x : WaitA} (hx : m[i]? = some x) :
    w.cell? ⟨g, i * 3, none⟩ = some (.pointer (some ⟨x.id, 0, none⟩)) ∧ w.cell? ⟨g, i * 3 + 1, none⟩ = some (.int .i64 x.pos) ∧ w.cell? ⟨g, i * 3 + 2, none⟩ = some (.string x.s) := by
  have hi : i < m.length := (List.getElem?_eq_some_iff.1 hx).1
  obtain ⟨q0, q1, q2⟩ := waitCells_at hx
  exact ⟨(World.ownsRow.cellAt h _ (by omega)).trans q0, (World.ownsRow.cellAt h _ (by omega)).trans q1, (World.ownsRow.cellAt h _ (by omega)).trans q2⟩
theorem waitCells_take (m : List WaitA) (i : Nat) : waitCells (m.take i) = (waitCells m).take (i * 3) := by
  induction m generalizing i with
  | nil => simp [waitCells]
  | cons x t ih =>
    cases i with
    | zero => simp [waitCells]
    | succ i =>
      show ptr x.id :: .int .i64 x.pos :: .string x.s :: waitCells (t.take i) = (ptr x.id :: .int .i64 x.pos :: .string x.s :: waitCells t).take ((i + 1) * 3)
      rw [ih, show (i + 1) * 3 = i * 3 + 1 + 1 + 1 by omega, List.take_succ_cons, List.take_succ_cons, List.take_succ_cons]
theorem waitCells_drop (m : List WaitA) (i : Nat) : waitCells (m.drop i) = (waitCells m).drop (i * 3) := by
  induction m generalizing i with
  | nil => simp [waitCells]
  | cons x t ih =>
    cases i with
    | zero => simp [waitCells]
    | succ i =>
      show waitCells (t.drop i) = (ptr x.id :: .int .i64 x.pos :: .string x.s :: waitCells t).drop ((i + 1) * 3)
      rw [ih, show (i + 1) * 3 = i * 3 + 1 + 1 + 1 by omega, List.drop_succ_cons, List.drop_succ_cons, List.drop_succ_cons]
theorem WRow.take {w : World} {g cap : Nat} {m : List WaitA} (h : WRow w g cap m) (i : Nat) : WRow w g cap (m.take i) := by
  obtain ⟨cur, h1, h2, h3, h4, h5⟩ := h.parts
  refine .mk h1 (by rw [List.length_take]; omega) h3 h4 ?_
  rw [waitCells_take, ← h5, List.take_take, List.length_take]
  by_cases hi : i ≤ m.length
  · rw [Nat.min_eq_left hi, Nat.min_eq_left (by omega)]
  · rw [Nat.min_eq_right (by omega : m.length ≤ i), Nat.min_eq_right (by omega)]

theorem setRow_step (w : World) (g : Nat) (cs : Array Value) : Step (· = g) w (· = g) (w.setRow g cs) :=
  ⟨rfl, rfl, rfl, by rw [setRow_size]; exact Nat.le_refl _, fun k _ hne => by simp [World.setRow, Array.getElem?_modify, Ne.symm hne], fun _ h => .inl h⟩
theorem setRow_at (w : World) (g : Nat) (cs cur : Array Value) (T : TypeId) (fr : Nat × Nat) (h : w.heap[g]? = some (.cells cur T fr)) : (w.setRow g cs).heap[g]? = some (.cells cs T fr) := by
  simp [World.setRow, Array.getElem?_modify, h]
theorem waitCells_set (m : List WaitA) (i : Nat) (x : WaitA) (hi : i < m.length) : waitCells (m.set i x) = (waitCells m).take (i * 3) ++ x.cells ++ (waitCells m).drop (i * 3 + 3) := by
  rw [List.set_eq_take_append_cons_drop, if_pos hi]
  show waitCells (m.take i ++ ([x] ++ m.drop (i + 1))) = _
  unfold waitCells
  rw [List.flatMap_append, List.flatMap_append]
  have e1 := waitCells_take m i
  have e2 := waitCells_drop m (i + 1)
  unfold waitCells at e1 e2
  rw [e1, e2, show (i + 1) * 3 = i * 3 + 3 by omega]
  simp

set_option maxRecDepth 100000 in
theorem WRow.store {w : World} {g cap : Nat} {m : List WaitA} (h : WRow w g cap m) {i : Nat} (hi : i < m.length) (x : WaitA) :
    ∃ w2, (Instr.storeAt 127 (.pointer (some ⟨g, i * 3, none⟩)) (.agg #[.pointer (some ⟨x.id, 0, none⟩), .int .i64 x.pos, .string x.s])).run Try.prog w = .ok () w2 ∧ WRow w2 g cap (m.set i x) ∧ Step (· = g) w (· = g) w2 ∧ w2.heap.size = w.heap.size := by
  obtain ⟨cur, h1, h2, h3, h4, h5⟩ := h.parts
  obtain ⟨i0, hi0, hz0, hz1, hz2⟩ := info_parts info_write
  have hst := run_storeCells_off (P := Try.prog) g (i * 3) 127 0 0 x.cells 0 cur w h1 (by show i * 3 + 0 + 3 ≤ _; omega) (by intro v hv; simp [WaitA.cells, ptr] at hv; rcases hv with rfl | rfl | rfl <;> rfl) (.inl rfl)
  refine ⟨w.setRow g (cur.toList.take (i * 3 + 0) ++ x.cells ++ cur.toList.drop (i * 3 + 0 + x.cells.length)).toArray, ?_, ?_, setRow_step w g _, setRow_size _ _ _⟩
  · simp only [Instr.storeAt, Instr.sureAddr, Sem.run_bind, Sem.run_pure, Result.andThen_ok]
    refine Eq.trans ?_ hst
    simp [storeVar, sizeOf, typeInfo, hi0, hz1, Value.cells]
    rfl
  · refine .mk (setRow_at w g _ cur _ _ h1) (by rw [List.length_set]; exact h2) h3 ?_ ?_
    · simp [WaitA.cells]; omega
    · have hlen : (waitCells m).length = m.length * 3 := waitCells_len m
      have hl : x.cells.length = 3 := rfl
      have hs : cur.toList.length = cap * 3 := h4 ▸ Array.length_toList
      rw [waitCells_set m i x hi, List.length_set, ← h5, hl]
      generalize cur.toList = L at *
      simp only [Nat.add_zero, List.toList_toArray]
      have hA : (L.take (i * 3) ++ x.cells).length = i * 3 + 3 := by rw [List.length_append, List.length_take, hl]; omega
      have hT : (L.take (m.length * 3)).take (i * 3) = L.take (i * 3) := by rw [List.take_take, Nat.min_eq_left (by omega)]
      rw [hT]
      generalize L.take (i * 3) ++ x.cells = A at *
      rw [List.take_append, List.take_of_length_le (by omega), hA, List.drop_take]

set_option maxRecDepth 100000 in
theorem WRow.clear {w : World} {g cap : Nat} {m : List WaitA} (h : WRow w g cap m) {i : Nat} (hi : i ≤ m.length) :
    ∃ w2, (∀ ty, (Builtin.clear_ #[118] ty #[.slice (some ⟨g, i * 3, none⟩) (m.length - i) (cap - i)]).run Try.prog w = .ok (.tuple #[]) w2) ∧ WRow w2 g cap (m.take i) ∧ Step (· = g) w (· = g) w2 ∧ w2.heap.size = w.heap.size := by
  by_cases he : i = m.length
  · refine ⟨w, fun ty => ?_, h.take i, Step.refl _ w, rfl⟩
    subst he
    simp [Builtin.clear_, run_underlying Try.underlying118]
  · obtain ⟨cur, h1, h2, h3, h4, h5⟩ := h.parts
    obtain ⟨i0, hi0, hz0, hz1, hz2⟩ := info_parts info_write
    obtain ⟨k, hk⟩ : ∃ k, m.length - i = k + 1 := ⟨m.length - i - 1, by omega⟩
    have hzl : (Builtin.zeroCells #[Value.pointer none, .int .i64 0, .string ByteArray.empty] (k + 1)).toList.length = (k + 1) * 3 := by simp [Builtin.zeroCells]
    have hst := run_storeCells_off (P := Try.prog) g (i * 3) 127 0 0 (Builtin.zeroCells #[Value.pointer none, .int .i64 0, .string ByteArray.empty] (k + 1)).toList 0 cur w h1 (by rw [hzl]; omega)
      (by
        intro v hv
        unfold Builtin.zeroCells at hv
        rw [Array.mem_toList_iff, Array.mem_map] at hv
        obtain ⟨j, _, rfl⟩ := hv
        show (#[Value.pointer none, .int .i64 0, .string ByteArray.empty][j % 3]!).oneCell' = true
        have : j % 3 = 0 ∨ j % 3 = 1 ∨ j % 3 = 2 := by omega
        rcases this with e | e | e <;> rw [e] <;> rfl) (.inl rfl)
    generalize hz : (Builtin.zeroCells #[Value.pointer none, .int .i64 0, .string ByteArray.empty] (k + 1)).toList = zs at hst hzl
    refine ⟨w.setRow g (cur.toList.take (i * 3 + 0) ++ zs ++ cur.toList.drop (i * 3 + 0 + zs.length)).toArray, fun ty => ?_, ?_, setRow_step w g _, setRow_size _ _ _⟩
    · rw [hk]
      have hzr : ∀ w, (zeroValue 127).run Try.prog w = .ok (.agg #[Value.pointer none, .int .i64 0, .string ByteArray.empty]) w := fun w => by
        unfold zeroValue
        rw [Sem.run_bind, run_typeInfo w hi0, Result.andThen_ok, hz0]; rfl
      have hq : (Builtin.clear_ #[118] ty #[.slice (some ⟨g, i * 3, none⟩) (k + 1) (cap - i)]).run Try.prog w = ((storeCells ⟨g, i * 3, none⟩ (Builtin.zeroCells #[Value.pointer none, .int .i64 0, .string ByteArray.empty] (k + 1)).toList).run Try.prog w).andThen fun _ w' => Result.ok (Value.tuple #[]) w' := by
        simp [Builtin.clear_, Sem.run_bind, run_underlying Try.underlying118, Result.andThen_ok, hzr, Value.cells]
      rw [hq, hz, hst]; rfl
    · refine .mk (setRow_at w g _ cur _ _ h1) (by rw [List.length_take]; omega) h3 ?_ ?_
      · rw [List.size_toArray]; simp only [List.length_append, List.length_take, List.length_drop, hzl, Array.length_toList]; omega
      · have hs : cur.toList.length = cap * 3 := h4 ▸ Array.length_toList
        rw [waitCells_take, ← h5, List.length_take, Nat.min_eq_left hi]
        generalize cur.toList = L at *
        simp only [Nat.add_zero]
        rw [List.append_assoc, List.take_append_of_le_length (by rw [List.length_take]; omega), List.take_take, List.take_take, Nat.min_self, Nat.min_eq_left (by omega : i * 3 ≤ m.length * 3)]
end Go.Proofs.Ytndpmjanflahhaa
