/-
  Dk13, Dk14, Dk15, Dk16, Dk17, Dk18, Dk19, one behind the other.
-/
import Derived.Test.YtndpmjanflahhaaMC
import Derived.LaidEqlPtr
import Derived.Lib.SliceRun
/-
  slices.DeleteFunc at the writes that wait, with the two predicates 'is of this file': what is left.
-/
namespace Go.Proofs.Ytndpmjanflahhaa
open Go.RowKit Go.MapKept

theorem info_file : (Try.prog.info? 124).map (fun i => (i.zero, i.size, i.bytes)) = some (some (.agg #[.string ByteArray.empty, .string ByteArray.empty]), 2, 32) := by kernel_rfl
set_option maxRecDepth 100000 in
theorem eql_ptr (w : World) (a b : Nat) {c1 c2 : Array Value} (h1 : Blk w a c1 124) (h2 : Blk w b c2 124) :
    (binOp .eql 121 (.pointer (some ⟨a, 0, none⟩)) (.pointer (some ⟨b, 0, none⟩))).run Try.prog w = .ok (.bool (a == b)) w := by
  obtain ⟨i0, hi, _, hz, _⟩ := info_parts info_file
  by_cases e : a = b
  · subst e
    rw [run_eql_ptr_same _ _ Try.underlying121 hi]; simp
  · rw [run_eql_ptr_other w (a := ⟨a, 0, none⟩) (b := ⟨b, 0, none⟩) Try.underlying121 hi (by omega) (by simp [e]) (show w.heap[a]? = _ from h1) (show w.heap[b]? = _ from h2)]
    simp [e]

set_option maxRecDepth 100000 in
theorem lasts1_any (x : WaitA) (c id : Nat) (W : World) (hc : W.cell? ⟨c, 0, none⟩ = some (.pointer (some ⟨id, 0, none⟩))) {c1 c2 : Array Value} (h1 : Blk W x.id c1 124) (h2 : Blk W id c2 124) :
    Calls Try.prog 119 #[.agg #[.pointer (some ⟨x.id, 0, none⟩), .int .i64 x.pos, .string x.s], .pointer (some ⟨c, 0, none⟩)] W fun e w' => e = .returned (.bool (x.id == id)) ∧ Below W.heap.size W w' := by
  have hlt := World.block_lt_of_cell? _ _ hc
  have hc2 := (World.cell?_alloc_lt W (.cells #[.pointer (some ⟨x.id, 0, none⟩), .int .i64 x.pos, .string x.s] 127) ⟨c, 0, none⟩ hlt).trans hc
  have heq := eql_ptr (W.alloc (.cells #[.pointer (some ⟨x.id, 0, none⟩), .int .i64 x.pos, .string x.s] 127)) x.id id (h1.at (heap_alloc_old _ _ h1.lt)) (h2.at (heap_alloc_old _ _ h2.lt))
  clear h1 h2
  go_enter Try.func119, Try.ntmps119
  go_wp2
  go_ret
  exact ⟨rfl, (Below.refl _ W).alloc (Nat.le_refl _) _⟩

set_option maxRecDepth 100000 in
theorem drop1_any (x : WaitA) (c id : Nat) (W : World) (hc : W.cell? ⟨c, 0, none⟩ = some (.pointer (some ⟨id, 0, none⟩))) {c1 c2 : Array Value} (h1 : Blk W x.id c1 124) (h2 : Blk W id c2 124) :
    Calls Try.prog 140 #[.agg #[.pointer (some ⟨x.id, 0, none⟩), .int .i64 x.pos, .string x.s], .pointer (some ⟨c, 0, none⟩)] W fun e w' => e = .returned (.bool (x.id == id)) ∧ Below W.heap.size W w' := by
  have hlt := World.block_lt_of_cell? _ _ hc
  have hc2 := (World.cell?_alloc_lt W (.cells #[.pointer (some ⟨x.id, 0, none⟩), .int .i64 x.pos, .string x.s] 127) ⟨c, 0, none⟩ hlt).trans hc
  have heq := eql_ptr (W.alloc (.cells #[.pointer (some ⟨x.id, 0, none⟩), .int .i64 x.pos, .string x.s] 127)) x.id id (h1.at (heap_alloc_old _ _ h1.lt)) (h2.at (heap_alloc_old _ _ h2.lt))
  clear h1 h2
  go_enter Try.func140, Try.ntmps140
  go_wp2
  go_ret
  exact ⟨rfl, (Below.refl _ W).alloc (Nat.le_refl _) _⟩


/-- The predicate of a function value: is a write of this file? -/
def IsPred (g c id : Nat) : Prop := ∀ (x : WaitA) (W : World) (c1 c2 : Array Value), W.cell? ⟨c, 0, none⟩ = some (.pointer (some ⟨id, 0, none⟩)) → Blk W x.id c1 124 → Blk W id c2 124 →
    Calls Try.prog g #[.agg #[.pointer (some ⟨x.id, 0, none⟩), .int .i64 x.pos, .string x.s], .pointer (some ⟨c, 0, none⟩)] W fun e w' => e = .returned (.bool (x.id == id)) ∧ Below W.heap.size W w'
theorem lasts1_pred (c id : Nat) : IsPred 119 c id := fun x W _ _ hc h1 h2 => lasts1_any x c id W hc h1 h2
theorem drop1_pred (c id : Nat) : IsPred 140 c id := fun x W _ _ hc h1 h2 => drop1_any x c id W hc h1 h2
end Go.Proofs.Ytndpmjanflahhaa

/-
  slices.IndexFunc at the writes that wait.
-/
namespace Go.Proofs.Ytndpmjanflahhaa
open Go.RowKit Go.MapKept

theorem waitCells_len (l : List WaitA) : (waitCells l).length = l.length * 3 := by
  induction l with
  | nil => rfl
  | cons x t ih => show (x.cells ++ waitCells t).length = _; rw [List.length_append, ih]; simp [WaitA.cells]; omega
theorem waitCells_at {l : List WaitA} {i : Nat} {x : WaitA} (h : l[i]? = some x) : (waitCells l)[i * 3]? = some (ptr x.id) ∧ (waitCells l)[i * 3 + 1]? = some (.int .i64 x.pos) ∧ (waitCells l)[i * 3 + 2]? = some (.string x.s) := by
  induction l generalizing i with
  | nil => simp at h
  | cons y t ih =>
    have e : waitCells (y :: t) = y.cells ++ waitCells t := rfl
    have hl : y.cells.length = 3 := rfl
    rw [e]
    cases i with
    | zero => simp at h; subst h; exact ⟨rfl, rfl, rfl⟩
    | succ i =>
      simp at h
      have := ih h
      refine ⟨?_, ?_, ?_⟩ <;> rw [List.getElem?_append_right (by rw [hl]; omega), hl]
      · rw [show (i + 1) * 3 - 3 = i * 3 by omega]; exact this.1
      · rw [show (i + 1) * 3 + 1 - 3 = i * 3 + 1 by omega]; exact this.2.1
      · rw [show (i + 1) * 3 + 2 - 3 = i * 3 + 2 by omega]; exact this.2.2

/-- What the predicate is called in. -/
structure PredEnv (W : World) (c id : Nat) (l : List WaitA) : Prop where
  cell : W.cell? ⟨c, 0, none⟩ = some (.pointer (some ⟨id, 0, none⟩))
  file : ∃ c2, Blk W id c2 124
  files : ∀ x ∈ l, ∃ c1, Blk W x.id c1 124
theorem PredEnv.below {W W' : World} {c id : Nat} {l : List WaitA} (h : PredEnv W c id l) (hb : Below W.heap.size W W') : PredEnv W' c id l := by
  refine ⟨(hb.cell (p := ⟨c, 0, none⟩) (World.block_lt_of_cell? _ _ h.cell)).trans h.cell, ?_, fun x hx => ?_⟩
  · obtain ⟨c2, h2⟩ := h.file; exact ⟨c2, h2.at (hb.block _ h2.lt)⟩
  · obtain ⟨c1, h1⟩ := h.files x hx; exact ⟨c1, h1.at (hb.block _ h1.lt)⟩
theorem PredEnv.sub {W : World} {c id : Nat} {l l' : List WaitA} (h : PredEnv W c id l) (hs : ∀ x ∈ l', x ∈ l) : PredEnv W c id l' :=
  ⟨h.cell, h.file, fun x hx => h.files x (hs x hx)⟩

/-- Where the first write of a file lies; -1: none. -/
def idxW (l : List WaitA) (id : Nat) : Int := match l.findIdx? (fun x => x.id == id) with | some i => i | none => -1

theorem idxW_none (l : List WaitA) (id : Nat) (h : ∀ x ∈ l, (x.id == id) = false) : idxW l id = -1 := by
  unfold idxW
  rw [List.findIdx?_eq_none_iff.mpr h]
theorem idxW_at (l : List WaitA) (id k : Nat) (x : WaitA) (hx : l[k]? = some x) (hq : (x.id == id) = true) (h : ∀ y ∈ l.take k, (y.id == id) = false) : idxW l id = (k : Int) := by
  unfold idxW
  have hk : k < l.length := (List.getElem?_eq_some_iff.mp hx).1
  have : l.findIdx? (fun x => x.id == id) = some k := by
    rw [List.findIdx?_eq_some_iff_getElem]
    refine ⟨hk, ?_, fun j hj => ?_⟩
    · rw [(List.getElem?_eq_some_iff.mp hx).2]; exact hq
    · have hm : l[j] ∈ l.take k := by
        rw [List.mem_take_iff_getElem]; exact ⟨j, by omega, rfl⟩
      rw [h _ hm]; simp
  rw [this]

set_option maxRecDepth 100000 in
set_option maxHeartbeats 1000000 in
theorem IndexFuncW (g c id : Nat) (eg : ∀ args w, (callFunc g args).run Try.prog w = .ok (.enter g args) w) (hp : IsPred g c id) (gb cap : Nat) (l : List WaitA) (w : World) (hl : l.length ≤ 9223372036854775807)
    (hr : w.ownsRow 0 127 3 (.slice (some ⟨gb, 0, none⟩) l.length cap) l.length (waitCells l)) (he : PredEnv w c id l) :
    Calls Try.prog 139 #[.slice (some ⟨gb, 0, none⟩) l.length cap, .func (.func g) #[] #[.pointer (some ⟨c, 0, none⟩)]] w fun e w' => e = .returned (.int .i64 (idxW l id)) ∧ Below w.heap.size w w' := by
  have hcells := fun j hj => World.ownsRow.cellAt hr j hj
  have hgl := (World.ownsRow.lt hr gb rfl).2
  obtain ⟨n, hn⟩ : ∃ n, l.length = n := ⟨_, rfl⟩
  rw [hn]
  have hn' := Lib.hid hn
  rw [hn] at hl
  clear hn hr
  go_enter Try.func139, Try.ntmps139
  go_wp2
  go_loopw [8] (fun i wr => ∃ k : Nat, k ≤ n ∧ i = .int .i64 k ∧ Below w.heap.size w wr ∧ Hid (∀ x ∈ l.take k, (x.id == id) = false)) (fun i _ => n - (intOf i).toNat)
  case atStart => exact ⟨0, by omega, rfl, Below.refl _ _, fun x hx => by simp at hx⟩
  case round =>
    obtain ⟨k, hk, rfl, hB, hH⟩ := hrel
    by_cases hkn : k < n
    · have hkl : k < l.length := by rw [hn'.out]; exact hkn
      obtain ⟨x, hx⟩ : ∃ x, l[k]? = some x := ⟨l[k], by simp [hkl]⟩
      have hxm := List.mem_of_getElem? hx
      obtain ⟨q0, q1, q2⟩ := waitCells_at hx
      have d0 := (hB.cell (p := ⟨gb, k * 3, none⟩) hgl).trans ((hcells (k * 3) (by omega)).trans q0)
      have d1 := (hB.cell (p := ⟨gb, k * 3 + 1, none⟩) hgl).trans ((hcells (k * 3 + 1) (by omega)).trans q1)
      have d2 := (hB.cell (p := ⟨gb, k * 3 + 2, none⟩) hgl).trans ((hcells (k * 3 + 2) (by omega)).trans q2)
      have he1 := he.below hB
      obtain ⟨c2, hc2⟩ := he1.file
      obtain ⟨c1, hc1⟩ := he1.files x hxm
      have cp := hp x wr c1 c2 he1.cell hc1 hc2
      unfold ptr at d0
      have hlen : (l.take (k + 1)) = l.take k ++ [x] := by rw [List.take_add_one, hx]; rfl
      have hx' := Lib.hid hx
      clear hx hkl q0 q1 q2 hcells hc1 hc2 hp
      cases hxe : (x.id == id)
      · rw [hxe] at cp
        go_wp2_with (go_at_fn g; refine cp.mono ?_; rintro e w1 ⟨rfl, hb1⟩)
        case roundEnd =>
          go_roundw
          case rel =>
            refine ⟨k + 1, by omega, by go_num, hB.trans (hb1.mono hB.size), fun y hy => ?_⟩
            rw [hlen, List.mem_append] at hy
            rcases hy with hy | hy
            · exact hH.out y hy
            · rw [List.mem_singleton.mp hy]; exact hxe
          case measure => simp [intOf]; omega
      · rw [hxe] at cp
        go_wp2_with (go_at_fn g; refine cp.mono ?_; rintro e w1 ⟨rfl, hb1⟩)
        go_ret
        refine ⟨?_, hB.trans (hb1.mono hB.size)⟩
        rw [idxW_at l id k x hx'.out (by rw [hxe]) hH.out]
        rfl
    · have : k = n := by omega
      subst this
      go_wp2
      go_ret
      refine ⟨?_, hB⟩
      rw [idxW_none l id (by have := hH.out; rwa [List.take_of_length_le (Nat.le_of_eq hn'.out)] at this)]
      rfl
end Go.Proofs.Ytndpmjanflahhaa

/-
  The row of the writes that wait: one written in place; its tail cleared.
-/
namespace Go.Proofs.Ytndpmjanflahhaa
open Go.RowKit Go.MapKept

def WRow (w : World) (g cap : Nat) (m : List WaitA) : Prop := w.ownsRow 0 127 3 (.slice (some ⟨g, 0, none⟩) m.length cap) m.length (waitCells m)

theorem WRow.parts {w : World} {g cap : Nat} {m : List WaitA} (h : WRow w g cap m) : ∃ cur, w.heap[g]? = some (.cells cur 127 (0, 0)) ∧ m.length ≤ cap ∧ cap ≤ maxLen ∧ cur.size = cap * 3 ∧ cur.toList.take (m.length * 3) = waitCells m := by
  obtain ⟨_, ⟨h1, _⟩ | ⟨g', cap', cur, hv, _, h2, h3, h4, h5, h6⟩⟩ := h
  · cases h1
  · cases hv; exact ⟨cur, h2, h3, h4, h5, h6⟩
theorem WRow.mk {w : World} {g cap : Nat} {m : List WaitA} {cur : Array Value} (h : w.heap[g]? = some (.cells cur 127 (0, 0))) (h1 : m.length ≤ cap) (h2 : cap ≤ maxLen) (h3 : cur.size = cap * 3) (h4 : cur.toList.take (m.length * 3) = waitCells m) : WRow w g cap m :=
  ⟨waitCells_len m, .inr ⟨g, cap, cur, rfl, Nat.zero_le _, h, h1, h2, h3, h4⟩⟩
theorem WRow.lt {w : World} {g cap : Nat} {m : List WaitA} (h : WRow w g cap m) : g < w.heap.size := by
  obtain ⟨cur, h1, _⟩ := h.parts; exact (Array.getElem?_eq_some_iff.1 h1).1
theorem WRow.at {w w' : World} {g cap : Nat} {m : List WaitA} (h : WRow w g cap m) (e : w'.heap[g]? = w.heap[g]?) : WRow w' g cap m := by
  obtain ⟨cur, h1, h2, h3, h4, h5⟩ := h.parts; exact .mk (e.trans h1) h2 h3 h4 h5
theorem WRow.cellAt {w : World} {g cap : Nat} {m : List WaitA} (h : WRow w g cap m) {i : Nat} {x : WaitA} (hx : m[i]? = some x) :
    w.cell? ⟨g, i * 3, none⟩ = some (.pointer (some ⟨x.id, 0, none⟩)) ∧ w.cell? ⟨g, i * 3 + 1, none⟩ = some (.int .i64 x.pos) ∧ w.cell? ⟨g, i * 3 + 2, none⟩ = some (.string x.s) := by
  have hi : i < m.length := (List.getElem?_eq_some_iff.1 hx).1
  obtain ⟨q0, q1, q2⟩ := waitCells_at hx
  exact ⟨(World.ownsRow.cellAt h _ (by omega)).trans q0, (World.ownsRow.cellAt h _ (by omega)).trans q1, (World.ownsRow.cellAt h _ (by omega)).trans q2⟩
theorem waitCells_take (m : List WaitA) (i : Nat) : waitCells (m.take i) = (waitCells m).take (i * 3) := by
  induction m generalizing i with
  | nil => simp [waitCells]
  | cons x t ih =>
    cases i with
    | zero => simp [waitCells]
    | succ i =>
      show ptr x.id :: .int .i64 x.pos :: .string x.s :: waitCells (t.take i) = (ptr x.id :: .int .i64 x.pos :: .string x.s :: waitCells t).take ((i + 1) * 3)
      rw [ih, show (i + 1) * 3 = i * 3 + 1 + 1 + 1 by omega, List.take_succ_cons, List.take_succ_cons, List.take_succ_cons]
theorem waitCells_drop (m : List WaitA) (i : Nat) : waitCells (m.drop i) = (waitCells m).drop (i * 3) := by
  induction m generalizing i with
  | nil => simp [waitCells]
  | cons x t ih =>
    cases i with
    | zero => simp [waitCells]
    | succ i =>
      show waitCells (t.drop i) = (ptr x.id :: .int .i64 x.pos :: .string x.s :: waitCells t).drop ((i + 1) * 3)
      rw [ih, show (i + 1) * 3 = i * 3 + 1 + 1 + 1 by omega, List.drop_succ_cons, List.drop_succ_cons, List.drop_succ_cons]
theorem WRow.take {w : World} {g cap : Nat} {m : List WaitA} (h : WRow w g cap m) (i : Nat) : WRow w g cap (m.take i) := by
  obtain ⟨cur, h1, h2, h3, h4, h5⟩ := h.parts
  refine .mk h1 (by rw [List.length_take]; omega) h3 h4 ?_
  rw [waitCells_take, ← h5, List.take_take, List.length_take]
  by_cases hi : i ≤ m.length
  · rw [Nat.min_eq_left hi, Nat.min_eq_left (by omega)]
  · rw [Nat.min_eq_right (by omega : m.length ≤ i), Nat.min_eq_right (by omega)]

theorem setRow_step (w : World) (g : Nat) (cs : Array Value) : Step (· = g) w (· = g) (w.setRow g cs) :=
  ⟨rfl, rfl, rfl, by rw [setRow_size]; exact Nat.le_refl _, fun k _ hne => by simp [World.setRow, Array.getElem?_modify, Ne.symm hne], fun _ h => .inl h⟩
theorem setRow_at (w : World) (g : Nat) (cs cur : Array Value) (T : TypeId) (fr : Nat × Nat) (h : w.heap[g]? = some (.cells cur T fr)) : (w.setRow g cs).heap[g]? = some (.cells cs T fr) := by
  simp [World.setRow, Array.getElem?_modify, h]
theorem waitCells_set (m : List WaitA) (i : Nat) (x : WaitA) (hi : i < m.length) : waitCells (m.set i x) = (waitCells m).take (i * 3) ++ x.cells ++ (waitCells m).drop (i * 3 + 3) := by
  rw [List.set_eq_take_append_cons_drop, if_pos hi]
  show waitCells (m.take i ++ ([x] ++ m.drop (i + 1))) = _
  unfold waitCells
  rw [List.flatMap_append, List.flatMap_append]
  have e1 := waitCells_take m i
  have e2 := waitCells_drop m (i + 1)
  unfold waitCells at e1 e2
  rw [e1, e2, show (i + 1) * 3 = i * 3 + 3 by omega]
  simp

set_option maxRecDepth 100000 in
theorem WRow.store {w : World} {g cap : Nat} {m : List WaitA} (h : WRow w g cap m) {i : Nat} (hi : i < m.length) (x : WaitA) :
    ∃ w2, (Instr.storeAt 127 (.pointer (some ⟨g, i * 3, none⟩)) (.agg #[.pointer (some ⟨x.id, 0, none⟩), .int .i64 x.pos, .string x.s])).run Try.prog w = .ok () w2 ∧ WRow w2 g cap (m.set i x) ∧ Step (· = g) w (· = g) w2 ∧ w2.heap.size = w.heap.size := by
  obtain ⟨cur, h1, h2, h3, h4, h5⟩ := h.parts
  obtain ⟨i0, hi0, hz0, hz1, hz2⟩ := info_parts info_write
  have hst := run_storeCells_off (P := Try.prog) g (i * 3) 127 0 0 x.cells 0 cur w h1 (by show i * 3 + 0 + 3 ≤ _; omega) (by intro v hv; simp [WaitA.cells, ptr] at hv; rcases hv with rfl | rfl | rfl <;> rfl) (.inl rfl)
  refine ⟨w.setRow g (cur.toList.take (i * 3 + 0) ++ x.cells ++ cur.toList.drop (i * 3 + 0 + x.cells.length)).toArray, ?_, ?_, setRow_step w g _, setRow_size _ _ _⟩
  · simp only [Instr.storeAt, Instr.sureAddr, Sem.run_bind, Sem.run_pure, Result.andThen_ok]
    refine Eq.trans ?_ hst
    simp [storeVar, sizeOf, typeInfo, hi0, hz1, Value.cells]
    rfl
  · refine .mk (setRow_at w g _ cur _ _ h1) (by rw [List.length_set]; exact h2) h3 ?_ ?_
    · simp [WaitA.cells]; omega
    · have hlen : (waitCells m).length = m.length * 3 := waitCells_len m
      have hl : x.cells.length = 3 := rfl
      have hs : cur.toList.length = cap * 3 := h4 ▸ Array.length_toList
      rw [waitCells_set m i x hi, List.length_set, ← h5, hl]
      generalize cur.toList = L at *
      simp only [Nat.add_zero, List.toList_toArray]
      have hA : (L.take (i * 3) ++ x.cells).length = i * 3 + 3 := by rw [List.length_append, List.length_take, hl]; omega
      have hT : (L.take (m.length * 3)).take (i * 3) = L.take (i * 3) := by rw [List.take_take, Nat.min_eq_left (by omega)]
      rw [hT]
      generalize L.take (i * 3) ++ x.cells = A at *
      rw [List.take_append, List.take_of_length_le (by omega), hA, List.drop_take]

set_option maxRecDepth 100000 in
theorem WRow.clear {w : World} {g cap : Nat} {m : List WaitA} (h : WRow w g cap m) {i : Nat} (hi : i ≤ m.length) :
    ∃ w2, (∀ ty, (Builtin.clear_ #[118] ty #[.slice (some ⟨g, i * 3, none⟩) (m.length - i) (cap - i)]).run Try.prog w = .ok (.tuple #[]) w2) ∧ WRow w2 g cap (m.take i) ∧ Step (· = g) w (· = g) w2 ∧ w2.heap.size = w.heap.size := by
  by_cases he : i = m.length
  · refine ⟨w, fun ty => ?_, h.take i, Step.refl _ w, rfl⟩
    subst he
    simp [Builtin.clear_, run_underlying Try.underlying118]
  · obtain ⟨cur, h1, h2, h3, h4, h5⟩ := h.parts
    obtain ⟨i0, hi0, hz0, hz1, hz2⟩ := info_parts info_write
    obtain ⟨k, hk⟩ : ∃ k, m.length - i = k + 1 := ⟨m.length - i - 1, by omega⟩
    have hzl : (Builtin.zeroCells #[Value.pointer none, .int .i64 0, .string ByteArray.empty] (k + 1)).toList.length = (k + 1) * 3 := by simp [Builtin.zeroCells]
    have hst := run_storeCells_off (P := Try.prog) g (i * 3) 127 0 0 (Builtin.zeroCells #[Value.pointer none, .int .i64 0, .string ByteArray.empty] (k + 1)).toList 0 cur w h1 (by rw [hzl]; omega)
      (by
        intro v hv
        unfold Builtin.zeroCells at hv
        rw [Array.mem_toList_iff, Array.mem_map] at hv
        obtain ⟨j, _, rfl⟩ := hv
        show (#[Value.pointer none, .int .i64 0, .string ByteArray.empty][j % 3]!).oneCell' = true
        have : j % 3 = 0 ∨ j % 3 = 1 ∨ j % 3 = 2 := by omega
        rcases this with e | e | e <;> rw [e] <;> rfl) (.inl rfl)
    generalize hz : (Builtin.zeroCells #[Value.pointer none, .int .i64 0, .string ByteArray.empty] (k + 1)).toList = zs at hst hzl
    refine ⟨w.setRow g (cur.toList.take (i * 3 + 0) ++ zs ++ cur.toList.drop (i * 3 + 0 + zs.length)).toArray, fun ty => ?_, ?_, setRow_step w g _, setRow_size _ _ _⟩
    · rw [hk]
      have hzr : ∀ w, (zeroValue 127).run Try.prog w = .ok (.agg #[Value.pointer none, .int .i64 0, .string ByteArray.empty]) w := fun w => by
        unfold zeroValue
        rw [Sem.run_bind, run_typeInfo w hi0, Result.andThen_ok, hz0]; rfl
      have hq : (Builtin.clear_ #[118] ty #[.slice (some ⟨g, i * 3, none⟩) (k + 1) (cap - i)]).run Try.prog w = ((storeCells ⟨g, i * 3, none⟩ (Builtin.zeroCells #[Value.pointer none, .int .i64 0, .string ByteArray.empty] (k + 1)).toList).run Try.prog w).andThen fun _ w' => Result.ok (Value.tuple #[]) w' := by
        simp [Builtin.clear_, Sem.run_bind, run_underlying Try.underlying118, Result.andThen_ok, hzr, Value.cells]
      rw [hq, hz, hst]; rfl
    · refine .mk (setRow_at w g _ cur _ _ h1) (by rw [List.length_take]; omega) h3 ?_ ?_
      · rw [List.size_toArray]; simp only [List.length_append, List.length_take, List.length_drop, hzl, Array.length_toList]; omega
      · have hs : cur.toList.length = cap * 3 := h4 ▸ Array.length_toList
        rw [waitCells_take, ← h5, List.length_take, Nat.min_eq_left hi]
        generalize cur.toList = L at *
        simp only [Nat.add_zero]
        rw [List.append_assoc, List.take_append_of_le_length (by rw [List.length_take]; omega), List.take_take, List.take_take, Nat.min_self, Nat.min_eq_left (by omega : i * 3 ≤ m.length * 3)]
end Go.Proofs.Ytndpmjanflahhaa

/-
  slices.DeleteFunc at the writes that wait.
-/
namespace Go.Proofs.Ytndpmjanflahhaa
open Go.RowKit Go.MapKept

/-- The writes that are not of this file. -/
def others (l : List WaitA) (id : Nat) : List WaitA := l.filter (fun x => !(x.id == id))

structure DelI (l m : List WaitA) (id i j : Nat) : Prop where
  len : m.length = l.length
  lt : i < j
  le : j ≤ l.length
  low : m.take i = others (l.take j) id
  high : m.drop j = l.drop j
theorem DelI.at {l m : List WaitA} {id i j : Nat} (h : DelI l m id i j) : m[j]? = l[j]? := by
  have := congrArg (·[0]?) h.high
  simpa using this
theorem take_succ_at {l : List WaitA} {j : Nat} {x : WaitA} (h : l[j]? = some x) : l.take (j + 1) = l.take j ++ [x] := by rw [List.take_add_one, h]; rfl
theorem DelI.keep {l m : List WaitA} {id i j : Nat} (h : DelI l m id i j) {x : WaitA} (hx : l[j]? = some x) (hp : (x.id == id) = false) : DelI l (m.set i x) id (i + 1) (j + 1) := by
  have hj : j < l.length := (List.getElem?_eq_some_iff.1 hx).1
  have h1 := h.lt
  refine ⟨by rw [List.length_set]; exact h.len, by omega, by omega, ?_, ?_⟩
  · have hi : (m.set i x)[i]? = some x := by rw [List.getElem?_set_self (by rw [h.len]; omega)]
    rw [take_succ_at hi, take_succ_at hx, List.take_set_of_le (Nat.le_refl i), h.low]
    unfold others
    rw [List.filter_append]
    simp [hp]
  · rw [List.drop_set_of_lt (by omega), ← List.drop_drop, h.high, List.drop_drop]
theorem DelI.skip {l m : List WaitA} {id i j : Nat} (h : DelI l m id i j) {x : WaitA} (hx : l[j]? = some x) (hp : (x.id == id) = true) : DelI l m id i (j + 1) := by
  have hj : j < l.length := (List.getElem?_eq_some_iff.1 hx).1
  have h1 := h.lt
  refine ⟨h.len, by omega, by omega, ?_, ?_⟩
  · rw [take_succ_at hx, h.low]
    unfold others
    rw [List.filter_append]
    simp [hp]
  · rw [← List.drop_drop, h.high, List.drop_drop]
theorem DelI.start {l : List WaitA} {id k : Nat} {x : WaitA} (hx : l[k]? = some x) (hp : (x.id == id) = true) (h : ∀ y ∈ l.take k, (y.id == id) = false) : DelI l l id k (k + 1) := by
  have hk : k < l.length := (List.getElem?_eq_some_iff.1 hx).1
  refine ⟨rfl, by omega, by omega, ?_, rfl⟩
  rw [take_succ_at hx]
  unfold others
  rw [List.filter_append, List.filter_eq_self.2 (fun y hy => by rw [h y hy]; rfl)]
  simp [hp]
theorem DelI.last {l m : List WaitA} {id i : Nat} (h : DelI l m id i l.length) : m.take i = others l id := by
  rw [h.low, List.take_length]

theorem idxW_cases (l : List WaitA) (id : Nat) : (idxW l id = -1 ∧ others l id = l) ∨ ∃ (k : Nat) (x : WaitA), idxW l id = k ∧ l[k]? = some x ∧ (x.id == id) = true ∧ ∀ y ∈ l.take k, (y.id == id) = false := by
  cases h : l.findIdx? (fun x => x.id == id) with
  | none =>
    left
    rw [List.findIdx?_eq_none_iff] at h
    exact ⟨idxW_none l id h, List.filter_eq_self.2 (fun y hy => by rw [h y hy]; rfl)⟩
  | some k =>
    right
    have h0 := h
    rw [List.findIdx?_eq_some_iff_getElem] at h
    obtain ⟨hk, h1, h2⟩ := h
    refine ⟨k, l[k], by unfold idxW; rw [h0], by simp, h1, fun y hy => ?_⟩
    rw [List.mem_take_iff_getElem] at hy
    obtain ⟨j, hj, rfl⟩ := hy
    have := h2 j (by omega)
    simpa using this

theorem WRow.blk_ne {w : World} {g cap : Nat} {m : List WaitA} (h : WRow w g cap m) {k : Nat} {c : Array Value} {T : TypeId} (hb : Blk w k c T) (hT : T ≠ 127) : k ≠ g := by
  rintro rfl
  obtain ⟨cur, h1, _⟩ := h.parts
  unfold Blk at hb; rw [h1] at hb; injection hb with hb; injection hb with _ hb; exact hT hb.symm

theorem PredEnv.step {W W' : World} {c id g : Nat} {l : List WaitA} (h : PredEnv W c id l) (hs : Step (· = g) W (· = g) W') (hcg : c ≠ g) (hg : ∀ k cs, Blk W k cs 124 → k ≠ g) : PredEnv W' c id l := by
  have hc : c < W.heap.size := World.block_lt_of_cell? _ _ h.cell
  refine ⟨?_, ?_, fun x hx => ?_⟩
  · rw [← h.cell]; simp only [World.cell?]; rw [hs.block c hc hcg]
  · obtain ⟨c2, h2⟩ := h.file; exact ⟨c2, h2.at (hs.block _ h2.lt (hg _ _ h2))⟩
  · obtain ⟨c1, h1⟩ := h.files x hx; exact ⟨c1, h1.at (hs.block _ h1.lt (hg _ _ h1))⟩

theorem waitCells_set3 (m : List WaitA) (i : Nat) (x : WaitA) (hi : i < m.length) : waitCells (m.set i x) = (((waitCells m).set (i * 3) (.pointer (some ⟨x.id, 0, none⟩))).set (i * 3 + 1) (.int .i64 x.pos)).set (i * 3 + 2) (.string x.s) := by
  induction m generalizing i with
  | nil => simp at hi
  | cons y t ih =>
    cases i with
    | zero => simp [waitCells, WaitA.cells, ptr]
    | succ i =>
      show ptr y.id :: .int .i64 y.pos :: .string y.s :: waitCells (t.set i x) = (((ptr y.id :: .int .i64 y.pos :: .string y.s :: waitCells t).set _ _).set _ _).set _ _
      rw [ih i (by simpa using hi), show (i + 1) * 3 = i * 3 + 1 + 1 + 1 by omega, show i * 3 + 1 + 1 + 1 + 1 = (i * 3 + 1) + 1 + 1 + 1 by omega, show i * 3 + 1 + 1 + 1 + 2 = (i * 3 + 2) + 1 + 1 + 1 by omega]
      simp only [List.set_cons_succ]
theorem WRow.set3 {w : World} {g cap : Nat} {m : List WaitA} (h : WRow w g cap m) {i : Nat} (hi : i < m.length) (x : WaitA) :
    WRow (((w.setCell ⟨g, i * 3, none⟩ (.pointer (some ⟨x.id, 0, none⟩))).setCell ⟨g, i * 3 + 1, none⟩ (.int .i64 x.pos)).setCell ⟨g, i * 3 + 2, none⟩ (.string x.s)) g cap (m.set i x) ∧
    Step (· = g) w (· = g) (((w.setCell ⟨g, i * 3, none⟩ (.pointer (some ⟨x.id, 0, none⟩))).setCell ⟨g, i * 3 + 1, none⟩ (.int .i64 x.pos)).setCell ⟨g, i * 3 + 2, none⟩ (.string x.s)) := by
  obtain ⟨cur, h1, h2, h3, h4, h5⟩ := h.parts
  rw [setCell_row w g _ cur _ _ _ h1]
  have k1 := setRow_at w g (cur.setIfInBounds (i * 3) (.pointer (some ⟨x.id, 0, none⟩))) cur _ _ h1
  rw [setCell_row _ g _ _ _ _ _ k1]
  have k2 := setRow_at _ g ((cur.setIfInBounds (i * 3) (.pointer (some ⟨x.id, 0, none⟩))).setIfInBounds (i * 3 + 1) (.int .i64 x.pos)) _ _ _ k1
  rw [setCell_row _ g _ _ _ _ _ k2]
  have k3 := setRow_at _ g (((cur.setIfInBounds (i * 3) (.pointer (some ⟨x.id, 0, none⟩))).setIfInBounds (i * 3 + 1) (.int .i64 x.pos)).setIfInBounds (i * 3 + 2) (.string x.s)) _ _ _ k2
  refine ⟨.mk k3 (by rw [List.length_set]; exact h2) h3 (by simp [h4]) ?_, ((setRow_step w g _).trans (setRow_step _ g _)).trans (setRow_step _ g _)⟩
  rw [waitCells_set3 m i x hi, ← h5, List.length_set]
  simp only [Array.toList_setIfInBounds]
  rw [List.take_set, List.take_set, List.take_set]
theorem WRow.frozen {w : World} {g cap : Nat} {m : List WaitA} (h : WRow w g cap m) (j : Nat) : w.frozen? ⟨g, j, none⟩ = false := by
  obtain ⟨cur, h1, _⟩ := h.parts
  simp [World.frozen?, h1]

set_option maxRecDepth 100000 in
set_option maxHeartbeats 2000000 in
theorem DeleteFuncW (g c id : Nat) (eg : ∀ args w, (callFunc g args).run Try.prog w = .ok (.enter g args) w) (hp : IsPred g c id) (gb cap : Nat) (l : List WaitA) (w : World) (hl : l.length ≤ 9223372036854775807) (hcap : cap ≤ maxLen)
    (hr : WRow w gb cap l) (he : PredEnv w c id l) (hcg : c ≠ gb) :
    Calls Try.prog 118 #[.slice (some ⟨gb, 0, none⟩) l.length cap, .func (.func g) #[] #[.pointer (some ⟨c, 0, none⟩)]] w fun e w' =>
      e = .returned (.slice (some ⟨gb, 0, none⟩) (others l id).length cap) ∧ WRow w' gb cap (others l id) ∧ Step (· = gb) w (· = gb) w' := by
  have hidx := IndexFuncW g c id eg hp gb cap l w hl hr he
  obtain ⟨n, hn⟩ : ∃ n, l.length = n := ⟨_, rfl⟩
  have hcl : n ≤ cap := by obtain ⟨_, _, h, _⟩ := hr.parts; omega
  rw [hn] at hidx ⊢
  have hn' := Lib.hid hn
  rw [hn] at hl
  clear hn
  rcases idxW_cases l id with ⟨h1, h2⟩ | ⟨k, x, h1, h2, h3, h4⟩
  · rw [h1] at hidx
    rw [h2]
    clear h1 h2
    go_enter Try.func118, Try.ntmps118
    go_wp2_with (go_at_call 139; (with_reducible refine hidx.mono ?_); rintro e w1 ⟨rfl, hb1⟩)
    go_ret
    exact ⟨by rw [hn'.out]; rfl, hr.at (hb1.block _ hr.lt), Step.of_below hb1⟩
  · rw [h1] at hidx
    have hk : k < n := by rw [← hn'.out]; exact (List.getElem?_eq_some_iff.1 h2).1
    have hI0 := Lib.hid (DelI.start h2 h3 h4)
    have hkf : ((k : Int) == -1) = false := by rw [beq_eq_false_iff_ne]; omega
    clear h1 h2 h3 h4
    go_enter Try.func118, Try.ntmps118
    go_wp2_with (go_at_call 139; (with_reducible refine hidx.mono ?_); rintro e w1 ⟨rfl, hb1⟩)
    clear hidx
    go_loopw [5, 6] (fun vi vj wr => ∃ (i j : Nat) (m : List WaitA), vi = .int .i64 i ∧ vj = .int .i64 j ∧ i < j ∧ j ≤ n ∧ Hid (DelI l m id i j) ∧ Step (· = gb) w (· = gb) wr ∧ WRow wr gb cap m) (fun _ vj _ => n - (intOf vj).toNat)
    case atStart => exact ⟨k, k + 1, l, rfl, by go_num, by omega, by omega, hI0, Step.of_below hb1, hr.at (hb1.block _ hr.lt)⟩
    case round =>
      obtain ⟨i, j, m, rfl, rfl, hij, hjn, hI, hS, hR⟩ := hrel
      have hml : m.length = n := hI.out.len.trans hn'.out
      by_cases hjl : j < n
      · obtain ⟨x, hx⟩ : ∃ x, l[j]? = some x := ⟨l[j]'(by rw [hn'.out]; exact hjl), by simp⟩
        have hxm := List.mem_of_getElem? hx
        have hxq := Lib.hid hx
        obtain ⟨d0, d1, d2⟩ := hR.cellAt (hI.out.at.trans hx)
        have he1 := he.step hS hcg (fun k cs hk => hr.blk_ne hk (by decide))
        have hgl := hR.lt
        clear hx
        have hBW : Below wr.heap.size wr (wr.alloc (.cells #[.pointer (some ⟨x.id, 0, none⟩), .int .i64 x.pos, .string x.s] 127)) := (Below.refl _ wr).alloc (Nat.le_refl _) _
        have he2 := he1.below hBW
        obtain ⟨c2, hc2⟩ := he2.file
        obtain ⟨c1, hc1⟩ := he2.files x hxm
        have cp := hp x _ c1 c2 he2.cell hc1 hc2
        have hnew : Blk (wr.alloc (.cells #[.pointer (some ⟨x.id, 0, none⟩), .int .i64 x.pos, .string x.s] 127)) wr.heap.size #[.pointer (some ⟨x.id, 0, none⟩), .int .i64 x.pos, .string x.s] 127 := Blk.new _ _ _
        have him : i < m.length := by omega
        obtain ⟨y, hmi⟩ : ∃ y, m[i]? = some y := ⟨m[i], by simp⟩
        clear hc1 hc2 hp he1 he2
        cases hxe : (x.id == id)
        · rw [hxe] at cp
          go_wp2_with (go_at_fn g; refine cp.mono ?_; rintro e w2 ⟨rfl, hb2⟩
                       have hN := hnew.at (hb2.block _ hnew.lt)
                       have n0 : w2.cell? ⟨wr.heap.size, 0, none⟩ = some (.pointer (some ⟨x.id, 0, none⟩)) := hN.cell 0
                       have n1 : w2.cell? ⟨wr.heap.size, 1, none⟩ = some (.int .i64 x.pos) := hN.cell 1
                       have n2 : w2.cell? ⟨wr.heap.size, 2, none⟩ = some (.string x.s) := hN.cell 2
                       have hR2 := hR.at ((hb2.block _ (by simp; omega)).trans (hBW.block _ hgl))
                       obtain ⟨e0, e1, e2⟩ := hR2.cellAt hmi
                       have f0 := hR2.frozen (i * 3)
                       have f1 := hR2.frozen (i * 3 + 1)
                       have f2 := hR2.frozen (i * 3 + 2)
                       clear hN)
          go_roundw
          case rel =>
            refine ⟨i + 1, j + 1, m.set i x, by go_num, by go_num, by omega, by omega, hI.out.keep hxq.out hxe, ?_, (hR2.set3 him x).1⟩
            exact ((hS.trans (Step.of_below hBW)).trans (Step.of_below hb2)).trans (hR2.set3 him x).2
          case measure => simp [intOf]; omega
        · rw [hxe] at cp
          go_wp2_with (go_at_fn g; refine cp.mono ?_; rintro e w2 ⟨rfl, hb2⟩)
          go_roundw
          case rel =>
            refine ⟨i, j + 1, m, rfl, by go_num, by omega, by omega, hI.out.skip hxq.out hxe, (hS.trans (Step.of_below hBW)).trans (Step.of_below hb2), ?_⟩
            exact hR.at ((hb2.block _ (by simp; omega)).trans (hBW.block _ hgl))
          case measure => simp [intOf]; omega
      · have : j = n := by omega
        subst this
        obtain ⟨w3, hcl3, hR3, hS3, hz3⟩ := hR.clear (i := i) (by omega)
        rw [hml] at hcl3
        have hlast := hI.out
        rw [show j = l.length from hn'.out.symm] at hlast
        have hle := hlast.last
        have hlen : (others l id).length = i := by rw [← hle, List.length_take]; omega
        rw [hle] at hR3
        have hH := Lib.hid (And.intro hlen hR3)
        clear hlast hle hR3 hlen
        go_wp2
        go_ret
        exact ⟨by rw [hH.out.1]; rfl, hH.out.2, hS.trans hS3⟩
end Go.Proofs.Ytndpmjanflahhaa

/-
  slices.DeleteFunc at the writes that wait, however they lie.
-/
namespace Go.Proofs.Ytndpmjanflahhaa
open Go.RowKit Go.MapKept

set_option maxRecDepth 100000 in
theorem IndexFuncN (g c : Nat) (w : World) :
    Calls Try.prog 139 #[.slice none 0 0, .func (.func g) #[] #[.pointer (some ⟨c, 0, none⟩)]] w fun e w' => e = .returned (.int .i64 (-1)) ∧ Below w.heap.size w w' := by
  go_enter Try.func139, Try.ntmps139
  go_wp2
  go_loopw [8] (fun i wr => i = .int .i64 0 ∧ Below w.heap.size w wr) (fun i _ => 0)
  case atStart => exact ⟨rfl, Below.refl _ _⟩
  case round =>
    obtain ⟨rfl, hB⟩ := hrel
    go_wp2
    go_ret
    exact ⟨rfl, hB⟩

set_option maxRecDepth 100000 in
theorem DeleteFuncN (g c : Nat) (w : World) :
    Calls Try.prog 118 #[.slice none 0 0, .func (.func g) #[] #[.pointer (some ⟨c, 0, none⟩)]] w fun e w' => e = .returned (.slice none 0 0) ∧ Below w.heap.size w w' := by
  have hidx := IndexFuncN g c w
  go_enter Try.func118, Try.ntmps118
  go_wp2_with (go_at_call 139; (with_reducible refine hidx.mono ?_); rintro e w1 ⟨rfl, hb1⟩)
  go_ret
  exact ⟨rfl, hb1⟩

theorem DeleteFuncV (g c id : Nat) (eg : ∀ args w, (callFunc g args).run Try.prog w = .ok (.enter g args) w) (hp : IsPred g c id) (v : Value) (l : List WaitA) (w : World)
    (hr : w.ownsRow 0 127 3 v l.length (waitCells l)) (he : PredEnv w c id l) (hcg : v.ownBlock ≠ some c) :
    Calls Try.prog 118 #[v, .func (.func g) #[] #[.pointer (some ⟨c, 0, none⟩)]] w fun e w' =>
      ∃ a' n' cap', e = .returned (.slice a' n' cap') ∧ w'.ownsRow 0 127 3 (.slice a' n' cap') (others l id).length (waitCells (others l id)) ∧ Step (fun k => v.ownBlock = some k) w (fun k => v.ownBlock = some k) w' ∧ (Value.slice a' n' cap').ownBlock = v.ownBlock := by
  rcases hr.2 with ⟨rfl, hn⟩ | ⟨gb, cap, cur, rfl, _, h1, h2, h3, h4, h5⟩
  · have : l = [] := List.length_eq_zero_iff.1 hn
    subst this
    refine (DeleteFuncN g c w).mono ?_
    rintro e w' ⟨rfl, hb⟩
    exact ⟨_, _, _, rfl, ⟨rfl, .inl ⟨rfl, rfl⟩⟩, Step.of_below hb, rfl⟩
  · have hml : maxLen = 9223372036854775807 := by decide
    refine (DeleteFuncW g c id eg hp gb cap l w ?_ h3 hr he (fun e => hcg (by rw [e]; rfl))).mono ?_
    · omega
    rintro e w' ⟨rfl, hr', hs⟩
    have e1 : (fun k => (Value.slice (some ⟨gb, 0, none⟩) l.length cap).ownBlock = some k) = (· = gb) := by
      funext k; simp [Value.ownBlock, eq_comm]
    rw [e1]
    exact ⟨_, _, _, rfl, hr', hs, rfl⟩
end Go.Proofs.Ytndpmjanflahhaa

/-
  A file's image written; the waits put anew: how the disk lies behind it.
-/
namespace Go.Proofs.Ytndpmjanflahhaa
open Go.RowKit Go.MapKept

def FileA.setImage (s : ByteArray) (g : FileA) : FileA := { g with image := s }
def DiskA.imaged (D : DiskA) (id : Nat) (s : ByteArray) : DiskA := { D with files := turn D.files id (FileA.setImage s) }
def DiskA.nowed (D : DiskA) (id : Nat) (s : ByteArray) : DiskA := { D with files := turn D.files id (FileA.setNow s) }
def DiskA.waited (D : DiskA) (l : List WaitA) : DiskA := { D with waits := l }

theorem turn_sizes_image (l : List FileA) (id : Nat) (s : ByteArray) : sizes (turn l id (FileA.setImage s)) = sizes l := by
  unfold turn sizes
  rw [List.map_map]
  congr 1
  apply List.map_congr_left
  intro g _
  simp only [Function.comp]
  split <;> rfl

theorem turn_ok {D : DiskA} (h : D.Ok) (id : Nat) (u : FileA → FileA) (hu : ∀ g : FileA, (u g).name = g.name ∧ (u g).id = g.id) (hs : sizes (turn D.files id u) ≤ D.cap) : ({ D with files := turn D.files id u } : DiskA).Ok := by
  refine ⟨?_, ?_, h.left, h.cap, hs, ?_, ?_, ?_⟩
  · show ((turn _ _ _).map _).Nodup
    rw [turn_names _ _ _ (fun g => (hu g).1)]; exact h.names
  · show ((turn _ _ _).map _).Nodup
    rw [turn_ids _ _ _ (fun g => (hu g).2)]; exact h.ids
  · intro x hx
    obtain ⟨g, hg, ⟨_, rfl⟩ | ⟨_, rfl⟩⟩ := turn_mem hx
    · rw [(hu g).1]; exact h.nameLen g hg
    · exact h.nameLen x hg
  · show (turn _ _ _).length ≤ _
    unfold turn; rw [List.length_map]; exact h.files
  · intro x hx
    obtain ⟨g, hg, e⟩ := h.waits x hx
    refine ⟨if g.id = id then u g else g, List.mem_map.2 ⟨g, hg, rfl⟩, ?_⟩
    split
    · rw [(hu g).2]; exact e
    · exact e

/-- One cell of a file's block written. -/
theorem IsDisk.turned {b : Nat} {D : DiskA} {F : Nat → Prop} {w : World} (hd : IsDisk w b D F) {f : FileA} (hf : f ∈ D.files) (i : Nat) (x : ByteArray) (u : FileA → FileA) (hu : ∀ g : FileA, (u g).name = g.name ∧ (u g).id = g.id)
    (hi : ∀ g : FileA, (#[Value.string g.image, .string g.now].setIfInBounds i (.string x)) = #[.string (u g).image, .string (u g).now]) (hs : sizes (turn D.files f.id u) ≤ D.cap) :
    IsDisk (w.setCell ⟨f.id, i, none⟩ (.string x)) b { D with files := turn D.files f.id u } F ∧ Step F w F (w.setCell ⟨f.id, i, none⟩ (.string x)) := by
  obtain ⟨m, v, hb, hm, hr, fm, fg⟩ := hd.head
  have hfb := (hd.files f hf).2
  have hbf : b ≠ f.id := blk_ne hb hfb (by decide)
  have hmf : m ≠ f.id := by
    rintro rfl
    obtain ⟨es, cl, h1, _⟩ := hm
    unfold Blk at hfb; rw [h1] at hfb; cases hfb
  refine ⟨⟨turn_ok hd.ok f.id u hu hs, ⟨m, v, hb.at (setCell_heap _ _ _ _ hbf), ?_, ?_, fm, fg⟩, hd.own, ?_⟩, (Step.refl F w).setCell _ _ (.inl (hd.files f hf).1)⟩
  · show IsMap _ m ((turn _ _ _).map _)
    rw [turn_entries _ _ u hu]
    exact hm.at (setCell_heap _ _ _ _ hmf)
  · refine owns_kept hr (fun g hg => setCell_heap _ _ _ _ ?_)
    rintro rfl
    rcases hr.2 with ⟨h1, _⟩ | ⟨g', cap, cur, hv, _, hh, _⟩
    · rw [h1] at hg; cases hg
    · rw [hv] at hg; simp [Value.ownBlock] at hg; subst hg
      unfold Blk at hfb; rw [hh] at hfb; injection hfb with hfb; injection hfb with _ hfb; exact absurd hfb (by decide)
  · intro y hy
    obtain ⟨g, hg, hcase⟩ := turn_mem hy
    have hgb := (hd.files g hg).2
    rcases hcase with ⟨hid, rfl⟩ | ⟨hid, rfl⟩
    · rw [(hu g).2]
      refine ⟨(hd.files g hg).1, ?_⟩
      have := hgb.set i (.string x)
      rw [hi g, hid] at this
      rw [hid]; exact this
    · exact ⟨(hd.files y hg).1, hgb.at (setCell_heap _ _ _ _ hid)⟩

theorem IsDisk.imaged {b : Nat} {D : DiskA} {F : Nat → Prop} {w : World} (hd : IsDisk w b D F) {f : FileA} (hf : f ∈ D.files) (x : ByteArray) :
    IsDisk (w.setCell ⟨f.id, 0, none⟩ (.string x)) b (D.imaged f.id x) F ∧ Step F w F (w.setCell ⟨f.id, 0, none⟩ (.string x)) :=
  hd.turned hf 0 x (FileA.setImage x) (fun _ => ⟨rfl, rfl⟩) (fun _ => rfl) (by rw [turn_sizes_image]; exact hd.ok.size)
theorem IsDisk.nowed {b : Nat} {D : DiskA} {F : Nat → Prop} {w : World} (hd : IsDisk w b D F) {f : FileA} (hf : f ∈ D.files) (x : ByteArray) (hx : x.size ≤ f.now.size) :
    IsDisk (w.setCell ⟨f.id, 1, none⟩ (.string x)) b (D.nowed f.id x) F ∧ Step F w F (w.setCell ⟨f.id, 1, none⟩ (.string x)) :=
  hd.turned hf 1 x (FileA.setNow x) (fun _ => ⟨rfl, rfl⟩) (fun _ => rfl) (by
    have := turn_sizes hd.ok.ids hf (FileA.setNow x)
    have h3 : sizes D.files ≤ D.cap := hd.ok.size
    have h4 : (FileA.setNow x f).now = x := rfl
    rw [h4] at this
    omega)

theorem owned_ne {w : World} {v : Value} {n : Nat} {xs : List Value} (hr : w.ownsRow 0 127 3 v n xs) {k : Nat} {c : Array Value} {T : TypeId} (h : Blk w k c T) (hT : T ≠ 127) : v.ownBlock ≠ some k := by
  intro e
  rcases hr.2 with ⟨h1, _⟩ | ⟨g, cap, cur, hv, _, hh, _⟩
  · rw [h1] at e; cases e
  · rw [hv] at e; simp [Value.ownBlock] at e; subst e
    unfold Blk at h; rw [hh] at h; injection h with h; injection h with _ h; exact hT h.symm
theorem owned_ne_map {w : World} {v : Value} {n : Nat} {xs : List Value} (hr : w.ownsRow 0 127 3 v n xs) {m : Nat} {l : List (Value × Value)} (h : IsMap w m l) : v.ownBlock ≠ some m := by
  intro e
  rcases hr.2 with ⟨h1, _⟩ | ⟨g, cap, cur, hv, _, hh, _⟩
  · rw [h1] at e; cases e
  · rw [hv] at e; simp [Value.ownBlock] at e; subst e
    obtain ⟨es, cl, h1, _⟩ := h
    rw [h1] at hh; cases hh

/-- The waits put anew. -/
theorem IsDisk.waited {b : Nat} {D : DiskA} {F : Nat → Prop} {w w' : World} (hd : IsDisk w b D F) {m : Nat} {v v' : Value} {l : List WaitA}
    (hb : Blk w b #[.int .i64 D.left, .bool D.down, .map (some m), v, .int .i64 D.cap] 120)
    (hr' : w'.ownsRow 0 127 3 v' l.length (waitCells l)) (hs : Step (fun k => v.ownBlock = some k) w (fun k => v.ownBlock = some k) w') (hv : v'.ownBlock = v.ownBlock)
    (hl : ∀ x ∈ l, ∃ f ∈ D.files, f.id = x.id) :
    IsDisk (w'.setCell ⟨b, 3, none⟩ v') b (D.waited l) F ∧ Step F w F (w'.setCell ⟨b, 3, none⟩ v') := by
  obtain ⟨m2, v2, hb2, hm, hr, fm, fg⟩ := hd.head
  have heq : m2 = m ∧ v2 = v := by
    unfold Blk at hb hb2; rw [hb] at hb2; injection hb2 with hb2; injection hb2 with hb2; simp at hb2; exact ⟨hb2.1.symm, hb2.2.symm⟩
  obtain ⟨rfl, rfl⟩ := heq
  have keep : ∀ k, k < w.heap.size → v2.ownBlock ≠ some k → w'.heap[k]? = w.heap[k]? := fun k hk hne => hs.block k hk hne
  have hbw := hb.at (keep b hb.lt (owned_ne hr hb (by decide)))
  have hbm : m2 ≠ b := by
    rintro rfl
    obtain ⟨es, cl, h1, _⟩ := hm
    unfold Blk at hb; rw [h1] at hb; cases hb
  have hok := hd.ok
  refine ⟨⟨⟨hok.names, hok.ids, hok.left, hok.cap, hok.size, hok.nameLen, hok.files, hl⟩, ⟨m2, v', hbw.set 3 v', ?_, ?_, fm, ?_⟩, hd.own, ?_⟩, ?_⟩
  · exact hm.at ((setCell_heap _ _ _ _ hbm).trans (keep m2 hm.lt (owned_ne_map hr hm)))
  · refine owns_kept hr' (fun g hg => setCell_heap _ _ _ _ ?_)
    rintro rfl
    rcases hr'.2 with ⟨h1, _⟩ | ⟨g', cap, cur, hv2, _, hh, _⟩
    · rw [h1] at hg; cases hg
    · rw [hv2] at hg; simp [Value.ownBlock] at hg; subst hg
      unfold Blk at hbw; rw [hh] at hbw; injection hbw with hbw; injection hbw with _ hbw; exact absurd hbw (by decide)
  · intro g hg; exact fg g (hv ▸ hg)
  · intro f hf
    have hfb := (hd.files f hf).2
    exact ⟨(hd.files f hf).1, hfb.at ((setCell_heap _ _ _ _ (fun e => blk_ne hb hfb (by decide) e.symm)).trans (keep f.id hfb.lt (owned_ne hr hfb (by decide))))⟩
  · refine ⟨hs.os, hs.tape, hs.output, by rw [setCell_size]; exact hs.size, ?_, fun k hk => .inl hk⟩
    intro k hk hnf
    have h1 : k ≠ b := by rintro rfl; exact hnf hd.own
    rw [setCell_heap _ _ _ _ h1, keep k hk (fun e => hnf (fg k e))]
end Go.Proofs.Ytndpmjanflahhaa

/-
  (*disk.Disk).lasts: of each file named the image is what it has, none of its writes waits.
-/
namespace Go.Proofs.Ytndpmjanflahhaa
open Go.RowKit Go.MapKept

def DiskA.last1 (D : DiskA) (f : FileA) : DiskA := (D.imaged f.id f.now).waited (others D.waits f.id)
def DiskA.lastOf (D : DiskA) (s : ByteArray) : DiskA := match findF D.files s with | some f => D.last1 f | none => D
def DiskA.lasts (D : DiskA) (ss : List ByteArray) : DiskA := ss.foldl DiskA.lastOf D

theorem findF_turn {l : List FileA} {id : Nat} {u : FileA → FileA} (hu : ∀ g, (u g).name = g.name) (s : ByteArray) : (findF (turn l id u) s) = (findF l s).map (fun g => if g.id = id then u g else g) := by
  unfold findF turn
  induction l with
  | nil => rfl
  | cons x t ih =>
    have hn : (if x.id = id then u x else x).name = x.name := by split; exact hu x; rfl
    simp only [List.map_cons, List.find?_cons, hn]
    cases x.name == s
    · exact ih
    · rfl
theorem lastOf_some (D : DiskA) (s t : ByteArray) : (findF (D.lastOf s).files t).isSome = (findF D.files t).isSome := by
  unfold DiskA.lastOf
  split
  · rename_i f _
    show (findF (turn _ _ _) t).isSome = _
    rw [findF_turn (u := FileA.setImage f.now) (fun _ => rfl)]; simp
  · rfl
theorem lasts_some (ss : List ByteArray) (D : DiskA) (t : ByteArray) : (findF (D.lasts ss).files t).isSome = (findF D.files t).isSome := by
  induction ss generalizing D with
  | nil => rfl
  | cons x l ih => show (findF ((D.lastOf x).lasts l).files t).isSome = _; rw [ih, lastOf_some]
theorem lasts_snoc (D : DiskA) (ss : List ByteArray) (s : ByteArray) : D.lasts (ss ++ [s]) = (D.lasts ss).lastOf s := by unfold DiskA.lasts; rw [List.foldl_append]; rfl

theorem take_succ_strs {l : List ByteArray} {j : Nat} {x : ByteArray} (h : l[j]? = some x) : l.take (j + 1) = l.take j ++ [x] := by rw [List.take_add_one, h]; rfl
/-- One's own blocks all lie there. -/
theorem IsDisk.tight {w : World} {b : Nat} {D : DiskA} {F : Nat → Prop} (h : IsDisk w b D F) : IsDisk w b D (fun k => F k ∧ k < w.heap.size) := by
  obtain ⟨ok, ⟨m, v, hb, hm, hr, fm, fg⟩, fb, hf⟩ := h
  exact ⟨ok, ⟨m, v, hb, hm, hr, ⟨fm, hm.lt⟩, fun g hg => ⟨fg g hg, (World.ownsRow.lt hr g hg).2⟩⟩, ⟨fb, hb.lt⟩, fun f hfm => ⟨⟨(hf f hfm).1, (hf f hfm).2.lt⟩, (hf f hfm).2⟩⟩
theorem StrSl.kept {w w' : World} {a : Option Addr} {ss : List ByteArray} (h : StrSl w a ss) (hk : ∀ x, a = some x → w'.heap[x.block]? = w.heap[x.block]?) : StrSl w' a ss := by
  intro i s hi
  obtain ⟨b, off, ha, hc⟩ := h i s hi
  refine ⟨b, off, ha, ?_⟩
  rw [← hc]; simp only [World.cell?]; rw [hk _ ha]
theorem StrSl.lt {w : World} {a : Option Addr} {ss : List ByteArray} (h : StrSl w a ss) (hne : 0 < ss.length) {x : Addr} (hx : a = some x) : x.block < w.heap.size := by
  obtain ⟨b, off, ha, hc⟩ := h 0 ss[0] (by simp [hne])
  rw [ha] at hx; cases hx
  exact World.block_lt_of_cell? _ _ hc
theorem StrSl.step {F F' : Nat → Prop} {w w' : World} {a : Option Addr} {ss : List ByteArray} (h : StrSl w a ss) (hs : Step F w F' w') (hF : 0 < ss.length → ∀ x, a = some x → ¬ F x.block) : StrSl w' a ss := by
  intro i s hi
  have hlt : ∀ x, a = some x → x.block < w.heap.size := fun x hx => h.lt (by have := (List.getElem?_eq_some_iff.1 hi).1; omega) hx
  exact h.kept (fun x hx => hs.block _ (hlt x hx) (hF (by have := (List.getElem?_eq_some_iff.1 hi).1; omega) x hx)) i s hi

theorem run_enter {P : Program} {f : FuncId} {fn : Func} {c : Code} (hf : P.funcs[f]? = some fn) (hname : (fn.name == "runtime.NumGoroutine") = false) (hb : fn.body = some c) (args : Array Value) (w : World) :
    (callFunc f args).run P w = .ok (.enter f args) w := by
  have h1 : fn.name ≠ "runtime.NumGoroutine" := by simpa using hname
  simp [callFunc, hf, h1, hb]
theorem enter_lasts1 (args : Array Value) (w : World) : (callFunc 119 args).run Try.prog w = .ok (.enter 119 args) w :=
  run_enter Try.func119 (by kernel_rfl) rfl args w

set_option maxRecDepth 100000 in
set_option maxHeartbeats 2000000 in
theorem lasts_any (b : Nat) (D : DiskA) (F : Nat → Prop) (w : World) (h : IsDisk w b D F) (a : Option Addr) (cap : Nat) (ss : List ByteArray) (hl : ss.length ≤ 1000000) (hr : StrSl w a ss) (hF : 0 < ss.length → ∀ x, a = some x → ¬ F x.block)
    (hall : ∀ s ∈ ss, (findF D.files s).isSome = true) :
    Calls Try.prog 87 #[ptr b, .slice a ss.length cap] w fun e w' => e = .returned (.tuple #[]) ∧ IsDisk w' b (D.lasts ss) F ∧ Step F w F w' := by
  obtain ⟨n, hn⟩ : ∃ n, ss.length = n := ⟨_, rfl⟩
  rw [hn]
  have hn' := Lib.hid hn
  rw [hn] at hl
  clear hn
  unfold ptr
  go_enter Try.func87, Try.ntmps87
  go_wp2
  go_loopw [9] (fun i wr => ∃ k : Nat, k ≤ n ∧ i = .int .i64 k ∧ IsDisk wr b (D.lasts (ss.take k)) F ∧ Step F w F wr) (fun i _ => n - (intOf i).toNat)
  case atStart => exact ⟨0, by omega, rfl, h, Step.refl F _⟩
  case round =>
    obtain ⟨k, hk, rfl, hd, hS⟩ := hrel
    by_cases hkn : k < n
    · have hkl : k < ss.length := by rw [hn'.out]; exact hkn
      have hr2 := hr.step hS hF
      obtain ⟨b', off, rfl, hcell⟩ := hr2.at (by omega)
      obtain ⟨s, hs⟩ : ∃ s, ss[k]? = some s := ⟨ss[k], by simp [hkl]⟩
      have hc := hcell k s hs
      have hst := Lib.hid (lasts_snoc D (ss.take k) s)
      have htk : Hid (ss.take (k + 1) = ss.take k ++ [s]) := take_succ_strs hs
      have hsome : (findF (D.lasts (ss.take k)).files s).isSome = true := by rw [lasts_some]; exact hall s (List.mem_of_getElem? hs)
      obtain ⟨f, hf⟩ := Option.isSome_iff_exists.1 hsome
      have hlo : Hid ((D.lasts (ss.take k)).lastOf s = (D.lasts (ss.take k)).last1 f) := by show _ = _; unfold DiskA.lastOf; rw [hf]
      clear hs hcell hr2 hkl hsome hall
      generalize D.lasts (ss.take k) = Dk at *
      obtain ⟨m, v, hb, hm, hrow, fm, fg⟩ := hd.head
      have c2 : wr.cell? ⟨b, 2, none⟩ = some (.map (some m)) := hb.cell 2
      have hlk := run_look hd.ok.names hm s
      unfold lookV at hlk
      rw [hf] at hlk
      unfold ptr at hlk
      dsimp only at hlk
      have hfm := (findF_some hf).1
      clear hf
      have hfb := (hd.files f hfm).2
      have k0 : wr.cell? ⟨f.id, 0, none⟩ = some (.string f.image) := hfb.cell 0
      have k1 : wr.cell? ⟨f.id, 1, none⟩ = some (.string f.now) := hfb.cell 1
      have kf := hfb.frozen 0
      have hfl := hfb.lt
      clear hb hm hrow fm fg hfb
      go_wp2
      have hB1 : Below wr.heap.size wr (wr.alloc (.cells #[.pointer (some ⟨f.id, 0, none⟩)] 121)) := (Below.refl _ wr).alloc (Nat.le_refl _) _
      have hN1 : Blk (wr.alloc (.cells #[.pointer (some ⟨f.id, 0, none⟩)] 121)) wr.heap.size #[.pointer (some ⟨f.id, 0, none⟩)] 121 := Blk.new _ _ _
      have hsz1 : (wr.alloc (.cells #[.pointer (some ⟨f.id, 0, none⟩)] 121)).heap.size = wr.heap.size + 1 := by simp
      clear k0 k1 kf c2
      generalize wr.alloc (.cells #[.pointer (some ⟨f.id, 0, none⟩)] 121) = W1 at *
      have hd1 := hd.below hB1
      have hfb := (hd1.files f hfm).2
      have k0 : W1.cell? ⟨f.id, 0, none⟩ = some (.string f.image) := hfb.cell 0
      have k1 : W1.cell? ⟨f.id, 1, none⟩ = some (.string f.now) := hfb.cell 1
      have kf := hfb.frozen 0
      have kc : W1.cell? ⟨wr.heap.size, 0, none⟩ = some (.pointer (some ⟨f.id, 0, none⟩)) := hN1.cell 0
      obtain ⟨hd2, hS2⟩ := hd1.imaged hfm f.now
      have hBd : Below (W1.setCell ⟨f.id, 0, none⟩ (.string f.now)).heap.size (W1.setCell ⟨f.id, 0, none⟩ (.string f.now)) (W1.setCell ⟨f.id, 0, none⟩ (.string f.now)).drew := (Below.refl _ _).drew
      have hN2 := (hN1.at (setCell_heap W1 ⟨f.id, 0, none⟩ (.string f.now) _ (show wr.heap.size ≠ f.id by omega))).at (hBd.block _ (by rw [setCell_size]; omega))
      have hd2 := hd2.below hBd
      have hS2 := hS2.trans (Step.of_below (F := F) hBd)
      obtain ⟨m', v, hb, hm, hrow, fm, fg⟩ := hd2.head
      have c3 : (W1.setCell ⟨f.id, 0, none⟩ (.string f.now)).drew.cell? ⟨b, 3, none⟩ = some v := hb.cell 3
      have c3' : (W1.setCell ⟨f.id, 0, none⟩ (.string f.now)).cell? ⟨b, 3, none⟩ = some v := c3
      have hfs : ∀ g ∈ Dk.files, ∃ c1, Blk (W1.setCell ⟨f.id, 0, none⟩ (.string f.now)).drew g.id c1 124 := by
        intro g hg
        have : (if g.id = f.id then FileA.setImage f.now g else g) ∈ (Dk.imaged f.id f.now).files := List.mem_map.2 ⟨g, hg, rfl⟩
        have h2 := (hd2.files _ this).2
        split at h2 <;> exact ⟨_, h2⟩
      have hpe : PredEnv (W1.setCell ⟨f.id, 0, none⟩ (.string f.now)).drew wr.heap.size f.id Dk.waits := by
        refine ⟨hN2.cell 0, hfs f hfm, fun x hx => ?_⟩
        obtain ⟨g, hg, e⟩ := hd.ok.waits x hx
        rw [← e]; exact hfs g hg
      have cD := DeleteFuncV 119 wr.heap.size f.id enter_lasts1 (lasts1_pred _ _) v Dk.waits _ hrow hpe (owned_ne hrow hN2 (by decide))
      have hob := owned_ne hrow hb (by decide)
      have hbl := hb.lt
      have hbH := Lib.hid hb
      have hows : ∀ x ∈ others Dk.waits f.id, ∃ g ∈ (Dk.imaged f.id f.now).files, g.id = x.id := fun x hx => hd2.ok.waits x (List.mem_filter.1 hx).1
      clear hb hm hrow fm fg hfs hpe hfb hN1 hN2
      go_region
      go_wp2_with (go_at_call 118; (with_reducible refine cD.mono ?_); rintro e w3 ⟨a', n', cap', rfl, hr3, hS3, ho3⟩
                   have hb3 := hbH.out.at (hS3.block _ hbl hob)
                   have e3 : w3.cell? ⟨b, 3, none⟩ = some v := hb3.cell 3
                   have f3 := hb3.frozen 3
                   clear hb3)
      go_roundw
      case rel =>
        obtain ⟨hd4, hS4⟩ := hd2.waited hbH.out hr3 hS3 ho3 hows
        refine ⟨k + 1, by omega, by go_num, ?_, ((hS.trans (Step.of_below hB1)).trans hS2).trans hS4⟩
        rw [htk.out, hst.out, hlo.out]
        exact hd4
      case measure => simp [intOf]; omega
    · have : k = n := by omega
      subst this
      rw [List.take_of_length_le (Nat.le_of_eq hn'.out)] at hd
      go_wp2
      go_end0
      exact ⟨rfl, hd, hS⟩
end Go.Proofs.Ytndpmjanflahhaa
