/-
  slices.DeleteFunc at the writes that wait.
-/
import Derived.Test.YtndpmjanflahhaaDk15
namespace Go.Proofs.Ytndpmjanflahhaa
open Go.RowKit Go.MapKept

/-- The writes that are not of this file. -/
def others (l : List WaitA) (id : Nat) : List WaitA := l.filter (fun x => !(x.id == id))

structure DelI (l m : List WaitA) (id i j : Nat) : Prop where
  len : m.length = l.length
  lt : i < j
  le : j ≤ l.length
  low : m.take i = others (l.take j) id
  high : m.drop j = l.drop j
theorem DelI.at {l m : List WaitA} {id i j : Nat} (h : DelI l m id i j) : m[j]? = l[j]? := by
  have := congrArg (·[0]?) h.high
  simpa using this
theorem take_succ_at {l : List WaitA} {j : Nat} {x : WaitA} (h : l[j]? = some x) : l.take (j + 1) = l.take j ++ [x] := by rw [List.take_add_one, h]; rfl
theorem DelI.keep {l m : List WaitA} {id i j : Nat} (h : DelI l m id i j) {x : WaitA} (hx : l[j]? = some x) (hp : (x.id == id) = false) : DelI l (m.set i x) id (i + 1) (j + 1) := by
  have hj : j < l.length := (List.getElem?_eq_some_iff.1 hx).1
  have h1 := h.lt
  refine ⟨by rw [List.length_set]; exact h.len, by omega, by omega, ?_, ?_⟩
  · have hi : (m.set i x)[i]? = some x := by rw [List.getElem?_set_self (by rw [h.len]; omega)]
    rw [take_succ_at hi, take_succ_at hx, List.take_set_of_le (Nat.le_refl i), h.low]
    unfold others
    rw [List.filter_append]
    simp [hp]
  · rw [List.drop_set_of_lt (by omega), ← List.drop_drop, h.high, List.drop_drop]
theorem DelI.skip {l m : List WaitA} {id i j : Nat} (h : DelI l m id i j) {x : WaitA} (hx : l[j]? = some x) (hp : (x.id == id) = true) : DelI l m id i (j + 1) := by
  have hj : j < l.length := (List.getElem?_eq_some_iff.1 hx).1
  have h1 := h.lt
  refine ⟨h.len, by omega, by omega, ?_, ?_⟩
  · rw [take_succ_at hx, h.low]
    unfold others
    rw [List.filter_append]
    simp [hp]
  · rw [← List.drop_drop, h.high, List.drop_drop]
theorem DelI.start {l : List WaitA} {id k : Nat} {x : WaitA} (hx : l[k]? = some x) (hp : (x.id == id) = true) (h : ∀ y ∈ l.take k, (y.id == id) = false) : DelI l l id k (k + 1) := by
  have hk : k < l.length := (List.getElem?_eq_some_iff.1 hx).1
  refine ⟨rfl, by omega, by omega, ?_, rfl⟩
  rw [take_succ_at hx]
  unfold others
  rw [List.filter_append, List.filter_eq_self.2 (fun y hy => by rw [h y hy]; rfl)]
  simp [hp]
theorem DelI.last {l m : List WaitA} {id i : Nat} (h : DelI l m id i l.length) : m.take i = others l id := by
  rw [h.low, List.take_length]

theorem idxW_cases (l : List WaitA) (id : Nat) : (idxW l id = -1 ∧ others l id = l) ∨ ∃ (k : Nat) (x : WaitA), idxW l id = k ∧ l[k]? = some x ∧ (x.id == id) = true ∧ ∀ y ∈ l.take k, (y.id == id) = false := by
  cases h : l.findIdx? (fun x => x.id == id) with
  | none =>
    left
    rw [List.findIdx?_eq_none_iff] at h
    exact ⟨idxW_none l id h, List.filter_eq_self.2 (fun y hy => by rw [h y hy]; rfl)⟩
  | some k =>
    right
    have h0 := h
    rw [List.findIdx?_eq_some_iff_getElem] at h
    obtain ⟨hk, h1, h2⟩ := h
    refine ⟨k, l[k], by unfold idxW; rw [h0], by simp, h1, fun y hy => ?_⟩
    rw [List.mem_take_iff_getElem] at hy
    obtain ⟨j, hj, rfl⟩ := hy
    have := h2 j (by omega)
    simpa using this

theorem WRow.blk_ne {w : World} {g cap : Nat} {m : List WaitA} (h : WRow w g cap m) {k : Nat} {c : Array Value} {T : TypeId} (hb : Blk w k c T) (hT : T ≠ 127) : k ≠ g := by
  rintro rfl
  obtain ⟨cur, h1, _⟩ := h.parts
  unfold Blk at hb; rw [h1] at hb; injection hb with hb; injection hb with _ hb; exact hT hb.symm

theorem PredEnv.step {W W' : World} {c id g : Nat} {l : List WaitA} (h : PredEnv W c id l) (hs : Step (· = g) W (· = g) W') (hcg : c ≠ g) (hg : ∀ k cs, Blk W k cs 124 → k ≠ g) : PredEnv W' c id l := by
  have hc : c < W.heap.size := World.block_lt_of_cell? _ _ h.cell
  refine ⟨?_, ?_, fun x hx => ?_⟩
  · rw [← h.cell]; simp only [World.cell?]; rw [hs.block c hc hcg]
  · obtain ⟨c2, h2⟩ := h.file; exact ⟨c2, h2.at (hs.block _ h2.lt (hg _ _ h2))⟩
  · obtain ⟨c1, h1⟩ := h.files x hx; exact ⟨c1, h1.at (hs.block _ h1.lt (hg _ _ h1))⟩

theorem waitCells_set3 (m : List WaitA) (i : Nat) (x : WaitA) (hi : i < m.length) : waitCells (m.set i x) = (((waitCells m).set (i * 3) (.pointer (some ⟨x.id, 0, none⟩))).set (i * 3 + 1) (.int .i64 x.pos)).set (i * 3 + 2) (.string x.s) := by
  induction m generalizing i with
  | nil => simp at hi
  | cons y t ih =>
    cases i with
    | zero => simp [waitCells, WaitA.cells, ptr]
    | succ i =>
      show ptr y.id :: .int .i64 y.pos :: .string y.s :: waitCells (t.set i x) = (((ptr y.id :: .int .i64 y.pos :: .string y.s :: waitCells t).set _ _).set _ _).set _ _
      rw [ih i (by simpa using hi), show (i + 1) * 3 = i * 3 + 1 + 1 + 1 by omega, show i * 3 + 1 + 1 + 1 + 1 = (i * 3 + 1) + 1 + 1 + 1 by omega, show i * 3 + 1 + 1 + 1 + 2 = (i * 3 + 2) + 1 + 1 + 1 by omega]
      simp only [List.set_cons_succ]
theorem WRow.set3 {w : World} {g cap : Nat} {m : List WaitA} (h : WRow w g cap m) {i : Nat} (hi : i < m.length) (x : WaitA) :
    WRow (((w.setCell ⟨g, i * 3, none⟩ (.pointer (some ⟨x.id, 0, none⟩))).setCell ⟨g, i * 3 + 1, none⟩ (.int .i64 x.pos)).setCell ⟨g, i * 3 + 2, none⟩ (.string x.s)) g cap (m.set i x) ∧
    Step (· = g) w (· = g) (((w.setCell ⟨g, i * 3, none⟩ (.pointer (some ⟨x.id, 0, none⟩))).setCell ⟨g, i * 3 + 1, none⟩ (.int .i64 x.pos)).setCell ⟨g, i * 3 + 2, none⟩ (.string x.s)) := by
  obtain ⟨cur, h1, h2, h3, h4, h5⟩ := h.parts
  rw [setCell_row w g _ cur _ _ _ h1]
  have k1 := setRow_at w g (cur.setIfInBounds (i * 3) (.pointer (some ⟨x.id, 0, none⟩))) cur _ _ h1
  rw [setCell_row _ g _ _ _ _ _ k1]
  have k2 := setRow_at _ g ((cur.setIfInBounds (i * 3) (.pointer (some ⟨x.id, 0, none⟩))).setIfInBounds (i * 3 + 1) (.int .i64 x.pos)) _ _ _ k1
  rw [setCell_row _ g _ _ _ _ _ k2]
  have k3 := setRow_at _ g (((cur.setIfInBounds (i * 3) (.pointer (some ⟨x.id, 0, none⟩))).setIfInBounds (i * 3 + 1) (.int .i64 x.pos)).setIfInBounds (i * 3 + 2) (.string x.s)) _ _ _ k2
  refine ⟨.mk k3 (by rw [List.length_set]; exact h2) h3 (by simp [h4]) ?_, ((setRow_step w g _).trans (setRow_step _ g _)).trans (setRow_step _ g _)⟩
  rw [waitCells_set3 m i x hi, ← h5, List.length_set]
  simp only [Array.toList_setIfInBounds]
  rw [List.take_set, List.take_set, List.take_set]
theorem WRow.frozen {w : World} {g cap : Nat} {m : List WaitA} (h : WRow w g cap m) (j : Nat) : w.frozen? ⟨g, j, none⟩ = false := by
  obtain ⟨cur, h1, _⟩ := h.parts
  simp [World.frozen?, h1]

set_option maxRecDepth 100000 in
set_option maxHeartbeats 2000000 in
theorem DeleteFuncW (g c id : Nat) (eg : ∀ args w, (callFunc g args).run Try.prog w = .ok (.enter g args) w) (hp : IsPred g c id) (gb cap : Nat) (l : List WaitA) (w : World) (hl : l.length ≤ 9223372036854775807) (hcap : cap ≤ maxLen)
    (hr : WRow w gb cap l) (he : PredEnv w c id l) (hcg : c ≠ gb) :
    Calls Try.prog 118 #[.slice (some ⟨gb, 0, none⟩) l.length cap, .func (.func g) #[] #[.pointer (some ⟨c, 0, none⟩)]] w fun e w' =>
      e = .returned (.slice (some ⟨gb, 0, none⟩) (others l id).length cap) ∧ WRow w' gb cap (others l id) ∧ Step (· = gb) w (· = gb) w' := by
  have hidx := IndexFuncW g c id eg hp gb cap l w hl hr he
  obtain ⟨n, hn⟩ : ∃ n, l.length = n := ⟨_, rfl⟩
  have hcl : n ≤ cap := by obtain ⟨_, _, h, _⟩ := hr.parts; omega
  rw [hn] at hidx ⊢
  have hn' := Lib.hid hn
  rw [hn] at hl
  clear hn
  rcases idxW_cases l id with ⟨h1, h2⟩ | ⟨k, x, h1, h2, h3, h4⟩
  · rw [h1] at hidx
    rw [h2]
    clear h1 h2
    go_enter Try.func118, Try.ntmps118
    go_wp2_with (go_at_call 139; (with_reducible refine hidx.mono ?_); rintro e w1 ⟨rfl, hb1⟩)
    go_ret
    exact ⟨by rw [hn'.out]; rfl, hr.at (hb1.block _ hr.lt), Step.of_below hb1⟩
  · rw [h1] at hidx
    have hk : k < n := by rw [← hn'.out]; exact (List.getElem?_eq_some_iff.1 h2).1
    have hI0 := Lib.hid (DelI.start h2 h3 h4)
    have hkf : ((k : Int) == -1) = false := by rw [beq_eq_false_iff_ne]; omega
    clear h1 h2 h3 h4
    go_enter Try.func118, Try.ntmps118
    go_wp2_with (go_at_call 139; (with_reducible refine hidx.mono ?_); rintro e w1 ⟨rfl, hb1⟩)
    clear hidx
    go_loopw [5, 6] (fun vi vj wr => ∃ (i j : Nat) (m : List WaitA), vi = .int .i64 i ∧ vj = .int .i64 j ∧ i < j ∧ j ≤ n ∧ Hid (DelI l m id i j) ∧ Step (· = gb) w (· = gb) wr ∧ WRow wr gb cap m) (fun _ vj _ => n - (intOf vj).toNat)
    case atStart => exact ⟨k, k + 1, l, rfl, by go_num, by omega, by omega, hI0, Step.of_below hb1, hr.at (hb1.block _ hr.lt)⟩
    case round =>
      obtain ⟨i, j, m, rfl, rfl, hij, hjn, hI, hS, hR⟩ := hrel
      have hml : m.length = n := hI.out.len.trans hn'.out
      by_cases hjl : j < n
      · obtain ⟨x, hx⟩ : ∃ x, l[j]? = some x := ⟨l[j]'(by rw [hn'.out]; exact hjl), by simp⟩
        have hxm := List.mem_of_getElem? hx
        have hxq := Lib.hid hx
        obtain ⟨d0, d1, d2⟩ := hR.cellAt (hI.out.at.trans hx)
        have he1 := he.step hS hcg (fun k cs hk => hr.blk_ne hk (by decide))
        have hgl := hR.lt
        clear hx
        have hBW : Below wr.heap.size wr (wr.alloc (.cells #[.pointer (some ⟨x.id, 0, none⟩), .int .i64 x.pos, .string x.s] 127)) := (Below.refl _ wr).alloc (Nat.le_refl _) _
        have he2 := he1.below hBW
        obtain ⟨c2, hc2⟩ := he2.file
        obtain ⟨c1, hc1⟩ := he2.files x hxm
        have cp := hp x _ c1 c2 he2.cell hc1 hc2
        have hnew : Blk (wr.alloc (.cells #[.pointer (some ⟨x.id, 0, none⟩), .int .i64 x.pos, .string x.s] 127)) wr.heap.size #[.pointer (some ⟨x.id, 0, none⟩), .int .i64 x.pos, .string x.s] 127 := Blk.new _ _ _
        have him : i < m.length := by omega
        obtain ⟨y, hmi⟩ : ∃ y, m[i]? = some y := ⟨m[i], by simp⟩
        clear hc1 hc2 hp he1 he2
        cases hxe : (x.id == id)
        · rw [hxe] at cp
          go_wp2_with (go_at_fn g; refine cp.mono ?_; rintro e w2 ⟨rfl, hb2⟩
                       have hN := hnew.at (hb2.block _ hnew.lt)
                       have n0 : w2.cell? ⟨wr.heap.size, 0, none⟩ = some (.pointer (some ⟨x.id, 0, none⟩)) := hN.cell 0
                       have n1 : w2.cell? ⟨wr.heap.size, 1, none⟩ = some (.int .i64 x.pos) := hN.cell 1
                       have n2 : w2.cell? ⟨wr.heap.size, 2, none⟩ = some (.string x.s) := hN.cell 2
                       have hR2 := hR.at ((hb2.block _ (by simp; omega)).trans (hBW.block _ hgl))
                       obtain ⟨e0, e1, e2⟩ := hR2.cellAt hmi
                       have f0 := hR2.frozen (i * 3)
                       have f1 := hR2.frozen (i * 3 + 1)
                       have f2 := hR2.frozen (i * 3 + 2)
                       clear hN)
          go_roundw
          case rel =>
            refine ⟨i + 1, j + 1, m.set i x, by go_num, by go_num, by omega, by omega, hI.out.keep hxq.out hxe, ?_, (hR2.set3 him x).1⟩
            exact ((hS.trans (Step.of_below hBW)).trans (Step.of_below hb2)).trans (hR2.set3 him x).2
          case measure => simp [intOf]; omega
        · rw [hxe] at cp
          go_wp2_with (go_at_fn g; refine cp.mono ?_; rintro e w2 ⟨rfl, hb2⟩)
          go_roundw
          case rel =>
            refine ⟨i, j + 1, m, rfl, by go_num, by omega, by omega, hI.out.skip hxq.out hxe, (hS.trans (Step.of_below hBW)).trans (Step.of_below hb2), ?_⟩
            exact hR.at ((hb2.block _ (by simp; omega)).trans (hBW.block _ hgl))
          case measure => simp [intOf]; omega
      · have : j = n := by omega
        subst this
        obtain ⟨w3, hcl3, hR3, hS3, hz3⟩ := hR.clear (i := i) (by omega)
        rw [hml] at hcl3
        have hlast := hI.out
        rw [show j = l.length from hn'.out.symm] at hlast
        have hle := hlast.last
        have hlen : (others l id).length = i := by rw [← hle, List.length_take]; omega
        rw [hle] at hR3
        have hH := Lib.hid (And.intro hlen hR3)
        clear hlast hle hR3 hlen
        go_wp2
        go_ret
        exact ⟨by rw [hH.out.1]; rfl, hH.out.2, hS.trans hS3⟩
end Go.Proofs.Ytndpmjanflahhaa
