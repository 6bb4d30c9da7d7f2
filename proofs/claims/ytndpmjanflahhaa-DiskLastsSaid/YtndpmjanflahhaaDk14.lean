/-
  slices.IndexFunc at the writes that wait.
-/
import Derived.Test.YtndpmjanflahhaaDk13
namespace Go.Proofs.Ytndpmjanflahhaa
open Go.RowKit Go.MapKept

theorem waitCells_len (l : List WaitA) : (waitCells l).length = l.length * 3 := by
  induction l with
  | nil => rfl
  | cons x t ih => show (x.cells ++ waitCells t).length = _; rw [List.length_append, ih]; simp [WaitA.cells]; omega
theorem waitCells_at {l : List WaitA} {i : Nat} {x : WaitA} (h : l[i]? = some x) : (waitCells l)[i * 3]? = some (ptr x.id) ∧ (waitCells l)[i * 3 + 1]? = some (.int .i64 x.pos) ∧ (waitCells l)[i * 3 + 2]? = some (.string x.s) := by
  induction l generalizing i with
  | nil => simp at h
  | cons y t ih =>
    have e : waitCells (y :: t) = y.cells ++ waitCells t := rfl
    have hl : y.cells.length = 3 := rfl
    rw [e]
    cases i with
    | zero => simp at h; subst h; exact ⟨rfl, rfl, rfl⟩
    | succ i =>
      simp at h
      have := ih h
      refine ⟨?_, ?_, ?_⟩ <;> rw [List.getElem?_append_right (by rw [hl]; omega), hl]
      · rw [show (i + 1) * 3 - 3 = i * 3 by omega]; exact this.1
      · rw [show (i + 1) * 3 + 1 - 3 = i * 3 + 1 by omega]; exact this.2.1
      · rw [show (i + 1) * 3 + 2 - 3 = i * 3 + 2 by omega]; exact this.2.2

/-- What the predicate is called in. -/
structure PredEnv (W : World) (c id : Nat) (l : List WaitA) : Prop where
  cell : W.cell? ⟨c, 0, none⟩ = some (.pointer (some ⟨id, 0, none⟩))
  file : ∃ c2, Blk W id c2 124
  files : ∀ x ∈ l, ∃ c1, Blk W x.id c1 124
theorem PredEnv.below {W W' : World} {c id : Nat} {l : List WaitA} (h : PredEnv W c id l) (hb : Below W.heap.size W W') : PredEnv W' c id l := by
  refine ⟨(hb.cell (p := ⟨c, 0, none⟩) (World.block_lt_of_cell? _ _ h.cell)).trans h.cell, ?_, fun x hx => ?_⟩
  · obtain ⟨c2, h2⟩ := h.file; exact ⟨c2, h2.at (hb.block _ h2.lt)⟩
  · obtain ⟨c1, h1⟩ := h.files x hx; exact ⟨c1, h1.at (hb.block _ h1.lt)⟩
theorem PredEnv.sub {W : World} {c id : Nat} {l l' : List WaitA} (h : PredEnv W c id l) (hs : ∀ x ∈ l', x ∈ l) : PredEnv W c id l' :=
  ⟨h.cell, h.file, fun x hx => h.files x (hs x hx)⟩

/-- Where the first write of a file lies; -1: none. -/
def idxW (l : List WaitA) (id : Nat) : Int := match l.findIdx? (fun x => x.id == id) with | some i => i | none => -1

theorem idxW_none (l : List WaitA) (id : Nat) (h : ∀ x ∈ l, (x.id == id) = false) : idxW l id = -1 := by
  unfold idxW
  rw [List.findIdx?_eq_none_iff.mpr h]
theorem idxW_at (l : List WaitA) (id k : Nat) (x : WaitA) (hx : l[k]? = some x) (hq : (x.id == id) = true) (h : ∀ y ∈ l.take k, (y.id == id) = false) : idxW l id = (k : Int) := by
  unfold idxW
  have hk : k < l.length := (List.getElem?_eq_some_iff.mp hx).1
  have : l.findIdx? (fun x => x.id == id) = some k := by
    rw [List.findIdx?_eq_some_iff_getElem]
    refine ⟨hk, ?_, fun j hj => ?_⟩
    · rw [(List.getElem?_eq_some_iff.mp hx).2]; exact hq
    · have hm : l[j] ∈ l.take k := by
        rw [List.mem_take_iff_getElem]; exact ⟨j, by omega, rfl⟩
      rw [h _ hm]; simp
  rw [this]

set_option maxRecDepth 100000 in
set_option maxHeartbeats 1000000 in
theorem IndexFuncW (g c id : Nat) (eg : ∀ args w, (callFunc g args).run Try.prog w = .ok (.enter g args) w) (hp : IsPred g c id) (gb cap : Nat) (l : List WaitA) (w : World) (hl : l.length ≤ 9223372036854775807)
    (hr : w.ownsRow 0 127 3 (.slice (some ⟨gb, 0, none⟩) l.length cap) l.length (waitCells l)) (he : PredEnv w c id l) :
    Calls Try.prog 139 #[.slice (some ⟨gb, 0, none⟩) l.length cap, .func (.func g) #[] #[.pointer (some ⟨c, 0, none⟩)]] w fun e w' => e = .returned (.int .i64 (idxW l id)) ∧ Below w.heap.size w w' := by
  have hcells := fun j hj => World.ownsRow.cellAt hr j hj
  have hgl := (World.ownsRow.lt hr gb rfl).2
  obtain ⟨n, hn⟩ : ∃ n, l.length = n := ⟨_, rfl⟩
  rw [hn]
  have hn' := Lib.hid hn
  rw [hn] at hl
  clear hn hr
  go_enter Try.func139, Try.ntmps139
  go_wp2
  go_loopw [8] (fun i wr => ∃ k : Nat, k ≤ n ∧ i = .int .i64 k ∧ Below w.heap.size w wr ∧ Hid (∀ x ∈ l.take k, (x.id == id) = false)) (fun i _ => n - (intOf i).toNat)
  case atStart => exact ⟨0, by omega, rfl, Below.refl _ _, fun x hx => by simp at hx⟩
  case round =>
    obtain ⟨k, hk, rfl, hB, hH⟩ := hrel
    by_cases hkn : k < n
    · have hkl : k < l.length := by rw [hn'.out]; exact hkn
      obtain ⟨x, hx⟩ : ∃ x, l[k]? = some x := ⟨l[k], by simp [hkl]⟩
      have hxm := List.mem_of_getElem? hx
      obtain ⟨q0, q1, q2⟩ := waitCells_at hx
      have d0 := (hB.cell (p := ⟨gb, k * 3, none⟩) hgl).trans ((hcells (k * 3) (by omega)).trans q0)
      have d1 := (hB.cell (p := ⟨gb, k * 3 + 1, none⟩) hgl).trans ((hcells (k * 3 + 1) (by omega)).trans q1)
      have d2 := (hB.cell (p := ⟨gb, k * 3 + 2, none⟩) hgl).trans ((hcells (k * 3 + 2) (by omega)).trans q2)
      have he1 := he.below hB
      obtain ⟨c2, hc2⟩ := he1.file
      obtain ⟨c1, hc1⟩ := he1.files x hxm
      have cp := hp x wr c1 c2 he1.cell hc1 hc2
      unfold ptr at d0
      have hlen : (l.take (k + 1)) = l.take k ++ [x] := by rw [List.take_add_one, hx]; rfl
      have hx' := Lib.hid hx
      clear hx hkl q0 q1 q2 hcells hc1 hc2 hp
      cases hxe : (x.id == id)
      · rw [hxe] at cp
        go_wp2_with (go_at_fn g; refine cp.mono ?_; rintro e w1 ⟨rfl, hb1⟩)
        case roundEnd =>
          go_roundw
          case rel =>
            refine ⟨k + 1, by omega, by go_num, hB.trans (hb1.mono hB.size), fun y hy => ?_⟩
            rw [hlen, List.mem_append] at hy
            rcases hy with hy | hy
            · exact hH.out y hy
            · rw [List.mem_singleton.mp hy]; exact hxe
          case measure => simp [intOf]; omega
      · rw [hxe] at cp
        go_wp2_with (go_at_fn g; refine cp.mono ?_; rintro e w1 ⟨rfl, hb1⟩)
        go_ret
        refine ⟨?_, hB.trans (hb1.mono hB.size)⟩
        rw [idxW_at l id k x hx'.out (by rw [hxe]) hH.out]
        rfl
    · have : k = n := by omega
      subst this
      go_wp2
      go_ret
      refine ⟨?_, hB⟩
      rw [idxW_none l id (by have := hH.out; rwa [List.take_of_length_le (Nat.le_of_eq hn'.out)] at this)]
      rfl
end Go.Proofs.Ytndpmjanflahhaa
