/-
  THE STATEMENTS OF LAYER 4: Great.
-/
import Derived.Test.YtndpmjanflahhaaDk31
namespace Go.Proofs.Ytndpmjanflahhaa
open Go.RowKit Go.MapKept

/-- A slice of calls: from an address on lie these. -/
def OpSl (w : World) (a : Option Addr) (os : List OpV) : Prop :=
  ∀ i o, os[i]? = some o → ∃ g off, a = some ⟨g, off, none⟩ ∧ ∀ j, j < 8 → w.cell? ⟨g, off + i * 8 + j, none⟩ = o.cells[j]?
theorem OpSl.at {w : World} {a : Option Addr} {os : List OpV} (h : OpSl w a os) (hne : 0 < os.length) : ∃ g off, a = some ⟨g, off, none⟩ ∧ g < w.heap.size ∧ ∀ i o, os[i]? = some o → ∀ j, j < 8 → w.cell? ⟨g, off + i * 8 + j, none⟩ = o.cells[j]? := by
  obtain ⟨g, off, ha, hc⟩ := h 0 os[0] (by simp [hne])
  refine ⟨g, off, ha, World.block_lt_of_cell? _ _ (hc 0 (by omega)), fun i o hi => ?_⟩
  obtain ⟨g', off', ha', hc'⟩ := h i o hi
  rw [ha] at ha'
  cases ha'
  exact hc'
/-- What one call's cells are. -/
theorem op_cells {w : World} {g p : Nat} {o : OpV} (h : ∀ j, j < 8 → w.cell? ⟨g, p + j, none⟩ = o.cells[j]?) :
    w.cell? ⟨g, p, none⟩ = some (.int .i64 o.K) ∧ w.cell? ⟨g, p + 1, none⟩ = some (.int .i64 o.N) ∧ w.cell? ⟨g, p + 2, none⟩ = some (.string o.A) ∧ w.cell? ⟨g, p + 3, none⟩ = some (.string o.B) ∧
    w.cell? ⟨g, p + 4, none⟩ = some (.string o.S) ∧ w.cell? ⟨g, p + 5, none⟩ = some (.slice o.la o.L.length o.lcap) ∧ w.cell? ⟨g, p + 6, none⟩ = some (.slice o.ka o.keep.length o.kcap) ∧ w.cell? ⟨g, p + 7, none⟩ = some (.int .i64 o.lack) :=
  ⟨h 0 (by omega), h 1 (by omega), h 2 (by omega), h 3 (by omega), h 4 (by omega), h 5 (by omega), h 6 (by omega), h 7 (by omega)⟩

def GreatPost (os : List OpV) (w : World) (e : Ending) (w' : World) : Prop :=
  ∃ r, e = .returned (.bool r) ∧ (r = false → os.length ≤ 100 ∧ ∀ o ∈ os, o.Small) ∧ Below w.heap.size w w'
theorem great_yes {os : List OpV} {w w' : World} {e : Ending} (he : e = .returned (.bool true)) (hB : Below w.heap.size w w') : GreatPost os w e w' := ⟨true, he, (fun h => by cases h), hB⟩

set_option maxRecDepth 100000 in
set_option maxHeartbeats 4000000 in
theorem Great_any (a : Option Addr) (cap : Nat) (os : List OpV) (w : World) (F : Nat → Prop) (hl : os.length ≤ 9223372036854775807) (hr : OpSl w a os) (hg : ∀ o ∈ os, o.Good w F) (hsz : ∀ o ∈ os, o.A.size ≤ 9223372036854775807 ∧ o.B.size ≤ 9223372036854775807 ∧ o.S.size ≤ 9223372036854775807 ∧ o.L.length ≤ 9223372036854775807 ∧ o.keep.length ≤ 9223372036854775807 ∧ ∀ n ∈ o.L, n.size ≤ 9223372036854775807) :
    Calls Try.prog 39 #[.slice a os.length cap] w (GreatPost os w) := by
  obtain ⟨n, hn⟩ : ∃ n, os.length = n := ⟨_, rfl⟩
  rw [hn] at hl ⊢
  have hn' := Lib.hid hn
  by_cases h100 : 100 < n
  · clear hn
    go_enter Try.func39, Try.ntmps39
    go_wp2
    go_ret
    exact great_yes rfl (Below.refl _ _)
  have hn100 : os.length ≤ 100 := by omega
  have hn100' := Lib.hid hn100
  clear hn hn100
  go_enter Try.func39, Try.ntmps39
  go_wp2
  go_loopw [12] (fun i wr => ∃ k : Nat, k ≤ n ∧ i = .int .i64 k ∧ Below w.heap.size w wr ∧ Hid (∀ o ∈ os.take k, o.Small)) (fun i _ => n - (intOf i).toNat)
  case atStart => exact ⟨0, by omega, rfl, Below.refl _ _, fun o ho => by simp at ho⟩
  case round =>
    obtain ⟨k, hk, rfl, hB, hH⟩ := hrel
    by_cases hkn : k < n
    · have hkl : k < os.length := by rw [hn'.out]; exact hkn
      obtain ⟨g, off, rfl, hgl, hcell⟩ := hr.at (by omega)
      obtain ⟨o, ho⟩ : ∃ o, os[k]? = some o := ⟨os[k], by simp [hkl]⟩
      have hom := List.mem_of_getElem? ho
      obtain ⟨c0, c1, c2, c3, c4, c5, c6, c7⟩ := op_cells (w := wr) (g := g) (p := off + k * 8) (o := o) (fun j hj => (hB.cell (p := ⟨g, off + k * 8 + j, none⟩) hgl).trans (hcell k o ho j hj))
      obtain ⟨z1, z2, z3, z4, z5, z6⟩ := hsz o hom
      have hL := (hg o hom).L
      have ho' := Lib.hid ho
      have hsm : Hid (o.Small → ∀ x ∈ os.take (k + 1), x.Small) := fun h x hx => by
        rw [List.take_add_one, ho'.out] at hx
        simp at hx
        rcases hx with hx | rfl
        · exact hH.out x hx
        · exact h
      have hBo : Below w.heap.size w (wr.alloc (.cells o.cells 46)) := hB.trans ((Below.refl _ _).alloc (Nat.le_refl _) _ |>.mono hB.size)
      clear hcell hr ho hg hsz hom
      obtain ⟨K, N, A, B, S, la, lcap, L, ka, kcap, keep, lack⟩ := o
      unfold OpV.cells at *
      dsimp only at *
      obtain ⟨ln, hln⟩ : ∃ ln, L.length = ln := ⟨_, rfl⟩
      rw [hln] at c5 z4 hBo
      have hln' := Lib.hid hln
      clear hln
      generalize hkz : keep.length = kz at *
      have hkz' := Lib.hid hkz
      clear hkz
      by_cases b1 : 20 < A.size
      · go_wp2
        go_ret
        exact great_yes rfl hBo
      by_cases b2 : 20 < B.size
      · go_wp2
        go_ret
        exact great_yes rfl hBo
      by_cases b3 : 300 < S.size
      · go_wp2
        go_ret
        exact great_yes rfl hBo
      by_cases b4 : 10 < ln
      · go_wp2
        go_ret
        exact great_yes rfl hBo
      by_cases b5 : 200 < kz
      · go_wp2
        go_ret
        exact great_yes rfl hBo
      go_wp2
      have hW := hBo
      obtain ⟨wo, hwo⟩ : ∃ wo, wo = wr.alloc (.cells #[.int .i64 K, .int .i64 N, .string A, .string B, .string S, .slice la ln lcap, .slice ka kz kcap, .int .i64 lack] 46) := ⟨_, rfl⟩
      have hstr : ∀ j x, L[j]? = some x → ∃ g off, la = some ⟨g, off, none⟩ ∧ wo.cell? ⟨g, off + j, none⟩ = some (.string x) := by
        intro j x hj
        obtain ⟨b', off', e, hc⟩ := hL j x hj
        refine ⟨b', off', e, ?_⟩
        rw [hwo]
        exact (hBo.cell (p := ⟨b', off' + j, none⟩) (World.block_lt_of_cell? _ _ hc)).trans hc
      have hstr' := Lib.hid hstr
      rw [← hwo] at hBo ⊢
      clear hstr hL hW hwo
      go_loop [48] (fun j => ∃ q : Nat, q ≤ ln ∧ j = .int .i64 q ∧ Hid (∀ x ∈ L.take q, x.size ≤ 20)) (fun j => ln - (intOf j).toNat)
      case atStart => exact ⟨0, by omega, rfl, fun x hx => by simp at hx⟩
      case round =>
        obtain ⟨q, hq, rfl, hQ⟩ := hrel
        by_cases hql : q < ln
        · have hql' : q < L.length := by rw [hln'.out]; exact hql
          obtain ⟨x, hx⟩ : ∃ x, L[q]? = some x := ⟨L[q], by simp [hql']⟩
          obtain ⟨b', off', rfl, hc⟩ := hstr'.out q x hx
          have hxz := z6 x (List.mem_of_getElem? hx)
          have hst : Hid (x.size ≤ 20 → ∀ y ∈ L.take (q + 1), y.size ≤ 20) := fun h y hy => by
            rw [List.take_add_one, hx] at hy
            simp at hy
            rcases hy with hy | rfl
            · exact hQ.out y hy
            · exact h
          clear hx z6 hql'
          by_cases b6 : 20 < x.size
          · go_wp2
            go_ret
            exact great_yes rfl hBo
          · go_wp2
            go_round
            case rel => exact ⟨q + 1, by omega, by go_num, hst.out (by omega)⟩
            case measure => simp [intOf]; omega
        · go_wp2
          go_roundw
          case rel => exact ⟨k + 1, by omega, by go_num, hBo, hsm.out ⟨by dsimp only; omega, by dsimp only; omega, by dsimp only; omega, by dsimp only; rw [hln'.out]; omega, by dsimp only; rw [hkz'.out]; omega, by have := hQ.out; rwa [List.take_of_length_le (by rw [hln'.out]; omega)] at this⟩⟩
          case measure => simp [intOf]; omega
    · go_wp2
      go_ret
      exact ⟨false, rfl, fun _ => ⟨hn100'.out, by have := hH.out; rwa [List.take_of_length_le (by rw [hn'.out]; omega)] at this⟩, hB⟩
end Go.Proofs.Ytndpmjanflahhaa
