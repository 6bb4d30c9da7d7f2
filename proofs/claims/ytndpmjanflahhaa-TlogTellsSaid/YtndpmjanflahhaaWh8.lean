/-
  THE STATEMENTS OF LAYER 15: WheelApart.
-/
import Derived.Test.YtndpmjanflahhaaWh7
import Derived.Test.YtndpmjanflahhaaArgPairs
import Derived.BigQuiet
namespace Go.Proofs.Ytndpmjanflahhaa
open Go.RowKit Go.MapKept

theorem ints_get {v : List Nat} {i x : Nat} (h : v[i]? = some x) : (ints v)[i]? = some (x : Int) := by unfold ints; simp [h]
theorem ints_set (v : List Nat) (s x : Nat) : ints (v.set s x) = (ints v).set s (x : Int) := by unfold ints; rw [List.map_set]

set_option maxRecDepth 100000 in
set_option maxHeartbeats 4000000 in
theorem wheelApart_any (a : Option Addr) (cap : Nat) (xs : List (Int × Int)) (w : World) (hl : xs.length ≤ 9223372036854775807) (hr : PairSl .u16 w a xs) (hx : ∀ x ∈ xs, (Lit.int .u16 x.1).wf = true ∧ (Lit.int .u16 x.2).wf = true) :
    Calls Try.prog 12 #[.slice a xs.length cap] w (LastsPost w) := by
  have hr' := Lib.hid hr
  have hx' := Lib.hid hx
  obtain ⟨n, hn⟩ : ∃ n, xs.length = n := ⟨_, rfl⟩
  rw [hn] at hl ⊢
  have hn' := Lib.hid hn
  clear hn hr hx
  go_enter Try.func12, Try.ntmps12
  go_wp2_with fail
  refine (awake15_any w).mono ?_
  rintro e w1 ⟨rfl, hB1⟩
  by_cases hbig : 60 < n
  · go_wp2_with fail
    go_ret
    exact ⟨rfl, hB1⟩
  go_wp2_with fail
  refine (New_lives (w0 := w) hB1 1000 (by omega)).mono ?_
  rintro e w2 ⟨b, rfl, h2⟩
  go_wp2_with fail
  refine (WNew_ok w b _ 0 w2 h2 (calm_new _) (by omega) (by omega) (by decide) (by decide) (by show 0 < 1099511627776; omega)).mono ?_
  rintro e w3 ⟨wb, D, rfl, h3, hM⟩
  go_wp2_with fail
  go_loopw [27] (fun vi wr => ∃ (k : Nat) (D : DiskA) (v : List Nat), k ≤ n ∧ vi = .int .i64 k ∧ WheelD D v ∧ D.waits.length ≤ 1 + k ∧ WX w wb b D 0 (fun _ => none) wr) (fun vi _ => n - (intOf vi).toNat)
  case atStart => exact ⟨0, D, _, by omega, rfl, hM.slots, hM.waits, h3.bx⟩
  case round =>
    obtain ⟨k, D, v, hk, rfl, hD, hwl, hL⟩ := hrel
    by_cases hkn : k < n
    · have hkl : k < xs.length := by rw [hn'.out]; exact hkn
      obtain ⟨⟨y0, y1⟩, hxk⟩ : ∃ x, xs[k]? = some x := ⟨xs[k], by simp [hkl]⟩
      obtain ⟨g, off, rfl, hc0, hc1⟩ := hr'.out k _ hxk
      obtain ⟨hy0, hy1⟩ := hx'.out _ (List.mem_of_getElem? hxk)
      obtain ⟨p, rfl, hp⟩ := u16_range hy0
      obtain ⟨q, rfl, hq⟩ := u16_range hy1
      have hB := hL.lives.grew
      have c0 : wr.cell? ⟨g, off + k * 2, none⟩ = some (.int .u16 p) := (hB.cell (p := ⟨g, off + k * 2, none⟩) (World.block_lt_of_cell? _ _ hc0)).trans hc0
      have c1 : wr.cell? ⟨g, off + k * 2 + 1, none⟩ = some (.int .u16 q) := (hB.cell (p := ⟨g, off + k * 2 + 1, none⟩) (World.block_lt_of_cell? _ _ hc1)).trans hc1
      clear hxk hc0 hc1 hkl hy0 hy1
      have hBx : Below wr.heap.size wr (wr.alloc (.cells #[.int .u16 p, .int .u16 q] 78)) := (Below.refl _ _).alloc (Nat.le_refl _) _
      have hxb : (wr.alloc (.cells #[.int .u16 p, .int .u16 q] 78)).heap[wr.heap.size]? = some (.cells #[.int .u16 p, .int .u16 q] 78) := Blk.new _ _ _
      have hLx := hL.more hBx (OAnd (fun _ => none) wr.heap.size (.cells #[.int .u16 p, .int .u16 q] 78)) (fun k o ho => by
        by_cases hk : k = wr.heap.size
        · subst hk; rw [OAnd.at] at ho; cases ho; exact .inr ⟨Nat.le_refl _, hxb⟩
        · rw [OAnd.ne hk] at ho; cases ho)
      have hO4 : ∀ g1 o1, (wr.alloc (.cells #[.int .u16 p, .int .u16 q] 78)).heap.size ≤ g1 → OAnd (OAnd (fun _ => none) wr.heap.size (.cells #[.int .u16 p, .int .u16 q] 78)) g1 o1 wr.heap.size = some (.cells #[.int .u16 p, .int .u16 q] 78) := fun g1 o1 h => by
        have : (wr.alloc (.cells #[.int .u16 p, .int .u16 q] 78)).heap.size = wr.heap.size + 1 := by simp
        rw [OAnd.ne (by omega), OAnd.at]
      have cH := hLx.heads hD
      go_wp2_with fail
      refine cH.mono ?_
      rintro e w4 ⟨g1, cp1, o1, rfl, hg1, ho1, hs1, hL4, hB4⟩
      have bx4 : Blk w4 wr.heap.size #[.int .u16 p, .int .u16 q] 78 := hL4.block (hO4 g1 o1 hg1)
      have d0 : w4.cell? ⟨wr.heap.size, 0, none⟩ = some (.int .u16 p) := bx4.cell 0
      have d1 : w4.cell? ⟨wr.heap.size, 1, none⟩ = some (.int .u16 q) := bx4.cell 1
      obtain ⟨s, hse⟩ : ∃ s : Nat, p % 16 = s := ⟨_, rfl⟩
      have hpe : (p : Int) % 16 = (s : Int) := by omega
      have hs16 : s < 16 := by omega
      obtain ⟨D', hD', hWr, cS⟩ := hL4.set hD s hs16 q (by omega) (by omega)
      have hwl' : D'.waits.length ≤ 1 + (k + 1) := by have := hWr.waits; omega
      clear hWr bx4 cH
      go_wp2_with fail
      rw [hpe]
      clear hpe hse
      refine cS.mono ?_
      rintro e w5 ⟨rfl, hL5⟩
      clear cS
      have cH := hL5.heads hD'
      go_wp2_with fail
      refine cH.mono ?_
      rintro e w6 ⟨g2, cp2, o2, rfl, hg2, ho2, hs2, hL6, hB6⟩
      clear cH
      have hb1 : w6.heap[g1]? = w4.heap[g1]? := by
        rw [ho1, hB6.block g1 (Array.getElem?_eq_some_iff.1 (hL5.block (OAnd.at _ _ _))).1]
        exact hL5.block (OAnd.at _ _ _)
      have hs1' := hs1.at_block hb1
      have bx6 : Blk w6 wr.heap.size #[.int .u16 p, .int .u16 q] 78 := by
        have h5 : w5.heap[wr.heap.size]? = some _ := hL5.block (hO4 g1 o1 hg1)
        exact (hB6.block _ (Array.getElem?_eq_some_iff.1 h5).1).trans h5
      have d1' : w6.cell? ⟨wr.heap.size, 1, none⟩ = some (.int .u16 q) := bx6.cell 1
      have hL6' := hL6.less (O' := fun _ => none) (fun k o h => by cases h)
      have hs1'' := Lib.hid hs1'
      have hs2' := Lib.hid hs2
      have hlen' := Lib.hid hD.len
      clear hs1 hs1' hs2 hL4 hL5 hL6 hLx ho1 ho2 hb1 bx6 d0 d1 hB4 hB6 hg1 hg2 hbig hL hD hBx hxb c0 c1 hB
      go_wp2_with fail
      go_loopw [67] (fun vi wr => ∃ j : Nat, j ≤ 16 ∧ vi = .int .i64 j ∧ Below w6.heap.size w6 wr) (fun vi _ => 16 - (intOf vi).toNat)
      case atStart => exact ⟨0, by omega, rfl, Below.refl _ _⟩
      case round =>
        obtain ⟨j, hj, rfl, hB7⟩ := hrel
        by_cases hj16 : j < 16
        · obtain ⟨y, hy⟩ : ∃ y, v[j]? = some y := ⟨v[j]'(by rw [hlen'.out]; exact hj16), by simp⟩
          obtain ⟨_, _, h, e1⟩ := hs1''.out j y (ints_get hy)
          cases h
          have i0 : (0 : Int) ≤ j := by omega
          have i1 : (j : Int) < 16 := by omega
          have d7 := (hB7.cell (World.block_lt_of_cell? _ _ d1')).trans d1'
          have e7 := (hB7.cell (World.block_lt_of_cell? _ _ e1)).trans e1
          by_cases hjs : j = s
          · subst hjs
            obtain ⟨_, _, h, e2⟩ := hs2'.out j q (by rw [ints_set, List.getElem?_set_self (by rw [ints_len, hlen'.out]; omega)])
            cases h
            have e8 := (hB7.cell (World.block_lt_of_cell? _ _ e2)).trans e2
            simp only [Nat.zero_add] at e7 e8
            clear e1 e2 d1'
            go_wp2_with fail
            go_quiet (fail)
            go_wp2_with fail
            go_roundw
            case rel => exact ⟨j + 1, by omega, by go_num, hB7.trans ((below_drewN _ _).mono hB7.size)⟩
            case measure => simp [intOf]; omega
          · obtain ⟨_, _, h, e2⟩ := hs2'.out j y (by rw [ints_set, List.getElem?_set_ne (by omega)]; exact ints_get hy)
            cases h
            have e8 := (hB7.cell (World.block_lt_of_cell? _ _ e2)).trans e2
            have f1 : ¬ (j : Int) = (s : Int) := by omega
            have f2 : decide ((j : Int) = (s : Int)) = false := decide_eq_false f1
            simp only [Nat.zero_add] at e7 e8
            clear e1 e2 d1'
            go_wp2_with fail
            go_quiet (fail)
            go_wp2_with fail
            go_roundw
            case rel => exact ⟨j + 1, by omega, by go_num, hB7.trans ((below_drewN _ _).mono hB7.size)⟩
            case measure => simp [intOf]; omega
        · obtain rfl : j = 16 := by omega
          go_wp2_with fail
          go_roundw
          case rel => exact ⟨k + 1, D', _, by omega, by go_num, hD', hwl', hL6'.below hB7⟩
          case measure => simp [intOf]; omega
    · go_wp2_with fail
      go_ret
      exact ⟨rfl, hL.lives.grew⟩
end Go.Proofs.Ytndpmjanflahhaa
