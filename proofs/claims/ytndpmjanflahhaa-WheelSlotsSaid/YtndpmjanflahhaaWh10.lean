/-
  THE STATEMENTS OF LAYER 15: WheelSlots, the walk.
-/
import Derived.Test.YtndpmjanflahhaaWh9
namespace Go.Proofs.Ytndpmjanflahhaa
open Go.RowKit Go.MapKept

set_option maxRecDepth 100000 in
set_option maxHeartbeats 4000000 in
theorem wheelSlots_any (ask : Int) (a : Option Addr) (cap : Nat) (xs : List (Int × Int)) (w : World) (hask : -9223372036854775808 ≤ ask ∧ ask ≤ 9223372036854775807) (hl : xs.length ≤ 9223372036854775807) (hr : PairSl .i64 w a xs) (hx : ∀ x ∈ xs, (Lit.int .i64 x.1).wf = true ∧ (Lit.int .i64 x.2).wf = true) :
    Calls Try.prog 11 #[.slice a xs.length cap, .int .i64 ask] w (LastsPost w) := by
  obtain ⟨i0, hi, hz0, hz1, hz2⟩ := info_parts info_int
  have hr' := Lib.hid hr
  have hx' := Lib.hid hx
  obtain ⟨n, hn⟩ : ∃ n, xs.length = n := ⟨_, rfl⟩
  rw [hn] at hl ⊢
  have hn' := Lib.hid hn
  clear hn hr hx
  go_enter Try.func11, Try.ntmps11
  go_wp2_with fail
  refine (awake15_any w).mono ?_
  rintro e w1 ⟨rfl, hB1⟩
  by_cases hbig : 100 < n
  · go_wp2_with fail
    go_ret
    exact ⟨rfl, hB1⟩
  go_wp2_with fail
  refine (New_lives (w0 := w) hB1 1000 (by omega)).mono ?_
  rintro e w2 ⟨b, rfl, h2⟩
  go_wp2_with fail
  have k1 := fun id => create_calm (D := newD 1000) (n := wold) (calm_new _) rfl id
  refine (h2.create wold (by decide) (by decide)).mono ?_
  rintro e w3 ⟨id1, rfl, h3, _⟩
  obtain ⟨k1a, k1b⟩ := k1 id1
  rw [k1a] at h3 ⊢
  generalize hD1 : (newD 1000).addFile wold id1 = D1 at *
  clear k1 k1a
  have hg : D1.get bx = none := by rw [k1b.other bx (by decide)]; rfl
  have k2 := fun id => create_calm (D := D1) (n := bx) k1b.calm hg id
  have hf1 : D1.files.length = 1 := by rw [← hD1]; rfl
  go_wp2_with fail
  refine (h3.create bx (by decide) (by omega)).mono ?_
  rintro e w4 ⟨id2, rfl, h4, _⟩
  obtain ⟨k2a, k2b⟩ := k2 id2
  rw [k2a] at h4 ⊢
  have hf2 : (D1.addFile bx id2).files.length = 2 := by unfold DiskA.addFile; simp [hf1]
  have hnm : (D1.addFile bx id2).names = [wold, bx] := by rw [k2b.names, k1b.names]; rfl
  have hcp : (D1.addFile bx id2).cap = 1000 := by rw [k2b.cap, k1b.cap]; rfl
  have hsz : sizes (D1.addFile bx id2).files = 0 := by rw [k2b.size, k1b.size]; rfl
  have hwt : (D1.addFile bx id2).waits = [] := by rw [k2b.waits, k1b.waits]; rfl
  have hcl := k2b.calm
  generalize D1.addFile bx id2 = D2 at *
  clear k2 k2a k2b hD1 hg hf1 k1b
  go_wp2_with fail
  refine (WNew_ok w b _ 0 w4 h4 hcl (by omega) (by omega) (by rw [hsz, hcp]; decide) (by rw [hf2]; decide) (by rw [hwt]; show 0 < 1099511627776; omega)).mono ?_
  rintro e w5 ⟨wb, D, rfl, h5, hM⟩
  have hlist := two_sorted (wheel_names hM hnm)
  have cL := h5.list ByteArray.empty (by decide)
  rw [hlist] at cL
  have hwl0 : D.waits.length ≤ 1 := by have := hM.waits; rw [hwt] at this; simpa using this
  have hD := hM.slots
  clear hlist hM hnm hcp hsz hwt hcl hf2 h4
  go_wp2_with fail
  refine cL.mono ?_
  rintro e w6 ⟨la, lcap, rfl, hls, hB6⟩
  clear cL
  have hL6 := h5.below hB6
  have hBs : Below w6.heap.size w6 (w6.alloc (.cells #[.string wslots, .string bx] 9)) := (Below.refl _ _).alloc (Nat.le_refl _) _
  have hss : StrSl (w6.alloc (.cells #[.string wslots, .string bx] 9)) (some ⟨w6.heap.size, 0, none⟩) [wslots, bx] := by
    intro i s hi
    have hb : Blk (w6.alloc (.cells #[.string wslots, .string bx] 9)) w6.heap.size #[.string wslots, .string bx] 9 := Blk.new _ _ _
    match i, hi with
    | 0, hi => simp at hi; subst hi; exact ⟨_, 0, rfl, hb.cell 0⟩
    | 1, hi => simp at hi; subst hi; exact ⟨_, 0, rfl, hb.cell 1⟩
  have cS := RSame_yes la (some ⟨w6.heap.size, 0, none⟩) lcap 2 [wslots, bx] _ (by decide) (hls.below hBs) hss
  go_wp2_with fail
  refine cS.mono ?_
  rintro e w7 ⟨rfl, hB7⟩
  have hL7 := (hL6.below hBs).below hB7
  clear cS hss hBs hls hL6 h5 hB6 hB7
  go_wp2_with (refine wpList_make_full _ rfl _ _ 67 rfl w7.heap.size 3 i0 (.int .i64 0) 1 Try.underlying67 hi hz0 hz1 .i64 .i64 16 16 16 rfl rfl rfl rfl (by rw [hz2]; omega) (by unfold maxLen; omega) (Nat.le_refl _) ?_; intro w8 hown hgrow)
  have hB8 : Below w7.heap.size w7 w8 := (Below.refl _ w7).grown hgrow (Nat.le_refl _) (fun k hk => by cases hk)
  obtain ⟨hrow, _⟩ := intV_row hown
  have hm0 : w.heap.size ≤ w7.heap.size := hL7.grew.size
  obtain ⟨m, hm⟩ : ∃ m, w7.heap.size = m := ⟨_, rfl⟩
  have hX8 := hL7.bx.more hB8 (OAnd (fun _ => none) m (.cells (intV (List.replicate 16 0)) 3)) (fun k o ho => by
    by_cases hk : k = m
    · subst hk; rw [OAnd.at] at ho; cases ho; exact .inr ⟨by omega, by rw [← hm]; exact hrow⟩
    · rw [OAnd.ne hk] at ho; cases ho)
  rw [hm] at hm0 ⊢
  clear hown hgrow hrow hB8 hm hL7
  go_wp2_with fail
  go_loopw [52] (fun vi wr => ∃ (k : Nat) (D : DiskA) (v : List Nat), k ≤ n ∧ vi = .int .i64 k ∧ WheelD D v ∧ D.waits.length ≤ 1 + k ∧ WX w wb b D 0 (OAnd (fun _ => none) m (.cells (intV v) 3)) wr) (fun vi _ => n - (intOf vi).toNat)
  case atStart => exact ⟨0, D, _, by omega, rfl, hD, hwl0, hX8⟩
  case round =>
    obtain ⟨k, D, v, hk, rfl, hD, hwl, hL⟩ := hrel
    by_cases hkn : k < n
    · have hkl : k < xs.length := by rw [hn'.out]; exact hkn
      obtain ⟨⟨y0, y1⟩, hxk⟩ : ∃ x, xs[k]? = some x := ⟨xs[k], by simp [hkl]⟩
      obtain ⟨g, off, rfl, hc0, hc1⟩ := hr'.out k _ hxk
      obtain ⟨hy0, hy1⟩ := hx'.out _ (List.mem_of_getElem? hxk)
      obtain ⟨p0, p1⟩ := i64_range hy0
      obtain ⟨q0, q1⟩ := i64_range hy1
      have hB := hL.lives.grew
      have c0 : wr.cell? ⟨g, off + k * 2, none⟩ = some (.int .i64 y0) := (hB.cell (p := ⟨g, off + k * 2, none⟩) (World.block_lt_of_cell? _ _ hc0)).trans hc0
      have c1 : wr.cell? ⟨g, off + k * 2 + 1, none⟩ = some (.int .i64 y1) := (hB.cell (p := ⟨g, off + k * 2 + 1, none⟩) (World.block_lt_of_cell? _ _ hc1)).trans hc1
      clear hxk hc0 hc1 hkl hy0 hy1
      have hBx : Below wr.heap.size wr (wr.alloc (.cells #[.int .i64 y0, .int .i64 y1] 68)) := (Below.refl _ _).alloc (Nat.le_refl _) _
      have hxb : Blk (wr.alloc (.cells #[.int .i64 y0, .int .i64 y1] 68)) wr.heap.size #[.int .i64 y0, .int .i64 y1] 68 := Blk.new _ _ _
      dsimp only at p0 p1 q0 q1
      have hLx := hL.more hBx (OAnd (OAnd (fun _ => none) m (.cells (intV v) 3)) wr.heap.size (.cells #[.int .i64 y0, .int .i64 y1] 68)) (fun k o ho => by
        by_cases hk : k = wr.heap.size
        · subst hk; rw [OAnd.at] at ho; cases ho; exact .inr ⟨Nat.le_refl _, hxb⟩
        · rw [OAnd.ne hk] at ho; exact .inl ho)
      obtain ⟨W1, hW1⟩ : ∃ W, W = wr.alloc (.cells #[.int .i64 y0, .int .i64 y1] 68) := ⟨_, rfl⟩
      have hmx : m ≠ wr.heap.size := by have := (Array.getElem?_eq_some_iff.1 (hL.block (OAnd.at _ _ _))).1; omega
      obtain ⟨X, hX⟩ : ∃ X, X = wr.heap.size := ⟨_, rfl⟩
      go_wp2_with fail
      rw [← hW1, ← hX]
      rw [← hW1] at hxb hLx
      rw [← hX] at hxb hmx hLx
      have hdrop : ∀ D v w', WX w wb b D 0 (OAnd (OAnd (fun _ => none) m (.cells (intV v) 3)) X (.cells #[.int .i64 y0, .int .i64 y1] 68)) w' → WX w wb b D 0 (OAnd (fun _ => none) m (.cells (intV v) 3)) w' := fun D v w' h => h.less (fun k o ho => by
        by_cases hk : k = X
        · subst hk; rw [OAnd.ne (fun h => hmx h.symm)] at ho; cases ho
        · rw [OAnd.ne hk]; exact ho)
      clear hW1 hX hBx c0 c1 hB hL
      have d0 : W1.cell? ⟨X, 0, none⟩ = some (.int .i64 y0) := hxb.cell 0
      have d1 : W1.cell? ⟨X, 1, none⟩ = some (.int .i64 y1) := hxb.cell 1
      by_cases b0 : y0 < 0 ∨ 16 ≤ y0
      · have cS := WSet_bad wb y0 y1 W1 b0
        rcases b0 with b0 | b0
        all_goals
          go_wp2_with fail
          refine cS.mono ?_
          rintro e w9 ⟨rfl, rfl⟩
          clear cS
          go_wp2_with fail
          go_roundw
          case rel => exact ⟨k + 1, D, v, by omega, by go_num, hD, by omega, hdrop _ _ _ hLx⟩
          case measure => simp [intOf]; omega
      have hlen := Lib.hid hD.len
      have b1 : 0 ≤ y0 := by omega
      have b2 : y0 < 16 := by omega
      have b3 : ¬ y0 < 0 := by omega
      clear b0
      by_cases f0 : y1 < 0 ∨ 281474976710656 ≤ y1
      · have cS := WSet_none wb y0 y1 W1 b1 b2 f0 ⟨q0, q1⟩
        rcases f0 with f0 | f0
        all_goals
          go_wp2_with fail
          refine cS.mono ?_
          rintro e w9 ⟨rfl, hB9⟩
          clear cS
          have e0 := (hB9.cell (World.block_lt_of_cell? _ _ d0)).trans d0
          have e1 := (hB9.cell (World.block_lt_of_cell? _ _ d1)).trans d1
          go_wp2_with fail
          go_roundw
          case rel => exact ⟨k + 1, D, v, by omega, by go_num, hD, by omega, hdrop _ _ _ (hLx.below hB9)⟩
          case measure => simp [intOf]; omega
      have hs16 : y0.toNat < 16 := by omega
      have hx48 : y1.toNat < 281474976710656 := by omega
      have f1 : ¬ y1 < 0 := by omega
      have f2 : y1 < 281474976710656 := by omega
      have f3 : y0 ≤ 15 := by omega
      clear f0
      obtain ⟨D', hD', hWr, cS⟩ := hLx.set hD y0.toNat hs16 y1.toNat hx48 (by omega)
      rw [show ((y0.toNat : Nat) : Int) = y0 by omega, show ((y1.toNat : Nat) : Int) = y1 by omega] at cS
      have hwl' : D'.waits.length ≤ 1 + (k + 1) := by have := hWr.waits; omega
      clear hWr hwl hD d0 d1
      go_wp2_with fail
      refine cS.mono ?_
      rintro e w9 ⟨rfl, h9⟩
      clear cS
      have hx9 : Blk w9 X #[.int .i64 y0, .int .i64 y1] 68 := h9.block (OAnd.at _ _ _)
      have hm9 : Blk w9 m (intV v) 3 := h9.block (by rw [OAnd.ne hmx, OAnd.at])
      have d0 : w9.cell? ⟨X, 0, none⟩ = some (.int .i64 y0) := hx9.cell 0
      have d1 : w9.cell? ⟨X, 1, none⟩ = some (.int .i64 y1) := hx9.cell 1
      have hv : ∃ y, v[y0.toNat]? = some y := ⟨v[y0.toNat]'(by rw [hlen.out]; exact hs16), by simp⟩
      obtain ⟨y, hy⟩ := hv
      have dm : w9.cell? ⟨m, y0.toNat, none⟩ = some (.int .i64 y) := (hm9.cell y0.toNat).trans (intV_get hy)
      have df : w9.frozen? ⟨m, y0.toNat, none⟩ = false := hm9.frozen y0.toNat
      have hfin : WX w wb b D' 0 (OAnd (fun _ => none) m (.cells (intV (v.set y0.toNat y1.toNat)) 3)) (w9.setCell ⟨m, y0.toNat, none⟩ (.int .i64 y1)) := by
        have := h9.put (by rw [OAnd.ne hmx, OAnd.at]) hm0 y0.toNat (.int .i64 y1)
        rw [show (Value.int .i64 y1) = .int .i64 ((y1.toNat : Nat) : Int) by rw [show ((y1.toNat : Nat) : Int) = y1 by omega], intV_set] at this
        rw [show (Value.int .i64 y1) = .int .i64 ((y1.toNat : Nat) : Int) by rw [show ((y1.toNat : Nat) : Int) = y1 by omega]]
        refine this.less (fun k o ho => ?_)
        by_cases hk : k = m
        · subst hk; rw [OAnd.at] at ho ⊢; exact ho
        · rw [OAnd.ne hk] at ho; cases ho
      clear hx9 hm9 hy h9
      go_wp2_with fail
      go_roundw
      case rel => exact ⟨k + 1, D', _, by omega, by go_num, hD', hwl', hfin⟩
      case measure => simp [intOf]; omega
    · have hB := hL.lives.grew
      have hm9 : Blk wr m (intV v) 3 := hL.block (OAnd.at _ _ _)
      have hsmall := Lib.hid hD.small
      have hlen := Lib.hid hD.len
      have e0 : Hid (slotB 6 (v.take 0) = ⟨#[]⟩) := rfl
      have h0 : (⟨#[]⟩ : ByteArray) = slotB 6 (v.take 0) := rfl
      go_wp2_with fail
      go_loopw [12, 95] (fun vs vi w' => ∃ j : Nat, j ≤ 16 ∧ vi = .int .i64 j ∧ vs = .string (slotB 6 (v.take j)) ∧ Below wr.heap.size wr w') (fun _ vi _ => 16 - (intOf vi).toNat)
      case atStart => exact ⟨0, by omega, rfl, rfl, Below.refl _ _⟩
      case round =>
        obtain ⟨j, hj, rfl, rfl, hB5⟩ := hrel
        by_cases hj16 : j < 16
        · obtain ⟨y, hy⟩ : ∃ y, v[j]? = some y := ⟨v[j]'(by rw [hlen.out]; exact hj16), by simp⟩
          have hy48 := hsmall.out y (List.mem_of_getElem? hy)
          have hm1 := hm9.at (hB5.block _ hm9.lt)
          have dm := (hm1.cell j).trans (intV_get hy)
          have hs1 : (slotB 6 (v.take j)).size ≤ 96 := by rw [slotB_size, List.length_take]; omega
          have hs2 : (beB 6 y).size ≤ 6 := by rw [beB_size]; exact Nat.le_refl _
          have hcat := Lib.hid (slotB_take_succ hy)
          generalize slotB 6 (v.take j) = z1 at *
          clear hy hm1 hL hD
          have cN := fun w' => RNum_any 6 y w' (by omega) (by omega)
          generalize beB 6 y = z3 at *
          go_wp2_with fail
          refine (cN _).mono ?_
          rintro e w6 ⟨rfl, hB6⟩
          go_wp2_with fail
          go_roundw
          case rel => exact ⟨j + 1, by omega, by go_num, by rw [hcat.out], hB5.trans (hB6.mono hB5.size)⟩
          case measure => simp [intOf]; omega
        · obtain rfl : j = 16 := by omega
          have hL5 := hL.below hB5
          have ht : v.take 16 = v := List.take_of_length_le (by rw [hlen.out]; omega)
          rw [ht]
          have cA := hL5.lives.all wslots
          rw [all_calm hD.calm hD.get] at cA
          have hzs : (slotB 6 v).size ≤ 96 := by rw [slotB_size, hlen.out]; omega
          generalize slotB 6 v = z at *
          clear ht hm9 hL hB5 hj16 h0 e0
          go_wp2_with fail
          refine cA.mono ?_
          rintro e w5 ⟨rfl, hB5⟩
          have hL6 := hL5.below hB5
          clear cA hL5 hB5
          have cH := hL6.heads hD
          go_wp2_with fail
          refine cH.mono ?_
          rintro e w6 ⟨g1, cp1, o1, rfl, hg1, ho1, hs1, hL7, hB7⟩
          clear cH
          have hm6 : Blk w6 m (intV v) 3 := hL7.block (by
            have := (Array.getElem?_eq_some_iff.1 (hL6.block (OAnd.at _ _ _))).1
            rw [OAnd.ne (by omega), OAnd.at])
          by_cases hb : ask < 0 ∨ 16 ≤ ask
          · have cK := WHead_bad wb ask w6 hb
            rcases hb with hb | hb
            all_goals
              go_wp2_with fail
              refine cK.mono ?_
              rintro e w7 ⟨rfl, rfl⟩
              clear cK
              go_wp2_with fail
              go_ret
              exact ⟨rfl, hL7.lives.grew⟩
          have b1 : 0 ≤ ask := by omega
          have b2 : ¬ ask < 0 := by omega
          have b3 : ask ≤ 15 := by omega
          obtain ⟨y, hy⟩ : ∃ y, v[ask.toNat]? = some y := ⟨v[ask.toNat]'(by rw [hlen.out]; omega), by simp⟩
          have cK := hL7.lives.head hD ask.toNat (by omega) hy
          rw [show ((ask.toNat : Nat) : Int) = ask by omega] at cK
          go_wp2_with fail
          refine cK.mono ?_
          rintro e w7 ⟨rfl, hB8⟩
          clear cK
          have hL8 := hL7.below hB8
          have hm7 : Blk w7 m (intV v) 3 := hm6.at (hB8.block _ hm6.lt)
          have hmv : IntSl w7 (some ⟨m, 0, none⟩) (ints v) := by
            intro i x hi
            refine ⟨m, 0, rfl, ?_⟩
            rw [hm7.cell]
            unfold intV
            simp [hi]
          have cI := RInts_yes (some ⟨g1, 0, none⟩) (some ⟨m, 0, none⟩) cp1 16 (ints v) w7 (by rw [ints_len, hlen.out]; omega) (hs1.below hB8) hmv
          rw [ints_len, hlen.out] at cI
          have dm : w7.cell? ⟨m, ask.toNat, none⟩ = some (.int .i64 y) := (hm7.cell ask.toNat).trans (intV_get hy)
          have hm8 := Lib.hid hm7
          have hgrew := hL8.lives.grew
          clear hm6 hm7 hmv hs1 hL7 hL6 hL8 hB7 hB8 ho1 hg1 hb hy hD
          go_wp2_with fail
          refine cI.mono ?_
          rintro e w8 ⟨rfl, hB9⟩
          have dm8 := (hB9.cell (World.block_lt_of_cell? _ _ dm)).trans dm
          go_wp2_with fail
          go_ret
          exact ⟨rfl, hgrew.trans (hB9.mono hgrew.size)⟩
end Go.Proofs.Ytndpmjanflahhaa
