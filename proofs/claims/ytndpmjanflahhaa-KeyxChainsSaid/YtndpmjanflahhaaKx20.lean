/-
  THE STATEMENTS OF LAYER 11: KeyxChains, the walk.
-/
import Derived.Test.YtndpmjanflahhaaKx17
import Derived.Test.YtndpmjanflahhaaKx19
import Derived.Test.YtndpmjanflahhaaMp0
namespace Go.Proofs.Ytndpmjanflahhaa
open Go.RowKit Go.MapKept

set_option maxRecDepth 100000 in
set_option maxHeartbeats 2000000 in
theorem keyxChains_any (a : Option Addr) (cap : Nat) (xs : List AddV) (w : World) (hl : xs.length ≤ 9223372036854775807) (hr : AddSl w a xs) (hx : ∀ o ∈ xs, o.Fits) :
    Calls Try.prog 16 #[.slice a xs.length cap] w (LastsPost w) := by
  have hr' := Lib.hid hr
  have hx' := Lib.hid hx
  have hmm := @run_makeMap Try.prog
  have hmmH := Lib.hid hmm
  obtain ⟨n, hn⟩ : ∃ n, xs.length = n := ⟨_, rfl⟩
  rw [hn] at hl ⊢
  have hn' := Lib.hid hn
  clear hn hr hx hmm
  go_enter Try.func16, Try.ntmps16
  go_wp2_with fail
  refine (awake11_any w).mono ?_
  rintro e w1 ⟨rfl, hB1⟩
  by_cases hbig : 100 < n
  · go_wp2_with fail
    go_ret
    exact ⟨rfl, hB1⟩
  go_wp2_with fail
  refine (New_lives (w0 := w) hB1 1048576 (by omega)).mono ?_
  rintro e w3 ⟨b, rfl, h2⟩
  go_wp2_with fail
  refine (KNew_ok 1048576 w b w3 h2 (by decide) (by decide)).mono ?_
  rintro e w4 ⟨xb, D, rfl, h3, hD⟩
  go_wp2_with fail
  go_loopw [26] (fun vi wr => ∃ (k : Nat) (D : DiskA) (v : List Nat) (rs : List KRec), k ≤ n ∧ vi = .int .i64 k ∧ rs.length ≤ k ∧ Hid (KeyD 1048576 D rs v) ∧ OX 150 w xb b D (rs.length : Nat) (fun _ => none) wr) (fun vi _ => n - (intOf vi).toNat)
  case atStart => exact ⟨0, D, _, [], by omega, rfl, by simp, hD, h3⟩
  case round =>
    obtain ⟨k, D, v, rs, hk, rfl, hol, hKD, hL⟩ := hrel
    by_cases hkn : k < n
    · have hkl : k < xs.length := by rw [hn'.out]; exact hkn
      obtain ⟨⟨ot, ok, oa, ob⟩, hxk⟩ : ∃ x, xs[k]? = some x := ⟨xs[k], by simp [hkl]⟩
      obtain ⟨g, off, rfl, hc0, hc1, hc2, hc3⟩ := hr'.out k _ hxk
      obtain ⟨hf1, hf2, ⟨hf3, hf4⟩, hf5, hf6⟩ := hx'.out _ (List.mem_of_getElem? hxk)
      have hml : maxLen = 9223372036854775807 := by decide
      dsimp only at hc0 hc1 hc2 hc3 hf1 hf2 hf3 hf4 hf5 hf6
      rw [hml] at hf1 hf2
      have hBr := hL.grew
      have c0 := (hBr.cell (World.block_lt_of_cell? _ _ hc0)).trans hc0
      have c1 := (hBr.cell (World.block_lt_of_cell? _ _ hc1)).trans hc1
      have c2 := (hBr.cell (World.block_lt_of_cell? _ _ hc2)).trans hc2
      have c3 := (hBr.cell (World.block_lt_of_cell? _ _ hc3)).trans hc3
      have hLx := hL.one #[.string ot, .string ok, .int .i64 oa, .int .i64 ob] 89
      have hxb : Blk (wr.alloc (.cells #[.string ot, .string ok, .int .i64 oa, .int .i64 ob] 89)) wr.heap.size #[.string ot, .string ok, .int .i64 oa, .int .i64 ob] 89 := Blk.new _ _ _
      clear hxk hc0 hc1 hc2 hc3 hkl hml
      by_cases g1 : 100 < ok.size
      · by_cases g2 : 100 < ot.size
        all_goals
          go_wp2_with fail
          go_ret
          exact ⟨rfl, hBr.alloc hBr.size _⟩
      by_cases g2 : 100 < ot.size
      · go_wp2_with fail
        go_ret
        exact ⟨rfl, hBr.alloc hBr.size _⟩
      go_wp2_with fail
      obtain ⟨W1, hW1⟩ : ∃ W, W = wr.alloc (.cells #[.string ot, .string ok, .int .i64 oa, .int .i64 ob] 89) := ⟨_, rfl⟩
      obtain ⟨X, hX⟩ : ∃ X, X = wr.heap.size := ⟨_, rfl⟩
      rw [← hW1, ← hX] at hxb hLx
      rw [← hW1, ← hX]
      clear hW1 hX c0 c1 c2 c3 hL
      have f0 : W1.cell? ⟨X, 0, none⟩ = some (.string ot) := hxb.cell 0
      have f1 : W1.cell? ⟨X, 1, none⟩ = some (.string ok) := hxb.cell 1
      have f2 : W1.cell? ⟨X, 2, none⟩ = some (.int .i64 oa) := hxb.cell 2
      have f3 : W1.cell? ⟨X, 3, none⟩ = some (.int .i64 ob) := hxb.cell 3
      by_cases htk : (topicB ot && keyB ok) = false
      · have cA := KAdd_name xb ot ok oa ob W1 (by omega) (by omega) htk
        clear htk
        go_wp2_with fail
        refine cA.mono ?_
        rintro e w5 ⟨rfl, hB5⟩
        clear cA
        go_wp2_with fail
        go_roundw
        case rel => exact ⟨k + 1, D, v, rs, by omega, by go_num, by omega, hKD, OX.less (OX.below hLx hB5) (fun _ _ h => by cases h)⟩
        case measure => simp [intOf]; omega
      have t1 : topicB ot = true := by cases h : topicB ot <;> simp_all
      have t2 : keyB ok = true := by cases h : keyB ok <;> simp_all
      have t1H := Lib.hid t1
      have t2H := Lib.hid t2
      clear htk t1 t2
      by_cases hbad : oa < 0 ∨ 1099511627776 < oa ∨ ob < 0 ∨ 1099511627776 < ob
      · have cA := KAdd_num xb ot ok oa ob W1 (by omega) (by omega) t1H.out t2H.out ⟨hf3, hf4⟩ ⟨hf5, hf6⟩ hbad
        clear hbad
        go_wp2_with fail
        refine cA.mono ?_
        rintro e w5 ⟨rfl, hB5⟩
        clear cA
        go_wp2_with fail
        go_roundw
        case rel => exact ⟨k + 1, D, v, rs, by omega, by go_num, by omega, hKD, OX.less (OX.below hLx hB5) (fun _ _ h => by cases h)⟩
        case measure => simp [intOf]; omega
      · have cA := KAdd_ok (x := oa.toNat) (y := ob.toNat) hLx hKD.out (by omega) (by omega) ot ok (by omega) (by omega) t1H.out t2H.out (by omega) (by omega)
        rw [show ((oa.toNat : Nat) : Int) = oa by omega, show ((ob.toNat : Nat) : Int) = ob by omega] at cA
        clear hbad
        go_wp2_with fail
        refine cA.mono ?_
        rintro e w5 ⟨D', rfl, hX, hKD'⟩
        have hKDn := Lib.hid hKD'
        clear cA hKD'
        go_wp2_with fail
        go_roundw
        case rel => exact ⟨k + 1, D', _, _, by omega, by go_num, by simp; omega, hKDn, OX.less hX (fun _ _ h => by cases h)⟩
        case measure => simp [intOf]; omega
    · obtain rfl : k = n := by omega
      have hmm := hmmH.out
      have hV0 := ((hL.sx).more (kind_pover _ _ _ _ _) (w' := wr.alloc (.map #[] 0)) ((Below.refl _ wr).alloc (Nat.le_refl _) _) (OAnd (fun _ => none) wr.heap.size (.map #[] 0)) (fun k o ho => by
        by_cases hk : k = wr.heap.size
        · subst hk; rw [OAnd.at] at ho; cases ho; exact .inr ⟨Nat.le_refl _, heap_alloc_new wr _⟩
        · rw [OAnd.ne hk] at ho; cases ho)).rx
      have hS0 := IsSet.new wr
      have hm0 := hL.grew.size
      clear hL
      go_wp2_with fail
      clear hmm
      generalize wr.alloc (.map #[] 0) = W1 at *
      generalize wr.heap.size = m at *
      go_loopw [8] (fun vi w' => ∃ (q : Nat) (o : Obj), q ≤ 8 ∧ vi = .int .i64 q ∧ IsSet w' m (ints (seenTo rs q)) ∧ RX (POver 150 xb b D (rs.length : Nat)) w [] (OAnd (fun _ => none) m o) w') (fun vi _ => 8 - (intOf vi).toNat)
      case atStart => exact ⟨0, _, by omega, rfl, hS0, hV0⟩
      case round =>
        obtain ⟨q, o, hq, rfl, hS, hV⟩ := hrel
        have cL := KLen_any hV.ox.oX
        by_cases hq8 : q < 8
        · have cC := KChain_any hV.ox.oX hKD.out (by omega) q hq8
          go_wp2_with fail
          refine cL.mono ?_
          rintro e w5 ⟨rfl, rfl⟩
          clear cL
          go_wp2_with fail
          refine cC.mono ?_
          rintro e w5 ⟨ca, cc, rfl, hI, hB5⟩
          have hV5 := hV.below (kind_pover _ _ _ _ _) hB5
          have hS5 := hS.at (hB5.block _ hS.lt)
          have hfirst := Lib.hid (fun n => @chain_first rs q 0 n)
          have hnext := Lib.hid (fun j n p => @chain_next rs q j n p)
          have hnot := Lib.hid (fun j n => @seen_not rs q j n)
          have hmem := Lib.hid (fun j n => @chain_first rs q j n)
          have hst : Hid (seenTo rs (q + 1) = seenTo rs q ++ chainTo rs q rs.length) := rfl
          have hll := chainTo_len rs q rs.length
          obtain ⟨cl, hcl⟩ : ∃ cl, (chainTo rs q rs.length).length = cl := ⟨_, rfl⟩
          rw [hcl] at hll ⊢
          have hclH := Lib.hid hcl
          generalize chainTo rs q rs.length = ch at *
          clear cC hcl hV hS hB5
          go_wp2_with fail
          go_loopw [9, 63] (fun vl vi w' => ∃ (j la : Nat) (o : Obj), j ≤ cl ∧ vi = .int .i64 j ∧ vl = .int .i64 la ∧ Hid (∀ n, ch[j]? = some n → n < la) ∧ IsSet w' m (ints (seenTo rs q ++ ch.take j)) ∧ IntSl w' ca (ints ch) ∧ RX (POver 150 xb b D (rs.length : Nat)) w [] (OAnd (fun _ => none) m o) w') (fun _ vi _ => cl - (intOf vi).toNat)
          case atStart => exact ⟨0, rs.length + 1, _, by omega, rfl, by go_num, (fun n h => by have := (hfirst.out n h).2; omega), by simpa using hS5, hI, hV5⟩
          case round =>
            obtain ⟨j, la, o, hj, rfl, rfl, hla, hS, hI, hV⟩ := hrel
            by_cases hjl : j < cl
            · obtain ⟨y, hy⟩ : ∃ y, ch[j]? = some y := ⟨ch[j]'(by rw [hclH.out]; exact hjl), by simp⟩
              obtain ⟨g, off, rfl, hc⟩ := hI j y (ints_get hy)
              have h1 := (hmem.out j y hy).1
              have h2 := hla.out y hy
              have hno : (y : Int) ∉ ints (seenTo rs q ++ ch.take j) := fun h => by
                unfold ints at h
                obtain ⟨z, hz, e⟩ := List.mem_map.1 h
                have : z = y := by omega
                subst this
                exact hnot.out j z hy hz
              have hlk := run_lookI hS (y : Int)
              rw [decide_eq_false hno] at hlk
              have hy1 : (1 : Int) ≤ y := by omega
              have hy2 : (y : Int) < la := by omega
              have hnn := Lib.hid (fun p => hnext.out j y p hy)
              have htk : Hid (ints (seenTo rs q ++ ch.take j) ++ [(y : Int)] = ints (seenTo rs q ++ ch.take (j + 1))) := by
                show _ = _
                rw [List.take_add_one, hy]; simp [ints]
              have hnoH := Lib.hid hno
              clear hy hno h1 h2
              go_wp2_with (at_mapUpdate; refine wpList_putI rfl _ _ _ rfl m (y : Int) _ rfl rfl rfl hS hnoH.out ?_; intro w6 hS6 hg6)
              rw [htk.out] at hS6
              obtain ⟨es, ck, ho6⟩ := hS6.obj
              have hV6 := RX.less (O' := OAnd (fun _ => none) m (.map es ck)) (hV.grown (kind_pover _ _ _ _ _) (OAnd.at _ _ _) hm0 hg6 ho6) (fun k x hx => by
                by_cases hk : k = m
                · subst hk; rw [OAnd.at] at hx ⊢; exact hx
                · rw [OAnd.ne hk] at hx; cases hx)
              have hI6 := hI.grown hS hg6
              clear hlk hS hV hI hc
              go_wp2_with fail
              go_roundw
              case rel => exact ⟨j + 1, y, _, by omega, by go_num, rfl, hnn, hS6, hI6, hV6⟩
              case measure => simp [intOf]; omega
            · have hte : ch.take j = ch := List.take_of_length_le (by rw [hclH.out]; omega)
              rw [hte, ← hst.out] at hS
              clear hte
              go_wp2_with fail
              go_roundw
              case rel => exact ⟨q + 1, _, by omega, by go_num, hS, hV⟩
              case measure => simp [intOf]; omega
        · obtain rfl : q = 8 := by omega
          have hle := run_lenI hS
          rw [ints_len, seen_all] at hle
          clear hS
          go_wp2_with fail
          refine cL.mono ?_
          rintro e w5 ⟨rfl, rfl⟩
          go_wp2_with fail
          go_ret
          exact ⟨rfl, hV.grew⟩
end Go.Proofs.Ytndpmjanflahhaa
