/-
  THE STATEMENTS OF LAYER 16: TlogTells, the walk.
-/
import Derived.Test.YtndpmjanflahhaaTl12
namespace Go.Proofs.Ytndpmjanflahhaa
open Go.RowKit Go.MapKept

set_option maxRecDepth 100000 in
set_option maxHeartbeats 4000000 in
theorem tlogTells_any (hand : Int) (a : Option Addr) (cap : Nat) (xs : List TOp) (w : World) (hh : I64 hand) (hl : xs.length ≤ 9223372036854775807) (hr : TOpSl w a xs) (hx : ∀ o ∈ xs, o.Fits) : Calls Try.prog 18 #[.int .i64 hand, .slice a xs.length cap] w (LastsPost w) := by
  obtain ⟨iT, hiT, hzT, hsT, hyT⟩ := info_parts info_top
  obtain ⟨i0, hi0, hz0, hz1, hz2⟩ := info_parts info_int
  have hr' := Lib.hid hr
  have hx' := Lib.hid hx
  obtain ⟨hh1, hh2⟩ := hh
  obtain ⟨n, hn⟩ : ∃ n, xs.length = n := ⟨_, rfl⟩
  rw [hn] at hl ⊢
  have hn' := Lib.hid hn
  clear hn hr hx
  go_enter Try.func18, Try.ntmps18
  go_wp2_with fail
  refine (awake16_any w).mono ?_
  rintro e w1 ⟨rfl, hB1⟩
  by_cases hbig : 200 < n
  · go_wp2_with fail
    go_ret
    exact ⟨rfl, hB1⟩
  go_wp2_with fail
  refine (New_lives (w0 := w) hB1 16777216 (by omega)).mono ?_
  rintro e w2 ⟨b, rfl, h2⟩
  by_cases hbad : hand < 0 ∨ 1099511627776 < hand
  · have cB := TNew_bad b hand w2 ⟨hh1, hh2⟩ hbad
    by_cases hb0 : hand < 0
    case' neg => have hb1 : 1099511627776 < hand := by omega
    all_goals
      clear hbad
      go_wp2_with fail
      refine cB.mono ?_
      rintro e w3 ⟨rfl, rfl⟩
      clear cB
      go_wp2_with fail
      go_ret
      exact ⟨rfl, h2.grew⟩
  obtain ⟨h0, rfl⟩ : ∃ h0 : Nat, hand = h0 := ⟨hand.toNat, by omega⟩
  have hb0 : ¬ (h0 : Int) < 0 := by omega
  have hb1 : ¬ 1099511627776 < (h0 : Int) := by omega
  have hb2 : h0 ≤ 1099511627776 := by omega
  clear hbad hh1 hh2
  have cN := TNew_ok 16777216 w b w2 h0 h2 (by omega) (by omega) (by decide)
  go_wp2_with fail
  refine cN.mono ?_
  rintro e w3 ⟨lb, wb, rfl, h3⟩
  have h3' := h3.nil 106 3
  clear cN h2 hB1 hb0 hb1 h3
  go_wp2_with fail
  go_loopw [7, 8, 53] (fun vh vw vi wr => ∃ (k h c P u : Nat) (Q : Nat → List WRec) (W : List (Nat × Nat)) (ws : List TOp), k ≤ n ∧ vi = .int .i64 k ∧ vh = .int .i64 h ∧ P ≤ k ∧ h0 ≤ h ∧ h ≤ h0 + 300 * k ∧ u ≤ 2 + 2 * k + (h - h0) * 1600000 ∧ Hid (Tells 3800 h0 h P c W Q) ∧ Hid (WsR ws W) ∧ ws.length ≤ k ∧ LogX 16777216 w lb wb b h c Q u [topRow vw ws] (fun _ => none) wr) (fun _ _ vi _ => n - (intOf vi).toNat)
  case atStart => exact ⟨0, h0, 0, 0, 2, _, [], [], by omega, rfl, rfl, by omega, by omega, by omega, by omega, Tells.start 3800 h0, rfl, by simp, h3'⟩
  case round =>
    obtain ⟨k, h, c, P, u, Q, W, ws, hk, rfl, rfl, hP, hge, hle, hu, hT, hW, hwl, hL⟩ := hrel
    by_cases hkn : k < n
    · have hkl : k < xs.length := by rw [hn'.out]; exact hkn
      obtain ⟨⟨ok, od, oa⟩, hxk⟩ : ∃ x, xs[k]? = some x := ⟨xs[k], by simp [hkl]⟩
      obtain ⟨g, off, rfl, hc0, hc1, hc2⟩ := hr'.out k _ hxk
      obtain ⟨⟨hf1, hf2⟩, ⟨hf3, hf4⟩, hf5, hf6⟩ := hx'.out _ (List.mem_of_getElem? hxk)
      dsimp only at hc0 hc1 hc2 hf1 hf2 hf3 hf4 hf5 hf6
      have c0 := (hL.grew.cell (World.block_lt_of_cell? _ _ hc0)).trans hc0
      have c1 := (hL.grew.cell (World.block_lt_of_cell? _ _ hc1)).trans hc1
      have c2 := (hL.grew.cell (World.block_lt_of_cell? _ _ hc2)).trans hc2
      have hrow := hL.row List.mem_cons_self
      obtain ⟨wa, wc, hvw, hwc⟩ := row_slice hrow
      dsimp only at hvw
      subst hvw
      have hLx := hL.one #[.int .i64 ok, .int .i64 od, .int .i64 oa] 106
      have hxb : Blk (wr.alloc (.cells #[.int .i64 ok, .int .i64 od, .int .i64 oa] 106)) wr.heap.size #[.int .i64 ok, .int .i64 od, .int .i64 oa] 106 := Blk.new _ _ _
      have hmany := hT.out.many
      have hcb : c ≤ 760000 := by omega
      have hub : u ≤ 100000000000 := by omega
      clear hxk hc0 hc1 hc2 hkl hrow hmany hL
      by_cases k0 : ok = 0
      · as_aux_lemma =>
          subst k0
          obtain ⟨W1, hW1⟩ : ∃ W, W = wr.alloc (.cells #[.int .i64 0, .int .i64 od, .int .i64 oa] 106) := ⟨_, rfl⟩
          obtain ⟨X, hX⟩ : ∃ X, X = wr.heap.size := ⟨_, rfl⟩
          rw [← hW1, ← hX] at hxb hLx
          by_cases hbad : od < 0 ∨ 1099511627776 < od ∨ oa < 0 ∨ 1099511627776 < oa
          · have cP := TPut_bad lb od oa W1 ⟨hf3, hf4⟩ ⟨hf5, hf6⟩ hbad
            by_cases n1 : od < 0
            all_goals by_cases n2 : 1099511627776 < od
            all_goals by_cases n3 : oa < 0
            all_goals (try omega)
            all_goals (try (have n4 : 1099511627776 < oa := by omega))
            all_goals clear hbad
            all_goals
              go_wp2_with fail
              rw [← hW1]
              clear hW1 hX c0 c1 c2
              refine cP.mono ?_
              rintro e w5 ⟨rfl, rfl⟩
              clear cP
              go_wp2_with fail
              have cW := TWaits_any hLx (by omega)
              rw [hT.out.waits, hW.out.len] at cW
              go_wp2_with fail
              refine cW.mono ?_
              rintro e w8 ⟨rfl, hL8⟩
              have cHd := THand_any hL8
              clear cW
              go_wp2_with fail
              refine cHd.mono ?_
              rintro e w9 ⟨rfl, rfl⟩
              clear cHd
              go_wp2_with fail
              go_roundw
              case rel => exact ⟨k + 1, h, c, P, u, Q, W, ws, by omega, by go_num, rfl, by omega, by omega, by omega, by omega, hT, hW, by omega, hL8.bare⟩
              case measure => simp [intOf]; omega
          have p1 : ¬ od < 0 := by omega
          have p2 : ¬ 1099511627776 < od := by omega
          have p3 : ¬ oa < 0 := by omega
          have p4 : ¬ 1099511627776 < oa := by omega
          by_cases hlate : od ≤ h
          · have cP := TPut_late hLx od oa ⟨by omega, by omega⟩ ⟨by omega, by omega⟩ hlate
            clear hbad
            go_wp2_with fail
            rw [← hW1]
            clear hW1 hX c0 c1 c2
            refine cP.mono ?_
            rintro e w5 ⟨rfl, rfl⟩
            clear cP
            go_wp2_with fail
            have cW := TWaits_any hLx (by omega)
            rw [hT.out.waits, hW.out.len] at cW
            go_wp2_with fail
            refine cW.mono ?_
            rintro e w8 ⟨rfl, hL8⟩
            have cHd := THand_any hL8
            clear cW
            go_wp2_with fail
            refine cHd.mono ?_
            rintro e w9 ⟨rfl, rfl⟩
            clear cHd
            go_wp2_with fail
            go_roundw
            case rel => exact ⟨k + 1, h, c, P, u, Q, W, ws, by omega, by go_num, rfl, by omega, by omega, by omega, by omega, hT, hW, by omega, hL8.bare⟩
            case measure => simp [intOf]; omega
          obtain ⟨dd, rfl⟩ : ∃ dd : Nat, od = dd := ⟨od.toNat, by omega⟩
          obtain ⟨aa, rfl⟩ : ∃ aa : Nat, oa = aa := ⟨oa.toNat, by omega⟩
          have cP := TPut_ok hLx dd aa (by omega) (by omega) (by omega) (by omega) (by omega) (by omega)
          have hTn := Lib.hid (hT.out.put (by omega) (due := dd) (at_ := aa) (by omega))
          have hWn := Lib.hid (hW.out.add (o := ⟨0, dd, aa⟩) (d := dd) (a := aa) rfl rfl)
          generalize setQ Q (dd % 16) (Q (dd % 16) ++ [⟨dd, aa, 1⟩]) = Q' at *
          clear hbad
          go_wp2_with fail
          rw [← hW1]
          clear hW1 c0 c1 c2
          refine cP.mono ?_
          rintro e w5 ⟨rfl, hL5⟩
          have hx5 : Blk w5 X #[.int .i64 0, .int .i64 dd, .int .i64 aa] 106 := hL5.block (OAnd.at _ _ _)
          have q0 : w5.cell? ⟨X, 0, none⟩ = some (.int .i64 0) := hx5.cell 0
          have q1 : w5.cell? ⟨X, 1, none⟩ = some (.int .i64 dd) := hx5.cell 1
          have q2 : w5.cell? ⟨X, 2, none⟩ = some (.int .i64 aa) := hx5.cell 2
          have hL6 := hL5.below ((Below.refl _ w5).alloc (Nat.le_refl _) (.cells #[.int .i64 0, .int .i64 dd, .int .i64 aa] 106))
          have hrow : World.ownsRow _ 0 106 3 (.slice wa ws.length wc) ws.length (topCells ws) := hL6.row List.mem_cons_self
          rw [← hX]
          clear cP hX hxb hLx hL5 hx5
          go_wp2_with (at_builtin; refine wpList_append_new rfl _ _ 104 rfl 106 3 24 iT _ Try.underlying104 hiT hzT hsT hyT rfl (by decide) (.slice wa ws.length wc) _ _ rfl hrow _ 1 1 [.int .i64 0, .int .i64 dd, .int .i64 aa] rfl rfl (new_cells w5 #[.int .i64 0, .int .i64 dd, .int .i64 aa] 106) (by simp [Value.oneCell']) (by decide) (by unfold maxLen; omega) (by omega) ?_; intro g5 cap5 w6 hAp)
          have hL7 := hL6.push hAp
          have hL9 : LogX 16777216 w lb wb b h (c + 1) Q' (u + 2) [topRow (.slice (some ⟨g5, 0, none⟩) (ws.length + 1) cap5) (ws ++ [⟨0, dd, aa⟩])] (fun _ => none) w6 := by
            have e1 : (ws ++ [(⟨0, dd, aa⟩ : TOp)]).length = ws.length + 1 := by simp
            have e2 := topCells_add ws ⟨0, dd, aa⟩
            show LogX _ _ _ _ _ _ _ _ _ [⟨_, _, _, (ws ++ [(⟨0, dd, aa⟩ : TOp)]).length, topCells (ws ++ [(⟨0, dd, aa⟩ : TOp)])⟩] _ _
            rw [e1, e2]
            exact hL7.bare
          have hwl2 : (ws ++ [(⟨0, dd, aa⟩ : TOp)]).length = ws.length + 1 := by simp
          have hwl2H := Lib.hid hwl2
          clear hwl2 hrow hL6 hL7 hAp q0 q1 q2
          have cW := TWaits_any hL9 (by omega)
          rw [hTn.out.waits, hWn.out.len, hwl2H.out] at cW
          go_wp2_with fail
          refine cW.mono ?_
          rintro e w8 ⟨rfl, hL8⟩
          have cHd := THand_any hL8
          clear cW hL9
          go_wp2_with fail
          refine cHd.mono ?_
          rintro e w9 ⟨rfl, rfl⟩
          clear cHd
          go_wp2_with fail
          go_roundw
          case rel => exact ⟨k + 1, h, c + 1, P + 1, u + 2, Q', _, ws ++ [⟨0, dd, aa⟩], by omega, by go_num, rfl, by omega, by omega, by omega, by omega, hTn, hWn, by rw [hwl2H.out]; omega, hL8⟩
          case measure => simp [intOf]; omega
      by_cases k1 : ok = 1
      · as_aux_lemma =>
          subst k1
          obtain ⟨V1, hV1⟩ : ∃ W, W = wr.alloc (.cells #[.int .i64 1, .int .i64 od, .int .i64 oa] 106) := ⟨_, rfl⟩
          obtain ⟨X, hX⟩ : ∃ X, X = wr.heap.size := ⟨_, rfl⟩
          rw [← hV1, ← hX] at hxb hLx
          by_cases hfar : (h : Int) + 300 < od
          · go_wp2_with fail
            go_ret
            rw [← hV1]
            exact ⟨rfl, hLx.grew⟩
          go_wp2_with fail
          rw [← hV1, ← hX]
          clear hV1 hX c0 c1 c2 hxb
          go_loopw [7, 8] (fun vh vw w' => ∃ (h1 c1 u1 : Nat) (Q1 : Nat → List WRec) (W1 : List (Nat × Nat)) (ws1 : List TOp), vh = .int .i64 h1 ∧ h ≤ h1 ∧ ((h1 : Int) ≤ od ∨ h1 = h) ∧ u1 ≤ 2 + 2 * k + (h1 - h0) * 1600000 ∧ Hid (Tells 3800 h0 h1 P c1 W1 Q1) ∧ Hid (WsR ws1 W1) ∧ ws1.length ≤ k ∧ LogX 16777216 w lb wb b h1 c1 Q1 u1 [topRow vw ws1] (OAnd (fun _ => none) X (.cells #[.int .i64 1, .int .i64 od, .int .i64 oa] 106)) w') (fun vh _ _ => (od - intOf vh).toNat)
          case atStart => exact ⟨h, c, u, Q, W, ws, rfl, by omega, .inr rfl, hu, hT, hW, hwl, hLx⟩
          case round =>
            clear hT hW hwl hLx hu hcb hub hwc
            obtain ⟨h1, c1, u1, Q1, W1, ws1, rfl, hh1, hh2, hu1, hT1, hW1, hwl1, hL1⟩ := hrel
            have hx1 : Blk wr X #[.int .i64 1, .int .i64 od, .int .i64 oa] 106 := hL1.block (OAnd.at _ _ _)
            have e1 : wr.cell? ⟨X, 1, none⟩ = some (.int .i64 od) := hx1.cell 1
            have hmany := hT1.out.many
            have hcb : c1 ≤ 760000 := by omega
            have hh3 : h1 ≤ h + 300 := by omega
            have hub : u1 ≤ 100000000000 := by omega
            have hrow := hL1.row List.mem_cons_self
            obtain ⟨wa1, wc1, hvw, hwc⟩ := row_slice hrow
            dsimp only at hvw
            subst hvw
            clear hrow hmany hx1
            by_cases hlt : (h1 : Int) < od
            · have hL2 := ((hL1.nil 106 3).nil 3 1)
              clear hL1
              go_wp2_with fail
              go_loopw [12, 13, 114] (fun va vl vi w' => ∃ (j : Nat), j ≤ ws1.length ∧ vi = .int .i64 j ∧ LogX 16777216 w lb wb b h1 c1 Q1 u1 [intRow va ((dueW ((h1 + 1 : Nat) : Int) (ws1.take j)).map TOp.at_), topRow vl (restW ((h1 + 1 : Nat) : Int) (ws1.take j)), topRow (.slice wa1 ws1.length wc1) ws1] (OAnd (fun _ => none) X (.cells #[.int .i64 1, .int .i64 od, .int .i64 oa] 106)) w') (fun _ _ vi _ => ws1.length - (intOf vi).toNat)
              case atStart => exact ⟨0, by omega, rfl, hL2⟩
              case round =>
                clear hL2 e1
                obtain ⟨j, hj, rfl, hL⟩ := hrel
                by_cases hjn : j < ws1.length
                · as_aux_lemma =>
                  obtain ⟨⟨xk, xd, xa⟩, hm⟩ : ∃ m, ws1[j]? = some m := ⟨ws1[j], by simp [hjn]⟩
                  obtain ⟨g, off, rfl, d0, d1, d2⟩ := topSl_of_row (hL.row (List.mem_cons_of_mem _ (List.mem_cons_of_mem _ List.mem_cons_self))) j _ hm
                  have hdw := dueW_snoc ((h1 + 1 : Nat) : Int) (ws1.take j) ⟨xk, xd, xa⟩
                  have hrw := restW_snoc ((h1 + 1 : Nat) : Int) (ws1.take j) ⟨xk, xd, xa⟩
                  have htk : ws1.take (j + 1) = ws1.take j ++ [⟨xk, xd, xa⟩] := by rw [List.take_add_one, hm]; rfl
                  rw [← htk] at hdw hrw
                  dsimp only at d0 d1 d2 hdw hrw
                  have hlb1 : (dueW ((h1 + 1 : Nat) : Int) (ws1.take j)).length ≤ 200 := Nat.le_trans (List.length_filter_le _ _) (by rw [List.length_take]; omega)
                  have hlb2 : (restW ((h1 + 1 : Nat) : Int) (ws1.take j)).length ≤ 200 := Nat.le_trans (List.length_filter_le _ _) (by rw [List.length_take]; omega)
                  have hL4 := hL.below ((Below.refl _ wr).alloc (Nat.le_refl _) (.cells #[.int .i64 xk, .int .i64 xd, .int .i64 xa] 106))
                  clear hm htk hL
                  by_cases hxd : xd = (h1 : Int) + 1
                  · rw [if_pos (by omega)] at hdw hrw
                    rw [List.append_nil] at hrw
                    subst hxd
                    have hL5 := hL4.below ((Below.refl _ _).alloc (Nat.le_refl _) (.cells #[.int .i64 xa] 3))
                    have hrow : World.ownsRow _ 0 3 1 u12 ((dueW ((h1 + 1 : Nat) : Int) (ws1.take j)).map TOp.at_).length (((dueW ((h1 + 1 : Nat) : Int) (ws1.take j)).map TOp.at_).map (Value.int .i64)) := hL5.row List.mem_cons_self
                    have hll : ((dueW ((h1 + 1 : Nat) : Int) (ws1.take j)).map TOp.at_).length ≤ 200 := by rw [List.length_map]; exact hlb1
                    have hwn : ((dueW ((h1 + 1 : Nat) : Int) (ws1.take j)).map TOp.at_) ++ [xa] = (dueW ((h1 + 1 : Nat) : Int) (ws1.take (j + 1))).map TOp.at_ := by rw [hdw]; simp
                    have hwnH := Lib.hid hwn
                    have hrwH := Lib.hid hrw
                    clear hdw hrw hwn hlb1 hlb2 hL4
                    generalize (dueW ((h1 + 1 : Nat) : Int) (ws1.take j)).map TOp.at_ = wl at *
                    go_wp2_with (at_builtin; refine wpList_append_new rfl _ _ 67 rfl 3 1 8 i0 _ Try.underlying67 hi0 hz0 hz1 hz2 rfl (by decide) u12 _ _ rfl hrow _ 1 1 [.int .i64 xa] rfl rfl (new_cells' _ (wr.heap.size + 1) (by simp) #[.int .i64 xa] 3) (by simp [Value.oneCell']) (by decide) (by unfold maxLen; omega) (by omega) ?_; intro g5 cap5 w6 hAp)
                    have hL6 := hL5.push hAp
                    have hL7 : LogX 16777216 w lb wb b h1 c1 Q1 u1 [intRow (.slice (some ⟨g5, 0, none⟩) (wl.length + 1) cap5) ((dueW ((h1 + 1 : Nat) : Int) (ws1.take (j + 1))).map TOp.at_), topRow u13 (restW ((h1 + 1 : Nat) : Int) (ws1.take (j + 1))), topRow (.slice (some ⟨g, off, none⟩) ws1.length wc1) ws1] (OAnd (fun _ => none) X (.cells #[.int .i64 1, .int .i64 od, .int .i64 oa] 106)) w6 := by
                      rw [← hwnH.out, hrwH.out]
                      have e3 : (wl ++ [xa]).length = wl.length + 1 := by simp
                      have e4 : (wl ++ [xa]).map (Value.int .i64) = wl.map (Value.int .i64) ++ [.int .i64 xa] := by simp
                      show LogX _ _ _ _ _ _ _ _ _ (⟨_, _, _, (wl ++ [xa]).length, (wl ++ [xa]).map (Value.int .i64)⟩ :: _) _ _
                      rw [e3, e4]; exact hL6
                    clear hrow hL5 hL6 hAp d0 d1 d2
                    go_wp2_with fail
                    go_roundw
                    case rel => exact ⟨j + 1, by omega, by go_num, hL7⟩
                    case measure => simp [intOf]; omega
                  · rw [if_neg (by omega)] at hdw hrw
                    rw [List.append_nil] at hdw
                    have hL5 := (hL4.perm (List.Perm.swap _ _ _)).below ((Below.refl _ _).alloc (Nat.le_refl _) (.cells #[.int .i64 xk, .int .i64 xd, .int .i64 xa] 106))
                    have hrow : World.ownsRow _ 0 106 3 u13 (restW ((h1 + 1 : Nat) : Int) (ws1.take j)).length (topCells (restW ((h1 + 1 : Nat) : Int) (ws1.take j))) := hL5.row List.mem_cons_self
                    have hdwH := Lib.hid hdw
                    have hrwH := Lib.hid hrw
                    have hne : (xd == (h1 : Int) + 1) = false := beq_eq_false_iff_ne.2 hxd
                    clear hdw hrw hlb1 hL4
                    generalize restW ((h1 + 1 : Nat) : Int) (ws1.take j) = rl at *
                    go_wp2_with (at_builtin; refine wpList_append_new rfl _ _ 104 rfl 106 3 24 iT _ Try.underlying104 hiT hzT hsT hyT rfl (by decide) u13 _ _ rfl hrow _ 1 1 [.int .i64 xk, .int .i64 xd, .int .i64 xa] rfl rfl (new_cells' _ (wr.heap.size + 1) (by simp) #[.int .i64 xk, .int .i64 xd, .int .i64 xa] 106) (by simp [Value.oneCell']) (by decide) (by unfold maxLen; omega) (by omega) ?_; intro g5 cap5 w6 hAp)
                    have hL6 := (hL5.push hAp).perm (List.Perm.swap _ _ _)
                    have hL7 : LogX 16777216 w lb wb b h1 c1 Q1 u1 [intRow u12 ((dueW ((h1 + 1 : Nat) : Int) (ws1.take (j + 1))).map TOp.at_), topRow (.slice (some ⟨g5, 0, none⟩) (rl.length + 1) cap5) (restW ((h1 + 1 : Nat) : Int) (ws1.take (j + 1))), topRow (.slice (some ⟨g, off, none⟩) ws1.length wc1) ws1] (OAnd (fun _ => none) X (.cells #[.int .i64 1, .int .i64 od, .int .i64 oa] 106)) w6 := by
                      rw [hdwH.out, hrwH.out]
                      have e3 : (rl ++ [(⟨xk, xd, xa⟩ : TOp)]).length = rl.length + 1 := by simp
                      have e4 := topCells_add rl ⟨xk, xd, xa⟩
                      show LogX _ _ _ _ _ _ _ _ _ [_, ⟨_, _, _, (rl ++ [(⟨xk, xd, xa⟩ : TOp)]).length, topCells (rl ++ [(⟨xk, xd, xa⟩ : TOp)])⟩, _] _ _
                      rw [e3, e4]; exact hL6
                    clear hrow hL5 hL6 hAp d0 d1 d2 hne
                    go_wp2_with fail
                    go_roundw
                    case rel => exact ⟨j + 1, by omega, by go_num, hL7⟩
                    case measure => simp [intOf]; omega
                · have hte : ws1.take j = ws1 := List.take_of_length_le (by omega)
                  rw [hte] at hL
                  have hL3 := (hL.perm (List.perm_append_comm (l₁ := [_, _]) (l₂ := [_]))).tail
                  have hra := hL3.row List.mem_cons_self
                  obtain ⟨va, vc, hva, hvc⟩ := row_slice hra
                  dsimp only at hva
                  subst hva
                  have hx1 := hL3.block (OAnd.at _ _ _)
                  have hx2 : Blk wr X #[.int .i64 1, .int .i64 od, .int .i64 oa] 106 := hx1
                  have e1 : wr.cell? ⟨X, 1, none⟩ = some (.int .i64 od) := hx2.cell 1
                  have hnx := hT1.out.next (by omega)
                  have hmany2 := hnx.many
                  have cN := TNext_yes hL3 (now := od) hlt (by omega) (by omega) (fun r hr => by
                    have h16 : (h1 + 1) % 16 < 16 := Nat.mod_lt _ (by omega)
                    have h5 := hT1.out.small (by omega) h16 r hr
                    have h6 : (r.due, r.at_) ∈ W1.filter (fun x => x.1 % 16 == (h1 + 1) % 16) := by rw [← hT1.out.q _ h16]; exact List.mem_map.2 ⟨r, hr, rfl⟩
                    exact ⟨by simpa using (List.mem_filter.1 h6).2, by omega⟩) (by omega) (by omega)
                  have hnxH := Lib.hid hnx
                  have hall := Lib.hid (fun tl htl => told_all hT1.out (tl := tl) htl hW1.out)
                  have hWn := Lib.hid (hW1.out.rest h1)
                  have hrl : (restW ((h1 + 1 : Nat) : Int) ws1).length ≤ k := Nat.le_trans (List.length_filter_le _ _) hwl1
                  have hrlH := Lib.hid hrl
                  have hwlb : ((dueW ((h1 + 1 : Nat) : Int) ws1).map TOp.at_).length ≤ 200 := by
                    have h1 : (dueW ((h1 + 1 : Nat) : Int) ws1).length ≤ ws1.length := List.length_filter_le _ _
                    rw [List.length_map]; omega
                  have hrowlen := Lib.hid hwlb
                  clear hwlb
                  generalize (dueW ((h1 + 1 : Nat) : Int) ws1).map TOp.at_ = wl at *
                  generalize restW ((h1 + 1 : Nat) : Int) ws1 = wr1 at *
                  obtain ⟨tn, htn⟩ : ∃ tn, wl.length = tn := ⟨_, rfl⟩
                  have htnH := Lib.hid htn
                  clear hra hx1 hx2 hte hL hnx hL3 hrl
                  rw [htn]
                  clear htn
                  go_wp2_with fail
                  refine cN.mono ?_
                  rintro e w5 ⟨ra, rc, tl, rfl, htl, hL5⟩
                  obtain ⟨hlen, hel⟩ := hall.out tl htl
                  rw [htnH.out] at hlen
                  have hlenH := Lib.hid hlen
                  have helH := Lib.hid hel
                  rw [hlen]
                  clear cN hlen hel htl e1 hall
                  generalize (leftW (h1 + 1) (Q1 ((h1 + 1) % 16))) = lf at *
                  generalize setQ Q1 ((h1 + 1) % 16) lf = Q2 at *
                  have hL5' : LogX 16777216 w lb wb b (h1 + 1) (c1 + lf.length) Q2 (u1 + 1 + 2 * c1) [markRow ra rc tl, intRow (.slice va tn vc) wl, topRow u13 wr1] (OAnd (fun _ => none) X (.cells #[.int .i64 1, .int .i64 od, .int .i64 oa] 106)) w5 := by rw [← htnH.out]; exact hL5
                  go_wp2_with fail
                  have htnb : tn ≤ 9223372036854775807 := by have := htnH.out; have := hrowlen.out; omega
                  go_loopw [156] (fun vi w' => ∃ (j : Nat), j ≤ tn ∧ vi = .int .i64 j ∧ LogX 16777216 w lb wb b (h1 + 1) (c1 + lf.length) Q2 (u1 + 1 + 2 * c1) [markRow ra rc tl, intRow (.slice va tn vc) wl, topRow u13 wr1] (OAnd (fun _ => none) X (.cells #[.int .i64 1, .int .i64 od, .int .i64 oa] 106)) w') (fun vi _ => tn - (intOf vi).toNat)
                  case atStart => exact ⟨0, by omega, rfl, hL5'⟩
                  case round =>
                    clear hL5 hL5'
                    obtain ⟨j, hj, rfl, hL⟩ := hrel
                    by_cases hjn : j < tn
                    · have hjl : j < tl.length := by rw [hlenH.out]; exact hjn
                      obtain ⟨⟨md, ma, mh, mp⟩, hm⟩ : ∃ m, tl[j]? = some m := ⟨tl[j], by simp [hjl]⟩
                      obtain ⟨m1, m2, m3⟩ := helH.out j _ hm
                      obtain ⟨g1, off1, rfl, d0, d1, d2, d3⟩ := markSl_of_row (hL.row List.mem_cons_self) j _ hm
                      obtain ⟨g2, off2, rfl, d4⟩ := intSl_of_row' htnH.out (hL.row (List.mem_cons_of_mem _ List.mem_cons_self)) j _ m3
                      dsimp only at d0 d1 d2 d3 m1 m2 d4
                      subst m1
                      rw [show ((h1 + 1 : Nat) : Int) = (h1 : Int) + 1 by omega] at d0
                      have hp1 : decide (mp < 1) = false := decide_eq_false (by omega)
                      have hp2 : decide ((mp : Int) < 1) = false := decide_eq_false (by omega)
                      clear hm m2 m3 hjl
                      go_wp2_with fail
                      go_quiet (fail)
                      have hL6 := hL.below (below_drewN _ nq)
                      clear d0 d1 d2 d3 d4 hL hp1 hp2
                      go_wp2_with fail
                      go_roundw
                      case rel => exact ⟨j + 1, by omega, by go_num, hL6⟩
                      case measure => simp [intOf]; omega
                    · have hL6 := (hL.tail.tail).more (2 + 2 * k + (h1 + 1 - h0) * 1600000) (by omega)
                      clear hL
                      go_wp2_with fail
                      go_roundw
                      case rel => exact ⟨h1 + 1, _, _, _, _, wr1, by go_num, by omega, .inl (by omega), by omega, hnxH, hWn, hrlH.out, hL6⟩
                      case measure => simp [intOf]; omega
            · have cN := TNext_no hL1 (now := od) (by omega)
              clear e1
              have hx1 : Blk wr X #[.int .i64 1, .int .i64 od, .int .i64 oa] 106 := hL1.block (OAnd.at _ _ _)
              have e1 : wr.cell? ⟨X, 1, none⟩ = some (.int .i64 od) := hx1.cell 1
              clear hx1
              go_wp2_with fail
              refine cN.mono ?_
              rintro e w5 ⟨rfl, rfl⟩
              clear cN e1
              go_wp2_with fail
              have cW := TWaits_any hL1 (by omega)
              rw [hT1.out.waits, hW1.out.len] at cW
              go_wp2_with fail
              refine cW.mono ?_
              rintro e w8 ⟨rfl, hL8⟩
              have cHd := THand_any hL8
              clear cW
              go_wp2_with fail
              refine cHd.mono ?_
              rintro e w9 ⟨rfl, rfl⟩
              clear cHd
              go_wp2_with fail
              go_roundw
              case rel => exact ⟨k + 1, h1, c1, P, u1, Q1, W1, ws1, by omega, by go_num, rfl, by omega, by omega, by omega, by omega, hT1, hW1, by omega, hL8.bare⟩
              case measure => simp [intOf]; omega
      · as_aux_lemma =>
          obtain ⟨W1, hW1⟩ : ∃ W, W = wr.alloc (.cells #[.int .i64 ok, .int .i64 od, .int .i64 oa] 106) := ⟨_, rfl⟩
          obtain ⟨X, hX⟩ : ∃ X, X = wr.heap.size := ⟨_, rfl⟩
          rw [← hW1, ← hX] at hxb hLx
          go_wp2_with fail
          rw [← hW1]
          clear hW1 hX c0 c1 c2
          have cW := TWaits_any hLx (by omega)
          rw [hT.out.waits, hW.out.len] at cW
          go_wp2_with fail
          refine cW.mono ?_
          rintro e w8 ⟨rfl, hL8⟩
          have cHd := THand_any hL8
          clear cW
          go_wp2_with fail
          refine cHd.mono ?_
          rintro e w9 ⟨rfl, rfl⟩
          clear cHd
          go_wp2_with fail
          go_roundw
          case rel => exact ⟨k + 1, h, c, P, u, Q, W, ws, by omega, by go_num, rfl, by omega, by omega, by omega, by omega, hT, hW, by omega, hL8.bare⟩
          case measure => simp [intOf]; omega
    · go_wp2_with fail
      go_ret
      exact ⟨rfl, hL.grew⟩
end Go.Proofs.Ytndpmjanflahhaa
