/-
  THE STATEMENTS OF LAYER 16: TlogOrder, the walk.
-/
import Derived.Test.YtndpmjanflahhaaTl10
namespace Go.Proofs.Ytndpmjanflahhaa
open Go.RowKit Go.MapKept

set_option maxRecDepth 100000 in
set_option maxHeartbeats 2000000 in
theorem tlogOrder_any (a : Option Addr) (cap : Nat) (xs : List Nat) (w : World) (hl : xs.length ≤ 9223372036854775807) (hr : U16Sl w a xs) : Calls Try.prog 19 #[.slice a xs.length cap] w (LastsPost w) := by
  have hr' := Lib.hid hr
  have hmm := @run_makeMap Try.prog
  have hmmH := Lib.hid hmm
  obtain ⟨n, hn⟩ : ∃ n, xs.length = n := ⟨_, rfl⟩
  rw [hn] at hl ⊢
  have hn' := Lib.hid hn
  clear hn hr hmm
  go_enter Try.func19, Try.ntmps19
  go_wp2_with fail
  refine (awake16_any w).mono ?_
  rintro e w1 ⟨rfl, hB1⟩
  by_cases hbig : 40 < n
  · go_wp2_with fail
    go_ret
    exact ⟨rfl, hB1⟩
  go_wp2_with fail
  refine (New_lives (w0 := w) hB1 1048576 (by omega)).mono ?_
  rintro e w2 ⟨b, rfl, h2⟩
  go_wp2_with fail
  refine (TNew_ok 1048576 w b w2 0 h2 (by omega) (by omega) (by decide)).mono ?_
  rintro e w3 ⟨lb, wb, rfl, h3⟩
  clear h2 hB1
  go_wp2_with fail
  go_loopw [5, 32] (fun vl vi wr => ∃ (k la u : Nat) (Q : Nat → List WRec), k ≤ n ∧ vi = .int .i64 k ∧ vl = .int .i64 la ∧ la ≤ 300 ∧ u ≤ 2 + 2 * k ∧ Hid (Tells 30 0 0 k k (ordW xs k) Q) ∧ Hid (∀ x ∈ ordW xs k, x.1 ≤ la) ∧ LogX 1048576 w lb wb b 0 k Q u [] (fun _ => none) wr) (fun _ vi _ => n - (intOf vi).toNat)
  case atStart => exact ⟨0, 0, 2, _, by omega, rfl, rfl, by omega, by omega, Tells.start 30 0, (fun x hx => by cases hx), h3⟩
  case round =>
    obtain ⟨k, la, u, Q, hk, rfl, rfl, hla, hu, hT, hM, hL⟩ := hrel
    by_cases hkn : k < n
    · have hkl : k < xs.length := by rw [hn'.out]; exact hkn
      obtain ⟨x, hx⟩ : ∃ x, xs[k]? = some x := ⟨xs[k], by simp [hkl]⟩
      obtain ⟨hx16, g, off, rfl, hc⟩ := hr'.out k x hx
      have c0 := (hL.grew.cell (World.block_lt_of_cell? _ _ hc)).trans hc
      have cP := TPut_ok hL (1 + x % 300) k (by omega) (by omega) (by omega) (by omega) (by omega) (by omega)
      rw [show ((1 + x % 300 : Nat) : Int) = 1 + (x : Int) % 300 by omega] at cP
      have hTn := Lib.hid (hT.out.put (by omega) (due := 1 + x % 300) (at_ := k) (by omega))
      have hsu := Lib.hid (ordW_succ xs k hx)
      have hmx : Value.int .i64 (max (la : Int) (1 + (x : Int) % 300)) = .int .i64 ((max la (1 + x % 300) : Nat) : Int) := by congr 1; omega
      have hmxH := Lib.hid hmx
      clear hx hc hkl hL hmx
      go_wp2_with fail
      refine cP.mono ?_
      rintro e w4 ⟨rfl, hL4⟩
      clear cP c0
      go_wp2_with fail
      go_roundw
      case rel => exact ⟨k + 1, max la (1 + x % 300), u + 2, _, by omega, by go_num, hmxH.out, by omega, by omega, by rw [hsu.out]; exact hTn.out, (fun y hy => by
        rw [hsu.out] at hy
        rcases List.mem_append.1 hy with hy | hy
        · have := hM.out y hy; omega
        · simp at hy; subst hy; show 1 + x % 300 ≤ _; omega), hL4⟩
      case measure => simp [intOf]; omega
    · obtain rfl : k = n := by omega
      have hmm := hmmH.out
      have hL0 := hL.made
      have hS0 := IsSet.new wr
      have hm0 := hL.grew.size
      have hI0 : OrdI k (ordW xs k) [] := by unfold OrdI; rw [ordW_snd]; exact List.Perm.refl _
      have hI0H := Lib.hid hI0
      clear hL hI0
      go_wp2_with fail
      clear hmm
      generalize wr.alloc (.map #[] 0) = W1 at *
      generalize wr.heap.size = m at *
      go_loopw [10] (fun vw w' => ∃ (h c wz u : Nat) (Q : Nat → List WRec) (W : List (Nat × Nat)) (seen : List Nat) (o : Obj), h ≤ la ∧ vw = .int .i64 wz ∧ wz ≤ h ∧ u ≤ 100 + 10000 * h ∧ Hid (Tells 30 0 h k c W Q) ∧ Hid (OrdI k W seen) ∧ Hid (∀ x ∈ W, x.1 ≤ la) ∧ IsSet w' m (ints seen) ∧ LogX 1048576 w lb wb b h c Q u [] (OAnd (fun _ => none) m o) w') (fun _ w' => la - handAt wb w')
      case atStart => exact ⟨0, k, 0, u, Q, _, [], _, by omega, rfl, by omega, by omega, hT, hI0H, hM, hS0, hL0⟩
      case round =>
        obtain ⟨h, c, wz, u, Q, W, seen, o, hh, rfl, hwz, hu, hT, hI, hM, hS, hL⟩ := hrel
        have hmany := hT.out.many
        by_cases hlt : h < la
        · have hnx := hT.out.next (by omega)
          have hmany2 := hnx.many
          have cN := TNext_yes hL (now := la) (by omega) (by omega) (by omega) (fun r hr => by
            have h16 : (h + 1) % 16 < 16 := Nat.mod_lt _ (by omega)
            have h5 := hT.out.small (by omega) h16 r hr
            have h6 : (r.due, r.at_) ∈ W.filter (fun x => x.1 % 16 == (h + 1) % 16) := by rw [← hT.out.q _ h16]; exact List.mem_map.2 ⟨r, hr, rfl⟩
            exact ⟨by simpa using (List.mem_filter.1 h6).2, by omega⟩) (by omega) (by omega)
          have hnxH := Lib.hid hnx
          have hhA := Lib.hid hL.handAt
          have hob := Lib.hid (hL.block (OAnd.at _ _ _))
          have hSH := Lib.hid hS
          clear hnx hL hS
          go_wp2_with fail
          refine cN.mono ?_
          rintro e w5 ⟨ra, rc, tl, rfl, htl, hL5⟩
          have hS5 : IsSet w5 m (ints seen) := hSH.out.at ((hL5.block (OAnd.at _ _ _)).trans hob.out.symm)
          have hTm := told_marks hT.out htl
          have hIn := Lib.hid (hI.out.next (fun x => x.1 == h + 1))
          have hfr := Lib.hid (fun (j : Nat) (x : Nat × Nat) => hI.out.fresh (fun x => x.1 == h + 1) (j := j) (x := x))
          have hMn : Hid (∀ x ∈ W.filter (fun x => !(x.1 == h + 1)), x.1 ≤ la) := fun x hx => hM.out x (List.mem_filter.1 hx).1
          have hdu : Hid (∀ x ∈ W.filter (fun x => x.1 == h + 1), x.1 = h + 1) := fun x hx => by simpa using (List.mem_filter.1 hx).2
          have hWl : W.length ≤ k := by have := hI.out.length_eq; simp only [List.length_append, List.length_map, List.length_range] at this; omega
          have hTl : tl.length ≤ 40 := by
            have h1 := congrArg List.length hTm
            simp only [List.length_map] at h1
            have h2 := List.length_filter_le (fun x : Nat × Nat => x.1 == h + 1) W
            omega
          generalize hTT : W.filter (fun x => x.1 == h + 1) = T at *
          have hTmH := Lib.hid hTm
          obtain ⟨tn, htn⟩ : ∃ tn, tl.length = tn := ⟨_, rfl⟩
          have htnH := Lib.hid htn
          have htT : Hid (T.length = tn) := by show _ = _; rw [← hTm, List.length_map]; exact htn
          have htnle : tn ≤ 40 := by rw [← htn]; exact hTl
          rw [htn]
          clear cN htl hTm htn hTT hT hI hM hWl hTl
          generalize (leftW (h + 1) (Q ((h + 1) % 16))) = lf at *
          generalize setQ Q ((h + 1) % 16) lf = Q' at *
          have hm1 := hL5.grew.size
          go_wp2_with fail
          go_loopw [10, 64] (fun vw vi w' => ∃ (j wz : Nat) (o : Obj), j ≤ tn ∧ vi = .int .i64 j ∧ vw = .int .i64 wz ∧ wz ≤ h + 1 ∧ IsSet w' m (ints (seen ++ (T.take j).map Prod.snd)) ∧ LogX 1048576 w lb wb b (h + 1) (c + lf.length) Q' (u + 1 + 2 * c) [markRow ra rc tl] (OAnd (fun _ => none) m o) w') (fun _ vi _ => tn - (intOf vi).toNat)
          case atStart => exact ⟨0, wz, _, by omega, rfl, rfl, by omega, by simpa using hS5, hL5⟩
          case round =>
            obtain ⟨j, wz, o, hj, rfl, rfl, hwz, hS, hL⟩ := hrel
            by_cases hjn : j < tn
            · have hjl : j < tl.length := by rw [htnH.out]; exact hjn
              obtain ⟨⟨md, ma, mh, mp⟩, hm⟩ : ∃ m, tl[j]? = some m := ⟨tl[j], by simp [hjl]⟩
              obtain ⟨g, off, rfl, c0, c1, c2, c3⟩ := markSl_of_row (hL.row List.mem_cons_self) j _ hm
              have hTj : T[j]? = some (md, ma) := by
                rw [← hTmH.out, List.getElem?_map, hm]; rfl
              have hdue : md = h + 1 := hdu.out _ (List.mem_of_getElem? hTj)
              have hnot := hfr.out j _ hTj
              have hno : (ma : Int) ∉ ints (seen ++ (T.take j).map Prod.snd) := fun h => by
                unfold ints at h
                obtain ⟨z, hz, e⟩ := List.mem_map.1 h
                have : z = ma := by omega
                subst this
                exact hnot hz
              have htk : Hid (ints (seen ++ (T.take j).map Prod.snd) ++ [(ma : Int)] = ints (seen ++ (T.take (j + 1)).map Prod.snd)) := by
                show _ = _
                rw [List.take_add_one, hTj]; simp [ints]
              subst hdue
              dsimp only at c0 c1 c2 c3
              rw [show ((h + 1 : Nat) : Int) = (h : Int) + 1 by omega] at c0
              have hBa : Below wr.heap.size wr (wr.alloc (.cells #[.int .i64 ((h : Int) + 1), .int .i64 ma, .int .i64 mh, .int .i64 mp] 102)) := (Below.refl _ wr).alloc (Nat.le_refl _) _
              have hL1 := hL.below hBa
              have hS1 := hS.at (hBa.block _ hS.lt)
              have hb1 : Blk (wr.alloc (.cells #[.int .i64 ((h : Int) + 1), .int .i64 ma, .int .i64 mh, .int .i64 mp] 102)) wr.heap.size #[.int .i64 ((h : Int) + 1), .int .i64 ma, .int .i64 mh, .int .i64 mp] 102 := Blk.new _ _ _
              have hXm : wr.heap.size ≠ m := by have := hS.lt; omega
              obtain ⟨X, hX⟩ : ∃ X, X = wr.heap.size := ⟨_, rfl⟩
              obtain ⟨W2, hW2⟩ : ∃ W, W = wr.alloc (.cells #[.int .i64 ((h : Int) + 1), .int .i64 ma, .int .i64 mh, .int .i64 mp] 102) := ⟨_, rfl⟩
              have hnoH := Lib.hid hno
              clear hm hTj hnot hno hjl hBa hL hS
              go_wp2_with fail
              rw [← hW2, ← hX]
              rw [← hW2] at hL1 hS1
              rw [← hW2, ← hX] at hb1
              rw [← hX] at hXm
              clear hW2 hX c0 c1 c2 c3
              have d0 : W2.cell? ⟨X, 0, none⟩ = some (.int .i64 ((h : Int) + 1)) := hb1.cell 0
              have d1 : W2.cell? ⟨X, 1, none⟩ = some (.int .i64 ma) := hb1.cell 1
              have cH : ∀ q, Calls Try.prog 77 #[.pointer (some ⟨lb, 0, none⟩)] (W2.drewN q) fun e w' => e = .returned (.int .i64 ((h : Int) + 1)) ∧ w' = W2.drewN q := fun q => (THand_any (hL1.below (below_drewN _ _))).mono fun e w' ⟨h1, h2⟩ => ⟨h1, h2.symm⟩
              have hlk : ∀ q, (Instr.lookup 92 (.map (some m)) (.int .i64 ma) false).run Try.prog (W2.drewN q) = .ok (.bool false) (W2.drewN q) := fun q => by
                have := run_lookI (hS1.at (w' := W2.drewN q) rfl) (ma : Int)
                rw [decide_eq_false hnoH.out] at this
                exact this
              have hwn : decide ((h : Int) + 1 < (wz : Int)) = false := decide_eq_false (by omega)
              go_quiet ((go_at_call 77; exact Calls.quiet_of_same (cH _)))
              have hBd : Below W2.heap.size W2 (W2.drewN nq) := below_drewN _ _
              have hL3 := hL1.below hBd
              have hS3 := hS1.at (w' := W2.drewN nq) rfl
              have hb3 := hb1.at (w' := W2.drewN nq) rfl
              have q0 : (W2.drewN nq).cell? ⟨X, 0, none⟩ = some (.int .i64 ((h : Int) + 1)) := hb3.cell 0
              have q1 : (W2.drewN nq).cell? ⟨X, 1, none⟩ = some (.int .i64 ma) := hb3.cell 1
              clear cH hlk hwn hL1 hS1 hb1 d0 d1 hBd
              generalize W2.drewN nq = W3 at *
              have hb3H := Lib.hid hb3
              have hXmH := Lib.hid hXm
              clear hb3 hXm
              go_wp2_with (at_mapUpdate; refine wpList_putI rfl _ _ _ rfl m (ma : Int) _ rfl rfl rfl hS3 hnoH.out ?_; intro w6 hS6 hg6; have hq : w6.cell? ⟨X, 0, none⟩ = some (.int .i64 ((h : Int) + 1)) := (hb3H.out.at (hg6.block X hb3H.out.lt (fun e => hXmH.out (by injection e)))).cell 0)
              rw [htk.out] at hS6
              obtain ⟨es, ck, ho6⟩ := hS6.obj
              have hL6 := LogX.less (O' := OAnd (fun _ => none) m (.map es ck)) (hL3.grown (OAnd.at _ _ _) hm0 hg6 ho6) (fun k x hx => by
                by_cases hk : k = m
                · subst hk; rw [OAnd.at] at hx ⊢; exact hx
                · rw [OAnd.ne hk] at hx; cases hx)
              clear hL3 hS3 q0 q1 hg6
              go_wp2_with fail
              go_roundw
              case rel => exact ⟨j + 1, h + 1, _, by omega, by go_num, by go_num, by omega, hS6, hL6⟩
              case measure => simp [intOf]; omega
            · have hte : T.take j = T := List.take_of_length_le (by rw [htT.out]; omega)
              rw [hte] at hS
              have hha := Lib.hid hL.handAt
              have hL6 := hL.tail.more (100 + 10000 * (h + 1)) (by omega)
              clear hte hL
              go_wp2_with fail
              go_roundw
              case rel => exact ⟨h + 1, _, wz, _, _, _, _, _, by omega, rfl, hwz, by omega, hnxH.out, hIn, hMn, hS, hL6⟩
              case measure => rw [hha.out, hhA.out]; omega
        · have hW : W = [] := by
            cases W with
            | nil => rfl
            | cons x t =>
              have h1 := hT.out.gt (x := x) List.mem_cons_self
              have h2 := hM.out x List.mem_cons_self
              omega
          subst hW
          obtain rfl : h = la := by omega
          have hlen := hI.out.len
          have hwt := hT.out.waits
          have cN := TNext_no hL (now := h) (by omega)
          have cW := TWaits_any hL (by omega)
          rw [hwt] at cW
          have hlenH := Lib.hid hlen
          have hob := Lib.hid (hL.block (OAnd.at _ _ _))
          have hSH := Lib.hid hS
          clear hT hM hI hlen hwt hS
          go_wp2_with fail
          refine cN.mono ?_
          rintro e w5 ⟨rfl, rfl⟩
          clear cN
          go_wp2_with fail
          refine cW.mono ?_
          rintro e w5 ⟨rfl, hL5⟩
          have hle := run_lenI (hSH.out.at ((hL5.block (OAnd.at _ _ _)).trans hob.out.symm))
          rw [ints_len, hlenH.out] at hle
          have cH := THand_any hL5
          clear cW
          go_wp2_with fail
          refine cH.mono ?_
          rintro e w6 ⟨rfl, rfl⟩
          go_wp2_with fail
          go_ret
          exact ⟨rfl, hL5.grew⟩
end Go.Proofs.Ytndpmjanflahhaa
