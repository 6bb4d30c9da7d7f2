/-
  THE STATEMENTS OF LAYER 11: KeyxFinds, the walk.
-/
import Derived.Test.YtndpmjanflahhaaKx17
namespace Go.Proofs.Ytndpmjanflahhaa
open Go.RowKit Go.MapKept

abbrev FindsRX (w0 : World) (xb b : Nat) (D : DiskA) (rs : List KRec) (va : Value) (os : List AddV) (O : Nat → Option Obj) (w : World) : Prop :=
  RX (POver 150 xb b D (rs.length : Nat)) w0 [⟨89, 4, va, os.length, addCells os⟩] O w
set_option maxRecDepth 100000 in
set_option maxHeartbeats 2000000 in
theorem keyxFinds_any (a : Option Addr) (cap : Nat) (xs : List AddV) (ask : AddV) (least most : Int) (w : World) (hl : xs.length ≤ 9223372036854775807) (hr : AddSl w a xs) (hx : ∀ o ∈ xs, o.Fits) (hask : ask.Fits) (hle : -9223372036854775808 ≤ least ∧ least ≤ 9223372036854775807) (hmo : -9223372036854775808 ≤ most ∧ most ≤ 9223372036854775807) :
    Calls Try.prog 15 #[.slice a xs.length cap, .agg ask.cells, .agg #[.int .i64 least, .int .i64 most]] w (LastsPost w) := by
  obtain ⟨iA, hiA, hzA, hsA, hyA⟩ := info_parts info_add
  obtain ⟨i0, hi0, hz0, hz1, hz2⟩ := info_parts info_int
  have hr' := Lib.hid hr
  have hx' := Lib.hid hx
  have hml : maxLen = 9223372036854775807 := by decide
  obtain ⟨at0, ak, ap, ab⟩ := ask
  obtain ⟨ha1, ha2, _, _⟩ := hask
  dsimp only at ha1 ha2
  rw [hml] at ha1 ha2
  obtain ⟨n, hn⟩ : ∃ n, xs.length = n := ⟨_, rfl⟩
  rw [hn] at hl ⊢
  have hn' := Lib.hid hn
  clear hn hr hx hml
  have hBw : Below w.heap.size w ((w.alloc (.cells #[.string at0, .string ak, .int .i64 ap, .int .i64 ab] 89)).alloc (.cells #[.int .i64 least, .int .i64 most] 68)) := ((Below.refl _ w).alloc (Nat.le_refl _) _).alloc (by simp) _
  have b0 : Blk ((w.alloc (.cells #[.string at0, .string ak, .int .i64 ap, .int .i64 ab] 89)).alloc (.cells #[.int .i64 least, .int .i64 most] 68)) w.heap.size #[.string at0, .string ak, .int .i64 ap, .int .i64 ab] 89 := (Blk.new _ _ _).up _
  have b1 : Blk ((w.alloc (.cells #[.string at0, .string ak, .int .i64 ap, .int .i64 ab] 89)).alloc (.cells #[.int .i64 least, .int .i64 most] 68)) (w.heap.size + 1) #[.int .i64 least, .int .i64 most] 68 := Blk.new' (by simp) _ _
  show Calls Try.prog 15 #[.slice a n cap, .agg #[.string at0, .string ak, .int .i64 ap, .int .i64 ab], .agg #[.int .i64 least, .int .i64 most]] w (LastsPost w)
  obtain ⟨W0, hW0⟩ : ∃ W, W = (w.alloc (.cells #[.string at0, .string ak, .int .i64 ap, .int .i64 ab] 89)).alloc (.cells #[.int .i64 least, .int .i64 most] 68) := ⟨_, rfl⟩
  rw [← hW0] at hBw b0 b1
  have hW0H := Lib.hid hW0
  clear hW0
  obtain ⟨X0, hX0⟩ : ∃ X, X = w.heap.size := ⟨_, rfl⟩
  have hX0H := Lib.hid hX0
  rw [← hX0] at b0 b1
  clear hX0
  go_enter Try.func15, Try.ntmps15
  go_wp2_with fail
  rw [← hW0H.out, ← hX0H.out]
  refine (awake11_any W0).mono ?_
  rintro e w1 ⟨rfl, hB1⟩
  have b0' := b0.at (hB1.block _ b0.lt)
  have b1' := b1.at (hB1.block _ b1.lt)
  have hBw1 := hBw.trans (hB1.mono hBw.size)
  have d0 : w1.cell? ⟨X0, 0, none⟩ = some (.string at0) := b0'.cell 0
  have d1 : w1.cell? ⟨X0, 1, none⟩ = some (.string ak) := b0'.cell 1
  have d2 : w1.cell? ⟨X0 + 1, 0, none⟩ = some (.int .i64 least) := b1'.cell 0
  have d3 : w1.cell? ⟨X0 + 1, 1, none⟩ = some (.int .i64 most) := b1'.cell 1
  clear hB1 b0 b1 hBw hW0H
  go_wp2_with fail
  go_quiet (fail)
  clear d2 d3
  have hBd : Below w1.heap.size w1 (w1.drewN nq) := below_drewN _ _
  have b0 := b0'.at (hBd.block _ b0'.lt)
  have hBw2 := hBw1.trans (hBd.mono hBw1.size)
  have d4 : (w1.drewN nq).cell? ⟨X0, 0, none⟩ = some (.string at0) := b0.cell 0
  have d5 : (w1.drewN nq).cell? ⟨X0, 1, none⟩ = some (.string ak) := b0.cell 1
  have hl0 := b0.lt
  clear b0' b1' hBw1 hBd d0 d1
  generalize w1.drewN nq = w2 at *
  by_cases hbig : 100 < n
  · by_cases hk1 : 100 < ak.size
    all_goals by_cases hk2 : 100 < at0.size
    all_goals
      go_wp2_with fail
      go_ret
      exact ⟨rfl, hBw2⟩
  by_cases hk1 : 100 < ak.size
  · by_cases hk2 : 100 < at0.size
    all_goals
      go_wp2_with fail
      go_ret
      exact ⟨rfl, hBw2⟩
  by_cases hk2 : 100 < at0.size
  · go_wp2_with fail
    go_ret
    exact ⟨rfl, hBw2⟩
  go_wp2_with fail
  clear d4 d5
  refine (New_lives (w0 := w2) (Below.refl _ _) 1048576 (by omega)).mono ?_
  rintro e w3 ⟨b, rfl, h2⟩
  go_wp2_with fail
  refine (KNew_ok 1048576 w2 b w3 h2 (by decide) (by decide)).mono ?_
  rintro e w4 ⟨xb, D, rfl, h3, hD⟩
  go_wp2_with fail
  have hR0 : FindsRX w2 xb b D [] (.slice none 0 0) [] (fun _ => none) w4 := (h3.sx.rx).nil _ _
  clear h2 h3
  go_loopw [11, 52] (fun va vi wr => ∃ (k : Nat) (D : DiskA) (v : List Nat) (os : List AddV) (rs : List KRec), k ≤ n ∧ vi = .int .i64 k ∧ os.length ≤ k ∧ Hid (AddedR os rs) ∧ Hid (KeyD 1048576 D rs v) ∧ FindsRX w2 xb b D rs va os (fun _ => none) wr) (fun _ vi _ => n - (intOf vi).toNat)
  case atStart => exact ⟨0, D, _, [], [], by omega, rfl, by simp, AddedR.nil, hD, hR0⟩
  case round =>
    obtain ⟨k, D, v, os, rs, hk, rfl, hol, hAR, hKD, hL⟩ := hrel
    by_cases hkn : k < n
    · have hkl : k < xs.length := by rw [hn'.out]; exact hkn
      obtain ⟨⟨ot, ok, oa, ob⟩, hxk⟩ : ∃ x, xs[k]? = some x := ⟨xs[k], by simp [hkl]⟩
      obtain ⟨g, off, rfl, hc0, hc1, hc2, hc3⟩ := hr'.out k _ hxk
      obtain ⟨hf1, hf2, ⟨hf3, hf4⟩, hf5, hf6⟩ := hx'.out _ (List.mem_of_getElem? hxk)
      have hml : maxLen = 9223372036854775807 := by decide
      dsimp only at hc0 hc1 hc2 hc3 hf1 hf2 hf3 hf4 hf5 hf6
      rw [hml] at hf1 hf2
      have hBr := hBw2.trans (hL.grew.mono hBw2.size)
      have c0 := (hBr.cell (World.block_lt_of_cell? _ _ hc0)).trans hc0
      have c1 := (hBr.cell (World.block_lt_of_cell? _ _ hc1)).trans hc1
      have c2 := (hBr.cell (World.block_lt_of_cell? _ _ hc2)).trans hc2
      have c3 := (hBr.cell (World.block_lt_of_cell? _ _ hc3)).trans hc3
      have hLx := hL.one (kind_pover _ _ _ _ _) #[.string ot, .string ok, .int .i64 oa, .int .i64 ob] 89
      have hxb : Blk (wr.alloc (.cells #[.string ot, .string ok, .int .i64 oa, .int .i64 ob] 89)) wr.heap.size #[.string ot, .string ok, .int .i64 oa, .int .i64 ob] 89 := Blk.new _ _ _
      clear hxk hc0 hc1 hc2 hc3 hkl hml
      by_cases g1 : 100 < ok.size
      · by_cases g2 : 100 < ot.size
        all_goals
          go_wp2_with fail
          go_ret
          exact ⟨rfl, hBr.alloc hBr.size _⟩
      by_cases g2 : 100 < ot.size
      · go_wp2_with fail
        go_ret
        exact ⟨rfl, hBr.alloc hBr.size _⟩
      go_wp2_with fail
      obtain ⟨W1, hW1⟩ : ∃ W, W = wr.alloc (.cells #[.string ot, .string ok, .int .i64 oa, .int .i64 ob] 89) := ⟨_, rfl⟩
      obtain ⟨X, hX⟩ : ∃ X, X = wr.heap.size := ⟨_, rfl⟩
      rw [← hW1, ← hX] at hxb hLx
      rw [← hW1, ← hX]
      clear hW1 hX c0 c1 c2 c3 hL
      have f0 : W1.cell? ⟨X, 0, none⟩ = some (.string ot) := hxb.cell 0
      have f1 : W1.cell? ⟨X, 1, none⟩ = some (.string ok) := hxb.cell 1
      have f2 : W1.cell? ⟨X, 2, none⟩ = some (.int .i64 oa) := hxb.cell 2
      have f3 : W1.cell? ⟨X, 3, none⟩ = some (.int .i64 ob) := hxb.cell 3
      have cT := refTopic_any ot W1 (by unfold maxLen; omega)
      have cK := refKey_any ok W1 (by unfold maxLen; omega)
      by_cases htk : (topicB ot && keyB ok) = false
      · have cA := KAdd_name xb ot ok oa ob W1 (by omega) (by omega) htk
        cases t1 : topicB ot
        · rw [t1] at cT
          clear htk t1
          go_wp2_with fail
          refine cT.mono ?_
          rintro e w5 ⟨rfl, rfl⟩
          clear cT
          go_wp2_with fail
          refine cA.mono ?_
          rintro e w5 ⟨rfl, hB5⟩
          clear cA
          go_wp2_with fail
          go_roundw
          case rel => exact ⟨k + 1, D, v, os, rs, by omega, by go_num, by omega, hAR, hKD, RX.less (RX.below (kind_pover _ _ _ _ _) hLx hB5) (fun _ _ h => by cases h)⟩
          case measure => simp [intOf]; omega
        · have t2 : keyB ok = false := by rw [t1] at htk; simpa using htk
          rw [t2] at cK
          rw [t1] at cT
          clear t2 htk t1
          go_wp2_with fail
          refine cT.mono ?_
          rintro e w5 ⟨rfl, rfl⟩
          clear cT
          go_wp2_with fail
          refine cK.mono ?_
          rintro e w5 ⟨rfl, rfl⟩
          clear cK
          go_wp2_with fail
          refine cA.mono ?_
          rintro e w5 ⟨rfl, hB5⟩
          clear cA
          go_wp2_with fail
          go_roundw
          case rel => exact ⟨k + 1, D, v, os, rs, by omega, by go_num, by omega, hAR, hKD, RX.less (RX.below (kind_pover _ _ _ _ _) hLx hB5) (fun _ _ h => by cases h)⟩
          case measure => simp [intOf]; omega
      have t1 : topicB ot = true := by cases h : topicB ot <;> simp_all
      have t2 : keyB ok = true := by cases h : keyB ok <;> simp_all
      rw [t1] at cT
      rw [t2] at cK
      have t1H := Lib.hid t1
      have t2H := Lib.hid t2
      clear htk t1 t2
      by_cases hbad : oa < 0 ∨ 1099511627776 < oa ∨ ob < 0 ∨ 1099511627776 < ob
      · have cA := KAdd_num xb ot ok oa ob W1 (by omega) (by omega) t1H.out t2H.out ⟨hf3, hf4⟩ ⟨hf5, hf6⟩ hbad
        clear t1H t2H
        by_cases n1 : oa < 0
        all_goals by_cases n2 : 1099511627776 < oa
        all_goals by_cases n3 : ob < 0
        all_goals (try omega)
        all_goals (try (have n4 : 1099511627776 < ob := by omega))
        all_goals clear hbad
        all_goals
          go_wp2_with fail
          refine cT.mono ?_
          rintro e w5 ⟨rfl, rfl⟩
          clear cT
          go_wp2_with fail
          refine cK.mono ?_
          rintro e w5 ⟨rfl, rfl⟩
          clear cK
          go_wp2_with fail
          refine cA.mono ?_
          rintro e w5 ⟨rfl, hB5⟩
          clear cA
          go_wp2_with fail
          go_roundw
          case rel => exact ⟨k + 1, D, v, os, rs, by omega, by go_num, by omega, hAR, hKD, RX.less (RX.below (kind_pover _ _ _ _ _) hLx hB5) (fun _ _ h => by cases h)⟩
          case measure => simp [intOf]; omega
      · have p1 : 0 ≤ oa := by omega
        have p2 : ¬ oa < 0 := by omega
        have p3 : ¬ 1099511627776 < oa := by omega
        have p4 : 0 ≤ ob := by omega
        have p5 : ¬ ob < 0 := by omega
        have p6 : ¬ 1099511627776 < ob := by omega
        clear hbad
        have hARl := hAR.out.len
        have cA := KAdd_ok (x := oa.toNat) (y := ob.toNat) hLx.ox.oX hKD.out (by omega) (by omega) ot ok (by omega) (by omega) t1H.out t2H.out (by omega) (by omega)
        rw [show ((oa.toNat : Nat) : Int) = oa by omega, show ((ob.toNat : Nat) : Int) = ob by omega] at cA
        have hARn := Lib.hid (hAR.out.add (a := ⟨ot, ok, oa, ob⟩) (r := ⟨hashL [ot, ⟨#[35]⟩, ok], oa.toNat, ob.toNat, lastTo rs (hashL [ot, ⟨#[35]⟩, ok] % 8) rs.length⟩) rfl (by show ((oa.toNat : Nat) : Int) = oa; omega) (by show ot.size ≤ 100; omega) (by show ok.size ≤ 100; omega))
        clear hARl f0 f1 f2 f3
        go_wp2_with fail
        refine cT.mono ?_
        rintro e w5 ⟨rfl, rfl⟩
        clear cT
        have f0 : W1.cell? ⟨X, 0, none⟩ = some (.string ot) := hxb.cell 0
        have f1 : W1.cell? ⟨X, 1, none⟩ = some (.string ok) := hxb.cell 1
        have f2 : W1.cell? ⟨X, 2, none⟩ = some (.int .i64 oa) := hxb.cell 2
        have f3 : W1.cell? ⟨X, 3, none⟩ = some (.int .i64 ob) := hxb.cell 3
        go_wp2_with fail
        refine cK.mono ?_
        rintro e w5 ⟨rfl, rfl⟩
        clear cK
        go_wp2_with fail
        refine cA.mono ?_
        rintro e w5 ⟨D', rfl, hX, hKD'⟩
        have hKDn := Lib.hid hKD'
        have hL5 := hLx.back hX.sx
        have hx5 : Blk w5 X #[.string ot, .string ok, .int .i64 oa, .int .i64 ob] 89 := hL5.block (OAnd.at _ _ _)
        have hL6 := hL5.below (kind_pover _ _ _ _ _) ((Below.refl _ w5).alloc (Nat.le_refl _) (.cells #[.string ot, .string ok, .int .i64 oa, .int .i64 ob] 89))
        have hrow : World.ownsRow _ 0 89 4 u11 os.length (addCells os) := hL6.row _ (List.mem_singleton.2 rfl)
        have q0 : w5.cell? ⟨X, 0, none⟩ = some (.string ot) := hx5.cell 0
        have q1 : w5.cell? ⟨X, 1, none⟩ = some (.string ok) := hx5.cell 1
        have q2 : w5.cell? ⟨X, 2, none⟩ = some (.int .i64 oa) := hx5.cell 2
        have q3 : w5.cell? ⟨X, 3, none⟩ = some (.int .i64 ob) := hx5.cell 3
        clear cA hKD' hX hL5 hxb hLx f0 f1 f2 f3
        go_wp2_with (at_builtin; refine wpList_append_new rfl _ _ 87 rfl 89 4 48 iA _ Try.underlying87 hiA hzA hsA hyA rfl (by decide) u11 _ _ rfl hrow _ 1 1 [.string ot, .string ok, .int .i64 oa, .int .i64 ob] rfl rfl (new_cells w5 _ _) (by simp [Value.oneCell']) (by decide) (by unfold maxLen; omega) (by omega) ?_; intro g5 cap5 w6 hA)
        have hL7 := hL6.push (kind_pover _ _ _ _ _) hA
        have hL8 : FindsRX w2 xb b D' (rs ++ [⟨hashL [ot, ⟨#[35]⟩, ok], oa.toNat, ob.toNat, lastTo rs (hashL [ot, ⟨#[35]⟩, ok] % 8) rs.length⟩]) (.slice (some ⟨g5, 0, none⟩) (os.length + 1) cap5) (os ++ [⟨ot, ok, oa, ob⟩]) (fun _ => none) w6 := by
          have h := RX.less (O' := fun _ => none) hL7 (fun _ _ h => by cases h)
          have e1 : (os ++ [(⟨ot, ok, oa, ob⟩ : AddV)]).length = os.length + 1 := by simp
          have e2 := addCells_add os ⟨ot, ok, oa, ob⟩
          show RX _ _ [⟨_, _, _, (os ++ [(⟨ot, ok, oa, ob⟩ : AddV)]).length, addCells (os ++ [(⟨ot, ok, oa, ob⟩ : AddV)])⟩] _ _
          rw [e1, e2]
          exact h
        clear hrow hL6 hL7 hA q0 q1 q2 q3 hx5
        go_wp2_with fail
        go_roundw
        case rel => exact ⟨k + 1, D', _, os ++ [⟨ot, ok, oa, ob⟩], _, by omega, by go_num, by simp; omega, hARn, hKDn, hL8⟩
        case measure => simp [intOf]; omega
    · obtain rfl : k = n := by omega
      have hrow := hL.row _ (List.mem_singleton.2 rfl)
      obtain ⟨a2, c2, hv2, hc2⟩ := row_slice hrow
      dsimp only at hv2
      subst hv2
      have hARl := hAR.out.len
      have hrlt : rs.length < 10000000 := by omega
      have hb := b0.at (hL.grew.block _ b0.lt)
      have e0 : wr.cell? ⟨X0, 0, none⟩ = some (.string at0) := hb.cell 0
      have e1 : wr.cell? ⟨X0, 1, none⟩ = some (.string ak) := hb.cell 1
      have cN := number11_any at0 ak wr (by omega) (by omega)
      obtain ⟨H, hH⟩ : ∃ H, hashL [at0, ⟨#[35]⟩, ak] = H := ⟨_, rfl⟩
      have hHlt := hashL_lt [at0, ⟨#[35]⟩, ak]
      have hHe := Lib.hid hH
      rw [hH] at cN hHlt
      have hIs : FindInv rs H least most os.length [] := by rw [← hARl]; exact FindInv.start
      have hIsH := Lib.hid hIs
      have hLn := hL.nil 3 1
      have hARlH := Lib.hid hARl
      clear hrow hb hH hIs hL hARl
      go_wp2_with fail
      refine cN.mono ?_
      rintro e w5 ⟨rfl, rfl⟩
      clear cN e0 e1
      go_wp2_with fail
      go_loopw [16, 17] (fun vw vi w' => ∃ (m : Nat) (j : Int) (acc : List Int), vi = .int .i64 j ∧ j + 1 = m ∧ Hid (FindInv rs H least most m acc) ∧ acc.length + m ≤ os.length ∧ RX (POver 150 xb b D (rs.length : Nat)) w2 [⟨3, 1, vw, acc.length, acc.map (Value.int .i64)⟩, ⟨89, 4, .slice a2 os.length c2, os.length, addCells os⟩] (fun _ => none) w') (fun _ vi => fun _ => (intOf vi + 1).toNat)
      case atStart => exact ⟨os.length, _, [], rfl, by omega, hIsH, by simp, hLn⟩
      case round =>
        obtain ⟨m, j, acc, rfl, hj, hI, hal, hV⟩ := hrel
        have hrowW := hV.row _ List.mem_cons_self
        obtain ⟨aw, cw, hvw, hcw⟩ := row_slice hrowW
        dsimp only at hvw hrowW
        subst hvw
        have hbV := b0.at (hV.grew.block _ b0.lt)
        have z0 : wr.cell? ⟨X0, 0, none⟩ = some (.string at0) := hbV.cell 0
        have z1 : wr.cell? ⟨X0, 1, none⟩ = some (.string ak) := hbV.cell 1
        have hX0lt := hbV.lt
        clear hbV
        by_cases hm0 : m = 0
        · subst hm0
          obtain rfl : j = -1 := by omega
          have hfE := Lib.hid hI.out.none
          clear hI hrowW
          have cF := KFind_any hV.ox.oX hKD.out (by omega) at0 ak least most (by omega) (by omega)
          rw [hHe.out] at cF
          unfold FindsPost at cF
          rw [← hfE.out] at cF
          go_wp2_with fail
          refine cF.mono ?_
          rintro e w7 ⟨fa, fc, rfl, hI7, _, hB7⟩
          have hV7 := hV.below (kind_pover _ _ _ _ _) hB7
          have hrow7 : World.ownsRow _ 0 3 1 (.slice aw acc.length cw) acc.length (acc.map (Value.int .i64)) := hV7.row _ List.mem_cons_self
          have cI := RInts_yes fa aw fc cw acc w7 (by omega) hI7 (intSl_of_row hrow7)
          clear cF hrow7 hI7 z0 z1
          go_wp2_with fail
          refine cI.mono ?_
          rintro e w8 ⟨rfl, hB8⟩
          have cL8 := KLen_any (hV7.below (kind_pover _ _ _ _ _) hB8).ox.oX
          rw [hARlH.out] at cL8
          have hBf := hBw2.trans ((hV7.grew.trans (hB8.mono hV7.grew.size)).mono hBw2.size)
          clear cI
          go_wp2_with fail
          refine cL8.mono ?_
          rintro e w9 ⟨rfl, rfl⟩
          clear cL8
          go_wp2_with fail
          go_ret
          exact ⟨rfl, hBf⟩
        · obtain ⟨m', rfl⟩ : ∃ m', m = m' + 1 := ⟨m - 1, by omega⟩
          obtain rfl : j = (m' : Int) := by omega
          by_cases hlt : (acc.length : Int) < most
          · have hml : m' < os.length := by omega
            obtain ⟨⟨rt, rk, ra, rb⟩, hxm⟩ : ∃ x, os[m']? = some x := ⟨os[m'], by simp [hml]⟩
            obtain ⟨g, off, ha2, hc0, hc1, hc2', hc3⟩ := addSl_of_row (hV.row _ (List.mem_cons_of_mem _ (List.mem_singleton.2 rfl))) m' _ hxm
            subst ha2
            obtain ⟨r, hrm, hr1, hr2, hr3, hr4⟩ := hAR.out.rec_ m' _ hxm
            dsimp only at hc0 hc1 hc2' hc3 hr1 hr2 hr3 hr4
            have cM := fun W => number11_any rt rk W (by omega) (by omega)
            have hKlt := hashL_lt [rt, ⟨#[35]⟩, rk]
            obtain ⟨K, hK⟩ : ∃ K, hashL [rt, ⟨#[35]⟩, rk] = K := ⟨_, rfl⟩
            rw [hK] at cM hKlt hr1
            have hr1H := Lib.hid hr1
            have hr2H := Lib.hid hr2
            have hrmH := Lib.hid hrm
            have hV1 := hV.below (kind_pover _ _ _ _ _) ((Below.refl _ _).alloc (Nat.le_refl _) (.cells #[.string rt, .string rk, .int .i64 ra, .int .i64 rb] 89))
            clear hxm hr1 hr2 hrm hK hj
            go_wp2_with fail
            refine (cM _).mono ?_
            rintro e w6 ⟨rfl, rfl⟩
            clear cM hc0 hc1 hc2' hc3
            by_cases hb : K % 8 = H % 8
            case neg =>
              have y1 : ((K : Int) % 8 != (H : Int) % 8) = true := bne_iff_ne.2 (by omega)
              go_wp2_with fail
              go_roundw
              case rel => exact ⟨m', _, acc, rfl, by omega, hI.out.other hrmH.out (by rw [hr1H.out]; exact hb), by omega, hV1⟩
              case measure => simp [intOf] <;> omega
            case pos =>
              have y1 : ((K : Int) % 8 != (H : Int) % 8) = false := bne_eq_false_iff_eq.2 (by omega)
              by_cases hls : ra < least
              case pos =>
                have hfE := Lib.hid (hI.out.stop hrmH.out (by rw [hr1H.out]; exact hb) (by rw [hr2H.out]; exact hls))
                clear hI hrowW
                have cF := KFind_any hV1.ox.oX hKD.out (by omega) at0 ak least most (by omega) (by omega)
                rw [hHe.out] at cF
                unfold FindsPost at cF
                rw [← hfE.out] at cF
                go_wp2_with fail
                refine cF.mono ?_
                rintro e w7 ⟨fa, fc, rfl, hI7, _, hB7⟩
                have hV7 := hV1.below (kind_pover _ _ _ _ _) hB7
                have hrow7 : World.ownsRow _ 0 3 1 (.slice aw acc.length cw) acc.length (acc.map (Value.int .i64)) := hV7.row _ List.mem_cons_self
                have cI := RInts_yes fa aw fc cw acc w7 (by omega) hI7 (intSl_of_row hrow7)
                clear cF hrow7 hI7 z0 z1
                go_wp2_with fail
                refine cI.mono ?_
                rintro e w8 ⟨rfl, hB8⟩
                have cL8 := KLen_any (hV7.below (kind_pover _ _ _ _ _) hB8).ox.oX
                rw [hARlH.out] at cL8
                have hBf := hBw2.trans ((hV7.grew.trans (hB8.mono hV7.grew.size)).mono hBw2.size)
                clear cI
                go_wp2_with fail
                refine cL8.mono ?_
                rintro e w9 ⟨rfl, rfl⟩
                clear cL8
                go_wp2_with fail
                go_ret
                exact ⟨rfl, hBf⟩
              case neg =>
                by_cases he : K = H
                case neg =>
                  have y2 : ((K : Int) == (H : Int)) = false := beq_eq_false_iff_ne.2 (by omega)
                  go_wp2_with fail
                  go_roundw
                  case rel => exact ⟨m', _, acc, rfl, by omega, hI.out.skip hrmH.out (by rw [hr1H.out]; exact hb) (by rw [hr2H.out]; omega) hlt (by rw [hr1H.out]; exact he), by omega, hV1⟩
                  case measure => simp [intOf] <;> omega
                case pos =>
                  have y2 : ((K : Int) == (H : Int)) = true := beq_iff_eq.2 (by omega)
                  have hIn := Lib.hid (hI.out.take hrmH.out (by rw [hr2H.out]; omega) hlt (by rw [hr1H.out]; exact he))
                  rw [hr2H.out] at hIn
                  have hV2 := hV1.below (kind_pover _ _ _ _ _) ((Below.refl _ _).alloc (Nat.le_refl _) (.cells #[.int .i64 ra] 3))
                  have hrow6 : World.ownsRow _ 0 3 1 (.slice aw acc.length cw) acc.length (acc.map (Value.int .i64)) := hV2.row _ List.mem_cons_self
                  clear hrowW
                  go_wp2_with (at_builtin; refine wpList_append_new rfl _ _ 67 rfl 3 1 8 i0 _ Try.underlying67 hi0 hz0 hz1 hz2 rfl (by decide) (.slice aw acc.length cw) _ _ rfl hrow6 _ 1 1 [.int .i64 ra] rfl rfl (new_cells' (wr.alloc (.cells #[.string rt, .string rk, .int .i64 ra, .int .i64 rb] 89)) (wr.heap.size + 1) (by simp) #[.int .i64 ra] 3) (by simp [Value.oneCell']) (by decide) (by unfold maxLen; omega) (by omega) ?_; intro g5 cap5 w7 hA)
                  have hV3 := hV2.push (kind_pover _ _ _ _ _) hA
                  have hV4 : RX (POver 150 xb b D (rs.length : Nat)) w2 [⟨3, 1, .slice (some ⟨g5, 0, none⟩) (acc.length + 1) cap5, (acc ++ [ra]).length, (acc ++ [ra]).map (Value.int .i64)⟩, ⟨89, 4, .slice (some ⟨g, off, none⟩) os.length c2, os.length, addCells os⟩] (fun _ => none) w7 := by
                    rw [List.length_append, List.map_append]
                    exact hV3
                  clear hrow6 hA hV1 hV2 hV3
                  go_wp2_with fail
                  go_roundw
                  case rel => exact ⟨m', _, acc ++ [ra], rfl, by omega, hIn, by simp; omega, hV4⟩
                  case measure => simp [intOf] <;> omega
          · have hfE := Lib.hid (hI.out.full hlt)
            have hlt' : most ≤ (acc.length : Int) := by omega
            clear hI hrowW
            have cF := KFind_any hV.ox.oX hKD.out (by omega) at0 ak least most (by omega) (by omega)
            rw [hHe.out] at cF
            unfold FindsPost at cF
            rw [← hfE.out] at cF
            go_wp2_with fail
            refine cF.mono ?_
            rintro e w7 ⟨fa, fc, rfl, hI7, _, hB7⟩
            have hV7 := hV.below (kind_pover _ _ _ _ _) hB7
            have hrow7 : World.ownsRow _ 0 3 1 (.slice aw acc.length cw) acc.length (acc.map (Value.int .i64)) := hV7.row _ List.mem_cons_self
            have cI := RInts_yes fa aw fc cw acc w7 (by omega) hI7 (intSl_of_row hrow7)
            clear cF hrow7 hI7 z0 z1
            go_wp2_with fail
            refine cI.mono ?_
            rintro e w8 ⟨rfl, hB8⟩
            have cL8 := KLen_any (hV7.below (kind_pover _ _ _ _ _) hB8).ox.oX
            rw [hARlH.out] at cL8
            have hBf := hBw2.trans ((hV7.grew.trans (hB8.mono hV7.grew.size)).mono hBw2.size)
            clear cI
            go_wp2_with fail
            refine cL8.mono ?_
            rintro e w9 ⟨rfl, rfl⟩
            clear cL8
            go_wp2_with fail
            go_ret
            exact ⟨rfl, hBf⟩
end Go.Proofs.Ytndpmjanflahhaa
