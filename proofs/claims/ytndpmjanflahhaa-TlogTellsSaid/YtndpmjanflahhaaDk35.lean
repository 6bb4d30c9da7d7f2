/-
  THE STATEMENTS OF LAYER 4: the document's example; DiskLasts.
-/
import Derived.Test.YtndpmjanflahhaaMG
namespace Go.Proofs.Ytndpmjanflahhaa
open Go.RowKit Go.MapKept

set_option maxRecDepth 100000 in
set_option maxHeartbeats 2000000 in
theorem awake04_any (w : World) : Calls Try.prog 38 #[] w fun e w' => e = .returned (.bool true) ∧ Below w.heap.size w w' := by
  go_enter Try.func38, Try.ntmps38
  go_wp2_with fail
  refine (New_lives (w0 := w) (Below.refl _ _) 100 (by omega)).mono ?_
  rintro e w1 ⟨b, rfl, h1⟩
  go_wp2_with fail
  have c := h1.create fB (by decide) (by decide)
  simp only [aw1] at c
  refine c.mono ?_
  rintro e w2 ⟨id, rfl, h2, -⟩
  clear c
  go_wp2_with fail
  have c := h2.write fB 0 abB (by decide) (by show 0 < 1099511627776; omega)
  rw [aw2] at c
  refine c.mono ?_
  rintro e w3 ⟨rfl, h3⟩
  clear c
  go_wp2_with fail
  have c := h3.sync1 fB
  rw [aw3] at c
  refine c.mono ?_
  rintro e w4 ⟨rfl, h4⟩
  clear c
  go_wp2_with fail
  have c := h4.write fB 2 cdB (by decide) (by show 0 < 1099511627776; omega)
  rw [aw4] at c
  refine c.mono ?_
  rintro e w5 ⟨rfl, h5⟩
  clear c
  go_wp2_with fail
  have c := h5.crash0 (aw_fit id)
  rw [aw5] at c
  refine c.mono ?_
  rintro e w6 ⟨rfl, h6⟩
  clear c
  go_wp2_with fail
  have c := h6.all fB
  rw [aw6] at c
  unfold abB at c
  refine c.mono ?_
  rintro e w7 ⟨rfl, h7⟩
  clear c
  go_wp2_with fail
  go_ret
  exact ⟨rfl, h7.grew⟩

def kpB : ByteArray := ⟨#[107, 101, 101, 112, 32, 116, 104, 105, 115, 32, 115, 97, 102, 101]⟩
theorem laidB_empty (s : ByteArray) : laidB ByteArray.empty 0 s = s := by
  unfold laidB laidL
  split
  · rename_i h
    have : s.data = #[] := by simpa using h
    cases s; simp only at this; subst this; rfl
  · have e : ByteArray.empty.data.toList = [] := rfl
    rw [e]
    have e2 : (List.drop (0 + s.data.toList.length) ([] ++ zeros (0 + s.data.toList.length - ([] : List UInt8).length))) = [] := by
      rw [List.drop_eq_nil_iff]; simp [zeros]
    rw [e2]
    simp
def kpD (id : Nat) (image now : ByteArray) (waits : List WaitA) : DiskA := ⟨-1, false, 100000, [⟨kpB, id, image, now⟩], waits⟩
theorem kp_find (id : Nat) (i n : ByteArray) (l : List WaitA) : findF (kpD id i n l).files kpB = some ⟨kpB, id, i, n⟩ := by
  unfold findF kpD; simp [(bytes_beq kpB kpB).2 rfl]
theorem kp1 (id : Nat) : (newD 100000).create kpB id = (0, kpD id ByteArray.empty ByteArray.empty []) := rfl
theorem kp_sizes (id : Nat) (i n : ByteArray) (l : List WaitA) : sizes (kpD id i n l).files = n.size := by simp [kpD, sizes]
theorem kp2 (id : Nat) (s : ByteArray) (hs : s.size ≤ 300) : ∃ l, (kpD id ByteArray.empty ByteArray.empty []).write kpB 0 s = (0, kpD id ByteArray.empty s l) ∧ (∀ x ∈ l, x.id = id) ∧ l.length ≤ 1 := by
  by_cases h0 : s.size = 0
  · have : s = ByteArray.empty := by
      have : s.data.toList.length = 0 := by simpa using h0
      have := List.length_eq_zero_iff.1 this
      have h2 : s.data = #[] := by simpa using this
      cases s; simp only at h2; subst h2; rfl
    subst this
    exact ⟨[], rfl, by simp, by simp⟩
  · have := write_ok (D := kpD id ByteArray.empty ByteArray.empty []) rfl rfl (kp_find _ _ _ _) (p := 0) (Nat.zero_le _) (s := s) h0 (.inr (by
      rw [kp_sizes]; show _ - ((ByteArray.empty.size : Nat) : Int) ≤ 100000 - ((ByteArray.empty.size : Nat) : Int)
      have : ByteArray.empty.size = 0 := rfl
      rw [this]; omega))
    refine ⟨[⟨id, 0, s⟩], ?_, by simp, by simp⟩
    have e : (kpD id ByteArray.empty ByteArray.empty []).put ⟨kpB, id, ByteArray.empty, ByteArray.empty⟩ 0 s = kpD id ByteArray.empty s [⟨id, 0, s⟩] := by
      simp [DiskA.put, kpD, turn, FileA.setNow, laidB_empty]
    rw [e] at this
    exact this
theorem kp3 (id : Nat) (s : ByteArray) (l : List WaitA) (hl : ∀ x ∈ l, x.id = id) : (kpD id ByteArray.empty s l).sync [kpB] = (0, kpD id s s []) := by
  rw [sync_ok rfl rfl (fun s hs => by simp at hs; subst hs; rw [kp_find]; rfl), lasts_one]
  unfold DiskA.lastOf
  rw [kp_find]
  have e : others l id = [] := by
    unfold others
    rw [List.filter_eq_nil_iff]
    intro x hx
    simp [hl x hx]
  simp [DiskA.last1, DiskA.imaged, DiskA.waited, turn, FileA.setImage, kpD, e]
theorem kp_keeps (id : Nat) (s : ByteArray) : Keeps (kpD id s s []) ⟨kpB, id, s, s⟩ := ⟨by simp [kpD], by simp [kpD]⟩
theorem kp_fit (id : Nat) (s : ByteArray) : (kpD id s s []).Fit := ⟨fun f hf => by simp [kpD] at hf; subst hf; exact Nat.le_refl _, by simp [kpD]⟩

theorem OpSl.below {w w' : World} {a : Option Addr} {os : List OpV} (h : OpSl w a os) (hB : Below w.heap.size w w') : OpSl w' a os := by
  intro i o ho
  obtain ⟨g, off, ha, hc⟩ := h i o ho
  have hlt : g < w.heap.size := World.block_lt_of_cell? w ⟨g, off + i * 8 + 0, none⟩ (hc 0 (by omega))
  exact ⟨g, off, ha, fun j hj => (hB.cell (p := ⟨g, off + i * 8 + j, none⟩) hlt).trans (hc j hj)⟩
theorem kp_of {s : ByteArray} (h : s.toList = [107, 101, 101, 112, 32, 116, 104, 105, 115, 32, 115, 97, 102, 101]) : s = kpB := by
  have e : kpB.toList = [107, 101, 101, 112, 32, 116, 104, 105, 115, 32, 115, 97, 102, 101] := by rw [ByteArray.toList_eq]; rfl
  have : (s.toList == kpB.toList) = true := by rw [h, e]; rfl
  rw [names_beq] at this
  exact (bytes_beq _ _).1 this
theorem kp_list : kpB.toList = [107, 101, 101, 112, 32, 116, 104, 105, 115, 32, 115, 97, 102, 101] := by rw [ByteArray.toList_eq]; rfl
def LastsPost (w : World) (e : Ending) (w' : World) : Prop := e = .returned (.bool true) ∧ Below w.heap.size w w'

set_option maxRecDepth 100000 in
set_option maxHeartbeats 4000000 in
theorem diskLasts_any (s : ByteArray) (a : Option Addr) (cap : Nat) (os : List OpV) (w : World) (hs : s.size ≤ 9223372036854775807) (hl : os.length ≤ 9223372036854775807) (hr : OpSl w a os) (hg : ∀ o ∈ os, o.Good w (fun k => w.heap.size ≤ k)) (hsz : ∀ o ∈ os, o.A.size ≤ 9223372036854775807 ∧ o.B.size ≤ 9223372036854775807 ∧ o.S.size ≤ 9223372036854775807 ∧ o.L.length ≤ 9223372036854775807 ∧ o.keep.length ≤ 9223372036854775807 ∧ ∀ n ∈ o.L, n.size ≤ 9223372036854775807) :
    Calls Try.prog 7 #[.string s, .slice a os.length cap] w (LastsPost w) := by
  have hr' := Lib.hid hr
  have hg' := Lib.hid hg
  have cG := Great_any a cap os
  have hsz' := Lib.hid hsz
  obtain ⟨n, hn⟩ : ∃ n, os.length = n := ⟨_, rfl⟩
  rw [hn] at hl cG ⊢
  have hn' := Lib.hid hn
  have cG' := Lib.hid cG
  clear hr hg hsz hn cG
  go_enter Try.func7, Try.ntmps7
  go_wp2_with fail
  refine (awake04_any w).mono ?_
  rintro e w1 ⟨rfl, hB1⟩
  go_wp2_with fail
  have hr1 : OpSl w1 a os := hr'.out.below hB1
  refine (cG'.out w1 (fun k => w.heap.size ≤ k) hl hr1 (fun o ho => (hg'.out o ho).kept (fun q hq hF => ⟨hB1.block q hq, by omega⟩)) hsz'.out).mono ?_
  rintro e w2 ⟨r, rfl, hsm, hB2⟩
  have hB2' := hB1.trans (hB2.mono hB1.size)
  cases r
  case true =>
    go_wp2_with fail
    go_ret
    exact ⟨rfl, hB2'⟩
  obtain ⟨hn100, hsm⟩ := hsm rfl
  have hsm' := Lib.hid hsm
  rw [hn'.out] at hn100
  clear hsm hr1 hB1 hB2
  by_cases h300 : 300 < s.size
  · go_wp2_with fail
    go_ret
    exact ⟨rfl, hB2'⟩
  go_wp2_with fail
  refine (New_lives (w0 := w) hB2' 100000 (by omega)).mono ?_
  rintro e w3 ⟨b, rfl, h3⟩
  go_wp2_with fail
  have c := h3.create kpB (by decide) (by decide)
  simp only [kp1] at c
  refine c.mono ?_
  rintro e w4 ⟨id, rfl, h4, -⟩
  clear c
  go_wp2_with fail
  have c := h4.write kpB 0 s (by omega) (by show 0 < 1099511627776; omega)
  obtain ⟨l, e2, hl2, hl1⟩ := kp2 id s (by omega)
  rw [e2] at c
  refine c.mono ?_
  rintro e w5 ⟨rfl, h5⟩
  clear c
  go_wp2_with fail
  have c := h5.sync1 kpB
  rw [kp3 id s l hl2] at c
  refine c.mono ?_
  rintro e w6 ⟨rfl, h6⟩
  clear c e2 hl2 hl1
  go_wp2_with fail
  go_loopw [42] (fun i wr => ∃ (k : Nat) (D : DiskA), k ≤ n ∧ i = .int .i64 k ∧ Lives w b D wr ∧ Keeps D ⟨kpB, id, s, s⟩ ∧ D.Fit ∧ D.waits.length ≤ k ∧ D.files.length ≤ k + 1) (fun i _ => n - (intOf i).toNat)
  case atStart => exact ⟨0, _, by omega, rfl, h6, kp_keeps id s, kp_fit id s, Nat.le_refl _, Nat.le_refl _⟩
  case round =>
    obtain ⟨k, D, hk, rfl, hL, hK, hFit, hwl, hfl⟩ := hrel
    have hB := hL.grew
    by_cases hkn : k < n
    · have hkl : k < os.length := by rw [hn'.out]; exact hkn
      obtain ⟨g, off, rfl, hgl, hcell⟩ := hr'.out.at (by omega)
      obtain ⟨o, ho⟩ : ∃ o, os[k]? = some o := ⟨os[k], by simp [hkl]⟩
      have hom := List.mem_of_getElem? ho
      obtain ⟨c0, c1, c2, c3, c4, c5, c6, c7⟩ := op_cells (w := wr) (g := g) (p := off + k * 8) (o := o) (fun j hj => (hB.cell (p := ⟨g, off + k * 8 + j, none⟩) hgl).trans (hcell k o ho j hj))
      obtain ⟨z1, z2, z3, z4, z5, z6⟩ := hsz'.out o hom
      have hgo := hg'.out o hom
      have hso := hsm'.out o hom
      have hSo := Lib.hid hso
      have hLo := hgo.L
      have hGo := Lib.hid hgo
      have hBo : Below w.heap.size w (wr.alloc (.cells o.cells 46)) := hB.trans ((Below.refl _ _).alloc (Nat.le_refl _) _ |>.mono hB.size)
      have hLo' : Lives w b D (wr.alloc (.cells o.cells 46)) := hL.below ((Below.refl _ _).alloc (Nat.le_refl _) _)
      have cD := fun W (h : Lives w b D W) => h.doOp hFit o hgo hso (by omega) (by omega)
      clear hcell ho hom hgo hso
      unfold OpV.cells at *
      obtain ⟨K, N, A, B, S, la, lcap, L, ka, kcap, keep, lack⟩ := o
      dsimp only at *
      obtain ⟨ln, hln⟩ : ∃ ln, L.length = ln := ⟨_, rfl⟩
      have hln' := Lib.hid hln
      have hLz : ln ≤ 9223372036854775807 := by omega
      obtain ⟨wo, hwo⟩ : ∃ wo, wo = wr.alloc (.cells #[.int .i64 K, .int .i64 N, .string A, .string B, .string S, .slice la ln lcap, .slice ka keep.length kcap, .int .i64 lack] 46) := ⟨_, rfl⟩
      have hbl : Blk wo wr.heap.size #[.int .i64 K, .int .i64 N, .string A, .string B, .string S, .slice la ln lcap, .slice ka keep.length kcap, .int .i64 lack] 46 := by rw [hwo]; exact Blk.new _ _ _
      have q0 : wo.cell? ⟨wr.heap.size, 0, none⟩ = some (.int .i64 K) := hbl.cell 0
      have q1 : wo.cell? ⟨wr.heap.size, 1, none⟩ = some (.int .i64 N) := hbl.cell 1
      have q2 : wo.cell? ⟨wr.heap.size, 2, none⟩ = some (.string A) := hbl.cell 2
      have q3 : wo.cell? ⟨wr.heap.size, 3, none⟩ = some (.string B) := hbl.cell 3
      have q4 : wo.cell? ⟨wr.heap.size, 4, none⟩ = some (.string S) := hbl.cell 4
      have q5 : wo.cell? ⟨wr.heap.size, 5, none⟩ = some (.slice la ln lcap) := hbl.cell 5
      have q6 : wo.cell? ⟨wr.heap.size, 6, none⟩ = some (.slice ka keep.length kcap) := hbl.cell 6
      have q7 : wo.cell? ⟨wr.heap.size, 7, none⟩ = some (.int .i64 lack) := hbl.cell 7
      rw [hln] at c5 z4 hBo hLo'
      rw [← hwo] at hBo hLo'
      have hstr : ∀ j x, L[j]? = some x → ∃ g off, la = some ⟨g, off, none⟩ ∧ wo.cell? ⟨g, off + j, none⟩ = some (.string x) := by
        intro j x hj
        obtain ⟨b', off', e, hc⟩ := hLo j x hj
        exact ⟨b', off', e, (hBo.cell (p := ⟨b', off' + j, none⟩) (World.block_lt_of_cell? _ _ hc)).trans hc⟩
      have hstr' := Lib.hid hstr
      have hwo' := Lib.hid hwo.symm
      have cD' := Lib.hid cD
      clear hstr hLo hwo hbl hln cD
      have hcase : A = kpB ∨ (A ≠ kpB ∧ B = kpB) ∨ (A ≠ kpB ∧ B ≠ kpB) := by
        by_cases hA : A = kpB
        · exact .inl hA
        · by_cases hB : B = kpB
          · exact .inr (.inl ⟨hA, hB⟩)
          · exact .inr (.inr ⟨hA, hB⟩)
      rcases hcase with hA | ⟨hA, hB⟩ | ⟨hA, hB⟩
      · have eA : A.toList = [107, 101, 101, 112, 32, 116, 104, 105, 115, 32, 115, 97, 102, 101] := by rw [hA]; exact kp_list
        clear hA
        go_wp2_with fail
        rw [hwo'.out]
        clear eA
        have hx0 : Hid (true = false → A ≠ kpB ∧ B ≠ kpB) := fun h => by cases h
        go_loop [8, 57] (fun t j => ∃ (q : Nat) (x : Bool), q ≤ ln ∧ j = .int .i64 q ∧ t = .bool x ∧ Hid (x = false → A ≠ kpB ∧ B ≠ kpB ∧ ∀ y ∈ L.take q, y ≠ kpB)) (fun _ j => ln - (intOf j).toNat)
        case atStart => exact ⟨0, _, by omega, rfl, rfl, fun h => ⟨(hx0.out h).1, (hx0.out h).2, by simp⟩⟩
        case round =>
          obtain ⟨q, x, hq, rfl, rfl, hQ⟩ := hrel
          by_cases hql : q < ln
          · have hql' : q < L.length := by rw [hln'.out]; exact hql
            obtain ⟨y, hy⟩ : ∃ y, L[q]? = some y := ⟨L[q], by simp [hql']⟩
            obtain ⟨b', off', rfl, hc⟩ := hstr'.out q y hy
            have hyz := z6 y (List.mem_of_getElem? hy)
            have hst : Hid (∀ z, (z = false → x = false ∧ y ≠ kpB) → (z = false → A ≠ kpB ∧ B ≠ kpB ∧ ∀ y ∈ L.take (q + 1), y ≠ kpB)) := fun z h hz => by
              obtain ⟨h1, h2⟩ := h hz
              obtain ⟨i1, i2, i3⟩ := hQ.out h1
              refine ⟨i1, i2, fun u hu => ?_⟩
              rw [List.take_add_one, hy] at hu
              simp at hu
              rcases hu with hu | rfl
              · exact i3 u hu
              · exact h2
            clear hy z6 hql'
            cases x
            · by_cases hyk : y = kpB
              · have ey : y.toList = [107, 101, 101, 112, 32, 116, 104, 105, 115, 32, 115, 97, 102, 101] := by rw [hyk]; exact kp_list
                clear hyk
                go_wp2_with fail
                go_round
                case rel => exact ⟨q + 1, true, by omega, by go_num, rfl, hst.out true (fun h => by cases h)⟩
                case measure => simp [intOf]; omega
              · have ey : ¬ y.toList = [107, 101, 101, 112, 32, 116, 104, 105, 115, 32, 115, 97, 102, 101] := fun e => hyk (kp_of e)
                have ey' : (y.toList == [107, 101, 101, 112, 32, 116, 104, 105, 115, 32, 115, 97, 102, 101]) = false := beq_eq_false_iff_ne.2 ey
                have hyk' := Lib.hid hyk
                clear hyk
                go_wp2_with fail
                go_round
                case rel => exact ⟨q + 1, false, by omega, by go_num, rfl, hst.out false (fun _ => ⟨rfl, hyk'.out⟩)⟩
                case measure => simp [intOf]; omega
            · go_wp2_with fail
              go_round
              case rel => exact ⟨q + 1, true, by omega, by go_num, rfl, hst.out true (fun h => by cases h)⟩
              case measure => simp [intOf]; omega
          · cases x
            · have hno := hQ.out rfl
              rw [List.take_of_length_le (by rw [hln'.out]; omega)] at hno
              have hno' := Lib.hid hno
              clear hno
              have cDo := cD'.out wo hLo'
              rw [hln'.out] at cDo
              go_wp2_with fail
              refine cDo.mono ?_
              rintro e w7 ⟨jd, rfl, h7, hjd⟩
              clear cDo
              have hK7 := doOp_keeps hL.ok hK rfl ⟨K, N, A, B, S, la, lcap, L, ka, kcap, keep, lack⟩ jd hno'.out.1 hno'.out.2.1 hno'.out.2.2
              have hN7 := doOp_near hL.ok hFit ⟨K, N, A, B, S, la, lcap, L, ka, kcap, keep, lack⟩ hjd
              have hjd' := Lib.hid hjd
              clear hjd
              generalize (D.doOp ⟨K, N, A, B, S, la, lcap, L, ka, kcap, keep, lack⟩ jd).1 = er at *
              generalize (D.doOp ⟨K, N, A, B, S, la, lcap, L, ka, kcap, keep, lack⟩ jd).2 = D7 at *
              have e7 : D7.all kpB = if D7.down then (ByteArray.empty, 8) else (s, 0) := by
                unfold DiskA.all; rw [findF_of (f := ⟨kpB, id, s, s⟩) h7.ok.names hK7.mem]
              have cA := h7.all kpB
              have cdn := fun W (h : Lives w b D7 W) => h.isDown
              rw [e7] at cA
              have hK7' := Lib.hid hK7
              have hN7' := Lib.hid hN7
              clear e7 hK7 hN7
              generalize hdn : D7.down = dn at *
              have hdn' := Lib.hid hdn
              clear hdn
              cases dn
              all_goals
                go_wp2_with fail
                refine cA.mono ?_
                rintro e w8 ⟨rfl, h8⟩
                go_wp2_with fail
                refine (cdn _ h8).mono ?_
                rintro e w9 ⟨rfl, rfl⟩
                go_wp2_with (first | (refine (cdn _ h8).mono ?_; rintro e w9 ⟨rfl, rfl⟩))
                go_roundw
                case rel => exact ⟨k + 1, D7, by omega, by go_num, h8, hK7'.out, hN7'.out.fit, by have := hN7'.out.waits; omega, by have := hN7'.out.files; omega⟩
                case measure => simp [intOf]; omega
            · go_wp2_with fail
              go_roundw
              case rel => exact ⟨k + 1, D, by omega, by go_num, hLo', hK, hFit, by omega, by omega⟩
              case measure => simp [intOf]; omega
      · have eA : ¬ A.toList = [107, 101, 101, 112, 32, 116, 104, 105, 115, 32, 115, 97, 102, 101] := fun e => hA (kp_of e)
        have eA' : (A.toList == [107, 101, 101, 112, 32, 116, 104, 105, 115, 32, 115, 97, 102, 101]) = false := beq_eq_false_iff_ne.2 eA
        have eB : B.toList = [107, 101, 101, 112, 32, 116, 104, 105, 115, 32, 115, 97, 102, 101] := by rw [hB]; exact kp_list
        clear hA hB
        go_wp2_with fail
        rw [hwo'.out]
        clear eA eA' eB
        have hx0 : Hid (true = false → A ≠ kpB ∧ B ≠ kpB) := fun h => by cases h
        go_loop [8, 57] (fun t j => ∃ (q : Nat) (x : Bool), q ≤ ln ∧ j = .int .i64 q ∧ t = .bool x ∧ Hid (x = false → A ≠ kpB ∧ B ≠ kpB ∧ ∀ y ∈ L.take q, y ≠ kpB)) (fun _ j => ln - (intOf j).toNat)
        case atStart => exact ⟨0, _, by omega, rfl, rfl, fun h => ⟨(hx0.out h).1, (hx0.out h).2, by simp⟩⟩
        case round =>
          obtain ⟨q, x, hq, rfl, rfl, hQ⟩ := hrel
          by_cases hql : q < ln
          · have hql' : q < L.length := by rw [hln'.out]; exact hql
            obtain ⟨y, hy⟩ : ∃ y, L[q]? = some y := ⟨L[q], by simp [hql']⟩
            obtain ⟨b', off', rfl, hc⟩ := hstr'.out q y hy
            have hyz := z6 y (List.mem_of_getElem? hy)
            have hst : Hid (∀ z, (z = false → x = false ∧ y ≠ kpB) → (z = false → A ≠ kpB ∧ B ≠ kpB ∧ ∀ y ∈ L.take (q + 1), y ≠ kpB)) := fun z h hz => by
              obtain ⟨h1, h2⟩ := h hz
              obtain ⟨i1, i2, i3⟩ := hQ.out h1
              refine ⟨i1, i2, fun u hu => ?_⟩
              rw [List.take_add_one, hy] at hu
              simp at hu
              rcases hu with hu | rfl
              · exact i3 u hu
              · exact h2
            clear hy z6 hql'
            cases x
            · by_cases hyk : y = kpB
              · have ey : y.toList = [107, 101, 101, 112, 32, 116, 104, 105, 115, 32, 115, 97, 102, 101] := by rw [hyk]; exact kp_list
                clear hyk
                go_wp2_with fail
                go_round
                case rel => exact ⟨q + 1, true, by omega, by go_num, rfl, hst.out true (fun h => by cases h)⟩
                case measure => simp [intOf]; omega
              · have ey : ¬ y.toList = [107, 101, 101, 112, 32, 116, 104, 105, 115, 32, 115, 97, 102, 101] := fun e => hyk (kp_of e)
                have ey' : (y.toList == [107, 101, 101, 112, 32, 116, 104, 105, 115, 32, 115, 97, 102, 101]) = false := beq_eq_false_iff_ne.2 ey
                have hyk' := Lib.hid hyk
                clear hyk
                go_wp2_with fail
                go_round
                case rel => exact ⟨q + 1, false, by omega, by go_num, rfl, hst.out false (fun _ => ⟨rfl, hyk'.out⟩)⟩
                case measure => simp [intOf]; omega
            · go_wp2_with fail
              go_round
              case rel => exact ⟨q + 1, true, by omega, by go_num, rfl, hst.out true (fun h => by cases h)⟩
              case measure => simp [intOf]; omega
          · cases x
            · have hno := hQ.out rfl
              rw [List.take_of_length_le (by rw [hln'.out]; omega)] at hno
              have hno' := Lib.hid hno
              clear hno
              have cDo := cD'.out wo hLo'
              rw [hln'.out] at cDo
              go_wp2_with fail
              refine cDo.mono ?_
              rintro e w7 ⟨jd, rfl, h7, hjd⟩
              clear cDo
              have hK7 := doOp_keeps hL.ok hK rfl ⟨K, N, A, B, S, la, lcap, L, ka, kcap, keep, lack⟩ jd hno'.out.1 hno'.out.2.1 hno'.out.2.2
              have hN7 := doOp_near hL.ok hFit ⟨K, N, A, B, S, la, lcap, L, ka, kcap, keep, lack⟩ hjd
              have hjd' := Lib.hid hjd
              clear hjd
              generalize (D.doOp ⟨K, N, A, B, S, la, lcap, L, ka, kcap, keep, lack⟩ jd).1 = er at *
              generalize (D.doOp ⟨K, N, A, B, S, la, lcap, L, ka, kcap, keep, lack⟩ jd).2 = D7 at *
              have e7 : D7.all kpB = if D7.down then (ByteArray.empty, 8) else (s, 0) := by
                unfold DiskA.all; rw [findF_of (f := ⟨kpB, id, s, s⟩) h7.ok.names hK7.mem]
              have cA := h7.all kpB
              have cdn := fun W (h : Lives w b D7 W) => h.isDown
              rw [e7] at cA
              have hK7' := Lib.hid hK7
              have hN7' := Lib.hid hN7
              clear e7 hK7 hN7
              generalize hdn : D7.down = dn at *
              have hdn' := Lib.hid hdn
              clear hdn
              cases dn
              all_goals
                go_wp2_with fail
                refine cA.mono ?_
                rintro e w8 ⟨rfl, h8⟩
                go_wp2_with fail
                refine (cdn _ h8).mono ?_
                rintro e w9 ⟨rfl, rfl⟩
                go_wp2_with (first | (refine (cdn _ h8).mono ?_; rintro e w9 ⟨rfl, rfl⟩))
                go_roundw
                case rel => exact ⟨k + 1, D7, by omega, by go_num, h8, hK7'.out, hN7'.out.fit, by have := hN7'.out.waits; omega, by have := hN7'.out.files; omega⟩
                case measure => simp [intOf]; omega
            · go_wp2_with fail
              go_roundw
              case rel => exact ⟨k + 1, D, by omega, by go_num, hLo', hK, hFit, by omega, by omega⟩
              case measure => simp [intOf]; omega
      · have eA : ¬ A.toList = [107, 101, 101, 112, 32, 116, 104, 105, 115, 32, 115, 97, 102, 101] := fun e => hA (kp_of e)
        have eA' : (A.toList == [107, 101, 101, 112, 32, 116, 104, 105, 115, 32, 115, 97, 102, 101]) = false := beq_eq_false_iff_ne.2 eA
        have eB : ¬ B.toList = [107, 101, 101, 112, 32, 116, 104, 105, 115, 32, 115, 97, 102, 101] := fun e => hB (kp_of e)
        have eB' : (B.toList == [107, 101, 101, 112, 32, 116, 104, 105, 115, 32, 115, 97, 102, 101]) = false := beq_eq_false_iff_ne.2 eB
        have hAB := Lib.hid (And.intro hA hB)
        clear hA hB
        go_wp2_with fail
        rw [hwo'.out]
        clear eA eA' eB eB'
        have hx0 : Hid (false = false → A ≠ kpB ∧ B ≠ kpB) := fun _ => hAB.out
        go_loop [8, 57] (fun t j => ∃ (q : Nat) (x : Bool), q ≤ ln ∧ j = .int .i64 q ∧ t = .bool x ∧ Hid (x = false → A ≠ kpB ∧ B ≠ kpB ∧ ∀ y ∈ L.take q, y ≠ kpB)) (fun _ j => ln - (intOf j).toNat)
        case atStart => exact ⟨0, _, by omega, rfl, rfl, fun h => ⟨(hx0.out h).1, (hx0.out h).2, by simp⟩⟩
        case round =>
          obtain ⟨q, x, hq, rfl, rfl, hQ⟩ := hrel
          by_cases hql : q < ln
          · have hql' : q < L.length := by rw [hln'.out]; exact hql
            obtain ⟨y, hy⟩ : ∃ y, L[q]? = some y := ⟨L[q], by simp [hql']⟩
            obtain ⟨b', off', rfl, hc⟩ := hstr'.out q y hy
            have hyz := z6 y (List.mem_of_getElem? hy)
            have hst : Hid (∀ z, (z = false → x = false ∧ y ≠ kpB) → (z = false → A ≠ kpB ∧ B ≠ kpB ∧ ∀ y ∈ L.take (q + 1), y ≠ kpB)) := fun z h hz => by
              obtain ⟨h1, h2⟩ := h hz
              obtain ⟨i1, i2, i3⟩ := hQ.out h1
              refine ⟨i1, i2, fun u hu => ?_⟩
              rw [List.take_add_one, hy] at hu
              simp at hu
              rcases hu with hu | rfl
              · exact i3 u hu
              · exact h2
            clear hy z6 hql'
            cases x
            · by_cases hyk : y = kpB
              · have ey : y.toList = [107, 101, 101, 112, 32, 116, 104, 105, 115, 32, 115, 97, 102, 101] := by rw [hyk]; exact kp_list
                clear hyk
                go_wp2_with fail
                go_round
                case rel => exact ⟨q + 1, true, by omega, by go_num, rfl, hst.out true (fun h => by cases h)⟩
                case measure => simp [intOf]; omega
              · have ey : ¬ y.toList = [107, 101, 101, 112, 32, 116, 104, 105, 115, 32, 115, 97, 102, 101] := fun e => hyk (kp_of e)
                have ey' : (y.toList == [107, 101, 101, 112, 32, 116, 104, 105, 115, 32, 115, 97, 102, 101]) = false := beq_eq_false_iff_ne.2 ey
                have hyk' := Lib.hid hyk
                clear hyk
                go_wp2_with fail
                go_round
                case rel => exact ⟨q + 1, false, by omega, by go_num, rfl, hst.out false (fun _ => ⟨rfl, hyk'.out⟩)⟩
                case measure => simp [intOf]; omega
            · go_wp2_with fail
              go_round
              case rel => exact ⟨q + 1, true, by omega, by go_num, rfl, hst.out true (fun h => by cases h)⟩
              case measure => simp [intOf]; omega
          · cases x
            · have hno := hQ.out rfl
              rw [List.take_of_length_le (by rw [hln'.out]; omega)] at hno
              have hno' := Lib.hid hno
              clear hno
              have cDo := cD'.out wo hLo'
              rw [hln'.out] at cDo
              go_wp2_with fail
              refine cDo.mono ?_
              rintro e w7 ⟨jd, rfl, h7, hjd⟩
              clear cDo
              have hK7 := doOp_keeps hL.ok hK rfl ⟨K, N, A, B, S, la, lcap, L, ka, kcap, keep, lack⟩ jd hno'.out.1 hno'.out.2.1 hno'.out.2.2
              have hN7 := doOp_near hL.ok hFit ⟨K, N, A, B, S, la, lcap, L, ka, kcap, keep, lack⟩ hjd
              have hjd' := Lib.hid hjd
              clear hjd
              generalize (D.doOp ⟨K, N, A, B, S, la, lcap, L, ka, kcap, keep, lack⟩ jd).1 = er at *
              generalize (D.doOp ⟨K, N, A, B, S, la, lcap, L, ka, kcap, keep, lack⟩ jd).2 = D7 at *
              have e7 : D7.all kpB = if D7.down then (ByteArray.empty, 8) else (s, 0) := by
                unfold DiskA.all; rw [findF_of (f := ⟨kpB, id, s, s⟩) h7.ok.names hK7.mem]
              have cA := h7.all kpB
              have cdn := fun W (h : Lives w b D7 W) => h.isDown
              rw [e7] at cA
              have hK7' := Lib.hid hK7
              have hN7' := Lib.hid hN7
              clear e7 hK7 hN7
              generalize hdn : D7.down = dn at *
              have hdn' := Lib.hid hdn
              clear hdn
              cases dn
              all_goals
                go_wp2_with fail
                refine cA.mono ?_
                rintro e w8 ⟨rfl, h8⟩
                go_wp2_with fail
                refine (cdn _ h8).mono ?_
                rintro e w9 ⟨rfl, rfl⟩
                go_wp2_with (first | (refine (cdn _ h8).mono ?_; rintro e w9 ⟨rfl, rfl⟩))
                go_roundw
                case rel => exact ⟨k + 1, D7, by omega, by go_num, h8, hK7'.out, hN7'.out.fit, by have := hN7'.out.waits; omega, by have := hN7'.out.files; omega⟩
                case measure => simp [intOf]; omega
            · go_wp2_with fail
              go_roundw
              case rel => exact ⟨k + 1, D, by omega, by go_num, hLo', hK, hFit, by omega, by omega⟩
              case measure => simp [intOf]; omega
    · go_wp2_with fail
      have c := hL.crash0 hFit
      refine c.mono ?_
      rintro e w7 ⟨rfl, h7⟩
      clear c
      have hK7 := crash_keeps hK rfl [] 0
      have e7 : (D.crash [] 0).all kpB = (s, 0) := all_ok rfl (findF_of (f := ⟨kpB, id, s, s⟩) h7.ok.names hK7.mem)
      go_wp2_with fail
      have c := h7.all kpB
      rw [e7] at c
      refine c.mono ?_
      rintro e w8 ⟨rfl, h8⟩
      clear c e7
      go_wp2_with fail
      go_ret
      exact ⟨by simp, h8.grew⟩
end Go.Proofs.Ytndpmjanflahhaa
