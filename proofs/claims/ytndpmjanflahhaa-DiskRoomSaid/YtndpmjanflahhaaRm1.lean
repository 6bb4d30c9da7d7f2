/-
  THE STATEMENTS OF LAYER 4: DiskRoom.
-/
import Derived.Test.YtndpmjanflahhaaRm0
import Derived.Test.YtndpmjanflahhaaDk35
import Derived.Test.YtndpmjanflahhaaMJ
namespace Go.Proofs.Ytndpmjanflahhaa
open Go.RowKit Go.MapKept

theorem capOf_u16 {c : Nat} (h : c < 65536) : capOf (c : Int) = c := by unfold capOf; omega

set_option maxRecDepth 100000 in
set_option maxHeartbeats 4000000 in
theorem diskRoom_any (cp : Nat) (a : Option Addr) (cap : Nat) (os : List OpV) (w : World) (hcp : cp < 65536) (hl : os.length ≤ 9223372036854775807) (hr : OpSl w a os) (hg : ∀ o ∈ os, o.Good w (fun k => w.heap.size ≤ k)) (hsz : ∀ o ∈ os, o.A.size ≤ 9223372036854775807 ∧ o.B.size ≤ 9223372036854775807 ∧ o.S.size ≤ 9223372036854775807 ∧ o.L.length ≤ 9223372036854775807 ∧ o.keep.length ≤ 9223372036854775807 ∧ ∀ n ∈ o.L, n.size ≤ 9223372036854775807) :
    Calls Try.prog 9 #[.int .u16 cp, .slice a os.length cap] w (LastsPost w) := by
  have hr' := Lib.hid hr
  have hg' := Lib.hid hg
  have cG := Great_any a cap os
  have hsz' := Lib.hid hsz
  obtain ⟨n, hn⟩ : ∃ n, os.length = n := ⟨_, rfl⟩
  rw [hn] at hl cG ⊢
  have hn' := Lib.hid hn
  have cG' := Lib.hid cG
  clear hr hg hsz hn cG
  go_enter Try.func9, Try.ntmps9
  go_wp2_with fail
  refine (awake04_any w).mono ?_
  rintro e w1 ⟨rfl, hB1⟩
  go_wp2_with fail
  have hr1 : OpSl w1 a os := hr'.out.below hB1
  refine (cG'.out w1 (fun k => w.heap.size ≤ k) hl hr1 (fun o ho => (hg'.out o ho).kept (fun q hq hF => ⟨hB1.block q hq, by omega⟩)) hsz'.out).mono ?_
  rintro e w2 ⟨r, rfl, hsm, hB2⟩
  have hB2' := hB1.trans (hB2.mono hB1.size)
  cases r
  case true =>
    go_wp2_with fail
    go_ret
    exact ⟨rfl, hB2'⟩
  obtain ⟨hn100, hsm⟩ := hsm rfl
  have hsm' := Lib.hid hsm
  rw [hn'.out] at hn100
  clear hsm hr1 hB1 hB2
  go_wp2_with fail
  refine (New_lives (w0 := w) hB2' cp (by omega)).mono ?_
  rintro e w3 ⟨b, rfl, h3⟩
  go_wp2_with fail
  go_loopw [21] (fun i wr => ∃ (k : Nat) (D : DiskA), k ≤ n ∧ i = .int .i64 k ∧ Lives w b D wr ∧ Calm D ∧ Hid (D.cap = cp) ∧ D.Fit ∧ D.waits.length ≤ k ∧ D.files.length ≤ k) (fun i _ => n - (intOf i).toNat)
  case atStart => exact ⟨0, _, by omega, rfl, h3, calm_new _, capOf_u16 hcp, ⟨by simp [newD], by simp [newD]⟩, Nat.le_refl _, Nat.le_refl _⟩
  case round =>
    obtain ⟨k, D, hk, rfl, hL, hC, hcap, hFit, hwl, hfl⟩ := hrel
    have hB := hL.grew
    by_cases hkn : k < n
    · have hkl : k < os.length := by rw [hn'.out]; exact hkn
      obtain ⟨g, off, rfl, hgl, hcell⟩ := hr'.out.at (by omega)
      obtain ⟨o, ho⟩ : ∃ o, os[k]? = some o := ⟨os[k], by simp [hkl]⟩
      have hom := List.mem_of_getElem? ho
      obtain ⟨c0, c1, c2, c3, c4, c5, c6, c7⟩ := op_cells (w := wr) (g := g) (p := off + k * 8) (o := o) (fun j hj => (hB.cell (p := ⟨g, off + k * 8 + j, none⟩) hgl).trans (hcell k o ho j hj))
      obtain ⟨z1, z2, z3, z4, z5, z6⟩ := hsz'.out o hom
      have hgo := hg'.out o hom
      have hso := hsm'.out o hom
      have hLo' : Lives w b D (wr.alloc (.cells o.cells 46)) := hL.below ((Below.refl _ _).alloc (Nat.le_refl _) _)
      have cD := fun W (h : Lives w b D W) => h.doOp hFit o hgo hso (by omega) (by omega)
      have hbl : Blk (wr.alloc (.cells o.cells 46)) wr.heap.size o.cells 46 := Blk.new _ _ _
      have hsz2 : wr.heap.size < (wr.alloc (.cells o.cells 46)).heap.size := by simp
      clear hcell ho hom hgo hso
      unfold OpV.cells at *
      obtain ⟨K, N, A, B, S, la, lcap, L, ka, kcap, keep, lack⟩ := o
      dsimp only at *
      by_cases hK : 5 < K
      · go_wp2_with fail
        go_roundw
        case rel => exact ⟨k + 1, D, by omega, by go_num, hLo', hC, hcap, hFit, by omega, by omega⟩
        case measure => simp [intOf]; omega
      have hK5 : K ≤ 5 := by omega
      obtain ⟨ln, hln⟩ : ∃ ln, L.length = ln := ⟨_, rfl⟩
      obtain ⟨kn, hkn2⟩ : ∃ kn, keep.length = kn := ⟨_, rfl⟩
      rw [hln] at c5 z4 hLo' hbl hsz2 cD
      rw [hkn2] at c6 z5 hLo' hbl hsz2 cD
      have cD' := Lib.hid cD
      clear cD
      have hln' := Lib.hid hln
      have hkn' := Lib.hid hkn2
      clear hln hkn2
      obtain ⟨wo, hwo⟩ : ∃ wo, wo = wr.alloc (.cells #[.int .i64 K, .int .i64 N, .string A, .string B, .string S, .slice la ln lcap, .slice ka kn kcap, .int .i64 lack] 46) := ⟨_, rfl⟩
      rw [← hwo] at hLo' hbl hsz2
      have hwo' := Lib.hid hwo.symm
      have hbl' := Lib.hid hbl
      clear hwo hbl
      have hnz : D.files.length = D.files.length := rfl
      clear hnz
      go_wp2_with fail
      rw [hwo'.out]
      have hlt : wr.heap.size < wo.heap.size := hbl'.out.lt
      refine hLo'.size.mono ?_
      rintro e w4 ⟨rfl, h4, hb4⟩
      go_wp2_with fail
      refine h4.waits.mono ?_
      rintro e w5 ⟨rfl, rfl⟩
      go_wp2_with fail
      refine (h4.list ⟨#[]⟩ (by decide)).mono ?_
      rintro e w5 ⟨sa, scap, rfl, -, h5, hb5⟩
      have h5 := h5.lives
      have hb45 : Below wo.heap.size wo w5 := hb4.trans (hb5.mono hb4.size)
      have hbl5 := hbl'.out.at (hb45.block _ hlt)
      have q0 : w5.cell? ⟨wr.heap.size, 0, none⟩ = some (.int .i64 K) := hbl5.cell 0
      have q1 : w5.cell? ⟨wr.heap.size, 1, none⟩ = some (.int .i64 N) := hbl5.cell 1
      have q2 : w5.cell? ⟨wr.heap.size, 2, none⟩ = some (.string A) := hbl5.cell 2
      have q3 : w5.cell? ⟨wr.heap.size, 3, none⟩ = some (.string B) := hbl5.cell 3
      have q4 : w5.cell? ⟨wr.heap.size, 4, none⟩ = some (.string S) := hbl5.cell 4
      have q5 : w5.cell? ⟨wr.heap.size, 5, none⟩ = some (.slice la ln lcap) := hbl5.cell 5
      have q6 : w5.cell? ⟨wr.heap.size, 6, none⟩ = some (.slice ka kn kcap) := hbl5.cell 6
      have q7 : w5.cell? ⟨wr.heap.size, 7, none⟩ = some (.int .i64 lack) := hbl5.cell 7
      have cD := cD'.out w5 h5
      clear hbl5 hb4 hb5 hb45
      go_wp2_with fail
      refine cD.mono ?_
      rintro e w6 ⟨jd, rfl, h6, hjd⟩
      clear cD q0 q1 q2 q3 q4 q5 q6 q7
      have hRf := doOp_refuses hC ⟨K, N, A, B, S, la, lcap, L, ka, kcap, keep, lack⟩ jd hK5
      have hN6 := doOp_near hL.ok hFit ⟨K, N, A, B, S, la, lcap, L, ka, kcap, keep, lack⟩ hjd
      have hjd' := Lib.hid hjd
      clear hjd
      generalize (D.doOp ⟨K, N, A, B, S, la, lcap, L, ka, kcap, keep, lack⟩ jd) = R at *
      obtain ⟨er, D6⟩ := R
      obtain ⟨hhead, href⟩ := hRf
      dsimp only at hhead href hN6 h6 ⊢
      have hC6 := calm_head hC hhead
      have hcap6 : Hid (D6.cap = cp) := by show _ = _; rw [hhead.cap]; exact hcap.out
      have hs6 : sizes D6.files ≤ D6.cap := h6.ok.size
      rw [hcap6.out] at hs6
      have hN6' := Lib.hid hN6
      have hroom := fun W (h : Lives w b D6 W) => h.room
      rw [hcap6.out] at hroom
      clear hN6 hhead
      by_cases her : er = 0
      · subst her
        clear href
        generalize hS6 : sizes D6.files = S6 at *
        go_wp2_with fail
        have cS := h6.size
        rw [hS6] at cS
        refine cS.mono ?_
        rintro e w7 ⟨rfl, h7, -⟩
        clear cS
        have hS6' := Lib.hid hS6
        clear hS6
        go_wp2_with fail
        refine (hroom _ h7).mono ?_
        rintro e w8 ⟨rfl, h8, -⟩
        have ew : wrap64 ((S6 : Int) + ((cp : Int) - (S6 : Int))) = (cp : Int) := by
          rw [show (S6 : Int) + ((cp : Int) - (S6 : Int)) = (cp : Int) by omega]
          exact Go.IntWalk.wrap64_in _ (by omega)
        go_wp2_with fail
        refine (hroom _ h8).mono ?_
        rintro e w9 ⟨rfl, h9, -⟩
        go_wp2_with fail
        go_roundw
        case rel => exact ⟨k + 1, D6, by omega, by go_num, h9, hC6, hcap6, hN6'.out.fit, by have := hN6'.out.waits; omega, by have := hN6'.out.files; omega⟩
        case measure => simp [intOf]; omega
      · have hDD := href her
        clear href
        subst hDD
        have hbn : (er != 0) = true := by rw [bne_iff_ne]; exact her
        have hbe : (er == 0) = false := beq_eq_false_iff_ne.2 her
        generalize hS6 : sizes D6.files = S6 at *
        have hS6' := Lib.hid hS6
        go_wp2_with fail
        have cS := h6.size
        rw [hS6] at cS
        refine cS.mono ?_
        rintro e w7 ⟨rfl, h7, -⟩
        clear cS hS6
        go_wp2_with fail
        refine h7.waits.mono ?_
        rintro e w8 ⟨rfl, rfl⟩
        go_wp2_with fail
        refine (h7.list ⟨#[]⟩ (by decide)).mono ?_
        rintro e w8 ⟨sa2, scap2, rfl, -, h8, -⟩
        have h8 := h8.lives
        go_wp2_with fail
        have cS := h8.size
        rw [hS6'.out] at cS
        refine cS.mono ?_
        rintro e w9 ⟨rfl, h9, -⟩
        clear cS
        go_wp2_with fail
        refine (hroom _ h9).mono ?_
        rintro e w10 ⟨rfl, h10, -⟩
        have ew : wrap64 ((S6 : Int) + ((cp : Int) - (S6 : Int))) = (cp : Int) := by
          rw [show (S6 : Int) + ((cp : Int) - (S6 : Int)) = (cp : Int) by omega]
          exact Go.IntWalk.wrap64_in _ (by omega)
        go_wp2_with fail
        refine (hroom _ h10).mono ?_
        rintro e w11 ⟨rfl, h11, -⟩
        go_wp2_with fail
        go_roundw
        case rel => exact ⟨k + 1, D6, by omega, by go_num, h11, hC6, hcap6, hN6'.out.fit, by have := hN6'.out.waits; omega, by have := hN6'.out.files; omega⟩
        case measure => simp [intOf]; omega
    · go_wp2_with fail
      go_ret
      exact ⟨rfl, hB⟩
end Go.Proofs.Ytndpmjanflahhaa
