/-
  THE STATEMENTS OF LAYER 4: DiskKeeps.
-/
import Derived.Test.YtndpmjanflahhaaKp3
import Derived.Test.YtndpmjanflahhaaDk35
namespace Go.Proofs.Ytndpmjanflahhaa
open Go.RowKit Go.MapKept

theorem hasAll_of {D E : DiskA} (hE : E.Ok) (h : D.files.map (fun f => (f.name, f.now)) = E.files.map (fun f => (f.name, f.now))) : HasAll D E := by
  refine ⟨by have := congrArg List.length h; simpa using this, fun f hf => ?_⟩
  have : (f.name, f.now) ∈ E.files.map (fun f => (f.name, f.now)) := by rw [← h]; exact List.mem_map.2 ⟨f, hf, rfl⟩
  obtain ⟨g, hg, e⟩ := List.mem_map.1 this
  simp only [Prod.mk.injEq] at e
  exact ⟨g, by rw [← e.1]; exact findF_of hE.names hg, e.2⟩
/-- What the calls leave of two disks. -/
structure Twins (D E : DiskA) : Prop where
  ren : ∃ φ : Nat → Nat, (∀ a b, φ a = φ b → a = b) ∧ E = D.ren φ
  calm : Calm D
  fitD : D.Fit
  fitE : E.Fit
  whole : Whole D
theorem Twins.waits {D E : DiskA} (h : Twins D E) : E.waits.length = D.waits.length := by
  obtain ⟨φ, _, rfl⟩ := h.ren; show (List.map _ _).length = _; rw [List.length_map]
theorem Twins.filesLen {D E : DiskA} (h : Twins D E) : E.files.length = D.files.length := by
  obtain ⟨φ, _, rfl⟩ := h.ren; show (List.map _ _).length = _; rw [List.length_map]
theorem Twins.files {D E : DiskA} (h : Twins D E) : D.files.map (fun f => (f.name, f.now)) = E.files.map (fun f => (f.name, f.now)) := by
  obtain ⟨φ, _, rfl⟩ := h.ren; show _ = (List.map _ _).map _; rw [List.map_map]; rfl
theorem Twins.start (c : Int) : Twins (newD c) (newD c) :=
  ⟨⟨id, fun _ _ h => h, rfl⟩, calm_new c, ⟨by simp [newD], by simp [newD]⟩, ⟨by simp [newD], by simp [newD]⟩, fun f hf => by simp [newD] at hf⟩
theorem Twins.doOp {D E : DiskA} (h : Twins D E) (hD : D.Ok) (hE : E.Ok) (o : OpV) {id id' : Nat} (h1 : ∀ f ∈ D.files, f.id ≠ id) (h2 : ∀ f ∈ E.files, f.id ≠ id') (hK : o.K ≤ 5) : Twins (D.doOp o id).2 (E.doOp o id').2 := by
  obtain ⟨φ, hφ, rfl⟩ := h.ren
  obtain ⟨ψ, hψ, hid, hr⟩ := ren_new hφ hD h1 h2
  have hren := doOp_ren hψ D o id hK
  rw [hid, hr] at hren
  refine ⟨⟨ψ, hψ, by rw [hren]⟩, calm_head h.calm (doOp_refuses h.calm o id hK).1, (doOp_near hD h.fitD o h1).fit, (doOp_near hE h.fitE o h2).fit, doOp_whole hD h.calm h.whole o h1 hK⟩

def ksAll : List Bool := List.replicate 200 true
theorem ksAll_len : ksAll.length = 200 := List.length_replicate

def kbA (i : Nat) : Array Value := (List.replicate i (Value.bool true) ++ List.replicate (200 - i) (Value.bool false)).toArray
theorem kbA_set (i : Nat) (h : i < 200) : (kbA i).setIfInBounds i (.bool true) = kbA (i + 1) := by
  unfold kbA
  rw [List.setIfInBounds_toArray]
  congr 1
  obtain ⟨m, hm⟩ : ∃ m, 200 - i = m + 1 := ⟨200 - i - 1, by omega⟩
  rw [hm, show 200 - (i + 1) = m by omega, List.replicate_succ, List.set_append_right _ _ (by simp)]
  simp [List.replicate_succ']
theorem kbA_get (i j : Nat) (h : j < 200) : ∃ b, (kbA i)[j]? = some (.bool b) := by
  unfold kbA
  rw [List.getElem?_toArray, List.getElem?_append]
  split
  · rename_i hj
    simp at hj
    exact ⟨true, by rw [List.getElem?_replicate_of_lt hj]⟩
  · rename_i hj
    simp at hj
    exact ⟨false, by rw [List.getElem?_replicate_of_lt (by simp; omega)]⟩
theorem info_bool : (Try.prog.info? 4).map (fun i => (i.zero, i.size, i.bytes)) = some (some (.bool false), 1, 1) := by kernel_rfl
theorem made_bools : (madeCells #[.bool false] (200 * 1)).toList = (kbA 0).toList := by kernel_rfl
theorem crash_files {D : DiskA} (hok : D.Ok) (h : Whole D) (hw : D.waits.length ≤ 200) : (D.crash ksAll 0).files.map (fun f => (f.name, f.now)) = D.files.map (fun f => (f.name, f.now)) := by
  rw [crash_all hok h ksAll (by rw [ksAll_len]; exact hw) (fun b hb => by unfold ksAll at hb; exact List.eq_of_mem_replicate hb), List.map_map]
  rfl
theorem list_names {D E : DiskA} (h : D.names = E.names) (hd : ByteArray) : D.list hd = E.list hd := by
  unfold DiskA.list DiskA.sorted
  have : D.files.map (fun f => f.name.data.toList) = E.files.map (fun f => f.name.data.toList) := by
    have := congrArg (List.map (fun n : ByteArray => n.data.toList)) h
    unfold DiskA.names at this
    rw [List.map_map, List.map_map] at this
    exact this
  rw [this]

set_option maxRecDepth 100000 in
set_option maxHeartbeats 4000000 in
theorem diskKeeps_any (a : Option Addr) (cap : Nat) (os : List OpV) (w : World) (hl : os.length ≤ 9223372036854775807) (hr : OpSl w a os) (hg : ∀ o ∈ os, o.Good w (fun k => w.heap.size ≤ k)) (hsz : ∀ o ∈ os, o.A.size ≤ 9223372036854775807 ∧ o.B.size ≤ 9223372036854775807 ∧ o.S.size ≤ 9223372036854775807 ∧ o.L.length ≤ 9223372036854775807 ∧ o.keep.length ≤ 9223372036854775807 ∧ ∀ n ∈ o.L, n.size ≤ 9223372036854775807) :
    Calls Try.prog 10 #[.slice a os.length cap] w (LastsPost w) := by
  have hr' := Lib.hid hr
  have hg' := Lib.hid hg
  have cG := Great_any a cap os
  have hsz' := Lib.hid hsz
  obtain ⟨n, hn⟩ : ∃ n, os.length = n := ⟨_, rfl⟩
  rw [hn] at hl cG ⊢
  have hn' := Lib.hid hn
  have cG' := Lib.hid cG
  clear hr hg hsz hn cG
  go_enter Try.func10, Try.ntmps10
  go_wp2_with fail
  refine (awake04_any w).mono ?_
  rintro e w1 ⟨rfl, hB1⟩
  go_wp2_with fail
  have hr1 : OpSl w1 a os := hr'.out.below hB1
  refine (cG'.out w1 (fun k => w.heap.size ≤ k) hl hr1 (fun o ho => (hg'.out o ho).kept (fun q hq hF => ⟨hB1.block q hq, by omega⟩)) hsz'.out).mono ?_
  rintro e w2 ⟨r, rfl, hsm, hB2⟩
  have hB2' := hB1.trans (hB2.mono hB1.size)
  cases r
  case true =>
    go_wp2_with fail
    go_ret
    exact ⟨rfl, hB2'⟩
  obtain ⟨hn100, hsm⟩ := hsm rfl
  have hsm' := Lib.hid hsm
  rw [hn'.out] at hn100
  clear hsm hr1 hB1 hB2
  go_wp2_with fail
  refine (New_lives (w0 := w) hB2' 100000 (by omega)).mono ?_
  rintro e w3 ⟨p, rfl, h3⟩
  go_wp2_with fail
  refine (h3.second 100000 (by omega)).mono ?_
  rintro e w4 ⟨q, rfl, h4⟩
  go_wp2_with fail
  go_loopw [19] (fun i wr => ∃ (k : Nat) (D E : DiskA), k ≤ n ∧ i = .int .i64 k ∧ Two w p D q E (fun _ => none) wr ∧ Twins D E ∧ D.waits.length ≤ k ∧ D.files.length ≤ k) (fun i _ => n - (intOf i).toNat)
  case atStart => exact ⟨0, _, _, by omega, rfl, h4, Twins.start _, Nat.le_refl _, Nat.le_refl _⟩
  case round =>
    obtain ⟨k, D, E, hk, rfl, hL, hT, hwl, hfl⟩ := hrel
    have hB := hL.grew
    by_cases hkn : k < n
    · have hkl : k < os.length := by rw [hn'.out]; exact hkn
      obtain ⟨g, off, rfl, hgl, hcell⟩ := hr'.out.at (by omega)
      obtain ⟨o, ho⟩ : ∃ o, os[k]? = some o := ⟨os[k], by simp [hkl]⟩
      have hom := List.mem_of_getElem? ho
      obtain ⟨c0, c1, c2, c3, c4, c5, c6, c7⟩ := op_cells (w := wr) (g := g) (p := off + k * 8) (o := o) (fun j hj => (hB.cell (p := ⟨g, off + k * 8 + j, none⟩) hgl).trans (hcell k o ho j hj))
      obtain ⟨z1, z2, z3, z4, z5, z6⟩ := hsz'.out o hom
      have hgo := hg'.out o hom
      have hso := hsm'.out o hom
      have hLo := hL.add (.cells o.cells 46)
      have hw1 := hT.waits
      have hf1 := hT.filesLen
      have cD := fun W O (h : Two w p D q E O W) => h.doOp hT.fitD o hgo hso (by omega) (by omega)
      have cE := fun W D' O (h : Two w q E p D' O W) => h.doOp hT.fitE o hgo hso (by omega) (by omega)
      clear hcell ho hom hgo hso hw1 hf1
      unfold OpV.cells at *
      obtain ⟨K, N, A, B, S, la, lcap, L, ka, kcap, keep, lack⟩ := o
      dsimp only at *
      by_cases hK : 5 < K
      · have hfin := hLo.forget (O' := fun _ => none) (fun _ _ h => by cases h)
        have hK6 : ¬ K < 6 := by omega
        go_wp2_with fail
        go_roundw
        case rel => exact ⟨k + 1, D, E, by omega, by go_num, hfin, hT, by omega, by omega⟩
        case measure => simp [intOf]; omega
      have hK5 : K ≤ 5 := by omega
      have hK6 : K < 6 := by omega
      clear hK
      obtain ⟨ln, hln⟩ : ∃ ln, L.length = ln := ⟨_, rfl⟩
      obtain ⟨kn, hkn2⟩ : ∃ kn, keep.length = kn := ⟨_, rfl⟩
      rw [hln] at c5 z4 hLo cD cE
      rw [hkn2] at c6 z5 hLo cD cE
      have cD' := Lib.hid cD
      have cE' := Lib.hid cE
      have hln' := Lib.hid hln
      have hkn' := Lib.hid hkn2
      have hLo' := Lib.hid hLo
      clear hln hkn2 cD cE hLo
      go_wp2_with fail
      refine (cD'.out _ _ hLo'.out).mono ?_
      rintro e w5 ⟨id1, rfl, h5, hid1⟩
      have hblk : Blk w5 wr.heap.size #[.int .i64 K, .int .i64 N, .string A, .string B, .string S, .slice la ln lcap, .slice ka kn kcap, .int .i64 lack] 46 := h5.block (by simp)
      have q0 : w5.cell? ⟨wr.heap.size, 0, none⟩ = some (.int .i64 K) := hblk.cell 0
      have q1 : w5.cell? ⟨wr.heap.size, 1, none⟩ = some (.int .i64 N) := hblk.cell 1
      have q2 : w5.cell? ⟨wr.heap.size, 2, none⟩ = some (.string A) := hblk.cell 2
      have q3 : w5.cell? ⟨wr.heap.size, 3, none⟩ = some (.string B) := hblk.cell 3
      have q4 : w5.cell? ⟨wr.heap.size, 4, none⟩ = some (.string S) := hblk.cell 4
      have q5 : w5.cell? ⟨wr.heap.size, 5, none⟩ = some (.slice la ln lcap) := hblk.cell 5
      have q6 : w5.cell? ⟨wr.heap.size, 6, none⟩ = some (.slice ka kn kcap) := hblk.cell 6
      have q7 : w5.cell? ⟨wr.heap.size, 7, none⟩ = some (.int .i64 lack) := hblk.cell 7
      have hid1' := Lib.hid hid1
      clear hblk hid1
      go_wp2_with fail
      refine (cE'.out _ _ _ h5.symm).mono ?_
      rintro e w6 ⟨id2, rfl, h6, hid2⟩
      have hT6 := hT.doOp hL.ok.1 hL.ok.2 ⟨K, N, A, B, S, la, lcap, L, ka, kcap, keep, lack⟩ hid1'.out hid2 hK5
      have hN6 := doOp_near hL.ok.1 hT.fitD ⟨K, N, A, B, S, la, lcap, L, ka, kcap, keep, lack⟩ hid1'.out
      have h6' := h6.symm.forget (O' := fun _ => none) (fun _ _ h => by cases h)
      have hid2' := Lib.hid hid2
      clear q0 q1 q2 q3 q4 q5 q6 q7 hid2
      go_wp2_with fail
      go_roundw
      case rel => exact ⟨k + 1, _, _, by omega, by go_num, h6', hT6, by have := hN6.waits; omega, by have := hN6.files; omega⟩
      case measure => simp [intOf]; omega
    · obtain ⟨i0, hi0, hz0, hz1, hz2⟩ := info_parts info_bool
      have hall := hasAll_of hL.ok.2 hT.files
      have hwE := hT.waits
      have hwE' := Lib.hid hwE
      clear hwE
      go_wp2_with fail
      refine (hL.same hall).mono ?_
      rintro e w5 ⟨rfl, h5⟩
      clear hall
      go_wp2_with fail
      refine h5.waits.mono ?_
      rintro e w6 ⟨rfl, rfl⟩
      go_wp2_with fail
      have cW := h5.symm.waits
      rw [hwE'.out] at cW
      refine cW.mono ?_
      rintro e w6 ⟨rfl, rfl⟩
      clear cW
      have hD200 : D.waits.length ≤ 200 := by omega
      have hcf := Lib.hid (crash_files h5.ok.1 hT.whole hD200)
      go_wp2_with (refine wpList_make_full _ rfl _ _ 42 rfl 0 4 i0 (.bool false) 1 Try.underlying42 hi0 hz0 hz1 .i64 .i64 200 200 200 rfl rfl rfl rfl (by rw [hz2]; omega) (by unfold maxLen; omega) (Nat.zero_le _) ?_; intro w6 hown hgrow)
      have hkb : w6.heap[w5.heap.size]? = some (.cells (kbA 0) 4 (0, 0)) := by
        rcases hown.2 with ⟨hx, _⟩ | ⟨g', cap', cur, hv, _, hh, _, _, hc, ht⟩
        · cases hx
        · cases hv
          rw [hh]
          have e1 : cur = kbA 0 := by
            apply Array.toList_inj.1
            rw [List.take_of_length_le (by simp; omega)] at ht
            rw [ht]; exact made_bools
          rw [e1]
      have h6 := (h5.grown hgrow hkb).forget (O' := fun k => if k = w5.heap.size then some (.cells (kbA 0) 4 (0, 0)) else none) (fun k o h => by
        (try dsimp only at h ⊢)
        split at h
        · rename_i hk; rw [if_pos hk]; exact h
        · cases h)
      have hkw : w.heap.size ≤ w5.heap.size := h5.grew.size
      generalize w5.heap.size = kb at *
      clear hown hgrow hkb
      go_loopw [47] (fun i W => ∃ j : Nat, j ≤ 200 ∧ i = .int .i64 j ∧ Two w p D q E (fun k => if k = kb then some (.cells (kbA j) 4 (0, 0)) else none) W) (fun i _ => 200 - (intOf i).toNat)
      case atStart => exact ⟨0, by omega, rfl, h6⟩
      case round =>
        obtain ⟨j, hj, rfl, hTw⟩ := hrel
        have hblk : Blk wr kb (kbA j) 4 := hTw.block (if_pos rfl)
        by_cases hj200 : j < 200
        · obtain ⟨bx, hbx⟩ := kbA_get j j hj200
          have cj : wr.cell? ⟨kb, j, none⟩ = some (.bool bx) := (hblk.cell j).trans hbx
          have fj := hblk.frozen j
          have hst := hTw.store hkw j (.bool true)
          rw [kbA_set j hj200] at hst
          clear hblk hbx
          go_wp2_with fail
          go_roundw
          case rel => exact ⟨j + 1, by omega, by go_num, hst⟩
          case measure => simp [intOf]; omega
        · obtain rfl : j = 200 := by omega
          have hcells : ∀ (W : World) (D' E' : DiskA), Two w p D' q E' (fun k => if k = kb then some (.cells (kbA 200) 4 (0, 0)) else none) W → ∀ i x, ksAll[i]? = some x → W.cell? ⟨kb, i, none⟩ = some (.bool x) := by
            intro W D' E' hW i x hx
            have hb : Blk W kb (kbA 200) 4 := hW.block (if_pos rfl)
            rw [hb.cell i]
            unfold ksAll at hx
            have hi : i < 200 := by have := (List.getElem?_eq_some_iff.1 hx).1; simpa using this
            rw [List.getElem?_replicate_of_lt hi] at hx
            cases hx
            unfold kbA
            rw [List.getElem?_toArray, List.getElem?_append_left (by simpa using hi), List.getElem?_replicate_of_lt hi]
          have cC := hTw.crash hT.fitD kb 200 ksAll _ (if_pos rfl) (by rw [ksAll_len]; omega) (by rw [ksAll_len]; omega) (hcells _ _ _ hTw)
          rw [ksAll_len] at cC
          have hcells' := Lib.hid hcells
          clear hcells hblk
          go_wp2_with fail
          refine cC.mono ?_
          rintro e w7 ⟨rfl, h7⟩
          clear cC
          have hw0 : (D.crash ksAll 0).waits.length = 0 := rfl
          have hall7 := hasAll_of h7.ok.2 (hcf.out.trans hT.files)
          have hnm7 : (D.crash ksAll 0).names = E.names := by
            have h1 := congrArg (List.map Prod.fst) (hcf.out.trans hT.files)
            rw [List.map_map, List.map_map] at h1
            exact h1
          have hnm7' := Lib.hid hnm7
          generalize D.crash ksAll 0 = D1 at *
          clear hnm7
          go_wp2_with fail
          refine (h7.same hall7).mono ?_
          rintro e w8 ⟨rfl, h8⟩
          clear hall7
          have cW := h8.waits
          rw [hw0] at cW
          clear hw0
          go_wp2_with fail
          refine cW.mono ?_
          rintro e w9 ⟨rfl, rfl⟩
          clear cW
          have hszE : sizes E.files ≤ 16777216 := Nat.le_trans h8.ok.2.size h8.ok.2.cap
          have hszS := sizes_still hT.fitE
          have cS := h8.symm.size
          have hE1 := crash_none E [] 0 (.inl rfl)
          generalize hz : sizes E.files = zE at *
          have hz' := Lib.hid hz
          clear hz
          go_wp2_with fail
          refine cS.mono ?_
          rintro e w9 ⟨rfl, h9⟩
          clear cS
          go_wp2_with fail
          refine (h9.crash0 hT.fitE).mono ?_
          rintro e w10 ⟨rfl, h10⟩
          have hnm : D1.list ⟨#[]⟩ = (E.crash [] 0).list ⟨#[]⟩ := list_names (by
            rw [hnm7'.out]
            unfold DiskA.names
            rw [hE1, List.map_map]; rfl) _
          have hfit1 := crash_fit E [] 0
          have hw1 : (E.crash [] 0).waits.length = 0 := rfl
          have hE2 := crash_none (E.crash [] 0) ksAll 0 (.inr rfl)
          have hw2 : ((E.crash [] 0).crash ksAll 0).waits.length = 0 := rfl
          have hE2s : ((E.crash [] 0).crash ksAll 0).files = (E.crash [] 0).files := by rw [hE2, hE1, still_still]
          have hzs : sizes (E.crash [] 0).files = sizes (E.files.map FileA.still) := by rw [hE1]
          rw [← hzs] at hszS
          generalize E.crash [] 0 = E1 at *
          have hE2s' := Lib.hid hE2s
          have hnm' := Lib.hid hnm
          clear hE1 hE2 hE2s hzs hnm hw1
          go_wp2_with fail
          refine (h10.symm.list ⟨#[]⟩ (by decide)).mono ?_
          rintro e w11 ⟨l1, cp1, rfl, hs1, h11, -⟩
          go_wp2_with fail
          refine (h11.symm.list ⟨#[]⟩ (by decide)).mono ?_
          rintro e w12 ⟨l2, cp2, rfl, hs2, h12, hb12⟩
          have hs1' := hs1.below hb12
          have hll : (E1.list ⟨#[]⟩).length ≤ 9223372036854775807 := by
            unfold DiskA.list
            have := List.length_filter_le (fun n => preB n ⟨#[]⟩) E1.sorted
            rw [sorted_length] at this
            have := h12.ok.1.files
            omega
          have cR := RSame_yes l1 l2 cp1 cp2 (E1.list ⟨#[]⟩) w12 hll (by rw [← hnm'.out]; exact hs1') hs2
          rw [hnm'.out]
          clear hs1 hs2 hs1' hll
          go_wp2_with fail
          refine cR.mono ?_
          rintro e w13 ⟨rfl, hb13⟩
          clear cR
          have h13 := h12.below hb13
          have cS := h13.size
          generalize hy : sizes E1.files = zY at *
          have hy' := Lib.hid hy
          clear hy
          go_wp2_with fail
          refine cS.mono ?_
          rintro e w14 ⟨rfl, h14⟩
          clear cS
          have cS := h14.size
          rw [hy'.out] at cS
          go_wp2_with fail
          refine cS.mono ?_
          rintro e w15 ⟨rfl, h15⟩
          clear cS
          have cC := h15.crash hfit1 kb 200 ksAll _ (if_pos rfl) (by rw [ksAll_len]; omega) (by rw [ksAll_len]; omega) (hcells'.out _ _ _ h15.symm)
          rw [ksAll_len] at cC
          go_wp2_with fail
          refine cC.mono ?_
          rintro e w16 ⟨rfl, h16⟩
          clear cC
          have cS := h16.size
          rw [hE2s'.out, hy'.out] at cS
          go_wp2_with fail
          refine cS.mono ?_
          rintro e w17 ⟨rfl, h17⟩
          clear cS
          have cW := h17.waits
          rw [hw2] at cW
          go_wp2_with fail
          refine cW.mono ?_
          rintro e w18 ⟨rfl, rfl⟩
          clear cW
          go_wp2_with fail
          go_ret
          exact ⟨by simp, h17.grew⟩
end Go.Proofs.Ytndpmjanflahhaa
