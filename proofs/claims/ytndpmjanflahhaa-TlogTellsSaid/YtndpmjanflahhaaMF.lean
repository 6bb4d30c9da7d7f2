/-
  Dk29, Dk30, one behind the other.
-/
import Derived.Test.YtndpmjanflahhaaME
import Derived.Deep.LoopGhost
import Derived.Deep.RegionWith
/-
  disk.Crash.
-/
namespace Go.Proofs.Ytndpmjanflahhaa
open Go.RowKit Go.MapKept

set_option maxRecDepth 100000 in
set_option maxHeartbeats 8000000 in
theorem Crash_some (b : Nat) (D : DiskA) (F : Nat → Prop) (w : World) (h : IsDisk w b D F) (hfit : D.Fit) (ks : List Bool) (lack : Int) (hk : -9223372036854775808 ≤ lack ∧ lack ≤ 9223372036854775807)
    (kb ko kcap : Nat) (hkl : ks.length ≤ 1099511627776) (hkc : ks.length ≤ kcap) (hbl : BoolAt w kb ko ks) (hkF : ¬ F kb) (hkw : kb < w.heap.size)
    (m gb cap : Nat) (hb : Blk w b #[.int .i64 D.left, .bool D.down, .map (some m), .slice (some ⟨gb, 0, none⟩) D.waits.length cap, .int .i64 D.cap] 120) :
    Calls Try.prog 47 #[ptr b, .agg #[.slice (some ⟨kb, ko, none⟩) ks.length kcap, .int .i64 lack]] w fun e w' => e = .returned (.tuple #[]) ∧ IsDisk w' b (D.crash ks lack) F ∧ Step F w F w' := by
  obtain ⟨hk1, hk2⟩ := hk
  obtain ⟨m2, v2, hb2, hm, hr, fm, fg⟩ := h.head
  have heq : m2 = m ∧ v2 = .slice (some ⟨gb, 0, none⟩) D.waits.length cap := by
    unfold Blk at hb hb2; rw [hb] at hb2; injection hb2 with hb2; injection hb2 with hb2; simp at hb2; exact ⟨hb2.1.symm, hb2.2.symm⟩
  obtain ⟨rfl, rfl⟩ := heq
  have hrow : WRow w gb cap D.waits := hr
  obtain ⟨cur0, _, hwc, hcm, _⟩ := hrow.parts
  have hml : maxLen = 9223372036854775807 := by decide
  have hB0 : Below w.heap.size w (w.alloc (.cells #[.slice (some ⟨kb, ko, none⟩) ks.length kcap, .int .i64 lack] 44)) := (Below.refl _ w).alloc (Nat.le_refl _) _
  have c2 : (w.alloc (.cells #[.slice (some ⟨kb, ko, none⟩) ks.length kcap, .int .i64 lack] 44)).cell? ⟨b, 2, none⟩ = some (.map (some m2)) := (hb.at (hB0.block _ hb.lt)).cell 2
  have c3 : (w.alloc (.cells #[.slice (some ⟨kb, ko, none⟩) ks.length kcap, .int .i64 lack] 44)).cell? ⟨b, 3, none⟩ = some (.slice (some ⟨gb, 0, none⟩) D.waits.length cap) := (hb.at (hB0.block _ hb.lt)).cell 3
  obtain ⟨kn, hkn⟩ : ∃ kn, ks.length = kn := ⟨_, rfl⟩
  obtain ⟨wn, hwn⟩ : ∃ wn, D.waits.length = wn := ⟨_, rfl⟩
  have hkn' := Lib.hid hkn
  have hwn' := Lib.hid hwn
  rw [hkn] at hkl hkc c2 c3 hB0 ⊢
  rw [hwn] at hwc c3 hb
  have hbH := Lib.hid hb
  have hblH := Lib.hid hbl
  clear hkn hwn hr hb2 hm fm fg hb hbl hrow
  unfold ptr
  go_enter Try.func47, Try.ntmps47
  go_wp2
  go_region
  go_wp2
  generalize hn : min kn wn = n at *
  have hmin : (min (kn : Int) (wn : Int)) = (n : Int) := by omega
  have hmax : max (n : Int) 0 = (n : Int) := by omega
  rw [hmin, hmax, Int.toNat_natCast]
  have hnk : n ≤ kn := by omega
  have hnw : n ≤ wn := by omega
  have hnH : Hid (min kn wn = n) := hn
  clear hmin hmax hn
  have hBd : Below (w.alloc (.cells #[.slice (some ⟨kb, ko, none⟩) kn kcap, .int .i64 lack] 44)).heap.size (w.alloc (.cells #[.slice (some ⟨kb, ko, none⟩) kn kcap, .int .i64 lack] 44)) (w.alloc (.cells #[.slice (some ⟨kb, ko, none⟩) kn kcap, .int .i64 lack] 44)).drew := (Below.refl _ _).drew
  have hBW : Below w.heap.size w (w.alloc (.cells #[.slice (some ⟨kb, ko, none⟩) kn kcap, .int .i64 lack] 44)).drew := hB0.trans (hBd.mono (by simp))
  have hpl : Blk (w.alloc (.cells #[.slice (some ⟨kb, ko, none⟩) kn kcap, .int .i64 lack] 44)).drew w.heap.size #[.slice (some ⟨kb, ko, none⟩) kn kcap, .int .i64 lack] 44 := (Blk.new _ _ _).at (hBd.block _ (by simp))
  have hps : w.heap.size < (w.alloc (.cells #[.slice (some ⟨kb, ko, none⟩) kn kcap, .int .i64 lack] 44)).drew.heap.size := hpl.lt
  generalize (w.alloc (.cells #[.slice (some ⟨kb, ko, none⟩) kn kcap, .int .i64 lack] 44)).drew = W0 at *
  have hd0 := h.tight.below hBW
  have hbW : Blk W0 b #[.int .i64 D.left, .bool D.down, .map (some m2), .slice (some ⟨gb, 0, none⟩) wn cap, .int .i64 D.cap] 120 := hbH.out.at (hBW.block _ hbH.out.lt)
  generalize hF0 : (fun k => F k ∧ k < w.heap.size) = F0 at *
  have hF0p : ¬ F0 w.heap.size := by rw [← hF0]; rintro ⟨_, h⟩; exact absurd h (Nat.lt_irrefl _)
  have hF0lt : ∀ q, F0 q → q < w.heap.size := by rw [← hF0]; exact fun _ h => h.2
  have hF0k : ¬ F0 kb := by rw [← hF0]; rintro ⟨h, _⟩; exact hkF h
  have hblW : Hid (BoolAt W0 kb ko ks) := hblH.out.kept (hBW.block _ hkw)
  have hkW : kb < W0.heap.size := Nat.lt_trans hkw hps
  clear c2 c3 hB0 hBd
  go_loopw [31] (fun i wr => ∃ k : Nat, k ≤ n ∧ i = .int .i64 k ∧ IsDisk wr b (D.layUp (ks.take n) lack D.waits k) F0 ∧ Step F0 W0 F0 wr ∧ Blk wr b #[.int .i64 D.left, .bool D.down, .map (some m2), .slice (some ⟨gb, 0, none⟩) wn cap, .int .i64 D.cap] 120) (fun i _ => n - (intOf i).toNat)
  case atStart => exact ⟨0, by omega, rfl, hd0, Step.refl _ _, hbW⟩
  case round =>
    obtain ⟨k, hk, rfl, hd, hS, hbk⟩ := hrel
    by_cases hkn : k < n
    · obtain ⟨x, hx⟩ : ∃ x, D.waits[k]? = some x := ⟨D.waits[k]'(by rw [hwn'.out]; omega), by simp⟩
      obtain ⟨y, hy⟩ : ∃ y, ks[k]? = some y := ⟨ks[k]'(by rw [hkn'.out]; omega), by simp⟩
      have hblr : Hid (BoolAt wr kb ko ks) := hblW.out.kept (hS.block _ hkW hF0k)
      have hkr : kb < wr.heap.size := Nat.lt_of_lt_of_le hkW hS.size
      have hpr : w.heap.size < wr.heap.size := Nat.lt_of_lt_of_le hps hS.size
      have ck := hblr.out k y hy
      have hplr := hpl.at (hS.block _ hps hF0p)
      have cl : wr.cell? ⟨w.heap.size, 1, none⟩ = some (.int .i64 lack) := hplr.cell 1
      have hal := AlikeI.layUp D (ks.take n) lack D.waits k
      obtain ⟨okk, fitk⟩ := layUp_ok h.ok hfit (ks.take n) lack k
      have hrowk : WRow wr gb cap D.waits := by
        obtain ⟨m3, v3, hb3, _, hr3, _⟩ := hd.head
        have : v3 = .slice (some ⟨gb, 0, none⟩) wn cap := by
          unfold Blk at hbk hb3; rw [hbk] at hb3; injection hb3 with hb3; injection hb3 with hb3; simp at hb3; exact hb3.2.2.2.1.symm
        rw [this, hal.waits] at hr3
        unfold WRow; rw [hwn'.out] at hr3 ⊢; exact hr3
      obtain ⟨d0, d1, d2⟩ := hrowk.cellAt hx
      have hstep : D.layUp (ks.take n) lack D.waits (k + 1) = match (ks.take n)[k]?, D.waits[k]? with
        | some true, some x => (D.layUp (ks.take n) lack D.waits k).layOne x (layS (ks.take n) lack k x.s)
        | _, _ => D.layUp (ks.take n) lack D.waits k := rfl
      have htk : (ks.take n)[k]? = some y := by rw [List.getElem?_take_of_lt hkn]; exact hy
      rw [htk, hx] at hstep
      have hxH := Lib.hid hx
      clear hx hy htk
      cases y with
      | false =>
        dsimp only at hstep
        have hst := Lib.hid hstep
        clear hstep
        go_wp2
        go_roundw
        case rel => exact ⟨k + 1, by omega, by go_num, by rw [hst.out]; exact hd.below ((Below.refl _ _).alloc (Nat.le_refl _) _), hS.trans (Step.of_below ((Below.refl _ _).alloc (Nat.le_refl _) _)), hbk.at (heap_alloc_old _ _ hbk.lt)⟩
        case measure => simp [intOf]; omega
      | true =>
        dsimp only at hstep
        have hst := Lib.hid hstep
        clear hstep
        have hB1 : Below wr.heap.size wr (wr.alloc (.cells #[.pointer (some ⟨x.id, 0, none⟩), .int .i64 x.pos, .string x.s] 127)) := (Below.refl _ _).alloc (Nat.le_refl _) _
        have hbl1 : BoolAt (wr.alloc (.cells #[.pointer (some ⟨x.id, 0, none⟩), .int .i64 x.pos, .string x.s] 127)) kb (ko + (k + 1)) ((ks.take n).drop (k + 1)) :=
          ((hblr.out.kept (hB1.block _ hkr)).take n).drop (k + 1)
        have cC : ∀ o' cap', (o' = ko + (k + 1) ∨ n - (k + 1) = 0) → Calls Try.prog 92 #[.slice (some ⟨kb, o', none⟩) (n - (k + 1)) cap', .bool true] (wr.alloc (.cells #[.pointer (some ⟨x.id, 0, none⟩), .int .i64 x.pos, .string x.s] 127)) fun e w' => e = .returned (.bool (((ks.take n).drop (k + 1)).any id)) ∧ (wr.alloc (.cells #[.pointer (some ⟨x.id, 0, none⟩), .int .i64 x.pos, .string x.s] 127)) = w' := by
          intro o' cap' ho
          have hlen : ((ks.take n).drop (k + 1)).length = n - (k + 1) := by rw [List.length_drop, List.length_take, hkn'.out, Nat.min_eq_left hnk]
          rw [← hlen]
          refine ContainsBool kb o' cap' _ _ (by omega) ?_
          rcases ho with rfl | ho
          · exact hbl1
          · have : (ks.take n).drop (k + 1) = [] := List.length_eq_zero_iff.1 (by omega)
            rw [this]; intro i y hy; simp at hy
        have hlay : layS (ks.take n) lack k x.s = if ((ks.take n).drop (k + 1)).any id then x.s else lackS x.s lack := rfl
        generalize ((ks.take n).drop (k + 1)).any id = q at *
        have hlayH := Lib.hid hlay
        obtain ⟨f, hf, hfx⟩ : ∃ f ∈ (D.layUp (ks.take n) lack D.waits k).files, f.id = x.id := okk.waits x (by rw [hal.waits]; exact List.mem_of_getElem? hxH.out)
        have hfs : x.pos + x.s.size ≤ f.now.size := fitk.wait x (by rw [hal.waits]; exact List.mem_of_getElem? hxH.out) f hf hfx
        have hfi : f.image.size ≤ f.now.size := fitk.image f hf
        have hfn : f.now.size ≤ 16777216 := by
          have h1 := sizes_without okk.names hf
          have h2 : sizes (D.layUp (ks.take n) lack D.waits k).files ≤ (D.layUp (ks.take n) lack D.waits k).cap := okk.size
          have h3 := okk.cap
          omega
        have hlo : Hid (∀ s, (D.layUp (ks.take n) lack D.waits k).layOne x s = (D.layUp (ks.take n) lack D.waits k).imaged f.id (laidB f.image x.pos s)) := by
          intro s
          unfold DiskA.layOne
          rw [← hfx, byId_mem okk.ids hf]
        generalize D.layUp (ks.take n) lack D.waits k = Dk at *
        have hls := lackS_le x.s lack
        clear hlay hbl1 hal okk fitk hxH
        cases q
        · have hwr : wrap64 ((x.s.size : Int) - min (max lack 0) (x.s.size : Int)) = (x.s.size : Int) - min (max lack 0) (x.s.size : Int) := Go.IntWalk.wrap64_in _ (by omega)
          have hLk : x.s.extract 0 ((x.s.size : Int) - min (max lack 0) (x.s.size : Int)).toNat = lackS x.s lack := rfl
          have hLkH := Lib.hid hLk
          clear hLk
          go_wp2_with (go_at_call 92; with_reducible refine (cC _ _ (by first | exact .inl rfl | exact .inr (by omega))).mono ?_; rintro e w1 ⟨rfl, rfl⟩)
          all_goals rw [hLkH.out]
          all_goals
            have hB2 : Below wr.heap.size wr (wr.alloc (.cells #[.pointer (some ⟨x.id, 0, none⟩), .int .i64 x.pos, .string (lackS x.s lack)] 127)) := (Below.refl _ _).alloc (Nat.le_refl _) _
            have t0 : (wr.alloc (.cells #[.pointer (some ⟨x.id, 0, none⟩), .int .i64 x.pos, .string (lackS x.s lack)] 127)).cell? ⟨wr.heap.size, 0, none⟩ = some (.pointer (some ⟨x.id, 0, none⟩)) := (Blk.new wr #[.pointer (some ⟨x.id, 0, none⟩), .int .i64 x.pos, .string (lackS x.s lack)] 127).cell 0
            have t1 : (wr.alloc (.cells #[.pointer (some ⟨x.id, 0, none⟩), .int .i64 x.pos, .string (lackS x.s lack)] 127)).cell? ⟨wr.heap.size, 1, none⟩ = some (.int .i64 x.pos) := (Blk.new wr #[.pointer (some ⟨x.id, 0, none⟩), .int .i64 x.pos, .string (lackS x.s lack)] 127).cell 1
            have t2 : (wr.alloc (.cells #[.pointer (some ⟨x.id, 0, none⟩), .int .i64 x.pos, .string (lackS x.s lack)] 127)).cell? ⟨wr.heap.size, 2, none⟩ = some (.string (lackS x.s lack)) := (Blk.new wr #[.pointer (some ⟨x.id, 0, none⟩), .int .i64 x.pos, .string (lackS x.s lack)] 127).cell 2
            generalize (wr.alloc (.cells #[.pointer (some ⟨x.id, 0, none⟩), .int .i64 x.pos, .string (lackS x.s lack)] 127)) = W2 at *
            have htl : wr.heap.size < W2.heap.size := World.block_lt_of_cell? _ _ t0
            have hd2 := hd.below hB2
            have hbk2 := hbk.at (hB2.block _ hbk.lt)
            have hfb := (hd2.files f hf).2
            rw [hfx] at hfb
            have g0 : W2.cell? ⟨x.id, 0, none⟩ = some (.string f.image) := hfb.cell 0
            have hfl := hfb.lt
            have hfbH := Lib.hid hfb
            have hL := fun W => laid_any f.image x.pos (lackS x.s lack) W (by omega) (by omega) (by omega)
            clear hfb
            refine wp_region_z (fun W => W.cell? ⟨wr.heap.size, 0, none⟩ = some (.pointer (some ⟨x.id, 0, none⟩)) ∧ W.cell? ⟨wr.heap.size, 1, none⟩ = some (.int .i64 x.pos) ∧ W.cell? ⟨wr.heap.size, 2, none⟩ = some (.string (lackS x.s lack)) ∧ W.cell? ⟨x.id, 0, none⟩ = some (.string f.image)) 14 (by kernel_rfl) ⟨t0, t1, t2, g0⟩ (fun hHeld => ?_)
            refine AnyZ.take (i := 0) (v := ?_) (oi := ⟨some 62, _, _, _, _, _⟩) rfl (by kernel_rfl) (by kernel_rfl) (by kernel_rfl) rfl (by kernel_rfl) (fun _ _ _ h => h) (Or.inl ⟨rfl, ?_⟩) (by assumption) ?_
            rotate_left
            · (intro W hW; (try dsimp only at hW); go_simp; try with_reducible rfl)
            try simp only [Act.put, List.setIfInBounds_toArray, List.set_cons_zero, List.set_cons_succ]
            refine AnyZ.take (i := 1) (v := ?_) (oi := ⟨some 63, _, _, _, _, _⟩) rfl (by kernel_rfl) (by kernel_rfl) (by kernel_rfl) rfl (by kernel_rfl) (fun _ _ _ h => h) (Or.inl ⟨rfl, ?_⟩) (by assumption) ?_
            rotate_left
            · (intro W hW; (try dsimp only at hW); go_simp; try with_reducible rfl)
            try simp only [Act.put, List.setIfInBounds_toArray, List.set_cons_zero, List.set_cons_succ]
            refine AnyZ.take (i := 2) (v := ?_) (oi := ⟨some 64, _, _, _, _, _⟩) rfl (by kernel_rfl) (by kernel_rfl) (by kernel_rfl) rfl (by kernel_rfl) (fun _ _ _ h => h) (Or.inl ⟨rfl, ?_⟩) (by assumption) ?_
            rotate_left
            · (intro W hW; (try dsimp only at hW); go_simp; try with_reducible rfl)
            try simp only [Act.put, List.setIfInBounds_toArray, List.set_cons_zero, List.set_cons_succ]
            refine AnyZ.take (i := 3) (v := ?_) (oi := ⟨some 65, _, _, _, _, _⟩) rfl (by kernel_rfl) (by kernel_rfl) (by kernel_rfl) rfl (by kernel_rfl) (fun _ _ _ h => h) (Or.inl ⟨rfl, ?_⟩) (by assumption) ?_
            rotate_left
            · (intro W hW; (try dsimp only at hW); go_simp; try with_reducible rfl)
            try simp only [Act.put, List.setIfInBounds_toArray, List.set_cons_zero, List.set_cons_succ]
            refine AnyZ.take (i := 4) (v := ?_) (oi := ⟨some 66, _, _, _, _, _⟩) rfl (by kernel_rfl) (by kernel_rfl) (by kernel_rfl) rfl (by kernel_rfl) (fun _ _ _ h => h) (Or.inl ⟨rfl, ?_⟩) (by assumption) ?_
            rotate_left
            · (intro W hW; (try dsimp only at hW); go_simp; try with_reducible rfl)
            try simp only [Act.put, List.setIfInBounds_toArray, List.set_cons_zero, List.set_cons_succ]
            refine AnyZ.take (i := 5) (v := ?_) (oi := ⟨some 67, _, _, _, _, _⟩) rfl (by kernel_rfl) (by kernel_rfl) (by kernel_rfl) rfl (by kernel_rfl) (fun _ _ _ h => h) (Or.inl ⟨rfl, ?_⟩) (by assumption) ?_
            rotate_left
            · (intro W hW; (try dsimp only at hW); go_simp; try with_reducible rfl)
            try simp only [Act.put, List.setIfInBounds_toArray, List.set_cons_zero, List.set_cons_succ]
            refine AnyZ.take (i := 6) (v := ?_) (oi := ⟨some 68, _, _, _, _, _⟩) rfl (by kernel_rfl) (by kernel_rfl) (by kernel_rfl) rfl (by kernel_rfl) (fun _ _ _ h => h) (Or.inl ⟨rfl, ?_⟩) (by assumption) ?_
            rotate_left
            · (intro W hW; (try dsimp only at hW); go_simp; try with_reducible rfl)
            try simp only [Act.put, List.setIfInBounds_toArray, List.set_cons_zero, List.set_cons_succ]
            refine AnyZ.take (i := 7) (v := ?_) (oi := ⟨some 69, _, _, _, _, _⟩) rfl (by kernel_rfl) (by kernel_rfl) (by kernel_rfl) rfl (by kernel_rfl) (fun _ _ _ h => h) (Or.inl ⟨rfl, ?_⟩) (by assumption) ?_
            rotate_left
            · (intro W hW; (try dsimp only at hW); go_simp; try with_reducible rfl)
            try simp only [Act.put, List.setIfInBounds_toArray, List.set_cons_zero, List.set_cons_succ]
            refine AnyZ.take (i := 8) (v := ?_) (oi := ⟨some 70, _, _, _, _, _⟩) rfl (by kernel_rfl) (by kernel_rfl) (by kernel_rfl) rfl (by kernel_rfl) (fun _ _ _ h => h) (Or.inl ⟨rfl, ?_⟩) (by assumption) ?_
            rotate_left
            · (intro W hW; (try dsimp only at hW); go_simp; try with_reducible rfl)
            try simp only [Act.put, List.setIfInBounds_toArray, List.set_cons_zero, List.set_cons_succ]
            refine AnyZ.take (i := 9) (v := ?_) (oi := ⟨some 71, _, _, _, _, _⟩) rfl (by kernel_rfl) (by kernel_rfl) (by kernel_rfl) rfl (by kernel_rfl) (fun _ _ _ h => h) (Or.inl ⟨rfl, ?_⟩) (by assumption) ?_
            rotate_left
            · (intro W hW; (try dsimp only at hW); go_simp; try with_reducible rfl)
            try simp only [Act.put, List.setIfInBounds_toArray, List.set_cons_zero, List.set_cons_succ]
            refine AnyZ.take (i := 10) (v := ?_) (oi := ⟨some 72, _, _, _, _, _⟩) rfl (by kernel_rfl) (by kernel_rfl) (by kernel_rfl) rfl (by kernel_rfl) (fun _ _ _ h => h) (Or.inl ⟨rfl, ?_⟩) (by assumption) ?_
            rotate_left
            · (intro W hW; (try dsimp only at hW); go_simp; try with_reducible rfl)
            try simp only [Act.put, List.setIfInBounds_toArray, List.set_cons_zero, List.set_cons_succ]
            refine AnyZ.one (i := 11) (o := ⟨some 73, _, _, _, _, _⟩) (by kernel_rfl) rfl (fun K hK => ?_)
            go_simp
            go_at_call 86
            refine (hL _).mono ?_
            rintro e w3 ⟨rfl, hb3⟩
            have hB3 : Below W2.heap.size W2 w3 := (Below.refl _ W2).drew.trans (hb3.mono (Nat.le_refl _))
            have g03 := (hB3.cell (p := ⟨x.id, 0, none⟩) hfl).trans g0
            have gf3 := (hfbH.out.at (hB3.block _ hfl)).frozen 0
            refine hK.out _ _ (fun _ => ⟨(hB3.cell (p := ⟨wr.heap.size, 0, none⟩) htl).trans t0, (hB3.cell (p := ⟨wr.heap.size, 1, none⟩) htl).trans t1, (hB3.cell (p := ⟨wr.heap.size, 2, none⟩) htl).trans t2, g03⟩) ?_
            clear hK K hHeld
            try simp only [Act.put, List.setIfInBounds_toArray, List.set_cons_zero, List.set_cons_succ]
            have hW3 : (fun W : World => W.cell? ⟨wr.heap.size, 0, none⟩ = some (.pointer (some ⟨x.id, 0, none⟩)) ∧ W.cell? ⟨wr.heap.size, 1, none⟩ = some (.int .i64 x.pos) ∧ W.cell? ⟨wr.heap.size, 2, none⟩ = some (.string (lackS x.s lack)) ∧ W.cell? ⟨x.id, 0, none⟩ = some (.string f.image)) w3 := ⟨(hB3.cell (p := ⟨wr.heap.size, 0, none⟩) htl).trans t0, (hB3.cell (p := ⟨wr.heap.size, 1, none⟩) htl).trans t1, (hB3.cell (p := ⟨wr.heap.size, 2, none⟩) htl).trans t2, g03⟩
            refine AnyZ.one (i := 12) (o := ⟨some 74, _, _, _, _, _⟩) (by kernel_rfl) rfl (fun K hK => ?_)
            go_simp
            refine hK.out _ _ (fun _ => hW3) ?_
            clear hK K
            try simp only [Act.put, List.setIfInBounds_toArray, List.set_cons_zero, List.set_cons_succ]
            refine AnyZ.one (i := 13) (o := ⟨some 75, _, _, _, _, _⟩) (by kernel_rfl) rfl (fun K hK => ?_)
            go_simp
            refine hK.out _ _ (fun _ => hW3) ?_
            clear hK K
            try simp only [Act.put, List.setIfInBounds_toArray, List.set_cons_zero, List.set_cons_succ]
            refine AnyZ.one (i := 14) (o := ⟨none, _, _, _, _, _⟩) (by kernel_rfl) rfl (fun K hK => ?_)
            go_simp
            refine hK.out _ _ (fun h => absurd rfl h) ?_
            clear hK K
            try simp only [Act.put, List.setIfInBounds_toArray, List.set_cons_zero, List.set_cons_succ]
            refine AnyZ.done (by kernel_rfl) ?_ _
            go_wp2
            have hd3 := (hd2.below hB3).imaged hf (laidB f.image x.pos (lackS x.s lack))
            rw [hfx] at hd3
            have hREL : ∃ k' : Nat, k' ≤ n ∧ Value.int .i64 ((k : Int) + 1) = .int .i64 (k' : Int) ∧ IsDisk (w3.setCell ⟨x.id, 0, none⟩ (.string (laidB f.image x.pos (lackS x.s lack)))) b (D.layUp (ks.take n) lack D.waits k') F0 ∧ Step F0 W0 F0 (w3.setCell ⟨x.id, 0, none⟩ (.string (laidB f.image x.pos (lackS x.s lack)))) ∧ Blk (w3.setCell ⟨x.id, 0, none⟩ (.string (laidB f.image x.pos (lackS x.s lack)))) b #[.int .i64 D.left, .bool D.down, .map (some m2), .slice (some ⟨gb, 0, none⟩) wn cap, .int .i64 D.cap] 120 := by
              refine ⟨k + 1, by omega, by go_num, ?_, ((hS.trans (Step.of_below hB2)).trans (Step.of_below hB3)).trans hd3.2, ?_⟩
              · rw [hst.out, hlayH.out, hlo.out, hfx]
                exact hd3.1
              · exact (hbk2.at (hB3.block _ hbk2.lt)).at (setCell_heap _ _ _ _ (blk_ne hbk2 hfbH.out (by decide)))
            have hMS : n - (intOf (Value.int .i64 ((k : Int) + 1))).toNat < n - (intOf (Value.int .i64 (k : Int))).toNat := by simp [intOf]; omega
            first
              | exact ⟨⟨_, _, _, hREL, rfl, rfl, rfl⟩, hMS⟩
              | exact ⟨hREL, hMS⟩
        · go_wp2_with (go_at_call 92; with_reducible refine (cC _ _ (by first | exact .inl rfl | exact .inr (by omega))).mono ?_; rintro e w1 ⟨rfl, rfl⟩)
          all_goals
            have hB2 : Below wr.heap.size wr (wr.alloc (.cells #[.pointer (some ⟨x.id, 0, none⟩), .int .i64 x.pos, .string x.s] 127)) := (Below.refl _ _).alloc (Nat.le_refl _) _
            have t0 : (wr.alloc (.cells #[.pointer (some ⟨x.id, 0, none⟩), .int .i64 x.pos, .string x.s] 127)).cell? ⟨wr.heap.size, 0, none⟩ = some (.pointer (some ⟨x.id, 0, none⟩)) := (Blk.new wr #[.pointer (some ⟨x.id, 0, none⟩), .int .i64 x.pos, .string x.s] 127).cell 0
            have t1 : (wr.alloc (.cells #[.pointer (some ⟨x.id, 0, none⟩), .int .i64 x.pos, .string x.s] 127)).cell? ⟨wr.heap.size, 1, none⟩ = some (.int .i64 x.pos) := (Blk.new wr #[.pointer (some ⟨x.id, 0, none⟩), .int .i64 x.pos, .string x.s] 127).cell 1
            have t2 : (wr.alloc (.cells #[.pointer (some ⟨x.id, 0, none⟩), .int .i64 x.pos, .string x.s] 127)).cell? ⟨wr.heap.size, 2, none⟩ = some (.string x.s) := (Blk.new wr #[.pointer (some ⟨x.id, 0, none⟩), .int .i64 x.pos, .string x.s] 127).cell 2
            generalize (wr.alloc (.cells #[.pointer (some ⟨x.id, 0, none⟩), .int .i64 x.pos, .string x.s] 127)) = W2 at *
            have htl : wr.heap.size < W2.heap.size := World.block_lt_of_cell? _ _ t0
            have hd2 := hd.below hB2
            have hbk2 := hbk.at (hB2.block _ hbk.lt)
            have hfb := (hd2.files f hf).2
            rw [hfx] at hfb
            have g0 : W2.cell? ⟨x.id, 0, none⟩ = some (.string f.image) := hfb.cell 0
            have hfl := hfb.lt
            have hfbH := Lib.hid hfb
            have hL := fun W => laid_any f.image x.pos x.s W (by omega) (by omega) (by omega)
            clear hfb
            refine wp_region_z (fun W => W.cell? ⟨wr.heap.size, 0, none⟩ = some (.pointer (some ⟨x.id, 0, none⟩)) ∧ W.cell? ⟨wr.heap.size, 1, none⟩ = some (.int .i64 x.pos) ∧ W.cell? ⟨wr.heap.size, 2, none⟩ = some (.string x.s) ∧ W.cell? ⟨x.id, 0, none⟩ = some (.string f.image)) 14 (by kernel_rfl) ⟨t0, t1, t2, g0⟩ (fun hHeld => ?_)
            refine AnyZ.take (i := 0) (v := ?_) (oi := ⟨some 62, _, _, _, _, _⟩) rfl (by kernel_rfl) (by kernel_rfl) (by kernel_rfl) rfl (by kernel_rfl) (fun _ _ _ h => h) (Or.inl ⟨rfl, ?_⟩) (by assumption) ?_
            rotate_left
            · (intro W hW; (try dsimp only at hW); go_simp; try with_reducible rfl)
            try simp only [Act.put, List.setIfInBounds_toArray, List.set_cons_zero, List.set_cons_succ]
            refine AnyZ.take (i := 1) (v := ?_) (oi := ⟨some 63, _, _, _, _, _⟩) rfl (by kernel_rfl) (by kernel_rfl) (by kernel_rfl) rfl (by kernel_rfl) (fun _ _ _ h => h) (Or.inl ⟨rfl, ?_⟩) (by assumption) ?_
            rotate_left
            · (intro W hW; (try dsimp only at hW); go_simp; try with_reducible rfl)
            try simp only [Act.put, List.setIfInBounds_toArray, List.set_cons_zero, List.set_cons_succ]
            refine AnyZ.take (i := 2) (v := ?_) (oi := ⟨some 64, _, _, _, _, _⟩) rfl (by kernel_rfl) (by kernel_rfl) (by kernel_rfl) rfl (by kernel_rfl) (fun _ _ _ h => h) (Or.inl ⟨rfl, ?_⟩) (by assumption) ?_
            rotate_left
            · (intro W hW; (try dsimp only at hW); go_simp; try with_reducible rfl)
            try simp only [Act.put, List.setIfInBounds_toArray, List.set_cons_zero, List.set_cons_succ]
            refine AnyZ.take (i := 3) (v := ?_) (oi := ⟨some 65, _, _, _, _, _⟩) rfl (by kernel_rfl) (by kernel_rfl) (by kernel_rfl) rfl (by kernel_rfl) (fun _ _ _ h => h) (Or.inl ⟨rfl, ?_⟩) (by assumption) ?_
            rotate_left
            · (intro W hW; (try dsimp only at hW); go_simp; try with_reducible rfl)
            try simp only [Act.put, List.setIfInBounds_toArray, List.set_cons_zero, List.set_cons_succ]
            refine AnyZ.take (i := 4) (v := ?_) (oi := ⟨some 66, _, _, _, _, _⟩) rfl (by kernel_rfl) (by kernel_rfl) (by kernel_rfl) rfl (by kernel_rfl) (fun _ _ _ h => h) (Or.inl ⟨rfl, ?_⟩) (by assumption) ?_
            rotate_left
            · (intro W hW; (try dsimp only at hW); go_simp; try with_reducible rfl)
            try simp only [Act.put, List.setIfInBounds_toArray, List.set_cons_zero, List.set_cons_succ]
            refine AnyZ.take (i := 5) (v := ?_) (oi := ⟨some 67, _, _, _, _, _⟩) rfl (by kernel_rfl) (by kernel_rfl) (by kernel_rfl) rfl (by kernel_rfl) (fun _ _ _ h => h) (Or.inl ⟨rfl, ?_⟩) (by assumption) ?_
            rotate_left
            · (intro W hW; (try dsimp only at hW); go_simp; try with_reducible rfl)
            try simp only [Act.put, List.setIfInBounds_toArray, List.set_cons_zero, List.set_cons_succ]
            refine AnyZ.take (i := 6) (v := ?_) (oi := ⟨some 68, _, _, _, _, _⟩) rfl (by kernel_rfl) (by kernel_rfl) (by kernel_rfl) rfl (by kernel_rfl) (fun _ _ _ h => h) (Or.inl ⟨rfl, ?_⟩) (by assumption) ?_
            rotate_left
            · (intro W hW; (try dsimp only at hW); go_simp; try with_reducible rfl)
            try simp only [Act.put, List.setIfInBounds_toArray, List.set_cons_zero, List.set_cons_succ]
            refine AnyZ.take (i := 7) (v := ?_) (oi := ⟨some 69, _, _, _, _, _⟩) rfl (by kernel_rfl) (by kernel_rfl) (by kernel_rfl) rfl (by kernel_rfl) (fun _ _ _ h => h) (Or.inl ⟨rfl, ?_⟩) (by assumption) ?_
            rotate_left
            · (intro W hW; (try dsimp only at hW); go_simp; try with_reducible rfl)
            try simp only [Act.put, List.setIfInBounds_toArray, List.set_cons_zero, List.set_cons_succ]
            refine AnyZ.take (i := 8) (v := ?_) (oi := ⟨some 70, _, _, _, _, _⟩) rfl (by kernel_rfl) (by kernel_rfl) (by kernel_rfl) rfl (by kernel_rfl) (fun _ _ _ h => h) (Or.inl ⟨rfl, ?_⟩) (by assumption) ?_
            rotate_left
            · (intro W hW; (try dsimp only at hW); go_simp; try with_reducible rfl)
            try simp only [Act.put, List.setIfInBounds_toArray, List.set_cons_zero, List.set_cons_succ]
            refine AnyZ.take (i := 9) (v := ?_) (oi := ⟨some 71, _, _, _, _, _⟩) rfl (by kernel_rfl) (by kernel_rfl) (by kernel_rfl) rfl (by kernel_rfl) (fun _ _ _ h => h) (Or.inl ⟨rfl, ?_⟩) (by assumption) ?_
            rotate_left
            · (intro W hW; (try dsimp only at hW); go_simp; try with_reducible rfl)
            try simp only [Act.put, List.setIfInBounds_toArray, List.set_cons_zero, List.set_cons_succ]
            refine AnyZ.take (i := 10) (v := ?_) (oi := ⟨some 72, _, _, _, _, _⟩) rfl (by kernel_rfl) (by kernel_rfl) (by kernel_rfl) rfl (by kernel_rfl) (fun _ _ _ h => h) (Or.inl ⟨rfl, ?_⟩) (by assumption) ?_
            rotate_left
            · (intro W hW; (try dsimp only at hW); go_simp; try with_reducible rfl)
            try simp only [Act.put, List.setIfInBounds_toArray, List.set_cons_zero, List.set_cons_succ]
            refine AnyZ.one (i := 11) (o := ⟨some 73, _, _, _, _, _⟩) (by kernel_rfl) rfl (fun K hK => ?_)
            go_simp
            go_at_call 86
            refine (hL _).mono ?_
            rintro e w3 ⟨rfl, hb3⟩
            have hB3 : Below W2.heap.size W2 w3 := (Below.refl _ W2).drew.trans (hb3.mono (Nat.le_refl _))
            have g03 := (hB3.cell (p := ⟨x.id, 0, none⟩) hfl).trans g0
            have gf3 := (hfbH.out.at (hB3.block _ hfl)).frozen 0
            refine hK.out _ _ (fun _ => ⟨(hB3.cell (p := ⟨wr.heap.size, 0, none⟩) htl).trans t0, (hB3.cell (p := ⟨wr.heap.size, 1, none⟩) htl).trans t1, (hB3.cell (p := ⟨wr.heap.size, 2, none⟩) htl).trans t2, g03⟩) ?_
            clear hK K hHeld
            try simp only [Act.put, List.setIfInBounds_toArray, List.set_cons_zero, List.set_cons_succ]
            have hW3 : (fun W : World => W.cell? ⟨wr.heap.size, 0, none⟩ = some (.pointer (some ⟨x.id, 0, none⟩)) ∧ W.cell? ⟨wr.heap.size, 1, none⟩ = some (.int .i64 x.pos) ∧ W.cell? ⟨wr.heap.size, 2, none⟩ = some (.string x.s) ∧ W.cell? ⟨x.id, 0, none⟩ = some (.string f.image)) w3 := ⟨(hB3.cell (p := ⟨wr.heap.size, 0, none⟩) htl).trans t0, (hB3.cell (p := ⟨wr.heap.size, 1, none⟩) htl).trans t1, (hB3.cell (p := ⟨wr.heap.size, 2, none⟩) htl).trans t2, g03⟩
            refine AnyZ.one (i := 12) (o := ⟨some 74, _, _, _, _, _⟩) (by kernel_rfl) rfl (fun K hK => ?_)
            go_simp
            refine hK.out _ _ (fun _ => hW3) ?_
            clear hK K
            try simp only [Act.put, List.setIfInBounds_toArray, List.set_cons_zero, List.set_cons_succ]
            refine AnyZ.one (i := 13) (o := ⟨some 75, _, _, _, _, _⟩) (by kernel_rfl) rfl (fun K hK => ?_)
            go_simp
            refine hK.out _ _ (fun _ => hW3) ?_
            clear hK K
            try simp only [Act.put, List.setIfInBounds_toArray, List.set_cons_zero, List.set_cons_succ]
            refine AnyZ.one (i := 14) (o := ⟨none, _, _, _, _, _⟩) (by kernel_rfl) rfl (fun K hK => ?_)
            go_simp
            refine hK.out _ _ (fun h => absurd rfl h) ?_
            clear hK K
            try simp only [Act.put, List.setIfInBounds_toArray, List.set_cons_zero, List.set_cons_succ]
            refine AnyZ.done (by kernel_rfl) ?_ _
            go_wp2
            have hd3 := (hd2.below hB3).imaged hf (laidB f.image x.pos x.s)
            rw [hfx] at hd3
            have hREL : ∃ k' : Nat, k' ≤ n ∧ Value.int .i64 ((k : Int) + 1) = .int .i64 (k' : Int) ∧ IsDisk (w3.setCell ⟨x.id, 0, none⟩ (.string (laidB f.image x.pos x.s))) b (D.layUp (ks.take n) lack D.waits k') F0 ∧ Step F0 W0 F0 (w3.setCell ⟨x.id, 0, none⟩ (.string (laidB f.image x.pos x.s))) ∧ Blk (w3.setCell ⟨x.id, 0, none⟩ (.string (laidB f.image x.pos x.s))) b #[.int .i64 D.left, .bool D.down, .map (some m2), .slice (some ⟨gb, 0, none⟩) wn cap, .int .i64 D.cap] 120 := by
              refine ⟨k + 1, by omega, by go_num, ?_, ((hS.trans (Step.of_below hB2)).trans (Step.of_below hB3)).trans hd3.2, ?_⟩
              · rw [hst.out, hlayH.out, hlo.out, hfx]
                exact hd3.1
              · exact (hbk2.at (hB3.block _ hbk2.lt)).at (setCell_heap _ _ _ _ (blk_ne hbk2 hfbH.out (by decide)))
            have hMS : n - (intOf (Value.int .i64 ((k : Int) + 1))).toNat < n - (intOf (Value.int .i64 (k : Int))).toNat := by simp [intOf]; omega
            first
              | exact ⟨⟨_, _, _, hREL, rfl, rfl, rfl⟩, hMS⟩
              | exact ⟨hREL, hMS⟩
    · have : k = n := by omega
      subst this
      obtain ⟨okk, fitk⟩ := layUp_ok h.ok hfit (ks.take k) lack k
      have hal := AlikeI.layUp D (ks.take k) lack D.waits k
      generalize hDk : D.layUp (ks.take k) lack D.waits k = Dk at *
      obtain ⟨m3, v3, hb3, hm3, hr3, _⟩ := hd.head
      have heq3 : m3 = m2 ∧ v3 = .slice (some ⟨gb, 0, none⟩) wn cap := by
        unfold Blk at hbk hb3; rw [hbk] at hb3; injection hb3 with hb3; injection hb3 with hb3; simp at hb3; exact ⟨hb3.2.2.1.symm, hb3.2.2.2.1.symm⟩
      obtain ⟨rfl, rfl⟩ := heq3
      have c2 : wr.cell? ⟨b, 2, none⟩ = some (.map (some m3)) := hbk.cell 2
      obtain ⟨hrg, hit⟩ := Iter.start hm3
      have hbl := hbk.lt
      have hml := hm3.lt
      have hRW : w.heap.size < wr.heap.size := Nat.lt_of_lt_of_le hps hS.size
      have hnR : ¬ F0 wr.heap.size := fun h => absurd (hF0lt _ h) (by omega)
      have hB1 : Below wr.heap.size wr (wr.alloc (.mapIter (some m3) (clockOf wr m3) #[] (clockOf wr m3))) := (Below.refl _ _).alloc (Nat.le_refl _) _
      have hd1 := hd.below hB1
      have hS1 := hS.trans (Step.of_below (F := F0) hB1)
      have hbk1 := hbk.at (hB1.block _ hbl)
      have hRs : wr.heap.size < (wr.alloc (.mapIter (some m3) (clockOf wr m3) #[] (clockOf wr m3))).heap.size := by simp
      clear hb3 hm3 hr3
      go_wp2
      generalize wr.alloc (.mapIter (some m3) (clockOf wr m3) #[] (clockOf wr m3)) = W1 at *
      have hR0 : W0.heap.size ≤ wr.heap.size := hS.size
      generalize wr.heap.size = R at *
      have hst0 : Dk.stilled Dk.files = Dk := by
        show ({ Dk with files := (Dk.stilled Dk.files).files } : DiskA) = Dk
        rw [stilled_all Dk trivial]
      have hDkn := okk.names
      have hDki := okk.ids
      go_loopg [8] Dk.files.length (fun g s W => ∃ left : List FileA, Iter W R m3 Dk.files left ∧ IsDisk W b (Dk.stilled left) F0 ∧ Step F0 W0 F0 W ∧ Blk W b #[.int .i64 D.left, .bool D.down, .map (some m3), .slice (some ⟨gb, 0, none⟩) wn cap, .int .i64 D.cap] 120 ∧ (∀ x ∈ left, x ∈ Dk.files) ∧ left.length = g ∧ W1.heap.size ≤ W.heap.size)
      case atStart => exact ⟨Dk.files, hit, by rw [hst0]; exact hd1, hS1, hbk1, fun _ h => h, rfl, Nat.le_refl _⟩
      case round =>
        obtain ⟨left, hI, hdl, hSl, hbl2, hsub, hg, hsz⟩ := hrel
        rcases hI.next hDkn with ⟨rfl, hnx⟩ | ⟨f, hf, hff, w2, hg2, hsz2, hI2, hnx, hen⟩
        · have halS : (Dk.stilled []).waits = D.waits := hal.waits
          obtain ⟨m4, v4, hb4, hm4, hr4, fm4, fg4⟩ := hdl.head
          have heq4 : m4 = m3 ∧ v4 = .slice (some ⟨gb, 0, none⟩) wn cap := by
            unfold Blk at hbl2 hb4; rw [hbl2] at hb4; injection hb4 with hb4; injection hb4 with hb4; simp at hb4; exact ⟨hb4.2.2.1.symm, hb4.2.2.2.1.symm⟩
          obtain ⟨rfl, rfl⟩ := heq4
          have hrw : WRow wr gb cap D.waits := by
            rw [halS] at hr4
            unfold WRow; rw [hwn'.out] at hr4 ⊢; exact hr4
          obtain ⟨w5, hcl, hr5, hs5, hz5⟩ := hrw.clear (i := 0) (Nat.zero_le _)
          rw [hwn'.out] at hcl
          simp only [Nat.zero_mul, Nat.sub_zero] at hcl
          have k3 : wr.cell? ⟨b, 3, none⟩ = some (.slice (some ⟨gb, 0, none⟩) wn cap) := hbl2.cell 3
          have hbg : b ≠ gb := hrw.blk_ne hbl2 (by decide)
          have hb5 := hbl2.at (hs5.block b hbl2.lt hbg)
          have k53 : w5.cell? ⟨b, 3, none⟩ = some (.slice (some ⟨gb, 0, none⟩) wn cap) := hb5.cell 3
          have k50 : w5.cell? ⟨b, 0, none⟩ = some (.int .i64 D.left) := hb5.cell 0
          have k51 : w5.cell? ⟨b, 1, none⟩ = some (.bool D.down) := hb5.cell 1
          have f50 := hb5.frozen 0
          have f51 := hb5.frozen 1
          have f53 := hb5.frozen 3
          have e1 : (fun q => (Value.slice (some ⟨gb, 0, none⟩) wn cap).ownBlock = some q) = (· = gb) := by
            funext q; simp [Value.ownBlock, eq_comm]
          have hb' : Blk wr b #[.int .i64 (Dk.stilled []).left, .bool (Dk.stilled []).down, .map (some m4), .slice (some ⟨gb, 0, none⟩) wn cap, .int .i64 (Dk.stilled []).cap] 120 := by
            show Blk wr b #[.int .i64 Dk.left, .bool Dk.down, .map (some m4), .slice (some ⟨gb, 0, none⟩) wn cap, .int .i64 Dk.cap] 120
            rw [hal.left, hal.down, hal.cap]; exact hbl2
          have hwt := hdl.waited (l := []) hb' (v' := .slice (some ⟨gb, 0, none⟩) 0 cap) hr5 (by rw [e1]; exact hs5) rfl (by simp)
          have hcr : D.crash ks lack = { Dk.stilled [] with left := -1, down := false, waits := [] } := by
            unfold DiskA.crash; rw [hkn'.out, hwn'.out, hnH.out, hDk]
          have hokw := hwt.1.ok
          have hokc : (D.crash ks lack).Ok := by
            rw [hcr]
            exact ⟨hokw.names, hokw.ids, ⟨show (-1 : Int) ≤ -1 by decide, show (-1 : Int) ≤ 9223372036854775807 by decide⟩, hokw.cap, hokw.size, hokw.nameLen, hokw.files, fun x hx => by cases hx⟩
          have hfin : IsDisk (((w5.setCell ⟨b, 3, none⟩ (.slice (some ⟨gb, 0, none⟩) 0 cap)).setCell ⟨b, 0, none⟩ (.int .i64 (-1))).setCell ⟨b, 1, none⟩ (.bool false)) b (D.crash ks lack) F0 ∧ Step F0 wr F0 (((w5.setCell ⟨b, 3, none⟩ (.slice (some ⟨gb, 0, none⟩) 0 cap)).setCell ⟨b, 0, none⟩ (.int .i64 (-1))).setCell ⟨b, 1, none⟩ (.bool false)) := by
            refine ⟨?_, (hwt.2.setCell _ _ (.inl hdl.own)).setCell _ _ (.inl hdl.own)⟩
            refine hwt.1.head_set ?_ hokc (by rw [hcr]; rfl) (by rw [hcr]; rfl) ?_
            · intro q hq; rw [setCell_heap _ _ _ _ hq, setCell_heap _ _ _ _ hq]
            · intro m' v' hbb
              rw [hcr]
              exact (hbb.set 0 (.int .i64 (-1))).set 1 (.bool false)
          clear hcr hokw hokc hwt
          go_wp2
          go_end0
          exact ⟨rfl, hfin.1.mono (fun q hq => by rw [← hF0] at hq; exact hq.1), (Step.of_below hBW).trans (((hSl.trans hfin.2).mono (fun q hq => by rw [← hF0] at hq; exact hq.1)))⟩
        · have hkeep : ∀ q, q < wr.heap.size → q ≠ R → w2.heap[q]? = wr.heap[q]? := fun q hq hne => hg2.block q hq (fun e => hne (by cases e; rfl))
          have hd2 : IsDisk w2 b (Dk.stilled left) F0 := hdl.kept (fun q hq hlt => hkeep q hlt (fun e => hnR (e ▸ hq)))
          have hfS : f ∈ (Dk.stilled left).files := List.mem_map.2 ⟨f, hff, by rw [if_pos]; rw [List.any_eq_true]; exact ⟨f, hf, (bytes_beq _ _).2 rfl⟩⟩
          have hfb := (hd2.files f hfS).2
          have hfF := (hd2.files f hfS).1
          have e0 : w2.cell? ⟨f.id, 0, none⟩ = some (.string f.image) := hfb.cell 0
          have e1 : w2.cell? ⟨f.id, 1, none⟩ = some (.string f.now) := hfb.cell 1
          have e2 := hfb.frozen 1
          have hRf : R ≠ f.id := fun e => hnR (by rw [e]; exact hfF)
          have hbR : b ≠ R := fun e => hnR (by rw [← e]; exact hdl.own)
          have hb2 := hbl2.at (hkeep b hbl2.lt hbR)
          have hbf : b ≠ f.id := blk_ne hb2 hfb (by decide)
          have hmf : m3 ≠ f.id := by
            rintro rfl
            obtain ⟨es, cl, seen, _, h1, _⟩ := hI2
            unfold Blk at hfb; rw [h1] at hfb; cases hfb
          have hnw := hd2.nowed hfS f.image (fitk.image f hff)
          rw [stilled_step hDkn hDki hff hf hsub] at hnw
          have hS2 : Step F0 W0 F0 w2 := ⟨hg2.os.trans hSl.os, hg2.tape.trans hSl.tape, hg2.output.trans hSl.output, by have := hSl.size; omega, fun q hq hne => (hkeep q (Nat.lt_of_lt_of_le hq hSl.size) (by omega)).trans (hSl.block q hq hne), fun _ h => .inl h⟩
          have hwl := without_length hf
          clear hfb
          go_wp2
          go_roundg (without left f).length
          case measure => omega
          case rel => exact ⟨without left f, hI2.at (setCell_heap _ _ _ _ hRf) (setCell_heap _ _ _ _ hmf), hnw.1, hS2.trans hnw.2, hb2.at (setCell_heap _ _ _ _ hbf), fun x hx => hsub x (List.mem_filter.1 hx).1, rfl, by rw [setCell_size]; omega⟩
end Go.Proofs.Ytndpmjanflahhaa

/-
  disk.Crash where nothing is laid: the plan keeps none, or no write waits. disk.Crash, whatever the plan.
-/
namespace Go.Proofs.Ytndpmjanflahhaa
open Go.RowKit Go.MapKept

theorem clear_nil (w : World) (ty : TypeId) : (Builtin.clear_ #[118] ty #[.slice none 0 0]).run Try.prog w = .ok (.tuple #[]) w := by
  simp [Builtin.clear_, run_underlying Try.underlying118]

/-- The head behind a crash. -/
theorem crash_head {w w5 : World} {b : Nat} {E D' : DiskA} {F : Nat → Prop} (hd : IsDisk w b E F) {m : Nat} {v v' : Value}
    (hb : Blk w b #[.int .i64 E.left, .bool E.down, .map (some m), v, .int .i64 E.cap] 120)
    (hr' : w5.ownsRow 0 127 3 v' 0 []) (hs : Step (fun k => v.ownBlock = some k) w (fun k => v.ownBlock = some k) w5) (hv : v'.ownBlock = v.ownBlock)
    (hD : D' = { E with left := -1, down := false, waits := [] }) :
    IsDisk (((w5.setCell ⟨b, 3, none⟩ v').setCell ⟨b, 0, none⟩ (.int .i64 (-1))).setCell ⟨b, 1, none⟩ (.bool false)) b D' F ∧ Step F w F (((w5.setCell ⟨b, 3, none⟩ v').setCell ⟨b, 0, none⟩ (.int .i64 (-1))).setCell ⟨b, 1, none⟩ (.bool false)) := by
  have hwt := hd.waited (l := []) hb (v' := v') hr' hs hv (by simp)
  have hokw := hwt.1.ok
  have hokc : D'.Ok := by
    rw [hD]
    exact ⟨hokw.names, hokw.ids, ⟨show (-1 : Int) ≤ -1 by decide, show (-1 : Int) ≤ 9223372036854775807 by decide⟩, hokw.cap, hokw.size, hokw.nameLen, hokw.files, fun x hx => by cases hx⟩
  refine ⟨?_, (hwt.2.setCell _ _ (.inl hd.own)).setCell _ _ (.inl hd.own)⟩
  refine hwt.1.head_set ?_ hokc (by rw [hD]; rfl) (by rw [hD]; rfl) ?_
  · intro q hq; rw [setCell_heap _ _ _ _ hq, setCell_heap _ _ _ _ hq]
  · intro m' v' hbb
    rw [hD]
    exact (hbb.set 0 (.int .i64 (-1))).set 1 (.bool false)

set_option maxRecDepth 100000 in
set_option maxHeartbeats 8000000 in
theorem Crash_zero (b : Nat) (D : DiskA) (F : Nat → Prop) (w : World) (h : IsDisk w b D F) (hfit : D.Fit) (ks : List Bool) (lack : Int) (hk : -9223372036854775808 ≤ lack ∧ lack ≤ 9223372036854775807)
    (kv : Value) (kn : Nat) (hkl : ks.length = kn) (hkn : kn ≤ 1099511627776) (hkv : (kv = .slice none 0 0 ∧ kn = 0) ∨ ∃ a kcap, kv = .slice (some a) kn kcap ∧ kn ≤ kcap) (hz : kn = 0 ∨ D.waits.length = 0) :
    Calls Try.prog 47 #[ptr b, .agg #[kv, .int .i64 lack]] w fun e w' => e = .returned (.tuple #[]) ∧ IsDisk w' b (D.crash ks lack) F ∧ Step F w F w' := by
  obtain ⟨hk1, hk2⟩ := hk
  have hB0 : Below w.heap.size w (w.alloc (.cells #[kv, .int .i64 lack] 44)) := (Below.refl _ w).alloc (Nat.le_refl _) _
  have hBd : Below (w.alloc (.cells #[kv, .int .i64 lack] 44)).heap.size (w.alloc (.cells #[kv, .int .i64 lack] 44)) (w.alloc (.cells #[kv, .int .i64 lack] 44)).drew := (Below.refl _ _).drew
  have hBW : Below w.heap.size w (w.alloc (.cells #[kv, .int .i64 lack] 44)).drew := hB0.trans (hBd.mono (by simp))
  have hW : ∃ W0, (w.alloc (.cells #[kv, .int .i64 lack] 44)).drew = W0 := ⟨_, rfl⟩
  obtain ⟨W0, hW0⟩ := hW
  rw [hW0] at hBW
  have hW0' := Lib.hid hW0
  have hd0 := h.tight.below hBW
  obtain ⟨m, v, hb, hm, hr, fm, fg⟩ := h.head
  obtain ⟨wn, hwn⟩ : ∃ wn, D.waits.length = wn := ⟨_, rfl⟩
  rw [hwn] at hz hr
  have hcr : D.crash ks lack = { D.stilled [] with left := -1, down := false, waits := [] } := by
    unfold DiskA.crash; rw [hkl, hwn]
    have : min kn wn = 0 := by omega
    rw [this]; rfl
  have hcr' := Lib.hid hcr
  have hv : (v = .slice none 0 0 ∧ wn = 0) ∨ ∃ gb cap, v = .slice (some ⟨gb, 0, none⟩) wn cap ∧ wn ≤ cap ∧ wn ≤ 9223372036854775807 := by
    rcases hr.2 with h2 | ⟨g, cap, cur, hv, _, _, h3, h4, _⟩
    · exact .inl h2
    · exact .inr ⟨g, cap, hv, h3, by unfold maxLen at h4; omega⟩
  have hmin : min (kn : Int) (wn : Int) = 0 := by
    rcases hz with h0 | h0 <;> rw [h0]
    · exact Int.min_eq_left (Int.natCast_nonneg _)
    · exact Int.min_eq_right (Int.natCast_nonneg _)
  have hmin1 : min (0 : Int) (wn : Int) = 0 := Int.min_eq_left (Int.natCast_nonneg _)
  have hmin2 : min (kn : Int) (0 : Int) = 0 := Int.min_eq_right (Int.natCast_nonneg _)
  have c2 : (w.alloc (.cells #[kv, .int .i64 lack] 44)).cell? ⟨b, 2, none⟩ = some (.map (some m)) := (hb.at (hB0.block _ hb.lt)).cell 2
  have c3 : (w.alloc (.cells #[kv, .int .i64 lack] 44)).cell? ⟨b, 3, none⟩ = some v := (hb.at (hB0.block _ hb.lt)).cell 3
  have d2 : W0.cell? ⟨b, 2, none⟩ = some (.map (some m)) := (hb.at (hBW.block _ hb.lt)).cell 2
  have hm0 : IsMap W0 m (D.files.map FileA.entry) := hm.at (hBW.block _ hm.lt)
  have hpl : w.heap.size < W0.heap.size := by rw [← hW0]; simp
  obtain ⟨hrg, hit⟩ := Iter.start hm0
  have hB1 : Below W0.heap.size W0 (W0.alloc (.mapIter (some m) (clockOf W0 m) #[] (clockOf W0 m))) := (Below.refl _ _).alloc (Nat.le_refl _) _
  have hd1 := hd0.below hB1
  have hRs : W0.heap.size < (W0.alloc (.mapIter (some m) (clockOf W0 m) #[] (clockOf W0 m))).heap.size := by simp
  obtain ⟨F0, hF0⟩ : ∃ F0 : Nat → Prop, F0 = (fun k => F k ∧ k < w.heap.size) := ⟨_, rfl⟩
  rw [← hF0] at hd0 hd1
  have hS1 := Step.of_below (F := F0) hB1
  have hF0k : ∀ q, F0 q → F q := by rw [hF0]; exact fun q h => h.1
  have hnR : ¬ F0 W0.heap.size := by rw [hF0]; rintro ⟨_, h⟩; omega
  have hst0 : D.stilled D.files = D := by
    show ({ D with files := (D.stilled D.files).files } : DiskA) = D
    rw [stilled_all D trivial]
  rw [← hst0] at hd1
  have hst0' := Lib.hid hst0
  have hDkn := h.ok.names
  have hDki := h.ok.ids
  have fitk := hfit
  have hBW' := Lib.hid hBW
  clear hwn hr hb hm fm fg hcr hB0 hBd hkl hW0 hm0 hBW hF0 hst0 hd0 hB1
  unfold ptr
  rcases hkv with ⟨rfl, rfl⟩ | ⟨⟨kb, ko, ksp⟩, kcap, rfl, hkc⟩ <;> rcases hv with ⟨rfl, rfl⟩ | ⟨gb, cap, rfl, hwc, _⟩
  all_goals
    go_enter Try.func47, Try.ntmps47
    go_wp2
    go_region
    go_wp2
    rw [hW0'.out]
    refine wp_loop_rounds 1 ?_
    rw [rounds_succ]
    go_wp2
    generalize W0.alloc (.mapIter (some m) (clockOf W0 m) #[] (clockOf W0 m)) = W1 at *
    obtain ⟨R, hR0⟩ : ∃ R, R = W0.heap.size := ⟨_, rfl⟩
    rw [← hR0] at hit hnR ⊢
    have hRR := Lib.hid hR0
    clear hR0
    go_loopg [8] D.files.length (fun g s W => ∃ left : List FileA, Iter W R m D.files left ∧ IsDisk W b (D.stilled left) F0 ∧ Step F0 W0 F0 W ∧ (∀ x ∈ left, x ∈ D.files) ∧ left.length = g ∧ W1.heap.size ≤ W.heap.size)
    case atStart => exact ⟨D.files, hit, hd1, hS1, fun _ h => h, rfl, Nat.le_refl _⟩
    case round =>
      obtain ⟨left, hI, hdl, hSl, hsub, hg, hsz⟩ := hrel
      rcases hI.next hDkn with ⟨rfl, hnx⟩ | ⟨f, hf, hff, w2, hg2, hsz2, hI2, hnx, hen⟩
      · obtain ⟨m4, v4, hb4, hm4, hr4, fm4, fg4⟩ := hdl.head
        generalize hwn4 : (D.stilled []).waits.length = n4 at hr4
        have k3 : wr.cell? ⟨b, 3, none⟩ = some v4 := hb4.cell 3
        rcases hr4.2 with ⟨hv4, hn4⟩ | ⟨g4, cap4, cur4, hv4, _, hh4, hle4, hcm4, _⟩
        · subst hv4
          have k0 : wr.cell? ⟨b, 0, none⟩ = some (.int .i64 (D.stilled []).left) := hb4.cell 0
          have k1 : wr.cell? ⟨b, 1, none⟩ = some (.bool (D.stilled []).down) := hb4.cell 1
          have f0 := hb4.frozen 0
          have f1 := hb4.frozen 1
          have f3 := hb4.frozen 3
          have hcl := fun ty => clear_nil wr ty
          have hfin := crash_head (D' := D.crash ks lack) hdl hb4 (v' := .slice none 0 0) (w5 := wr) ⟨rfl, .inl ⟨rfl, rfl⟩⟩ (Step.refl _ _) rfl hcr'.out
          clear hwn4 hn4 hr4 hb4
          go_wp2
          go_end0
          exact ⟨rfl, hfin.1.mono hF0k, (Step.of_below hBW'.out).trans ((hSl.trans hfin.2).mono hF0k)⟩
        · subst hv4
          subst hwn4
          have hrw : WRow wr g4 cap4 (D.stilled []).waits := hr4
          obtain ⟨w5, hcl, hr5, hs5, hz5⟩ := hrw.clear (i := 0) (Nat.zero_le _)
          have hbg : b ≠ g4 := hrw.blk_ne hb4 (by decide)
          have hb5 := hb4.at (hs5.block b hb4.lt hbg)
          have k53 : w5.cell? ⟨b, 3, none⟩ = some (.slice (some ⟨g4, 0, none⟩) (D.stilled []).waits.length cap4) := hb5.cell 3
          have k50 : w5.cell? ⟨b, 0, none⟩ = some (.int .i64 (D.stilled []).left) := hb5.cell 0
          have k51 : w5.cell? ⟨b, 1, none⟩ = some (.bool (D.stilled []).down) := hb5.cell 1
          have f50 := hb5.frozen 0
          have f51 := hb5.frozen 1
          have f53 := hb5.frozen 3
          have e1 : (fun q => (Value.slice (some ⟨g4, 0, none⟩) (D.stilled []).waits.length cap4).ownBlock = some q) = (· = g4) := by
            funext q; simp [Value.ownBlock, eq_comm]
          have hfin := crash_head (D' := D.crash ks lack) hdl hb4 (v' := .slice (some ⟨g4, 0, none⟩) 0 cap4) (w5 := w5) hr5 (by rw [e1]; exact hs5) rfl hcr'.out
          simp only [Nat.zero_mul, Nat.sub_zero] at hcl
          have hlen : (D.stilled []).waits.length ≤ 9223372036854775807 := by unfold maxLen at hcm4; omega
          generalize (D.stilled []).waits.length = n4 at *
          clear hr4 hb4 e1 hb5 hr5 hs5 hrw hh4
          go_wp2
          go_end0
          exact ⟨rfl, hfin.1.mono hF0k, (Step.of_below hBW'.out).trans ((hSl.trans hfin.2).mono hF0k)⟩
      · have hkeep : ∀ q, q < wr.heap.size → q ≠ R → w2.heap[q]? = wr.heap[q]? := fun q hq hne => hg2.block q hq (fun e => hne (by cases e; rfl))
        have hd2 : IsDisk w2 b (D.stilled left) F0 := hdl.kept (fun q hq hlt => hkeep q hlt (fun e => hnR (e ▸ hq)))
        have hfS : f ∈ (D.stilled left).files := List.mem_map.2 ⟨f, hff, by rw [if_pos]; rw [List.any_eq_true]; exact ⟨f, hf, (bytes_beq _ _).2 rfl⟩⟩
        have hfb := (hd2.files f hfS).2
        have hfF := (hd2.files f hfS).1
        have e0 : w2.cell? ⟨f.id, 0, none⟩ = some (.string f.image) := hfb.cell 0
        have e1 : w2.cell? ⟨f.id, 1, none⟩ = some (.string f.now) := hfb.cell 1
        have e2 := hfb.frozen 1
        have hRf : R ≠ f.id := fun e => hnR (by rw [e]; exact hfF)
        have hmf : m ≠ f.id := by
          rintro rfl
          obtain ⟨es, cl, seen, _, h1, _⟩ := hI2
          unfold Blk at hfb; rw [h1] at hfb; cases hfb
        have hnw := hd2.nowed hfS f.image (fitk.image f hff)
        rw [stilled_step hDkn hDki hff hf hsub] at hnw
        have hS2 : Step F0 W0 F0 w2 := ⟨hg2.os.trans hSl.os, hg2.tape.trans hSl.tape, hg2.output.trans hSl.output, by have := hSl.size; omega, fun q hq hne => (hkeep q (Nat.lt_of_lt_of_le hq hSl.size) (by have := hRR.out; omega)).trans (hSl.block q hq hne), fun _ h => .inl h⟩
        have hwl := without_length hf
        clear hfb
        go_wp2
        go_roundg (without left f).length
        case measure => omega
        case rel => exact ⟨without left f, hI2.at (setCell_heap _ _ _ _ hRf) (setCell_heap _ _ _ _ hmf), hnw.1, hS2.trans hnw.2, fun x hx => hsub x (List.mem_filter.1 hx).1, rfl, by rw [setCell_size]; omega⟩

/-- A slice of bools that is none of the blocks F. -/
def KeepV (w : World) (F : Nat → Prop) (ka : Option Addr) (kcap : Nat) (ks : List Bool) : Prop :=
  (ka = none ∧ ks = [] ∧ kcap = 0) ∨ ∃ a, ka = some a ∧ ks.length ≤ kcap ∧ ∀ i x, ks[i]? = some x → ∃ g o, a = ⟨g, o, none⟩ ∧ w.cell? ⟨g, o + i, none⟩ = some (.bool x) ∧ ¬ F g
theorem KeepV.kept {w w' : World} {F F' : Nat → Prop} {ka : Option Addr} {kcap : Nat} {ks : List Bool} (h : KeepV w F ka kcap ks) (hk : ∀ q, q < w.heap.size → ¬ F q → w'.heap[q]? = w.heap[q]? ∧ ¬ F' q) : KeepV w' F' ka kcap ks := by
  rcases h with h | ⟨a, hv, hc, h⟩
  · exact .inl h
  · refine .inr ⟨a, hv, hc, fun i x hx => ?_⟩
    obtain ⟨g, o, ha, hcell, hF⟩ := h i x hx
    have := hk g (World.block_lt_of_cell? _ _ hcell) hF
    exact ⟨g, o, ha, by unfold World.cell? at *; rw [this.1]; exact hcell, this.2⟩

theorem Crash_any (b : Nat) (D : DiskA) (F : Nat → Prop) (w : World) (h : IsDisk w b D F) (hfit : D.Fit) (ks : List Bool) (lack : Int) (hk : -9223372036854775808 ≤ lack ∧ lack ≤ 9223372036854775807)
    (ka : Option Addr) (kcap : Nat) (hkl : ks.length ≤ 1099511627776) (hkv : KeepV w F ka kcap ks) :
    Calls Try.prog 47 #[ptr b, .agg #[.slice ka ks.length kcap, .int .i64 lack]] w fun e w' => e = .returned (.tuple #[]) ∧ IsDisk w' b (D.crash ks lack) F ∧ Step F w F w' := by
  by_cases hz : ks.length = 0 ∨ D.waits.length = 0
  · refine Crash_zero b D F w h hfit ks lack hk _ ks.length rfl hkl ?_ hz
    rcases hkv with ⟨h1, h2, h3⟩ | ⟨a, h1, h2, _⟩
    · exact .inl ⟨by rw [h1, h2, h3]; rfl, by rw [h2]; rfl⟩
    · exact .inr ⟨a, kcap, by rw [h1], h2⟩
  · rcases hkv with ⟨h1, h2, _⟩ | ⟨a, rfl, h2, h3⟩
    · exact absurd (.inl (by rw [h2]; rfl)) hz
    · obtain ⟨kb, ko, rfl, hc0, hF⟩ := h3 0 (ks[0]'(by omega)) (by simp)
      obtain ⟨m, v, hb, hm, hr, fm, fg⟩ := h.head
      rcases hr.2 with ⟨_, hw0⟩ | ⟨g, cap, cur, rfl, _⟩
      · exact absurd (.inr hw0) hz
      · refine Crash_some b D F w h hfit ks lack hk kb ko kcap hkl h2 ?_ hF (World.block_lt_of_cell? _ _ hc0) m g cap hb
        intro i x hx
        obtain ⟨g', o', e, hc, _⟩ := h3 i x hx
        cases e
        exact hc
end Go.Proofs.Ytndpmjanflahhaa
