/-
  level.Slot; (*tlog.Log).lay.
-/
import Derived.Test.YtndpmjanflahhaaTl1
import Derived.Deep.RegionHeld3
import Derived.BigQuiet
namespace Go.Proofs.Ytndpmjanflahhaa
open Go.RowKit Go.MapKept

theorem Slot_any (due : Nat) (w : World) (hd : due ≤ 9223372036854775807) :
    Calls Try.prog 135 #[.int .i64 due] w fun e w' => e = .returned (.int .i64 (due % 16 : Nat)) ∧ w = w' := by
  have e1 : max (due : Int) 0 = due := by omega
  have e2 : ((due % 16 : Nat) : Int) = (due : Int) % 16 := by omega
  rw [e2]
  go_enter Try.func135, Try.ntmps135
  go_wp2
  go_ret
  exact ⟨rfl, rfl⟩

def LayPost (C : Nat) (w0 : World) (lb wb b h n : Nat) (Q : Nat → List WRec) (u : Nat) (R : List Row) (O : Nat → Option Obj) (e : Ending) (w' : World) : Prop :=
  e = .returned (.int .i64 0) ∧ LogX C w0 lb wb b h n Q u R O w'
set_option maxRecDepth 100000 in
set_option maxHeartbeats 1000000 in
theorem TLay_any {C : Nat} {w0 w : World} {lb wb b h n u : Nat} {Q : Nat → List WRec} {R : List Row} {O : Nat → Option Obj} (hl : LogX C w0 lb wb b h n Q u R O w) (due at_ puts : Nat) (a : Int) (hd : due ≤ 1099511627776) (ha : at_ ≤ 1099511627776) (hp : puts < 65536) (hn : n < 1099511627776) (hC : 96 + 20 * (n + 1) ≤ C) (hu : u < 1099511627000) :
    Calls Try.prog 112 #[.pointer (some ⟨lb, 0, none⟩), .agg #[.int .i64 due, .int .i64 at_, .int .i64 a, .int .i64 puts]] w (LayPost C w0 lb wb b h (n + 1) (setQ Q (due % 16) (Q (due % 16) ++ [⟨due, at_, puts⟩])) (u + 2) R O) := by
  obtain ⟨D, ms, v, hms, hD, hR⟩ := hl
  have hs16 : due % 16 < 16 := Nat.mod_lt _ (by omega)
  have cS := fun W => Slot_any due W (by omega)
  generalize hse : due % 16 = s at *
  have hseH := Lib.hid hse
  obtain ⟨x, lx, hvx, hch, _⟩ := hD.chain s hs16
  have hxle := hch.le
  have hX := hR.ox
  have cH := fun W (hB : Below w.heap.size w W) => (LX.wheel (LX.below hX hB)).head hD.wheel s hs16 hvx
  have cP := fun W => MPut_any due at_ x puts W (by omega) (by omega) (by omega) hp
  have hz20 : (recB [(6, due), (6, at_), (6, x), (2, puts)]).size = 20 := (Mark_back due at_ x puts (by omega) (by omega) (by omega) hp).2.2.2.2
  obtain ⟨D1, e1, hW1⟩ := write_calm (LX.wheel hX).ok hD.wheel.calm hD.marks (p := 20 * ms.length) (by rw [marksB_size]; exact Nat.le_refl _) (recB [(6, due), (6, at_), (6, x), (2, puts)]) (.inr (by
    rw [hz20, hD.size, hD.cap, marksB_size, hms]; omega))
  have hadd := marksB_add ms ⟨due, at_, x, puts⟩
  dsimp only at hadd
  rw [hadd] at hW1
  have cW1 := fun W (hB : Below w.heap.size w W) => LX.write (LX.below hX hB) wmarks (20 * ms.length : Nat) (recB [(6, due), (6, at_), (6, x), (2, puts)]) (by omega) (by have := hD.waits; omega)
  rw [e1, hms] at cW1
  have hcast : ((20 * n : Nat) : Int) = (n : Int) * 20 := by omega
  rw [hcast] at cW1
  have hwd1 : WheelD D1 v := ⟨hW1.calm, hD.wheel.len, hD.wheel.small, by rw [hW1.other _ (by decide)]; exact hD.wheel.get⟩
  have hw1 := hW1.waits
  have hDw := hD.waits
  have hlay := Lib.hid (fun D2 hWD h2 => hD.lay (D1 := D1) (D2 := D2) (r := ⟨due, at_, x, puts⟩) ⟨hd, ha, by show x < _; omega, hp⟩ hs16 hvx hW1 hWD h2)
  have hmsH := Lib.hid hms
  have hwd1H := Lib.hid hwd1
  have hw1' : D1.waits.length < 1099511627775 := by omega
  have hwH := Lib.hid hw1'
  have hs16H := Lib.hid hs16
  have hn48 : n + 1 < 281474976710656 := by omega
  have hn48H := Lib.hid hn48
  have c0 : w.cell? ⟨lb, 0, none⟩ = some (.pointer (some ⟨wb, 0, none⟩)) := (LX.head hX).cell 0
  have c1 : w.cell? ⟨lb, 1, none⟩ = some (.int .i64 n) := (LX.head hX).cell 1
  obtain ⟨c2, hwbl⟩ := (LX.wheel hX).ptr
  have hlbl := (LX.head hX).lt
  have hRH := Lib.hid hR
  generalize recB [(6, due), (6, at_), (6, x), (2, puts)] = z at *
  have hB0 : Below w.heap.size w (w.alloc (.cells #[.int .i64 due, .int .i64 at_, .int .i64 a, .int .i64 puts] 102)) := (Below.refl _ _).alloc (Nat.le_refl _) _
  have hb0 : Blk (w.alloc (.cells #[.int .i64 due, .int .i64 at_, .int .i64 a, .int .i64 puts] 102)) w.heap.size #[.int .i64 due, .int .i64 at_, .int .i64 a, .int .i64 puts] 102 := Blk.new _ _ _
  clear hn48 hse hvx hch hxle hz20 e1 hW1 hadd hms hcast hwd1 hw1 hDw hw1' hD hR hX
  go_enter Try.func112, Try.ntmps112
  go_wp2_with fail
  refine (cS _).mono ?_
  rintro e w1 ⟨rfl, rfl⟩
  clear cS
  go_wp2_with fail
  refine (cH _ hB0).mono ?_
  rintro e w1 ⟨rfl, hB1⟩
  have hB1' := hB0.trans (hB1.mono hB0.size)
  have hb1 := hb0.at (hB1.block _ hb0.lt)
  have hf1 := hb1.frozen 2
  have hb2 := hb1.set 2 (.int .i64 x)
  have hB2 : Below w.heap.size w (w1.setCell ⟨w.heap.size, 2, none⟩ (.int .i64 x)) := hB1'.setCell (p := ⟨w.heap.size, 2, none⟩) (Nat.le_refl _) _
  have g0 : w1.cell? ⟨w.heap.size, 0, none⟩ = some (.int .i64 due) := hb1.cell 0
  have g1 : w1.cell? ⟨w.heap.size, 1, none⟩ = some (.int .i64 at_) := hb1.cell 1
  have g2 : w1.cell? ⟨w.heap.size, 2, none⟩ = some (.int .i64 a) := hb1.cell 2
  have g3 : w1.cell? ⟨w.heap.size, 3, none⟩ = some (.int .i64 puts) := hb1.cell 3
  clear cH hB0 hb0 hB1 hB1' hb1 hb2
  go_wp2_with fail
  refine (cP _).mono ?_
  rintro e w2 ⟨rfl, hB3⟩
  have hB3' := hB2.trans (hB3.mono hB2.size)
  have c0' : w2.cell? ⟨lb, 0, none⟩ = some (.pointer (some ⟨wb, 0, none⟩)) := (hB3'.cell (p := ⟨lb, 0, none⟩) hlbl).trans c0
  have c1' : w2.cell? ⟨lb, 1, none⟩ = some (.int .i64 n) := (hB3'.cell (p := ⟨lb, 1, none⟩) hlbl).trans c1
  have c2' : w2.cell? ⟨wb, 0, none⟩ = some (.pointer (some ⟨b, 0, none⟩)) := (hB3'.cell (p := ⟨wb, 0, none⟩) hwbl).trans c2
  have cW := cW1 _ hB3'.drew
  clear cP cW1 hB2 hB3 g0 g1 g2 g3 hf1 c0 c1 c2
  go_wp2_with fail
  have ew : IntKind.i64.wrap ((n : Int) * 20) = (n : Int) * 20 := Go.IntWalk.i64_in _ (by omega)
  clear hd ha hp hn hC hu hs16 hB3'
  refine wp_region_held_drew (S := fun W => W.cell? ⟨lb, 0, none⟩ = some (.pointer (some ⟨wb, 0, none⟩)) ∧ W.cell? ⟨lb, 1, none⟩ = some (.int .i64 n) ∧ W.cell? ⟨wb, 0, none⟩ = some (.pointer (some ⟨b, 0, none⟩))) (by kernel_rfl) ⟨c0', c1', c2'⟩ (fun hHeld => ?_)
  refine wpAnyH_take (i := 0) (v := ?_) (oi := ⟨some 33, _, _, _, _, _⟩) rfl (by kernel_rfl) (by kernel_rfl) (by kernel_rfl) (fun _ _ _ h => h) (Or.inl ⟨rfl, ?_⟩) (by assumption) ?_
  rotate_left
  · (intro W hW; (try dsimp only at hW); go_simp; try with_reducible rfl)
  try simp only [Act.put, List.setIfInBounds_toArray, List.set_cons_zero, List.set_cons_succ]
  refine wpAnyH_take (i := 1) (v := ?_) (oi := ⟨some 34, _, _, _, _, _⟩) rfl (by kernel_rfl) (by kernel_rfl) (by kernel_rfl) (fun _ _ _ h => h) (Or.inl ⟨rfl, ?_⟩) (by assumption) ?_
  rotate_left
  · (intro W hW; (try dsimp only at hW); go_simp; try with_reducible rfl)
  try simp only [Act.put, List.setIfInBounds_toArray, List.set_cons_zero, List.set_cons_succ]
  refine wpAnyH_take (i := 2) (v := ?_) (oi := ⟨some 35, _, _, _, _, _⟩) rfl (by kernel_rfl) (by kernel_rfl) (by kernel_rfl) (fun _ _ _ h => h) (Or.inl ⟨rfl, ?_⟩) (by assumption) ?_
  rotate_left
  · (intro W hW; (try dsimp only at hW); go_simp; try with_reducible rfl)
  try simp only [Act.put, List.setIfInBounds_toArray, List.set_cons_zero, List.set_cons_succ]
  refine wpAnyH_take (i := 3) (v := ?_) (oi := ⟨some 36, _, _, _, _, _⟩) rfl (by kernel_rfl) (by kernel_rfl) (by kernel_rfl) (fun _ _ _ h => h) (Or.inl ⟨rfl, ?_⟩) (by assumption) ?_
  rotate_left
  · (intro W hW; (try dsimp only at hW); go_simp; try with_reducible rfl)
  try simp only [Act.put, List.setIfInBounds_toArray, List.set_cons_zero, List.set_cons_succ]
  refine wpAnyH_take (i := 4) (v := ?_) (oi := ⟨some 37, _, _, _, _, _⟩) rfl (by kernel_rfl) (by kernel_rfl) (by kernel_rfl) (fun _ _ _ h => h) (Or.inl ⟨rfl, ?_⟩) (by assumption) ?_
  rotate_left
  · (intro W hW; (try dsimp only at hW); go_simp; try with_reducible rfl)
  try simp only [Act.put, List.setIfInBounds_toArray, List.set_cons_zero, List.set_cons_succ]
  refine wpAnyH_take (i := 5) (v := ?_) (oi := ⟨some 38, _, _, _, _, _⟩) rfl (by kernel_rfl) (by kernel_rfl) (by kernel_rfl) (fun _ _ _ h => h) (Or.inl ⟨rfl, ?_⟩) (by assumption) ?_
  rotate_left
  · (intro W hW; (try dsimp only at hW); go_simp; try with_reducible rfl)
  try simp only [Act.put, List.setIfInBounds_toArray, List.set_cons_zero, List.set_cons_succ]
  refine wpAnyH_take (i := 6) (v := ?_) (oi := ⟨some 39, _, _, _, _, _⟩) rfl (by kernel_rfl) (by kernel_rfl) (by kernel_rfl) (fun _ _ _ h => h) (Or.inl ⟨rfl, ?_⟩) (by assumption) ?_
  rotate_left
  · (intro W hW; (try dsimp only at hW); go_simp; try with_reducible rfl)
  try simp only [Act.put, List.setIfInBounds_toArray, List.set_cons_zero, List.set_cons_succ]
  refine wpAnyH_take (i := 7) (v := ?_) (oi := ⟨some 40, _, _, _, _, _⟩) rfl (by kernel_rfl) (by kernel_rfl) (by kernel_rfl) (fun _ _ _ h => h) (Or.inl ⟨rfl, ?_⟩) (by assumption) ?_
  rotate_left
  · (intro W hW; (try dsimp only at hW); go_simp; try with_reducible rfl)
  try simp only [Act.put, List.setIfInBounds_toArray, List.set_cons_zero, List.set_cons_succ]
  refine wpAnyH_take (i := 8) (v := ?_) (oi := ⟨some 41, _, _, _, _, _⟩) rfl (by kernel_rfl) (by kernel_rfl) (by kernel_rfl) (fun _ _ _ h => h) (Or.inl ⟨rfl, ?_⟩) (by assumption) ?_
  rotate_left
  · (intro W hW; (try dsimp only at hW); go_simp; try with_reducible rfl)
  try simp only [Act.put, List.setIfInBounds_toArray, List.set_cons_zero, List.set_cons_succ]
  refine wpAnyH_take (i := 9) (v := ?_) (oi := ⟨some 42, _, _, _, _, _⟩) rfl (by kernel_rfl) (by kernel_rfl) (by kernel_rfl) (fun _ _ _ h => h) (Or.inl ⟨rfl, ?_⟩) (by assumption) ?_
  rotate_left
  · (intro W hW; (try dsimp only at hW); go_simp; try with_reducible rfl)
  try simp only [Act.put, List.setIfInBounds_toArray, List.set_cons_zero, List.set_cons_succ]
  refine wpAnyH_take (i := 10) (v := ?_) (oi := ⟨some 43, _, _, _, _, _⟩) rfl (by kernel_rfl) (by kernel_rfl) (by kernel_rfl) (fun _ _ _ h => h) (Or.inl ⟨rfl, ?_⟩) (by assumption) ?_
  rotate_left
  · (intro W hW; (try dsimp only at hW); go_simp; try with_reducible rfl)
  try simp only [Act.put, List.setIfInBounds_toArray, List.set_cons_zero, List.set_cons_succ]
  refine wpAnyH_take (i := 11) (v := ?_) (oi := ⟨some 44, _, _, _, _, _⟩) rfl (by kernel_rfl) (by kernel_rfl) (by kernel_rfl) (fun _ _ _ h => h) (Or.inl ⟨rfl, ?_⟩) (by assumption) ?_
  rotate_left
  · (intro W hW; (try dsimp only at hW); go_simp; try with_reducible rfl)
  try simp only [Act.put, List.setIfInBounds_toArray, List.set_cons_zero, List.set_cons_succ]
  refine wpAnyH_take (i := 12) (v := ?_) (oi := ⟨some 45, _, _, _, _, _⟩) rfl (by kernel_rfl) (by kernel_rfl) (by kernel_rfl) (fun _ _ _ h => h) (Or.inl ⟨rfl, ?_⟩) (by assumption) ?_
  rotate_left
  · (intro W hW; (try dsimp only at hW); go_simp; try with_reducible rfl)
  try simp only [Act.put, List.setIfInBounds_toArray, List.set_cons_zero, List.set_cons_succ]
  refine wpAnyH_ready (rs := [13]) (by kernel_rfl) (by simp) ?_
  refine AllReadyH.cons (o := ⟨some 46, _, _, _, _, _⟩) rfl (fun K hK => ?_) AllReadyH.nil
  have hKh := Lib.hid hK
  clear hK
  go_simp
  go_at_call 42
  refine cW.mono ?_
  rintro e w5 ⟨rfl, hX5⟩
  have cf0 : w5.cell? ⟨lb, 0, none⟩ = some (.pointer (some ⟨wb, 0, none⟩)) := (LX.head hX5).cell 0
  have cf1 : w5.cell? ⟨lb, 1, none⟩ = some (.int .i64 n) := (LX.head hX5).cell 1
  have cf2 : w5.cell? ⟨wb, 0, none⟩ = some (.pointer (some ⟨b, 0, none⟩)) := (LX.wheel hX5).ptr.1
  refine hKh.out _ _ ⟨cf0, cf1, cf2⟩ (fun hHeld1 => ?_)
  clear hKh K hHeld cW c0' c1' c2'
  try simp only [Act.put, List.setIfInBounds_toArray, List.set_cons_zero, List.set_cons_succ]
  refine wpAnyH_take (i := 14) (v := ?_) (oi := ⟨some 10, _, _, _, _, _⟩) rfl (by kernel_rfl) (by kernel_rfl) (by kernel_rfl) (fun _ _ _ h => h) (Or.inl ⟨rfl, ?_⟩) (by assumption) ?_
  rotate_left
  · (intro W hW; (try dsimp only at hW); go_simp; try with_reducible rfl)
  try simp only [Act.put, List.setIfInBounds_toArray, List.set_cons_zero, List.set_cons_succ]
  refine wpAnyH_done (by kernel_rfl) ?_ _
  clear hHeld1 ew
  have ff1 := (LX.head hX5).frozen 1
  have hX6 := LX.count hX5 ((n : Int) + 1)
  generalize hw6 : w5.setCell ⟨lb, 1, none⟩ (.int .i64 ((n : Int) + 1)) = w6 at *
  have d0 : w6.cell? ⟨lb, 0, none⟩ = some (.pointer (some ⟨wb, 0, none⟩)) := (LX.head hX6).cell 0
  have d1 : w6.cell? ⟨lb, 1, none⟩ = some (.int .i64 ((n : Int) + 1)) := (LX.head hX6).cell 1
  have hd0 := Lib.hid d0
  have hd1 := Lib.hid d1
  have hX7 := LX.below hX6 (Below.refl _ w6).drew
  obtain ⟨D2, hWD, h2, cSet⟩ := LX.set hX7 hwd1H.out s hs16H.out (n + 1) hn48H.out hwH.out
  rw [hmsH.out] at hlay
  have hfin := Lib.hid (hlay.out D2 hWD h2)
  have hmsn : Hid ((ms ++ [(⟨due, at_, x, puts⟩ : MRec)]).length = n + 1) := by show _ = _; rw [List.length_append, hmsH.out]; rfl
  rw [show ((n + 1 : Nat) : Int) = (n : Int) + 1 by omega] at cSet
  have hw6H := Lib.hid hw6
  clear hw6 hX6 hX7 h2 hWD hX5 d0 d1
  have hnb := hn48H.out
  have d0 : w6.cell? ⟨lb, 0, none⟩ = some (.pointer (some ⟨wb, 0, none⟩)) := hd0.out
  have d1 : w6.cell? ⟨lb, 1, none⟩ = some (.int .i64 ((n : Int) + 1)) := hd1.out
  go_wp2_with fail
  rw [hw6H.out]
  clear cf0 cf1 cf2
  refine wp_region_held_drew (S := fun W => W.cell? ⟨lb, 0, none⟩ = some (.pointer (some ⟨wb, 0, none⟩)) ∧ W.cell? ⟨lb, 1, none⟩ = some (.int .i64 ((n : Int) + 1))) (by kernel_rfl) ⟨d0, d1⟩ (fun hHeld => ?_)
  refine wpAnyH_take (i := 0) (v := ?_) (oi := ⟨some 57, _, _, _, _, _⟩) rfl (by kernel_rfl) (by kernel_rfl) (by kernel_rfl) (fun _ _ _ h => h) (Or.inl ⟨rfl, ?_⟩) (by assumption) ?_
  rotate_left
  · (intro W hW; (try dsimp only at hW); go_simp; try with_reducible rfl)
  try simp only [Act.put, List.setIfInBounds_toArray, List.set_cons_zero, List.set_cons_succ]
  refine wpAnyH_take (i := 1) (v := ?_) (oi := ⟨some 58, _, _, _, _, _⟩) rfl (by kernel_rfl) (by kernel_rfl) (by kernel_rfl) (fun _ _ _ h => h) (Or.inl ⟨rfl, ?_⟩) (by assumption) ?_
  rotate_left
  · (intro W hW; (try dsimp only at hW); go_simp; try with_reducible rfl)
  try simp only [Act.put, List.setIfInBounds_toArray, List.set_cons_zero, List.set_cons_succ]
  refine wpAnyH_take (i := 2) (v := ?_) (oi := ⟨some 59, _, _, _, _, _⟩) rfl (by kernel_rfl) (by kernel_rfl) (by kernel_rfl) (fun _ _ _ h => h) (Or.inl ⟨rfl, ?_⟩) (by assumption) ?_
  rotate_left
  · (intro W hW; (try dsimp only at hW); go_simp; try with_reducible rfl)
  try simp only [Act.put, List.setIfInBounds_toArray, List.set_cons_zero, List.set_cons_succ]
  refine wpAnyH_take (i := 3) (v := ?_) (oi := ⟨some 60, _, _, _, _, _⟩) rfl (by kernel_rfl) (by kernel_rfl) (by kernel_rfl) (fun _ _ _ h => h) (Or.inl ⟨rfl, ?_⟩) (by assumption) ?_
  rotate_left
  · (intro W hW; (try dsimp only at hW); go_simp; try with_reducible rfl)
  try simp only [Act.put, List.setIfInBounds_toArray, List.set_cons_zero, List.set_cons_succ]
  refine wpAnyH_take (i := 4) (v := ?_) (oi := ⟨some 61, _, _, _, _, _⟩) rfl (by kernel_rfl) (by kernel_rfl) (by kernel_rfl) (fun _ _ _ h => h) (Or.inl ⟨rfl, ?_⟩) (by assumption) ?_
  rotate_left
  · (intro W hW; (try dsimp only at hW); go_simp; try with_reducible rfl)
  try simp only [Act.put, List.setIfInBounds_toArray, List.set_cons_zero, List.set_cons_succ]
  refine wpAnyH_take (i := 5) (v := ?_) (oi := ⟨some 62, _, _, _, _, _⟩) rfl (by kernel_rfl) (by kernel_rfl) (by kernel_rfl) (fun _ _ _ h => h) (Or.inl ⟨rfl, ?_⟩) (by assumption) ?_
  rotate_left
  · (intro W hW; (try dsimp only at hW); go_simp; try with_reducible rfl)
  try simp only [Act.put, List.setIfInBounds_toArray, List.set_cons_zero, List.set_cons_succ]
  refine wpAnyH_take (i := 6) (v := ?_) (oi := ⟨some 63, _, _, _, _, _⟩) rfl (by kernel_rfl) (by kernel_rfl) (by kernel_rfl) (fun _ _ _ h => h) (Or.inl ⟨rfl, ?_⟩) (by assumption) ?_
  rotate_left
  · (intro W hW; (try dsimp only at hW); go_simp; try with_reducible rfl)
  try simp only [Act.put, List.setIfInBounds_toArray, List.set_cons_zero, List.set_cons_succ]
  refine wpAnyH_take (i := 7) (v := ?_) (oi := ⟨some 64, _, _, _, _, _⟩) rfl (by kernel_rfl) (by kernel_rfl) (by kernel_rfl) (fun _ _ _ h => h) (Or.inl ⟨rfl, ?_⟩) (by assumption) ?_
  rotate_left
  · (intro W hW; (try dsimp only at hW); go_simp; try with_reducible rfl)
  try simp only [Act.put, List.setIfInBounds_toArray, List.set_cons_zero, List.set_cons_succ]
  refine wpAnyH_take (i := 8) (v := ?_) (oi := ⟨some 65, _, _, _, _, _⟩) rfl (by kernel_rfl) (by kernel_rfl) (by kernel_rfl) (fun _ _ _ h => h) (Or.inl ⟨rfl, ?_⟩) (by assumption) ?_
  rotate_left
  · (intro W hW; (try dsimp only at hW); go_simp; try with_reducible rfl)
  try simp only [Act.put, List.setIfInBounds_toArray, List.set_cons_zero, List.set_cons_succ]
  refine wpAnyH_ready (rs := [9]) (by kernel_rfl) (by simp) ?_
  refine AllReadyH.cons (o := ⟨some 66, _, _, _, _, _⟩) rfl (fun K hK => ?_) AllReadyH.nil
  have hKh := Lib.hid hK
  clear hK
  go_simp
  go_at_call 59
  refine cSet.mono ?_
  rintro e w7 ⟨rfl, hX7⟩
  have cf0 : w7.cell? ⟨lb, 0, none⟩ = some (.pointer (some ⟨wb, 0, none⟩)) := (LX.head hX7).cell 0
  have cf1 : w7.cell? ⟨lb, 1, none⟩ = some (.int .i64 ((n : Int) + 1)) := (LX.head hX7).cell 1
  refine hKh.out _ _ ⟨cf0, cf1⟩ (fun hHeld1 => ?_)
  clear hKh K hHeld cSet d0 d1
  try simp only [Act.put, List.setIfInBounds_toArray, List.set_cons_zero, List.set_cons_succ]
  refine wpAnyH_take (i := 10) (v := ?_) (oi := ⟨some 4, _, _, _, _, _⟩) rfl (by kernel_rfl) (by kernel_rfl) (by kernel_rfl) (fun _ _ _ h => h) (Or.inl ⟨rfl, ?_⟩) (by assumption) ?_
  rotate_left
  · (intro W hW; (try dsimp only at hW); go_simp; try with_reducible rfl)
  try simp only [Act.put, List.setIfInBounds_toArray, List.set_cons_zero, List.set_cons_succ]
  refine wpAnyH_done (by kernel_rfl) ?_ _
  clear hHeld1
  go_wp2_with fail
  go_ret
  have hb := hRH.out.back hX7
  exact ⟨rfl, D2, _, _, hmsn.out, hfin.out, hb⟩
end Go.Proofs.Ytndpmjanflahhaa
