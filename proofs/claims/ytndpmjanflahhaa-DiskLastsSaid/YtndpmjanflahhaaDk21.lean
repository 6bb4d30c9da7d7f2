/-
  disk.Cut.
-/
import Derived.Test.YtndpmjanflahhaaDk20
namespace Go.Proofs.Ytndpmjanflahhaa
open Go.RowKit Go.MapKept

def DiskA.cut (D : DiskA) (n : ByteArray) (k : Int) : Int × DiskA :=
  if D.down then (8, D) else match findF D.files n with
  | none => (9, D)
  | some f =>
    if k < 0 ∨ (f.now.size : Int) < k then (2, D)
    else if D.burn.1 then (0, (D.burn.2.nowed f.id (f.now.extract 0 k.toNat)).lasts [n]) else (8, D.burn.2)

theorem Step.mono {F F1 : Nat → Prop} {w w' : World} (h : Step F1 w F1 w') (hs : ∀ k, F1 k → F k) : Step F w F w' :=
  ⟨h.os, h.tape, h.output, h.size, fun k hk hn => h.block k hk (fun h1 => hn (hs k h1)), fun k hk => .inl hk⟩
theorem StrSl.one (w : World) (n : ByteArray) : StrSl (w.alloc (.cells #[.string n] 9)) (some ⟨w.heap.size, 0, none⟩) [n] := fun i s hi => by
  cases i with
  | zero => simp at hi; subst hi; exact ⟨_, 0, rfl, by simp⟩
  | succ i => simp at hi
theorem bars_new (b : Nat) (D : DiskA) (F : Nat → Prop) (w : World) (h : IsDisk w b D F) (n : ByteArray) :
    Calls Try.prog 84 #[ptr b, .slice (some ⟨w.heap.size, 0, none⟩) 1 1] (w.alloc (.cells #[.string n] 9)) fun e w' => e = .returned (errn (D.bars [n])) ∧ w.alloc (.cells #[.string n] 9) = w' :=
  bars_any b D F _ (h.below ((Below.refl _ w).alloc (Nat.le_refl _) _)) _ 1 [n] (by simp) (StrSl.one w n)
theorem lasts_new (b : Nat) (D : DiskA) (F : Nat → Prop) (w : World) (h : IsDisk w b D F) (n : ByteArray) (hf : (findF D.files n).isSome = true) :
    Calls Try.prog 87 #[ptr b, .slice (some ⟨w.heap.size, 0, none⟩) 1 1] (w.alloc (.cells #[.string n] 9)) fun e w' => e = .returned (.tuple #[]) ∧ IsDisk w' b (D.lasts [n]) F ∧ Step F w F w' := by
  have hB : Below w.heap.size w (w.alloc (.cells #[.string n] 9)) := (Below.refl _ w).alloc (Nat.le_refl _) _
  refine (lasts_any b D _ _ (h.tight.below hB) _ 1 [n] (by simp) (StrSl.one w n) (fun _ x hx => ?_) (fun s hs => by simp at hs; subst hs; exact hf)).mono ?_
  · cases hx; rintro ⟨_, h2⟩; exact absurd h2 (Nat.lt_irrefl _)
  · rintro e w' ⟨rfl, hd, hs⟩
    exact ⟨rfl, hd.mono (fun _ h => h.1), (Step.of_below hB).trans (hs.mono (fun _ h => h.1))⟩

set_option maxRecDepth 100000 in
set_option maxHeartbeats 2000000 in
theorem Cut_any (b : Nat) (D : DiskA) (F : Nat → Prop) (w : World) (h : IsDisk w b D F) (n : ByteArray) (k : Int) (hk : -9223372036854775808 ≤ k ∧ k ≤ 9223372036854775807) :
    Calls Try.prog 88 #[ptr b, .string n, .int .i64 k] w fun e w' => e = .returned (errn (D.cut n k).1) ∧ IsDisk w' b (D.cut n k).2 F ∧ Step F w F w' := by
  have cb := bars_new b D F w h n
  rw [bars_one] at cb
  have hBw : Below w.heap.size w (w.alloc (.cells #[.string n] 9)) := (Below.refl _ w).alloc (Nat.le_refl _) _
  have hw1 := h.below hBw
  have hs1 := Step.of_below (F := F) hBw
  obtain ⟨hk1, hk2⟩ := hk
  have hC : D.cut n k = if D.down then ((8 : Int), D) else match findF D.files n with
    | none => ((9 : Int), D)
    | some f => if k < 0 ∨ (f.now.size : Int) < k then ((2 : Int), D) else if D.burn.1 then ((0 : Int), (D.burn.2.nowed f.id (f.now.extract 0 k.toNat)).lasts [n]) else ((8 : Int), D.burn.2) := rfl
  cases hdn : D.down
  case true =>
    rw [hdn] at cb hC
    simp only [if_true] at cb hC
    rw [hC]
    clear hC hdn
    unfold ptr errn at *
    go_enter Try.func88, Try.ntmps88
    go_wp2_with (go_at_call 84; (with_reducible refine cb.mono ?_); rintro e w1 ⟨rfl, rfl⟩)
    go_ret
    exact ⟨rfl, hw1, hs1⟩
  case false =>
    rw [hdn] at cb hC
    simp only [Bool.false_eq_true, if_false] at cb hC
    cases hf : findF D.files n with
    | none =>
      rw [hf] at cb hC
      dsimp only at hC
      rw [hC]
      clear hC hdn hf
      unfold ptr errn at *
      go_enter Try.func88, Try.ntmps88
      go_wp2_with (go_at_call 84; (with_reducible refine cb.mono ?_); rintro e w1 ⟨rfl, rfl⟩)
      go_ret
      exact ⟨rfl, hw1, hs1⟩
    | some f =>
      rw [hf] at cb hC
      dsimp only at hC
      simp only [Option.isSome_some, if_true] at cb
      obtain ⟨m, v, hb, hm, hrow, fm, fg⟩ := hw1.head
      have c2 : (w.alloc (.cells #[.string n] 9)).cell? ⟨b, 2, none⟩ = some (.map (some m)) := hb.cell 2
      have hlk := run_look h.ok.names hm n
      unfold lookV at hlk
      rw [hf] at hlk
      dsimp only at hlk
      have hfm := (findF_some hf).1
      have hfb := (hw1.files f hfm).2
      have cf : (w.alloc (.cells #[.string n] 9)).cell? ⟨f.id, 1, none⟩ = some (.string f.now) := hfb.cell 1
      have hfs : f.now.size ≤ 16777216 := by
        have h1 := sizes_without h.ok.names hfm
        have h2 : sizes D.files ≤ D.cap := h.ok.size
        have h3 := h.ok.cap
        omega
      have hsome : (findF D.burn.2.files n).isSome = true := by rw [(burn_files D).1, hf]; rfl
      have hfm2 : f ∈ D.burn.2.files := by rw [(burn_files D).1]; exact hfm
      have cd := done_any b D F _ hw1
      clear hb hm hrow fm fg hfb hdn hf
      by_cases b1 : k < 0
      · rw [if_pos (.inl b1)] at hC
        rw [hC]
        clear hC cd
        unfold ptr errn at *
        go_enter Try.func88, Try.ntmps88
        go_wp2_with (go_at_call 84; (with_reducible refine cb.mono ?_); rintro e w1 ⟨rfl, rfl⟩)
        go_ret
        exact ⟨rfl, hw1, hs1⟩
      by_cases b2 : (f.now.size : Int) < k
      · rw [if_pos (.inr b2)] at hC
        rw [hC]
        clear hC cd
        unfold ptr errn at *
        go_enter Try.func88, Try.ntmps88
        go_wp2_with (go_at_call 84; (with_reducible refine cb.mono ?_); rintro e w1 ⟨rfl, rfl⟩)
        go_ret
        exact ⟨rfl, hw1, hs1⟩
      rw [if_neg (by rintro (h | h); exact b1 h; exact b2 h)] at hC
      cases hbn : D.burn.1
      · rw [hbn] at cd hC
        rw [hC]
        clear hC
        unfold ptr errn at *
        go_enter Try.func88, Try.ntmps88
        go_wp2_with (first
          | (go_at_call 84; (with_reducible refine cb.mono ?_); rintro e w1 ⟨rfl, rfl⟩)
          | (go_at_call 85; (with_reducible refine cd.mono ?_); rintro e w1 ⟨rfl, hd1, hs2⟩))
        go_ret
        exact ⟨rfl, hd1, hs1.trans hs2⟩
      · rw [hbn] at cd hC
        rw [hC]
        clear hC
        have cl := fun w2 (hd2 : IsDisk w2 b (D.burn.2.nowed f.id (f.now.extract 0 k.toNat)) F) => lasts_new b (D.burn.2.nowed f.id (f.now.extract 0 k.toNat)) F w2 hd2 n (by
          show (findF (turn _ _ _) n).isSome = true
          rw [findF_turn (u := FileA.setNow (f.now.extract 0 k.toNat)) (fun _ => rfl), Option.isSome_map]; exact hsome)
        unfold ptr errn at *
        go_enter Try.func88, Try.ntmps88
        go_wp2_with (first
          | (go_at_call 84; (with_reducible refine cb.mono ?_); rintro e w1 ⟨rfl, rfl⟩)
          | (go_at_call 85; (with_reducible refine cd.mono ?_); rintro e w1 ⟨rfl, hd1, hs2⟩
             have hfb := (hd1.files f hfm2).2
             have g1 : w1.cell? ⟨f.id, 1, none⟩ = some (.string f.now) := hfb.cell 1
             have gf := hfb.frozen 1
             clear hfb)
          | (go_at_call 87; have cq := cl _ (hd1.nowed hfm2 (f.now.extract 0 k.toNat) (by rw [ByteArray.size_extract]; omega)).1; rw [setCell_size] at cq; (with_reducible refine cq.mono ?_); rintro e w2 ⟨rfl, hd2, hs3⟩))
        go_ret
        exact ⟨rfl, hd2, ((hs1.trans hs2).trans (hd1.nowed hfm2 (f.now.extract 0 k.toNat) (by rw [ByteArray.size_extract]; omega)).2).trans hs3⟩
end Go.Proofs.Ytndpmjanflahhaa
