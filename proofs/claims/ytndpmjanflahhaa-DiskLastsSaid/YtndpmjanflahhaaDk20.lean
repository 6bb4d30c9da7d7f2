/-
  disk.Sync.
-/
import Derived.Test.YtndpmjanflahhaaDk19
namespace Go.Proofs.Ytndpmjanflahhaa
open Go.RowKit Go.MapKept

def DiskA.sync (D : DiskA) (ss : List ByteArray) : Int × DiskA :=
  if D.bars ss ≠ 0 then (D.bars ss, D) else if D.burn.1 then (0, D.burn.2.lasts ss) else (8, D.burn.2)

theorem bars_zero {D : DiskA} {ss : List ByteArray} (h : D.bars ss = 0) : D.down = false ∧ ∀ s ∈ ss, (findF D.files s).isSome = true := by
  unfold DiskA.bars at h
  cases hd : D.down
  · rw [hd] at h
    refine ⟨rfl, ?_⟩
    simp only [if_neg (show ¬ (false = true) by decide)] at h
    split at h
    · rename_i h1; exact fun s hs => List.all_eq_true.1 h1 s hs
    · cases h
  · rw [hd] at h; simp at h
theorem bars_range (D : DiskA) (ss : List ByteArray) : D.bars ss = 0 ∨ D.bars ss = 8 ∨ D.bars ss = 9 := by
  unfold DiskA.bars
  split
  · exact .inr (.inl rfl)
  · split
    · exact .inl rfl
    · exact .inr (.inr rfl)

set_option maxHeartbeats 1000000 in
theorem Sync_any (b : Nat) (D : DiskA) (F : Nat → Prop) (w : World) (h : IsDisk w b D F) (a : Option Addr) (cap : Nat) (ss : List ByteArray) (hl : ss.length ≤ 1000000) (hr : StrSl w a ss) (hF : 0 < ss.length → ∀ x, a = some x → ¬ F x.block) :
    Calls Try.prog 43 #[ptr b, .slice a ss.length cap] w fun e w' => e = .returned (errn (D.sync ss).1) ∧ IsDisk w' b (D.sync ss).2 F ∧ Step F w F w' := by
  have cb := bars_any b D F w h a cap ss hl hr
  have cd := done_any b D F w h
  have hdef : D.sync ss = if D.bars ss ≠ 0 then (D.bars ss, D) else if D.burn.1 then (0, D.burn.2.lasts ss) else (8, D.burn.2) := rfl
  by_cases hz : D.bars ss = 0
  · obtain ⟨_, hall⟩ := bars_zero hz
    rw [hz] at cb
    rw [if_neg (by rw [hz]; decide)] at hdef
    have hall' : ∀ s ∈ ss, (findF D.burn.2.files s).isSome = true := by rw [(burn_files D).1]; exact hall
    cases hbn : D.burn.1
    · rw [hbn] at cd hdef
      rw [hdef]
      clear hdef
      unfold ptr errn at *
      go_enter Try.func43, Try.ntmps43
      go_wp2_with (first
        | (go_at_call 84; (with_reducible refine cb.mono ?_); rintro e w1 ⟨rfl, rfl⟩)
        | (go_at_call 85; (with_reducible refine cd.mono ?_); rintro e w1 ⟨rfl, hd1, hs1⟩))
      go_ret
      exact ⟨rfl, hd1, hs1⟩
    · rw [hbn] at cd hdef
      rw [hdef]
      clear hdef
      have cl := fun w1 (hd1 : IsDisk w1 b D.burn.2 F) (hs1 : Step F w F w1) => lasts_any b D.burn.2 F w1 hd1 a cap ss hl (hr.step hs1 hF) hF hall'
      unfold ptr errn at *
      go_enter Try.func43, Try.ntmps43
      go_wp2_with (first
        | (go_at_call 84; (with_reducible refine cb.mono ?_); rintro e w1 ⟨rfl, rfl⟩)
        | (go_at_call 85; (with_reducible refine cd.mono ?_); rintro e w1 ⟨rfl, hd1, hs1⟩)
        | (go_at_call 87; (with_reducible refine (cl _ hd1 hs1).mono ?_); rintro e w2 ⟨rfl, hd2, hs2⟩))
      go_ret
      exact ⟨rfl, hd2, hs1.trans hs2⟩
  · rw [if_pos hz] at hdef
    have hz' := bars_range D ss
    rw [hdef]
    clear hdef cd
    generalize D.bars ss = r at *
    unfold ptr errn at *
    go_enter Try.func43, Try.ntmps43
    rcases hz' with rfl | rfl | rfl
    · exact absurd rfl hz
    all_goals
      go_wp2_with (go_at_call 84; (with_reducible refine cb.mono ?_); rintro e w1 ⟨rfl, rfl⟩)
      go_ret
      exact ⟨rfl, h, Step.refl F _⟩
end Go.Proofs.Ytndpmjanflahhaa
