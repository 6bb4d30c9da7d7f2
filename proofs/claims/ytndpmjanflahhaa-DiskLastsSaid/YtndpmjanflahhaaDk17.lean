/-
  slices.DeleteFunc at the writes that wait, however they lie.
-/
import Derived.Test.YtndpmjanflahhaaDk16
namespace Go.Proofs.Ytndpmjanflahhaa
open Go.RowKit Go.MapKept

set_option maxRecDepth 100000 in
theorem IndexFuncN (g c : Nat) (w : World) :
    Calls Try.prog 139 #[.slice none 0 0, .func (.func g) #[] #[.pointer (some ⟨c, 0, none⟩)]] w fun e w' => e = .returned (.int .i64 (-1)) ∧ Below w.heap.size w w' := by
  go_enter Try.func139, Try.ntmps139
  go_wp2
  go_loopw [8] (fun i wr => i = .int .i64 0 ∧ Below w.heap.size w wr) (fun i _ => 0)
  case atStart => exact ⟨rfl, Below.refl _ _⟩
  case round =>
    obtain ⟨rfl, hB⟩ := hrel
    go_wp2
    go_ret
    exact ⟨rfl, hB⟩

set_option maxRecDepth 100000 in
theorem DeleteFuncN (g c : Nat) (w : World) :
    Calls Try.prog 118 #[.slice none 0 0, .func (.func g) #[] #[.pointer (some ⟨c, 0, none⟩)]] w fun e w' => e = .returned (.slice none 0 0) ∧ Below w.heap.size w w' := by
  have hidx := IndexFuncN g c w
  go_enter Try.func118, Try.ntmps118
  go_wp2_with (go_at_call 139; (with_reducible refine hidx.mono ?_); rintro e w1 ⟨rfl, hb1⟩)
  go_ret
  exact ⟨rfl, hb1⟩

theorem DeleteFuncV (g c id : Nat) (eg : ∀ args w, (callFunc g args).run Try.prog w = .ok (.enter g args) w) (hp : IsPred g c id) (v : Value) (l : List WaitA) (w : World)
    (hr : w.ownsRow 0 127 3 v l.length (waitCells l)) (he : PredEnv w c id l) (hcg : v.ownBlock ≠ some c) :
    Calls Try.prog 118 #[v, .func (.func g) #[] #[.pointer (some ⟨c, 0, none⟩)]] w fun e w' =>
      ∃ a' n' cap', e = .returned (.slice a' n' cap') ∧ w'.ownsRow 0 127 3 (.slice a' n' cap') (others l id).length (waitCells (others l id)) ∧ Step (fun k => v.ownBlock = some k) w (fun k => v.ownBlock = some k) w' ∧ (Value.slice a' n' cap').ownBlock = v.ownBlock := by
  rcases hr.2 with ⟨rfl, hn⟩ | ⟨gb, cap, cur, rfl, _, h1, h2, h3, h4, h5⟩
  · have : l = [] := List.length_eq_zero_iff.1 hn
    subst this
    refine (DeleteFuncN g c w).mono ?_
    rintro e w' ⟨rfl, hb⟩
    exact ⟨_, _, _, rfl, ⟨rfl, .inl ⟨rfl, rfl⟩⟩, Step.of_below hb, rfl⟩
  · have hml : maxLen = 9223372036854775807 := by decide
    refine (DeleteFuncW g c id eg hp gb cap l w ?_ h3 hr he (fun e => hcg (by rw [e]; rfl))).mono ?_
    · omega
    rintro e w' ⟨rfl, hr', hs⟩
    have e1 : (fun k => (Value.slice (some ⟨gb, 0, none⟩) l.length cap).ownBlock = some k) = (· = gb) := by
      funext k; simp [Value.ownBlock, eq_comm]
    rw [e1]
    exact ⟨_, _, _, rfl, hr', hs, rfl⟩
end Go.Proofs.Ytndpmjanflahhaa
