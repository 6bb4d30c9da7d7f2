/-
  THE STATEMENT reveillelaw16.TlogOrder: for every input the law returns true, and each argument reads behind the call as it read before: no condition.
-/
import Derived.Test.YtndpmjanflahhaaTl11
import Derived.Test.YtndpmjanflahhaaRows
import Derived.WalkKit
import Derived.ProofKit
import Derived.OpenShut
import Derived.Carry
import Derived.SliceStrings
namespace Go.Proofs.Ytndpmjanflahhaa.tlogOrder
open Go.ChangeShapes Go.WideShapes Go.ChangeAt Go.RowKit Go.ChangeMaps
set_option linter.unusedVariables false

theorem own : ownKnob Try.prog.godebug = none := by kernel_rfl
theorem laidOut : laidOutB Try.prog = true := by kernel_rfl

set_option maxRecDepth 100000 in
theorem lifted (os : Os) (started : os.Started) (H : Type) (enc : TypeId × Value → H) :
    ReturnsInHanded {} Try.checked os 19 .any (Rows.tlogOrderSpec.pre6 enc Try.prog Try.f19 Rows.tlogOrderRow.domain false) (Rows.tlogOrderSpec.post enc Try.prog Try.f19 false true false false) := by
  refine returnsInHanded_of_change (C := Try.checked) own started (by kernel_rfl) Try.func19
    (ChangeSpec.witness6 (enc := enc) (C := Try.checked) false ⟨#[], #[.slice none 0 0], []⟩ 8 (by kernel_rfl) (by kernel_rfl) (by kernel_rfl) (by kernel_rfl)) ?_
  intro W base args ds gs before hval0 hW hcnd _
  have hval : ∀ (j : Nat) t v, Try.f19.params[j]? = some t → args[j]? = some v → Value.okWide Try.prog W .any base t v := hval0
  have hW' := hW
  obtain ⟨p, q, hA0, hV, rfl, hfz, hnd⟩ := hW
  have hA : DataW.TrodAll enc Try.prog W 0 (fun _ => true) true Try.f19.params.toList args.toList ds p := hA0
  rw [Try.params19] at hA hval
  obtain ⟨v0, vs0, d0, ds0, p0, q0, hargs, rfl, rfl, h0, r0⟩ := trodAll_cons hA
  obtain ⟨rfl, rfl, rfl⟩ := trodAll_nil r0
  obtain rfl : args = #[v0] := by cases args; simp_all
  obtain ⟨rfl, rfl⟩ := trodVars_none hV
  have k0 := h0
  have lt0 : ∀ x ∈ p0, x.block < W.heap.size := by obtain ⟨m, hm⟩ := k0; exact DataW.trod_lt m _ _ _ hm
  have back : ∀ W', Below W.heap.size W W' → DataW.TrodAll enc Try.prog W' 0 (fun b => decide (b < W.heap.size)) true _ _ _ _ := fun W' bel =>
    (trodAll_cons_mk (Below.trod laidOut (by kernel_rfl) (of_decide_eq_true (by kernel_rfl)) k0 bel lt0) trodAll_mk0)
  obtain ⟨a, cap, xs, rfl, hlen, hxs⟩ := open_u16s (hval 0 109 v0 rfl rfl) h0
  clear hA0 hval0
  refine (tlogOrder_any a cap xs W (by unfold maxLen at hlen; omega) hxs).mono fun e W' ⟨he, bel⟩ => ?_
  subst he
  exact ⟨_, rfl, _, _, _, [], _, [], hW', trodAll_mk1 (shut_bool Try.underlying4 _), back W' bel, rfl, bel.frame _, fun h => by cases h⟩

theorem named : Try.pinned.checked.prog.funcNamed Rows.tlogOrderRow.func = some 19 := by kernel_rfl
set_option maxRecDepth 100000 in
set_option maxHeartbeats 40000000 in
theorem closed : joinedFacts Try.pinned.checked.prog 19 Try.f19 Rows.tlogOrderSpec Rows.tlogOrderRow = true := by
  unfold joinedFacts
  repeat' (with_reducible refine Bool.and_eq_true_iff.2 ⟨?_, ?_⟩)
  all_goals (as_aux_lemma => kernel_rfl)
theorem inst : Try.f19.isInstance Try.pinned.checked.prog Rows.tlogOrderRow.origin Rows.tlogOrderRow.targs := of_decide_eq_true (by kernel_rfl)
theorem wrap : Try.f19.isWrapper Try.pinned.checked.prog Rows.tlogOrderRow.wrapper Rows.tlogOrderRow.mainSum := by
  unfold Func.isWrapper
  first | (rw [if_pos (by decide +kernel)]; kernel_rfl) | (rw [if_neg (by decide +kernel)]; exact ⟨rfl, rfl⟩)
theorem over : Rows.tlogOrderRow.holds Try.pinned (OpenSpec.ofChange Rows.tlogOrderSpec) :=
  OpenClaim.holds_of_wide 19 Try.f19 rfl rfl rfl rfl rfl rfl rfl ⟨rfl, rfl, rfl, rfl, rfl⟩ rfl rfl rfl rfl rfl named Try.func19 closed inst wrap
    (fun os started H enc _ => lifted os started H enc)

theorem proved : Rows.TlogOrderSaid := over
#print axioms proved
end Go.Proofs.Ytndpmjanflahhaa.tlogOrder

