/-
  THE STATEMENTS OF LAYER 11: the document's example.
-/
import Derived.Test.YtndpmjanflahhaaML
import Derived.Test.YtndpmjanflahhaaDk35
import Derived.Test.YtndpmjanflahhaaWh6
namespace Go.Proofs.Ytndpmjanflahhaa
open Go.RowKit Go.MapKept

set_option maxRecDepth 100000 in
set_option maxHeartbeats 2000000 in
theorem awake11_any (w : World) : Calls Try.prog 64 #[] w fun e w' => e = .returned (.bool true) ∧ Below w.heap.size w w' := by
  have t1 : topicB ⟨#[97]⟩ = true := by decide +kernel
  have t2 : keyB ⟨#[107]⟩ = true := by decide +kernel
  have hH : hashL [⟨#[97]⟩, ⟨#[35]⟩, ⟨#[107]⟩] = 94409 := by decide +kernel
  go_enter Try.func64, Try.ntmps64
  go_wp2_with fail
  refine (New_lives (w0 := w) (Below.refl _ _) 10000 (by omega)).mono ?_
  rintro e w1 ⟨b, rfl, h1⟩
  go_wp2_with fail
  refine (KNew_ok 10000 w b w1 h1 (by decide) (by decide)).mono ?_
  rintro e w2 ⟨xb, D, rfl, h2, hD⟩
  go_wp2_with fail
  refine (KAdd_ok (x := 5) (y := 0) h2 hD (by decide) (by decide) ⟨#[97]⟩ ⟨#[107]⟩ (by decide) (by decide) t1 t2 (by omega) (by omega)).mono ?_
  rintro e w3 ⟨D3, rfl, h3, hD3⟩
  rw [hH] at h3 hD3
  go_wp2_with fail
  refine (KAdd_ok (x := 9) (y := 0) h3 hD3 (by decide) (by decide) ⟨#[97]⟩ ⟨#[107]⟩ (by decide) (by decide) t1 t2 (by omega) (by omega)).mono ?_
  rintro e w4 ⟨D4, rfl, h4, hD4⟩
  rw [hH] at h4 hD4
  have cF := KFind_any h4 hD4 (by decide) ⟨#[97]⟩ ⟨#[107]⟩ 0 9 (by decide) (by decide)
  rw [hH] at cF
  have hf : findL (([] ++ [(⟨94409, 5, 0, lastTo [] (94409 % 8) ([] : List KRec).length⟩ : KRec)]) ++ [⟨94409, 9, 0, lastTo ([] ++ [(⟨94409, 5, 0, lastTo [] (94409 % 8) ([] : List KRec).length⟩ : KRec)]) (94409 % 8) ([] ++ [(⟨94409, 5, 0, lastTo [] (94409 % 8) ([] : List KRec).length⟩ : KRec)]).length⟩]) 94409 0 9 = [9, 5] := by decide +kernel
  unfold FindsPost at cF
  rw [hf] at cF
  clear hf hH t1 t2
  go_wp2_with fail
  refine cF.mono ?_
  rintro e w5 ⟨a, c, rfl, hI, _, hB⟩
  have hg := h4.grew.trans (hB.mono h4.grew.size)
  clear cF
  have hBs : Below w5.heap.size w5 (w5.alloc (.cells #[.int .i64 9, .int .i64 5] 3)) := (Below.refl _ _).alloc (Nat.le_refl _) _
  have hss : IntSl (w5.alloc (.cells #[.int .i64 9, .int .i64 5] 3)) (some ⟨w5.heap.size, 0, none⟩) [9, 5] := by
    intro i s hi
    have hb : Blk (w5.alloc (.cells #[.int .i64 9, .int .i64 5] 3)) w5.heap.size #[.int .i64 9, .int .i64 5] 3 := Blk.new _ _ _
    match i, hi with
    | 0, hi => simp at hi; subst hi; exact ⟨_, 0, rfl, hb.cell 0⟩
    | 1, hi => simp at hi; subst hi; exact ⟨_, 0, rfl, hb.cell 1⟩
  have cI := RInts_yes a (some ⟨w5.heap.size, 0, none⟩) c 2 [9, 5] _ (by decide) (hI.below hBs) hss
  clear hI hss
  go_wp2_with fail
  refine cI.mono ?_
  rintro e w6 ⟨rfl, hB6⟩
  go_wp2_with fail
  go_ret
  exact ⟨rfl, (hg.trans (hBs.mono hg.size)).trans (hB6.mono (by have := hg.size; simp; omega))⟩
end Go.Proofs.Ytndpmjanflahhaa
