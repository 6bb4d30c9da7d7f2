/-
  One record that waits in the timer log; the document's example.
-/
import Derived.Test.YtndpmjanflahhaaTl7
import Derived.Test.YtndpmjanflahhaaDk35
namespace Go.Proofs.Ytndpmjanflahhaa
open Go.RowKit Go.MapKept

def oneQ (due at_ p : Nat) : Nat → List WRec := setQ (fun _ => []) (due % 16) [⟨due, at_, p⟩]
theorem oneQ_put (due at_ : Nat) : setQ (fun _ => []) (due % 16) ((fun _ => [] : Nat → List WRec) (due % 16) ++ [⟨due, at_, 1⟩]) = oneQ due at_ 1 := rfl
theorem oneQ_at (due at_ p : Nat) : oneQ due at_ p (due % 16) = [⟨due, at_, p⟩] := setQ_at _ _ _
theorem oneQ_ne {due at_ p s : Nat} (h : s ≠ due % 16) : oneQ due at_ p s = [] := setQ_ne h
theorem oneQ_next {due at_ p h : Nat} (hd : h + 1 < due) : ∃ p', toldW (h + 1) (oneQ due at_ p ((h + 1) % 16)) = [] ∧ p + (leftW (h + 1) (oneQ due at_ p ((h + 1) % 16))).length = p' ∧
    setQ (oneQ due at_ p) ((h + 1) % 16) (leftW (h + 1) (oneQ due at_ p ((h + 1) % 16))) = oneQ due at_ p' ∧ p' + (due - (h + 1) - 1) / 16 = p + (due - h - 1) / 16 := by
  by_cases hs : (h + 1) % 16 = due % 16
  · refine ⟨p + 1, ?_, ?_, ?_, by omega⟩
    · rw [hs, oneQ_at]; unfold toldW; simp; omega
    · rw [hs, oneQ_at]; unfold leftW; simp [hd]
    · rw [hs, oneQ_at]
      unfold leftW oneQ
      simp only [List.filter_cons, hd, decide_true, if_true, List.filter_nil, List.map_cons, List.map_nil]
      rw [setQ_set]
  · refine ⟨p, ?_, ?_, ?_, by omega⟩
    · rw [oneQ_ne hs]; rfl
    · rw [oneQ_ne hs]; rfl
    · rw [oneQ_ne hs]
      funext k
      unfold setQ
      split
      · rename_i hk; rw [hk, oneQ_ne hs]; rfl
      · rfl
theorem oneQ_told {due at_ p h : Nat} (hd : h + 1 = due) : toldW (h + 1) (oneQ due at_ p ((h + 1) % 16)) = [⟨due, at_, p⟩] ∧ leftW (h + 1) (oneQ due at_ p ((h + 1) % 16)) = [] ∧
    setQ (oneQ due at_ p) ((h + 1) % 16) (leftW (h + 1) (oneQ due at_ p ((h + 1) % 16))) = (fun _ => []) := by
  subst hd
  refine ⟨?_, ?_, ?_⟩
  · rw [oneQ_at]; unfold toldW; simp
  · rw [oneQ_at]; unfold leftW; simp
  · rw [oneQ_at]
    unfold leftW oneQ
    simp only [List.filter_cons, Nat.lt_irrefl, decide_false, Bool.false_eq_true, if_false, List.filter_nil, List.map_nil]
    rw [setQ_set]
    funext k
    unfold setQ
    split <;> rfl
theorem oneQ_slot {due at_ p : Nat} (hp : p + 1 < 65536) (s : Nat) : ∀ r ∈ oneQ due at_ p s, r.due % 16 = s ∧ r.puts + 1 < 65536 := by
  intro r hr
  by_cases hs : s = due % 16
  · subst hs
    rw [oneQ_at] at hr
    simp at hr; subst hr
    exact ⟨rfl, hp⟩
  · rw [oneQ_ne hs] at hr; cases hr

section
variable {C : Nat} {w0 w : World} {lb wb b h u due at_ p : Nat} {R : List Row} {O : Nat → Option Obj}
def OneNextPost (C : Nat) (w0 : World) (lb wb b h due at_ p u : Nat) (R : List Row) (O : Nat → Option Obj) (e : Ending) (w' : World) : Prop :=
  ∃ a c p', e = .returned (.tuple #[.slice a 0 c, .bool true, .int .i64 0]) ∧ p' + (due - (h + 1) - 1) / 16 = p + (due - h - 1) / 16 ∧ LogX C w0 lb wb b (h + 1) p' (oneQ due at_ p') (u + 1 + 2 * p) R O w'
theorem One_next {now : Int} (hl : LogX C w0 lb wb b h p (oneQ due at_ p) u R O w) (hd : h + 1 < due) (hn : (h : Int) < now) (h1 : now ≤ 9223372036854775807) (hp : p < 60000) (hC : 96 + 20 * (p + 1) ≤ C) (hu : u + 1 + 2 * p < 1099511627000) :
    Calls Try.prog 74 #[.pointer (some ⟨lb, 0, none⟩), .int .i64 now] w (OneNextPost C w0 lb wb b h due at_ p u R O) := by
  obtain ⟨p', e1, e2, e3, e4⟩ := oneQ_next (at_ := at_) (p := p) hd
  refine (TNext_yes hl hn h1 (by omega) (oneQ_slot (by omega) _) (by rw [e2]; omega) hu).mono ?_
  rintro e w' ⟨a, c, tl, he, htl, hL⟩
  rw [e1] at htl
  obtain rfl : tl = [] := List.map_eq_nil_iff.1 htl
  rw [e2, e3] at hL
  exact ⟨a, c, p', he, e4, hL.tail⟩
def OneToldPost (C : Nat) (w0 : World) (lb wb b h due at_ p u : Nat) (R : List Row) (O : Nat → Option Obj) (e : Ending) (w' : World) : Prop :=
  ∃ a c m, e = .returned (.tuple #[.slice a 1 c, .bool true, .int .i64 0]) ∧ MRec.w m = ⟨due, at_, p⟩ ∧ LogX C w0 lb wb b (h + 1) p (fun _ => []) (u + 1 + 2 * p) (markRow a c [m] :: R) O w'
theorem One_told {now : Int} (hl : LogX C w0 lb wb b h p (oneQ due at_ p) u R O w) (hd : h + 1 = due) (hn : (h : Int) < now) (h1 : now ≤ 9223372036854775807) (hp : p < 60000) (hC : 96 + 20 * (p + 1) ≤ C) (hu : u + 1 + 2 * p < 1099511627000) :
    Calls Try.prog 74 #[.pointer (some ⟨lb, 0, none⟩), .int .i64 now] w (OneToldPost C w0 lb wb b h due at_ p u R O) := by
  obtain ⟨e1, e2, e3⟩ := oneQ_told (at_ := at_) (p := p) hd
  refine (TNext_yes hl hn h1 (by omega) (oneQ_slot (by omega) _) (by rw [e2]; simp only [List.length_nil]; omega) hu).mono ?_
  rintro e w' ⟨a, c, tl, he, htl, hL⟩
  rw [e1] at htl
  rw [e3, e2] at hL
  match tl, htl, he, hL with
  | [m], htl, he, hL => exact ⟨a, c, m, he, by simpa using htl, hL⟩
end

set_option maxRecDepth 100000 in
set_option maxHeartbeats 2000000 in
theorem awake16_any (w : World) : Calls Try.prog 71 #[] w fun e w' => e = .returned (.bool true) ∧ Below w.heap.size w w' := by
  go_enter Try.func71, Try.ntmps71
  go_wp2_with fail
  refine (New_lives (w0 := w) (Below.refl _ _) 10000 (by omega)).mono ?_
  rintro e w1 ⟨b, rfl, h1⟩
  go_wp2_with fail
  refine (TNew_ok 10000 w b w1 0 h1 (by omega) (by omega) (by decide)).mono ?_
  rintro e w2 ⟨lb, wb, rfl, h2⟩
  go_wp2_with fail
  refine (TPut_ok h2 20 7 (by omega) (by omega) (by omega) (by omega) (by omega) (by omega)).mono ?_
  rintro e w3 ⟨rfl, h3⟩
  have h3' : LogX 10000 w lb wb b 0 1 (oneQ 20 7 1) 4 [] (fun _ => none) w3 := h3
  clear h3 h2 h1
  go_wp2_with fail
  go_loopw [3] (fun vi wr => ∃ (h p u : Nat) (Q : Nat → List WRec), h ≤ 20 ∧ vi = .int .i64 ((h : Int) + 1) ∧ u ≤ 4 + 10 * h ∧ p ≤ 3 ∧ Hid (h < 20 → Q = oneQ 20 7 p ∧ p + (20 - h - 1) / 16 = 2) ∧ LogX 10000 w lb wb b h p Q u [] (fun _ => none) wr) (fun vi _ => 21 - (intOf vi).toNat)
  case atStart => exact ⟨0, 1, 4, _, by omega, by go_num, by omega, by omega, fun _ => ⟨rfl, by omega⟩, h3'⟩
  case round =>
    obtain ⟨h, p, u, Q, hh, rfl, hu, hp, hQ, hL⟩ := hrel
    by_cases h20 : h < 20
    · obtain ⟨rfl, hpe⟩ := hQ.out h20
      by_cases h19 : h + 1 < 20
      · have cN := One_next hL h19 (now := 20) (by omega) (by omega) (by omega) (by omega) (by omega)
        have hdiv : ((h : Int) + 1) / 20 = 0 := by omega
        have hpeH := Lib.hid hpe
        clear hL hQ hpe
        go_wp2_with fail
        refine cN.mono ?_
        rintro e w4 ⟨a, c, p', rfl, hp', hL4⟩
        have hpq := hpeH.out
        have hfin := Lib.hid (show p' ≤ 3 ∧ p' + (20 - (h + 1) - 1) / 16 = 2 by omega)
        have hL5 := hL4.more (4 + 10 * (h + 1)) (by omega)
        clear cN hp' hL4 hpq
        go_wp2_with fail
        go_roundw
        case rel => exact ⟨h + 1, p', _, _, by omega, by go_num, by omega, hfin.out.1, fun _ => ⟨rfl, hfin.out.2⟩, hL5⟩
        case measure => simp [intOf]; omega
      · obtain rfl : h = 19 := by omega
        have cN := One_told hL (by omega) (now := 20) (by omega) (by omega) (by omega) (by omega) (by omega)
        clear hL hQ hpe
        go_wp2_with fail
        refine cN.mono ?_
        rintro e w4 ⟨a, c, m, rfl, hm, hL4⟩
        have hL5 := (hL4.tail).more 204 (by omega)
        clear cN hL4 hm
        go_wp2_with fail
        go_roundw
        case rel => exact ⟨20, p, _, _, by omega, by go_num, by omega, hp, fun h => absurd h (by omega), hL5⟩
        case measure => simp [intOf]
    · obtain rfl : h = 20 := by omega
      have cH := THand_any hL
      clear hQ
      go_wp2_with fail
      refine cH.mono ?_
      rintro e w4 ⟨rfl, rfl⟩
      go_wp2_with fail
      go_ret
      exact ⟨rfl, hL.grew⟩
end Go.Proofs.Ytndpmjanflahhaa
