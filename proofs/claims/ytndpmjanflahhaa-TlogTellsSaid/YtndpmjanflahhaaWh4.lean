/-
  THE STATEMENTS OF LAYER 15: a wheel that isn't there; WheelTurns.
-/
import Derived.Test.YtndpmjanflahhaaWh3
import Derived.Test.YtndpmjanflahhaaMI
namespace Go.Proofs.Ytndpmjanflahhaa
open Go.RowKit Go.MapKept

theorem WBars_nil (s : Int) (w : World) : Calls Try.prog 101 #[.pointer none, .int .i64 s] w fun e w' => e = .returned (.int .i64 1) ∧ w = w' := by
  go_enter Try.func101, Try.ntmps101
  go_wp2
  go_ret
  exact ⟨rfl, rfl⟩
theorem WHead_nil (s : Int) (w : World) : Calls Try.prog 62 #[.pointer none, .int .i64 s] w fun e w' => e = .returned (.tuple #[.int .i64 0, .int .i64 1]) ∧ w = w' := by
  go_enter Try.func62, Try.ntmps62
  go_wp2_with fail
  refine (WBars_nil s w).mono ?_
  rintro e w' ⟨rfl, rfl⟩
  go_wp2_with fail
  go_ret2
  exact ⟨rfl, rfl⟩
set_option maxRecDepth 100000 in
theorem WHeads_nil (w : World) : Calls Try.prog 61 #[.pointer none] w fun e w' => e = .returned (.tuple #[.slice none 0 0, .int .i64 1]) ∧ w = w' := by
  go_enter Try.func61, Try.ntmps61
  go_wp2_with fail
  refine wp_loop_rounds 1 ?_
  rw [rounds_succ]
  go_wp2_with fail
  refine (WHead_nil 0 w).mono ?_
  rintro e w' ⟨rfl, rfl⟩
  go_wp2_with fail
  go_ret2
  exact ⟨rfl, rfl⟩
theorem WTurn_nil (s : Int) (w : World) : Calls Try.prog 50 #[.pointer none, .int .i64 s] w fun e w' => e = .returned (.tuple #[.int .i64 0, .bool false]) ∧ w = w' := by
  go_enter Try.func50, Try.ntmps50
  go_wp2
  go_ret2
  exact ⟨rfl, rfl⟩
theorem WNew_nil (s : Int) (w : World) : Calls Try.prog 49 #[.pointer none, .int .i64 s] w fun e w' => e = .returned (.tuple #[.pointer none, .int .i64 1]) ∧ w = w' := by
  go_enter Try.func49, Try.ntmps49
  go_wp2
  go_ret2
  exact ⟨rfl, rfl⟩
theorem WSet_nil (s n : Int) (w : World) : Calls Try.prog 59 #[.pointer none, .int .i64 s, .int .i64 n] w fun e w' => e = .returned (.int .i64 1) ∧ w = w' := by
  go_enter Try.func59, Try.ntmps59
  go_wp2_with fail
  refine (WBars_nil s w).mono ?_
  rintro e w' ⟨rfl, rfl⟩
  go_wp2_with fail
  go_ret
  exact ⟨rfl, rfl⟩
theorem WHand_nil (w : World) : Calls Try.prog 52 #[.pointer none] w fun e w' => e = .returned (.int .i64 0) ∧ w = w' := by
  go_enter Try.func52, Try.ntmps52
  go_wp2
  go_ret
  exact ⟨rfl, rfl⟩
theorem WAhead_nil (s : Int) (w : World) : Calls Try.prog 51 #[.pointer none, .int .i64 s] w fun e w' => e = .returned (.int .i64 0) ∧ w = w' := by
  go_enter Try.func51, Try.ntmps51
  go_wp2
  go_ret
  exact ⟨rfl, rfl⟩

set_option maxRecDepth 100000 in
set_option maxHeartbeats 4000000 in
theorem wheelTurns_any (h : Int) (a : Option Addr) (cap : Nat) (xs : List Int) (w : World) (hh : -9223372036854775808 ≤ h ∧ h ≤ 9223372036854775807) (hl : xs.length ≤ 9223372036854775807) (hr : IntSl w a xs) (hx : ∀ x ∈ xs, -9223372036854775808 ≤ x ∧ x ≤ 9223372036854775807) :
    Calls Try.prog 13 #[.int .i64 h, .slice a xs.length cap] w (LastsPost w) := by
  have hr' := Lib.hid hr
  have hx' := Lib.hid hx
  obtain ⟨hh1, hh2⟩ := hh
  obtain ⟨n, hn⟩ : ∃ n, xs.length = n := ⟨_, rfl⟩
  rw [hn] at hl ⊢
  have hn' := Lib.hid hn
  clear hn hr hx
  go_enter Try.func13, Try.ntmps13
  go_wp2_with fail
  refine (awake15_any w).mono ?_
  rintro e w1 ⟨rfl, hB1⟩
  by_cases hbig : 200 < n
  · go_wp2_with fail
    go_ret
    exact ⟨rfl, hB1⟩
  go_wp2_with fail
  refine (New_lives (w0 := w) hB1 1000 (by omega)).mono ?_
  rintro e w2 ⟨b, rfl, h2⟩
  by_cases hbad : h < 0 ∨ 1099511627776 < h
  · have cN := WNew_bad b h w2 ⟨hh1, hh2⟩ hbad
    rcases hbad with hb0 | hb0
    · go_wp2_with fail
      refine cN.mono ?_
      rintro e w3 ⟨rfl, rfl⟩
      go_wp2_with fail
      go_ret
      exact ⟨rfl, h2.grew⟩
    · go_wp2_with fail
      refine cN.mono ?_
      rintro e w3 ⟨rfl, rfl⟩
      go_wp2_with fail
      go_ret
      exact ⟨rfl, h2.grew⟩
  have hb0 : 0 ≤ h := by omega
  have hb1 : h ≤ 1099511627776 := by omega
  have hb2 : ¬ h < 0 := by omega
  clear hbad
  go_wp2_with fail
  refine (WNew_ok w b _ h w2 h2 (calm_new _) hb0 hb1 (by decide) (by decide) (by show 0 < 1099511627776; omega)).mono ?_
  rintro e w3 ⟨wb, D, rfl, h3, -⟩
  go_wp2_with fail
  go_loopw [7, 49] (fun va vi wr => ∃ (k : Nat) (q : Int), k ≤ n ∧ vi = .int .i64 k ∧ va = .int .i64 q ∧ 0 ≤ q ∧ q ≤ 1099511627776 + k ∧ WLives w wb b D q wr) (fun _ vi _ => n - (intOf vi).toNat)
  case atStart => exact ⟨0, h, by omega, rfl, rfl, hb0, by omega, h3⟩
  case round =>
    obtain ⟨k, q, hk, rfl, rfl, hq0, hq1, hL⟩ := hrel
    by_cases hkn : k < n
    · have hkl : k < xs.length := by rw [hn'.out]; exact hkn
      obtain ⟨x, hxk⟩ : ∃ x, xs[k]? = some x := ⟨xs[k], by simp [hkl]⟩
      obtain ⟨g, off, rfl, hc⟩ := hr'.out k x hxk
      obtain ⟨hx1, hx2⟩ := hx'.out x (List.mem_of_getElem? hxk)
      have c0 : wr.cell? ⟨g, off + k, none⟩ = some (.int .i64 x) := (hL.grew.cell (p := ⟨g, off + k, none⟩) (World.block_lt_of_cell? _ _ hc)).trans hc
      clear hxk hc hkl
      by_cases r1 : x < -1125899906842624
      · go_wp2_with fail
        go_ret
        exact ⟨rfl, hL.grew⟩
      by_cases r2 : 1125899906842624 < x
      · go_wp2_with fail
        go_ret
        exact ⟨rfl, hL.grew⟩
      have cA := hL.ahead (now := x) hq0 (by omega) ⟨hx1, hx2⟩
      by_cases hqx : q < x
      · have cT := hL.turn_yes (now := x) hqx hq0 (by omega)
        go_wp2_with fail
        refine cA.mono ?_
        rintro e w4 ⟨rfl, rfl⟩
        go_wp2_with fail
        refine cT.mono ?_
        rintro e w4 ⟨rfl, h4⟩
        clear cA cT
        go_wp2_with fail
        refine h4.hand.mono ?_
        rintro e w5 ⟨rfl, rfl⟩
        go_wp2_with fail
        go_roundw
        case rel => exact ⟨k + 1, q + 1, by omega, by go_num, rfl, by omega, by omega, h4⟩
        case measure => simp [intOf]; omega
      · have cT := hL.turn_no (now := x) (by omega)
        go_wp2_with fail
        refine cA.mono ?_
        rintro e w4 ⟨rfl, rfl⟩
        go_wp2_with fail
        refine cT.mono ?_
        rintro e w4 ⟨rfl, rfl⟩
        clear cA cT
        go_wp2_with fail
        refine hL.hand.mono ?_
        rintro e w5 ⟨rfl, rfl⟩
        go_wp2_with fail
        go_roundw
        case rel => exact ⟨k + 1, q, by omega, by go_num, rfl, by omega, by omega, hL⟩
        case measure => simp [intOf]; omega
    · go_wp2_with fail
      refine (WHead_nil 0 _).mono ?_
      rintro e w4 ⟨rfl, rfl⟩
      go_wp2_with fail
      refine (WHeads_nil _).mono ?_
      rintro e w4 ⟨rfl, rfl⟩
      go_wp2_with fail
      refine (WTurn_nil 9 _).mono ?_
      rintro e w4 ⟨rfl, rfl⟩
      go_wp2_with fail
      refine (WNew_nil 0 _).mono ?_
      rintro e w4 ⟨rfl, rfl⟩
      go_wp2_with fail
      refine (WSet_nil 0 0 _).mono ?_
      rintro e w4 ⟨rfl, rfl⟩
      go_wp2_with fail
      refine (WHand_nil _).mono ?_
      rintro e w4 ⟨rfl, rfl⟩
      go_wp2_with fail
      refine (WAhead_nil 5 _).mono ?_
      rintro e w4 ⟨rfl, rfl⟩
      go_wp2_with fail
      go_ret
      exact ⟨rfl, hL.grew⟩
end Go.Proofs.Ytndpmjanflahhaa
