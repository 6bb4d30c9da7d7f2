/-
  THE STATEMENTS OF LAYER 15: the document's example; WheelLaps.
-/
import Derived.Test.YtndpmjanflahhaaMJ
import Derived.Test.YtndpmjanflahhaaDk35
namespace Go.Proofs.Ytndpmjanflahhaa
open Go.RowKit Go.MapKept

set_option maxRecDepth 100000 in
set_option maxHeartbeats 2000000 in
theorem awake15_any (w : World) : Calls Try.prog 48 #[] w fun e w' => e = .returned (.bool true) ∧ Below w.heap.size w w' := by
  go_enter Try.func48, Try.ntmps48
  go_wp2_with fail
  refine (New_lives (w0 := w) (Below.refl _ _) 1000 (by omega)).mono ?_
  rintro e w1 ⟨b, rfl, h1⟩
  go_wp2_with fail
  refine (WNew_ok w b _ 5 w1 h1 (calm_new _) (by omega) (by omega) (by decide) (by decide) (by show 0 < 1099511627776; omega)).mono ?_
  rintro e w2 ⟨wb, D, rfl, h2, -⟩
  go_wp2_with fail
  refine (h2.turn_yes (now := 7) (by omega) (by omega) (by omega)).mono ?_
  rintro e w3 ⟨rfl, h3⟩
  go_wp2_with fail
  refine (h3.turn_yes (now := 7) (by omega) (by omega) (by omega)).mono ?_
  rintro e w4 ⟨rfl, h4⟩
  go_wp2_with fail
  refine (h4.turn_no (now := 7) (by omega)).mono ?_
  rintro e w5 ⟨rfl, rfl⟩
  go_wp2_with fail
  refine h4.hand.mono ?_
  rintro e w6 ⟨rfl, rfl⟩
  go_wp2_with fail
  go_ret
  exact ⟨rfl, h4.grew⟩

/-- A slice of bytes: from an address on lie these. -/
def U8Sl (w : World) (a : Option Addr) (xs : List UInt8) : Prop :=
  ∀ i x, xs[i]? = some x → ∃ b off, a = some ⟨b, off, none⟩ ∧ w.cell? ⟨b, off + i, none⟩ = some (.int .u8 x.toNat)

set_option maxRecDepth 100000 in
set_option maxHeartbeats 4000000 in
theorem wheelLaps_any (h : Nat) (a : Option Addr) (cap : Nat) (xs : List UInt8) (w : World) (hh : h < 65536) (hl : xs.length ≤ 9223372036854775807) (hr : U8Sl w a xs) :
    Calls Try.prog 8 #[.int .u16 h, .slice a xs.length cap] w (LastsPost w) := by
  have hr' := Lib.hid hr
  obtain ⟨n, hn⟩ : ∃ n, xs.length = n := ⟨_, rfl⟩
  rw [hn] at hl ⊢
  have hn' := Lib.hid hn
  clear hn hr
  go_enter Try.func8, Try.ntmps8
  go_wp2_with fail
  refine (awake15_any w).mono ?_
  rintro e w1 ⟨rfl, hB1⟩
  by_cases hbig : 60 < n
  · go_wp2_with fail
    go_ret
    exact ⟨rfl, hB1⟩
  go_wp2_with fail
  refine (New_lives (w0 := w) hB1 1000 (by omega)).mono ?_
  rintro e w2 ⟨b, rfl, h2⟩
  go_wp2_with fail
  refine (WNew_ok w b _ _ w2 h2 (calm_new _) (by omega) (by omega) (by decide) (by decide) (by show 0 < 1099511627776; omega)).mono ?_
  rintro e w3 ⟨wb, D, rfl, h3, -⟩
  go_wp2_with fail
  go_loopw [7, 8, 34] (fun vn vx vi wr => ∃ k q : Nat, k ≤ n ∧ vi = .int .i64 k ∧ vn = .int .i64 (q : Int) ∧ vx = .int .i64 ((q : Int) + 1) ∧ q ≤ 65535 + 200 * k ∧ WLives w wb b D q wr) (fun _ _ vi _ => n - (intOf vi).toNat)
  case atStart => exact ⟨0, h, by omega, rfl, rfl, rfl, by omega, h3⟩
  case round =>
    obtain ⟨k, q, hk, rfl, rfl, rfl, hq, hL⟩ := hrel
    by_cases hkn : k < n
    · have hkl : k < xs.length := by rw [hn'.out]; exact hkn
      obtain ⟨x, hx⟩ : ∃ x, xs[k]? = some x := ⟨xs[k], by simp [hkl]⟩
      obtain ⟨g, off, rfl, hc⟩ := hr'.out k x hx
      have c0 : wr.cell? ⟨g, off + k, none⟩ = some (.int .u8 x.toNat) := (hL.grew.cell (p := ⟨g, off + k, none⟩) (World.block_lt_of_cell? _ _ hc)).trans hc
      have hx8 := UInt8.toNat_lt x
      generalize x.toNat = y at *
      clear hx hc hkl
      go_wp2_with fail
      obtain ⟨T, hT⟩ : ∃ T : Nat, T = q + y % 200 := ⟨_, rfl⟩
      have hTe : (q : Int) + (y : Int) % 200 = (T : Int) := by omega
      rw [hTe]
      have hT1 : T ≤ 65535 + 200 * (k + 1) := by omega
      have hT2 : q ≤ T := by omega
      clear hTe hT
      go_loopw [8] (fun vx wr => ∃ p : Nat, p ≤ T ∧ vx = .int .i64 ((p : Int) + 1) ∧ WLives w wb b D p wr) (fun vx _ => T + 1 - (intOf vx).toNat)
      case atStart => exact ⟨q, hT2, rfl, hL⟩
      case round =>
        obtain ⟨p, hp, rfl, hL2⟩ := hrel
        by_cases hpT : p < T
        · go_wp2_with fail
          refine (hL2.turn_yes (now := (T : Int)) (by omega) (by omega) (by omega)).mono ?_
          rintro e w4 ⟨rfl, hL4⟩
          go_wp2_with fail
          go_roundw
          case rel => exact ⟨p + 1, by omega, by go_num, by push_cast; exact hL4⟩
          case measure => simp [intOf]; omega
        · obtain rfl : p = T := by omega
          go_wp2_with fail
          refine (hL2.turn_no (now := (p : Int)) (by omega)).mono ?_
          rintro e w4 ⟨rfl, rfl⟩
          have cA := hL2.ahead (now := (p : Int)) (by omega) (by omega) (by omega)
          rw [show max ((p : Int) - p) 0 = 0 by omega] at cA
          have cH := hL2.hand
          go_wp2_with fail
          refine cA.mono ?_
          rintro e w5 ⟨rfl, rfl⟩
          go_wp2_with fail
          refine cH.mono ?_
          rintro e w6 ⟨rfl, rfl⟩
          go_wp2_with fail
          go_roundw
          case rel => exact ⟨k + 1, p, by omega, by go_num, rfl, rfl, hT1, hL2⟩
          case measure => simp [intOf]; omega
    · go_wp2_with fail
      go_ret
      exact ⟨rfl, hL.grew⟩
end Go.Proofs.Ytndpmjanflahhaa
