/-
  THE STATEMENTS OF LAYER 16: TlogFar, the walk.
-/
import Derived.Test.YtndpmjanflahhaaTl8
namespace Go.Proofs.Ytndpmjanflahhaa
open Go.RowKit Go.MapKept

set_option maxRecDepth 100000 in
set_option maxHeartbeats 2000000 in
theorem tlogFar_any (h0 far : Nat) (w : World) (hh : h0 < 256) (hf : far < 65536) : Calls Try.prog 17 #[.int .u8 h0, .int .u16 far] w (LastsPost w) := by
  obtain ⟨due, hdue⟩ : ∃ due, h0 + 1 + far % 400 = due := ⟨_, rfl⟩
  have hd1 : h0 < due := by omega
  have hd2 : due ≤ h0 + 400 := by omega
  have hde : (h0 : Int) + 1 + (far : Int) % 400 = (due : Int) := by omega
  have hdeH := Lib.hid hde
  clear hde hdue
  go_enter Try.func17, Try.ntmps17
  go_wp2_with fail
  refine (awake16_any w).mono ?_
  rintro e w1 ⟨rfl, hB1⟩
  have hde := hdeH.out
  go_wp2_with fail
  refine (New_lives (w0 := w) hB1 1048576 (by omega)).mono ?_
  rintro e w2 ⟨b, rfl, h2⟩
  clear hde
  go_wp2_with fail
  refine (TNew_ok 1048576 w b w2 h0 h2 (by omega) (by omega) (by decide)).mono ?_
  rintro e w3 ⟨lb, wb, rfl, h3⟩
  have cP := TPut_ok h3 due 5 (by omega) (by omega) hd1 (by omega) (by omega) (by omega)
  clear h2 hB1
  go_wp2_with fail
  refine cP.mono ?_
  rintro e w4 ⟨rfl, h4⟩
  have h4' : LogX 1048576 w lb wb b h0 1 (oneQ due 5 1) 4 [] (fun _ => none) w4 := h4
  clear cP h3 h4
  go_wp2_with fail
  go_loopw [8] (fun vi wr => ∃ (h p u : Nat) (Q : Nat → List WRec), h0 ≤ h ∧ h ≤ due ∧ vi = .int .i64 ((h : Int) + 1) ∧ u ≤ 4 + 1000 * (h - h0) ∧ p ≤ 100 ∧ Hid (h < due → Q = oneQ due 5 p ∧ p + (due - h - 1) / 16 = 1 + (due - h0 - 1) / 16) ∧ LogX 1048576 w lb wb b h p Q u [] (fun _ => none) wr) (fun vi _ => due + 1 - (intOf vi).toNat)
  case atStart => exact ⟨h0, 1, 4, _, by omega, by omega, by go_num, by omega, by omega, fun _ => ⟨rfl, by omega⟩, h4'⟩
  case round =>
    obtain ⟨h, p, u, Q, hh1, hh2, rfl, hu, hp, hQ, hL⟩ := hrel
    by_cases hlt : h < due
    · obtain ⟨rfl, hpe⟩ := hQ.out hlt
      by_cases hl1 : h + 1 < due
      · have cN := One_next hL hl1 (now := due) (by omega) (by omega) (by omega) (by omega) (by omega)
        have hpeH := Lib.hid hpe
        have hne : (((h : Int) + 1) == (due : Int)) = false := beq_eq_false_iff_ne.2 (by omega)
        clear hL hQ hpe
        go_wp2_with fail
        refine cN.mono ?_
        rintro e w5 ⟨a, c, p', rfl, hp', hL4⟩
        have hpq := hpeH.out
        have hfin := Lib.hid (show p' ≤ 100 ∧ p' + (due - (h + 1) - 1) / 16 = 1 + (due - h0 - 1) / 16 by omega)
        have hL5 := hL4.more (4 + 1000 * (h + 1 - h0)) (by omega)
        clear cN hp' hL4 hpq
        go_wp2_with fail
        go_loopw [12, 13] (fun vp vk w' => ∃ (i q : Nat) (k : Int), vk = .int .i64 k ∧ vp = .int .i64 q ∧ k + 16 * (i + 1) = due ∧ Hid (q = i - (due - (h + 1) - 1) / 16) ∧ 16 * i ≤ due - h0 - 1 ∧ LogX 1048576 w lb wb b (h + 1) p' (oneQ due 5 p') (4 + 1000 * (h + 1 - h0)) [] (fun _ => none) w') (fun _ vk _ => (intOf vk).toNat)
        case atStart => exact ⟨0, 0, _, rfl, by go_num, by omega, by show _ = _; omega, by omega, hL5⟩
        case round =>
          obtain ⟨i, q, k, rfl, rfl, hk, hq, hi, hV⟩ := hrel
          have hqq := hq.out
          have hql : q ≤ 30 := by omega
          clear hqq
          by_cases hk0 : (h0 : Int) < k
          · by_cases hkn : k ≤ (h : Int) + 1
            · go_wp2_with fail
              go_roundw
              case rel => exact ⟨i + 1, q + 1, _, rfl, by go_num, by omega, by show _ = _; have := hq.out; omega, by omega, hV⟩
              case measure => simp [intOf]; omega
            · go_wp2_with fail
              go_roundw
              case rel => exact ⟨i + 1, q, _, rfl, rfl, by omega, by show _ = _; have := hq.out; omega, by omega, hV⟩
              case measure => simp [intOf]; omega
          · have hpq : p' = 1 + q := by have := hq.out; have := hfin.out; omega
            have cL := TLen_any hV
            subst hpq
            clear hq
            go_wp2_with fail
            refine cL.mono ?_
            rintro e w6 ⟨rfl, rfl⟩
            clear cL
            go_wp2_with fail
            go_roundw
            case rel => exact ⟨h + 1, 1 + q, _, _, by omega, by omega, by go_num, by omega, hfin.out.1, fun _ => ⟨rfl, hfin.out.2⟩, hV⟩
            case measure => simp [intOf]; omega
      · have hd0 : h + 1 = due := by omega
        have cN := One_told hL hd0 (now := due) (by omega) (by omega) (by omega) (by omega) (by omega)
        have hpeH := Lib.hid hpe
        have hne : (((h : Int) + 1) == (due : Int)) = true := beq_iff_eq.2 (by omega)
        clear hL hQ hpe
        go_wp2_with fail
        refine cN.mono ?_
        rintro e w5 ⟨a, c, m, rfl, hm, hL4⟩
        have hL5 := hL4.more (4 + 1000 * (h + 1 - h0)) (by omega)
        have hm1 : m.due = due := congrArg WRec.due hm
        have hm2 : m.at_ = 5 := congrArg WRec.at_ hm
        have hm3 : m.puts = p := congrArg WRec.puts hm
        clear cN hL4 hm
        go_wp2_with fail
        go_loopw [12, 13] (fun vp vk w' => ∃ (i q : Nat) (k : Int), vk = .int .i64 k ∧ vp = .int .i64 q ∧ k + 16 * (i + 1) = due ∧ Hid (q = i - (due - (h + 1) - 1) / 16) ∧ 16 * i ≤ due - h0 - 1 ∧ LogX 1048576 w lb wb b (h + 1) p (fun _ => []) (4 + 1000 * (h + 1 - h0)) [markRow a c [m]] (fun _ => none) w') (fun _ vk _ => (intOf vk).toNat)
        case atStart => exact ⟨0, 0, _, rfl, by go_num, by omega, by show _ = _; omega, by omega, hL5⟩
        case round =>
          obtain ⟨i, q, k, rfl, rfl, hk, hq, hi, hV⟩ := hrel
          have hqq := hq.out
          have hql : q ≤ 30 := by omega
          clear hqq
          by_cases hk0 : (h0 : Int) < k
          · by_cases hkn : k ≤ (h : Int) + 1
            · go_wp2_with fail
              go_roundw
              case rel => exact ⟨i + 1, q + 1, _, rfl, by go_num, by omega, by show _ = _; have := hq.out; omega, by omega, hV⟩
              case measure => simp [intOf]; omega
            · go_wp2_with fail
              go_roundw
              case rel => exact ⟨i + 1, q, _, rfl, rfl, by omega, by show _ = _; have := hq.out; omega, by omega, hV⟩
              case measure => simp [intOf]; omega
          · have hpq : p = 1 + q := by have := hq.out; have := hpeH.out; omega
            have cL := TLen_any hV
            obtain ⟨g, off, rfl, c0, c1, c2, c3⟩ := markSl_of_row (hV.row List.mem_cons_self) 0 m rfl
            simp only [Nat.zero_mul, Nat.add_zero, hm1, hm2, hm3] at c0 c1 c3
            subst hpq
            clear hq c2
            go_wp2_with fail
            refine cL.mono ?_
            rintro e w6 ⟨rfl, rfl⟩
            clear cL
            go_wp2_with fail
            go_roundw
            case rel => exact ⟨h + 1, 1 + q, _, _, by omega, by omega, by go_num, by omega, hp, fun hx => absurd hx (by omega), hV.tail⟩
            case measure => simp [intOf]; omega
    · obtain rfl : h = due := by omega
      clear hQ
      go_wp2_with fail
      go_ret
      exact ⟨rfl, hL.grew⟩
end Go.Proofs.Ytndpmjanflahhaa
