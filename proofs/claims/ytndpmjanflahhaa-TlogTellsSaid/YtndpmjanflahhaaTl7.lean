/-
  (*tlog.Log).Next, Waits.
-/
import Derived.Test.YtndpmjanflahhaaTl6
namespace Go.Proofs.Ytndpmjanflahhaa
open Go.RowKit Go.MapKept

section
variable {C : Nat} {w0 w : World} {lb wb b h n u : Nat} {Q : Nat → List WRec} {R : List Row} {O : Nat → Option Obj}
theorem LogX.turn {now : Int} (hl : LogX C w0 lb wb b h n Q u R O w) (hn : (h : Int) < now) (h1 : now ≤ 9223372036854775807) :
    Calls Try.prog 50 #[.pointer (some ⟨wb, 0, none⟩), .int .i64 now] w fun e w' => e = .returned (.tuple #[.int .i64 ((h : Int) + 1), .bool true]) ∧ LogX C w0 lb wb b (h + 1) n Q u R O w' := by
  obtain ⟨D, ms, v, hms, hD, hR⟩ := hl
  refine (LX.turn_yes hR.ox hn (by omega) h1).mono ?_
  rintro e w' ⟨he, hX⟩
  exact ⟨he, D, ms, v, hms, hD, by
    rw [show ((h + 1 : Nat) : Int) = (h : Int) + 1 by omega]; exact hR.back hX⟩
set_option maxRecDepth 100000 in
theorem TNext_no {now : Int} (hl : LogX C w0 lb wb b h n Q u R O w) (hn : now ≤ h) :
    Calls Try.prog 74 #[.pointer (some ⟨lb, 0, none⟩), .int .i64 now] w fun e w' => e = .returned (.tuple #[.slice none 0 0, .bool false, .int .i64 0]) ∧ w = w' := by
  have cp := hl.ptr
  obtain ⟨D, ms, v, hms, hD, hR⟩ := hl
  have cT := (LX.wheel hR.ox).turn_no (now := now) (by omega)
  clear hR hD hms
  go_enter Try.func74, Try.ntmps74
  go_wp2_with fail
  refine cT.mono ?_
  rintro e w' ⟨rfl, rfl⟩
  go_wp2_with fail
  exact bodyPost_ret (v := .tuple #[.slice none 0 0, .bool false, .int .i64 0]) (by simp [results, Try.results74, go_sem]) rfl ⟨rfl, rfl⟩
def TNextPost (C : Nat) (w0 : World) (lb wb b h n : Nat) (Q : Nat → List WRec) (u : Nat) (R : List Row) (O : Nat → Option Obj) (s : Nat) (e : Ending) (w' : World) : Prop :=
  ∃ a c tl, e = .returned (.tuple #[.slice a tl.length c, .bool true, .int .i64 0]) ∧ tl.map MRec.w = toldW (h + 1) (Q s) ∧ LogX C w0 lb wb b (h + 1) (n + (leftW (h + 1) (Q s)).length) (setQ Q s (leftW (h + 1) (Q s))) (u + 1 + 2 * n) (markRow a c tl :: R) O w'
set_option maxRecDepth 100000 in
theorem TNext_yes {now : Int} (hl : LogX C w0 lb wb b h n Q u R O w) (hn : (h : Int) < now) (h1 : now ≤ 9223372036854775807) (hnn : n < 50000000)
    (hslot : ∀ r ∈ Q ((h + 1) % 16), r.due % 16 = (h + 1) % 16 ∧ r.puts + 1 < 65536) (hC : 96 + 20 * (n + (leftW (h + 1) (Q ((h + 1) % 16))).length) ≤ C) (hu : u + 1 + 2 * n < 1099511627000) :
    Calls Try.prog 74 #[.pointer (some ⟨lb, 0, none⟩), .int .i64 now] w (TNextPost C w0 lb wb b h n Q u R O ((h + 1) % 16)) := by
  have cp := hl.ptr
  have cT := hl.turn hn h1
  have hslotH := Lib.hid hslot
  have hCH := Lib.hid hC
  obtain ⟨s, hse⟩ : ∃ s, (h + 1) % 16 = s := ⟨_, rfl⟩
  have hseH := Lib.hid hse
  rw [hse]
  clear hl hslot hC hse
  go_enter Try.func74, Try.ntmps74
  go_wp2_with fail
  refine cT.mono ?_
  rintro e w1 ⟨rfl, hL1⟩
  have cK := TTake_any hL1 (h + 1) (by omega) hnn hslotH.out hCH.out hu
  rw [hseH.out, show ((h + 1 : Nat) : Int) = (h : Int) + 1 by omega] at cK
  clear cT cp hL1
  go_wp2_with fail
  refine cK.mono ?_
  rintro e w2 ⟨a, c, tl, rfl, htl, hL2⟩
  have htlH := Lib.hid htl
  obtain ⟨tn, htn⟩ : ∃ tn, tl.length = tn := ⟨_, rfl⟩
  have htnH := Lib.hid htn
  rw [htn]
  clear cK htl htn
  go_wp2_with fail
  refine bodyPost_ret (v := .tuple #[.slice a tn c, .bool true, .int .i64 0]) (by simp [results, Try.results74, go_sem]) rfl ⟨a, c, tl, by rw [htnH.out], htlH.out, hL2⟩
set_option maxRecDepth 100000 in
theorem TWaits_any (hl : LogX C w0 lb wb b h n Q u R O w) (hn : n < 1000000) :
    Calls Try.prog 76 #[.pointer (some ⟨lb, 0, none⟩)] w fun e w' => e = .returned (.tuple #[.int .i64 (tot List.length Q 16 : Nat), .int .i64 0]) ∧ LogX C w0 lb wb b h n Q u R O w' := by
  go_enter Try.func76, Try.ntmps76
  go_wp2_with fail
  go_loopw [4, 8] (fun vn vi wr => ∃ k : Nat, k ≤ 16 ∧ vi = .int .i64 k ∧ vn = .int .i64 (tot List.length Q k : Nat) ∧ tot List.length Q k ≤ k * n ∧ LogX C w0 lb wb b h n Q u R O wr) (fun _ vi _ => 16 - (intOf vi).toNat)
  case atStart => exact ⟨0, by omega, rfl, rfl, by simp [tot], hl⟩
  case round =>
    obtain ⟨k, hk, rfl, rfl, hkn, hL⟩ := hrel
    by_cases hk16 : k < 16
    · have cC := TChain_any hL k hk16 (by omega)
      have htot : tot List.length Q (k + 1) = tot List.length Q k + (Q k).length := rfl
      have htotH := Lib.hid htot
      have hknb : k * n ≤ 16 * n := Nat.mul_le_mul_right _ hk
      have hk1 : (k + 1) * n = k * n + n := by rw [Nat.add_mul, Nat.one_mul]
      have hk1H := Lib.hid hk1
      have hknH := Lib.hid hkn
      generalize htk : tot List.length Q k = tk at *
      have htks : tk ≤ 16000000 := by omega
      clear htot hk1 hkn hknb htk hL
      go_wp2_with fail
      refine cC.mono ?_
      rintro e w1 ⟨a, c, tl, rfl, htl, hsm, htn, hL1⟩
      have hql : Hid ((Q k).length = tl.length) := by show _ = _; rw [← htl, List.length_map]
      have hL2 := hL1.tail
      obtain ⟨tn, htne⟩ : ∃ tn, tl.length = tn := ⟨_, rfl⟩
      have htneH := Lib.hid htne
      rw [htne] at htn ⊢
      clear cC htl hsm hL1 htne
      go_wp2_with fail
      go_roundw
      case rel => exact ⟨k + 1, by omega, by go_num, by rw [htotH.out, hql.out, htneH.out]; go_num, by rw [htotH.out, hql.out, htneH.out, hk1H.out]; have := hknH.out; omega, hL2⟩
      case measure => simp [intOf]; omega
    · obtain rfl : k = 16 := by omega
      go_wp2_with fail
      go_ret2
      exact ⟨rfl, hL⟩
end
end Go.Proofs.Ytndpmjanflahhaa
