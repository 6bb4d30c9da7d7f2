/-
  disk.Delete.
-/
import Derived.Test.YtndpmjanflahhaaDk23
namespace Go.Proofs.Ytndpmjanflahhaa
open Go.RowKit Go.MapKept

def DiskA.dropOf (D : DiskA) (s : ByteArray) : DiskA := match findF D.files s with | some f => D.drop1 f | none => D
def DiskA.drops (D : DiskA) (ss : List ByteArray) : DiskA := ss.foldl DiskA.dropOf D
theorem drops_snoc (D : DiskA) (ss : List ByteArray) (s : ByteArray) : D.drops (ss ++ [s]) = (D.drops ss).dropOf s := by unfold DiskA.drops; rw [List.foldl_append]; rfl
def DiskA.delete (D : DiskA) (ss : List ByteArray) : Int × DiskA :=
  if D.bars ss ≠ 0 then (D.bars ss, D) else if D.burn.1 then (0, D.burn.2.drops ss) else (8, D.burn.2)

theorem drop_new (b : Nat) (D : DiskA) (F : Nat → Prop) (w : World) (h : IsDisk w b D F) (n : ByteArray) (f : FileA) (hf : findF D.files n = some f) :
    Calls Try.prog 120 #[ptr b, .slice (some ⟨w.heap.size, 0, none⟩) 1 1] (w.alloc (.cells #[.string n] 9)) fun e w' => e = .returned (.tuple #[]) ∧ IsDisk w' b (D.drop1 f) F ∧ Step F w F w' := by
  have hB : Below w.heap.size w (w.alloc (.cells #[.string n] 9)) := (Below.refl _ w).alloc (Nat.le_refl _) _
  refine (drop_any b D _ _ (h.tight.below hB) w.heap.size ?_ n ?_ f hf).mono ?_
  · rintro ⟨_, h2⟩; exact absurd h2 (Nat.lt_irrefl _)
  · simp
  · rintro e w' ⟨rfl, hd, hs⟩
    exact ⟨rfl, hd.mono (fun _ h => h.1), (Step.of_below hB).trans (hs.mono (fun _ h => h.1))⟩

set_option maxRecDepth 100000 in
set_option maxHeartbeats 2000000 in
theorem Delete_any (b : Nat) (D : DiskA) (F : Nat → Prop) (w : World) (h : IsDisk w b D F) (a : Option Addr) (cap : Nat) (ss : List ByteArray) (hl : ss.length ≤ 1000000) (hr : StrSl w a ss) (hF : 0 < ss.length → ∀ x, a = some x → ¬ F x.block) :
    Calls Try.prog 90 #[ptr b, .slice a ss.length cap] w fun e w' => e = .returned (errn (D.delete ss).1) ∧ IsDisk w' b (D.delete ss).2 F ∧ Step F w F w' := by
  have cb := bars_any b D F w h a cap ss hl hr
  have cd := done_any b D F w h
  have hdef : D.delete ss = if D.bars ss ≠ 0 then (D.bars ss, D) else if D.burn.1 then ((0 : Int), D.burn.2.drops ss) else ((8 : Int), D.burn.2) := rfl
  by_cases hz : D.bars ss = 0
  · rw [hz] at cb
    rw [if_neg (by rw [hz]; decide)] at hdef
    cases hbn : D.burn.1
    · rw [hbn] at cd hdef
      rw [hdef]
      clear hdef
      unfold ptr errn at *
      go_enter Try.func90, Try.ntmps90
      go_wp2_with (first
        | (go_at_call 84; (with_reducible refine cb.mono ?_); rintro e w1 ⟨rfl, rfl⟩)
        | (go_at_call 85; (with_reducible refine cd.mono ?_); rintro e w1 ⟨rfl, hd1, hs1⟩))
      go_ret
      exact ⟨rfl, hd1, hs1⟩
    · rw [hbn] at cd hdef
      rw [hdef]
      clear hdef
      generalize D.burn.2 = D1 at *
      obtain ⟨n, hn⟩ : ∃ n, ss.length = n := ⟨_, rfl⟩
      rw [hn] at cb ⊢
      have hn' := Lib.hid hn
      rw [hn] at hl
      clear hn
      unfold ptr errn at *
      go_enter Try.func90, Try.ntmps90
      go_wp2_with (first
        | (go_at_call 84; (with_reducible refine cb.mono ?_); rintro e w1 ⟨rfl, rfl⟩)
        | (go_at_call 85; (with_reducible refine cd.mono ?_); rintro e w1 ⟨rfl, hd1, hs1⟩))
      clear cb cd
      go_loopw [22] (fun i wr => ∃ k : Nat, k ≤ n ∧ i = .int .i64 k ∧ IsDisk wr b (D1.drops (ss.take k)) F ∧ Step F w F wr) (fun i _ => n - (intOf i).toNat)
      case atStart => exact ⟨0, by omega, rfl, hd1, hs1⟩
      case round =>
        obtain ⟨k, hk, rfl, hd, hS⟩ := hrel
        by_cases hkn : k < n
        · have hkl : k < ss.length := by rw [hn'.out]; exact hkn
          have hr2 := hr.step hS hF
          obtain ⟨b', off, rfl, hcell⟩ := hr2.at (by omega)
          obtain ⟨s, hs⟩ : ∃ s, ss[k]? = some s := ⟨ss[k], by simp [hkl]⟩
          have hc := hcell k s hs
          have hst := Lib.hid (drops_snoc D1 (ss.take k) s)
          have htk : Hid (ss.take (k + 1) = ss.take k ++ [s]) := take_succ_strs hs
          clear hs hcell hr2 hkl
          generalize D1.drops (ss.take k) = Dk at *
          obtain ⟨m, v, hb, hm, hrow, fm, fg⟩ := hd.head
          have c2 : wr.cell? ⟨b, 2, none⟩ = some (.map (some m)) := hb.cell 2
          have hlk := run_look hd.ok.names hm s
          unfold lookV at hlk
          clear hb hm hrow fm fg
          cases hf : findF Dk.files s with
          | none =>
            rw [hf] at hlk
            dsimp only at hlk
            have hlo : Hid (Dk.dropOf s = Dk) := by show _ = _; unfold DiskA.dropOf; rw [hf]
            clear hf
            go_wp2
            go_roundw
            case rel =>
              refine ⟨k + 1, by omega, by go_num, ?_, hS⟩
              rw [htk.out, hst.out, hlo.out]; exact hd
            case measure => simp [intOf]; omega
          | some f =>
            rw [hf] at hlk
            unfold ptr at hlk
            dsimp only at hlk
            have hlo : Hid (Dk.dropOf s = Dk.drop1 f) := by show _ = _; unfold DiskA.dropOf; rw [hf]
            have cp := drop_new b Dk F wr hd s f hf
            unfold ptr at cp
            clear hf
            go_wp2_with (go_at_call 120; (with_reducible refine cp.mono ?_); rintro e w2 ⟨rfl, hd2, hs2⟩)
            go_roundw
            case rel =>
              refine ⟨k + 1, by omega, by go_num, ?_, hS.trans hs2⟩
              rw [htk.out, hst.out, hlo.out]; exact hd2
            case measure => simp [intOf]; omega
        · have : k = n := by omega
          subst this
          rw [List.take_of_length_le (Nat.le_of_eq hn'.out)] at hd
          go_wp2
          go_ret
          exact ⟨rfl, hd, hS⟩
  · rw [if_pos hz] at hdef
    have hz' := bars_range D ss
    rw [hdef]
    clear hdef cd
    generalize D.bars ss = r at *
    unfold ptr errn at *
    go_enter Try.func90, Try.ntmps90
    rcases hz' with rfl | rfl | rfl
    · exact absurd rfl hz
    all_goals
      go_wp2_with (go_at_call 84; (with_reducible refine cb.mono ?_); rintro e w1 ⟨rfl, rfl⟩)
      go_ret
      exact ⟨rfl, h, Step.refl F _⟩
end Go.Proofs.Ytndpmjanflahhaa
