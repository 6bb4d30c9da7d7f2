/-
  disk.Rename, walked.
-/
import Derived.Test.YtndpmjanflahhaaDk25
namespace Go.Proofs.Ytndpmjanflahhaa
open Go.RowKit Go.MapKept

theorem names_beq (a b : ByteArray) : (a.toList == b.toList) = (a == b) := by
  rw [Bool.eq_iff_iff, bytes_beq, beq_iff_eq, ByteArray.toList_eq, ByteArray.toList_eq]
  constructor
  · intro h
    cases a; cases b
    simpa using h
  · rintro rfl; rfl

set_option maxRecDepth 100000 in
/-- The two turns of the files' map. -/
theorem rename_ops {b : Nat} {D : DiskA} {F : Nat → Prop} {w : World} (hd : IsDisk w b D F) {f : FileA} (hf : f ∈ D.files) {n to_ : ByteArray} (hfn : f.name = n) (hne : n ≠ to_) (ht : to_.size ≤ 140737488351232) (hno : findF D.files to_ = none) :
    ∃ m w1 w2, w.cell? ⟨b, 2, none⟩ = some (.map (some m)) ∧
      (Instr.mapUpdate 117 (.map (some m)) (.string to_) (.pointer (some ⟨f.id, 0, none⟩))).run Try.prog w.drew = .ok () w1 ∧
      w1.cell? ⟨b, 2, none⟩ = some (.map (some m)) ∧
      (∀ ty, (Builtin.delete_ #[117, 9] ty #[.map (some m), .string n]).run Try.prog w1 = .ok (.tuple #[]) w2) ∧
      IsDisk w2 b (D.moved f to_) F ∧ Step F w F w2 := by
  have hB : Below w.heap.size w w.drew := (Below.refl _ w).drew
  have hd' := hd.below hB
  obtain ⟨m, v, hb, hm, hr, fm, fg⟩ := hd'.head
  obtain ⟨w1, h1, hm1, hg1⟩ := run_put hm to_ (.pointer (some ⟨f.id, 0, none⟩)) (entry_keys _) (entry_new hno)
  have hmb : b ≠ m := by
    rintro rfl
    obtain ⟨es, cl, h1, _⟩ := hm
    unfold Blk at hb; rw [h1] at hb; cases hb
  have hb1 := hb.at (hg1.block b hb.lt (fun e => hmb (by cases e; rfl)))
  have hm2 : IsMap w1 m ((D.files ++ [{ f with name := to_ }]).map FileA.entry) := by
    rw [List.map_append]
    exact hm1
  have hnod : ((D.files ++ [{ f with name := to_ }]).map (fun g : FileA => g.name)).Nodup := by
    rw [List.map_append]
    exact nodup_snoc hd.ok.names (fun x hx => by
      obtain ⟨g, hg, rfl⟩ := List.mem_map.1 hx
      exact findF_none hno g hg)
  obtain ⟨w2, h2, hm3, hg2, _⟩ := run_del hm2 hnod n
  have hg : w.drew.grownBy w2 (some m) :=
    ⟨hg2.os.trans hg1.os, hg2.tape.trans hg1.tape, hg2.output.trans hg1.output, Nat.le_trans hg1.size hg2.size,
     fun k hk hne => (hg2.block k (Nat.lt_of_lt_of_le hk hg1.size) hne).trans (hg1.block k hk hne)⟩
  have hfin := hd'.moved hf (to_ := to_) (by rw [hfn]; exact hne) ht (findF_none hno) hb (by rw [hfn]; exact hm3) hg
  exact ⟨m, w1, w2, hb.cell 2, h1, hb1.cell 2, h2, hfin.1, (Step.of_below hB).trans hfin.2⟩

set_option maxRecDepth 100000 in
set_option maxHeartbeats 2000000 in
theorem Rename_any (b : Nat) (D : DiskA) (F : Nat → Prop) (w : World) (h : IsDisk w b D F) (n to_ : ByteArray) (ht : to_.size ≤ 140737488351232) :
    Calls Try.prog 89 #[ptr b, .string n, .string to_] w fun e w' => e = .returned (errn (D.rename n to_).1) ∧ IsDisk w' b (D.rename n to_).2 F ∧ Step F w F w' := by
  have cb := bars_new b D F w h n
  rw [bars_one] at cb
  have hBw : Below w.heap.size w (w.alloc (.cells #[.string n] 9)) := (Below.refl _ w).alloc (Nat.le_refl _) _
  have hw1 := h.below hBw
  have hs1 := Step.of_below (F := F) hBw
  have hC : D.rename n to_ = if D.down then ((8 : Int), D) else match findF D.files n with
    | none => ((9 : Int), D)
    | some f => if D.burn.1 then ((0 : Int), if n == to_ then D.burn.2 else (D.burn.2.dropOf to_).moved f to_) else ((8 : Int), D.burn.2) := rfl
  cases hdn : D.down
  case true =>
    rw [hdn] at cb hC
    simp only [if_true] at cb hC
    rw [hC]
    clear hC hdn
    unfold ptr errn at *
    go_enter Try.func89, Try.ntmps89
    go_wp2_with (go_at_call 84; (with_reducible refine cb.mono ?_); rintro e w1 ⟨rfl, rfl⟩)
    go_ret
    exact ⟨rfl, hw1, hs1⟩
  case false =>
    rw [hdn] at cb hC
    simp only [Bool.false_eq_true, if_false] at cb hC
    cases hf : findF D.files n with
    | none =>
      rw [hf] at cb hC
      dsimp only at hC
      rw [hC]
      clear hC hdn hf
      unfold ptr errn at *
      go_enter Try.func89, Try.ntmps89
      go_wp2_with (go_at_call 84; (with_reducible refine cb.mono ?_); rintro e w1 ⟨rfl, rfl⟩)
      go_ret
      exact ⟨rfl, hw1, hs1⟩
    | some f =>
      rw [hf] at cb hC
      dsimp only at hC
      simp only [Option.isSome_some, if_true] at cb
      have hf2 : findF D.burn.2.files n = some f := by rw [(burn_files D).1, hf]
      have cd := done_any b D F _ hw1
      clear hdn hf
      cases hbn : D.burn.1
      · rw [hbn] at cd hC
        rw [hC]
        clear hC
        unfold ptr errn at *
        go_enter Try.func89, Try.ntmps89
        go_wp2_with (first
          | (go_at_call 84; (with_reducible refine cb.mono ?_); rintro e w1 ⟨rfl, rfl⟩)
          | (go_at_call 85; (with_reducible refine cd.mono ?_); rintro e w1 ⟨rfl, hd1, hs2⟩))
        go_ret
        exact ⟨rfl, hd1, hs1.trans hs2⟩
      rw [hbn] at cd hC
      have hn1 : (D.burn.2.files.map (fun g : FileA => g.name)).Nodup := by rw [(burn_files D).1]; exact h.ok.names
      generalize D.burn.2 = D1 at *
      cases hnt : n == to_
      case true =>
        rw [hC, hnt]
        clear hC
        rw [← names_beq] at hnt
        unfold ptr errn at *
        go_enter Try.func89, Try.ntmps89
        go_wp2_with (first
          | (go_at_call 84; (with_reducible refine cb.mono ?_); rintro e w1 ⟨rfl, rfl⟩)
          | (go_at_call 85; (with_reducible refine cd.mono ?_); rintro e w1 ⟨rfl, hd1, hs2⟩))
        go_ret
        exact ⟨rfl, hd1, hs1.trans hs2⟩
      have hne : n ≠ to_ := fun e => by rw [(bytes_beq _ _).2 e] at hnt; cases hnt
      rw [hnt] at hC
      rw [← names_beq] at hnt
      have hfm := (findF_some hf2).1
      have hfn := (findF_some hf2).2
      cases hto : findF D1.files to_ with
      | none =>
        have hlo : D1.dropOf to_ = D1 := by unfold DiskA.dropOf; rw [hto]
        rw [hC, hlo]
        have hneH := Lib.hid hne
        have htoH := Lib.hid hto
        have hf2H := Lib.hid hf2
        have hfnH := Lib.hid hfn
        clear hC hlo hne hto hf2 hfn
        unfold ptr errn at *
        go_enter Try.func89, Try.ntmps89
        go_wp2_with (first
          | (go_at_call 84; (with_reducible refine cb.mono ?_); rintro e w1 ⟨rfl, rfl⟩)
          | (go_at_call 85; (with_reducible refine cd.mono ?_); rintro e w1 ⟨rfl, hd1, hs2⟩
             obtain ⟨m, w3, w4, c2, hput, c21, hdel, hd4, hs4⟩ := rename_ops hd1 hfm hfnH.out hneH.out ht htoH.out
             obtain ⟨m', v', hb', hm', _⟩ := (hd1.below (Below.refl _ w1).drew).head
             have hmm : m' = m := by have h0 : w1.drew.cell? ⟨b, 2, none⟩ = some (.map (some m')) := hb'.cell 2; have h00 : w1.cell? ⟨b, 2, none⟩ = some (.map (some m')) := h0; rw [c2] at h00; cases h00; rfl
             subst hmm
             have hlk := run_look hd1.ok.names hm' n
             obtain ⟨m2', v2', hb2', hm2', _⟩ := hd1.head
             have hmm2 : m2' = m' := by have h0 : w1.cell? ⟨b, 2, none⟩ = some (.map (some m2')) := hb2'.cell 2; rw [c2] at h0; cases h0; rfl
             subst hmm2
             have hlk2 := run_look hd1.ok.names hm2' to_
             unfold lookV at hlk hlk2
             rw [hf2H.out] at hlk
             rw [htoH.out] at hlk2
             dsimp only [ptr] at hlk hlk2
             clear hb' hm' hb2' hm2'))
        go_region
        go_wp2
        go_ret
        exact ⟨rfl, hd4, (hs1.trans hs2).trans hs4⟩
      | some g =>
        have hlo : D1.dropOf to_ = D1.drop1 g := by unfold DiskA.dropOf; rw [hto]
        rw [hC, hlo]
        have hg := findF_some hto
        have hfm2 : f ∈ (D1.drop1 g).files := gone_mem.2 ⟨hfm, fun e => hne (hfn.symm.trans (e.trans hg.2))⟩
        have hno2 : findF (D1.drop1 g).files to_ = none := by
          show findF (gone D1.files g.name) to_ = none
          rw [hg.2]
          unfold findF
          rw [List.find?_eq_none]
          intro x hx e
          exact (gone_mem.1 hx).2 ((bytes_beq _ _).1 e)
        have hf3 : findF (D1.drop1 g).files n = some f := by
          cases hq : findF (D1.drop1 g).files n with
          | none => exact absurd hfn (findF_none hq f hfm2)
          | some f' =>
            have h1 := findF_some hq
            have : f' = f := by
              exact nodup_name_eq hn1 (gone_mem.1 h1.1).1 hfm (h1.2.trans hfn.symm)
            rw [this]
        have hneH := Lib.hid hne
        have htoH := Lib.hid hto
        have hf2H := Lib.hid hf2
        have hfnH := Lib.hid hfn
        have hf3H := Lib.hid hf3
        have hno2H := Lib.hid hno2
        clear hC hlo hne hto hf2 hfn hg hf3 hno2
        unfold ptr errn at *
        go_enter Try.func89, Try.ntmps89
        go_wp2_with (first
          | (go_at_call 84; (with_reducible refine cb.mono ?_); rintro e w1 ⟨rfl, rfl⟩)
          | (go_at_call 85; (with_reducible refine cd.mono ?_); rintro e w1 ⟨rfl, hd1, hs2⟩
             obtain ⟨m', v', hb', hm', _⟩ := hd1.head
             have c2 : w1.cell? ⟨b, 2, none⟩ = some (.map (some m')) := hb'.cell 2
             have hlk2 := run_look hd1.ok.names hm' to_
             unfold lookV at hlk2
             rw [htoH.out] at hlk2
             dsimp only [ptr] at hlk2
             have cp := drop_new b D1 F w1 hd1 to_ g htoH.out
             unfold ptr at cp
             clear hb' hm')
          | (go_at_call 120; (with_reducible refine cp.mono ?_); rintro e w2 ⟨rfl, hd2, hs3⟩
             obtain ⟨m, w3, w4, c20, hput, c21, hdel, hd4, hs4⟩ := rename_ops hd2 hfm2 hfnH.out hneH.out ht hno2H.out
             obtain ⟨m'', v'', hb'', hm'', _⟩ := (hd2.below (Below.refl _ w2).drew).head
             have hmm : m'' = m := by have h0 : w2.drew.cell? ⟨b, 2, none⟩ = some (.map (some m'')) := hb''.cell 2; have h00 : w2.cell? ⟨b, 2, none⟩ = some (.map (some m'')) := h0; rw [c20] at h00; cases h00; rfl
             subst hmm
             have hlk := run_look hd2.ok.names hm'' n
             unfold lookV at hlk
             rw [hf3H.out] at hlk
             dsimp only [ptr] at hlk
             clear hb'' hm''))
        go_region
        go_wp2
        go_ret
        exact ⟨rfl, hd4, ((hs1.trans hs2).trans hs3).trans hs4⟩
end Go.Proofs.Ytndpmjanflahhaa
