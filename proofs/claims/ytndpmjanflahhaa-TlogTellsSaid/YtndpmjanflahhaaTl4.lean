/-
  tlog.New; (*tlog.Log).Hand, Len, Put.
-/
import Derived.Test.YtndpmjanflahhaaRv0
namespace Go.Proofs.Ytndpmjanflahhaa
open Go.RowKit Go.MapKept

theorem le_sum {l : List Nat} {x : Nat} (h : x ∈ l) : x ≤ l.sum := by
  induction l with
  | nil => cases h
  | cons y t ih =>
    rw [List.sum_cons]
    rcases List.mem_cons.1 h with rfl | h
    · omega
    · have := ih h; omega
set_option maxRecDepth 100000 in
theorem TNew_bad (b : Nat) (at_ : Int) (w : World) (hr : -9223372036854775808 ≤ at_ ∧ at_ ≤ 9223372036854775807) (h : at_ < 0 ∨ 1099511627776 < at_) :
    Calls Try.prog 72 #[.pointer (some ⟨b, 0, none⟩), .int .i64 at_] w fun e w' => e = .returned (.tuple #[.pointer none, .int .i64 1]) ∧ w = w' := by
  have cW := WNew_bad b at_ w hr h
  clear h hr
  go_enter Try.func72, Try.ntmps72
  go_wp2_with fail
  refine cW.mono ?_
  rintro e w' ⟨rfl, rfl⟩
  go_wp2_with fail
  go_ret2
  exact ⟨rfl, rfl⟩

def TNewPost (C : Nat) (w0 : World) (b h : Nat) (e : Ending) (w' : World) : Prop :=
  ∃ lb wb, e = .returned (.tuple #[.pointer (some ⟨lb, 0, none⟩), .int .i64 0]) ∧ LogX C w0 lb wb b h 0 (fun _ => []) 2 [] (fun _ => none) w'
theorem WLives.create {w0 w : World} {wb b : Nat} {D : DiskA} {h : Int} (hl : WLives w0 wb b D h w) (nm : ByteArray) (hn : nm.size ≤ 140737488351232) (hfl : D.files.length < 4294967296) :
    Calls Try.prog 41 #[.pointer (some ⟨b, 0, none⟩), .string nm] w fun e w' => ∃ id, e = .returned (.int .i64 (D.create nm id).1) ∧ WLives w0 wb b (D.create nm id).2 h w' := by
  obtain ⟨F, hw, hF, hB⟩ := hl
  obtain ⟨Fd, hd, hsub, hnn⟩ := hw.disk
  refine (Create_any b D Fd w hd nm hn hfl).mono ?_
  rintro e w' ⟨id, F0, he, hd', hst0, _⟩
  exact ⟨id, he, wlives_step hw hF hB hsub hnn hd' hst0⟩
theorem WLives.log {w0 w : World} {wb b : Nat} {D : DiskA} {h : Int} (hl : WLives w0 wb b D h w) : SX (PLog w.heap.size wb b D h 0) w0 (fun _ => none) (w.alloc (.cells #[.pointer (some ⟨wb, 0, none⟩), .int .i64 0] 157)) := by
  obtain ⟨F, hw, hF, hB⟩ := hl
  have hb : Below w.heap.size w (w.alloc (.cells #[.pointer (some ⟨wb, 0, none⟩), .int .i64 0] 157)) := (Below.refl _ w).alloc (Nat.le_refl _) _
  refine ⟨fun k => k = w.heap.size ∨ (F k ∧ k < w.heap.size), ⟨.inl rfl, Blk.new _ _ _, fun k => F k ∧ k < w.heap.size, hw.tight.below hb, fun k hk => .inr hk, fun hk => by omega⟩, fun k hk => ?_, (fun k o ho => by cases ho), hB.trans (hb.mono hB.size)⟩
  rcases hk with rfl | hk
  · exact hB.size
  · exact hF k hk.1
set_option maxRecDepth 100000 in
set_option maxHeartbeats 1000000 in
theorem TNew_ok (C : Nat) (w0 : World) (b : Nat) (w : World) (h : Nat) (hl : Lives w0 b (newD C) w) (hh : h ≤ 1099511627776) (hC : 96 ≤ C) (hCC : (newD C).cap = C) :
    Calls Try.prog 72 #[.pointer (some ⟨b, 0, none⟩), .int .i64 h] w (TNewPost C w0 b h) := by
  have cW := WNew_ok w0 b (newD C) h w hl (calm_new _) (by omega) (by omega) (by rw [hCC]; show 0 + 96 ≤ C; omega) (by show 0 ≤ 1000000; omega) (by show 0 < 1099511627776; omega)
  have hfin : ∀ (D D1 : DiskA), WheelMade (newD C) D → Created D wmarks D1 → LogD C D1 [] (List.replicate 16 0) (fun _ => []) 2 := by
    intro D D1 hM hc
    have hsl := hM.slots
    refine ⟨⟨hc.calm, hsl.len, hsl.small, by rw [hc.other _ (by decide)]; exact hsl.get⟩, by rw [hc.cap, hM.cap]; exact hCC, ?_, ?_, hc.get, (fun r hr => by cases hr), fun s hs => ⟨0, [], ?_, rfl, rfl⟩⟩
    · have h1 := hM.size
      have h3 := hc.size
      have h4 := hM.get
      have h5 : sizes (newD C).files = 0 := rfl
      obtain ⟨f, hf, hfn⟩ := get_some h4
      have h6 : f.now.size ≤ sizes D.files := by
        have hfm := (findF_some hf).1
        unfold sizes
        exact le_sum (List.mem_map.2 ⟨f, hfm, rfl⟩)
      rw [hfn, zeroB_size] at h6
      simp only [List.length_nil]; omega
    · have h1 := hM.waits
      have h2 := hc.waits
      have h3 : (newD C).waits.length = 0 := rfl
      rw [h2]; omega
    · rw [List.getElem?_replicate, if_pos hs]
  have hfinH := Lib.hid hfin
  have hCCH := Lib.hid hCC
  clear hfin hl hCC hC
  go_enter Try.func72, Try.ntmps72
  go_wp2_with fail
  refine cW.mono ?_
  rintro e w1 ⟨wb, D, rfl, hL, hM⟩
  clear cW
  have hg : D.get wmarks = none := by rw [hM.other _ (by decide)]; split <;> rfl
  have hfl : D.files.length = 1 := by
    have := congrArg List.length hM.names
    unfold DiskA.names at this
    rw [List.length_map] at this
    rw [this]
    rfl
  have k1 := fun id => create_calm (D := D) (n := wmarks) hM.calm hg id
  have cC := hL.create wmarks (by decide) (by omega)
  clear hL hg hfl
  go_wp2_with fail
  refine cC.mono ?_
  rintro e w2 ⟨id, rfl, hL2⟩
  obtain ⟨k1a, k1b⟩ := k1 id
  rw [k1a] at hL2 ⊢
  have hD := hfinH.out D _ hM k1b
  clear k1 k1a k1b cC
  go_wp2_with fail
  go_ret2
  exact ⟨_, wb, rfl, _, [], _, rfl, hD, hL2.log.rx⟩
theorem THand_any {C : Nat} {w0 w : World} {lb wb b h n u : Nat} {Q : Nat → List WRec} {R : List Row} {O : Nat → Option Obj} (hl : LogX C w0 lb wb b h n Q u R O w) :
    Calls Try.prog 77 #[.pointer (some ⟨lb, 0, none⟩)] w fun e w' => e = .returned (.int .i64 h) ∧ w = w' := by
  obtain ⟨D, ms, v, hms, hD, hR⟩ := hl
  have c0 : w.cell? ⟨lb, 0, none⟩ = some (.pointer (some ⟨wb, 0, none⟩)) := (LX.head hR.ox).cell 0
  have cH := (LX.wheel hR.ox).hand
  clear hR hD hms
  go_enter Try.func77, Try.ntmps77
  go_wp2_with fail
  refine cH.mono ?_
  rintro e w' ⟨rfl, rfl⟩
  go_wp2_with fail
  go_ret
  exact ⟨rfl, rfl⟩
theorem TLen_any {C : Nat} {w0 w : World} {lb wb b h n u : Nat} {Q : Nat → List WRec} {R : List Row} {O : Nat → Option Obj} (hl : LogX C w0 lb wb b h n Q u R O w) :
    Calls Try.prog 75 #[.pointer (some ⟨lb, 0, none⟩)] w fun e w' => e = .returned (.int .i64 n) ∧ w = w' := by
  obtain ⟨D, ms, v, hms, hD, hR⟩ := hl
  have c1 : w.cell? ⟨lb, 1, none⟩ = some (.int .i64 n) := (LX.head hR.ox).cell 1
  clear hR hD hms
  go_enter Try.func75, Try.ntmps75
  go_wp2
  go_ret
  exact ⟨rfl, rfl⟩

set_option maxRecDepth 100000 in
theorem TPut_bad (lb : Nat) (due at_ : Int) (w : World) (hd : -9223372036854775808 ≤ due ∧ due ≤ 9223372036854775807) (ha : -9223372036854775808 ≤ at_ ∧ at_ ≤ 9223372036854775807) (hbad : due < 0 ∨ 1099511627776 < due ∨ at_ < 0 ∨ 1099511627776 < at_) :
    Calls Try.prog 73 #[.pointer (some ⟨lb, 0, none⟩), .int .i64 due, .int .i64 at_] w fun e w' => e = .returned (.int .i64 1) ∧ w = w' := by
  obtain ⟨d1, d2⟩ := hd
  obtain ⟨a1, a2⟩ := ha
  by_cases b1 : due < 0
  all_goals by_cases b2 : 1099511627776 < due
  all_goals by_cases b3 : at_ < 0
  all_goals (try omega)
  all_goals (try (have b4 : 1099511627776 < at_ := by omega))
  all_goals clear hbad
  all_goals
    go_enter Try.func73, Try.ntmps73
    go_wp2_with fail
    go_ret
    exact ⟨rfl, rfl⟩
set_option maxRecDepth 100000 in
theorem TPut_late {C : Nat} {w0 w : World} {lb wb b h n u : Nat} {Q : Nat → List WRec} {R : List Row} {O : Nat → Option Obj} (hl : LogX C w0 lb wb b h n Q u R O w) (due at_ : Int) (hd : 0 ≤ due ∧ due ≤ 1099511627776) (ha : 0 ≤ at_ ∧ at_ ≤ 1099511627776) (hlate : due ≤ h) :
    Calls Try.prog 73 #[.pointer (some ⟨lb, 0, none⟩), .int .i64 due, .int .i64 at_] w fun e w' => e = .returned (.int .i64 16) ∧ w = w' := by
  obtain ⟨d1, d2⟩ := hd
  obtain ⟨a1, a2⟩ := ha
  have cH := THand_any hl
  have b1 : ¬ due < 0 := by omega
  have b2 : ¬ 1099511627776 < due := by omega
  have b3 : ¬ at_ < 0 := by omega
  have b4 : ¬ 1099511627776 < at_ := by omega
  go_enter Try.func73, Try.ntmps73
  go_wp2_with fail
  refine cH.mono ?_
  rintro e w' ⟨rfl, rfl⟩
  go_wp2_with fail
  go_ret
  exact ⟨rfl, rfl⟩
set_option maxRecDepth 100000 in
theorem TPut_ok {C : Nat} {w0 w : World} {lb wb b h n u : Nat} {Q : Nat → List WRec} {R : List Row} {O : Nat → Option Obj} (hl : LogX C w0 lb wb b h n Q u R O w) (due at_ : Nat) (hd : due ≤ 1099511627776) (ha : at_ ≤ 1099511627776) (hlate : h < due) (hn : n < 1099511627776) (hC : 96 + 20 * (n + 1) ≤ C) (hu : u < 1099511627000) :
    Calls Try.prog 73 #[.pointer (some ⟨lb, 0, none⟩), .int .i64 due, .int .i64 at_] w (LayPost C w0 lb wb b h (n + 1) (setQ Q (due % 16) (Q (due % 16) ++ [⟨due, at_, 1⟩])) (u + 2) R O) := by
  have cH := THand_any hl
  have cL := TLay_any hl due at_ 1 0 hd ha (by omega) hn hC hu
  have d1 : (0 : Int) ≤ due := by omega
  have b1 : ¬ (due : Int) < 0 := by omega
  have b2 : ¬ 1099511627776 < (due : Int) := by omega
  have b3 : ¬ (at_ : Int) < 0 := by omega
  have b4 : ¬ 1099511627776 < (at_ : Int) := by omega
  clear hl hC hu hn
  go_enter Try.func73, Try.ntmps73
  go_wp2_with fail
  refine cH.mono ?_
  rintro e w' ⟨rfl, rfl⟩
  clear cH
  go_wp2_with fail
  refine cL.mono ?_
  rintro e w1 ⟨rfl, h1⟩
  go_wp2_with fail
  go_ret
  exact ⟨rfl, h1⟩
end Go.Proofs.Ytndpmjanflahhaa
