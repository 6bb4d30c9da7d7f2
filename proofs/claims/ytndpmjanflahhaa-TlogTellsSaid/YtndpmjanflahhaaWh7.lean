/-
  A wheel's contracts, told by its own blocks; a wheel that the call itself made, and blocks beside it.
-/
import Derived.Test.YtndpmjanflahhaaWh6
namespace Go.Proofs.Ytndpmjanflahhaa
open Go.RowKit Go.MapKept

/-- A wheel, as one made behind nothing. -/
theorem IsWheel.bare {w : World} {wb b : Nat} {D : DiskA} {h : Int} {F : Nat → Prop} (hw : IsWheel w wb b D h F) : WLives { w with heap := #[] } wb b D h w :=
  ⟨F, hw, fun _ _ => Nat.zero_le _, ⟨rfl, rfl, rfl, Nat.zero_le _, fun k hk => absurd hk (Nat.not_lt_zero _)⟩⟩
theorem IsWheel.below {w w' : World} {wb b : Nat} {D : DiskA} {h : Int} {F : Nat → Prop} (hw : IsWheel w wb b D h F) (hB : Below w.heap.size w w') : IsWheel w' wb b D h F := by
  obtain ⟨Fd, hd, hs, hn⟩ := hw.disk
  exact ⟨hw.own, hw.head.at (hB.block _ hw.head.lt), Fd, hd.below hB, hs, hn⟩
theorem IsWheel.kept {w w' : World} {wb b : Nat} {D : DiskA} {h : Int} {F : Nat → Prop} (hw : IsWheel w wb b D h F) (hk : ∀ k, F k → k < w.heap.size → w'.heap[k]? = w.heap[k]?) : IsWheel w' wb b D h F := by
  obtain ⟨Fd, hd, hs, hn⟩ := hw.disk
  exact ⟨hw.own, hw.head.at (hk _ hw.own hw.head.lt), Fd, hd.kept (fun k h hl => hk k (hs k h) hl), hs, hn⟩
theorem IsWheel.tight {w : World} {wb b : Nat} {D : DiskA} {h : Int} {F : Nat → Prop} (hw : IsWheel w wb b D h F) : IsWheel w wb b D h (fun k => F k ∧ k < w.heap.size) := by
  obtain ⟨Fd, hd, hs, hn⟩ := hw.disk
  exact ⟨⟨hw.own, hw.head.lt⟩, hw.head, fun k => Fd k ∧ k < w.heap.size, hd.tight, fun k hk => ⟨hs k hk.1, hk.2⟩, fun hk => hn hk.1⟩
theorem IsWheel.step {w w' : World} {wb b : Nat} {D D' : DiskA} {h : Int} {F Fd Fd' : Nat → Prop} (hw : IsWheel w wb b D h F) (hs : ∀ k, Fd k → F k) (hn : ¬ Fd wb) (hd' : IsDisk w' b D' Fd') (hst : Step Fd w Fd' w') : ∃ F', IsWheel w' wb b D' h F' ∧ Step F w F' w' := by
  have hlt := hw.head.lt
  refine ⟨fun k => k = wb ∨ Fd' k, ⟨.inl rfl, hw.head.at (hst.block _ hlt hn), Fd', hd', fun k hk => .inr hk, fun hk => ?_⟩, ⟨hst.os, hst.tape, hst.output, hst.size, fun k hk hnk => hst.block k hk (fun h => hnk (hs k h)), fun k hk => ?_⟩⟩
  · rcases hst.new _ hk with h1 | h1
    · exact hn h1
    · omega
  · rcases hk with rfl | hk
    · exact .inl hw.own
    · exact (hst.new _ hk).imp (hs k) id
theorem IsWheel.write {w : World} {wb b : Nat} {D : DiskA} {h : Int} {F : Nat → Prop} (hw : IsWheel w wb b D h F) (n : ByteArray) (p : Int) (s : ByteArray) (hs : s.size ≤ 1073741824) (hwl : D.waits.length < 1099511627776) :
    Calls Try.prog 42 #[.pointer (some ⟨b, 0, none⟩), .string n, .int .i64 p, .string s] w fun e w' => e = .returned (.int .i64 (D.write n p s).1) ∧ ∃ F', IsWheel w' wb b (D.write n p s).2 h F' ∧ Step F w F' w' := by
  obtain ⟨Fd, hd, hsub, hn⟩ := hw.disk
  refine (Write_any b D Fd w hd n p s hs hwl).mono ?_
  rintro e w' ⟨F', he, hd', hst⟩
  exact ⟨he, hw.step hsub hn hd' hst⟩

set_option maxRecDepth 100000 in
set_option maxHeartbeats 1000000 in
theorem IsWheel.set {w : World} {wb b : Nat} {D : DiskA} {h : Int} {F : Nat → Prop} (hl : IsWheel w wb b D h F) {v : List Nat} (hD : WheelD D v) (s : Nat) (hs : s < 16) (x : Nat) (hx : x < 281474976710656) (hwl : D.waits.length < 1099511627775) :
    ∃ D', WheelD D' (v.set s x) ∧ Wrote D wslots (slotB 6 (v.set s x)) D' ∧ Calls Try.prog 59 #[.pointer (some ⟨wb, 0, none⟩), .int .i64 s, .int .i64 x] w fun e w' => e = .returned (.int .i64 0) ∧ ∃ F', IsWheel w' wb b D' h F' ∧ Step F w F' w' := by
  have hsz : (slotB 6 v).size = 96 := by rw [slotB_size, hD.len]
  obtain ⟨D', e1, hW⟩ := write_calm hl.bare.ok hD.calm hD.get (p := 6 * s) (by rw [hsz]; omega) (beB 6 x) (.inl (by rw [beB_size, hsz]; omega))
  rw [slotB_set 6 v s (by rw [hD.len]; exact hs)] at hW
  refine ⟨D', ⟨hW.calm, by rw [List.length_set]; exact hD.len, fun y hy => ?_, hW.get⟩, hW, ?_⟩
  · rcases List.mem_or_eq_of_mem_set hy with h1 | h1
    · exact hD.small y h1
    · rw [h1]; exact hx
  · have c := WBars_ok wb s w (by omega) (by omega)
    have cN := Num_ok 6 (by omega) (by omega) (some ⟨w.heap.size, 0, none⟩) 1 [(x : Int)] (w.alloc (.cells #[.int .i64 x] 3)) (by simp) (by
      intro y hy; simp at hy; subst hy
      refine ⟨by omega, ?_⟩
      show (x : Int) < ((256 ^ 6 : Nat) : Int)
      have : (256 ^ 6 : Nat) = 281474976710656 := by decide
      omega) (by
      intro i y hi
      cases i with
      | zero => simp at hi; subst hi; exact ⟨_, _, rfl, by simp⟩
      | succ i => simp at hi)
    have hnum : (⟨(numsL 6 [(x : Int)]).toArray⟩ : ByteArray) = beB 6 x := by simp [numsL, beB]
    rw [hnum] at cN
    have cW := fun W (hW : Below w.heap.size w W) => (hl.below hW).write wslots (6 * s : Nat) (beB 6 x) (by rw [beB_size]; omega) (by omega)
    rw [e1] at cW
    have hcast : ((6 * s : Nat) : Int) = 6 * (s : Int) := by omega
    rw [hcast] at cW
    have c0 : w.cell? ⟨wb, 0, none⟩ = some (.pointer (some ⟨b, 0, none⟩)) := hl.head.cell 0
    have hwb := hl.head.lt
    generalize beB 6 x = z at *
    clear hsz e1 hW hD hnum hcast hl
    go_enter Try.func59, Try.ntmps59
    go_wp2_with fail
    refine c.mono ?_
    rintro e w' ⟨rfl, rfl⟩
    clear c
    go_wp2_with fail
    refine cN.mono ?_
    rintro e w1 ⟨rfl, hb⟩
    have hB : Below w.heap.size w w1 := ((Below.refl _ w).alloc (Nat.le_refl _) _).trans (hb.mono (by simp))
    have c1 : w1.cell? ⟨wb, 0, none⟩ = some (.pointer (some ⟨b, 0, none⟩)) := (hB.cell (p := ⟨wb, 0, none⟩) hwb).trans c0
    have cW1 := cW w1 hB
    clear cN cW
    go_wp2_with fail
    refine cW1.mono ?_
    rintro e w2 ⟨rfl, F', hL2, hst⟩
    go_wp2_with fail
    go_ret
    exact ⟨rfl, F', hL2, (Step.of_below hB).trans hst⟩

/-- A wheel that the call itself made; the blocks O are not its own, and hold this. -/
def WX (w0 : World) (wb b : Nat) (D : DiskA) (h : Int) (O : Nat → Option Obj) (w : World) : Prop :=
  ∃ F, IsWheel w wb b D h F ∧ (∀ k, F k → w0.heap.size ≤ k) ∧ (∀ k o, O k = some o → w.heap[k]? = some o ∧ ¬ F k) ∧ Below w0.heap.size w0 w
theorem WX.lives {w0 w : World} {wb b : Nat} {D : DiskA} {h : Int} {O : Nat → Option Obj} (hl : WX w0 wb b D h O w) : WLives w0 wb b D h w := by
  obtain ⟨F, h1, h2, h3, h4⟩ := hl; exact ⟨F, h1, h2, h4⟩
theorem WLives.bx {w0 w : World} {wb b : Nat} {D : DiskA} {h : Int} (hl : WLives w0 wb b D h w) : WX w0 wb b D h (fun _ => none) w := by
  obtain ⟨F, h1, h2, h4⟩ := hl; exact ⟨F, h1, h2, (fun k o ho => by cases ho), h4⟩
theorem WX.block {w0 w : World} {wb b : Nat} {D : DiskA} {h : Int} {O : Nat → Option Obj} (hl : WX w0 wb b D h O w) {k : Nat} {o : Obj} (ho : O k = some o) : w.heap[k]? = some o := by
  obtain ⟨F, h1, h2, h3, h4⟩ := hl; exact (h3 k o ho).1
theorem WX.below {w0 w w' : World} {wb b : Nat} {D : DiskA} {h : Int} {O : Nat → Option Obj} (hl : WX w0 wb b D h O w) (hB : Below w.heap.size w w') : WX w0 wb b D h O w' := by
  obtain ⟨F, h1, h2, h3, h4⟩ := hl
  exact ⟨F, h1.below hB, h2, fun k o ho => ⟨(hB.block k (Array.getElem?_eq_some_iff.1 (h3 k o ho).1).1).trans (h3 k o ho).1, (h3 k o ho).2⟩, h4.trans (hB.mono h4.size)⟩
/-- Blocks made since: none of them is the wheel's. -/
theorem WX.more {w0 w w' : World} {wb b : Nat} {D : DiskA} {h : Int} {O : Nat → Option Obj} (hl : WX w0 wb b D h O w) (hB : Below w.heap.size w w') (O' : Nat → Option Obj) (hO : ∀ k o, O' k = some o → O k = some o ∨ (w.heap.size ≤ k ∧ w'.heap[k]? = some o)) : WX w0 wb b D h O' w' := by
  obtain ⟨F, h1, h2, h3, h4⟩ := hl
  refine ⟨fun k => F k ∧ k < w.heap.size, h1.tight.below hB, fun k hk => h2 k hk.1, fun k o ho => ?_, h4.trans (hB.mono h4.size)⟩
  rcases hO k o ho with h | ⟨h, hc⟩
  · exact ⟨(hB.block k (Array.getElem?_eq_some_iff.1 (h3 k o h).1).1).trans (h3 k o h).1, fun hf => (h3 k o h).2 hf.1⟩
  · exact ⟨hc, fun hf => by have := hf.2; omega⟩
theorem WX.set {w0 w : World} {wb b : Nat} {D : DiskA} {h : Int} {O : Nat → Option Obj} (hl : WX w0 wb b D h O w) {v : List Nat} (hD : WheelD D v) (s : Nat) (hs : s < 16) (x : Nat) (hx : x < 281474976710656) (hwl : D.waits.length < 1099511627775) :
    ∃ D', WheelD D' (v.set s x) ∧ Wrote D wslots (slotB 6 (v.set s x)) D' ∧ Calls Try.prog 59 #[.pointer (some ⟨wb, 0, none⟩), .int .i64 s, .int .i64 x] w fun e w' => e = .returned (.int .i64 0) ∧ WX w0 wb b D' h O w' := by
  obtain ⟨F, h1, h2, h3, h4⟩ := hl
  obtain ⟨D', e1, e2, c⟩ := h1.set hD s hs x hx hwl
  refine ⟨D', e1, e2, c.mono ?_⟩
  rintro e w' ⟨he, F', hw', hst⟩
  refine ⟨he, F', hw', fun k hk => (hst.new k hk).elim (h2 k) (fun h => Nat.le_trans h4.size h), fun k o ho => ?_, h4.trans (hst.below h4.size h2)⟩
  have hlt := (Array.getElem?_eq_some_iff.1 (h3 k o ho).1).1
  exact ⟨(hst.block k hlt (h3 k o ho).2).trans (h3 k o ho).1, fun hk => (hst.new k hk).elim (h3 k o ho).2 (fun h => by omega)⟩
theorem IntSl.at_block {w w' : World} {g : Nat} {xs : List Int} (h : IntSl w (some ⟨g, 0, none⟩) xs) (hk : w'.heap[g]? = w.heap[g]?) : IntSl w' (some ⟨g, 0, none⟩) xs := by
  intro i s hi
  obtain ⟨b, off, ha, hc⟩ := h i s hi
  cases ha
  exact ⟨g, 0, rfl, (World.cell?_of_block (a := ⟨g, 0 + i, none⟩) hk).trans hc⟩
def OAnd (O : Nat → Option Obj) (g : Nat) (o : Obj) : Nat → Option Obj := fun k => if k = g then some o else O k
theorem OAnd.at (O : Nat → Option Obj) (g : Nat) (o : Obj) : OAnd O g o g = some o := by unfold OAnd; simp
theorem OAnd.ne {O : Nat → Option Obj} {g k : Nat} {o : Obj} (h : k ≠ g) : OAnd O g o k = O k := by unfold OAnd; simp [h]
def HeadsX (w0 : World) (wb b : Nat) (D : DiskA) (h : Int) (O : Nat → Option Obj) (v : List Nat) (w : World) (e : Ending) (w' : World) : Prop :=
  ∃ g cap o, e = .returned (.tuple #[.slice (some ⟨g, 0, none⟩) 16 cap, .int .i64 0]) ∧ w.heap.size ≤ g ∧ w'.heap[g]? = some o ∧ IntSl w' (some ⟨g, 0, none⟩) (ints v) ∧ WX w0 wb b D h (OAnd O g o) w' ∧ Below w.heap.size w w'
theorem WX.heads {w0 w : World} {wb b : Nat} {D : DiskA} {h : Int} {O : Nat → Option Obj} (hl : WX w0 wb b D h O w) {v : List Nat} (hD : WheelD D v) :
    Calls Try.prog 61 #[.pointer (some ⟨wb, 0, none⟩)] w (HeadsX w0 wb b D h O v w) := by
  refine (hl.lives.heads hD).mono ?_
  rintro e w' ⟨g, cap, he, hg1, hg2, hs, _, hB⟩
  refine ⟨g, cap, w'.heap[g], he, hg1, by simp [hg2], hs, hl.more hB _ (fun k o ho => ?_), hB⟩
  by_cases hk : k = g
  · subst hk
    rw [OAnd.at] at ho
    cases ho
    exact .inr ⟨hg1, by simp [hg2]⟩
  · rw [OAnd.ne hk] at ho
    exact .inl ho
theorem WX.less {w0 w : World} {wb b : Nat} {D : DiskA} {h : Int} {O O' : Nat → Option Obj} (hl : WX w0 wb b D h O w) (hO : ∀ k o, O' k = some o → O k = some o) : WX w0 wb b D h O' w :=
  hl.more (Below.refl _ w) O' (fun k o ho => .inl (hO k o ho))
end Go.Proofs.Ytndpmjanflahhaa
