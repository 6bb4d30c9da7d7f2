/-
  THE WALK OF disk.Write.
-/
import Derived.Test.YtndpmjanflahhaaDk9
import Derived.Deep.RegionHeld3
namespace Go.Proofs.Ytndpmjanflahhaa
open Go.RowKit Go.MapKept

theorem alloc_disk {b : Nat} {D : DiskA} {F : Nat → Prop} {w : World} (h : IsDisk w b D F) (o : Obj) : IsDisk (w.alloc o) b D F := h.below ((Below.refl _ w).alloc (Nat.le_refl _) _)
theorem alloc_below (w : World) (o : Obj) : Below w.heap.size w (w.alloc o) := (Below.refl _ w).alloc (Nat.le_refl _) _
theorem strs_one (w : World) (n : ByteArray) : StrSl (w.alloc (.cells #[.string n] 9)) (some ⟨w.heap.size, 0, none⟩) [n] := fun i s hi => by
  cases i with
  | zero => simp at hi; subst hi; exact ⟨_, 0, rfl, by simp⟩
  | succ i => simp at hi

section
variable (b : Nat) (D : DiskA) (F : Nat → Prop) (w : World) (h : IsDisk w b D F) (n : ByteArray) (p : Int) (s : ByteArray)

/-- Down, or no such file. -/
theorem Write_barred (e : Int) (he : D.bars [n] = e) (hne : e ≠ 0) (h : IsDisk w b D F) :
    Calls Try.prog 42 #[ptr b, .string n, .int .i64 p, .string s] w fun e' w' => e' = .returned (errn e) ∧ IsDisk w' b D F ∧ Below w.heap.size w w' := by
  have hw1 := alloc_disk h (.cells #[.string n] 9)
  have cb := bars_any b D F _ hw1 _ 1 [n] (by simp) (strs_one w n)
  rw [he] at cb
  have hB := alloc_below w (.cells #[.string n] 9)
  have hne' : (e == 0) = false := by simpa using hne
  clear he hne
  unfold ptr errn at *
  go_enter Try.func42, Try.ntmps42
  go_wp2_with (go_at_call 84; refine cb.mono ?_; rintro e w' ⟨rfl, rfl⟩)
  go_ret
  exact ⟨rfl, hw1, hB⟩

set_option maxHeartbeats 1000000 in
/-- The place is none. -/
theorem Write_range (hdn : D.down = false) (f : FileA) (hf : findF D.files n = some f) (hp : p < 0 ∨ (f.now.size : Int) < p) (h : IsDisk w b D F) :
    Calls Try.prog 42 #[ptr b, .string n, .int .i64 p, .string s] w fun e' w' => e' = .returned (errn 2) ∧ IsDisk w' b D F ∧ Below w.heap.size w w' := by
  have hw1 := alloc_disk h (.cells #[.string n] 9)
  have cb := bars_any b D F _ hw1 _ 1 [n] (by simp) (strs_one w n)
  rw [bars_one, hdn, hf] at cb
  have hB := alloc_below w (.cells #[.string n] 9)
  obtain ⟨m, v, hb, hm, hrow, fm, fg⟩ := hw1.head
  have c2 : (w.alloc (.cells #[.string n] 9)).cell? ⟨b, 2, none⟩ = some (.map (some m)) := hb.cell 2
  have hlk := run_look h.ok.names hm n
  unfold lookV at hlk
  rw [hf] at hlk
  have hfb := (hw1.files f (findF_some hf).1).2
  have cf : (w.alloc (.cells #[.string n] 9)).cell? ⟨f.id, 1, none⟩ = some (.string f.now) := hfb.cell 1
  clear hf hdn
  unfold ptr errn at *
  by_cases h0 : p < 0
  · clear hp
    go_enter Try.func42, Try.ntmps42
    go_wp2_with (go_at_call 84; refine cb.mono ?_; rintro e w' ⟨rfl, rfl⟩)
    go_ret
    exact ⟨rfl, hw1, hB⟩
  · have h1 : (f.now.size : Int) < p := by omega
    clear hp
    go_enter Try.func42, Try.ntmps42
    go_wp2_with (go_at_call 84; refine cb.mono ?_; rintro e w' ⟨rfl, rfl⟩)
    go_ret
    exact ⟨rfl, hw1, hB⟩

set_option maxRecDepth 100000 in
set_option maxHeartbeats 4000000 in
/-- No room. -/
theorem Write_full (hdn : D.down = false) (f : FileA) (hf : findF D.files n = some f) (hp0 : 0 ≤ p) (hp1 : p ≤ f.now.size) (hs : s.size ≤ 1073741824)
    (hC1 : (D.cap : Int) - sizes D.files < p + s.size - f.now.size) (hC2 : (f.now.size : Int) < p + s.size) (h : IsDisk w b D F) :
    Calls Try.prog 42 #[ptr b, .string n, .int .i64 p, .string s] w fun e' w' => e' = .returned (errn 7) ∧ IsDisk w' b D F ∧ Below w.heap.size w w' := by
  have hw1 := alloc_disk h (.cells #[.string n] 9)
  have cb := bars_any b D F _ hw1 _ 1 [n] (by simp) (strs_one w n)
  rw [bars_one, hdn, hf] at cb
  have hB := alloc_below w (.cells #[.string n] 9)
  obtain ⟨m, v, hb, hm, hrow, fm, fg⟩ := hw1.head
  have hw1' := hw1
  have c2 : (w.alloc (.cells #[.string n] 9)).cell? ⟨b, 2, none⟩ = some (.map (some m)) := hb.cell 2
  have hlk := run_look h.ok.names hm n
  unfold lookV at hlk
  rw [hf] at hlk
  have hfb := (hw1.files f (findF_some hf).1).2
  have cf : (w.alloc (.cells #[.string n] 9)).cell? ⟨f.id, 1, none⟩ = some (.string f.now) := hfb.cell 1
  have cR := Room_any b D F (w.alloc (.cells #[.string n] 9)).drew (hw1.below (Below.refl _ _).drew)
  have hlt := hfb.lt
  have hS : sizes D.files ≤ 16777216 := Nat.le_trans h.ok.size h.ok.cap
  have hC := h.ok.cap
  have hN : f.now.size ≤ 16777216 := by have := sizes_without h.ok.names (findF_some hf).1; omega
  clear hf hdn
  generalize sizes D.files = S at *
  generalize D.cap = C at *
  unfold ptr errn at *
  go_enter Try.func42, Try.ntmps42
  go_wp2_with (go_at_call 84; refine cb.mono ?_; rintro e w' ⟨rfl, rfl⟩)
  have e1 : IntKind.i64.wrap (p + (s.size : Int)) = p + s.size := Go.IntWalk.i64_in _ (by omega)
  have e2 : IntKind.i64.wrap (p + (s.size : Int) - (f.now.size : Int)) = p + s.size - f.now.size := Go.IntWalk.i64_in _ (by omega)
  have d1 : decide ((C : Int) - (S : Int) < p + s.size - f.now.size) = true := decide_eq_true hC1
  have d2 : decide ((f.now.size : Int) < p + s.size) = true := decide_eq_true hC2
  go_region_held3 (fun W => W.cell? ⟨f.id, 1, none⟩ = some (.string f.now) ∧ IsDisk W b D F ∧ Below w.heap.size w W)
    (first | exact ⟨cf, hw1, hB⟩ | exact ⟨cf, hw1.below (Below.refl _ _).drew, hB.drew⟩ | exact ⟨cf1, hd1, hB1⟩)
    (first | (go_at_call 56; refine cR.mono ?_; rintro e w1 ⟨rfl, hb1⟩; have cf1 : w1.cell? ⟨f.id, 1, none⟩ = some (.string f.now) := (hb1.cell (p := ⟨f.id, 1, none⟩) hlt).trans cf; have hd1 : IsDisk w1 b D F := (hw1.below (Below.refl _ _).drew).below hb1; have hB1 : Below w.heap.size w w1 := hB.drew.trans (hb1.mono hB.size)))
  go_wp2
  go_ret
  exact ⟨rfl, by assumption, by assumption⟩
end
end Go.Proofs.Ytndpmjanflahhaa
