/-
  slices.DeleteFunc at the writes that wait, with the two predicates 'is of this file': what is left.
-/
import Derived.Test.YtndpmjanflahhaaDk12
import Derived.LaidEqlPtr
namespace Go.Proofs.Ytndpmjanflahhaa
open Go.RowKit Go.MapKept

theorem info_file : (Try.prog.info? 124).map (fun i => (i.zero, i.size, i.bytes)) = some (some (.agg #[.string ByteArray.empty, .string ByteArray.empty]), 2, 32) := by kernel_rfl
set_option maxRecDepth 100000 in
theorem eql_ptr (w : World) (a b : Nat) {c1 c2 : Array Value} (h1 : Blk w a c1 124) (h2 : Blk w b c2 124) :
    (binOp .eql 121 (.pointer (some ⟨a, 0, none⟩)) (.pointer (some ⟨b, 0, none⟩))).run Try.prog w = .ok (.bool (a == b)) w := by
  obtain ⟨i0, hi, _, hz, _⟩ := info_parts info_file
  by_cases e : a = b
  · subst e
    rw [run_eql_ptr_same _ _ Try.underlying121 hi]; simp
  · rw [run_eql_ptr_other w (a := ⟨a, 0, none⟩) (b := ⟨b, 0, none⟩) Try.underlying121 hi (by omega) (by simp [e]) (show w.heap[a]? = _ from h1) (show w.heap[b]? = _ from h2)]
    simp [e]

set_option maxRecDepth 100000 in
theorem lasts1_any (x : WaitA) (c id : Nat) (W : World) (hc : W.cell? ⟨c, 0, none⟩ = some (.pointer (some ⟨id, 0, none⟩))) {c1 c2 : Array Value} (h1 : Blk W x.id c1 124) (h2 : Blk W id c2 124) :
    Calls Try.prog 119 #[.agg #[.pointer (some ⟨x.id, 0, none⟩), .int .i64 x.pos, .string x.s], .pointer (some ⟨c, 0, none⟩)] W fun e w' => e = .returned (.bool (x.id == id)) ∧ Below W.heap.size W w' := by
  have hlt := World.block_lt_of_cell? _ _ hc
  have hc2 := (World.cell?_alloc_lt W (.cells #[.pointer (some ⟨x.id, 0, none⟩), .int .i64 x.pos, .string x.s] 127) ⟨c, 0, none⟩ hlt).trans hc
  have heq := eql_ptr (W.alloc (.cells #[.pointer (some ⟨x.id, 0, none⟩), .int .i64 x.pos, .string x.s] 127)) x.id id (h1.at (heap_alloc_old _ _ h1.lt)) (h2.at (heap_alloc_old _ _ h2.lt))
  clear h1 h2
  go_enter Try.func119, Try.ntmps119
  go_wp2
  go_ret
  exact ⟨rfl, (Below.refl _ W).alloc (Nat.le_refl _) _⟩

set_option maxRecDepth 100000 in
theorem drop1_any (x : WaitA) (c id : Nat) (W : World) (hc : W.cell? ⟨c, 0, none⟩ = some (.pointer (some ⟨id, 0, none⟩))) {c1 c2 : Array Value} (h1 : Blk W x.id c1 124) (h2 : Blk W id c2 124) :
    Calls Try.prog 140 #[.agg #[.pointer (some ⟨x.id, 0, none⟩), .int .i64 x.pos, .string x.s], .pointer (some ⟨c, 0, none⟩)] W fun e w' => e = .returned (.bool (x.id == id)) ∧ Below W.heap.size W w' := by
  have hlt := World.block_lt_of_cell? _ _ hc
  have hc2 := (World.cell?_alloc_lt W (.cells #[.pointer (some ⟨x.id, 0, none⟩), .int .i64 x.pos, .string x.s] 127) ⟨c, 0, none⟩ hlt).trans hc
  have heq := eql_ptr (W.alloc (.cells #[.pointer (some ⟨x.id, 0, none⟩), .int .i64 x.pos, .string x.s] 127)) x.id id (h1.at (heap_alloc_old _ _ h1.lt)) (h2.at (heap_alloc_old _ _ h2.lt))
  clear h1 h2
  go_enter Try.func140, Try.ntmps140
  go_wp2
  go_ret
  exact ⟨rfl, (Below.refl _ W).alloc (Nat.le_refl _) _⟩


/-- The predicate of a function value: is a write of this file? -/
def IsPred (g c id : Nat) : Prop := ∀ (x : WaitA) (W : World) (c1 c2 : Array Value), W.cell? ⟨c, 0, none⟩ = some (.pointer (some ⟨id, 0, none⟩)) → Blk W x.id c1 124 → Blk W id c2 124 →
    Calls Try.prog g #[.agg #[.pointer (some ⟨x.id, 0, none⟩), .int .i64 x.pos, .string x.s], .pointer (some ⟨c, 0, none⟩)] W fun e w' => e = .returned (.bool (x.id == id)) ∧ Below W.heap.size W w'
theorem lasts1_pred (c id : Nat) : IsPred 119 c id := fun x W _ _ hc h1 h2 => lasts1_any x c id W hc h1 h2
theorem drop1_pred (c id : Nat) : IsPred 140 c id := fun x W _ _ hc h1 h2 => drop1_any x c id W hc h1 h2
end Go.Proofs.Ytndpmjanflahhaa
