/-
  HOW A DISK LIES IN MEMORY, as plain data; what a step that may write its blocks alone leaves of the rest.
-/
import Derived.Test.YtndpmjanflahhaaNm5
import Derived.MapKept
import Derived.Laws.IdiomRangeMap
namespace Go.Proofs.Ytndpmjanflahhaa
open Go.RowKit Go.MapKept

structure FileA where
  name : ByteArray
  id : Nat
  image : ByteArray
  now : ByteArray
structure WaitA where
  id : Nat
  pos : Nat
  s : ByteArray
/-- A disk, as plain data: a file's number is its block's. -/
structure DiskA where
  left : Int
  down : Bool
  cap : Nat
  files : List FileA
  waits : List WaitA

def ptr (k : Nat) : Value := .pointer (some ⟨k, 0, none⟩)
def FileA.entry (f : FileA) : Value × Value := (.string f.name, ptr f.id)
def WaitA.cells (x : WaitA) : List Value := [ptr x.id, .int .i64 x.pos, .string x.s]
def waitCells (l : List WaitA) : List Value := l.flatMap WaitA.cells

/-- Block k holds these cells, none of them frozen. -/
def Blk (w : World) (k : Nat) (c : Array Value) (T : TypeId) : Prop := w.heap[k]? = some (.cells c T (0, 0))
theorem Blk.lt {w : World} {k : Nat} {c : Array Value} {T : TypeId} (h : Blk w k c T) : k < w.heap.size := (Array.getElem?_eq_some_iff.1 h).1
theorem Blk.cell {w : World} {k : Nat} {c : Array Value} {T : TypeId} (h : Blk w k c T) (i : Nat) : w.cell? ⟨k, i, none⟩ = c[i]? := by
  unfold Blk at h; simp [World.cell?, h]
theorem Blk.frozen {w : World} {k : Nat} {c : Array Value} {T : TypeId} (h : Blk w k c T) (i : Nat) : w.frozen? ⟨k, i, none⟩ = false := by
  unfold Blk at h; simp [World.frozen?, h]
theorem Blk.set {w : World} {k : Nat} {c : Array Value} {T : TypeId} (h : Blk w k c T) (i : Nat) (v : Value) : Blk (w.setCell ⟨k, i, none⟩ v) k (c.setIfInBounds i v) T := by
  unfold Blk at *; simp [World.setCell, Array.getElem?_modify, h]
theorem Blk.at {w w' : World} {k : Nat} {c : Array Value} {T : TypeId} (h : Blk w k c T) (e : w'.heap[k]? = w.heap[k]?) : Blk w' k c T := e.trans h
theorem Blk.new (w : World) (c : Array Value) (T : TypeId) : Blk (w.alloc (.cells c T)) w.heap.size c T := by
  show (w.heap.push _)[_]? = _; simp

/-- The files' map. -/
def IsMap (w : World) (m : Nat) (l : List (Value × Value)) : Prop :=
  ∃ es clock, w.heap[m]? = some (.map es clock) ∧ Stamped es clock ∧ es.toList.map (fun e => (e.key, e.val)) = l
theorem IsMap.lt {w : World} {m : Nat} {l : List (Value × Value)} (h : IsMap w m l) : m < w.heap.size := by
  obtain ⟨es, clock, h, _⟩ := h; exact (Array.getElem?_eq_some_iff.1 h).1
theorem IsMap.at {w w' : World} {m : Nat} {l : List (Value × Value)} (h : IsMap w m l) (e : w'.heap[m]? = w.heap[m]?) : IsMap w' m l := by
  obtain ⟨es, clock, h, h2⟩ := h; exact ⟨es, clock, e.trans h, h2⟩

/-- What is plain about a disk, and stays so. -/
structure DiskA.Ok (D : DiskA) : Prop where
  names : (D.files.map (·.name)).Nodup
  ids : (D.files.map (·.id)).Nodup
  left : -1 ≤ D.left ∧ D.left ≤ 9223372036854775807
  cap : D.cap ≤ 16777216
  size : (D.files.map (fun f => f.now.size)).sum ≤ D.cap
  nameLen : ∀ f ∈ D.files, f.name.size ≤ 140737488351232
  files : D.files.length ≤ 4294967296
  waits : ∀ x ∈ D.waits, ∃ f ∈ D.files, f.id = x.id

/-- Block b is a disk: D; the blocks F are its own. -/
structure IsDisk (w : World) (b : Nat) (D : DiskA) (F : Nat → Prop) : Prop where
  ok : D.Ok
  head : ∃ m v, Blk w b #[.int .i64 D.left, .bool D.down, .map (some m), v, .int .i64 D.cap] 120 ∧ IsMap w m (D.files.map FileA.entry) ∧
    w.ownsRow 0 127 3 v D.waits.length (waitCells D.waits) ∧ F m ∧ (∀ g, v.ownBlock = some g → F g)
  own : F b
  files : ∀ f ∈ D.files, F f.id ∧ Blk w f.id #[.string f.image, .string f.now] 124

/-- A step that may write the blocks F alone, and leaves it with F'. -/
structure Step (F : Nat → Prop) (w : World) (F' : Nat → Prop) (w' : World) : Prop where
  os : w'.os = w.os
  tape : w'.tape = w.tape
  output : w'.output = w.output
  size : w.heap.size ≤ w'.heap.size
  block : ∀ k, k < w.heap.size → ¬ F k → w'.heap[k]? = w.heap[k]?
  new : ∀ k, F' k → F k ∨ w.heap.size ≤ k

theorem Step.refl (F : Nat → Prop) (w : World) : Step F w F w := ⟨rfl, rfl, rfl, Nat.le_refl _, fun _ _ _ => rfl, fun _ h => .inl h⟩
theorem Step.trans {F F1 F2 : Nat → Prop} {w w1 w2 : World} (h : Step F w F1 w1) (k : Step F1 w1 F2 w2) : Step F w F2 w2 :=
  ⟨k.os.trans h.os, k.tape.trans h.tape, k.output.trans h.output, Nat.le_trans h.size k.size,
   fun i hi hn => (k.block i (Nat.lt_of_lt_of_le hi h.size) (fun h1 => (h.new i h1).elim hn (fun h2 => by omega))).trans (h.block i hi hn),
   fun i hi => (k.new i hi).elim (h.new i) (fun h2 => .inr (Nat.le_trans h.size h2))⟩
theorem Step.of_below {F : Nat → Prop} {w w' : World} (h : Below w.heap.size w w') : Step F w F w' :=
  ⟨h.os, h.tape, h.output, h.size, fun k hk _ => h.block k hk, fun _ h => .inl h⟩
theorem Step.sub {F F1 F2 : Nat → Prop} {w w' : World} (h : Step F w F1 w') (hs : ∀ k, F2 k → F1 k) : Step F w F2 w' :=
  ⟨h.os, h.tape, h.output, h.size, h.block, fun k hk => h.new k (hs k hk)⟩
/-- Below what none of F lies, nothing has turned. -/
theorem Step.below {F F' : Nat → Prop} {w w' : World} {B : Nat} (h : Step F w F' w') (hB : B ≤ w.heap.size) (hF : ∀ k, F k → B ≤ k) : Below B w w' :=
  ⟨h.os, h.tape, h.output, h.size, fun k hk => h.block k (by omega) (fun hf => by have := hF k hf; omega)⟩

theorem IsDisk.kept {w w' : World} {b : Nat} {D : DiskA} {F : Nat → Prop} (h : IsDisk w b D F) (hk : ∀ k, F k → k < w.heap.size → w'.heap[k]? = w.heap[k]?) : IsDisk w' b D F := by
  obtain ⟨ok, ⟨m, v, hb, hm, hr, fm, fg⟩, fb, hf⟩ := h
  refine ⟨ok, ⟨m, v, hb.at (hk b fb hb.lt), hm.at (hk m fm hm.lt), ?_, fm, fg⟩, fb, fun f hfm => ⟨(hf f hfm).1, (hf f hfm).2.at (hk f.id (hf f hfm).1 (hf f hfm).2.lt)⟩⟩
  obtain ⟨h1, h2⟩ := hr
  refine ⟨h1, ?_⟩
  rcases h2 with h2 | ⟨g, cap, cur, hv, hg, hh, r⟩
  · exact Or.inl h2
  · refine Or.inr ⟨g, cap, cur, hv, hg, ?_, r⟩
    rw [hk g (fg g (by rw [hv]; rfl)) (Array.getElem?_eq_some_iff.1 hh).1]; exact hh
theorem IsDisk.below {w w' : World} {b : Nat} {D : DiskA} {F : Nat → Prop} (h : IsDisk w b D F) (hb : Below w.heap.size w w') : IsDisk w' b D F :=
  h.kept fun k _ hk => hb.block k hk
theorem IsDisk.mono {w : World} {b : Nat} {D : DiskA} {F F' : Nat → Prop} (h : IsDisk w b D F) (hs : ∀ k, F k → F' k) : IsDisk w b D F' := by
  obtain ⟨ok, ⟨m, v, hb, hm, hr, fm, fg⟩, fb, hf⟩ := h
  exact ⟨ok, ⟨m, v, hb, hm, hr, hs _ fm, fun g hg => hs _ (fg g hg)⟩, hs _ fb, fun f hfm => ⟨hs _ (hf f hfm).1, (hf f hfm).2⟩⟩
end Go.Proofs.Ytndpmjanflahhaa
