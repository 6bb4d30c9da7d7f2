/-
  Dk0, Dk1, Dk2, Dk3, Dk4, Dk5, Dk6, Dk7, Dk8, Own, one behind the other.
-/
import Derived.Test.YtndpmjanflahhaaMA
import Derived.MapKept
import Derived.Laws.IdiomRangeMap
import Derived.WalkSpells
import Derived.Maps.OwnSet
import Derived.Deep.LoopGhost
import Derived.Deep.RegionWith
import Derived.Lib.ConvBytes
import Derived.Laws.CopyOwn
import Derived.OwnWalk
/-
  HOW A DISK LIES IN MEMORY, as plain data; what a step that may write its blocks alone leaves of the rest.
-/
namespace Go.Proofs.Ytndpmjanflahhaa
open Go.RowKit Go.MapKept

structure FileA where
  name : ByteArray
  id : Nat
  image : ByteArray
  now : ByteArray
structure WaitA where
  id : Nat
  pos : Nat
  s : ByteArray
/-- A disk, as plain data: a file's number is its block's. -/
structure DiskA where
  left : Int
  down : Bool
  cap : Nat
  files : List FileA
  waits : List WaitA

def ptr (k : Nat) : Value := .pointer (some ⟨k, 0, none⟩)
def FileA.entry (f : FileA) : Value × Value := (.string f.name, ptr f.id)
def WaitA.cells (x : WaitA) : List Value := [ptr x.id, .int .i64 x.pos, .string x.s]
def waitCells (l : List WaitA) : List Value := l.flatMap WaitA.cells

/-- Block k holds these cells, none of them frozen. -/
def Blk (w : World) (k : Nat) (c : Array Value) (T : TypeId) : Prop := w.heap[k]? = some (.cells c T (0, 0))
theorem Blk.lt {w : World} {k : Nat} {c : Array Value} {T : TypeId} (h : Blk w k c T) : k < w.heap.size := (Array.getElem?_eq_some_iff.1 h).1
theorem Blk.cell {w : World} {k : Nat} {c : Array Value} {T : TypeId} (h : Blk w k c T) (i : Nat) : w.cell? ⟨k, i, none⟩ = c[i]? := by
  unfold Blk at h; simp [World.cell?, h]
theorem Blk.frozen {w : World} {k : Nat} {c : Array Value} {T : TypeId} (h : Blk w k c T) (i : Nat) : w.frozen? ⟨k, i, none⟩ = false := by
  unfold Blk at h; simp [World.frozen?, h]
theorem Blk.set {w : World} {k : Nat} {c : Array Value} {T : TypeId} (h : Blk w k c T) (i : Nat) (v : Value) : Blk (w.setCell ⟨k, i, none⟩ v) k (c.setIfInBounds i v) T := by
  unfold Blk at *; simp [World.setCell, Array.getElem?_modify, h]
theorem Blk.at {w w' : World} {k : Nat} {c : Array Value} {T : TypeId} (h : Blk w k c T) (e : w'.heap[k]? = w.heap[k]?) : Blk w' k c T := e.trans h
theorem Blk.new (w : World) (c : Array Value) (T : TypeId) : Blk (w.alloc (.cells c T)) w.heap.size c T := by
  show (w.heap.push _)[_]? = _; simp

/-- The files' map. -/
def IsMap (w : World) (m : Nat) (l : List (Value × Value)) : Prop :=
  ∃ es clock, w.heap[m]? = some (.map es clock) ∧ Stamped es clock ∧ es.toList.map (fun e => (e.key, e.val)) = l
theorem IsMap.lt {w : World} {m : Nat} {l : List (Value × Value)} (h : IsMap w m l) : m < w.heap.size := by
  obtain ⟨es, clock, h, _⟩ := h; exact (Array.getElem?_eq_some_iff.1 h).1
theorem IsMap.at {w w' : World} {m : Nat} {l : List (Value × Value)} (h : IsMap w m l) (e : w'.heap[m]? = w.heap[m]?) : IsMap w' m l := by
  obtain ⟨es, clock, h, h2⟩ := h; exact ⟨es, clock, e.trans h, h2⟩

/-- What is plain about a disk, and stays so. -/
structure DiskA.Ok (D : DiskA) : Prop where
  names : (D.files.map (·.name)).Nodup
  ids : (D.files.map (·.id)).Nodup
  left : -1 ≤ D.left ∧ D.left ≤ 9223372036854775807
  cap : D.cap ≤ 16777216
  size : (D.files.map (fun f => f.now.size)).sum ≤ D.cap
  nameLen : ∀ f ∈ D.files, f.name.size ≤ 140737488351232
  files : D.files.length ≤ 4294967296
  waits : ∀ x ∈ D.waits, ∃ f ∈ D.files, f.id = x.id

/-- Block b is a disk: D; the blocks F are its own. -/
structure IsDisk (w : World) (b : Nat) (D : DiskA) (F : Nat → Prop) : Prop where
  ok : D.Ok
  head : ∃ m v, Blk w b #[.int .i64 D.left, .bool D.down, .map (some m), v, .int .i64 D.cap] 120 ∧ IsMap w m (D.files.map FileA.entry) ∧
    w.ownsRow 0 127 3 v D.waits.length (waitCells D.waits) ∧ F m ∧ (∀ g, v.ownBlock = some g → F g)
  own : F b
  files : ∀ f ∈ D.files, F f.id ∧ Blk w f.id #[.string f.image, .string f.now] 124

/-- A step that may write the blocks F alone, and leaves it with F'. -/
structure Step (F : Nat → Prop) (w : World) (F' : Nat → Prop) (w' : World) : Prop where
  os : w'.os = w.os
  tape : w'.tape = w.tape
  output : w'.output = w.output
  size : w.heap.size ≤ w'.heap.size
  block : ∀ k, k < w.heap.size → ¬ F k → w'.heap[k]? = w.heap[k]?
  new : ∀ k, F' k → F k ∨ w.heap.size ≤ k

theorem Step.refl (F : Nat → Prop) (w : World) : Step F w F w := ⟨rfl, rfl, rfl, Nat.le_refl _, fun _ _ _ => rfl, fun _ h => .inl h⟩
theorem Step.trans {F F1 F2 : Nat → Prop} {w w1 w2 : World} (h : Step F w F1 w1) (k : Step F1 w1 F2 w2) : Step F w F2 w2 :=
  ⟨k.os.trans h.os, k.tape.trans h.tape, k.output.trans h.output, Nat.le_trans h.size k.size,
   fun i hi hn => (k.block i (Nat.lt_of_lt_of_le hi h.size) (fun h1 => (h.new i h1).elim hn (fun h2 => by omega))).trans (h.block i hi hn),
   fun i hi => (k.new i hi).elim (h.new i) (fun h2 => .inr (Nat.le_trans h.size h2))⟩
theorem Step.of_below {F : Nat → Prop} {w w' : World} (h : Below w.heap.size w w') : Step F w F w' :=
  ⟨h.os, h.tape, h.output, h.size, fun k hk _ => h.block k hk, fun _ h => .inl h⟩
theorem Step.sub {F F1 F2 : Nat → Prop} {w w' : World} (h : Step F w F1 w') (hs : ∀ k, F2 k → F1 k) : Step F w F2 w' :=
  ⟨h.os, h.tape, h.output, h.size, h.block, fun k hk => h.new k (hs k hk)⟩
/-- Below what none of F lies, nothing has turned. -/
theorem Step.below {F F' : Nat → Prop} {w w' : World} {B : Nat} (h : Step F w F' w') (hB : B ≤ w.heap.size) (hF : ∀ k, F k → B ≤ k) : Below B w w' :=
  ⟨h.os, h.tape, h.output, h.size, fun k hk => h.block k (by omega) (fun hf => by have := hF k hf; omega)⟩

theorem IsDisk.kept {w w' : World} {b : Nat} {D : DiskA} {F : Nat → Prop} (h : IsDisk w b D F) (hk : ∀ k, F k → k < w.heap.size → w'.heap[k]? = w.heap[k]?) : IsDisk w' b D F := by
  obtain ⟨ok, ⟨m, v, hb, hm, hr, fm, fg⟩, fb, hf⟩ := h
  refine ⟨ok, ⟨m, v, hb.at (hk b fb hb.lt), hm.at (hk m fm hm.lt), ?_, fm, fg⟩, fb, fun f hfm => ⟨(hf f hfm).1, (hf f hfm).2.at (hk f.id (hf f hfm).1 (hf f hfm).2.lt)⟩⟩
  obtain ⟨h1, h2⟩ := hr
  refine ⟨h1, ?_⟩
  rcases h2 with h2 | ⟨g, cap, cur, hv, hg, hh, r⟩
  · exact Or.inl h2
  · refine Or.inr ⟨g, cap, cur, hv, hg, ?_, r⟩
    rw [hk g (fg g (by rw [hv]; rfl)) (Array.getElem?_eq_some_iff.1 hh).1]; exact hh
theorem IsDisk.below {w w' : World} {b : Nat} {D : DiskA} {F : Nat → Prop} (h : IsDisk w b D F) (hb : Below w.heap.size w w') : IsDisk w' b D F :=
  h.kept fun k _ hk => hb.block k hk
theorem IsDisk.mono {w : World} {b : Nat} {D : DiskA} {F F' : Nat → Prop} (h : IsDisk w b D F) (hs : ∀ k, F k → F' k) : IsDisk w b D F' := by
  obtain ⟨ok, ⟨m, v, hb, hm, hr, fm, fg⟩, fb, hf⟩ := h
  exact ⟨ok, ⟨m, v, hb, hm, hr, hs _ fm, fun g hg => hs _ (fg g hg)⟩, hs _ fb, fun f hfm => ⟨hs _ (hf f hfm).1, (hf f hfm).2⟩⟩
end Go.Proofs.Ytndpmjanflahhaa

/-
  The disk's fuse: burn, done; what bars a call.
-/
namespace Go.Proofs.Ytndpmjanflahhaa
open Go.RowKit Go.MapKept

def DiskA.burn (D : DiskA) : Bool × DiskA :=
  if D.left = 0 then (false, { D with left := -1, down := true }) else if 0 < D.left then (true, { D with left := D.left - 1 }) else (true, D)

theorem burn_zero (b : Nat) (dn : Bool) (w : World) (c0 : w.cell? ⟨b, 0, none⟩ = some (.int .i64 0)) (c1 : w.cell? ⟨b, 1, none⟩ = some (.bool dn)) (f0 : w.frozen? ⟨b, 0, none⟩ = false) (f1 : w.frozen? ⟨b, 1, none⟩ = false) :
    Calls Try.prog 117 #[ptr b] w fun e w' => e = .returned (.bool false) ∧ w' = (w.setCell ⟨b, 0, none⟩ (.int .i64 (-1))).setCell ⟨b, 1, none⟩ (.bool true) := by
  unfold ptr
  go_enter Try.func117, Try.ntmps117
  go_wp2
  go_ret
  exact ⟨rfl, rfl⟩
theorem burn_pos (b : Nat) (l : Int) (w : World) (c0 : w.cell? ⟨b, 0, none⟩ = some (.int .i64 l)) (f0 : w.frozen? ⟨b, 0, none⟩ = false) (h0 : 0 < l) (h1 : l ≤ 9223372036854775807) :
    Calls Try.prog 117 #[ptr b] w fun e w' => e = .returned (.bool true) ∧ w' = w.setCell ⟨b, 0, none⟩ (.int .i64 (l - 1)) := by
  unfold ptr
  have hne : (l == 0) = false := by simp; omega
  go_enter Try.func117, Try.ntmps117
  go_wp2
  go_ret
  exact ⟨rfl, rfl⟩
theorem burn_neg (b : Nat) (l : Int) (w : World) (c0 : w.cell? ⟨b, 0, none⟩ = some (.int .i64 l)) (h0 : l < 0) (h1 : -1 ≤ l) :
    Calls Try.prog 117 #[ptr b] w fun e w' => e = .returned (.bool true) ∧ w' = w := by
  unfold ptr
  have hne : (l == 0) = false := by simp; omega
  go_enter Try.func117, Try.ntmps117
  go_wp2
  go_ret
  exact ⟨rfl, rfl⟩

theorem setCell_heap (w : World) (a : Addr) (v : Value) (k : Nat) (h : k ≠ a.block) : (w.setCell a v).heap[k]? = w.heap[k]? := Below.heap_setCell w a v k h
theorem setCell_size (w : World) (a : Addr) (v : Value) : (w.setCell a v).heap.size = w.heap.size := by simp [World.setCell]
theorem Step.setCell {F F' : Nat → Prop} {w w1 : World} (h : Step F w F' w1) (a : Addr) (v : Value) (ha : F a.block ∨ w.heap.size ≤ a.block) : Step F w F' (w1.setCell a v) :=
  ⟨h.os, h.tape, h.output, by rw [setCell_size]; exact h.size, fun k hk hn => (setCell_heap _ _ _ _ (by rintro rfl; rcases ha with ha | ha; exact hn ha; omega)).trans (h.block k hk hn), h.new⟩

/-- The disk's head block is written anew; all else is as it was. -/
theorem IsDisk.head_set {w w' : World} {b : Nat} {D D' : DiskA} {F : Nat → Prop} (h : IsDisk w b D F)
    (hk : ∀ k, k ≠ b → w'.heap[k]? = w.heap[k]?) (hok : D'.Ok) (hf : D'.files = D.files) (hw : D'.waits = D.waits)
    (hb : ∀ m v, Blk w b #[.int .i64 D.left, .bool D.down, .map (some m), v, .int .i64 D.cap] 120 → Blk w' b #[.int .i64 D'.left, .bool D'.down, .map (some m), v, .int .i64 D'.cap] 120) : IsDisk w' b D' F := by
  obtain ⟨ok, ⟨m, v, hb0, hm, hr, fm, fg⟩, fb, hfs⟩ := h
  refine ⟨hok, ⟨m, v, hb m v hb0, ?_, ?_, fm, fg⟩, fb, ?_⟩
  · rw [hf]
    refine hm.at (hk m ?_)
    rintro rfl
    obtain ⟨es, c, h1, _⟩ := hm
    unfold Blk at hb0; rw [h1] at hb0; cases hb0
  · rw [hw]
    obtain ⟨h1, h2⟩ := hr
    refine ⟨h1, ?_⟩
    rcases h2 with h2 | ⟨g, cap, cur, hv, hg, hh, r⟩
    · exact Or.inl h2
    · refine Or.inr ⟨g, cap, cur, hv, hg, ?_, r⟩
      rw [hk g]; exact hh
      rintro rfl
      unfold Blk at hb0; rw [hh] at hb0; cases hb0
  · rw [hf]
    intro f hfm
    refine ⟨(hfs f hfm).1, (hfs f hfm).2.at (hk f.id ?_)⟩
    intro e
    have h3 := (hfs f hfm).2
    rw [e] at h3
    unfold Blk at hb0 h3; rw [h3] at hb0; cases hb0

theorem DiskA.Ok.burn {D : DiskA} (h : D.Ok) : D.burn.2.Ok := by
  unfold DiskA.burn
  split
  · exact ⟨h.names, h.ids, ⟨show (-1 : Int) ≤ -1 by decide, show (-1 : Int) ≤ _ by decide⟩, h.cap, h.size, h.nameLen, h.files, h.waits⟩
  · split
    · exact ⟨h.names, h.ids, by have := h.left; constructor <;> (show _ ≤ _; simp; omega), h.cap, h.size, h.nameLen, h.files, h.waits⟩
    · exact h

theorem burn_any (b : Nat) (D : DiskA) (F : Nat → Prop) (w : World) (h : IsDisk w b D F) :
    Calls Try.prog 117 #[ptr b] w fun e w' => e = .returned (.bool D.burn.1) ∧ IsDisk w' b D.burn.2 F ∧ Step F w F w' := by
  obtain ⟨m, v, hb, hm, hr, fm, fg⟩ := h.head
  have c0 := hb.cell 0
  have c1 := hb.cell 1
  have hl := h.ok.left
  by_cases h0 : D.left = 0
  · have hD : D.burn = (false, { D with left := -1, down := true }) := by unfold DiskA.burn; rw [if_pos h0]
    rw [hD]
    refine (burn_zero b D.down w (by rw [c0, h0]; rfl) c1 (hb.frozen 0) (hb.frozen 1)).mono ?_
    rintro e w' ⟨rfl, rfl⟩
    refine ⟨rfl, ?_, ((Step.refl F w).setCell _ _ (.inl h.own)).setCell _ _ (.inl h.own)⟩
    refine h.head_set ?_ (by have := h.ok.burn; rwa [hD] at this) rfl rfl ?_
    · intro k hk; rw [setCell_heap _ _ _ _ hk, setCell_heap _ _ _ _ hk]
    · intro m v hb; exact (hb.set 0 _).set 1 _
  · by_cases h1 : 0 < D.left
    · have hD : D.burn = (true, { D with left := D.left - 1 }) := by unfold DiskA.burn; rw [if_neg h0, if_pos h1]
      rw [hD]
      refine (burn_pos b D.left w c0 (hb.frozen 0) h1 hl.2).mono ?_
      rintro e w' ⟨rfl, rfl⟩
      refine ⟨rfl, ?_, (Step.refl F w).setCell _ _ (.inl h.own)⟩
      refine h.head_set ?_ (by have := h.ok.burn; rwa [hD] at this) rfl rfl ?_
      · intro k hk; rw [setCell_heap _ _ _ _ hk]
      · intro m v hb; exact hb.set 0 _
    · have hD : D.burn = (true, D) := by unfold DiskA.burn; rw [if_neg h0, if_neg h1]
      rw [hD]
      refine (burn_neg b D.left w c0 (by omega) hl.1).mono ?_
      rintro e w' ⟨rfl, rfl⟩
      exact ⟨rfl, h, Step.refl F _⟩

/-- An error's number. -/
def errn (n : Int) : Value := .int .i64 n
theorem done_any (b : Nat) (D : DiskA) (F : Nat → Prop) (w : World) (h : IsDisk w b D F) :
    Calls Try.prog 85 #[ptr b] w fun e w' => e = .returned (errn (if D.burn.1 then 0 else 8)) ∧ IsDisk w' b D.burn.2 F ∧ Step F w F w' := by
  have c := burn_any b D F w h
  cases hp : D.burn.1 <;> rw [hp] at c
  all_goals
    unfold ptr at *
    go_enter Try.func85, Try.ntmps85
    go_wp2_with (go_at_call 117; refine c.mono ?_; rintro e w' ⟨rfl, hd, hs⟩)
    go_ret
    exact ⟨rfl, hd, hs⟩
end Go.Proofs.Ytndpmjanflahhaa

/-
  The files' map at the machine's operations: a look-up, a store, a delete; what bars a call.
-/
namespace Go.Proofs.Ytndpmjanflahhaa
open Go.RowKit Go.MapKept

def findF (l : List FileA) (n : ByteArray) : Option FileA := l.find? (fun f => f.name == n)
def lookV (l : List FileA) (n : ByteArray) : Value := match findF l n with | some f => ptr f.id | none => .pointer none

theorem findF_some {l : List FileA} {n : ByteArray} {f : FileA} (h : findF l n = some f) : f ∈ l ∧ f.name = n :=
  ⟨List.mem_of_find?_eq_some h, (bytes_beq _ _).1 (by have := List.find?_some h; simpa using this)⟩
theorem findF_none {l : List FileA} {n : ByteArray} (h : findF l n = none) : ∀ f ∈ l, f.name ≠ n := by
  intro f hf e
  have := List.find?_eq_none.1 h f hf
  exact this ((bytes_beq _ _).2 e)
theorem findF_of {l : List FileA} {f : FileA} (hn : (l.map (·.name)).Nodup) (hf : f ∈ l) : findF l f.name = some f := by
  induction l with
  | nil => cases hf
  | cons x t ih =>
    unfold findF
    rw [List.find?_cons]
    by_cases e : x.name = f.name
    · rw [(bytes_beq _ _).2 e]
      simp only [List.map_cons, List.nodup_cons] at hn
      rcases List.mem_cons.1 hf with rfl | h
      · rfl
      · exact absurd (List.mem_map.2 ⟨f, h, e.symm⟩) hn.1
    · have hne : (x.name == f.name) = false := by
        cases hh : (x.name == f.name)
        · rfl
        · exact absurd ((bytes_beq _ _).1 hh) e
      rw [hne]
      simp only [List.map_cons, List.nodup_cons] at hn
      rcases List.mem_cons.1 hf with rfl | h
      · exact absurd rfl e
      · exact ih hn.2 h

theorem entries_key {es : Array MapEntry} {l : List FileA} (h : es.toList.map (fun e => (e.key, e.val)) = l.map FileA.entry) : ∀ x ∈ es.toList, ∃ f ∈ l, x.key = .string f.name ∧ x.val = ptr f.id := by
  intro x hx
  have : (x.key, x.val) ∈ l.map FileA.entry := by rw [← h]; exact List.mem_map.2 ⟨x, hx, rfl⟩
  obtain ⟨f, hf, e⟩ := List.mem_map.1 this
  unfold FileA.entry at e
  simp only [Prod.mk.injEq] at e
  exact ⟨f, hf, e.1.symm, e.2.symm⟩
theorem entries_isKey {es : Array MapEntry} {l : List FileA} (h : es.toList.map (fun e => (e.key, e.val)) = l.map FileA.entry) : ∀ x ∈ es.toList, IsKey .string x.key := by
  intro x hx
  obtain ⟨f, _, e, _⟩ := entries_key h x hx
  rw [e]; trivial

theorem zero_ptr (w : World) : (zeroValue 121).run Try.prog w = .ok (.pointer none) w := by kernel_rfl

set_option maxRecDepth 100000 in
theorem run_look {w : World} {m : Nat} {l : List FileA} (hn : (l.map (·.name)).Nodup) (h : IsMap w m (l.map FileA.entry)) (n : ByteArray) :
    (Instr.lookup 117 (.map (some m)) (.string n) false).run Try.prog w = .ok (lookV l n) w := by
  obtain ⟨es, clock, hb, hs, he⟩ := h
  have hm := Try.underlying117
  have hd := Try.underlying9
  have hk : IsKey .string (.string n) := trivial
  rcases findNow_spec hk es.toList 0 (entries_isKey he) with ⟨h1, h2⟩ | ⟨j, e, h1, h2, h3⟩
  · have hl : lookV l n = .pointer none := by
      unfold lookV
      cases hf : findF l n with
      | none => rfl
      | some f =>
        obtain ⟨hfm, rfl⟩ := findF_some hf
        have : f.entry ∈ es.toList.map (fun e => (e.key, e.val)) := by rw [he]; exact List.mem_map.2 ⟨f, hfm, rfl⟩
        obtain ⟨x, hx, hxe⟩ := List.mem_map.1 this
        unfold FileA.entry at hxe
        simp only [Prod.mk.injEq] at hxe
        exact absurd hxe.1 (h2 x hx)
    rw [hl]
    simp [Instr.lookup, run_underlying hm, MapKept.run_getObj_map hb, run_checkKey hd hk, run_findKey hd h1, zero_ptr, Result.andThen]
  · obtain ⟨f, hfm, hkey, hval⟩ := entries_key he e (List.mem_of_getElem? h2)
    rw [h3] at hkey
    have hfn : f.name = n := by injection hkey with hkey; exact hkey.symm
    have hl : lookV l n = ptr f.id := by unfold lookV; rw [← hfn, findF_of hn hfm]
    rw [hl]
    simp [Instr.lookup, run_underlying hm, MapKept.run_getObj_map hb, run_checkKey hd hk, run_findKey hd h1, hval, Result.andThen]

/-- What bars a call with some files: nothing, or that it is down, or that one isn't there. -/
def DiskA.bars (D : DiskA) (ss : List ByteArray) : Int := if D.down then 8 else if ss.all (fun s => (findF D.files s).isSome) then 0 else 9

set_option maxHeartbeats 1000000 in
theorem bars_any (b : Nat) (D : DiskA) (F : Nat → Prop) (w : World) (h : IsDisk w b D F) (a : Option Addr) (cap : Nat) (ss : List ByteArray) (hl : ss.length ≤ 1000000) (hr : StrSl w a ss) :
    Calls Try.prog 84 #[ptr b, .slice a ss.length cap] w fun e w' => e = .returned (errn (D.bars ss)) ∧ w = w' := by
  obtain ⟨m, v, hb, hm, hrow, fm, fg⟩ := h.head
  have c1 : w.cell? ⟨b, 1, none⟩ = some (.bool D.down) := hb.cell 1
  have c2 : w.cell? ⟨b, 2, none⟩ = some (.map (some m)) := hb.cell 2
  have hlk := fun n => run_look h.ok.names hm n
  have hD : D.bars ss = if D.down then 8 else if ss.all (fun s => (findF D.files s).isSome) then 0 else 9 := rfl
  have hD' := Lib.hid hD
  generalize D.bars ss = r at *
  obtain ⟨n, hn⟩ : ∃ n, ss.length = n := ⟨_, rfl⟩
  rw [hn]
  have hn' := Lib.hid hn
  rw [hn] at hl
  clear hn hD hb hm hrow fm fg h
  unfold ptr
  cases hdn : D.down <;> rw [hdn] at c1 hD'
  case true =>
    clear hlk
    go_enter Try.func84, Try.ntmps84
    go_wp2
    go_ret
    exact ⟨by rw [hD'.out]; rfl, rfl⟩
  case false =>
    generalize D.files = fs at *
    clear hdn
    go_enter Try.func84, Try.ntmps84
    go_wp2
    go_loop [18] (fun i => ∃ k : Nat, k ≤ n ∧ i = .int .i64 k ∧ Hid ((ss.take k).all (fun s => (findF fs s).isSome) = true)) (fun i => n - (intOf i).toNat)
    case atStart => exact ⟨0, by omega, rfl, rfl⟩
    case round =>
      obtain ⟨k, hk, rfl, hH⟩ := hrel
      by_cases hkn : k < n
      · have hkl : k < ss.length := by rw [hn'.out]; exact hkn
        obtain ⟨b', off, rfl, hcell⟩ := hr.at (by omega)
        obtain ⟨s, hs⟩ : ∃ s, ss[k]? = some s := ⟨ss[k], by simp [hkl]⟩
        have hc := hcell k s hs
        have hst : Hid ((ss.take (k + 1)).all (fun s => (findF fs s).isSome) = ((ss.take k).all (fun s => (findF fs s).isSome) && (findF fs s).isSome)) := by show _ = _; rw [List.take_add_one, hs]; simp
        have hfa : Hid ((findF fs s).isSome = false → ss.all (fun s => (findF fs s).isSome) = false) := by
          intro h
          cases hh : ss.all (fun s => (findF fs s).isSome)
          · rfl
          · rw [List.all_eq_true] at hh; rw [hh s (List.mem_of_getElem? hs)] at h; cases h
        have hlk1 := hlk s
        clear hs hcell hr hkl hlk
        unfold lookV at hlk1
        cases hf : findF fs s with
        | none =>
          rw [hf] at hlk1 hst hfa
          dsimp only at hlk1
          have hr' : Hid (r = 9) := by show _ = _; rw [hD'.out, hfa.out rfl]; rfl
          clear hf
          go_wp2
          go_ret
          exact ⟨by rw [hr'.out]; rfl, rfl⟩
        | some f =>
          rw [hf] at hlk1 hst hfa
          unfold ptr at hlk1
          dsimp only at hlk1
          clear hf
          go_wp2
          go_round
          case measure => simp [intOf]; omega
          case rel => exact ⟨k + 1, by omega, by go_num, by show _ = _; rw [hst.out, hH.out]; rfl⟩
      · have hr' : Hid (r = 0) := by
          show _ = _
          have := hH.out
          rw [List.take_of_length_le (by rw [hn'.out]; omega)] at this
          rw [hD'.out, this]; rfl
        clear hlk
        go_wp2
        go_ret
        exact ⟨by rw [hr'.out]; rfl, rfl⟩
end Go.Proofs.Ytndpmjanflahhaa

/-
  The files' map, stored into and deleted from, at the machine's operations; disk.Create.
-/
namespace Go.Proofs.Ytndpmjanflahhaa
open Go.RowKit Go.MapKept

theorem heap_put {w : World} {r : Nat} {o o' : Obj} (hb : w.heap[r]? = some o) : w.grownBy { w with heap := w.heap.setIfInBounds r o' } (some r) :=
  ⟨rfl, rfl, rfl, by simp, fun k _ hne => (heap_set hb).2 k (fun e => hne (by rw [e]))⟩

theorem keys_of_map {es : Array MapEntry} {l : List (Value × Value)} (he : es.toList.map (fun e => (e.key, e.val)) = l) {P : Value → Prop} (h : ∀ p ∈ l, P p.1) : ∀ x ∈ es.toList, P x.key := by
  intro x hx
  exact h (x.key, x.val) (by rw [← he]; exact List.mem_map.2 ⟨x, hx, rfl⟩)

set_option maxRecDepth 100000 in
theorem run_put {w : World} {m : Nat} {l : List (Value × Value)} (h : IsMap w m l) (n : ByteArray) (v : Value) (hk : ∀ p ∈ l, IsKey .string p.1) (hn : ∀ p ∈ l, p.1 ≠ .string n) :
    ∃ w', (Instr.mapUpdate 117 (.map (some m)) (.string n) v).run Try.prog w = .ok () w' ∧ IsMap w' m (l ++ [(.string n, v)]) ∧ w.grownBy w' (some m) := by
  obtain ⟨es, clock, hb, hs, he⟩ := h
  have hm := Try.underlying117
  have hd := Try.underlying9
  have hkey : IsKey .string (.string n) := trivial
  rcases findNow_spec hkey es.toList 0 (keys_of_map he hk) with ⟨h1, h2⟩ | ⟨j, e, h1, h2, h3⟩
  · refine ⟨{ w with heap := w.heap.setIfInBounds m (.map (es.push { key := .string n, val := v, born := clock }) (clock + 1)) }, ?_, ⟨_, _, (heap_set hb).1, stamped_push hs h2, ?_⟩, heap_put hb⟩
    · simp [Instr.mapUpdate, run_underlying hm, MapKept.run_getObj_map hb, run_checkKey hd hkey, run_findKey hd h1, MapKept.run_setObj_map _ hb, Result.andThen]
    · simp [he]
  · exact absurd h3 (keys_of_map (P := fun k => k ≠ .string n) he hn e (List.mem_of_getElem? h2))

theorem wpList_put {w : World} {ops : Array Oper} {rest : List Oper} {o : Oper} {a : Act} {Q : Exit → Act → World → Prop}
    (hg : o.guard = none) (mo x v : Operand) (hop : o.op = Op.mapUpdate 117 mo x v) (m : Nat) (n : ByteArray) (val : Value) (l : List (Value × Value))
    (hm : a.eval mo = .map (some m)) (hx : a.eval x = .string n) (hv : a.eval v = val) (h : IsMap w m l) (hk : ∀ p ∈ l, IsKey .string p.1) (hn : ∀ p ∈ l, p.1 ≠ .string n)
    (hK : ∀ w', IsMap w' m (l ++ [(.string n, val)]) → w.grownBy w' (some m) → wpList Try.prog ops Q rest (a.put o.dst undef) w') :
    wpList Try.prog ops Q (o :: rest) a w := by
  refine wpList_plain hg fun K' hK' => ?_
  obtain ⟨w', hrun, r1, r2⟩ := run_put h n val hk hn
  unfold Oper.wp
  simp [execOp, hop, hm, hx, hv, hrun, Result.andThen]
  exact hK' _ _ (hK w' r1 r2)

theorem entry_keys (l : List FileA) : ∀ p ∈ l.map FileA.entry, IsKey .string p.1 := by
  intro p hp; obtain ⟨f, _, rfl⟩ := List.mem_map.1 hp; trivial
theorem entry_new {l : List FileA} {n : ByteArray} (h : findF l n = none) : ∀ p ∈ l.map FileA.entry, p.1 ≠ .string n := by
  intro p hp; obtain ⟨f, hf, rfl⟩ := List.mem_map.1 hp
  intro e
  have : f.name = n := by unfold FileA.entry at e; injection e
  exact findF_none h f hf this

def DiskA.addFile (D : DiskA) (n : ByteArray) (id : Nat) : DiskA := { D with files := D.files ++ [⟨n, id, ByteArray.empty, ByteArray.empty⟩] }
/-- What Create tells, and leaves: 'id': a new file's block. -/
def DiskA.create (D : DiskA) (n : ByteArray) (id : Nat) : Int × DiskA :=
  if D.down then (8, D) else if (findF D.files n).isSome then (10, D) else if D.burn.1 then (0, D.burn.2.addFile n id) else (8, D.burn.2)

theorem burn_files (D : DiskA) : D.burn.2.files = D.files ∧ D.burn.2.waits = D.waits ∧ D.burn.2.cap = D.cap := by
  unfold DiskA.burn; split
  · exact ⟨rfl, rfl, rfl⟩
  · split <;> exact ⟨rfl, rfl, rfl⟩

theorem nodup_snoc {α : Type} {l : List α} {a : α} (h : l.Nodup) (ha : ∀ x ∈ l, x ≠ a) : (l ++ [a]).Nodup := by
  rw [List.nodup_append]
  exact ⟨h, by simp, fun x hx y hy => by simp at hy; subst hy; exact ha x hx⟩

theorem DiskA.Ok.addFile {D : DiskA} (h : D.Ok) {n : ByteArray} {id : Nat} (hf : findF D.files n = none) (hid : ∀ f ∈ D.files, f.id ≠ id) (hn : n.size ≤ 140737488351232) (hfl : D.files.length < 4294967296) : (D.addFile n id).Ok := by
  refine ⟨?_, ?_, h.left, h.cap, ?_, ?_, ?_, ?_⟩
  · show ((D.files ++ _).map _).Nodup
    rw [List.map_append]
    exact nodup_snoc h.names (fun x hx => by obtain ⟨f, hf', rfl⟩ := List.mem_map.1 hx; exact findF_none hf f hf')
  · show ((D.files ++ _).map _).Nodup
    rw [List.map_append]
    exact nodup_snoc h.ids (fun x hx => by obtain ⟨f, hf', rfl⟩ := List.mem_map.1 hx; exact hid f hf')
  · show ((D.files ++ _).map _).sum ≤ D.cap
    rw [List.map_append, List.sum_append]
    have := h.size
    simpa using this
  · intro f hf'
    rcases List.mem_append.1 hf' with h1 | h1
    · exact h.nameLen f h1
    · simp at h1; subst h1; exact hn
  · show (D.files ++ _).length ≤ _
    rw [List.length_append]; simp; omega
  · intro x hx
    obtain ⟨f, hf', e⟩ := h.waits x hx
    exact ⟨f, List.mem_append.2 (.inl hf'), e⟩

theorem owns_kept {w w' : World} {e : TypeId} {size : Nat} {v : Value} {n : Nat} {xs : List Value} (h : w.ownsRow 0 e size v n xs) (hk : ∀ g, v.ownBlock = some g → w'.heap[g]? = w.heap[g]?) : w'.ownsRow 0 e size v n xs := by
  obtain ⟨h1, h2⟩ := h
  refine ⟨h1, ?_⟩
  rcases h2 with h2 | ⟨g, cap, cur, hv, hg, hh, r⟩
  · exact Or.inl h2
  · refine Or.inr ⟨g, cap, cur, hv, hg, ?_, r⟩
    rw [hk g (by rw [hv]; rfl)]; exact hh

theorem add_file {b : Nat} {D : DiskA} {F : Nat → Prop} {w1 w2 : World} (hd : IsDisk w1 b D F) {m : Nat} {v : Value} (hb : Blk w1 b #[.int .i64 D.left, .bool D.down, .map (some m), v, .int .i64 D.cap] 120)
    (hm : IsMap w1 m (D.files.map FileA.entry)) (hr : w1.ownsRow 0 127 3 v D.waits.length (waitCells D.waits)) (fm : F m) (fg : ∀ g, v.ownBlock = some g → F g) {n : ByteArray}
    (hm2 : IsMap w2 m (D.files.map FileA.entry ++ [(.string n, .pointer (some ⟨w1.heap.size, 0, none⟩))])) (hg2 : (w1.alloc (.cells #[.string ByteArray.empty, .string ByteArray.empty] 124)).grownBy w2 (some m))
    (hf : findF D.files n = none) (hn : n.size ≤ 140737488351232) (hfl : D.files.length < 4294967296) :
    IsDisk w2 b (D.addFile n w1.heap.size) (fun k => F k ∨ k = w1.heap.size) ∧ Step F w1 (fun k => F k ∨ k = w1.heap.size) w2 := by
  have hid : ∀ f ∈ D.files, f.id ≠ w1.heap.size := fun f hf' e => by have := (hd.files f hf').2.lt; omega
  have hsz : (w1.alloc (.cells #[.string ByteArray.empty, .string ByteArray.empty] 124)).heap.size = w1.heap.size + 1 := by simp
  have keep : ∀ k, k < w1.heap.size → k ≠ m → w2.heap[k]? = w1.heap[k]? := fun k hk hne =>
    (hg2.block k (by omega) (fun e => hne (by injection e))).trans (heap_alloc_old w1 _ hk)
  have hbm : b ≠ m := by
    rintro rfl
    obtain ⟨es, c, h1, _⟩ := hm
    unfold Blk at hb; rw [h1] at hb; cases hb
  have blkm : ∀ k c T, Blk w1 k c T → k ≠ m := by
    rintro k c T hk rfl
    obtain ⟨es, c, h1, _⟩ := hm
    unfold Blk at hk; rw [h1] at hk; cases hk
  refine ⟨⟨hd.ok.addFile hf hid hn hfl, ⟨m, v, hb.at (keep b hb.lt hbm), ?_, ?_, .inl fm, fun g hg => .inl (fg g hg)⟩, .inl hd.own, ?_⟩, ?_⟩
  · show IsMap w2 m ((D.files ++ _).map FileA.entry)
    rw [List.map_append]; exact hm2
  · refine owns_kept hr (fun g hg => keep g ?_ ?_)
    · exact (World.ownsRow.lt hr g hg).2
    · obtain ⟨_, h2⟩ := hr
      rcases h2 with ⟨h2, _⟩ | ⟨g', cap, cur, hv, _, hh, _⟩
      · rw [h2] at hg; cases hg
      · rw [hv] at hg; injection hg with hg; subst hg
        rintro rfl
        obtain ⟨es, c, h1, _⟩ := hm
        rw [h1] at hh; cases hh
  · intro f hf'
    rcases List.mem_append.1 hf' with h1 | h1
    · exact ⟨.inl (hd.files f h1).1, (hd.files f h1).2.at (keep f.id (hd.files f h1).2.lt (blkm _ _ _ (hd.files f h1).2))⟩
    · simp at h1; subst h1
      refine ⟨.inr rfl, ?_⟩
      show Blk w2 w1.heap.size #[.string ByteArray.empty, .string ByteArray.empty] 124
      have hne : w1.heap.size ≠ m := by have := hm.lt; omega
      exact (Blk.new w1 _ _).at (hg2.block _ (by omega) (fun e => hne (by injection e)))
  · refine ⟨hg2.os, hg2.tape, hg2.output, by have := hg2.size; omega, ?_, ?_⟩
    · intro k hk hnf
      exact keep k hk (by rintro rfl; exact hnf fm)
    · rintro k (h1 | h1)
      · exact .inl h1
      · exact .inr (by omega)

set_option maxHeartbeats 1000000 in
theorem Create_any (b : Nat) (D : DiskA) (F : Nat → Prop) (w : World) (h : IsDisk w b D F) (n : ByteArray) (hn : n.size ≤ 140737488351232) (hfl : D.files.length < 4294967296) :
    Calls Try.prog 41 #[ptr b, .string n] w fun e w' => ∃ id F', e = .returned (errn (D.create n id).1) ∧ IsDisk w' b (D.create n id).2 F' ∧ Step F w F' w' ∧ (∀ f ∈ D.files, f.id ≠ id) := by
  obtain ⟨m, v, hb, hm, hrow, fm, fg⟩ := h.head
  have c2 : w.cell? ⟨b, 2, none⟩ = some (.map (some m)) := hb.cell 2
  have hlk := run_look h.ok.names hm n
  have cb := bars_any b D F w h none 0 [] (by simp) (fun i s hi => by simp at hi)
  have cd := done_any b D F w h
  have hcr : ∀ id, D.create n id = if D.down then (8, D) else if (findF D.files n).isSome then (10, D) else if D.burn.1 then (0, D.burn.2.addFile n id) else (8, D.burn.2) := fun _ => rfl
  have hcr' := Lib.hid hcr
  have hbars : D.bars [] = if D.down then 8 else 0 := rfl
  rw [hbars] at cb
  clear hcr hbars
  have hsz : ∃ id, ∀ f ∈ D.files, f.id ≠ id := ⟨w.heap.size, fun f hf e => by have := (h.files f hf).2.lt; omega⟩
  obtain ⟨id0, hid0⟩ := hsz
  cases hdn : D.down
  case true =>
    rw [hdn] at cb
    have hr : ∀ id, Hid (D.create n id = (8, D)) := fun id => by show _ = _; rw [hcr'.out, hdn]; rfl
    clear hdn hlk cd
    unfold ptr errn at *
    go_enter Try.func41, Try.ntmps41
    go_wp2_with (go_at_call 84; refine cb.mono ?_; rintro e w' ⟨rfl, rfl⟩)
    go_ret
    exact ⟨id0, F, by rw [(hr id0).out]; rfl, by rw [(hr id0).out]; exact h, Step.refl _ _, hid0⟩
  case false =>
    rw [hdn] at cb
    simp only [Bool.false_eq_true, if_false] at cb
    cases hf : findF D.files n with
    | some f =>
      have hr : ∀ id, Hid (D.create n id = (10, D)) := fun id => by show _ = _; rw [hcr'.out, hdn, hf]; rfl
      unfold lookV at hlk
      rw [hf] at hlk
      dsimp only at hlk
      clear hdn hf cd
      unfold ptr errn at *
      go_enter Try.func41, Try.ntmps41
      go_wp2_with (go_at_call 84; refine cb.mono ?_; rintro e w' ⟨rfl, rfl⟩)
      go_ret
      exact ⟨id0, F, by rw [(hr id0).out]; rfl, by rw [(hr id0).out]; exact h, Step.refl _ _, hid0⟩
    | none =>
      unfold lookV at hlk
      rw [hf] at hlk
      dsimp only at hlk
      cases hp : D.burn.1
      · rw [hp] at cd
        have hr : ∀ id, Hid (D.create n id = (8, D.burn.2)) := fun id => by show _ = _; rw [hcr'.out, hdn, hf, hp]; rfl
        clear hdn hf hp
        unfold ptr errn at *
        go_enter Try.func41, Try.ntmps41
        go_wp2_with (first
          | (go_at_call 84; refine cb.mono ?_; rintro e w' ⟨rfl, rfl⟩)
          | (go_at_call 85; refine cd.mono ?_; rintro e w1 ⟨rfl, hd1, hs1⟩))
        go_ret
        exact ⟨id0, F, by rw [(hr id0).out]; rfl, by rw [(hr id0).out]; exact hd1, hs1, hid0⟩
      · rw [hp] at cd
        have hr : ∀ id, Hid (D.create n id = (0, D.burn.2.addFile n id)) := fun id => by show _ = _; rw [hcr'.out, hdn, hf, hp]; rfl
        have hbf := burn_files D
        have hf' : Hid (findF D.burn.2.files n = none) := by show _ = _; rw [hbf.1]; exact hf
        clear hdn hf hp
        unfold ptr errn at *
        go_enter Try.func41, Try.ntmps41
        go_wp2_with (first
          | (go_at_call 84; refine cb.mono ?_; rintro e w' ⟨rfl, rfl⟩)
          | (go_at_call 85; refine cd.mono ?_; rintro e w1 ⟨rfl, hd1, hs1⟩; obtain ⟨m1, v1, hb1, hm1, hr1, fm1, fg1⟩ := hd1.head; have c21 : w1.cell? ⟨b, 2, none⟩ = some (.map (some m1)) := hb1.cell 2)
          | (at_mapUpdate; refine wpList_put rfl _ _ _ rfl m1 n _ (D.burn.2.files.map FileA.entry) rfl rfl rfl (hm1.at (heap_alloc_old _ _ hm1.lt)) (entry_keys _) (entry_new hf'.out) ?_; intro w2 hm2 hg2))
        go_ret
        obtain ⟨hd2, hs2⟩ := add_file hd1 hb1 hm1 hr1 fm1 fg1 hm2 hg2 hf'.out hn (by rw [hbf.1]; exact hfl)
        exact ⟨w1.heap.size, _, by rw [(hr _).out]; rfl, by rw [(hr _).out]; exact hd2, hs1.trans hs2, fun f hfm e => by have := (hd1.files f (by rw [hbf.1]; exact hfm)).2.lt; omega⟩
end Go.Proofs.Ytndpmjanflahhaa

/-
  disk.New, Down, Waits, Fuse, All.
-/
namespace Go.Proofs.Ytndpmjanflahhaa
open Go.RowKit Go.MapKept

def capOf (c : Int) : Nat := (min (max c 0) 16777216).toNat
def newD (c : Int) : DiskA := ⟨-1, false, capOf c, [], []⟩
theorem newD_ok (c : Int) : (newD c).Ok :=
  ⟨by simp [newD], by simp [newD], ⟨by simp [newD], by simp [newD]⟩, by simp [newD, capOf]; omega, by simp [newD], by simp [newD], by simp [newD], by simp [newD]⟩

set_option maxHeartbeats 1000000 in
theorem New_any (c : Int) (w : World) (hc : -9223372036854775808 ≤ c ∧ c ≤ 9223372036854775807) :
    Calls Try.prog 40 #[.int .i64 c] w fun e w' => ∃ b F, e = .returned (ptr b) ∧ IsDisk w' b (newD c) F ∧ Below w.heap.size w w' ∧ (∀ k, F k → w.heap.size ≤ k) := by
  have hmm := @run_makeMap Try.prog
  obtain ⟨h1, h2⟩ := hc
  go_enter Try.func40, Try.ntmps40
  go_wp2
  go_ret
  refine ⟨w.heap.size + 1, fun k => w.heap.size ≤ k, rfl, ?_, ?_, fun k hk => hk⟩
  · refine ⟨newD_ok c, ⟨w.heap.size, .slice none 0 0, ?_, ?_, ⟨rfl, .inl ⟨rfl, rfl⟩⟩, Nat.le_refl _, by simp [Value.ownBlock]⟩, by show _ ≤ _; omega, by simp [newD]⟩
    · have e : ((newD c).cap : Int) = min (max c 0) 16777216 := by simp [newD, capOf]; omega
      rw [e]
      have := Blk.new (w.alloc (Obj.map #[] 0)) #[Value.int IntKind.i64 (-1), Value.bool false, Value.map (some w.heap.size), Value.slice none 0 0, Value.int IntKind.i64 (min (max c 0) 16777216)] 120
      simpa [newD] using this
    · refine ⟨#[], 0, ?_, stamped_empty 0, rfl⟩
      rw [heap_alloc_old _ _ (by simp)]; exact heap_alloc_new w _
  · exact ((Below.refl _ w).alloc (Nat.le_refl _) _).alloc (by simp) _

theorem Down_any (b : Nat) (D : DiskA) (F : Nat → Prop) (w : World) (h : IsDisk w b D F) :
    Calls Try.prog 46 #[ptr b] w fun e w' => e = .returned (.bool D.down) ∧ w = w' := by
  obtain ⟨m, v, hb, hm, hrow, fm, fg⟩ := h.head
  have c1 : w.cell? ⟨b, 1, none⟩ = some (.bool D.down) := hb.cell 1
  unfold ptr
  go_enter Try.func46, Try.ntmps46
  go_wp2
  go_ret
  exact ⟨rfl, rfl⟩

theorem Waits_any (b : Nat) (D : DiskA) (F : Nat → Prop) (w : World) (h : IsDisk w b D F) :
    Calls Try.prog 54 #[ptr b] w fun e w' => e = .returned (.int .i64 (D.waits.length : Nat)) ∧ w = w' := by
  obtain ⟨m, v, hb, hm, hrow, fm, fg⟩ := h.head
  have hv : ∃ a cap, v = .slice a D.waits.length cap := by
    obtain ⟨_, h2⟩ := hrow
    rcases h2 with ⟨h2, h3⟩ | ⟨g, cap, cur, hv, _⟩
    · exact ⟨none, 0, by rw [h2, h3]⟩
    · exact ⟨_, cap, hv⟩
  obtain ⟨a, cap, rfl⟩ := hv
  have c3 : w.cell? ⟨b, 3, none⟩ = some (.slice a D.waits.length cap) := hb.cell 3
  unfold ptr
  go_enter Try.func54, Try.ntmps54
  go_wp2
  go_ret
  exact ⟨rfl, rfl⟩

def DiskA.fuse (D : DiskA) (n : Int) : DiskA := { D with left := max n (-1) }
theorem Fuse_any (b : Nat) (D : DiskA) (F : Nat → Prop) (w : World) (h : IsDisk w b D F) (n : Int) (hn : -9223372036854775808 ≤ n ∧ n ≤ 9223372036854775807) :
    Calls Try.prog 91 #[ptr b, .int .i64 n] w fun e w' => e = .returned (.tuple #[]) ∧ IsDisk w' b (D.fuse n) F ∧ Step F w F w' := by
  obtain ⟨m, v, hb, hm, hrow, fm, fg⟩ := h.head
  have c0 : w.cell? ⟨b, 0, none⟩ = some (.int .i64 D.left) := hb.cell 0
  have f0 := hb.frozen 0
  obtain ⟨h1, h2⟩ := hn
  unfold ptr
  go_enter Try.func91, Try.ntmps91
  go_wp2
  go_end0
  refine ⟨rfl, ?_, (Step.refl F w).setCell _ _ (.inl h.own)⟩
  refine h.head_set (fun k hk => setCell_heap _ _ _ _ hk) ⟨h.ok.names, h.ok.ids, ?_, h.ok.cap, h.ok.size, h.ok.nameLen, h.ok.files, h.ok.waits⟩ rfl rfl (fun m v hb => hb.set 0 _)
  show -1 ≤ max n (-1) ∧ max n (-1) ≤ _
  omega

/-- What All tells. -/
def DiskA.all (D : DiskA) (n : ByteArray) : ByteArray × Int :=
  if D.down then (ByteArray.empty, 8) else match findF D.files n with | some f => (f.now, 0) | none => (ByteArray.empty, 9)
theorem bars_one (D : DiskA) (n : ByteArray) : D.bars [n] = if D.down then 8 else if (findF D.files n).isSome then 0 else 9 := by
  unfold DiskA.bars; simp

set_option maxHeartbeats 1000000 in
theorem All_any (b : Nat) (D : DiskA) (F : Nat → Prop) (w : World) (h : IsDisk w b D F) (n : ByteArray) :
    Calls Try.prog 45 #[ptr b, .string n] w fun e w' => e = .returned (.tuple #[.string (D.all n).1, errn (D.all n).2]) ∧ Below w.heap.size w w' ∧ IsDisk w' b D F := by
  have hw1 : IsDisk (w.alloc (.cells #[.string n] 9)) b D F := h.below ((Below.refl _ w).alloc (Nat.le_refl _) _)
  have hB : Below w.heap.size w (w.alloc (.cells #[.string n] 9)) := (Below.refl _ w).alloc (Nat.le_refl _) _
  have hS : StrSl (w.alloc (.cells #[.string n] 9)) (some ⟨w.heap.size, 0, none⟩) [n] := fun i s hi => by
    cases i with
    | zero => simp at hi; subst hi; exact ⟨_, 0, rfl, by simp⟩
    | succ i => simp at hi
  have cb := bars_any b D F _ hw1 _ 1 [n] (by simp) hS
  rw [bars_one] at cb
  obtain ⟨m, v, hb, hm, hrow, fm, fg⟩ := hw1.head
  have c2 : (w.alloc (.cells #[.string n] 9)).cell? ⟨b, 2, none⟩ = some (.map (some m)) := hb.cell 2
  have hlk := run_look h.ok.names hm n
  unfold lookV at hlk
  have hA : D.all n = if D.down then (ByteArray.empty, (8 : Int)) else match findF D.files n with | some f => (f.now, (0 : Int)) | none => (ByteArray.empty, (9 : Int)) := rfl
  have hA' := Lib.hid hA
  clear hA
  unfold ptr errn at *
  cases hdn : D.down
  case true =>
    rw [hdn] at cb
    have hr : Hid (D.all n = (ByteArray.empty, 8)) := by show _ = _; rw [hA'.out, hdn]; rfl
    clear hdn hlk
    go_enter Try.func45, Try.ntmps45
    go_wp2_with (go_at_call 84; refine cb.mono ?_; rintro e w' ⟨rfl, rfl⟩)
    go_ret2
    exact ⟨by rw [hr.out]; rfl, hB, hw1⟩
  case false =>
    rw [hdn] at cb
    simp only [Bool.false_eq_true, if_false] at cb
    cases hf : findF D.files n with
    | none =>
      rw [hf] at cb hlk
      dsimp only at hlk
      have hr : Hid (D.all n = (ByteArray.empty, 9)) := by show _ = _; rw [hA'.out, hdn, hf]; rfl
      clear hdn hf hlk
      go_enter Try.func45, Try.ntmps45
      go_wp2_with (go_at_call 84; refine cb.mono ?_; rintro e w' ⟨rfl, rfl⟩)
      go_ret2
      exact ⟨by rw [hr.out]; rfl, hB, hw1⟩
    | some f =>
      rw [hf] at cb hlk
      dsimp only at hlk
      have hr : Hid (D.all n = (f.now, 0)) := by show _ = _; rw [hA'.out, hdn, hf]; rfl
      have hfb := (hw1.files f (findF_some hf).1).2
      have cf : (w.alloc (.cells #[.string n] 9)).cell? ⟨f.id, 1, none⟩ = some (.string f.now) := hfb.cell 1
      clear hdn hf
      go_enter Try.func45, Try.ntmps45
      go_wp2_with (go_at_call 84; refine cb.mono ?_; rintro e w' ⟨rfl, rfl⟩)
      go_ret2
      exact ⟨by rw [hr.out]; rfl, hB, hw1⟩
end Go.Proofs.Ytndpmjanflahhaa

/-
  Ranging over the files' map: the iterator's block, what a step of it tells; disk.Size.
-/
namespace Go.Proofs.Ytndpmjanflahhaa
open Go.RowKit Go.MapKept

theorem run_next_at {P : Program} (w : World) (r bm since c0 : Nat) (seen : Array Nat) (es : Array MapEntry) (clock : Nat) (hr : w.heap[r]? = some (.mapIter (some bm) since seen c0)) (hb : w.heap[bm]? = some (.map es clock))
    (hold : ∀ x ∈ es.toList, x.born < since) (hsc : since ≤ c0) :
    ((leftOf es seen).size = 0 ∧ ∀ ty, (Instr.next (.pointer (some ⟨r, 0, none⟩)) false ty).run P w = .ok (.tuple #[.bool false]) w) ∨
    ∃ e ∈ (leftOf es seen).toList, ∃ w' : World, w.grownBy w' (some r) ∧ w'.heap[r]? = some (.mapIter (some bm) since (seen.push e.born) clock) ∧ w'.heap.size = w.heap.size ∧
      ∀ ty, (Instr.next (.pointer (some ⟨r, 0, none⟩)) false ty).run P w = .ok (.tuple #[.bool true, e.key, e.val]) w' := by
  simp only [Instr.next, getObj, Sem.run_bind, Sem.run, hr, hb, Result.andThen, next_test_false seen es since c0 hold hsc, Bool.false_eq_true, if_false]
  unfold leftOf
  have hmem : ∀ x ∈ (Array.filter (fun e => !seen.contains e.born) es).toList, x.born < since := fun x hx => hold x (by simp at hx ⊢; exact hx.1)
  generalize Array.filter (fun e => !seen.contains e.born) es = L at hmem ⊢
  have e1 : L.filter (fun x => decide (x.born < since)) = L := Array.filter_eq_self.2 (fun x hx => by simpa using hmem x (by simpa using hx))
  have e2 : L.filter (fun x => decide (x.born ≥ since)) = #[] := by
    rw [Array.filter_eq_empty_iff]
    intro x hx
    have := hmem x (by simpa using hx)
    simp
    omega
  simp only [e1, e2, Array.append_empty]
  by_cases h0 : L.size = 0
  · left
    have : L = #[] := Array.eq_empty_of_size_eq_zero h0
    subst this
    refine ⟨rfl, fun _ => ?_⟩
    simp [choose, Sem.run, Question.forced]
  · right
    have hne : L.isEmpty = false := by simp [Array.isEmpty, h0]
    simp only [hne, Bool.false_eq_true, if_false, Array.empty_append, Array.size_map]
    have hch : ∃ (j : Nat) (w1 : World), j < L.size ∧ w1.Alike w ∧ (choose (Question.mapNext L.size)).run P w = .ok j w1 := by
      by_cases hf : L.size ≤ 1
      · exact ⟨0, w, by omega, ⟨rfl, rfl, rfl⟩, by simp [choose, Sem.run, Question.forced, hf]⟩
      · exact ⟨_, w.drew, Nat.mod_lt _ (by omega), ⟨rfl, rfl, rfl⟩, by
          simp only [choose, Sem.run, Question.forced, decide_eq_true_eq, hf, if_false, Question.cut]
          rfl⟩
    obtain ⟨j, w1, hj, hal, hrun⟩ := hch
    have hr1 : w1.heap[r]? = some (.mapIter (some bm) since seen c0) := by rw [hal.1]; exact hr
    have ht : w1.tape = w.tape := by
      by_cases hf : L.size ≤ 1
      · have : (choose (Question.mapNext L.size)).run P w = .ok 0 w := by simp [choose, Sem.run, Question.forced, hf]
        rw [this] at hrun; injection hrun with _ h; rw [← h]
      · have : (choose (Question.mapNext L.size)).run P w = .ok (w.tape w.drawn (.mapNext L.size) % L.size) w.drew := by
          simp only [choose, Sem.run, Question.forced, decide_eq_true_eq, hf, if_false, Question.cut]
          rfl
        rw [this] at hrun; injection hrun with _ h; rw [← h]; rfl
    refine ⟨L[j], by simp, { w1 with heap := w1.heap.setIfInBounds r (.mapIter (some bm) since (seen.push L[j].born) clock) }, ⟨hal.2.1, ht, hal.2.2, by simp [hal.1], ?_⟩, (heap_set hr1).1, by simp [hal.1], fun _ => ?_⟩
    · intro k _ hne
      rw [← hal.1]
      exact (heap_set hr1).2 k (fun e => hne (by rw [e]))
    · have hset : ∀ o', (setObj r o').run P w1 = .ok () { w1 with heap := w1.heap.setIfInBounds r o' } := fun o' => by
        simp only [setObj, Sem.run, hr1]
      simp only [hrun, Array.getElem?_map, Array.getElem?_eq_getElem hj, Option.map_some, Sem.run_bind, hset, Result.andThen]
      rfl

theorem run_entry_at {P : Program} (w : World) (r bm since : Nat) (seen : Array Nat) (es : Array MapEntry) (clock : Nat) (e : MapEntry) (hr : w.heap[r]? = some (.mapIter (some bm) since (seen.push e.born) clock)) (hb : w.heap[bm]? = some (.map es clock)) (he : e ∈ es.toList) (hn : (es.toList.map (·.born)).Nodup) :
    (Instr.entry (.pointer (some ⟨r, 0, none⟩))).run P w = .ok (.tuple #[e.key, e.val]) w := by
  have hf : es.find? (·.born == e.born) = some e := by rw [← Array.find?_toList]; exact find_born e es.toList hn he
  simp only [Instr.entry, getObj, Sem.run_bind, Sem.run, hr, hb, Result.andThen, Array.back?_push, bne_self_eq_false, Bool.false_eq_true, if_false, hf]
  rfl

/-- An iterator over the files' map: these are left. -/
def Iter (w : World) (r m : Nat) (fs left : List FileA) : Prop :=
  ∃ es clock seen, w.heap[r]? = some (.mapIter (some m) clock seen clock) ∧ w.heap[m]? = some (.map es clock) ∧ Stamped es clock ∧ es.toList.map (fun e => (e.key, e.val)) = fs.map FileA.entry ∧
    (leftOf es seen).toList.map (fun e => (e.key, e.val)) = left.map FileA.entry ∧ left.Sublist fs

def without (l : List FileA) (f : FileA) : List FileA := l.filter (fun g => !(g.name == f.name))

theorem Iter.at {w w' : World} {r m : Nat} {fs left : List FileA} (h : Iter w r m fs left) (hr : w'.heap[r]? = w.heap[r]?) (hm : w'.heap[m]? = w.heap[m]?) : Iter w' r m fs left := by
  obtain ⟨es, clock, seen, h1, h2, h3⟩ := h
  exact ⟨es, clock, seen, hr.trans h1, hm.trans h2, h3⟩

theorem pairs_filter {es : List MapEntry} {l : List FileA} (h : es.map (fun e => (e.key, e.val)) = l.map FileA.entry) (p : MapEntry → Bool) (q : FileA → Bool) (hpq : ∀ e ∈ es, ∀ f ∈ l, (e.key, e.val) = f.entry → p e = q f) :
    (es.filter p).map (fun e => (e.key, e.val)) = (l.filter q).map FileA.entry := by
  induction es generalizing l with
  | nil =>
    cases l with
    | nil => rfl
    | cons _ _ => simp at h
  | cons e t ih =>
    cases l with
    | nil => simp at h
    | cons f u =>
      simp only [List.map_cons, List.cons.injEq] at h
      have := hpq e (.head _) f (.head _) h.1
      have ih' := ih h.2 (fun e' he' f' hf' => hpq e' (.tail _ he') f' (.tail _ hf'))
      rw [List.filter_cons, List.filter_cons, this]
      split
      · rw [List.map_cons, List.map_cons, h.1, ih']
      · exact ih'

def clockOf (w : World) (m : Nat) : Nat := match w.heap[m]? with | some (.map _ c) => c | _ => 0
theorem Iter.start {w : World} {m : Nat} {fs : List FileA} (h : IsMap w m (fs.map FileA.entry)) :
    (Instr.range 117 (.map (some m))).run Try.prog w = .ok (.pointer (some ⟨w.heap.size, 0, none⟩)) (w.alloc (.mapIter (some m) (clockOf w m) #[] (clockOf w m))) ∧
    Iter (w.alloc (.mapIter (some m) (clockOf w m) #[] (clockOf w m))) w.heap.size m fs fs := by
  have hlt := h.lt
  obtain ⟨es, clock, hb, hs, he⟩ := h
  have hc : clockOf w m = clock := by unfold clockOf; rw [hb]
  rw [hc]
  refine ⟨run_range_map w _ _ _ m es clock Try.underlying117 hb, es, clock, #[], heap_alloc_new _ _, (heap_alloc_old _ _ hlt).trans hb, hs, he, ?_, List.Sublist.refl _⟩
  rw [← he]
  congr 1
  unfold leftOf
  simp

theorem Iter.next {w : World} {r m : Nat} {fs left : List FileA} (h : Iter w r m fs left) (hn : (fs.map (·.name)).Nodup) :
    (left = [] ∧ ∀ ty, (Instr.next (.pointer (some ⟨r, 0, none⟩)) false ty).run Try.prog w = .ok (.tuple #[.bool false]) w) ∨
    ∃ f ∈ left, f ∈ fs ∧ ∃ w', w.grownBy w' (some r) ∧ w'.heap.size = w.heap.size ∧ Iter w' r m fs (without left f) ∧
      (∀ ty, (Instr.next (.pointer (some ⟨r, 0, none⟩)) false ty).run Try.prog w = .ok (.tuple #[.bool true, .string f.name, .pointer (some ⟨f.id, 0, none⟩)]) w') ∧
      (Instr.entry (.pointer (some ⟨r, 0, none⟩))).run Try.prog w' = .ok (.tuple #[.string f.name, .pointer (some ⟨f.id, 0, none⟩)]) w' := by
  obtain ⟨es, clock, seen, hr, hm, hs, he, hl, hsub⟩ := h
  have hne : r ≠ m := by rintro rfl; rw [hr] at hm; cases hm
  rcases run_next_at (P := Try.prog) w r m clock clock seen es clock hr hm hs.1 (Nat.le_refl _) with ⟨h0, hrun⟩ | ⟨e, hel, w', hg, hr', hsz, hrun⟩
  · left
    have : (leftOf es seen).toList = [] := by simpa using Array.eq_empty_of_size_eq_zero h0
    rw [this] at hl
    exact ⟨by simpa using hl.symm, hrun⟩
  · right
    have hes := (mem_left hel).1
    have : (e.key, e.val) ∈ left.map FileA.entry := by rw [← hl]; exact List.mem_map.2 ⟨e, hel, rfl⟩
    obtain ⟨f, hf, hfe⟩ := List.mem_map.1 this
    have hff : f ∈ fs := hsub.subset hf
    have hk : e.key = .string f.name ∧ e.val = .pointer (some ⟨f.id, 0, none⟩) := by
      unfold FileA.entry ptr at hfe
      simp only [Prod.mk.injEq] at hfe
      exact ⟨hfe.1.symm, hfe.2.symm⟩
    have hm' : w'.heap[m]? = some (.map es clock) := (hg.block m (Array.getElem?_eq_some_iff.1 hm).1 (fun e => hne (by injection e with e; exact e.symm))).trans hm
    refine ⟨f, hf, hff, w', hg, hsz, ⟨es, clock, seen.push e.born, hr', hm', hs, he, ?_, List.filter_sublist.trans hsub⟩, ?_, ?_⟩
    · have e1 : (leftOf es (seen.push e.born)).toList = (leftOf es seen).toList.filter (fun x => !(x.born == e.born)) := by
        unfold leftOf
        rw [Array.toList_filter, Array.toList_filter, List.filter_filter]
        congr 1
        funext x
        rw [contains_push, Bool.not_or, Bool.and_comm]
      rw [e1]
      refine pairs_filter hl _ _ ?_
      intro x hx g hg2 hxg
      congr 1
      rw [Bool.eq_iff_iff, bytes_beq, beq_iff_eq]
      have hxk : x.key = .string g.name := by
        unfold FileA.entry at hxg; injection hxg
      constructor
      · intro hb
        have := born_inj hs.2.1 (mem_left hx).1 hes hb
        subst this
        rw [hk.1] at hxk; injection hxk with hxk; exact hxk.symm
      · intro hng
        have := entry_eq_of_key ((stamped_iff es clock).1 hs).2.2 (mem_left hx).1 hes (by rw [hxk, hk.1, hng])
        rw [this]
    · intro ty; rw [hrun ty, hk.1, hk.2]
    · rw [run_entry_at w' r m clock seen es clock e hr' hm' hes hs.2.1, hk.1, hk.2]

def sizes (l : List FileA) : Nat := (l.map (fun f => f.now.size)).sum
theorem sizes_without {l : List FileA} (hn : (l.map (·.name)).Nodup) {f : FileA} (hf : f ∈ l) : sizes l = f.now.size + sizes (without l f) := by
  induction l with
  | nil => cases hf
  | cons x t ih =>
    simp only [List.map_cons, List.nodup_cons] at hn
    unfold without
    rw [List.filter_cons]
    rcases List.mem_cons.1 hf with rfl | h
    · have e1 : (f.name == f.name) = true := (bytes_beq _ _).2 rfl
      have e2 : t.filter (fun g => !(g.name == f.name)) = t := by
        rw [List.filter_eq_self]
        intro g hg
        cases hh : (g.name == f.name)
        · rfl
        · exact absurd (List.mem_map.2 ⟨g, hg, (bytes_beq _ _).1 hh⟩) hn.1
      rw [e1, e2]; rfl
    · have hne : (x.name == f.name) = false := by
        cases hh : (x.name == f.name)
        · rfl
        · exact absurd (List.mem_map.2 ⟨f, h, ((bytes_beq _ _).1 hh).symm⟩) hn.1
      rw [hne]
      have := ih hn.2 h
      simp only [Bool.not_false, if_true]
      unfold sizes at *
      rw [List.map_cons, List.map_cons, List.sum_cons, List.sum_cons, this]
      unfold without
      omega
theorem without_length {l : List FileA} {f : FileA} (hf : f ∈ l) : (without l f).length < l.length := by
  unfold without
  rcases Nat.lt_or_ge (l.filter (fun g => !(g.name == f.name))).length l.length with h | h
  · exact h
  · have := List.Sublist.eq_of_length_le (List.filter_sublist (l := l) (p := fun g => !(g.name == f.name))) h
    have h2 := List.filter_eq_self.1 this f hf
    rw [(bytes_beq _ _).2 rfl] at h2; cases h2
end Go.Proofs.Ytndpmjanflahhaa

/-
  disk.Size, Room.
-/
namespace Go.Proofs.Ytndpmjanflahhaa
open Go.RowKit Go.MapKept

theorem nodup_sub {l k : List FileA} (h : l.Sublist k) (hn : (k.map (·.name)).Nodup) : (l.map (·.name)).Nodup := hn.sublist (h.map _)

set_option maxHeartbeats 1000000 in
set_option maxRecDepth 100000 in
theorem Size_any (b : Nat) (D : DiskA) (F : Nat → Prop) (w : World) (h : IsDisk w b D F) :
    Calls Try.prog 53 #[ptr b] w fun e w' => e = .returned (.int .i64 (sizes D.files : Nat)) ∧ Below w.heap.size w w' := by
  obtain ⟨m, v, hb, hm, hrow, fm, fg⟩ := h.head
  have c2 : w.cell? ⟨b, 2, none⟩ = some (.map (some m)) := hb.cell 2
  obtain ⟨hrg, hit⟩ := Iter.start hm
  have hsz : sizes D.files ≤ 16777216 := Nat.le_trans h.ok.size h.ok.cap
  have hnm := h.ok.names
  have hfiles : ∀ f ∈ D.files, Blk w f.id #[.string f.image, .string f.now] 124 := fun f hf => (h.files f hf).2
  have hmax : ∀ f ∈ D.files, f.now.size ≤ 16777216 := by
    intro f hf
    have := sizes_without hnm hf
    omega
  generalize D.files = fs at *
  have hsz' := Lib.hid hsz
  unfold ptr
  clear hm hrow fm fg h hb
  go_enter Try.func53, Try.ntmps53
  go_wp2
  go_loopg [3] fs.length (fun g s wr => ∃ (left : List FileA) (n : Nat), Iter wr w.heap.size m fs left ∧ Below w.heap.size w wr ∧ s = .int .i64 n ∧ n + sizes left = sizes fs ∧ left.length = g ∧ (left.map (·.name)).Nodup)
  case atStart => exact ⟨fs, 0, hit, (Below.refl _ w).alloc (Nat.le_refl _) _, rfl, by omega, rfl, hnm⟩
  case round =>
    obtain ⟨left, n, hI, hB, rfl, hn, hg, hln⟩ := hrel
    rcases hI.next hnm with ⟨rfl, hnx⟩ | ⟨f, hf, hff, w2, hg2, hsz2, hI2, hnx, hen⟩
    · have hn' : Hid (n = sizes fs) := by show _ = _; have := hn; simp [sizes] at this ⊢; omega
      clear hn hg
      go_wp2
      go_ret
      exact ⟨ret_int (by rw [hn'.out]), hB⟩
    · have hlt : f.id < w.heap.size := (hfiles f hff).lt
      have hB2 : Below w.heap.size w w2 := hB.grown hg2 (by have := hB.size; exact this) (fun k hk => by injection hk with hk; omega)
      have cf : w2.cell? ⟨f.id, 1, none⟩ = some (.string f.now) := ((hfiles f hff).at (hB2.block f.id hlt)).cell 1
      have hsw := sizes_without hln hf
      have hwl := without_length hf
      have hmx := hmax f hff
      have hb1 : n ≤ 16777216 := by have := hsz'.out; omega
      have hb2 : f.now.size ≤ 16777216 := hmx
      have hg' := Lib.hid hg
      have hn' := Lib.hid hn
      have hsw' := Lib.hid hsw
      clear hsz hn hg hsw hmx
      go_wp2
      go_roundg (without left f).length
      case measure => have := hg'.out; omega
      case rel => exact ⟨without left f, n + f.now.size, hI2, hB2, by go_num, by have := hn'.out; have := hsw'.out; omega, rfl, nodup_sub List.filter_sublist hln⟩

theorem Room_any (b : Nat) (D : DiskA) (F : Nat → Prop) (w : World) (h : IsDisk w b D F) :
    Calls Try.prog 56 #[ptr b] w fun e w' => e = .returned (.int .i64 ((D.cap : Int) - (sizes D.files : Nat))) ∧ Below w.heap.size w w' := by
  have hc := h.ok.cap
  have hsz : sizes D.files ≤ 16777216 := Nat.le_trans h.ok.size h.ok.cap
  have cS := Size_any b D F w.drew (h.below (Below.refl _ w).drew)
  obtain ⟨m, v, hb, hm, hrow, fm, fg⟩ := h.head
  have hb' := hb
  have c4 : w.cell? ⟨b, 4, none⟩ = some (.int .i64 D.cap) := hb.cell 4
  have hlt := hb.lt
  generalize sizes D.files = S at *
  generalize D.cap = C at *
  clear hm hrow fm fg h hb
  unfold ptr at *
  go_enter Try.func56, Try.ntmps56
  go_wp2
  go_region_with (go_at_call 53; refine cS.mono ?_; rintro e w1 ⟨rfl, hb1⟩; have c4' : w1.cell? ⟨b, 4, none⟩ = some (.int .i64 C) := (hb1.cell (p := ⟨b, 4, none⟩) hlt).trans c4)
  all_goals
    go_wp2
    go_ret
    refine ⟨ret_int ?_, (Below.refl _ w).drew.trans hb1⟩
    show IntKind.i64.wrap ((C : Int) - (S : Int)) = _
    exact Go.IntWalk.i64_in _ (by omega)
end Go.Proofs.Ytndpmjanflahhaa

/-
  A buffer of bytes that a call has made: out of a text, noughts appended, a text copied into it, and back to a text; disk.laid.
-/
namespace Go.Proofs.Ytndpmjanflahhaa
open Go.RowKit Go.MapKept

def byteV (b : UInt8) : Value := .int .u8 b.toNat
/-- Block g is a row of cap bytes, of which the first are L. -/
def Buf (w : World) (g cap : Nat) (L : List UInt8) : Prop :=
  ∃ cur lo hi, w.heap[g]? = some (.cells cur 5 (lo, hi)) ∧ cur.size = cap ∧ (lo = hi ∨ cap ≤ lo) ∧ L.length ≤ cap ∧ cur.toList.take L.length = L.map byteV

theorem Buf.lt {w : World} {g cap : Nat} {L : List UInt8} (h : Buf w g cap L) : g < w.heap.size := by
  obtain ⟨cur, lo, hi, h1, _⟩ := h; exact (Array.getElem?_eq_some_iff.1 h1).1
theorem Buf.cell {w : World} {g cap : Nat} {L : List UInt8} (h : Buf w g cap L) (j : Nat) (hj : j < L.length) : w.cell? ⟨g, j, none⟩ = some (byteV L[j]) := by
  obtain ⟨cur, lo, hi, h1, h2, h3, h4, h5⟩ := h
  have : cur[j]? = some (byteV L[j]) := by
    have e : (cur.toList.take L.length)[j]? = some (byteV L[j]) := by rw [h5]; simp [hj]
    rw [List.getElem?_take_of_lt hj] at e
    simpa using e
  simp [World.cell?, h1, this]

theorem frozen_off {w : World} {g cap : Nat} {cur : Array Value} {lo hi : Nat} {T : TypeId} (h1 : w.heap[g]? = some (.cells cur T (lo, hi))) (h3 : lo = hi ∨ cap ≤ lo) (j : Nat) (hj : j < cap) : w.frozen? ⟨g, j, none⟩ = false := by
  simp only [World.frozen?, h1]
  rw [Bool.and_eq_false_iff]
  rcases h3 with rfl | h3
  · by_cases h : lo ≤ j
    · right; simp; omega
    · left; simp; omega
  · left; simp; omega

theorem setCell_row (w : World) (g j : Nat) (cur : Array Value) (T : TypeId) (fr : Nat × Nat) (v : Value) (hg : w.heap[g]? = some (.cells cur T fr)) : w.setCell ⟨g, j, none⟩ v = w.setRow g (cur.setIfInBounds j v) :=
  setCell_eq_setRow w g j cur T fr v hg

theorem run_storeCells_off {P : Program} (g o : Nat) (T : TypeId) (lo hi : Nat) : ∀ (vs : List Value) (i : Nat) (cur : Array Value) (w : World), w.heap[g]? = some (.cells cur T (lo, hi)) → o + i + vs.length ≤ cur.size → (∀ v ∈ vs, v.oneCell' = true) → (lo = hi ∨ cur.size ≤ lo) →
    (storeCells ⟨g, o, none⟩ vs i).run P w = .ok () (w.setRow g (cur.toList.take (o + i) ++ vs ++ cur.toList.drop (o + i + vs.length)).toArray)
  | [], i, cur, w, hg, _, _, _ => by
    simp only [storeCells, List.append_nil, List.length_nil, Nat.add_zero, List.take_append_drop, Array.toArray_toList]
    rw [setRow_self w g cur T (lo, hi) hg]
    rfl
  | v :: rest, i, cur, w, hg, hl, h1, hfz => by
    have hi' : o + i < cur.size := by simp at hl; omega
    have hadd : (⟨g, o, none⟩ : Addr).add i = ⟨g, o + i, none⟩ := by unfold Addr.add; split <;> simp_all
    have hcell : w.cell? ⟨g, o + i, none⟩ = some cur[o + i] := by simp [World.cell?, hg, hi']
    have hfro : w.frozen? ⟨g, o + i, none⟩ = false := frozen_off hg hfz _ hi'
    have hst : (store ((⟨g, o, none⟩ : Addr).add i) v).run P w = .ok () (w.setRow g (cur.setIfInBounds (o + i) v)) := by
      rw [hadd, run_store P w _ v _ (h1 v (by simp)), hcell]
      simp [hfro, setCell_eq_setRow w g (o + i) cur T (lo, hi) v hg]
    have ih := run_storeCells_off (P := P) g o T lo hi rest (i + 1) (cur.setIfInBounds (o + i) v) (w.setRow g (cur.setIfInBounds (o + i) v)) (setRow_heap w g cur _ T _ hg) (by simp at hl ⊢; omega) (fun x hx => h1 x (by simp [hx])) (by simpa using hfz)
    simp only [storeCells, Sem.run_bind, hst, Result.andThen_ok, ih, setRow_setRow]
    congr 3
    have e := list_seg_step cur.toList (o + i) v rest (by simp at hl ⊢; omega)
    simpa [Array.toList_setIfInBounds, Nat.add_assoc] using e

theorem setRow_size (w : World) (g : Nat) (cs : Array Value) : (w.setRow g cs).heap.size = w.heap.size := by simp [World.setRow]
theorem byteV_one (l : List UInt8) : ∀ v ∈ l.map byteV, v.oneCell' = true := by
  intro v hv; obtain ⟨b, _, rfl⟩ := List.mem_map.1 hv; rfl

/-- '[]byte(s)'. -/
theorem run_toBytes (w : World) (s : ByteArray) (hs : s.size ≤ maxLen) : ∃ cap w', (convert 9 53 (.string s)).run Try.prog w = .ok (.slice (some ⟨w.heap.size, 0, none⟩) s.size cap) w' ∧ Buf w' w.heap.size cap s.data.toList ∧ Below w.heap.size w w' ∧ cap ≤ maxLen := by
  refine ⟨grownCap w s.size 0 5, Lib.bytesWorld w 5 s, Lib.run_convert_string_bytes w _ _ _ s Try.underlying9 Try.underlying53 Try.underlying5, ?_, ?_, grownCap_le_maxLen w _ _ _ hs⟩
  · have hge := grownCap_ge w s.size 0 5
    have hsz : (Lib.bytesCells w 5 s).size = grownCap w s.size 0 5 := by
      unfold Lib.bytesCells
      simp
      have : s.data.size = s.size := rfl
      omega
    refine ⟨_, _, _, Lib.bytesWorld_at_new w _ s, hsz, .inr (by omega), by simp; exact hge, ?_⟩
    unfold Lib.bytesCells
    simp [byteV]
  · refine ⟨rfl, rfl, rfl, by rw [Lib.bytesWorld_size]; omega, fun k hk => Lib.bytesWorld_at_old w _ s k hk⟩

def zeros (n : Nat) : List UInt8 := List.replicate n 0
theorem zeroCells_bytes (n : Nat) : Builtin.zeroCells #[.int .u8 0] n = ((zeros n).map byteV).toArray := by
  unfold Builtin.zeroCells zeros
  apply Array.ext
  · simp
  · intro i h1 h2
    simp [byteV]
    rw [Nat.mod_one]; rfl

theorem info_u8 : (Try.prog.info? 5).map (fun i => (i.zero, i.size, i.bytes)) = some (some (.int .u8 0), 1, 1) := by kernel_rfl

set_option maxRecDepth 100000 in
/-- 'append(b, make([]byte, n)...)'. -/
theorem run_appendZeros (w : World) (ty : TypeId) (g L cap n : Nat) (l : List UInt8) (hb : Buf w g cap l) (hl : l.length = L) (hn : 0 < n) (hm : L + n ≤ 1099511627776) :
    ∃ g' cap' w', (Builtin.append_ #[53, 3] ty #[.slice (some ⟨g, 0, none⟩) L cap, .int .i64 (n : Nat)]).run Try.prog w = .ok (.slice (some ⟨g', 0, none⟩) (L + n) cap') w' ∧
      Buf w' g' cap' (l ++ zeros n) ∧ w.grownBy w' (some g) ∧ (g' = g ∨ w.heap.size ≤ g') := by
  subst hl
  obtain ⟨cur, lo, hi, h1, h2, h3, h4, h5⟩ := hb
  obtain ⟨i0, hi0, hz0, hz1, hz2⟩ := info_parts info_u8
  have ht := Try.underlying53
  have hu := Try.underlying3
  have hw : IntKind.i64.wrap (n : Int) = n := Go.IntWalk.i64_in _ (by omega)
  have hneg : ¬ ((n : Int) < 0) := by omega
  have h48 : ¬ ((n : Int) * ((1 : Nat) : Int) > 2 ^ 48) := by omega
  have hne : n ≠ 0 := by omega
  have hA : ∀ w : World, (asInt (.int .i64 (n : Int))).run Try.prog w = .ok (n : Int) w := fun _ => rfl
  have hzl : (zeros n).length = n := by simp [zeros]
  by_cases hroom : l.length + n ≤ cap
  · have hst := run_storeCells_off (P := Try.prog) g l.length 5 lo hi ((zeros n).map byteV) 0 cur w h1 (by simp [hzl]; omega) (byteV_one _) (by rw [h2]; exact h3)
    simp only [Nat.add_zero, List.length_map, hzl] at hst
    refine ⟨g, cap, w.setRow g (cur.toList.take l.length ++ (zeros n).map byteV ++ cur.toList.drop (l.length + n)).toArray, ?_, ⟨_, lo, hi, setRow_heap w g cur _ _ _ h1, ?_, h3, by simp [hzl]; omega, ?_⟩, ⟨rfl, rfl, rfl, by rw [setRow_size]; exact Nat.le_refl _, fun k _ hk => setRow_other w g k _ (fun e => hk (by rw [e]))⟩, .inl rfl⟩
    · simp [Builtin.append_, run_underlying ht, run_underlying hu, sizeOf, typeInfo, zeroValue, hi0, hz0, hz1, hz2, hA, hw, hneg, hne, hroom, Addr.add_lit, Value.cells, zeroCells_bytes]
      rw [if_neg (by omega), hst]
      simp [Result.andThen]
    · simp [hzl]; omega
    · rw [List.length_append, hzl, List.map_append, ← h5]
      have e1 : (cur.toList.take l.length ++ (zeros n).map byteV).length = l.length + n := by simp [hzl]; omega
      simp only [List.append_assoc]
      rw [← List.append_assoc, ← e1, List.take_left]
  · have hfo := run_firstCells_some (P := Try.prog) w.drew 1 l.length ⟨g, 0, none⟩ l.length cap (l.map byteV) (by simp) (fun j v hj => by
      have hjl : j < l.length := by rw [List.getElem?_eq_some_iff] at hj; simpa using hj.1
      have hc := Buf.cell ⟨cur, lo, hi, h1, h2, h3, h4, h5⟩ j hjl
      have : v = byteV l[j] := by simp [hjl] at hj; exact hj.symm
      rw [this]
      simpa [Addr.add_lit] using hc)
    have hfit : Builtin.nextslicecap (l.length + n) cap * 1 ≤ 281474976710656 := growslice_fits (by omega) (by omega)
    rw [Nat.mul_one] at hfit
    have hge := grownCap_ge w (l.length + n) cap 5
    refine ⟨w.heap.size, grownCap w (l.length + n) cap 5, w.drew.alloc (.cells ((l.map byteV).toArray ++ ((zeros n).map byteV).toArray ++ ((zeros (grownCap w (l.length + n) cap 5 - (l.length + n))).map byteV).toArray) 5), ?_, ⟨_, 0, 0, heap_alloc_new w.drew _, ?_, .inl rfl, by simp [hzl]; omega, ?_⟩, ⟨rfl, rfl, rfl, by simp, fun k hk _ => heap_alloc_old w.drew _ hk⟩, .inr (Nat.le_refl _)⟩
    · simp [Builtin.append_, run_underlying ht, run_underlying hu, sizeOf, typeInfo, zeroValue, hi0, hz0, hz1, hz2, hA, hw, hneg, hne, hroom, Value.cells, zeroCells_bytes, Question.forced, newRow]
      rw [if_neg (by omega), if_neg (by omega), if_neg (by omega)]
      simp [hfo, Result.andThen, grownCap]
    · simp [zeros]; omega
    · have e1 : (l.map byteV ++ (zeros n).map byteV).length = l.length + n := by simp [hzl]
      rw [List.length_append, hzl, List.map_append]
      simp only [Array.toList_append]
      rw [← e1, List.take_left]

set_option maxRecDepth 100000 in
/-- 'copy(b[o:], s)', s a text that fits. -/
theorem run_copyStr (w : World) (ty : TypeId) (g o dLen dCap cap : Nat) (l : List UInt8) (hb : Buf w g cap l) (s : ByteArray) (hfit : o + s.size ≤ l.length) (hd : s.size ≤ dLen) :
    ∃ w', (Builtin.copy_ #[53, 9] ty #[.slice (some ⟨g, o, none⟩) dLen dCap, .string s]).run Try.prog w = .ok (goInt s.size) w' ∧
      Buf w' g cap (l.take o ++ s.data.toList ++ l.drop (o + s.size)) ∧ w.grownBy w' (some g) ∧ w'.heap.size = w.heap.size := by
  obtain ⟨cur, lo, hi, h1, h2, h3, h4, h5⟩ := hb
  obtain ⟨i0, hi0, hz0, hz1, hz2⟩ := info_parts info_u8
  have ht := Try.underlying53
  have hmin : Nat.min s.size dLen = s.size := Nat.min_eq_left hd
  have hsl : s.data.toList.length = s.size := by simp
  have hx : List.take s.size (List.map (fun b : UInt8 => Value.int IntKind.u8 (b.toNat : Int)) s.data.toList) = s.data.toList.map byteV := by
    rw [List.take_of_length_le (by simp)]; rfl
  have hst := run_storeCells_off (P := Try.prog) g o 5 lo hi (s.data.toList.map byteV) 0 cur w h1 (by simp; omega) (byteV_one _) (by rw [h2]; exact h3)
  simp only [Nat.add_zero, List.length_map, hsl] at hst
  have hcur : cur.toList = l.map byteV ++ cur.toList.drop l.length := by rw [← h5, List.take_append_drop]
  refine ⟨w.setRow g (cur.toList.take o ++ s.data.toList.map byteV ++ cur.toList.drop (o + s.size)).toArray, ?_, ⟨_, lo, hi, setRow_heap w g cur _ _ _ h1, ?_, h3, ?_, ?_⟩, ⟨rfl, rfl, rfl, by rw [setRow_size]; exact Nat.le_refl _, fun k _ hk => setRow_other w g k _ (fun e => hk (by rw [e]))⟩, setRow_size _ _ _⟩
  · simp [Builtin.copy_, run_underlying ht, sizeOf, typeInfo, hi0, hz1, Builtin.lenOf, Builtin.firstCells, hmin]
    rw [hx, hst]
    simp
  · simp; omega
  · simp; omega
  · have hlen : (l.take o ++ s.data.toList ++ l.drop (o + s.size)).length = l.length := by simp; omega
    rw [hlen]
    simp only [List.map_append, List.map_take, List.map_drop]
    rw [hcur]
    have e1 : (l.map byteV ++ cur.toList.drop l.length).take o = (l.map byteV).take o := List.take_append_of_le_length (by simp; omega)
    have e2 : (l.map byteV ++ cur.toList.drop l.length).drop (o + s.size) = (l.map byteV).drop (o + s.size) ++ cur.toList.drop l.length := List.drop_append_of_le_length (by simp; omega)
    rw [e1, e2]
    have e3 : ((l.map byteV).take o ++ s.data.toList.map byteV ++ (l.map byteV).drop (o + s.size)).length = l.length := by simp; omega
    rw [← List.append_assoc, ← e3, List.take_left]

theorem run_fromBytes (w : World) (g cap : Nat) (l : List UInt8) (hb : Buf w g cap l) : (convert 53 9 (.slice (some ⟨g, 0, none⟩) l.length cap)).run Try.prog w = .ok (.string ⟨l.toArray⟩) w :=
  run_convert_bytes_back w _ _ _ ⟨g, 0, none⟩ cap l Try.underlying53 Try.underlying5 Try.underlying9 (fun j hj => by
    have := hb.cell j hj
    simpa [Addr.add_lit, byteV] using this)

section
variable {w : World} {ops : Array Oper} {rest : List Oper} {o : Oper} {a : Act} {Q : Exit → Act → World → Prop}
theorem wpList_toBytes (hg : o.guard = none) (x : Operand) (hop : o.op = Op.convert 9 53 x) (s : ByteArray) (hx : a.eval x = .string s) (hs : s.size ≤ maxLen)
    (hK : ∀ cap w', Buf w' w.heap.size cap s.data.toList → Below w.heap.size w w' → cap ≤ maxLen → wpList Try.prog ops Q rest (a.put o.dst (.slice (some ⟨w.heap.size, 0, none⟩) s.size cap)) w') :
    wpList Try.prog ops Q (o :: rest) a w := by
  refine wpList_plain hg fun K' hK' => ?_
  obtain ⟨cap, w', hrun, r1, r2, r3⟩ := run_toBytes w s hs
  unfold Oper.wp
  simp [execOp, hop, hx, hrun, Result.andThen]
  exact hK' _ _ (hK cap w' r1 r2 r3)
theorem wpList_appendZeros (hg : o.guard = none) (x y : Operand) (hop : o.op = .call { callee := .builtin .append, args := #[x, y], argTypes := #[53, 3] }) (g L cap n : Nat) (l : List UInt8)
    (hx : a.eval x = .slice (some ⟨g, 0, none⟩) L cap) (hy : a.eval y = .int .i64 (n : Nat)) (hb : Buf w g cap l) (hl : l.length = L) (hn : 0 < n) (hm : L + n ≤ 1099511627776)
    (hK : ∀ g' cap' w', Buf w' g' cap' (l ++ zeros n) → w.grownBy w' (some g) → (g' = g ∨ w.heap.size ≤ g') → wpList Try.prog ops Q rest (a.put o.dst (.slice (some ⟨g', 0, none⟩) (L + n) cap')) w') :
    wpList Try.prog ops Q (o :: rest) a w := by
  refine wpList_plain hg fun K' hK' => ?_
  obtain ⟨g', cap', w', hrun, r1, r2, r3⟩ := run_appendZeros w o.type g L cap n l hb hl hn hm
  unfold Oper.wp execOp
  simp only [hop, resolve, invoke, builtin, Sem.run_bind, Sem.run_pure, Result.andThen_ok, List.map_toArray, List.map_cons, List.map_nil, hx, hy, hrun]
  exact hK' _ _ (hK g' cap' w' r1 r2 r3)
theorem wpList_copyStr (hg : o.guard = none) (x y : Operand) (hop : o.op = .call { callee := .builtin .copy, args := #[x, y], argTypes := #[53, 9] }) (g off dLen dCap cap : Nat) (l : List UInt8) (s : ByteArray)
    (hx : a.eval x = .slice (some ⟨g, off, none⟩) dLen dCap) (hy : a.eval y = .string s) (hb : Buf w g cap l) (hfit : off + s.size ≤ l.length) (hd : s.size ≤ dLen)
    (hK : ∀ w', Buf w' g cap (l.take off ++ s.data.toList ++ l.drop (off + s.size)) → w.grownBy w' (some g) → w'.heap.size = w.heap.size → wpList Try.prog ops Q rest (a.put o.dst (goInt s.size)) w') :
    wpList Try.prog ops Q (o :: rest) a w := by
  refine wpList_plain hg fun K' hK' => ?_
  obtain ⟨w', hrun, r1, r2, r3⟩ := run_copyStr w o.type g off dLen dCap cap l hb s hfit hd
  unfold Oper.wp execOp
  simp only [hop, resolve, invoke, builtin, Sem.run_bind, Sem.run_pure, Result.andThen_ok, List.map_toArray, List.map_cons, List.map_nil, hx, hy, hrun]
  exact hK' _ _ (hK w' r1 r2 r3)
end
end Go.Proofs.Ytndpmjanflahhaa

/-
  disk.laid: bytes with others laid over them from a place on.
-/
namespace Go.Proofs.Ytndpmjanflahhaa
open Go.RowKit Go.MapKept

def laidL (l : List UInt8) (at_ : Nat) (o : List UInt8) : List UInt8 :=
  if o = [] then l else (l ++ zeros (at_ + o.length - l.length)).take at_ ++ o ++ (l ++ zeros (at_ + o.length - l.length)).drop (at_ + o.length)
def laidB (s : ByteArray) (at_ : Nat) (o : ByteArray) : ByteArray := ⟨(laidL s.data.toList at_ o.data.toList).toArray⟩
theorem ba_of_list (s : ByteArray) : (⟨s.data.toList.toArray⟩ : ByteArray) = s := by cases s; simp
theorem laidB_nil (s : ByteArray) (at_ : Nat) (o : ByteArray) (h : o.data.toList = []) : laidB s at_ o = s := by
  unfold laidB laidL; rw [if_pos h, ba_of_list]
theorem laidL_len (l : List UInt8) (at_ : Nat) (o : List UInt8) (h : o ≠ []) : (laidL l at_ o).length = max l.length (at_ + o.length) := by
  unfold laidL; rw [if_neg h]; simp [zeros]; omega

set_option maxRecDepth 100000 in
set_option maxHeartbeats 1000000 in
theorem laid_any (s : ByteArray) (p : Nat) (o : ByteArray) (w : World) (hs : s.size ≤ 1073741824) (hp : p ≤ 1073741824) (ho : o.size ≤ 1073741824) :
    Calls Try.prog 86 #[.string s, .int .i64 p, .string o] w fun e w' => e = .returned (.string (laidB s p o)) ∧ Below w.heap.size w w' := by
  by_cases h0 : o.toList = []
  · have hr := Lib.hid (laidB_nil s p o (by rw [← ByteArray.toList_eq]; exact h0))
    go_enter Try.func86, Try.ntmps86
    go_wp2
    go_ret
    exact ⟨ret_str (by rw [hr.out]), Below.refl _ _⟩
  · have hpos : 0 < o.size := by have := mt nil_of_size.2 h0; omega
    have hne : o.data.toList ≠ [] := by rw [← ByteArray.toList_eq]; exact h0
    have hol : Hid (o.data.toList.length = o.size) := by show _ = _; simp
    have hsl : Hid (s.data.toList.length = s.size) := by show _ = _; simp
    have hms : s.size ≤ maxLen := by unfold maxLen; omega
    have hE := isEmpty_of_ne h0
    by_cases hgt : s.size < p + o.size
    · have hr : Hid (laidB s p o = ⟨((s.data.toList ++ zeros (p + o.size - s.size)).take p ++ o.data.toList ++ (s.data.toList ++ zeros (p + o.size - s.size)).drop (p + o.size)).toArray⟩) := by
        show _ = _; unfold laidB laidL; rw [if_neg hne, hol.out, hsl.out]
      obtain ⟨N, hN⟩ : ∃ N, p + o.size - s.size = N := ⟨_, rfl⟩
      have hcast : ((p : Int) + (o.size : Int) - (s.size : Int)) = (N : Int) := by omega
      have hN0 : 0 < N := by omega
      have hN1 : s.size + N ≤ 1099511627776 := by omega
      have hN2 : s.size + N = p + o.size := by omega
      rw [hN] at hr
      have hzl : Hid ((s.data.toList ++ zeros N).length = s.size + N) := by show _ = _; simp [zeros]
      have hN2' := Lib.hid hN2
      have hfit : p + o.size ≤ (s.data.toList ++ zeros N).length := by rw [hzl.out]; omega
      have hfit' := Lib.hid hfit
      have hol' : o.size ≤ s.size + N - p := by omega
      have hlen3 : Hid ((((s.data.toList ++ zeros N).take p) ++ o.data.toList ++ ((s.data.toList ++ zeros N).drop (p + o.size))).length = s.size + N) := by
        show _ = _; rw [List.length_append, List.length_append, List.length_take, List.length_drop, hol.out, hzl.out]; omega
      clear hN hN2 hfit hne
      go_enter Try.func86, Try.ntmps86
      go_wp2_with (first
        | (refine wpList_toBytes rfl _ rfl s rfl hms ?_; intro cap w1 hb1 hB1 hc1)
        | (refine wpList_appendZeros rfl _ _ rfl _ s.size cap N s.data.toList rfl rfl hb1 hsl.out hN0 hN1 ?_; intro g cap2 w2 hb2 hg2 hgc; have hcap2 : s.size + N ≤ cap2 := by (obtain ⟨_, _, _, _, _, _, h4, _⟩ := hb2; rw [hzl.out] at h4; exact h4))
        | (refine wpList_copyStr rfl _ _ rfl g p _ _ cap2 _ o rfl rfl hb2 hfit'.out hol' ?_; intro w3 hb3 hg3 hz3; have hback := run_fromBytes w3 g cap2 _ hb3; rw [hlen3.out] at hback))
      go_ret
      have hB2 : Below w.heap.size w w2 := hB1.grown hg2 hB1.size (fun k hk => by injection hk with hk; omega)
      refine ⟨ret_str (by rw [hr.out, List.append_assoc]), hB2.grown hg3 hB2.size (fun k hk => by injection hk with hk; rcases hgc with h | h; omega; have := hB1.size; omega)⟩
    · have hz : p + o.size - s.size = 0 := by omega
      have hr : Hid (laidB s p o = ⟨(s.data.toList.take p ++ o.data.toList ++ s.data.toList.drop (p + o.size)).toArray⟩) := by
        show _ = _; unfold laidB laidL; rw [if_neg hne, hol.out, hsl.out, hz]; simp [zeros]
      have hfit : Hid (p + o.size ≤ s.data.toList.length) := by show _ ≤ _; rw [hsl.out]; omega
      have hol' : o.size ≤ s.size - p := by omega
      have hps : p ≤ s.size := by omega
      have hlen3 : Hid ((s.data.toList.take p ++ o.data.toList ++ s.data.toList.drop (p + o.size)).length = s.size) := by
        show _ = _; rw [List.length_append, List.length_append, List.length_take, List.length_drop, hol.out, hsl.out]; omega
      clear hne hz
      go_enter Try.func86, Try.ntmps86
      go_wp2_with (first
        | (refine wpList_toBytes rfl _ rfl s rfl hms ?_; intro cap w1 hb1 hB1 hc1; have hcap1 : s.size ≤ cap := by (obtain ⟨_, _, _, _, _, _, h4, _⟩ := hb1; rw [hsl.out] at h4; exact h4))
        | (refine wpList_copyStr rfl _ _ rfl w.heap.size p _ _ cap _ o rfl rfl hb1 hfit.out hol' ?_; intro w3 hb3 hg3 hz3; have hback := run_fromBytes w3 w.heap.size cap _ hb3; rw [hlen3.out] at hback))
      go_ret
      exact ⟨ret_str (by rw [hr.out, List.append_assoc]), hB1.grown hg3 hB1.size (fun k hk => by injection hk with hk; omega)⟩
end Go.Proofs.Ytndpmjanflahhaa

/-
  Append to a row that a call owns: the row behind it is the elder one's block, or a new one.
-/
namespace Go.Proofs.Ytndpmjanflahhaa
open Go.RowKit

section
variable {P : Program} {w : World} {e : TypeId} {size bytes : Nat}

theorem ownBlock_slice {v : Value} {n : Nat} {xs : List Value} {s : Nat} (h : w.ownsRow 0 e s v n xs) : (v = .slice none 0 0 ∧ n = 0) ∨ ∃ g cap, v = .slice (some ⟨g, 0, none⟩) n cap ∧ v.ownBlock = some g := by
  rcases h.2 with h2 | ⟨g, cap, cur, hv, _⟩
  · exact .inl h2
  · exact .inr ⟨g, cap, hv, by rw [hv]; rfl⟩

/-- What an append leaves: the row with the new cells behind; the block is the elder one's, or new. -/
structure Appended (w : World) (e : TypeId) (size : Nat) (v : Value) (v' : Value) (w' : World) (n : Nat) (xs : List Value) : Prop where
  row : w'.ownsRow 0 e size v' n xs
  grown : w.grownBy w' v.ownBlock
  block : ∀ g, v'.ownBlock = some g → v.ownBlock = some g ∨ w.heap.size ≤ g
  some : n ≠ 0 → v' ≠ .slice none 0 0

theorem run_append_new (t ty : TypeId) (i : TypeInfo) (z : Value) (ht : P.underlying t = some (.slice e)) (hi : P.info? e = some i) (hz : i.zero = some z) (hs : i.size = size) (hy : i.bytes = bytes) (hzs : z.cells.size = size) (hpos : 0 < size)
    (v : Value) (n : Nat) (xs : List Value) (hown : w.ownsRow 0 e size v n xs) (a : Addr) (m c : Nat) (news : List Value) (hl : news.length = m * size) (hnews : ∀ j u, news[j]? = some u → w.cell? (a.add j) = some u)
    (h1 : ∀ u ∈ news, u.oneCell' = true) (hm : 0 < m) (h63 : n + m ≤ maxLen) (hb : (n + m) * bytes ≤ 140737488355328) :
    ∃ v' w', (Builtin.append_ #[t, t] ty #[v, .slice (some a) m c]).run P w = .ok v' w' ∧ Appended w e size v v' w' (n + m) (xs ++ news) := by
  subst hs; subst hy
  have hbig : ((n + m : Nat) : Int) ≤ 9223372036854775807 := by unfold maxLen at h63; omega
  have hxn : (xs ++ news).length = (n + m) * i.size := by rw [List.length_append, hown.1, hl, Nat.add_mul]
  have fresh : ∀ (old : Nat), ∃ v' w', Result.ok (Value.slice (some ⟨w.heap.size, 0, none⟩) (n + m) (grownCap w (n + m) old e)) (w.drew.alloc (.cells (xs.toArray ++ news.toArray ++ Builtin.zeroCells z.cells (grownCap w (n + m) old e - (n + m))) e)) = .ok v' w' ∧ Appended w e i.size v v' w' (n + m) (xs ++ news) := by
    intro old
    have hge := grownCap_ge w (n + m) old e
    refine ⟨_, _, rfl, ⟨hxn, .inr ⟨w.heap.size, _, _, rfl, Nat.zero_le _, heap_alloc_new w.drew _, hge, grownCap_le_maxLen w _ _ _ h63, ?_, ?_⟩⟩, ⟨rfl, rfl, rfl, by simp, fun k hk _ => heap_alloc_old w.drew _ hk⟩, fun g hg => .inr (by simp [Value.ownBlock] at hg; omega), fun _ h => by cases h⟩
    · rw [Array.size_append, Array.size_append, size_zeroCells, hzs, List.size_toArray, List.size_toArray, hown.1, hl, ← Nat.add_mul, ← Nat.add_mul]
      congr 1; omega
    · rw [← hxn, Array.toList_append, Array.toList_append]
      exact List.take_left
  rcases hown.2 with ⟨rfl, rfl⟩ | ⟨g, cap, cur, rfl, _, hg, hnc, hcm, hcs, htk⟩
  · obtain rfl : xs = [] := List.eq_nil_of_length_eq_zero (by simpa using hown.1)
    have hr := run_append_nil (P := P) w t ty e i z ht hi hz a m c news hl hnews (by omega) (by simpa using hbig) (by simp only [Nat.zero_add] at hb; omega)
    have hf := fresh 0
    simp only [Nat.zero_add, List.nil_append, Array.empty_append] at hf ⊢
    rw [hr]; exact hf
  · by_cases hroom : n + m ≤ cap
    · have hfit : n * i.size + news.length ≤ cur.size := by rw [hl, hcs, ← Nat.add_mul]; exact Nat.mul_le_mul_right _ hroom
      rw [run_append_room (P := P) w t ty e i ht hi g n cap cur hg a m c news hl hnews h1 hroom hfit]
      refine ⟨_, _, rfl, ⟨hxn, .inr ⟨g, cap, _, rfl, Nat.zero_le _, setRow_heap w g cur _ e _ hg, hroom, hcm, ?_, ?_⟩⟩, ⟨rfl, rfl, rfl, by simp [World.setRow], fun k _ hk => setRow_other w g k _ (fun q => hk (by rw [q]; rfl))⟩, fun g' hg' => .inl hg', fun _ h => by cases h⟩
      · simp only [List.size_toArray, List.length_append, List.length_take, List.length_drop, Array.length_toList]; omega
      · rw [htk, ← hxn]; exact List.take_left
    · have hold : ∀ j u, xs[j]? = some u → w.cell? ((⟨g, 0, none⟩ : Addr).add j) = some u := World.ownsRow.cells (g := g) hown rfl
      rw [run_append_grow (P := P) w t ty e i z ht hi hz ⟨g, 0, none⟩ n cap xs hown.1 hold a m c news hl hnews (by omega) hbig (growslice_fits (by omega) hb)]
      exact fresh cap
end

section
variable {P : Program} {w : World} {ops : Array Oper} {rest : List Oper} {o : Oper} {a : Act} {Q : Exit → Act → World → Prop}
theorem wpList_append_new (hg : o.guard = none) (x y : Operand) (t : TypeId) (hop : o.op = .call { callee := .builtin .append, args := #[x, y], argTypes := #[t, t] })
    (e size bytes : Nat) (i : TypeInfo) (z : Value) (ht : P.underlying t = some (.slice e)) (hi : P.info? e = some i) (hz : i.zero = some z) (hs : i.size = size) (hy : i.bytes = bytes) (hzs : z.cells.size = size) (hpos : 0 < size)
    (v : Value) (n : Nat) (xs : List Value) (hx : a.eval x = v) (hown : w.ownsRow 0 e size v n xs) (ad : Addr) (m c : Nat) (news : List Value) (hyv : a.eval y = .slice (some ad) m c)
    (hl : news.length = m * size) (hnews : ∀ j u, news[j]? = some u → w.cell? (ad.add j) = some u) (h1 : ∀ u ∈ news, u.oneCell' = true) (hm : 0 < m) (h63 : n + m ≤ maxLen) (hb : (n + m) * bytes ≤ 140737488355328)
    (hK : ∀ g cap w', Appended w e size v (.slice (some ⟨g, 0, none⟩) (n + m) cap) w' (n + m) (xs ++ news) → wpList P ops Q rest (a.put o.dst (.slice (some ⟨g, 0, none⟩) (n + m) cap)) w') : wpList P ops Q (o :: rest) a w := by
  refine wpList_plain hg fun K' hK' => ?_
  obtain ⟨v', w', hrun, r⟩ := run_append_new t o.type i z ht hi hz hs hy hzs hpos v n xs hown ad m c news hl hnews h1 hm h63 hb
  unfold Oper.wp execOp
  simp only [hop, resolve, invoke, builtin, Sem.run_bind, Sem.run_pure, Result.andThen_ok, List.map_toArray, List.map_cons, List.map_nil, hx, hyv, hrun]
  rcases ownBlock_slice r.row with ⟨hv, _⟩ | ⟨g, cap, rfl, _⟩
  · exact absurd hv (r.some (by omega))
  · exact hK' _ _ (hK g cap w' r)
end
end Go.Proofs.Ytndpmjanflahhaa
