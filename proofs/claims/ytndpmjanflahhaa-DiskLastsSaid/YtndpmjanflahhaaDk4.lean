/-
  disk.New, Down, Waits, Fuse, All.
-/
import Derived.Test.YtndpmjanflahhaaDk3
namespace Go.Proofs.Ytndpmjanflahhaa
open Go.RowKit Go.MapKept

def capOf (c : Int) : Nat := (min (max c 0) 16777216).toNat
def newD (c : Int) : DiskA := ⟨-1, false, capOf c, [], []⟩
theorem newD_ok (c : Int) : (newD c).Ok :=
  ⟨by simp [newD], by simp [newD], ⟨by simp [newD], by simp [newD]⟩, by simp [newD, capOf]; omega, by simp [newD], by simp [newD], by simp [newD], by simp [newD]⟩

set_option maxHeartbeats 1000000 in
theorem New_any (c : Int) (w : World) (hc : -9223372036854775808 ≤ c ∧ c ≤ 9223372036854775807) :
    Calls Try.prog 40 #[.int .i64 c] w fun e w' => ∃ b F, e = .returned (ptr b) ∧ IsDisk w' b (newD c) F ∧ Below w.heap.size w w' ∧ (∀ k, F k → w.heap.size ≤ k) := by
  have hmm := @run_makeMap Try.prog
  obtain ⟨h1, h2⟩ := hc
  go_enter Try.func40, Try.ntmps40
  go_wp2
  go_ret
  refine ⟨w.heap.size + 1, fun k => w.heap.size ≤ k, rfl, ?_, ?_, fun k hk => hk⟩
  · refine ⟨newD_ok c, ⟨w.heap.size, .slice none 0 0, ?_, ?_, ⟨rfl, .inl ⟨rfl, rfl⟩⟩, Nat.le_refl _, by simp [Value.ownBlock]⟩, by show _ ≤ _; omega, by simp [newD]⟩
    · have e : ((newD c).cap : Int) = min (max c 0) 16777216 := by simp [newD, capOf]; omega
      rw [e]
      have := Blk.new (w.alloc (Obj.map #[] 0)) #[Value.int IntKind.i64 (-1), Value.bool false, Value.map (some w.heap.size), Value.slice none 0 0, Value.int IntKind.i64 (min (max c 0) 16777216)] 120
      simpa [newD] using this
    · refine ⟨#[], 0, ?_, stamped_empty 0, rfl⟩
      rw [heap_alloc_old _ _ (by simp)]; exact heap_alloc_new w _
  · exact ((Below.refl _ w).alloc (Nat.le_refl _) _).alloc (by simp) _

theorem Down_any (b : Nat) (D : DiskA) (F : Nat → Prop) (w : World) (h : IsDisk w b D F) :
    Calls Try.prog 46 #[ptr b] w fun e w' => e = .returned (.bool D.down) ∧ w = w' := by
  obtain ⟨m, v, hb, hm, hrow, fm, fg⟩ := h.head
  have c1 : w.cell? ⟨b, 1, none⟩ = some (.bool D.down) := hb.cell 1
  unfold ptr
  go_enter Try.func46, Try.ntmps46
  go_wp2
  go_ret
  exact ⟨rfl, rfl⟩

theorem Waits_any (b : Nat) (D : DiskA) (F : Nat → Prop) (w : World) (h : IsDisk w b D F) :
    Calls Try.prog 54 #[ptr b] w fun e w' => e = .returned (.int .i64 (D.waits.length : Nat)) ∧ w = w' := by
  obtain ⟨m, v, hb, hm, hrow, fm, fg⟩ := h.head
  have hv : ∃ a cap, v = .slice a D.waits.length cap := by
    obtain ⟨_, h2⟩ := hrow
    rcases h2 with ⟨h2, h3⟩ | ⟨g, cap, cur, hv, _⟩
    · exact ⟨none, 0, by rw [h2, h3]⟩
    · exact ⟨_, cap, hv⟩
  obtain ⟨a, cap, rfl⟩ := hv
  have c3 : w.cell? ⟨b, 3, none⟩ = some (.slice a D.waits.length cap) := hb.cell 3
  unfold ptr
  go_enter Try.func54, Try.ntmps54
  go_wp2
  go_ret
  exact ⟨rfl, rfl⟩

def DiskA.fuse (D : DiskA) (n : Int) : DiskA := { D with left := max n (-1) }
theorem Fuse_any (b : Nat) (D : DiskA) (F : Nat → Prop) (w : World) (h : IsDisk w b D F) (n : Int) (hn : -9223372036854775808 ≤ n ∧ n ≤ 9223372036854775807) :
    Calls Try.prog 91 #[ptr b, .int .i64 n] w fun e w' => e = .returned (.tuple #[]) ∧ IsDisk w' b (D.fuse n) F ∧ Step F w F w' := by
  obtain ⟨m, v, hb, hm, hrow, fm, fg⟩ := h.head
  have c0 : w.cell? ⟨b, 0, none⟩ = some (.int .i64 D.left) := hb.cell 0
  have f0 := hb.frozen 0
  obtain ⟨h1, h2⟩ := hn
  unfold ptr
  go_enter Try.func91, Try.ntmps91
  go_wp2
  go_end0
  refine ⟨rfl, ?_, (Step.refl F w).setCell _ _ (.inl h.own)⟩
  refine h.head_set (fun k hk => setCell_heap _ _ _ _ hk) ⟨h.ok.names, h.ok.ids, ?_, h.ok.cap, h.ok.size, h.ok.nameLen, h.ok.files, h.ok.waits⟩ rfl rfl (fun m v hb => hb.set 0 _)
  show -1 ≤ max n (-1) ∧ max n (-1) ≤ _
  omega

/-- What All tells. -/
def DiskA.all (D : DiskA) (n : ByteArray) : ByteArray × Int :=
  if D.down then (ByteArray.empty, 8) else match findF D.files n with | some f => (f.now, 0) | none => (ByteArray.empty, 9)
theorem bars_one (D : DiskA) (n : ByteArray) : D.bars [n] = if D.down then 8 else if (findF D.files n).isSome then 0 else 9 := by
  unfold DiskA.bars; simp

set_option maxHeartbeats 1000000 in
theorem All_any (b : Nat) (D : DiskA) (F : Nat → Prop) (w : World) (h : IsDisk w b D F) (n : ByteArray) :
    Calls Try.prog 45 #[ptr b, .string n] w fun e w' => e = .returned (.tuple #[.string (D.all n).1, errn (D.all n).2]) ∧ Below w.heap.size w w' ∧ IsDisk w' b D F := by
  have hw1 : IsDisk (w.alloc (.cells #[.string n] 9)) b D F := h.below ((Below.refl _ w).alloc (Nat.le_refl _) _)
  have hB : Below w.heap.size w (w.alloc (.cells #[.string n] 9)) := (Below.refl _ w).alloc (Nat.le_refl _) _
  have hS : StrSl (w.alloc (.cells #[.string n] 9)) (some ⟨w.heap.size, 0, none⟩) [n] := fun i s hi => by
    cases i with
    | zero => simp at hi; subst hi; exact ⟨_, 0, rfl, by simp⟩
    | succ i => simp at hi
  have cb := bars_any b D F _ hw1 _ 1 [n] (by simp) hS
  rw [bars_one] at cb
  obtain ⟨m, v, hb, hm, hrow, fm, fg⟩ := hw1.head
  have c2 : (w.alloc (.cells #[.string n] 9)).cell? ⟨b, 2, none⟩ = some (.map (some m)) := hb.cell 2
  have hlk := run_look h.ok.names hm n
  unfold lookV at hlk
  have hA : D.all n = if D.down then (ByteArray.empty, (8 : Int)) else match findF D.files n with | some f => (f.now, (0 : Int)) | none => (ByteArray.empty, (9 : Int)) := rfl
  have hA' := Lib.hid hA
  clear hA
  unfold ptr errn at *
  cases hdn : D.down
  case true =>
    rw [hdn] at cb
    have hr : Hid (D.all n = (ByteArray.empty, 8)) := by show _ = _; rw [hA'.out, hdn]; rfl
    clear hdn hlk
    go_enter Try.func45, Try.ntmps45
    go_wp2_with (go_at_call 84; refine cb.mono ?_; rintro e w' ⟨rfl, rfl⟩)
    go_ret2
    exact ⟨by rw [hr.out]; rfl, hB, hw1⟩
  case false =>
    rw [hdn] at cb
    simp only [Bool.false_eq_true, if_false] at cb
    cases hf : findF D.files n with
    | none =>
      rw [hf] at cb hlk
      dsimp only at hlk
      have hr : Hid (D.all n = (ByteArray.empty, 9)) := by show _ = _; rw [hA'.out, hdn, hf]; rfl
      clear hdn hf hlk
      go_enter Try.func45, Try.ntmps45
      go_wp2_with (go_at_call 84; refine cb.mono ?_; rintro e w' ⟨rfl, rfl⟩)
      go_ret2
      exact ⟨by rw [hr.out]; rfl, hB, hw1⟩
    | some f =>
      rw [hf] at cb hlk
      dsimp only at hlk
      have hr : Hid (D.all n = (f.now, 0)) := by show _ = _; rw [hA'.out, hdn, hf]; rfl
      have hfb := (hw1.files f (findF_some hf).1).2
      have cf : (w.alloc (.cells #[.string n] 9)).cell? ⟨f.id, 1, none⟩ = some (.string f.now) := hfb.cell 1
      clear hdn hf
      go_enter Try.func45, Try.ntmps45
      go_wp2_with (go_at_call 84; refine cb.mono ?_; rintro e w' ⟨rfl, rfl⟩)
      go_ret2
      exact ⟨by rw [hr.out]; rfl, hB, hw1⟩
end Go.Proofs.Ytndpmjanflahhaa
