/-
  The disk's fuse: burn, done; what bars a call.
-/
import Derived.Test.YtndpmjanflahhaaDk0
import Derived.WalkSpells
namespace Go.Proofs.Ytndpmjanflahhaa
open Go.RowKit Go.MapKept

def DiskA.burn (D : DiskA) : Bool × DiskA :=
  if D.left = 0 then (false, { D with left := -1, down := true }) else if 0 < D.left then (true, { D with left := D.left - 1 }) else (true, D)

theorem burn_zero (b : Nat) (dn : Bool) (w : World) (c0 : w.cell? ⟨b, 0, none⟩ = some (.int .i64 0)) (c1 : w.cell? ⟨b, 1, none⟩ = some (.bool dn)) (f0 : w.frozen? ⟨b, 0, none⟩ = false) (f1 : w.frozen? ⟨b, 1, none⟩ = false) :
    Calls Try.prog 117 #[ptr b] w fun e w' => e = .returned (.bool false) ∧ w' = (w.setCell ⟨b, 0, none⟩ (.int .i64 (-1))).setCell ⟨b, 1, none⟩ (.bool true) := by
  unfold ptr
  go_enter Try.func117, Try.ntmps117
  go_wp2
  go_ret
  exact ⟨rfl, rfl⟩
theorem burn_pos (b : Nat) (l : Int) (w : World) (c0 : w.cell? ⟨b, 0, none⟩ = some (.int .i64 l)) (f0 : w.frozen? ⟨b, 0, none⟩ = false) (h0 : 0 < l) (h1 : l ≤ 9223372036854775807) :
    Calls Try.prog 117 #[ptr b] w fun e w' => e = .returned (.bool true) ∧ w' = w.setCell ⟨b, 0, none⟩ (.int .i64 (l - 1)) := by
  unfold ptr
  have hne : (l == 0) = false := by simp; omega
  go_enter Try.func117, Try.ntmps117
  go_wp2
  go_ret
  exact ⟨rfl, rfl⟩
theorem burn_neg (b : Nat) (l : Int) (w : World) (c0 : w.cell? ⟨b, 0, none⟩ = some (.int .i64 l)) (h0 : l < 0) (h1 : -1 ≤ l) :
    Calls Try.prog 117 #[ptr b] w fun e w' => e = .returned (.bool true) ∧ w' = w := by
  unfold ptr
  have hne : (l == 0) = false := by simp; omega
  go_enter Try.func117, Try.ntmps117
  go_wp2
  go_ret
  exact ⟨rfl, rfl⟩

theorem setCell_heap (w : World) (a : Addr) (v : Value) (k : Nat) (h : k ≠ a.block) : (w.setCell a v).heap[k]? = w.heap[k]? := Below.heap_setCell w a v k h
theorem setCell_size (w : World) (a : Addr) (v : Value) : (w.setCell a v).heap.size = w.heap.size := by simp [World.setCell]
theorem Step.setCell {F F' : Nat → Prop} {w w1 : World} (h : Step F w F' w1) (a : Addr) (v : Value) (ha : F a.block ∨ w.heap.size ≤ a.block) : Step F w F' (w1.setCell a v) :=
  ⟨h.os, h.tape, h.output, by rw [setCell_size]; exact h.size, fun k hk hn => (setCell_heap _ _ _ _ (by rintro rfl; rcases ha with ha | ha; exact hn ha; omega)).trans (h.block k hk hn), h.new⟩

/-- The disk's head block is written anew; all else is as it was. -/
theorem IsDisk.head_set {w w' : World} {b : Nat} {D D' : DiskA} {F : Nat → Prop} (h : IsDisk w b D F)
    (hk : ∀ k, k ≠ b → w'.heap[k]? = w.heap[k]?) (hok : D'.Ok) (hf : D'.files = D.files) (hw : D'.waits = D.waits)
    (hb : ∀ m v, Blk w b #[.int .i64 D.left, .bool D.down, .map (some m), v, .int .i64 D.cap] 120 → Blk w' b #[.int .i64 D'.left, .bool D'.down, .map (some m), v, .int .i64 D'.cap] 120) : IsDisk w' b D' F := by
  obtain ⟨ok, ⟨m, v, hb0, hm, hr, fm, fg⟩, fb, hfs⟩ := h
  refine ⟨hok, ⟨m, v, hb m v hb0, ?_, ?_, fm, fg⟩, fb, ?_⟩
  · rw [hf]
    refine hm.at (hk m ?_)
    rintro rfl
    obtain ⟨es, c, h1, _⟩ := hm
    unfold Blk at hb0; rw [h1] at hb0; cases hb0
  · rw [hw]
    obtain ⟨h1, h2⟩ := hr
    refine ⟨h1, ?_⟩
    rcases h2 with h2 | ⟨g, cap, cur, hv, hg, hh, r⟩
    · exact Or.inl h2
    · refine Or.inr ⟨g, cap, cur, hv, hg, ?_, r⟩
      rw [hk g]; exact hh
      rintro rfl
      unfold Blk at hb0; rw [hh] at hb0; cases hb0
  · rw [hf]
    intro f hfm
    refine ⟨(hfs f hfm).1, (hfs f hfm).2.at (hk f.id ?_)⟩
    intro e
    have h3 := (hfs f hfm).2
    rw [e] at h3
    unfold Blk at hb0 h3; rw [h3] at hb0; cases hb0

theorem DiskA.Ok.burn {D : DiskA} (h : D.Ok) : D.burn.2.Ok := by
  unfold DiskA.burn
  split
  · exact ⟨h.names, h.ids, ⟨show (-1 : Int) ≤ -1 by decide, show (-1 : Int) ≤ _ by decide⟩, h.cap, h.size, h.nameLen, h.files, h.waits⟩
  · split
    · exact ⟨h.names, h.ids, by have := h.left; constructor <;> (show _ ≤ _; simp; omega), h.cap, h.size, h.nameLen, h.files, h.waits⟩
    · exact h

theorem burn_any (b : Nat) (D : DiskA) (F : Nat → Prop) (w : World) (h : IsDisk w b D F) :
    Calls Try.prog 117 #[ptr b] w fun e w' => e = .returned (.bool D.burn.1) ∧ IsDisk w' b D.burn.2 F ∧ Step F w F w' := by
  obtain ⟨m, v, hb, hm, hr, fm, fg⟩ := h.head
  have c0 := hb.cell 0
  have c1 := hb.cell 1
  have hl := h.ok.left
  by_cases h0 : D.left = 0
  · have hD : D.burn = (false, { D with left := -1, down := true }) := by unfold DiskA.burn; rw [if_pos h0]
    rw [hD]
    refine (burn_zero b D.down w (by rw [c0, h0]; rfl) c1 (hb.frozen 0) (hb.frozen 1)).mono ?_
    rintro e w' ⟨rfl, rfl⟩
    refine ⟨rfl, ?_, ((Step.refl F w).setCell _ _ (.inl h.own)).setCell _ _ (.inl h.own)⟩
    refine h.head_set ?_ (by have := h.ok.burn; rwa [hD] at this) rfl rfl ?_
    · intro k hk; rw [setCell_heap _ _ _ _ hk, setCell_heap _ _ _ _ hk]
    · intro m v hb; exact (hb.set 0 _).set 1 _
  · by_cases h1 : 0 < D.left
    · have hD : D.burn = (true, { D with left := D.left - 1 }) := by unfold DiskA.burn; rw [if_neg h0, if_pos h1]
      rw [hD]
      refine (burn_pos b D.left w c0 (hb.frozen 0) h1 hl.2).mono ?_
      rintro e w' ⟨rfl, rfl⟩
      refine ⟨rfl, ?_, (Step.refl F w).setCell _ _ (.inl h.own)⟩
      refine h.head_set ?_ (by have := h.ok.burn; rwa [hD] at this) rfl rfl ?_
      · intro k hk; rw [setCell_heap _ _ _ _ hk]
      · intro m v hb; exact hb.set 0 _
    · have hD : D.burn = (true, D) := by unfold DiskA.burn; rw [if_neg h0, if_neg h1]
      rw [hD]
      refine (burn_neg b D.left w c0 (by omega) hl.1).mono ?_
      rintro e w' ⟨rfl, rfl⟩
      exact ⟨rfl, h, Step.refl F _⟩

/-- An error's number. -/
def errn (n : Int) : Value := .int .i64 n
theorem done_any (b : Nat) (D : DiskA) (F : Nat → Prop) (w : World) (h : IsDisk w b D F) :
    Calls Try.prog 85 #[ptr b] w fun e w' => e = .returned (errn (if D.burn.1 then 0 else 8)) ∧ IsDisk w' b D.burn.2 F ∧ Step F w F w' := by
  have c := burn_any b D F w h
  cases hp : D.burn.1 <;> rw [hp] at c
  all_goals
    unfold ptr at *
    go_enter Try.func85, Try.ntmps85
    go_wp2_with (go_at_call 117; refine c.mono ?_; rintro e w' ⟨rfl, hd, hs⟩)
    go_ret
    exact ⟨rfl, hd, hs⟩
end Go.Proofs.Ytndpmjanflahhaa
