/-
  A disk that the call itself made: the disk's contracts, with nothing told of blocks.
-/
import Derived.Test.YtndpmjanflahhaaDk33
namespace Go.Proofs.Ytndpmjanflahhaa
open Go.RowKit Go.MapKept

/-- Block b is a disk, made behind the world w0, and all that was there is as it was. -/
def Lives (w0 : World) (b : Nat) (D : DiskA) (w : World) : Prop := ∃ F, IsDisk w b D F ∧ (∀ k, F k → w0.heap.size ≤ k) ∧ Below w0.heap.size w0 w
theorem Lives.below {w0 w w' : World} {b : Nat} {D : DiskA} (h : Lives w0 b D w) (hB : Below w.heap.size w w') : Lives w0 b D w' := by
  obtain ⟨F, hd, hF, hb⟩ := h
  exact ⟨F, hd.below hB, hF, hb.trans (hB.mono hb.size)⟩
theorem Lives.grew {w0 w : World} {b : Nat} {D : DiskA} (h : Lives w0 b D w) : Below w0.heap.size w0 w := by
  obtain ⟨F, hd, hF, hb⟩ := h; exact hb
theorem Lives.ok {w0 w : World} {b : Nat} {D : DiskA} (h : Lives w0 b D w) : D.Ok := by
  obtain ⟨F, hd, hF, hb⟩ := h; exact hd.ok
theorem lives_step {w0 w w' : World} {b : Nat} {D' : DiskA} {F F' : Nat → Prop} (hF : ∀ k, F k → w0.heap.size ≤ k) (hb : Below w0.heap.size w0 w) (hd : IsDisk w' b D' F') (hs : Step F w F' w') : Lives w0 b D' w' :=
  ⟨F', hd, fun k hk => (hs.new k hk).elim (hF k) (fun h => Nat.le_trans hb.size h), hb.trans (hs.below hb.size hF)⟩

theorem New_lives {w0 w : World} (hB : Below w0.heap.size w0 w) (c : Int) (hc : -9223372036854775808 ≤ c ∧ c ≤ 9223372036854775807) :
    Calls Try.prog 40 #[.int .i64 c] w fun e w' => ∃ b, e = .returned (.pointer (some ⟨b, 0, none⟩)) ∧ Lives w0 b (newD c) w' :=
  (New_any c w hc).mono fun e w' ⟨b, F, he, hd, hb, hF⟩ => ⟨b, he, F, hd, fun k hk => Nat.le_trans hB.size (hF k hk), hB.trans (hb.mono hB.size)⟩
theorem Lives.create {w0 w : World} {b : Nat} {D : DiskA} (h : Lives w0 b D w) (n : ByteArray) (hn : n.size ≤ 140737488351232) (hfl : D.files.length < 4294967296) :
    Calls Try.prog 41 #[.pointer (some ⟨b, 0, none⟩), .string n] w fun e w' => ∃ id, e = .returned (.int .i64 (D.create n id).1) ∧ Lives w0 b (D.create n id).2 w' ∧ (∀ f ∈ D.files, f.id ≠ id) := by
  obtain ⟨F, hd, hF, hb⟩ := h
  exact (Create_any b D F w hd n hn hfl).mono fun e w' ⟨id, F', he, hd', hs, hid⟩ => ⟨id, he, lives_step hF hb hd' hs, hid⟩
theorem Lives.write {w0 w : World} {b : Nat} {D : DiskA} (h : Lives w0 b D w) (n : ByteArray) (p : Int) (s : ByteArray) (hs : s.size ≤ 1073741824) (hwl : D.waits.length < 1099511627776) :
    Calls Try.prog 42 #[.pointer (some ⟨b, 0, none⟩), .string n, .int .i64 p, .string s] w fun e w' => e = .returned (.int .i64 (D.write n p s).1) ∧ Lives w0 b (D.write n p s).2 w' := by
  obtain ⟨F, hd, hF, hb⟩ := h
  exact (Write_any b D F w hd n p s hs hwl).mono fun e w' ⟨F', he, hd', hs⟩ => ⟨he, lives_step hF hb hd' hs⟩
theorem Lives.sync1 {w0 w : World} {b : Nat} {D : DiskA} (h : Lives w0 b D w) (n : ByteArray) :
    Calls Try.prog 43 #[.pointer (some ⟨b, 0, none⟩), .slice (some ⟨w.heap.size, 0, none⟩) 1 1] (w.alloc (.cells #[.string n] 9)) fun e w' => e = .returned (.int .i64 (D.sync [n]).1) ∧ Lives w0 b (D.sync [n]).2 w' := by
  obtain ⟨F, hd, hF, hb⟩ := h
  have hB : Below w.heap.size w (w.alloc (.cells #[.string n] 9)) := (Below.refl _ w).alloc (Nat.le_refl _) _
  refine (Sync_any b D _ _ (hd.tight.below hB) _ 1 [n] (by simp) (StrSl.one w n) (fun _ x hx => ?_)).mono ?_
  · cases hx; rintro ⟨_, h2⟩; exact absurd h2 (Nat.lt_irrefl _)
  · rintro e w' ⟨he, hd', hs⟩
    exact ⟨he, lives_step hF hb (hd'.mono (fun _ h => h.1)) ((Step.of_below hB).trans (hs.mono (fun _ h => h.1)))⟩
theorem Lives.all {w0 w : World} {b : Nat} {D : DiskA} (h : Lives w0 b D w) (n : ByteArray) :
    Calls Try.prog 45 #[.pointer (some ⟨b, 0, none⟩), .string n] w fun e w' => e = .returned (.tuple #[.string (D.all n).1, .int .i64 (D.all n).2]) ∧ Lives w0 b D w' := by
  obtain ⟨F, hd, hF, hb⟩ := h
  exact (All_any b D F w hd n).mono fun e w' ⟨he, hB, hd'⟩ => ⟨he, F, hd', hF, hb.trans (hB.mono hb.size)⟩
theorem Lives.isDown {w0 w : World} {b : Nat} {D : DiskA} (h : Lives w0 b D w) :
    Calls Try.prog 46 #[.pointer (some ⟨b, 0, none⟩)] w fun e w' => e = .returned (.bool D.down) ∧ w = w' := by
  obtain ⟨F, hd, hF, hb⟩ := h
  exact Down_any b D F w hd
theorem Lives.crash0 {w0 w : World} {b : Nat} {D : DiskA} (h : Lives w0 b D w) (hfit : D.Fit) :
    Calls Try.prog 47 #[.pointer (some ⟨b, 0, none⟩), .agg #[.slice none 0 0, .int .i64 0]] w fun e w' => e = .returned (.tuple #[]) ∧ Lives w0 b (D.crash [] 0) w' := by
  obtain ⟨F, hd, hF, hb⟩ := h
  exact (Crash_any b D F w hd hfit [] 0 (by omega) none 0 (by simp) (.inl ⟨rfl, rfl, rfl⟩)).mono fun e w' ⟨he, hd', hs⟩ => ⟨he, lives_step hF hb hd' hs⟩
theorem Lives.doOp {w0 w : World} {b : Nat} {D : DiskA} (h : Lives w0 b D w) (hfit : D.Fit) (o : OpV) (hg : o.Good w0 (fun k => w0.heap.size ≤ k)) (hs : o.Small) (hwl : D.waits.length < 1099511627776) (hfl : D.files.length < 4294967296) :
    Calls Try.prog 44 #[.pointer (some ⟨b, 0, none⟩), .agg o.cells] w fun e w' => ∃ id, e = .returned (.int .i64 (D.doOp o id).1) ∧ Lives w0 b (D.doOp o id).2 w' ∧ (∀ f ∈ D.files, f.id ≠ id) := by
  obtain ⟨F, hd, hF, hb⟩ := h
  refine (Do_any b D F w hd hfit o (hg.kept (fun q hq _ => ⟨hb.block q hq, fun h => absurd (hF q h) (by omega)⟩)) hs hwl hfl).mono ?_
  rintro e w' ⟨id, F', he, hd', hs, hid⟩
  exact ⟨id, he, lives_step hF hb hd' hs, hid⟩

/-! ### where nothing goes wrong -/
theorem burn_id {D : DiskA} (h : D.left = -1) : D.burn = (true, D) := by
  unfold DiskA.burn; rw [h]; rfl
theorem create_ok {D : DiskA} (h : D.left = -1) (hd : D.down = false) {n : ByteArray} (hf : findF D.files n = none) (id : Nat) : D.create n id = (0, D.addFile n id) := by
  unfold DiskA.create; rw [hd, hf, burn_id h]; rfl
theorem write_ok {D : DiskA} (h : D.left = -1) (hd : D.down = false) {n : ByteArray} {f : FileA} (hf : findF D.files n = some f) {p : Nat} (hp : p ≤ f.now.size) {s : ByteArray} (hs : s.size ≠ 0)
    (hr : p + s.size ≤ f.now.size ∨ (p + s.size : Int) - f.now.size ≤ (D.cap : Int) - sizes D.files) : D.write n (p : Int) s = (0, D.put f p s) := by
  unfold DiskA.write; rw [hd, hf, burn_id h]
  simp only [Bool.false_eq_true, if_false]
  rw [if_neg (by omega), if_neg (by omega), if_neg hs]; rfl
theorem bars_ok {D : DiskA} (hd : D.down = false) {ss : List ByteArray} (hs : ∀ s ∈ ss, (findF D.files s).isSome = true) : D.bars ss = 0 := by
  unfold DiskA.bars; rw [hd, List.all_eq_true.2 hs]; rfl
theorem sync_ok {D : DiskA} (h : D.left = -1) (hd : D.down = false) {ss : List ByteArray} (hs : ∀ s ∈ ss, (findF D.files s).isSome = true) : D.sync ss = (0, D.lasts ss) := by
  unfold DiskA.sync; rw [bars_ok hd hs, burn_id h]; rfl
theorem all_ok {D : DiskA} (hd : D.down = false) {n : ByteArray} {f : FileA} (hf : findF D.files n = some f) : D.all n = (f.now, 0) := by
  unfold DiskA.all; rw [hd, hf]; rfl

/-! ### the document's example -/
def fB : ByteArray := ⟨#[102]⟩
def abB : ByteArray := ⟨#[97, 98]⟩
def cdB : ByteArray := ⟨#[99, 100]⟩
def abcdB : ByteArray := ⟨#[97, 98, 99, 100]⟩
def awD (id : Nat) (image now : ByteArray) (waits : List WaitA) : DiskA := ⟨-1, false, 100, [⟨fB, id, image, now⟩], waits⟩
theorem aw_find (id : Nat) (i n : ByteArray) (l : List WaitA) : findF (awD id i n l).files fB = some ⟨fB, id, i, n⟩ := by
  unfold findF awD; simp [(bytes_beq fB fB).2 rfl]
theorem aw_put (id : Nat) (i n : ByteArray) (l : List WaitA) (p : Nat) (s : ByteArray) : (awD id i n l).put ⟨fB, id, i, n⟩ p s = awD id i (laidB n p s) (l ++ [⟨id, p, s⟩]) := by
  simp [DiskA.put, awD, turn, FileA.setNow]
theorem lasts_one (D : DiskA) (n : ByteArray) : D.lasts [n] = D.lastOf n := rfl
theorem aw_last (id : Nat) (i n : ByteArray) (l : List WaitA) : (awD id i n l).lasts [fB] = awD id n n (others l id) := by
  rw [lasts_one]
  unfold DiskA.lastOf
  rw [aw_find]
  simp [DiskA.last1, DiskA.imaged, DiskA.waited, turn, FileA.setImage, awD]
theorem aw1 (id : Nat) : (newD 100).create fB id = (0, awD id ByteArray.empty ByteArray.empty []) := rfl
theorem ab_size : abB.size = 2 := by decide
theorem cd_size : cdB.size = 2 := by decide
theorem aw_sizes (id : Nat) (i n : ByteArray) (l : List WaitA) : sizes (awD id i n l).files = n.size := by simp [awD, sizes]
theorem aw2 (id : Nat) : (awD id ByteArray.empty ByteArray.empty []).write fB 0 abB = (0, awD id ByteArray.empty abB [⟨id, 0, abB⟩]) := by
  have := write_ok (D := awD id ByteArray.empty ByteArray.empty []) rfl rfl (aw_find _ _ _ _) (p := 0) (Nat.zero_le _) (s := abB) (by decide) (.inr (by
    rw [aw_sizes, ab_size]; show (_ : Int) - (ByteArray.empty.size : Nat) ≤ 100 - (ByteArray.empty.size : Nat); decide))
  rw [aw_put] at this
  exact this
theorem aw3 (id : Nat) : (awD id ByteArray.empty abB [⟨id, 0, abB⟩]).sync [fB] = (0, awD id abB abB []) := by
  rw [sync_ok rfl rfl (fun s hs => by simp at hs; subst hs; rw [aw_find]; rfl), aw_last]
  simp [others]
theorem aw4 (id : Nat) : (awD id abB abB []).write fB 2 cdB = (0, awD id abB abcdB [⟨id, 2, cdB⟩]) := by
  have := write_ok (D := awD id abB abB []) rfl rfl (aw_find _ _ _ _) (p := 2) (by show 2 ≤ abB.size; decide) (s := cdB) (by decide) (.inr (by
    rw [aw_sizes, cd_size]; show (_ : Int) - (abB.size : Nat) ≤ 100 - (abB.size : Nat); rw [ab_size]; decide))
  rw [aw_put] at this
  exact this
theorem aw5 (id : Nat) : (awD id abB abcdB [⟨id, 2, cdB⟩]).crash [] 0 = awD id abB abB [] := by
  unfold DiskA.crash
  simp [DiskA.layUp, awD, DiskA.stilled, FileA.still]
theorem aw_fit (id : Nat) : (awD id abB abcdB [⟨id, 2, cdB⟩]).Fit := by
  refine ⟨fun f hf => ?_, fun x hx f hf _ => ?_⟩
  · simp [awD] at hf; subst hf; show abB.size ≤ abcdB.size; decide
  · simp [awD] at hf hx; subst hf; subst hx; show 2 + cdB.size ≤ abcdB.size; decide
theorem aw6 (id : Nat) : (awD id abB abB []).all fB = (abB, 0) := all_ok rfl (aw_find _ _ _ _)
end Go.Proofs.Ytndpmjanflahhaa
