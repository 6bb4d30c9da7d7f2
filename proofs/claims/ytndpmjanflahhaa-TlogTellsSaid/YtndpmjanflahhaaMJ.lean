/-
  Vw0, Wh0, Wh1, Wh2, one behind the other.
-/
import Derived.Test.YtndpmjanflahhaaMG
import Derived.Test.YtndpmjanflahhaaMH
import Derived.Test.YtndpmjanflahhaaMI
/-
  A DISK ON WHICH NOTHING GOES WRONG, BY ITS NAMES AND BYTES (plain data).
-/
namespace Go.Proofs.Ytndpmjanflahhaa
open Go.RowKit Go.MapKept

/-- It is up, and no fuse burns. -/
structure Calm (D : DiskA) : Prop where
  left : D.left = -1
  down : D.down = false
def DiskA.get (D : DiskA) (n : ByteArray) : Option ByteArray := (findF D.files n).map (·.now)
def DiskA.names (D : DiskA) : List ByteArray := D.files.map (·.name)
theorem get_some {D : DiskA} {n t : ByteArray} (h : D.get n = some t) : ∃ f, findF D.files n = some f ∧ f.now = t := by
  unfold DiskA.get at h
  cases hf : findF D.files n with
  | none => rw [hf] at h; cases h
  | some f => rw [hf] at h; exact ⟨f, rfl, by simpa using h⟩
theorem get_none {D : DiskA} {n : ByteArray} (h : D.get n = none) : findF D.files n = none := by
  unfold DiskA.get at h
  cases hf : findF D.files n with
  | none => rfl
  | some f => rw [hf] at h; cases h
theorem get_isSome {D : DiskA} {n : ByteArray} : (D.get n).isSome = (findF D.files n).isSome := by unfold DiskA.get; simp
theorem get_mem {D : DiskA} {n : ByteArray} : (D.get n).isSome = true ↔ n ∈ D.names := by
  rw [get_isSome]
  unfold DiskA.names
  rw [List.mem_map]
  constructor
  · intro h
    obtain ⟨f, hf⟩ := Option.isSome_iff_exists.1 h
    exact ⟨f, (findF_some hf).1, (findF_some hf).2⟩
  · rintro ⟨f, hf, rfl⟩
    cases h : findF D.files f.name with
    | some _ => rfl
    | none => exact absurd rfl (findF_none h f hf)
theorem names_new (c : Int) : (newD c).names = [] := rfl
theorem get_new (c : Int) (n : ByteArray) : (newD c).get n = none := rfl
theorem calm_new (c : Int) : Calm (newD c) := ⟨rfl, rfl⟩

/-- What a step leaves: the same names, the same bytes but for one file. -/
structure Wrote (D : DiskA) (n t : ByteArray) (D' : DiskA) : Prop where
  calm : Calm D'
  get : D'.get n = some t
  other : ∀ m, m ≠ n → D'.get m = D.get m
  names : D'.names = D.names
  cap : D'.cap = D.cap
  waits : D'.waits.length ≤ D.waits.length + 1
  fit : D.Fit → D'.Fit
  size : ∀ o, D.get n = some o → sizes D'.files + o.size = sizes D.files + t.size

theorem laidB_nil' (t : ByteArray) (p : Nat) (s : ByteArray) (h : s.size = 0) : laidB t p s = t := laidB_nil t p s (List.length_eq_zero_iff.1 (by simpa using h))
theorem write_calm {D : DiskA} (hok : D.Ok) (hc : Calm D) {n t : ByteArray} (hg : D.get n = some t) {p : Nat} (hp : p ≤ t.size) (s : ByteArray) (hr : p + s.size ≤ t.size ∨ p + s.size + sizes D.files ≤ D.cap + t.size) :
    ∃ D', D.write n (p : Int) s = (0, D') ∧ Wrote D n (laidB t p s) D' := by
  obtain ⟨f, hf, rfl⟩ := get_some hg
  have hsz : sizes D.files ≤ D.cap := hok.size
  by_cases hs : s.size = 0
  · refine ⟨D, ?_, ⟨hc, by rw [laidB_nil' _ _ _ hs]; exact hg, fun _ _ => rfl, rfl, rfl, by omega, id, fun o ho => ?_⟩⟩
    · unfold DiskA.write; rw [hc.down, hf, burn_id hc.left]
      simp only [Bool.false_eq_true, if_false]
      rw [if_neg (by omega), if_neg (by omega), if_pos hs]; rfl
    · rw [hg] at ho; injection ho with ho; rw [laidB_nil' _ _ _ hs, ho]
  · refine ⟨D.put f p s, write_ok hc.left hc.down hf hp hs (by omega), ⟨⟨hc.left, hc.down⟩, ?_, ?_, ?_, rfl, ?_, fun h => put_fit hok.nd h (findF_some hf).1 p s hs, ?_⟩⟩
    · unfold DiskA.get
      show (findF (turn D.files f.id (FileA.setNow (laidB f.now p s))) n).map _ = _
      rw [findF_turn (u := FileA.setNow (laidB f.now p s)) (fun _ => rfl), hf]
      simp [FileA.setNow]
    · intro m hm
      unfold DiskA.get
      show (findF (turn D.files f.id (FileA.setNow (laidB f.now p s))) m).map _ = _
      rw [findF_turn (u := FileA.setNow (laidB f.now p s)) (fun _ => rfl)]
      cases hg2 : findF D.files m with
      | none => rfl
      | some g =>
        have : g.id ≠ f.id := fun e => hm (by
          have := nodup_id_eq hok.ids (findF_some hg2).1 (findF_some hf).1 e
          rw [← (findF_some hg2).2, this, (findF_some hf).2])
        simp [this]
    · show (turn _ _ _).map _ = _
      rw [turn_names _ _ (FileA.setNow (laidB f.now p s)) (fun _ => rfl)]; rfl
    · show (D.waits ++ _).length ≤ _; simp
    · intro o ho
      rw [hg] at ho; injection ho with ho; subst ho
      exact turn_sizes hok.ids (findF_some hf).1 (FileA.setNow (laidB f.now p s))

/-- A new file. -/
structure Created (D : DiskA) (n : ByteArray) (D' : DiskA) : Prop where
  calm : Calm D'
  get : D'.get n = some ByteArray.empty
  other : ∀ m, m ≠ n → D'.get m = D.get m
  names : D'.names = D.names ++ [n]
  cap : D'.cap = D.cap
  waits : D'.waits = D.waits
  size : sizes D'.files = sizes D.files
theorem create_calm {D : DiskA} (hc : Calm D) {n : ByteArray} (hg : D.get n = none) (id : Nat) : D.create n id = (0, D.addFile n id) ∧ Created D n (D.addFile n id) := by
  have hf := get_none hg
  refine ⟨create_ok hc.left hc.down hf id, ⟨⟨hc.left, hc.down⟩, ?_, ?_, ?_, rfl, rfl, ?_⟩⟩
  · unfold DiskA.get findF DiskA.addFile
    unfold findF at hf
    simp only [List.find?_append, hf]
    simp [(bytes_beq n n).2 rfl]
  · intro m hm
    unfold DiskA.get findF DiskA.addFile
    simp only [List.find?_append]
    have : (n == m) = false := by
      cases h : n == m
      · rfl
      · exact absurd ((bytes_beq _ _).1 h).symm hm
    simp [this]
  · show (D.files ++ _).map _ = _; simp [DiskA.names]
  · show sizes (D.files ++ _) = _
    rw [sizes_append]; simp [sizes]
theorem create_fit {D : DiskA} (hok : D.Ok) (h : D.Fit) (hc : Calm D) {n : ByteArray} (hg : D.get n = none) {id : Nat} (hid : ∀ f ∈ D.files, f.id ≠ id) : (D.addFile n id).Fit := by
  have := (create_near hok h n hid).fit
  rw [(create_calm hc hg id).1] at this
  exact this

instance lawfulBA : LawfulBEq ByteArray := { eq_of_beq := fun h => (bytes_beq _ _).1 h, rfl := (bytes_beq _ _).2 rfl }
/-- Files gone. -/
structure Dropped (D : DiskA) (ss : List ByteArray) (D' : DiskA) : Prop where
  calm : Calm D'
  get : ∀ m, D'.get m = if m ∈ ss then none else D.get m
  names : D'.names = D.names.filter (fun n => decide (n ∉ ss))
  cap : D'.cap = D.cap
  waits : D'.waits.length ≤ D.waits.length
  size : sizes D'.files ≤ sizes D.files
theorem find_gone (l : List FileA) (n m : ByteArray) : findF (gone l n) m = if m = n then none else findF l m := by
  unfold findF gone
  by_cases h : m = n
  · rw [if_pos h, List.find?_eq_none]
    intro f hf
    have := (List.mem_filter.1 hf).2
    rw [h]
    simpa using this
  · rw [if_neg h]
    induction l with
    | nil => rfl
    | cons x t ih =>
      rw [List.filter_cons]
      cases hx : x.name == n
      · simp only [Bool.not_false, if_true, List.find?_cons, ih]
      · have : (x.name == m) = false := by
          cases h2 : x.name == m
          · rfl
          · exact absurd (((bytes_beq _ _).1 h2).symm.trans ((bytes_beq _ _).1 hx)) h
        simp only [Bool.not_true, Bool.false_eq_true, if_false, List.find?_cons, this, ih]
theorem dropOf_calm {D : DiskA} (hc : Calm D) (s : ByteArray) : Dropped D [s] (D.dropOf s) := by
  unfold DiskA.dropOf
  cases hf : findF D.files s with
  | none =>
    refine ⟨hc, fun m => ?_, ?_, rfl, Nat.le_refl _, Nat.le_refl _⟩
    · by_cases h : m = s
      · subst h
        rw [if_pos (List.mem_singleton.2 rfl)]
        show (findF D.files m).map _ = _
        rw [hf]; rfl
      · rw [if_neg (by simp [h])]
    · rw [List.filter_eq_self.2]
      intro n hn
      simp only [List.mem_singleton, decide_eq_true_eq]
      rintro rfl
      have := get_mem.2 hn
      rw [get_isSome, hf] at this
      cases this
  | some f =>
    have hfn := (findF_some hf).2
    refine ⟨⟨hc.left, hc.down⟩, fun m => ?_, ?_, rfl, List.length_filter_le _ _, sizes_sub (gone_sub _ _)⟩
    · show (findF (gone D.files f.name) m).map _ = _
      rw [find_gone, hfn]
      simp only [List.mem_singleton]
      split <;> rfl
    · show (gone D.files f.name).map _ = (D.files.map _).filter _
      rw [hfn]
      unfold gone
      rw [List.filter_map]
      congr 1
      apply List.filter_congr
      intro x _
      simp only [Function.comp, List.mem_singleton]
      rw [Bool.eq_iff_iff]
      cases h : x.name == s
      · simp; intro e; rw [(bytes_beq _ _).2 e] at h; cases h
      · simp [(bytes_beq _ _).1 h]
theorem dropped_trans {D E G : DiskA} {s : ByteArray} {ss : List ByteArray} (h : Dropped D [s] E) (k : Dropped E ss G) : Dropped D (s :: ss) G := by
  refine ⟨k.calm, fun m => ?_, ?_, k.cap.trans h.cap, Nat.le_trans k.waits h.waits, Nat.le_trans k.size h.size⟩
  · rw [k.get, h.get]
    by_cases h1 : m ∈ ss <;> by_cases h2 : m = s <;> simp [h1, h2]
  · rw [k.names, h.names, List.filter_filter]
    apply List.filter_congr
    intro x _
    by_cases h1 : x ∈ ss <;> by_cases h2 : x = s <;> simp [h1, h2]
theorem drops_calm (ss : List ByteArray) : ∀ {D : DiskA}, Calm D → Dropped D ss (D.drops ss) := by
  induction ss with
  | nil =>
    intro D hc
    refine ⟨hc, fun m => by simp [DiskA.drops], ?_, rfl, Nat.le_refl _, Nat.le_refl _⟩
    rw [List.filter_eq_self.2 (by simp)]; rfl
  | cons s t ih =>
    intro D hc
    have h := dropOf_calm hc s
    exact dropped_trans h (ih h.calm)
theorem delete_calm {D : DiskA} (hc : Calm D) {ss : List ByteArray} (hs : ∀ s ∈ ss, s ∈ D.names) : D.delete ss = (0, D.drops ss) ∧ Dropped D ss (D.drops ss) := by
  refine ⟨?_, drops_calm ss hc⟩
  unfold DiskA.delete
  rw [bars_ok hc.down (fun s h => by rw [← get_isSome]; exact get_mem.2 (hs s h)), burn_id hc.left]; rfl

theorem read_calm {D : DiskA} (hc : Calm D) {n t : ByteArray} (hg : D.get n = some t) {p k : Nat} (hpk : p + k ≤ t.size) : D.read n (p : Int) (k : Int) = (t.extract p (p + k), 0) := by
  obtain ⟨f, hf, rfl⟩ := get_some hg
  unfold DiskA.read
  rw [all_ok hc.down hf]
  simp only [ne_eq, not_true_eq_false, if_false]
  rw [if_neg (by omega)]
  congr 1
theorem all_calm {D : DiskA} (hc : Calm D) {n t : ByteArray} (hg : D.get n = some t) : D.all n = (t, 0) := by
  obtain ⟨f, hf, rfl⟩ := get_some hg
  exact all_ok hc.down hf
theorem list_mem {D : DiskA} {h n : ByteArray} : n ∈ D.list h ↔ n ∈ D.names ∧ preB n h = true := by
  unfold DiskA.list
  rw [List.mem_filter, sorted_mem]
  unfold DiskA.names
  rw [List.mem_map]
end Go.Proofs.Ytndpmjanflahhaa

/-
  A WHEEL IN MEMORY; wheel.New.
-/
namespace Go.Proofs.Ytndpmjanflahhaa
open Go.RowKit Go.MapKept

def wslots : ByteArray := ⟨#[119, 45, 115, 108, 111, 116, 115]⟩
def whead : ByteArray := ⟨#[119, 45]⟩
def zeroB (n : Nat) : ByteArray := ⟨(zeros n).toArray⟩
theorem zeroB_size (n : Nat) : (zeroB n).size = n := by unfold zeroB; simp [ByteArray.size, zeros]

/-- Block wb is a wheel over the disk b; the blocks F are its own, and the disk's. -/
structure IsWheel (w : World) (wb b : Nat) (D : DiskA) (h : Int) (F : Nat → Prop) : Prop where
  own : F wb
  head : Blk w wb #[.pointer (some ⟨b, 0, none⟩), .int .i64 h] 136
  disk : ∃ Fd : Nat → Prop, IsDisk w b D Fd ∧ (∀ k, Fd k → F k) ∧ ¬ Fd wb
/-- .. that the call itself made. -/
def WLives (w0 : World) (wb b : Nat) (D : DiskA) (h : Int) (w : World) : Prop := ∃ F, IsWheel w wb b D h F ∧ (∀ k, F k → w0.heap.size ≤ k) ∧ Below w0.heap.size w0 w
theorem IsWheel.lives {w0 w : World} {wb b : Nat} {D : DiskA} {h : Int} (hl : WLives w0 wb b D h w) : Lives w0 b D w := by
  obtain ⟨F, hw, hF, hB⟩ := hl
  obtain ⟨Fd, hd, hs, _⟩ := hw.disk
  exact ⟨Fd, hd, fun k hk => hF k (hs k hk), hB⟩
theorem WLives.grew {w0 w : World} {wb b : Nat} {D : DiskA} {h : Int} (hl : WLives w0 wb b D h w) : Below w0.heap.size w0 w := by
  obtain ⟨F, hw, hF, hB⟩ := hl; exact hB
theorem WLives.below {w0 w w' : World} {wb b : Nat} {D : DiskA} {h : Int} (hl : WLives w0 wb b D h w) (hB' : Below w.heap.size w w') : WLives w0 wb b D h w' := by
  obtain ⟨F, hw, hF, hB⟩ := hl
  obtain ⟨Fd, hd, hs, hn⟩ := hw.disk
  exact ⟨F, ⟨hw.own, hw.head.at (hB'.block _ hw.head.lt), Fd, hd.below hB', hs, hn⟩, hF, hB.trans (hB'.mono hB.size)⟩
/-- What a step of the disk does to a wheel over it. -/
theorem wlives_step {w0 w w' : World} {wb b : Nat} {D D' : DiskA} {h : Int} {F Fd Fd' : Nat → Prop} (hw : IsWheel w wb b D h F) (hF : ∀ k, F k → w0.heap.size ≤ k) (hB : Below w0.heap.size w0 w)
    (hs : ∀ k, Fd k → F k) (hn : ¬ Fd wb) (hd' : IsDisk w' b D' Fd') (hst : Step Fd w Fd' w') : WLives w0 wb b D' h w' := by
  have hlt := hw.head.lt
  refine ⟨fun k => k = wb ∨ Fd' k, ⟨.inl rfl, hw.head.at (hst.block _ hlt hn), Fd', hd', fun k hk => .inr hk, fun hk => ?_⟩, fun k hk => ?_, hB.trans (hst.below hB.size (fun k hk => hF k (hs k hk)))⟩
  · rcases hst.new _ hk with h1 | h1
    · exact hn h1
    · omega
  · rcases hk with rfl | hk
    · exact hF _ hw.own
    · rcases hst.new _ hk with h1 | h1
      · exact hF _ (hs _ h1)
      · exact Nat.le_trans hB.size h1

/-- What New leaves of the disk. -/
structure WheelMade (D D' : DiskA) : Prop where
  calm : Calm D'
  get : D'.get wslots = some (zeroB 96)
  other : ∀ m, m ≠ wslots → D'.get m = if preB m whead = true then none else D.get m
  names : D'.names = D.names.filter (fun n => !(preB n whead)) ++ [wslots]
  cap : D'.cap = D.cap
  waits : D'.waits.length ≤ D.waits.length + 1
  size : sizes D'.files ≤ sizes D.files + 96

theorem laidB_start (s : ByteArray) : laidB ByteArray.empty 0 s = s := by
  unfold laidB laidL
  split
  · rename_i h
    have : s.data = #[] := by simpa using h
    cases s; simp only at this; subst this; rfl
  · have e : ByteArray.empty.data.toList = [] := rfl
    rw [e]
    have e2 : (List.drop (0 + s.data.toList.length) ([] ++ zeros (0 + s.data.toList.length - ([] : List UInt8).length))) = [] := by
      rw [List.drop_eq_nil_iff]; simp [zeros]
    rw [e2]
    simp

/-- The names that begin so are gone. -/
structure Cleared (D : DiskA) (h : ByteArray) (E : DiskA) : Prop where
  calm : Calm E
  get : ∀ m, E.get m = if preB m h = true then none else D.get m
  names : E.names = D.names.filter (fun n => !(preB n h))
  cap : E.cap = D.cap
  waits : E.waits.length ≤ D.waits.length
  size : sizes E.files ≤ sizes D.files
theorem cleared_of {D E : DiskA} {h : ByteArray} (k : Dropped D (D.list h) E) : Cleared D h E := by
  refine ⟨k.calm, fun m => ?_, ?_, k.cap, k.waits, k.size⟩
  · rw [k.get]
    by_cases hp : preB m h = true
    · rw [if_pos hp]
      by_cases hm : m ∈ D.names
      · rw [if_pos (list_mem.2 ⟨hm, hp⟩)]
      · split
        · rfl
        · cases hg : D.get m with
          | none => rfl
          | some t => exact absurd (get_mem.1 (by rw [hg]; rfl)) hm
    · rw [if_neg hp, if_neg (fun hm => hp (list_mem.1 hm).2)]
  · rw [k.names]
    apply List.filter_congr
    intro x hx
    cases hp : preB x h
    · simp only [Bool.not_false, decide_eq_true_eq]
      intro hm; rw [(list_mem.1 hm).2] at hp; cases hp
    · simp only [Bool.not_true, decide_eq_false_iff_not, Decidable.not_not]
      exact list_mem.2 ⟨hx, hp⟩
theorem cleared_none {D : DiskA} {h : ByteArray} (hc : Calm D) (hl : D.list h = []) : Cleared D h D := by
  refine ⟨hc, fun m => ?_, ?_, rfl, Nat.le_refl _, Nat.le_refl _⟩
  · by_cases hp : preB m h = true
    · rw [if_pos hp]
      cases hg : D.get m with
      | none => rfl
      | some t =>
        have := list_mem.2 ⟨get_mem.1 (by rw [hg]; rfl), hp⟩
        rw [hl] at this; cases this
    · rw [if_neg hp]
  · rw [List.filter_eq_self.2]
    intro x hx
    cases hp : preB x h
    · rfl
    · have := list_mem.2 ⟨hx, hp⟩
      rw [hl] at this; cases this
theorem preB_eq (s h : ByteArray) : preB s h = (decide (h.size ≤ s.size) && (s.data.toList.take h.size == h.data.toList)) := by
  unfold preB
  rw [ByteArray.toList_eq, ByteArray.toList_eq]
  simp
theorem wslots_pre : preB wslots whead = true := by rw [preB_eq]; decide
theorem made_of {D E G : DiskA} {id : Nat} {D' : DiskA} (h : Cleared D whead E) (hG : G = E.addFile wslots id) (hc : Created E wslots G) (hw : Wrote G wslots (zeroB 96) D') : WheelMade D D' := by
  refine ⟨hw.calm, hw.get, fun m hm => ?_, ?_, ?_, ?_, ?_⟩
  · rw [hw.other m hm, hc.other m hm, h.get]
  · rw [hw.names, hc.names, h.names]
  · rw [hw.cap, hc.cap, h.cap]
  · have h1 := hw.waits; rw [hc.waits] at h1; have := h.waits; omega
  · have h1 := hw.size _ hc.get
    have h2 := h.size
    have h3 := hc.size
    have h4 : ByteArray.empty.size = 0 := rfl
    rw [zeroB_size] at h1
    omega
end Go.Proofs.Ytndpmjanflahhaa

/-
  wheel.New.
-/
namespace Go.Proofs.Ytndpmjanflahhaa
open Go.RowKit Go.MapKept

/-- .. and it does not own the blocks X. -/
def LivesN (w0 : World) (b : Nat) (D : DiskA) (w : World) (X : Nat → Prop) : Prop := ∃ F, IsDisk w b D F ∧ (∀ k, F k → w0.heap.size ≤ k ∧ ¬ X k) ∧ Below w0.heap.size w0 w
theorem LivesN.lives {w0 w : World} {b : Nat} {D : DiskA} {X : Nat → Prop} (h : LivesN w0 b D w X) : Lives w0 b D w := by
  obtain ⟨F, hd, hF, hB⟩ := h; exact ⟨F, hd, fun k hk => (hF k hk).1, hB⟩
theorem strSl_of_row {w : World} {base : Nat} {a : Option Addr} {cap : Nat} {ss : List ByteArray} (h : w.ownsRow base 9 1 (.slice a ss.length cap) ss.length (ss.map Value.string)) : StrSl w a ss := by
  intro i s hi
  have hil : i < ss.length := (List.getElem?_eq_some_iff.1 hi).1
  rcases h.2 with ⟨_, h2⟩ | ⟨g, cap', cur, hv, _⟩
  · omega
  · cases hv
    refine ⟨g, 0, rfl, ?_⟩
    have := World.ownsRow.cellAt h i (by simpa using hil)
    rw [Nat.zero_add, this]; simp [hi]
theorem Lives.list {w0 w : World} {b : Nat} {D : DiskA} (h : Lives w0 b D w) (hd : ByteArray) (hh : hd.size ≤ maxLen) :
    Calls Try.prog 55 #[.pointer (some ⟨b, 0, none⟩), .string hd] w fun e w' => ∃ a cap, e = .returned (.slice a (D.list hd).length cap) ∧ StrSl w' a (D.list hd) ∧ LivesN w0 b D w' (fun k => ∃ x, a = some x ∧ k = x.block) ∧ Below w.heap.size w w' := by
  obtain ⟨F, hdk, hF, hB⟩ := h
  refine (List_any b D F w hdk hd hh).mono ?_
  rintro e w' ⟨a, cap, he, hr, hb⟩
  refine ⟨a, cap, he, strSl_of_row hr, ⟨fun k => F k ∧ k < w.heap.size, hdk.tight.below hb, fun k hk => ⟨hF k hk.1, ?_⟩, hB.trans (hb.mono hB.size)⟩, hb⟩
  rintro ⟨x, rfl, rfl⟩
  have := (World.ownsRow.lt hr x.block rfl).1
  have := hk.2
  omega
theorem LivesN.delete {w0 w : World} {b : Nat} {D : DiskA} {a : Option Addr} (h : LivesN w0 b D w (fun k => ∃ x, a = some x ∧ k = x.block)) (cap : Nat) (ss : List ByteArray) (hl : ss.length ≤ 1000000) (hr : StrSl w a ss) :
    Calls Try.prog 90 #[.pointer (some ⟨b, 0, none⟩), .slice a ss.length cap] w fun e w' => e = .returned (.int .i64 (D.delete ss).1) ∧ Lives w0 b (D.delete ss).2 w' := by
  obtain ⟨F, hdk, hF, hB⟩ := h
  refine (Delete_any b D F w hdk a cap ss hl hr (fun _ x hx hFx => (hF _ hFx).2 ⟨x, hx, rfl⟩)).mono ?_
  rintro e w' ⟨he, hd', hs⟩
  exact ⟨he, lives_step (fun k hk => (hF k hk).1) hB hd' hs⟩
/-- A wheel made over a disk. -/
theorem Lives.wheel {w0 w : World} {b : Nat} {D : DiskA} (h : Lives w0 b D w) (at_ : Int) : WLives w0 w.heap.size b D at_ (w.alloc (.cells #[.pointer (some ⟨b, 0, none⟩), .int .i64 at_] 136)) := by
  obtain ⟨F, hdk, hF, hB⟩ := h
  have hb : Below w.heap.size w (w.alloc (.cells #[.pointer (some ⟨b, 0, none⟩), .int .i64 at_] 136)) := (Below.refl _ w).alloc (Nat.le_refl _) _
  refine ⟨fun k => k = w.heap.size ∨ (F k ∧ k < w.heap.size), ⟨.inl rfl, Blk.new _ _ _, fun k => F k ∧ k < w.heap.size, hdk.tight.below hb, fun k hk => .inr hk, fun hk => by omega⟩, fun k hk => ?_, hB.trans (hb.mono hB.size)⟩
  rcases hk with rfl | hk
  · exact hB.size
  · exact hF k hk.1

set_option maxRecDepth 100000 in
/-- An argument that may not be. -/
theorem WNew_bad (b : Nat) (at_ : Int) (w : World) (hr : -9223372036854775808 ≤ at_ ∧ at_ ≤ 9223372036854775807) (h : at_ < 0 ∨ 1099511627776 < at_) :
    Calls Try.prog 49 #[.pointer (some ⟨b, 0, none⟩), .int .i64 at_] w fun e w' => e = .returned (.tuple #[.pointer none, .int .i64 1]) ∧ w = w' := by
  obtain ⟨h1, h2⟩ := hr
  by_cases h0 : at_ < 0
  · go_enter Try.func49, Try.ntmps49
    go_wp2_with fail
    go_ret2
    exact ⟨rfl, rfl⟩
  · have h3 : 1099511627776 < at_ := by omega
    clear h
    go_enter Try.func49, Try.ntmps49
    go_wp2_with fail
    go_ret2
    exact ⟨rfl, rfl⟩

def WNewPost (w0 : World) (b : Nat) (D : DiskA) (at_ : Int) (e : Ending) (w' : World) : Prop :=
  ∃ wb D', e = .returned (.tuple #[.pointer (some ⟨wb, 0, none⟩), .int .i64 0]) ∧ WLives w0 wb b D' at_ w' ∧ WheelMade D D'

set_option maxRecDepth 100000 in
set_option maxHeartbeats 4000000 in
theorem WNew_ok (w0 : World) (b : Nat) (D : DiskA) (at_ : Int) (w : World) (h : Lives w0 b D w) (hc : Calm D) (h0 : 0 ≤ at_) (h1 : at_ ≤ 1099511627776) (hroom : sizes D.files + 96 ≤ D.cap) (hfl : D.files.length ≤ 1000000) (hwl : D.waits.length < 1099511627776) :
    Calls Try.prog 49 #[.pointer (some ⟨b, 0, none⟩), .int .i64 at_] w (WNewPost w0 b D at_) := by
  obtain ⟨i0, hi0, hz0, hz1, hz2⟩ := info_parts info_u8
  have cL := h.list whead (by decide)
  have hll : (D.list whead).length ≤ 1000000 := by
    unfold DiskA.list
    have := List.length_filter_le (fun n => preB n whead) D.sorted
    rw [sorted_length] at this; omega
  -- what stands behind the clearing
  have tail : ∀ (E : DiskA) (w1 : World), Cleared D whead E → Lives w0 b E w1 → Calls Try.prog 41 #[.pointer (some ⟨b, 0, none⟩), .string wslots] w1 fun e w' => ∃ id, e = .returned (.int .i64 0) ∧ Lives w0 b (E.addFile wslots id) w' := by
    intro E w1 hE hL
    have hg : E.get wslots = none := by rw [hE.get, if_pos wslots_pre]
    have hfE : E.files.length ≤ D.files.length := by
      have := congrArg List.length hE.names
      unfold DiskA.names at this
      rw [List.length_map] at this
      have h2 := List.length_filter_le (fun n => !(preB n whead)) (D.files.map (·.name))
      rw [List.length_map] at h2; omega
    refine (hL.create wslots (by decide) (by omega)).mono ?_
    rintro e w' ⟨id, he, hl, _⟩
    rw [(create_calm hE.calm hg id).1] at he hl
    exact ⟨id, he, hl⟩
  have tail2 : ∀ (E : DiskA) (id : Nat) (w2 : World), Cleared D whead E → Lives w0 b (E.addFile wslots id) w2 → ∃ D', WheelMade D D' ∧ Calls Try.prog 42 #[.pointer (some ⟨b, 0, none⟩), .string wslots, .int .i64 0, .string (zeroB 96)] w2 fun e w' => e = .returned (.int .i64 0) ∧ Lives w0 b D' w' := by
    intro E id w2 hE hL
    have hg : E.get wslots = none := by rw [hE.get, if_pos wslots_pre]
    have hcr := (create_calm hE.calm hg id).2
    obtain ⟨D', e1, hW⟩ := write_calm hL.ok hcr.calm hcr.get (p := 0) (Nat.zero_le _) (zeroB 96) (.inr (by
      rw [hcr.size, hcr.cap, zeroB_size]
      have := hE.size; have := hE.cap; omega))
    rw [laidB_start] at hW
    refine ⟨D', made_of hE rfl hcr hW, ?_⟩
    have := hL.write wslots 0 (zeroB 96) (by rw [zeroB_size]; omega) (by rw [hcr.waits]; have := hE.waits; omega)
    have e2 : (E.addFile wslots id).write wslots 0 (zeroB 96) = (0, D') := e1
    rw [e2] at this
    exact this
  clear h
  go_enter Try.func49, Try.ntmps49
  go_wp2_with fail
  refine cL.mono ?_
  rintro e w1 ⟨a, cap, rfl, hS, hLN, hb1⟩
  clear cL
  have tailH := Lib.hid @tail
  have tail2H := Lib.hid @tail2
  clear tail tail2
  by_cases hn : (D.list whead).length = 0
  · have hE := cleared_none hc (List.length_eq_zero_iff.1 hn)
    have hL1 := hLN.lives
    clear hS hLN
    generalize (D.list whead).length = ln at *
    go_wp2_with fail
    refine (tailH.out _ _ hE hL1).mono ?_
    rintro e w2 ⟨id, rfl, hL2⟩
    go_wp2_with (refine wpList_make_full _ rfl _ _ 53 rfl 0 5 i0 (.int .u8 0) 1 Try.underlying53 hi0 hz0 hz1 .i64 .i64 96 96 96 rfl rfl rfl rfl (by rw [hz2]; omega) (by unfold maxLen; omega) (Nat.zero_le _) ?_; intro w3 hown hgrow)
    have hb3 : Below w2.heap.size w2 w3 := (Below.refl _ w2).grown hgrow (Nat.le_refl _) (fun k hk => by cases hk)
    have hbuf := Buf.made hown
    have hrun := run_fromBytes w3 w2.heap.size 96 (zeros 96) hbuf
    rw [show (zeros 96).length = 96 from by simp [zeros]] at hrun
    obtain ⟨D', hM, cW⟩ := tail2H.out _ id w3 hE (hL2.below hb3)
    clear hown hgrow hbuf
    go_wp2_with fail
    rw [hrun]
    simp only [Result.andThen]
    rw [Oper.upon_value]
    go_wp2_with fail
    refine cW.mono ?_
    rintro e w4 ⟨rfl, hL4⟩
    clear cW hrun
    go_wp2_with fail
    go_ret2
    exact ⟨_, D', rfl, hL4.wheel at_, hM⟩
  · have hpos : 0 < (D.list whead).length := by omega
    have hdl := delete_calm hc (ss := D.list whead) (fun s hs => (list_mem.1 hs).1)
    have hE := cleared_of hdl.2
    have cD := hLN.delete cap (D.list whead) hll hS
    rw [hdl.1] at cD
    generalize D.drops (D.list whead) = E at *
    clear hS hLN hdl hn
    generalize (D.list whead).length = ln at *
    go_wp2_with fail
    refine cD.mono ?_
    rintro e w11 ⟨rfl, hL1⟩
    clear cD
    go_wp2_with fail
    refine (tailH.out _ _ hE hL1).mono ?_
    rintro e w2 ⟨id, rfl, hL2⟩
    go_wp2_with (refine wpList_make_full _ rfl _ _ 53 rfl 0 5 i0 (.int .u8 0) 1 Try.underlying53 hi0 hz0 hz1 .i64 .i64 96 96 96 rfl rfl rfl rfl (by rw [hz2]; omega) (by unfold maxLen; omega) (Nat.zero_le _) ?_; intro w3 hown hgrow)
    have hb3 : Below w2.heap.size w2 w3 := (Below.refl _ w2).grown hgrow (Nat.le_refl _) (fun k hk => by cases hk)
    have hbuf := Buf.made hown
    have hrun := run_fromBytes w3 w2.heap.size 96 (zeros 96) hbuf
    rw [show (zeros 96).length = 96 from by simp [zeros]] at hrun
    obtain ⟨D', hM, cW⟩ := tail2H.out _ id w3 hE (hL2.below hb3)
    clear hown hgrow hbuf
    go_wp2_with fail
    rw [hrun]
    simp only [Result.andThen]
    rw [Oper.upon_value]
    go_wp2_with fail
    refine cW.mono ?_
    rintro e w4 ⟨rfl, hL4⟩
    clear cW hrun
    go_wp2_with fail
    go_ret2
    exact ⟨_, D', rfl, hL4.wheel at_, hM⟩
end Go.Proofs.Ytndpmjanflahhaa

/-
  (*wheel.Wheel).Turn, Hand, Ahead.
-/
namespace Go.Proofs.Ytndpmjanflahhaa
open Go.RowKit Go.MapKept

set_option maxRecDepth 100000 in
theorem handTurn_no (wb : Nat) (h now : Int) (w : World) (hc : w.cell? ⟨wb, 1, none⟩ = some (.int .i64 h)) (hn : now ≤ h) :
    Calls Try.prog 93 #[.pointer (some ⟨wb, 1, none⟩), .int .i64 now] w fun e w' => e = .returned (.tuple #[.int .i64 0, .bool false]) ∧ w = w' := by
  go_enter Try.func93, Try.ntmps93
  go_wp2
  go_ret2
  exact ⟨rfl, rfl⟩
set_option maxRecDepth 100000 in
theorem handTurn_yes (wb : Nat) (h now : Int) (w : World) (hc : w.cell? ⟨wb, 1, none⟩ = some (.int .i64 h)) (hf : w.frozen? ⟨wb, 1, none⟩ = false) (hn : h < now) (h0 : 0 ≤ h) (h1 : now ≤ 9223372036854775807) :
    Calls Try.prog 93 #[.pointer (some ⟨wb, 1, none⟩), .int .i64 now] w fun e w' => e = .returned (.tuple #[.int .i64 (h + 1), .bool true]) ∧ w' = w.setCell ⟨wb, 1, none⟩ (.int .i64 (h + 1)) := by
  go_enter Try.func93, Try.ntmps93
  go_wp2
  go_ret2
  exact ⟨rfl, rfl⟩
theorem WLives.turn_no {w0 w : World} {wb b : Nat} {D : DiskA} {h now : Int} (hl : WLives w0 wb b D h w) (hn : now ≤ h) :
    Calls Try.prog 50 #[.pointer (some ⟨wb, 0, none⟩), .int .i64 now] w fun e w' => e = .returned (.tuple #[.int .i64 0, .bool false]) ∧ w = w' := by
  obtain ⟨F, hw, hF, hB⟩ := hl
  have c := handTurn_no wb h now w (hw.head.cell 1) hn
  go_enter Try.func50, Try.ntmps50
  go_wp2_with (go_at_call 93; refine c.mono ?_; rintro e w' ⟨rfl, rfl⟩)
  go_ret2
  exact ⟨rfl, rfl⟩
theorem WLives.turn_yes {w0 w : World} {wb b : Nat} {D : DiskA} {h now : Int} (hl : WLives w0 wb b D h w) (hn : h < now) (h0 : 0 ≤ h) (h1 : now ≤ 9223372036854775807) :
    Calls Try.prog 50 #[.pointer (some ⟨wb, 0, none⟩), .int .i64 now] w fun e w' => e = .returned (.tuple #[.int .i64 (h + 1), .bool true]) ∧ WLives w0 wb b D (h + 1) w' := by
  obtain ⟨F, hw, hF, hB⟩ := hl
  have c := handTurn_yes wb h now w (hw.head.cell 1) (hw.head.frozen 1) hn h0 h1
  have hlt := hw.head.lt
  have hfin : WLives w0 wb b D (h + 1) (w.setCell ⟨wb, 1, none⟩ (.int .i64 (h + 1))) := by
    obtain ⟨Fd, hd, hs, hnb⟩ := hw.disk
    refine ⟨F, ⟨hw.own, hw.head.set 1 _, Fd, hd.kept (fun k hk _ => setCell_heap _ _ _ _ (fun e => hnb (by have e' : k = wb := e; rw [← e']; exact hk))), hs, hnb⟩, hF, hB.setCell (p := ⟨wb, 1, none⟩) (hF _ hw.own) _⟩
  clear hw hF hB
  go_enter Try.func50, Try.ntmps50
  go_wp2_with (go_at_call 93; refine c.mono ?_; rintro e w' ⟨rfl, rfl⟩)
  go_ret2
  exact ⟨rfl, hfin⟩
theorem WLives.hand {w0 w : World} {wb b : Nat} {D : DiskA} {h : Int} (hl : WLives w0 wb b D h w) :
    Calls Try.prog 52 #[.pointer (some ⟨wb, 0, none⟩)] w fun e w' => e = .returned (.int .i64 h) ∧ w = w' := by
  obtain ⟨F, hw, hF, hB⟩ := hl
  have c1 : w.cell? ⟨wb, 1, none⟩ = some (.int .i64 h) := hw.head.cell 1
  go_enter Try.func52, Try.ntmps52
  go_wp2
  go_ret
  exact ⟨rfl, rfl⟩
theorem WLives.ahead {w0 w : World} {wb b : Nat} {D : DiskA} {h now : Int} (hl : WLives w0 wb b D h w) (h0 : 0 ≤ h) (hh : h ≤ 9223372036854775807) (h1 : -9223372036854775808 ≤ now ∧ now ≤ 9223372036854775807) :
    Calls Try.prog 51 #[.pointer (some ⟨wb, 0, none⟩), .int .i64 now] w fun e w' => e = .returned (.int .i64 (max (now - h) 0)) ∧ w = w' := by
  have c := hl.hand
  obtain ⟨h2, h3⟩ := h1
  by_cases hn : now ≤ h
  · have e0 : Hid (max (now - h) 0 = 0) := by show _ = _; omega
    go_enter Try.func51, Try.ntmps51
    go_wp2_with (go_at_call 52; refine c.mono ?_; rintro e w' ⟨rfl, rfl⟩)
    go_ret
    exact ⟨ret_int (by rw [e0.out]), rfl⟩
  · have e0 : Hid (max (now - h) 0 = now - h) := by show _ = _; omega
    go_enter Try.func51, Try.ntmps51
    go_wp2_with (go_at_call 52; refine c.mono ?_; rintro e w' ⟨rfl, rfl⟩)
    go_ret
    exact ⟨ret_int (by rw [e0.out]), rfl⟩
end Go.Proofs.Ytndpmjanflahhaa
