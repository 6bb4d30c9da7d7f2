/-
  A call that does not name a file leaves it as it is; a crash can always be laid (plain data).
-/
import Derived.Test.YtndpmjanflahhaaDk31
namespace Go.Proofs.Ytndpmjanflahhaa
open Go.RowKit Go.MapKept

/-- This very file is there, and no write of it waits. -/
structure Keeps (D : DiskA) (f : FileA) : Prop where
  mem : f ∈ D.files
  waits : ∀ x ∈ D.waits, x.id ≠ f.id
structure Nd (D : DiskA) : Prop where
  names : (D.files.map (·.name)).Nodup
  ids : (D.files.map (·.id)).Nodup
theorem DiskA.Ok.nd {D : DiskA} (h : D.Ok) : Nd D := ⟨h.names, h.ids⟩

theorem id_ne {D : DiskA} (h : Nd D) {f g : FileA} (hf : f ∈ D.files) (hg : g ∈ D.files) (hn : g.name ≠ f.name) : g.id ≠ f.id :=
  fun e => hn (by rw [nodup_id_eq h.ids hg hf e])
theorem turn_keep {l : List FileA} {f : FileA} (hf : f ∈ l) {id : Nat} (h : id ≠ f.id) (u : FileA → FileA) : f ∈ turn l id u :=
  List.mem_map.2 ⟨f, hf, if_neg (fun e => h e.symm)⟩
theorem others_mem {l : List WaitA} {id : Nat} {x : WaitA} : x ∈ others l id ↔ x ∈ l ∧ x.id ≠ id := by
  unfold others; rw [List.mem_filter]; simp
theorem burn_keeps {D : DiskA} {f : FileA} (h : Keeps D f) : Keeps D.burn.2 f := ⟨by rw [(burn_files D).1]; exact h.mem, by rw [(burn_files D).2.1]; exact h.waits⟩
theorem burn_nd {D : DiskA} (h : Nd D) : Nd D.burn.2 := ⟨by rw [(burn_files D).1]; exact h.names, by rw [(burn_files D).1]; exact h.ids⟩
theorem burn_fit {D : DiskA} (h : D.Fit) : D.burn.2.Fit := ⟨by rw [(burn_files D).1]; exact h.image, by rw [(burn_files D).1, (burn_files D).2.1]; exact h.wait⟩

/-! ### files last -/
theorem lastOf_nd {D : DiskA} (h : Nd D) (s : ByteArray) : Nd (D.lastOf s) := by
  unfold DiskA.lastOf; split
  · rename_i g _
    exact ⟨by show ((turn _ _ _).map _).Nodup; rw [turn_names _ _ (FileA.setImage g.now) (fun _ => rfl)]; exact h.names, by show ((turn _ _ _).map _).Nodup; rw [turn_ids _ _ (FileA.setImage g.now) (fun _ => rfl)]; exact h.ids⟩
  · exact h
theorem lastOf_keeps {D : DiskA} (h : Nd D) {f : FileA} (k : Keeps D f) {s : ByteArray} (hs : s ≠ f.name) : Keeps (D.lastOf s) f := by
  unfold DiskA.lastOf; split
  · rename_i g hg
    have hgm := findF_some hg
    have hid := id_ne h k.mem hgm.1 (by rw [hgm.2]; exact hs)
    exact ⟨turn_keep k.mem hid _, fun x hx => k.waits x (others_mem.1 hx).1⟩
  · exact k
/-- .. where all but one file fits. -/
theorem last1_fit' {D : DiskA} (hn : Nd D) {g : FileA} (hg : g ∈ D.files) (h1 : ∀ f ∈ D.files, f.id ≠ g.id → f.image.size ≤ f.now.size) (h2 : ∀ x ∈ D.waits, x.id ≠ g.id → ∀ f ∈ D.files, f.id = x.id → x.pos + x.s.size ≤ f.now.size) : (D.last1 g).Fit := by
  refine ⟨fun f hf => ?_, fun x hx f hf e => ?_⟩
  · obtain ⟨y, hy, ⟨e, rfl⟩ | ⟨e, rfl⟩⟩ := turn_mem (u := FileA.setImage g.now) hf
    · have := nodup_id_eq hn.ids hy hg e
      subst this
      exact Nat.le_refl _
    · exact h1 f hy e
  · have hx' := others_mem.1 hx
    obtain ⟨y, hy, ⟨_, rfl⟩ | ⟨_, rfl⟩⟩ := turn_mem (u := FileA.setImage g.now) hf
    · exact h2 x hx'.1 hx'.2 y hy e
    · exact h2 x hx'.1 hx'.2 f hy e
theorem last1_fit {D : DiskA} (hn : Nd D) (h : D.Fit) {g : FileA} (hg : g ∈ D.files) : (D.last1 g).Fit :=
  last1_fit' hn hg (fun f hf _ => h.image f hf) (fun x hx _ => h.wait x hx)
theorem lastOf_fit {D : DiskA} (hn : Nd D) (h : D.Fit) (s : ByteArray) : (D.lastOf s).Fit := by
  unfold DiskA.lastOf; split
  · rename_i g hg
    exact last1_fit hn h (findF_some hg).1
  · exact h
theorem lastOf_size (D : DiskA) (s : ByteArray) : (D.lastOf s).waits.length ≤ D.waits.length ∧ (D.lastOf s).files.length = D.files.length := by
  unfold DiskA.lastOf; split
  · exact ⟨List.length_filter_le _ _, by show (turn _ _ _).length = _; unfold turn; rw [List.length_map]⟩
  · exact ⟨Nat.le_refl _, rfl⟩
theorem lasts_all (ss : List ByteArray) : ∀ {D : DiskA}, Nd D → D.Fit → Nd (D.lasts ss) ∧ (D.lasts ss).Fit ∧ (D.lasts ss).waits.length ≤ D.waits.length ∧ (D.lasts ss).files.length = D.files.length := by
  induction ss with
  | nil => exact fun h k => ⟨h, k, Nat.le_refl _, rfl⟩
  | cons s t ih =>
    intro D h k
    have := ih (lastOf_nd h s) (lastOf_fit h k s)
    have hz := lastOf_size D s
    exact ⟨this.1, this.2.1, Nat.le_trans this.2.2.1 hz.1, this.2.2.2.trans hz.2⟩
theorem lasts_keeps (ss : List ByteArray) : ∀ {D : DiskA}, Nd D → ∀ {f : FileA}, Keeps D f → (∀ s ∈ ss, s ≠ f.name) → Keeps (D.lasts ss) f := by
  induction ss with
  | nil => exact fun _ _ k _ => k
  | cons s t ih =>
    intro D h f k hs
    exact ih (lastOf_nd h s) (lastOf_keeps h k (hs s List.mem_cons_self)) (fun x hx => hs x (List.mem_cons_of_mem _ hx))

/-! ### files go -/
theorem gone_nd {D : DiskA} (h : Nd D) (l : List WaitA) (n : ByteArray) : Nd ((D.waited l).removed n) :=
  ⟨h.names.sublist ((gone_sub _ _).map _), h.ids.sublist ((gone_sub _ _).map _)⟩
theorem dropOf_nd {D : DiskA} (h : Nd D) (s : ByteArray) : Nd (D.dropOf s) := by
  unfold DiskA.dropOf; split
  · exact gone_nd h _ _
  · exact h
theorem dropOf_keeps {D : DiskA} {f : FileA} (k : Keeps D f) {s : ByteArray} (hs : s ≠ f.name) : Keeps (D.dropOf s) f := by
  unfold DiskA.dropOf; split
  · rename_i g hg
    refine ⟨gone_mem.2 ⟨k.mem, ?_⟩, fun x hx => k.waits x (others_mem.1 hx).1⟩
    rw [(findF_some hg).2]; exact fun e => hs e.symm
  · exact k
theorem dropOf_fit {D : DiskA} (h : D.Fit) (s : ByteArray) : (D.dropOf s).Fit := by
  unfold DiskA.dropOf; split
  · exact ⟨fun f hf => h.image f (gone_mem.1 hf).1, fun x hx f hf e => h.wait x (others_mem.1 hx).1 f (gone_mem.1 hf).1 e⟩
  · exact h
theorem dropOf_size (D : DiskA) (s : ByteArray) : (D.dropOf s).waits.length ≤ D.waits.length ∧ (D.dropOf s).files.length ≤ D.files.length := by
  unfold DiskA.dropOf; split
  · exact ⟨List.length_filter_le _ _, List.length_filter_le _ _⟩
  · exact ⟨Nat.le_refl _, Nat.le_refl _⟩
theorem drops_all (ss : List ByteArray) : ∀ {D : DiskA}, Nd D → D.Fit → Nd (D.drops ss) ∧ (D.drops ss).Fit ∧ (D.drops ss).waits.length ≤ D.waits.length ∧ (D.drops ss).files.length ≤ D.files.length := by
  induction ss with
  | nil => exact fun h k => ⟨h, k, Nat.le_refl _, Nat.le_refl _⟩
  | cons s t ih =>
    intro D h k
    have := ih (dropOf_nd h s) (dropOf_fit k s)
    have hz := dropOf_size D s
    exact ⟨this.1, this.2.1, Nat.le_trans this.2.2.1 hz.1, Nat.le_trans this.2.2.2 hz.2⟩
theorem drops_keeps (ss : List ByteArray) : ∀ {D : DiskA} {f : FileA}, Keeps D f → (∀ s ∈ ss, s ≠ f.name) → Keeps (D.drops ss) f := by
  induction ss with
  | nil => exact fun k _ => k
  | cons s t ih =>
    intro D f k hs
    exact ih (dropOf_keeps k (hs s List.mem_cons_self)) (fun x hx => hs x (List.mem_cons_of_mem _ hx))

/-! ### a crash -/
theorem layOne_keeps {D : DiskA} {f : FileA} (k : Keeps D f) {x : WaitA} (hx : x.id ≠ f.id) (s : ByteArray) : Keeps (D.layOne x s) f := by
  unfold DiskA.layOne; split
  · rename_i g hg
    exact ⟨turn_keep k.mem (by rw [(byId_some hg).2]; exact hx) _, k.waits⟩
  · exact k
theorem layUp_keeps {D : DiskA} {f : FileA} (k : Keeps D f) (done : List Bool) (lack : Int) (n : Nat) : Keeps (D.layUp done lack D.waits n) f := by
  induction n with
  | zero => exact k
  | succ n ih =>
    unfold DiskA.layUp
    split
    · rename_i x _ hx
      exact layOne_keeps ih (k.waits x (List.mem_of_getElem? hx)) _
    · exact ih
theorem crash_keeps {D : DiskA} {f : FileA} (k : Keeps D f) (hf : f.image = f.now) (keep : List Bool) (lack : Int) : Keeps (D.crash keep lack) f := by
  refine ⟨?_, fun x hx => by cases hx⟩
  refine List.mem_map.2 ⟨f, (layUp_keeps k _ _ _).mem, ?_⟩
  rw [if_neg (by simp)]
  cases f; simp only at hf; subst hf; rfl
theorem crash_fit (D : DiskA) (keep : List Bool) (lack : Int) : (D.crash keep lack).Fit := by
  refine ⟨fun f hf => ?_, fun x hx => by cases hx⟩
  obtain ⟨g, _, rfl⟩ := List.mem_map.1 hf
  rw [if_neg (by simp)]
  exact Nat.le_refl _
theorem crash_size (D : DiskA) (keep : List Bool) (lack : Int) : (D.crash keep lack).files.length = D.files.length := by
  show (List.map _ _).length = _
  rw [List.length_map]
  have := congrArg List.length (AlikeI.layUp D (keep.take (min keep.length D.waits.length)) lack D.waits (min keep.length D.waits.length)).files
  simpa using this

/-! ### a call -/
structure DiskA.Near (D E : DiskA) : Prop where
  fit : E.Fit
  waits : E.waits.length ≤ D.waits.length + 1
  files : E.files.length ≤ D.files.length + 1
theorem near_refl {D : DiskA} (h : D.Fit) : D.Near D := ⟨h, by omega, by omega⟩
theorem near_burn {D : DiskA} (h : D.Fit) : D.Near D.burn.2 := ⟨burn_fit h, by rw [(burn_files D).2.1]; omega, by rw [(burn_files D).1]; omega⟩
theorem put_fit {D : DiskA} (hn : Nd D) (h : D.Fit) {g : FileA} (hg : g ∈ D.files) (p : Nat) (s : ByteArray) (hs : s.size ≠ 0) : (D.put g p s).Fit := by
  refine ⟨fun f hf => ?_, fun x hx f hf e => ?_⟩
  · obtain ⟨y, hy, ⟨e, rfl⟩ | ⟨e, rfl⟩⟩ := turn_mem (u := FileA.setNow (laidB g.now p s)) hf
    · have := nodup_id_eq hn.ids hy hg e
      subst this
      show y.image.size ≤ (laidB y.now p s).size
      rw [laidB_size _ _ _ hs]
      have := h.image y hy
      omega
    · exact h.image f hy
  · have hx' : x ∈ D.waits ∨ x = ⟨g.id, p, s⟩ := by
      have : x ∈ D.waits ++ [⟨g.id, p, s⟩] := hx
      simpa using this
    obtain ⟨y, hy, ⟨e1, rfl⟩ | ⟨e1, rfl⟩⟩ := turn_mem (u := FileA.setNow (laidB g.now p s)) hf
    · have := nodup_id_eq hn.ids hy hg e1
      subst this
      show x.pos + x.s.size ≤ (laidB y.now p s).size
      rw [laidB_size _ _ _ hs]
      rcases hx' with hx' | rfl
      · have := h.wait x hx' y hy e
        omega
      · show p + s.size ≤ _
        omega
    · rcases hx' with hx' | rfl
      · exact h.wait x hx' f hy e
      · exact absurd e e1
theorem put_keeps {D : DiskA} (hn : Nd D) {f : FileA} (k : Keeps D f) {g : FileA} (hg : g ∈ D.files) (hne : g.name ≠ f.name) (p : Nat) (s : ByteArray) : Keeps (D.put g p s) f := by
  have hid := id_ne hn k.mem hg hne
  refine ⟨turn_keep k.mem hid _, fun x hx => ?_⟩
  have : x ∈ D.waits ++ [⟨g.id, p, s⟩] := hx
  simp at this
  rcases this with h | rfl
  · exact k.waits x h
  · exact hid

theorem create_near {D : DiskA} (hok : D.Ok) (h : D.Fit) (n : ByteArray) {id : Nat} (hid : ∀ f ∈ D.files, f.id ≠ id) : D.Near (D.create n id).2 := by
  unfold DiskA.create
  split
  · exact near_refl h
  · split
    · exact near_refl h
    · split
      · have hb := burn_fit h
        refine ⟨⟨fun f hf => ?_, fun x hx f hf e => ?_⟩, ?_, ?_⟩
        · rcases List.mem_append.1 hf with hf | hf
          · exact hb.image f hf
          · simp at hf; subst hf; exact Nat.le_refl _
        · have hx' : x ∈ D.waits := by rw [← (burn_files D).2.1]; exact hx
          rcases List.mem_append.1 hf with hf | hf
          · exact hb.wait x hx f hf e
          · simp at hf; subst hf
            obtain ⟨g, hg, e2⟩ := hok.waits x hx'
            exact absurd (e2.trans e.symm) (hid g hg)
        · show D.burn.2.waits.length ≤ _
          rw [(burn_files D).2.1]; omega
        · show (D.burn.2.files ++ _).length ≤ _
          rw [(burn_files D).1]; simp
      · exact near_burn h
theorem create_keeps {D : DiskA} {f : FileA} (k : Keeps D f) (n : ByteArray) (id : Nat) : Keeps (D.create n id).2 f := by
  unfold DiskA.create
  split
  · exact k
  · split
    · exact k
    · split
      · exact ⟨List.mem_append.2 (.inl (burn_keeps k).mem), (burn_keeps k).waits⟩
      · exact burn_keeps k

theorem write_near {D : DiskA} (hn : Nd D) (h : D.Fit) (n : ByteArray) (p : Int) (s : ByteArray) : D.Near (D.write n p s).2 := by
  unfold DiskA.write
  split
  · exact near_refl h
  · split
    · exact near_refl h
    · rename_i g hg
      split
      · exact near_refl h
      · split
        · exact near_refl h
        · split
          · exact near_burn h
          · dsimp only
            split
            · exact near_burn h
            · rename_i hs
              have hg' : g ∈ D.burn.2.files := by rw [(burn_files D).1]; exact (findF_some hg).1
              refine ⟨put_fit (burn_nd hn) (burn_fit h) hg' _ _ hs, ?_, ?_⟩
              · show (D.burn.2.waits ++ _).length ≤ _
                rw [(burn_files D).2.1]; simp
              · show (turn D.burn.2.files _ _).length ≤ _
                unfold turn; rw [List.length_map, (burn_files D).1]; omega
theorem write_keeps {D : DiskA} (hn : Nd D) {f : FileA} (k : Keeps D f) {n : ByteArray} (hne : n ≠ f.name) (p : Int) (s : ByteArray) : Keeps (D.write n p s).2 f := by
  unfold DiskA.write
  split
  · exact k
  · split
    · exact k
    · rename_i g hg
      split
      · exact k
      · split
        · exact k
        · split
          · exact burn_keeps k
          · dsimp only
            split
            · exact burn_keeps k
            · have hg' : g ∈ D.burn.2.files := by rw [(burn_files D).1]; exact (findF_some hg).1
              exact put_keeps (burn_nd hn) (burn_keeps k) hg' (by rw [(findF_some hg).2]; exact hne) _ _

theorem sync_near {D : DiskA} (hn : Nd D) (h : D.Fit) (ss : List ByteArray) : D.Near (D.sync ss).2 := by
  unfold DiskA.sync
  split
  · exact near_refl h
  · split
    · have := lasts_all ss (burn_nd hn) (burn_fit h)
      exact ⟨this.2.1, by have h1 := this.2.2.1; rw [(burn_files D).2.1] at h1; show (D.burn.2.lasts ss).waits.length ≤ _; omega, by have h1 := this.2.2.2; rw [(burn_files D).1] at h1; show (D.burn.2.lasts ss).files.length ≤ _; omega⟩
    · exact near_burn h
theorem sync_keeps {D : DiskA} (hn : Nd D) {f : FileA} (k : Keeps D f) {ss : List ByteArray} (hs : ∀ s ∈ ss, s ≠ f.name) : Keeps (D.sync ss).2 f := by
  unfold DiskA.sync
  split
  · exact k
  · split
    · exact lasts_keeps ss (burn_nd hn) (burn_keeps k) hs
    · exact burn_keeps k

theorem cut_near {D : DiskA} (hn : Nd D) (h : D.Fit) (n : ByteArray) (i : Int) : D.Near (D.cut n i).2 := by
  unfold DiskA.cut
  split
  · exact near_refl h
  · split
    · exact near_refl h
    · rename_i g hg
      split
      · exact near_refl h
      · split
        · have hg' : g ∈ D.burn.2.files := by rw [(burn_files D).1]; exact (findF_some hg).1
          have hgn := (findF_some hg).2
          generalize hE : D.burn.2 = E at *
          have hnE : Nd E := by rw [← hE]; exact burn_nd hn
          have hfE : E.Fit := by rw [← hE]; exact burn_fit h
          have hnd : Nd (E.nowed g.id (g.now.extract 0 i.toNat)) := ⟨by show ((turn _ _ _).map _).Nodup; rw [turn_names _ _ (FileA.setNow (g.now.extract 0 i.toNat)) (fun _ => rfl)]; exact hnE.names, by show ((turn _ _ _).map _).Nodup; rw [turn_ids _ _ (FileA.setNow (g.now.extract 0 i.toNat)) (fun _ => rfl)]; exact hnE.ids⟩
          have hf2 : findF (E.nowed g.id (g.now.extract 0 i.toNat)).files n = some (g.setNow (g.now.extract 0 i.toNat)) := by
            have := findF_of hnd.names (f := g.setNow (g.now.extract 0 i.toNat)) (List.mem_map.2 ⟨g, hg', if_pos rfl⟩)
            rw [← hgn]; exact this
          have hl : (E.nowed g.id (g.now.extract 0 i.toNat)).lasts [n] = (E.nowed g.id (g.now.extract 0 i.toNat)).last1 (g.setNow (g.now.extract 0 i.toNat)) := by
            show DiskA.lastOf _ n = _
            unfold DiskA.lastOf; rw [hf2]
          have hm2 := (findF_some hf2).1
          have hw : E.waits.length = D.waits.length := by rw [← hE, (burn_files D).2.1]
          have hfl : E.files.length = D.files.length := by rw [← hE, (burn_files D).1]
          show D.Near ((E.nowed g.id (g.now.extract 0 i.toNat)).lasts [n])
          rw [hl]
          refine ⟨last1_fit' hnd hm2 ?_ ?_, ?_, ?_⟩
          · intro f hf hne
            obtain ⟨y, hy, ⟨e, rfl⟩ | ⟨_, rfl⟩⟩ := turn_mem (u := FileA.setNow (g.now.extract 0 i.toNat)) hf
            · exact absurd e hne
            · exact hfE.image f hy
          · intro x hx hne f hf e2
            obtain ⟨y, hy, ⟨e, rfl⟩ | ⟨_, rfl⟩⟩ := turn_mem (u := FileA.setNow (g.now.extract 0 i.toNat)) hf
            · exact absurd (e2.symm.trans e) hne
            · exact hfE.wait x hx f hy e2
          · show (others E.waits _).length ≤ _
            have : (others E.waits (g.setNow (g.now.extract 0 i.toNat)).id).length ≤ E.waits.length := List.length_filter_le _ _
            omega
          · show (turn (turn _ _ _) _ _).length ≤ _
            unfold turn; rw [List.length_map, List.length_map]; omega
        · exact near_burn h
theorem cut_keeps {D : DiskA} (hn : Nd D) {f : FileA} (k : Keeps D f) {n : ByteArray} (hne : n ≠ f.name) (i : Int) : Keeps (D.cut n i).2 f := by
  unfold DiskA.cut
  split
  · exact k
  · split
    · exact k
    · rename_i g hg
      split
      · exact k
      · split
        · have hg' : g ∈ D.burn.2.files := by rw [(burn_files D).1]; exact (findF_some hg).1
          have hgn := (findF_some hg).2
          have hkE := burn_keeps k
          have hnE := burn_nd hn
          generalize D.burn.2 = E at *
          have hid := id_ne hnE hkE.mem hg' (by rw [hgn]; exact hne)
          have hnd : Nd (E.nowed g.id (g.now.extract 0 i.toNat)) := ⟨by show ((turn _ _ _).map _).Nodup; rw [turn_names _ _ (FileA.setNow (g.now.extract 0 i.toNat)) (fun _ => rfl)]; exact hnE.names, by show ((turn _ _ _).map _).Nodup; rw [turn_ids _ _ (FileA.setNow (g.now.extract 0 i.toNat)) (fun _ => rfl)]; exact hnE.ids⟩
          have hk2 : Keeps (E.nowed g.id (g.now.extract 0 i.toNat)) f := ⟨turn_keep hkE.mem hid _, hkE.waits⟩
          exact lasts_keeps [n] hnd hk2 (fun s hs => by simp at hs; subst hs; exact hne)
        · exact burn_keeps k

theorem moved_fit {D : DiskA} (h : D.Fit) {g : FileA} (hg : g ∈ D.files) (t : ByteArray) : (D.moved g t).Fit := by
  refine ⟨fun f hf => ?_, fun x hx f hf e => ?_⟩
  · rcases List.mem_append.1 (gone_mem.1 hf).1 with hf | hf
    · exact h.image f hf
    · simp at hf; subst hf; exact h.image g hg
  · rcases List.mem_append.1 (gone_mem.1 hf).1 with hf | hf
    · exact h.wait x hx f hf e
    · simp at hf; subst hf; exact h.wait x hx g hg e
theorem dropOf_mem {D : DiskA} {g : FileA} (hg : g ∈ D.files) {s : ByteArray} (hne : g.name ≠ s) : g ∈ (D.dropOf s).files := by
  unfold DiskA.dropOf; split
  · rename_i y hy
    exact gone_mem.2 ⟨hg, by rw [(findF_some hy).2]; exact hne⟩
  · exact hg
theorem rename_near {D : DiskA} (h : D.Fit) (n t : ByteArray) : D.Near (D.rename n t).2 := by
  unfold DiskA.rename
  split
  · exact near_refl h
  · split
    · exact near_refl h
    · rename_i g hg
      split
      · dsimp only
        split
        · exact near_burn h
        · rename_i hne
          have hg' : g ∈ D.burn.2.files := by rw [(burn_files D).1]; exact (findF_some hg).1
          have hgm : g ∈ (D.burn.2.dropOf t).files := dropOf_mem hg' (by rw [(findF_some hg).2]; exact fun e => hne ((bytes_beq _ _).2 e))
          have hz := dropOf_size D.burn.2 t
          rw [(burn_files D).2.1, (burn_files D).1] at hz
          refine ⟨moved_fit (dropOf_fit (burn_fit h) t) hgm t, ?_, ?_⟩
          · show (D.burn.2.dropOf t).waits.length ≤ _; omega
          · show (gone _ _).length ≤ _
            have : (gone ((D.burn.2.dropOf t).files ++ [{ g with name := t }]) g.name).length ≤ ((D.burn.2.dropOf t).files ++ [{ g with name := t }]).length := List.length_filter_le _ _
            simp at this
            omega
      · exact near_burn h
theorem rename_keeps {D : DiskA} {f : FileA} (k : Keeps D f) {n t : ByteArray} (hn : n ≠ f.name) (ht : t ≠ f.name) : Keeps (D.rename n t).2 f := by
  unfold DiskA.rename
  split
  · exact k
  · split
    · exact k
    · rename_i g hg
      split
      · dsimp only
        split
        · exact burn_keeps k
        · have hk := dropOf_keeps (burn_keeps k) ht
          exact ⟨gone_mem.2 ⟨List.mem_append.2 (.inl hk.mem), by rw [(findF_some hg).2]; exact fun e => hn e.symm⟩, hk.waits⟩
      · exact burn_keeps k

theorem delete_near {D : DiskA} (hn : Nd D) (h : D.Fit) (ss : List ByteArray) : D.Near (D.delete ss).2 := by
  unfold DiskA.delete
  split
  · exact near_refl h
  · split
    · have := drops_all ss (burn_nd hn) (burn_fit h)
      exact ⟨this.2.1, by have h1 := this.2.2.1; rw [(burn_files D).2.1] at h1; show (D.burn.2.drops ss).waits.length ≤ _; omega, by have h1 := this.2.2.2; rw [(burn_files D).1] at h1; show (D.burn.2.drops ss).files.length ≤ _; omega⟩
    · exact near_burn h
theorem delete_keeps {D : DiskA} {f : FileA} (k : Keeps D f) {ss : List ByteArray} (hs : ∀ s ∈ ss, s ≠ f.name) : Keeps (D.delete ss).2 f := by
  unfold DiskA.delete
  split
  · exact k
  · split
    · exact drops_keeps ss (burn_keeps k) hs
    · exact burn_keeps k

theorem doOp_near {D : DiskA} (hok : D.Ok) (h : D.Fit) (o : OpV) {id : Nat} (hid : ∀ f ∈ D.files, f.id ≠ id) : D.Near (D.doOp o id).2 := by
  unfold DiskA.doOp
  split
  · exact create_near hok h _ hid
  split
  · exact write_near hok.nd h _ _ _
  split
  · exact sync_near hok.nd h _
  split
  · exact cut_near hok.nd h _ _
  split
  · exact rename_near h _ _
  split
  · exact delete_near hok.nd h _
  split
  · exact ⟨⟨h.image, h.wait⟩, Nat.le_succ _, Nat.le_succ _⟩
  split
  · exact ⟨crash_fit D _ _, Nat.zero_le _, by show (D.crash _ _).files.length ≤ _; rw [crash_size]; omega⟩
  · exact near_refl h
theorem doOp_keeps {D : DiskA} (hok : D.Ok) {f : FileA} (k : Keeps D f) (hf : f.image = f.now) (o : OpV) (id : Nat) (hA : o.A ≠ f.name) (hB : o.B ≠ f.name) (hL : ∀ s ∈ o.L, s ≠ f.name) : Keeps (D.doOp o id).2 f := by
  unfold DiskA.doOp
  split
  · exact create_keeps k _ _
  split
  · exact write_keeps hok.nd k hA _ _
  split
  · exact sync_keeps hok.nd k hL
  split
  · exact cut_keeps hok.nd k hA _
  split
  · exact rename_keeps k hA hB
  split
  · exact delete_keeps k hL
  split
  · exact ⟨k.mem, k.waits⟩
  split
  · exact crash_keeps k hf _ _
  · exact k
end Go.Proofs.Ytndpmjanflahhaa
