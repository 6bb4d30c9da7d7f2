/-
  The writes that wait are what a file has beyond its image; a crash that keeps them all (plain data).
-/
import Derived.Test.YtndpmjanflahhaaKp0
namespace Go.Proofs.Ytndpmjanflahhaa
open Go.RowKit Go.MapKept

def mine (ws : List WaitA) (id : Nat) : List WaitA := ws.filter (fun x => x.id == id)
def lays (b : ByteArray) (ws : List WaitA) : ByteArray := ws.foldl (fun b x => laidB b x.pos x.s) b
theorem mine_append (a b : List WaitA) (id : Nat) : mine (a ++ b) id = mine a id ++ mine b id := by unfold mine; rw [List.filter_append]
theorem lays_append (b : ByteArray) (l k : List WaitA) : lays b (l ++ k) = lays (lays b l) k := by unfold lays; rw [List.foldl_append]
theorem mine_others_ne (ws : List WaitA) {a b : Nat} (h : a ≠ b) : mine (others ws b) a = mine ws a := by
  unfold mine others
  rw [List.filter_filter]
  apply List.filter_congr
  intro x _
  by_cases hx : x.id = a
  · have : ¬ x.id = b := fun e => h (hx.symm.trans e)
    simp [hx]
    exact h
  · simp [hx]
theorem mine_others_self (ws : List WaitA) (a : Nat) : mine (others ws a) a = [] := by
  unfold mine others
  rw [List.filter_filter, List.filter_eq_nil_iff]
  intro x _
  simp
def WholeF (ws : List WaitA) (f : FileA) : Prop := f.now = lays f.image (mine ws f.id)
def Whole (D : DiskA) : Prop := ∀ f ∈ D.files, WholeF D.waits f

theorem last1_whole {D : DiskA} (hn : Nd D) {g : FileA} (hg : g ∈ D.files) (h : ∀ f ∈ D.files, f.id ≠ g.id → WholeF D.waits f) : Whole (D.last1 g) := by
  intro f hf
  obtain ⟨y, hy, ⟨e, rfl⟩ | ⟨e, rfl⟩⟩ := turn_mem (u := FileA.setImage g.now) hf
  · have := nodup_id_eq hn.ids hy hg e
    subst this
    show y.now = lays y.now (mine (others D.waits y.id) y.id)
    rw [mine_others_self]; rfl
  · show f.now = lays f.image (mine (others D.waits g.id) f.id)
    rw [mine_others_ne _ e]
    exact h f hy e
theorem lastOf_whole {D : DiskA} (hn : Nd D) (h : Whole D) (s : ByteArray) : Whole (D.lastOf s) := by
  unfold DiskA.lastOf; split
  · rename_i g hg
    exact last1_whole hn (findF_some hg).1 (fun f hf _ => h f hf)
  · exact h
theorem lasts_whole (ss : List ByteArray) : ∀ {D : DiskA}, Nd D → Whole D → Whole (D.lasts ss) := by
  induction ss with
  | nil => exact fun _ k => k
  | cons s t ih => exact fun h k => ih (lastOf_nd h s) (lastOf_whole h k s)
theorem dropOf_whole {D : DiskA} (hn : Nd D) (h : Whole D) (s : ByteArray) : Whole (D.dropOf s) := by
  unfold DiskA.dropOf; split
  · rename_i g hg
    intro f hf
    have hfm := gone_mem.1 hf
    have hne := id_ne hn (findF_some hg).1 hfm.1 hfm.2
    show f.now = lays f.image (mine (others D.waits g.id) f.id)
    rw [mine_others_ne _ hne]
    exact h f hfm.1
  · exact h
theorem drops_whole (ss : List ByteArray) : ∀ {D : DiskA}, Nd D → Whole D → Whole (D.drops ss) := by
  induction ss with
  | nil => exact fun _ k => k
  | cons s t ih => exact fun h k => ih (dropOf_nd h s) (dropOf_whole h k s)
theorem put_whole {D : DiskA} (hn : Nd D) (h : Whole D) {g : FileA} (hg : g ∈ D.files) (p : Nat) (s : ByteArray) : Whole (D.put g p s) := by
  intro f hf
  obtain ⟨y, hy, ⟨e, rfl⟩ | ⟨e, rfl⟩⟩ := turn_mem (u := FileA.setNow (laidB g.now p s)) hf
  · have := nodup_id_eq hn.ids hy hg e
    subst this
    show laidB y.now p s = lays y.image (mine (D.waits ++ [⟨y.id, p, s⟩]) y.id)
    rw [mine_append, lays_append]
    have e1 : mine [⟨y.id, p, s⟩] y.id = [⟨y.id, p, s⟩] := by simp [mine]
    rw [e1, ← show y.now = lays y.image (mine D.waits y.id) from h y hy]
    rfl
  · show f.now = lays f.image (mine (D.waits ++ [⟨g.id, p, s⟩]) f.id)
    rw [mine_append]
    have e1 : mine [⟨g.id, p, s⟩] f.id = [] := by simp [mine]; exact fun e2 => e e2.symm
    rw [e1, List.append_nil]
    exact h f hy
theorem moved_whole {D : DiskA} (h : Whole D) {g : FileA} (hg : g ∈ D.files) (t : ByteArray) : Whole (D.moved g t) := by
  intro f hf
  rcases List.mem_append.1 (gone_mem.1 hf).1 with hf | hf
  · exact h f hf
  · simp at hf; subst hf; exact h g hg
theorem addFile_whole {D : DiskA} (hok : D.Ok) (h : Whole D) (n : ByteArray) {id : Nat} (hid : ∀ f ∈ D.files, f.id ≠ id) : Whole (D.addFile n id) := by
  intro f hf
  rcases List.mem_append.1 hf with hf | hf
  · exact h f hf
  · simp at hf; subst hf
    show ByteArray.empty = lays ByteArray.empty (mine D.waits id)
    have : mine D.waits id = [] := by
      unfold mine
      rw [List.filter_eq_nil_iff]
      intro x hx
      obtain ⟨g, hg, e⟩ := hok.waits x hx
      have := hid g hg
      simp only [beq_iff_eq]
      omega
    rw [this]; rfl
theorem doOp_whole {D : DiskA} (hok : D.Ok) (hc : Calm D) (h : Whole D) (o : OpV) {id : Nat} (hid : ∀ f ∈ D.files, f.id ≠ id) (hK : o.K ≤ 5) : Whole (D.doOp o id).2 := by
  have hb := burn_id hc.left
  have hn := hok.nd
  unfold DiskA.doOp
  split
  · unfold DiskA.create
    rw [hb]
    split
    · exact h
    · split
      · exact h
      · exact addFile_whole hok h _ hid
  split
  · unfold DiskA.write
    rw [hb]
    split
    · exact h
    · split
      · exact h
      · rename_i g hg
        split
        · exact h
        · split
          · exact h
          · rw [if_neg (by simp)]
            dsimp only
            split
            · exact h
            · exact put_whole hn h (findF_some hg).1 _ _
  split
  · unfold DiskA.sync
    rw [hb]
    split
    · exact h
    · exact lasts_whole _ hn h
  split
  · unfold DiskA.cut
    rw [hb]
    split
    · exact h
    · split
      · exact h
      · rename_i g hg
        split
        · exact h
        · have hg' := (findF_some hg).1
          have hgn := (findF_some hg).2
          have hnd : Nd (D.nowed g.id (g.now.extract 0 o.N.toNat)) := ⟨by show ((turn _ _ _).map _).Nodup; rw [turn_names _ _ (FileA.setNow (g.now.extract 0 o.N.toNat)) (fun _ => rfl)]; exact hn.names, by show ((turn _ _ _).map _).Nodup; rw [turn_ids _ _ (FileA.setNow (g.now.extract 0 o.N.toNat)) (fun _ => rfl)]; exact hn.ids⟩
          have hf2 : findF (D.nowed g.id (g.now.extract 0 o.N.toNat)).files o.A = some (g.setNow (g.now.extract 0 o.N.toNat)) := by
            have := findF_of hnd.names (f := g.setNow (g.now.extract 0 o.N.toNat)) (List.mem_map.2 ⟨g, hg', if_pos rfl⟩)
            rw [← hgn]; exact this
          have hl : (D.nowed g.id (g.now.extract 0 o.N.toNat)).lasts [o.A] = (D.nowed g.id (g.now.extract 0 o.N.toNat)).last1 (g.setNow (g.now.extract 0 o.N.toNat)) := by
            rw [lasts_one]
            unfold DiskA.lastOf; rw [hf2]
          show Whole ((D.nowed g.id (g.now.extract 0 o.N.toNat)).lasts [o.A])
          rw [hl]
          refine last1_whole hnd (findF_some hf2).1 ?_
          intro f hf hne
          obtain ⟨y, hy, ⟨e, rfl⟩ | ⟨_, rfl⟩⟩ := turn_mem (u := FileA.setNow (g.now.extract 0 o.N.toNat)) hf
          · exact absurd e hne
          · exact h f hy
  split
  · unfold DiskA.rename
    rw [hb]
    split
    · exact h
    · split
      · exact h
      · rename_i g hg
        show Whole (if o.A == o.B then D else (D.dropOf o.B).moved g o.B)
        split
        · exact h
        · rename_i hne
          exact moved_whole (dropOf_whole hn h _) (dropOf_mem (findF_some hg).1 (by rw [(findF_some hg).2]; exact fun e => hne ((bytes_beq _ _).2 e))) _
  split
  · unfold DiskA.delete
    rw [hb]
    split
    · exact h
    · exact drops_whole _ hn h
  split
  · rename_i h2; omega
  split
  · rename_i h2; omega
  · exact h

/-! ### crashes -/
theorem lackS_zero (s : ByteArray) : lackS s 0 = s := by
  unfold lackS
  have : ((s.size : Int) - min (max (0 : Int) 0) (s.size : Int)).toNat = s.size := by omega
  rw [this]
  exact ByteArray.extract_zero_size
theorem layS_zero (done : List Bool) (k : Nat) (s : ByteArray) : layS done 0 k s = s := by
  unfold layS; split
  · rfl
  · exact lackS_zero s
def FileA.laid (ws : List WaitA) (f : FileA) : FileA := { f with image := lays f.image (mine ws f.id) }
theorem layUp_all {D : DiskA} (hok : D.Ok) (done : List Bool) : ∀ k, k ≤ D.waits.length → (∀ i, i < k → done[i]? = some true) → (D.layUp done 0 D.waits k).files = D.files.map (FileA.laid (D.waits.take k)) := by
  intro k
  induction k with
  | zero =>
    intro _ _
    show D.files = _
    conv => lhs; rw [← List.map_id D.files]
    apply List.map_congr_left
    intro f _
    simp [FileA.laid, mine, lays]
  | succ k ih =>
    intro hk hd
    have ihk := ih (by omega) (fun i hi => hd i (by omega))
    obtain ⟨x, hx⟩ : ∃ x, D.waits[k]? = some x := ⟨D.waits[k]'(by omega), by simp⟩
    unfold DiskA.layUp
    rw [hd k (by omega), hx]
    dsimp only
    rw [layS_zero]
    obtain ⟨f, hf, hfx⟩ := hok.waits x (List.mem_of_getElem? hx)
    unfold DiskA.layOne
    have hby : byId (D.layUp done 0 D.waits k).files x.id = some (f.laid (D.waits.take k)) := by
      rw [ihk]
      unfold byId
      rw [List.find?_map]
      have h2 := byId_mem hok.ids hf
      unfold byId at h2
      rw [hfx] at h2
      show Option.map _ (D.files.find? (fun g => g.id == x.id)) = _
      rw [h2]; rfl
    rw [hby]
    show turn (D.layUp done 0 D.waits k).files f.id (FileA.setImage (laidB (lays f.image (mine (D.waits.take k) f.id)) x.pos x.s)) = _
    rw [ihk]
    unfold turn
    rw [List.map_map]
    apply List.map_congr_left
    intro g hg
    simp only [Function.comp]
    have htk : D.waits.take (k + 1) = D.waits.take k ++ [x] := by rw [List.take_add_one, hx]; rfl
    by_cases hgf : g.id = f.id
    · have := nodup_id_eq hok.ids hg hf hgf
      subst this
      rw [if_pos (show (FileA.laid _ g).id = g.id from rfl)]
      show FileA.mk g.name g.id (laidB (lays g.image (mine (D.waits.take k) g.id)) x.pos x.s) g.now = FileA.mk g.name g.id (lays g.image (mine (D.waits.take (k + 1)) g.id)) g.now
      rw [htk, mine_append, lays_append]
      have e1 : mine [x] g.id = [x] := by simp [mine, hfx]
      rw [e1]; rfl
    · rw [if_neg (show ¬ (FileA.laid _ g).id = f.id from hgf)]
      show FileA.mk g.name g.id (lays g.image (mine (D.waits.take k) g.id)) g.now = FileA.mk g.name g.id (lays g.image (mine (D.waits.take (k + 1)) g.id)) g.now
      rw [htk, mine_append]
      have e1 : mine [x] g.id = [] := by simp [mine]; rw [← hfx]; exact fun e => hgf e.symm
      rw [e1, List.append_nil]
/-- A crash that keeps all writes, whole, loses nothing. -/
theorem crash_all {D : DiskA} (hok : D.Ok) (h : Whole D) (ks : List Bool) (hk : D.waits.length ≤ ks.length) (ht : ∀ b ∈ ks, b = true) : (D.crash ks 0).files = D.files.map (fun f => { f with image := f.now }) := by
  unfold DiskA.crash
  have hmin : min ks.length D.waits.length = D.waits.length := by omega
  rw [hmin]
  show List.map _ (D.layUp (ks.take D.waits.length) 0 D.waits D.waits.length).files = _
  rw [layUp_all hok _ _ (Nat.le_refl _) (fun i hi => by
    rw [List.getElem?_take_of_lt hi]
    have hi2 : i < ks.length := by omega
    rw [List.getElem?_eq_getElem hi2, ht _ (List.getElem_mem hi2)]), List.map_map, List.take_length]
  apply List.map_congr_left
  intro f hf
  simp only [Function.comp]
  rw [if_neg (by simp)]
  have := h f hf
  unfold WholeF at this
  show FileA.mk f.name f.id (lays f.image (mine D.waits f.id)) (lays f.image (mine D.waits f.id)) = FileA.mk f.name f.id f.now f.now
  rw [← this]
theorem crash_none (D : DiskA) (ks : List Bool) (lack : Int) (h : ks.length = 0 ∨ D.waits.length = 0) : (D.crash ks lack).files = D.files.map FileA.still := by
  unfold DiskA.crash
  have hmin : min ks.length D.waits.length = 0 := by omega
  rw [hmin]
  show List.map _ D.files = _
  apply List.map_congr_left
  intro f _
  rw [if_neg (by simp)]
theorem sizes_still {D : DiskA} (h : D.Fit) : sizes (D.files.map FileA.still) ≤ sizes D.files := by
  have := stilled_sizes h []
  have e : (D.stilled []).files = D.files.map FileA.still := by
    show List.map _ D.files = _
    apply List.map_congr_left
    intro f _
    rw [if_neg (by simp)]
  rw [e] at this; exact this
theorem still_still (l : List FileA) : (l.map FileA.still).map FileA.still = l.map FileA.still := by rw [List.map_map]; rfl
end Go.Proofs.Ytndpmjanflahhaa
