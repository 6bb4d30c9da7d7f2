/-
  Two disks that are alike but for their files' blocks; what a disk's writes that wait come to (plain data).
-/
import Derived.Test.YtndpmjanflahhaaRm0
namespace Go.Proofs.Ytndpmjanflahhaa
open Go.RowKit Go.MapKept

def FileA.ren (φ : Nat → Nat) (f : FileA) : FileA := { f with id := φ f.id }
def WaitA.ren (φ : Nat → Nat) (x : WaitA) : WaitA := { x with id := φ x.id }
def DiskA.ren (φ : Nat → Nat) (D : DiskA) : DiskA := { D with files := D.files.map (FileA.ren φ), waits := D.waits.map (WaitA.ren φ) }

section
variable {φ : Nat → Nat} (hφ : ∀ a b, φ a = φ b → a = b)
include hφ

theorem turn_ren (l : List FileA) (id : Nat) (u : FileA → FileA) (hu : ∀ g, u (g.ren φ) = (u g).ren φ) : turn (l.map (FileA.ren φ)) (φ id) u = (turn l id u).map (FileA.ren φ) := by
  unfold turn
  rw [List.map_map, List.map_map]
  apply List.map_congr_left
  intro g _
  simp only [Function.comp]
  by_cases h : g.id = id
  · rw [if_pos h, if_pos (by show φ g.id = _; rw [h]), hu]
  · rw [if_neg h, if_neg (show ¬ (g.ren φ).id = φ id from fun e => h (hφ _ _ e))]
theorem others_ren (l : List WaitA) (id : Nat) : others (l.map (WaitA.ren φ)) (φ id) = (others l id).map (WaitA.ren φ) := by
  unfold others
  rw [List.filter_map]
  congr 1
  apply List.filter_congr
  intro x _
  show (!(φ x.id == φ id)) = _
  congr 1
  rw [Bool.eq_iff_iff, beq_iff_eq, beq_iff_eq]
  exact ⟨fun e => hφ _ _ e, fun e => by rw [e]⟩
omit hφ in
theorem findF_ren (l : List FileA) (n : ByteArray) : findF (l.map (FileA.ren φ)) n = (findF l n).map (FileA.ren φ) := by
  unfold findF; rw [List.find?_map]; rfl
omit hφ in
theorem gone_ren (l : List FileA) (n : ByteArray) : gone (l.map (FileA.ren φ)) n = (gone l n).map (FileA.ren φ) := by
  unfold gone; rw [List.filter_map]; rfl
omit hφ in
theorem sizes_ren (l : List FileA) : sizes (l.map (FileA.ren φ)) = sizes l := by unfold sizes; rw [List.map_map]; rfl
omit hφ in
theorem burn_ren (D : DiskA) : (D.ren φ).burn = (D.burn.1, D.burn.2.ren φ) := by
  unfold DiskA.burn
  show (if D.left = 0 then _ else _) = _
  split
  · rfl
  · show (if 0 < D.left then _ else _) = _
    split <;> rfl
theorem last1_ren (D : DiskA) (f : FileA) : (D.ren φ).last1 (f.ren φ) = (D.last1 f).ren φ := by
  show DiskA.mk _ _ _ (turn (D.files.map (FileA.ren φ)) (φ f.id) (FileA.setImage f.now)) (others (D.waits.map _) (φ f.id)) = _
  rw [turn_ren hφ _ _ (FileA.setImage f.now) (fun _ => rfl), others_ren hφ]; rfl
theorem lastOf_ren (D : DiskA) (s : ByteArray) : (D.ren φ).lastOf s = (D.lastOf s).ren φ := by
  unfold DiskA.lastOf
  show (match findF (D.files.map (FileA.ren φ)) s with | some f => (D.ren φ).last1 f | none => D.ren φ) = _
  rw [findF_ren]
  cases findF D.files s with
  | none => rfl
  | some f => exact last1_ren hφ D f
theorem lasts_ren (ss : List ByteArray) : ∀ D : DiskA, (D.ren φ).lasts ss = (D.lasts ss).ren φ := by
  induction ss with
  | nil => exact fun _ => rfl
  | cons s t ih =>
    intro D
    show ((D.ren φ).lastOf s).lasts t = _
    rw [lastOf_ren hφ, ih]; rfl
theorem drop1_ren (D : DiskA) (f : FileA) : (D.ren φ).drop1 (f.ren φ) = (D.drop1 f).ren φ := by
  show DiskA.mk _ _ _ (gone (D.files.map _) f.name) (others (D.waits.map _) (φ f.id)) = _
  rw [gone_ren, others_ren hφ]; rfl
theorem dropOf_ren (D : DiskA) (s : ByteArray) : (D.ren φ).dropOf s = (D.dropOf s).ren φ := by
  unfold DiskA.dropOf
  show (match findF (D.files.map (FileA.ren φ)) s with | some f => (D.ren φ).drop1 f | none => D.ren φ) = _
  rw [findF_ren]
  cases findF D.files s with
  | none => rfl
  | some f => exact drop1_ren hφ D f
theorem drops_ren (ss : List ByteArray) : ∀ D : DiskA, (D.ren φ).drops ss = (D.drops ss).ren φ := by
  induction ss with
  | nil => exact fun _ => rfl
  | cons s t ih =>
    intro D
    show ((D.ren φ).dropOf s).drops t = _
    rw [dropOf_ren hφ, ih]; rfl
omit hφ in
theorem bars_ren (D : DiskA) (ss : List ByteArray) : (D.ren φ).bars ss = D.bars ss := by
  unfold DiskA.bars
  show (if D.down then _ else if ss.all (fun s => (findF (D.files.map (FileA.ren φ)) s).isSome) then _ else _) = _
  have : (fun s => (findF (D.files.map (FileA.ren φ)) s).isSome) = (fun s => (findF D.files s).isSome) := by
    funext s; rw [findF_ren]; simp
  rw [this]
theorem nowed_ren (D : DiskA) (id : Nat) (s : ByteArray) : (D.ren φ).nowed (φ id) s = (D.nowed id s).ren φ := by
  show DiskA.mk _ _ _ (turn (D.files.map (FileA.ren φ)) (φ id) (FileA.setNow s)) _ = _
  rw [turn_ren hφ _ _ (FileA.setNow s) (fun _ => rfl)]; rfl
theorem put_ren (D : DiskA) (f : FileA) (p : Nat) (s : ByteArray) : (D.ren φ).put (f.ren φ) p s = (D.put f p s).ren φ := by
  show DiskA.mk _ _ _ (turn (D.files.map (FileA.ren φ)) (φ f.id) (FileA.setNow (laidB f.now p s))) (D.waits.map (WaitA.ren φ) ++ [⟨φ f.id, p, s⟩]) = _
  rw [turn_ren hφ _ _ (FileA.setNow (laidB f.now p s)) (fun _ => rfl)]
  unfold DiskA.put DiskA.ren
  simp [WaitA.ren, FileA.ren]
omit hφ in
theorem moved_ren (D : DiskA) (f : FileA) (t : ByteArray) : (D.ren φ).moved (f.ren φ) t = (D.moved f t).ren φ := by
  unfold DiskA.moved
  show DiskA.mk _ _ _ (gone (D.files.map _ ++ [_]) f.name) _ = DiskA.mk _ _ _ ((gone (D.files ++ [_]) f.name).map _) _
  rw [← gone_ren, List.map_append]; rfl

/-- A call on disks that are alike leaves them alike. -/
theorem doOp_ren (D : DiskA) (o : OpV) (id : Nat) (hK : o.K ≤ 5) : (D.ren φ).doOp o (φ id) = ((D.doOp o id).1, (D.doOp o id).2.ren φ) := by
  have hb := burn_ren (φ := φ) D
  have hff : ∀ n, findF (D.ren φ).files n = (findF D.files n).map (FileA.ren φ) := fun n => findF_ren _ _
  unfold DiskA.doOp
  split
  · unfold DiskA.create
    rw [hb, hff]
    show (if D.down then _ else _) = _
    cases D.down
    · cases findF D.files o.A with
      | some f => rfl
      | none =>
        cases h1 : D.burn.1
        · simp [h1]
        · simp only [Option.map_none, Option.isSome_none, Bool.false_eq_true, if_false, if_true]
          unfold DiskA.addFile DiskA.ren
          simp [FileA.ren]
    · rfl
  split
  · unfold DiskA.write
    rw [hb, hff]
    show (if D.down then _ else _) = _
    cases D.down
    · cases findF D.files o.A with
      | none => rfl
      | some f =>
        simp only [Option.map_some, Bool.false_eq_true, if_false]
        show (if o.N < 0 ∨ (f.now.size : Int) < o.N then _ else if (D.cap : Int) - sizes (D.files.map (FileA.ren φ)) < o.N + o.S.size - f.now.size ∧ (f.now.size : Int) < o.N + o.S.size then _ else _) = _
        rw [sizes_ren]
        split
        · rfl
        · split
          · rfl
          · split
            · rfl
            · rw [put_ren hφ]
              split <;> rfl
    · rfl
  split
  · unfold DiskA.sync
    rw [hb, bars_ren]
    split
    · rfl
    · dsimp only
      split
      · rw [lasts_ren hφ]
      · rfl
  split
  · unfold DiskA.cut
    rw [hb, hff]
    show (if D.down then _ else _) = _
    cases D.down
    · cases findF D.files o.A with
      | none => rfl
      | some f =>
        simp only [Option.map_some, Bool.false_eq_true, if_false]
        show (if o.N < 0 ∨ (f.now.size : Int) < o.N then _ else if D.burn.1 then (0, ((D.burn.2.ren φ).nowed (φ f.id) (f.now.extract 0 o.N.toNat)).lasts [o.A]) else _) = _
        rw [nowed_ren hφ, lasts_ren hφ]
        split
        · rfl
        · split <;> rfl
    · rfl
  split
  · unfold DiskA.rename
    rw [hb, hff]
    show (if D.down then _ else _) = _
    cases D.down
    · cases findF D.files o.A with
      | none => rfl
      | some f =>
        simp only [Option.map_some, Bool.false_eq_true, if_false]
        rw [dropOf_ren hφ, moved_ren]
        split
        · split <;> rfl
        · rfl
    · rfl
  split
  · unfold DiskA.delete
    rw [hb, bars_ren]
    split
    · rfl
    · dsimp only
      split
      · rw [drops_ren hφ]
      · rfl
  split
  · rename_i h; omega
  split
  · rename_i h; omega
  · rfl
end

/-- One more block on either side. -/
theorem ren_new {φ : Nat → Nat} (hφ : ∀ a b, φ a = φ b → a = b) {D : DiskA} (hok : D.Ok) {id id' : Nat} (h1 : ∀ f ∈ D.files, f.id ≠ id) (h2 : ∀ f ∈ (D.ren φ).files, f.id ≠ id') :
    ∃ ψ : Nat → Nat, (∀ a b, ψ a = ψ b → a = b) ∧ ψ id = id' ∧ D.ren ψ = D.ren φ := by
  have hs : ∀ y, (if y = φ id then id' else if y = id' then φ id else y) = (if y = φ id then id' else if y = id' then φ id else y) := fun _ => rfl
  refine ⟨fun x => if φ x = φ id then id' else if φ x = id' then φ id else φ x, ?_, by simp, ?_⟩
  · intro a b e
    dsimp only at e
    apply hφ
    generalize φ a = x at *
    generalize φ b = y at *
    generalize φ id = z at *
    by_cases a1 : x = z <;> by_cases a2 : x = id' <;> by_cases b1 : y = z <;> by_cases b2 : y = id' <;> simp only [a1, a2, b1, b2, if_true, if_false] at e ⊢ <;> (try omega) <;> (split at e <;> omega)
  · have key : ∀ f ∈ D.files, (if φ f.id = φ id then id' else if φ f.id = id' then φ id else φ f.id) = φ f.id := by
      intro f hf
      rw [if_neg (fun e => h1 f hf (hφ _ _ e)), if_neg (show ¬ φ f.id = id' from fun e => h2 (f.ren φ) (List.mem_map.2 ⟨f, hf, rfl⟩) e)]
    unfold DiskA.ren
    congr 1
    · apply List.map_congr_left
      intro f hf
      show FileA.mk f.name (if φ f.id = φ id then id' else if φ f.id = id' then φ id else φ f.id) f.image f.now = _
      rw [key f hf]; rfl
    · apply List.map_congr_left
      intro x hx
      obtain ⟨f, hf, e⟩ := hok.waits x hx
      show WaitA.mk (if φ x.id = φ id then id' else if φ x.id = id' then φ id else φ x.id) x.pos x.s = WaitA.mk (φ x.id) x.pos x.s
      rw [← e, key f hf]
end Go.Proofs.Ytndpmjanflahhaa
