/-
  Layer 4's calls on a disk that is up and burns no fuse (plain data).
-/
import Derived.Test.YtndpmjanflahhaaMJ
namespace Go.Proofs.Ytndpmjanflahhaa
open Go.RowKit Go.MapKept

/-- The same but for files and writes. -/
structure SameHead (D E : DiskA) : Prop where
  left : E.left = D.left
  down : E.down = D.down
  cap : E.cap = D.cap
theorem SameHead.refl (D : DiskA) : SameHead D D := ⟨rfl, rfl, rfl⟩
theorem SameHead.trans {D E G : DiskA} (h : SameHead D E) (k : SameHead E G) : SameHead D G := ⟨k.left.trans h.left, k.down.trans h.down, k.cap.trans h.cap⟩
theorem lastOf_head (D : DiskA) (s : ByteArray) : SameHead D (D.lastOf s) := by unfold DiskA.lastOf; split <;> exact ⟨rfl, rfl, rfl⟩
theorem lasts_head (ss : List ByteArray) : ∀ D : DiskA, SameHead D (D.lasts ss) := by
  induction ss with
  | nil => exact fun D => .refl D
  | cons s t ih => exact fun D => (lastOf_head D s).trans (ih _)
theorem dropOf_head (D : DiskA) (s : ByteArray) : SameHead D (D.dropOf s) := by unfold DiskA.dropOf; split <;> exact ⟨rfl, rfl, rfl⟩
theorem drops_head (ss : List ByteArray) : ∀ D : DiskA, SameHead D (D.drops ss) := by
  induction ss with
  | nil => exact fun D => .refl D
  | cons s t ih => exact fun D => (dropOf_head D s).trans (ih _)
theorem calm_head {D E : DiskA} (h : Calm D) (k : SameHead D E) : Calm E := ⟨k.left.trans h.left, k.down.trans h.down⟩

/-- What a call leaves: the head, and all where it is refused. -/
def Refuses (D : DiskA) (r : Int × DiskA) : Prop := SameHead D r.2 ∧ (r.1 ≠ 0 → r.2 = D)
theorem refuses_self (D : DiskA) (n : Int) : Refuses D (n, D) := ⟨.refl D, fun _ => rfl⟩
theorem refuses_ok {D E : DiskA} (h : SameHead D E) : Refuses D (0, E) := ⟨h, fun h => absurd rfl h⟩
theorem doOp_refuses {D : DiskA} (hc : Calm D) (o : OpV) (id : Nat) (hK : o.K ≤ 5) : Refuses D (D.doOp o id) := by
  have hb := burn_id hc.left
  unfold DiskA.doOp
  split
  · unfold DiskA.create
    rw [hb]
    split
    · exact refuses_self _ _
    · split
      · exact refuses_self _ _
      · exact refuses_ok ⟨rfl, rfl, rfl⟩
  split
  · unfold DiskA.write
    rw [hb]
    split
    · exact refuses_self _ _
    · split
      · exact refuses_self _ _
      · split
        · exact refuses_self _ _
        · split
          · exact refuses_self _ _
          · rw [if_neg (by simp)]
            refine refuses_ok ?_
            dsimp only
            split <;> exact ⟨rfl, rfl, rfl⟩
  split
  · unfold DiskA.sync
    rw [hb]
    split
    · exact refuses_self _ _
    · exact refuses_ok (lasts_head _ _)
  split
  · unfold DiskA.cut
    rw [hb]
    split
    · exact refuses_self _ _
    · split
      · exact refuses_self _ _
      · split
        · exact refuses_self _ _
        · exact refuses_ok (SameHead.trans (E := D.nowed _ _) ⟨rfl, rfl, rfl⟩ (lasts_head _ _))
  split
  · unfold DiskA.rename
    rw [hb]
    split
    · exact refuses_self _ _
    · split
      · exact refuses_self _ _
      · refine refuses_ok ?_
        dsimp only
        split
        · exact .refl _
        · exact (dropOf_head _ _).trans ⟨rfl, rfl, rfl⟩
  split
  · unfold DiskA.delete
    rw [hb]
    split
    · exact refuses_self _ _
    · exact refuses_ok (drops_head _ _)
  split
  · rename_i h; omega
  split
  · rename_i h; omega
  · exact refuses_self _ _

theorem Lives.size {w0 w : World} {b : Nat} {D : DiskA} (h : Lives w0 b D w) :
    Calls Try.prog 53 #[.pointer (some ⟨b, 0, none⟩)] w fun e w' => e = .returned (.int .i64 (sizes D.files : Nat)) ∧ Lives w0 b D w' ∧ Below w.heap.size w w' := by
  obtain ⟨F, hd, hF, hB⟩ := h
  exact (Size_any b D F w hd).mono fun e w' ⟨he, hb⟩ => ⟨he, ⟨F, hd.below hb, hF, hB.trans (hb.mono hB.size)⟩, hb⟩
theorem Lives.waits {w0 w : World} {b : Nat} {D : DiskA} (h : Lives w0 b D w) :
    Calls Try.prog 54 #[.pointer (some ⟨b, 0, none⟩)] w fun e w' => e = .returned (.int .i64 (D.waits.length : Nat)) ∧ w = w' := by
  obtain ⟨F, hd, hF, hB⟩ := h
  exact Waits_any b D F w hd
theorem Lives.room {w0 w : World} {b : Nat} {D : DiskA} (h : Lives w0 b D w) :
    Calls Try.prog 56 #[.pointer (some ⟨b, 0, none⟩)] w fun e w' => e = .returned (.int .i64 ((D.cap : Int) - (sizes D.files : Nat))) ∧ Lives w0 b D w' ∧ Below w.heap.size w w' := by
  obtain ⟨F, hd, hF, hB⟩ := h
  exact (Room_any b D F w hd).mono fun e w' ⟨he, hb⟩ => ⟨he, ⟨F, hd.below hb, hF, hB.trans (hb.mono hB.size)⟩, hb⟩
end Go.Proofs.Ytndpmjanflahhaa
