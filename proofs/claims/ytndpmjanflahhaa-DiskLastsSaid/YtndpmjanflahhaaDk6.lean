/-
  disk.Size, Room.
-/
import Derived.Test.YtndpmjanflahhaaDk5
import Derived.Deep.LoopGhost
import Derived.Deep.RegionWith
namespace Go.Proofs.Ytndpmjanflahhaa
open Go.RowKit Go.MapKept

theorem nodup_sub {l k : List FileA} (h : l.Sublist k) (hn : (k.map (·.name)).Nodup) : (l.map (·.name)).Nodup := hn.sublist (h.map _)

set_option maxHeartbeats 1000000 in
set_option maxRecDepth 100000 in
theorem Size_any (b : Nat) (D : DiskA) (F : Nat → Prop) (w : World) (h : IsDisk w b D F) :
    Calls Try.prog 53 #[ptr b] w fun e w' => e = .returned (.int .i64 (sizes D.files : Nat)) ∧ Below w.heap.size w w' := by
  obtain ⟨m, v, hb, hm, hrow, fm, fg⟩ := h.head
  have c2 : w.cell? ⟨b, 2, none⟩ = some (.map (some m)) := hb.cell 2
  obtain ⟨hrg, hit⟩ := Iter.start hm
  have hsz : sizes D.files ≤ 16777216 := Nat.le_trans h.ok.size h.ok.cap
  have hnm := h.ok.names
  have hfiles : ∀ f ∈ D.files, Blk w f.id #[.string f.image, .string f.now] 124 := fun f hf => (h.files f hf).2
  have hmax : ∀ f ∈ D.files, f.now.size ≤ 16777216 := by
    intro f hf
    have := sizes_without hnm hf
    omega
  generalize D.files = fs at *
  have hsz' := Lib.hid hsz
  unfold ptr
  clear hm hrow fm fg h hb
  go_enter Try.func53, Try.ntmps53
  go_wp2
  go_loopg [3] fs.length (fun g s wr => ∃ (left : List FileA) (n : Nat), Iter wr w.heap.size m fs left ∧ Below w.heap.size w wr ∧ s = .int .i64 n ∧ n + sizes left = sizes fs ∧ left.length = g ∧ (left.map (·.name)).Nodup)
  case atStart => exact ⟨fs, 0, hit, (Below.refl _ w).alloc (Nat.le_refl _) _, rfl, by omega, rfl, hnm⟩
  case round =>
    obtain ⟨left, n, hI, hB, rfl, hn, hg, hln⟩ := hrel
    rcases hI.next hnm with ⟨rfl, hnx⟩ | ⟨f, hf, hff, w2, hg2, hsz2, hI2, hnx, hen⟩
    · have hn' : Hid (n = sizes fs) := by show _ = _; have := hn; simp [sizes] at this ⊢; omega
      clear hn hg
      go_wp2
      go_ret
      exact ⟨ret_int (by rw [hn'.out]), hB⟩
    · have hlt : f.id < w.heap.size := (hfiles f hff).lt
      have hB2 : Below w.heap.size w w2 := hB.grown hg2 (by have := hB.size; exact this) (fun k hk => by injection hk with hk; omega)
      have cf : w2.cell? ⟨f.id, 1, none⟩ = some (.string f.now) := ((hfiles f hff).at (hB2.block f.id hlt)).cell 1
      have hsw := sizes_without hln hf
      have hwl := without_length hf
      have hmx := hmax f hff
      have hb1 : n ≤ 16777216 := by have := hsz'.out; omega
      have hb2 : f.now.size ≤ 16777216 := hmx
      have hg' := Lib.hid hg
      have hn' := Lib.hid hn
      have hsw' := Lib.hid hsw
      clear hsz hn hg hsw hmx
      go_wp2
      go_roundg (without left f).length
      case measure => have := hg'.out; omega
      case rel => exact ⟨without left f, n + f.now.size, hI2, hB2, by go_num, by have := hn'.out; have := hsw'.out; omega, rfl, nodup_sub List.filter_sublist hln⟩

theorem Room_any (b : Nat) (D : DiskA) (F : Nat → Prop) (w : World) (h : IsDisk w b D F) :
    Calls Try.prog 56 #[ptr b] w fun e w' => e = .returned (.int .i64 ((D.cap : Int) - (sizes D.files : Nat))) ∧ Below w.heap.size w w' := by
  have hc := h.ok.cap
  have hsz : sizes D.files ≤ 16777216 := Nat.le_trans h.ok.size h.ok.cap
  have cS := Size_any b D F w.drew (h.below (Below.refl _ w).drew)
  obtain ⟨m, v, hb, hm, hrow, fm, fg⟩ := h.head
  have hb' := hb
  have c4 : w.cell? ⟨b, 4, none⟩ = some (.int .i64 D.cap) := hb.cell 4
  have hlt := hb.lt
  generalize sizes D.files = S at *
  generalize D.cap = C at *
  clear hm hrow fm fg h hb
  unfold ptr at *
  go_enter Try.func56, Try.ntmps56
  go_wp2
  go_region_with (go_at_call 53; refine cS.mono ?_; rintro e w1 ⟨rfl, hb1⟩; have c4' : w1.cell? ⟨b, 4, none⟩ = some (.int .i64 C) := (hb1.cell (p := ⟨b, 4, none⟩) hlt).trans c4)
  all_goals
    go_wp2
    go_ret
    refine ⟨ret_int ?_, (Below.refl _ w).drew.trans hb1⟩
    show IntKind.i64.wrap ((C : Int) - (S : Int)) = _
    exact Go.IntWalk.i64_in _ (by omega)
end Go.Proofs.Ytndpmjanflahhaa
