/-
  THE STATEMENTS OF LAYER 15: WheelSlots.
-/
import Derived.Test.YtndpmjanflahhaaWh8
import Derived.Test.YtndpmjanflahhaaKp2
namespace Go.Proofs.Ytndpmjanflahhaa
open Go.RowKit Go.MapKept

theorem WLives.list {w0 w : World} {wb b : Nat} {D : DiskA} {h : Int} (hl : WLives w0 wb b D h w) (hd : ByteArray) (hh : hd.size ≤ maxLen) :
    Calls Try.prog 55 #[.pointer (some ⟨b, 0, none⟩), .string hd] w fun e w' => ∃ a cap, e = .returned (.slice a (D.list hd).length cap) ∧ StrSl w' a (D.list hd) ∧ Below w.heap.size w w' :=
  ((IsWheel.lives hl).list hd hh).mono fun e w' ⟨a, cap, he, hs, _, hB⟩ => ⟨a, cap, he, hs, hB⟩
theorem WLives.all {w0 w : World} {wb b : Nat} {D : DiskA} {h : Int} (hl : WLives w0 wb b D h w) (n : ByteArray) :
    Calls Try.prog 45 #[.pointer (some ⟨b, 0, none⟩), .string n] w fun e w' => e = .returned (.tuple #[.string (D.all n).1, .int .i64 (D.all n).2]) ∧ Below w.heap.size w w' := by
  obtain ⟨F, hw, hF, hB⟩ := hl
  obtain ⟨Fd, hd, hs, hn⟩ := hw.disk
  exact (All_any b D Fd w hd n).mono fun e w' ⟨he, hb, _⟩ => ⟨he, hb⟩
theorem WX.put {w0 w : World} {wb b : Nat} {D : DiskA} {h : Int} {O : Nat → Option Obj} (hl : WX w0 wb b D h O w) {g : Nat} {c : Array Value} {T : TypeId} (ho : O g = some (.cells c T)) (hg : w0.heap.size ≤ g) (i : Nat) (v : Value) :
    WX w0 wb b D h (OAnd O g (.cells (c.setIfInBounds i v) T)) (w.setCell ⟨g, i, none⟩ v) := by
  obtain ⟨F, h1, h2, h3, h4⟩ := hl
  have hbk : Blk w g c T := (h3 g _ ho).1
  refine ⟨F, h1.kept (fun k hk _ => setCell_heap _ _ _ _ (fun e => (h3 g _ ho).2 (by have e' : k = g := e; rw [← e']; exact hk))), h2, fun k o hk => ?_, h4.setCell (p := ⟨g, i, none⟩) hg _⟩
  by_cases hkg : k = g
  · subst hkg
    rw [OAnd.at] at hk
    cases hk
    exact ⟨hbk.set i v, (h3 k _ ho).2⟩
  · rw [OAnd.ne hkg] at hk
    exact ⟨(setCell_heap _ _ _ _ (fun e => hkg e)).trans (h3 k o hk).1, (h3 k o hk).2⟩

def wold : ByteArray := ⟨#[119, 45, 111, 108, 100]⟩
def bx : ByteArray := ⟨#[120]⟩
def intV (v : List Nat) : Array Value := ((ints v).map (Value.int .i64)).toArray
theorem intV_get {v : List Nat} {i x : Nat} (h : v[i]? = some x) : (intV v)[i]? = some (.int .i64 x) := by unfold intV; simp [ints_get h]
theorem intV_set (v : List Nat) (i x : Nat) : (intV v).setIfInBounds i (.int .i64 x) = intV (v.set i x) := by
  unfold intV; rw [ints_set, List.map_set, ← List.setIfInBounds_toArray]
theorem intV_row {w : World} {base g : Nat} (h : w.ownsRow base 3 1 (.slice (some ⟨g, 0, none⟩) 16 16) 16 (madeCells (Value.int .i64 0).cells (16 * 1)).toList) : Blk w g (intV (List.replicate 16 0)) 3 ∧ base ≤ g := by
  rcases h.2 with ⟨h1, _⟩ | ⟨g', cap, cur, hv, hb, hh, _, _, hs, ht⟩
  · cases h1
  · cases hv
    refine ⟨?_, hb⟩
    have : cur = intV (List.replicate 16 0) := by
      apply Array.toList_inj.1
      rw [List.take_of_length_le (by rw [Array.length_toList, hs]; exact Nat.le_refl _)] at ht
      rw [ht]
      simp [madeCells, Value.cells, intV, ints, Nat.mod_one]
      simp only [show List.range 16 = [0,1,2,3,4,5,6,7,8,9,10,11,12,13,14,15] from by decide]
      rfl
    rw [this] at hh
    exact hh
theorem two_sorted {D : DiskA} (h : D.names = [bx, wslots]) : D.list ByteArray.empty = [wslots, bx] := by
  have h1 : D.files.map (fun f => f.name.data.toList) = [[120], [119, 45, 115, 108, 111, 116, 115]] := by
    have := congrArg (List.map (fun n : ByteArray => n.data.toList)) h
    unfold DiskA.names at this
    rw [List.map_map] at this
    exact this
  have h2 : (([[120], [119, 45, 115, 108, 111, 116, 115]] : List (List UInt8)).mergeSort leB) = [[119, 45, 115, 108, 111, 116, 115], [120]] := by
    simp [List.mergeSort, List.MergeSort.Internal.splitInTwo, List.merge]
    decide
  unfold DiskA.list DiskA.sorted
  rw [h1, h2]
  have h3 : preB wslots ByteArray.empty = true := by rw [preB_eq]; decide
  have h4 : preB bx ByteArray.empty = true := by rw [preB_eq]; decide
  show [wslots, bx].filter _ = _
  simp [h3, h4]
theorem wheel_names {D D' : DiskA} (h : WheelMade D D') (hn : D.names = [wold, bx]) : D'.names = [bx, wslots] := by
  have h3 : preB wold whead = true := by rw [preB_eq]; decide
  have h4 : preB bx whead = false := by rw [preB_eq]; decide
  rw [h.names, hn]
  simp [h3, h4]
theorem slotB_take_succ {v : List Nat} {j x : Nat} (h : v[j]? = some x) : slotB 6 (v.take j) ++ beB 6 x = slotB 6 (v.take (j + 1)) := by
  rw [List.take_add_one, h]
  apply ba_ext
  simp [slotB, beB]
end Go.Proofs.Ytndpmjanflahhaa
