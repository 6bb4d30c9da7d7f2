/-
  Srt0, Srt1, Srt2, one behind the other.
-/
import Derived.Shelf.SlIter.Nil
import Derived.Shelf.SortM.Plain
import Derived.Shelf.SortM.SortNone
import Derived.Ground.GgzProg
import Derived.Ground.SlgmProg
import Derived.Test.YtndpmjanflahhaaProg
import Derived.Test.YtndpmjanflahhaaMD
import Derived.Test.YtndpmjanflahhaaMA
import Derived.Maps.Range
/-
  The library's contracts on slices.Sorted(maps.Keys(files)), laid at this program.
-/
namespace Go.Proofs.Ytndpmjanflahhaa
open Go.RowKit Go.Maps Go.Sort Go.Shelf
def keysL_ren : Go.Shelf.Ren := ⟨fun | 7 => 95 | 10 => 124 | n => n, fun | 23 => 117 | 26 => 9 | 3 => 121 | 28 => 139 | 0 => 0 | 27 => 138 | 33 => 23 | 4 => 4 | n => n, fun | n => n⟩
theorem keysL : Go.Proofs.SlLaysZ.n7 Try.prog keysL_ren := {
  mixed := by kernel_rfl
  f7 := ⟨Try.f95.name, by decide, Try.func95.trans (congrArg some (by kernel_rfl))⟩
  f10 := ⟨Try.f124.name, by decide, Try.func124.trans (congrArg some (by kernel_rfl))⟩
  t0 := Try.underlying0
  a0 := Try.isAgg0
  z0 := Try.sizeOf0
  v0 := Try.zeroValue0
  t4 := Try.underlying4
  a4 := Try.isAgg4
  z4 := Try.sizeOf4
  v4 := Try.zeroValue4
  t23 := Try.underlying117
  a23 := Try.isAgg117
  z23 := Try.sizeOf117
  v23 := Try.zeroValue117
  t26 := Try.underlying9
  a26 := Try.isAgg9
  z26 := Try.sizeOf9
  v26 := Try.zeroValue9
  t27 := Try.underlying138
  a27 := Try.isAgg138
  z27 := Try.sizeOf138
  v27 := Try.zeroValue138
  t28 := Try.underlying139
  a28 := Try.isAgg139
  z28 := Try.sizeOf139
  v28 := Try.zeroValue139
  t33 := Try.underlying23
  a33 := Try.isAgg23
  z33 := Try.sizeOf23
  v33 := Try.zeroValue23 }
def sortedL_ren : Go.Shelf.Ren := ⟨fun | 6 => 94 | 8 => 122 | 9 => 123 | 11 => 141 | 13 => 143 | 12 => 142 | 23 => 156 | 24 => 157 | 14 => 147 | 15 => 148 | 16 => 149 | 17 => 150 | 18 => 151 | 19 => 152 | 20 => 153 | 21 => 154 | 22 => 155 | 25 => 160 | 26 => 161 | 27 => 162 | 28 => 163 | 29 => 164 | 30 => 165 | 31 => 167 | n => n, fun | 26 => 9 | 28 => 139 | 24 => 30 | 0 => 0 | 3 => 3 | 37 => 193 | 48 => 26 | 50 => 209 | 4 => 4 | 40 => 202 | 39 => 201 | 45 => 57 | 5 => 5 | 9 => 9 | 51 => 213 | 55 => 217 | 57 => 219 | 58 => 220 | 33 => 23 | n => n, fun | n => n⟩
theorem sortedL : Go.Proofs.SlLaysZ.n6 Try.prog sortedL_ren := {
  mixed := by kernel_rfl
  f6 := ⟨Try.f94.name, by decide, Try.func94.trans (congrArg some (by kernel_rfl))⟩
  f8 := ⟨Try.f122.name, by decide, Try.func122.trans (congrArg some (by kernel_rfl))⟩
  f11 := ⟨Try.f141.name, by decide, Try.func141.trans (congrArg some (by kernel_rfl))⟩
  t0 := Try.underlying0
  a0 := Try.isAgg0
  z0 := Try.sizeOf0
  v0 := Try.zeroValue0
  t24 := Try.underlying30
  a24 := Try.isAgg30
  z24 := Try.sizeOf30
  v24 := Try.zeroValue30
  t26 := Try.underlying9
  a26 := Try.isAgg9
  z26 := Try.sizeOf9
  v26 := Try.zeroValue9
  t28 := Try.underlying139
  a28 := Try.isAgg139
  z28 := Try.sizeOf139
  v28 := Try.zeroValue139
  i26 := by kernel_rfl }
def sortL_ren : Go.Shelf.Ren := ⟨fun | 6 => 123 | 8 => 143 | 9 => 142 | 19 => 156 | 20 => 157 | 21 => 147 | 22 => 148 | 23 => 149 | 24 => 150 | 25 => 151 | 26 => 152 | 27 => 153 | 28 => 154 | 29 => 155 | 36 => 160 | 31 => 161 | 32 => 162 | 37 => 163 | 38 => 164 | 39 => 165 | 41 => 167 | n => n, fun | 27 => 30 | 29 => 9 | 3 => 3 | 32 => 193 | 26 => 30 | 0 => 0 | 44 => 26 | 46 => 209 | 4 => 4 | 36 => 202 | 35 => 201 | 41 => 57 | 5 => 5 | 9 => 9 | 53 => 213 | 57 => 217 | 63 => 219 | 64 => 220 | n => n, fun | n => n⟩
theorem sortL : Go.Proofs.SlLaysM.n6 Try.prog sortL_ren := {
  mixed := by kernel_rfl
  f6 := ⟨Try.f123.name, by decide, Try.func123.trans (congrArg some (by kernel_rfl))⟩
  f8 := Try.func143.trans (congrArg some (by kernel_rfl))
  f9 := ⟨Try.f142.name, by decide, Try.func142.trans (congrArg some (by kernel_rfl))⟩
  f19 := Try.func156.trans (congrArg some (by kernel_rfl))
  f20 := Try.func157.trans (congrArg some (by kernel_rfl))
  f21 := ⟨Try.f147.name, by decide, Try.func147.trans (congrArg some (by kernel_rfl))⟩
  f22 := ⟨Try.f148.name, by decide, Try.func148.trans (congrArg some (by kernel_rfl))⟩
  f23 := ⟨Try.f149.name, by decide, Try.func149.trans (congrArg some (by kernel_rfl))⟩
  f24 := ⟨Try.f150.name, by decide, Try.func150.trans (congrArg some (by kernel_rfl))⟩
  f25 := ⟨Try.f151.name, by decide, Try.func151.trans (congrArg some (by kernel_rfl))⟩
  f26 := ⟨Try.f152.name, by decide, Try.func152.trans (congrArg some (by kernel_rfl))⟩
  f27 := ⟨Try.f153.name, by decide, Try.func153.trans (congrArg some (by kernel_rfl))⟩
  f28 := ⟨Try.f154.name, by decide, Try.func154.trans (congrArg some (by kernel_rfl))⟩
  f29 := ⟨Try.f155.name, by decide, Try.func155.trans (congrArg some (by kernel_rfl))⟩
  f31 := Try.func161.trans (congrArg some (by kernel_rfl))
  f32 := Try.func162.trans (congrArg some (by kernel_rfl))
  f36 := ⟨Try.f160.name, by decide, Try.func160.trans (congrArg some (by kernel_rfl))⟩
  f37 := ⟨Try.f163.name, by decide, Try.func163.trans (congrArg some (by kernel_rfl))⟩
  f38 := ⟨Try.f164.name, by decide, Try.func164.trans (congrArg some (by kernel_rfl))⟩
  f39 := ⟨Try.f165.name, by decide, Try.func165.trans (congrArg some (by kernel_rfl))⟩
  f41 := ⟨Try.f167.name, by decide, Try.func167.trans (congrArg some (by kernel_rfl))⟩
  t0 := Try.underlying0
  a0 := Try.isAgg0
  z0 := Try.sizeOf0
  v0 := Try.zeroValue0
  t3 := Try.underlying3
  a3 := Try.isAgg3
  z3 := Try.sizeOf3
  v3 := Try.zeroValue3
  t4 := Try.underlying4
  a4 := Try.isAgg4
  z4 := Try.sizeOf4
  v4 := Try.zeroValue4
  t5 := Try.underlying5
  a5 := Try.isAgg5
  z5 := Try.sizeOf5
  v5 := Try.zeroValue5
  t9 := Try.underlying9
  a9 := Try.isAgg9
  z9 := Try.sizeOf9
  v9 := Try.zeroValue9
  t26 := Try.underlying30
  a26 := Try.isAgg30
  z26 := Try.sizeOf30
  v26 := Try.zeroValue30
  t27 := Try.underlying30
  a27 := Try.isAgg30
  z27 := Try.sizeOf30
  v27 := Try.zeroValue30
  t29 := Try.underlying9
  a29 := Try.isAgg9
  z29 := Try.sizeOf9
  v29 := Try.zeroValue9
  t32 := Try.underlying193
  a32 := Try.isAgg193
  z32 := Try.sizeOf193
  v32 := Try.zeroValue193
  t35 := Try.underlying201
  a35 := Try.isAgg201
  z35 := Try.sizeOf201
  v35 := Try.zeroValue201
  t36 := Try.underlying202
  a36 := Try.isAgg202
  z36 := Try.sizeOf202
  v36 := Try.zeroValue202
  t41 := Try.underlying57
  a41 := Try.isAgg57
  z41 := Try.sizeOf57
  v41 := Try.zeroValue57
  t44 := Try.underlying26
  a44 := Try.isAgg26
  z44 := Try.sizeOf26
  v44 := Try.zeroValue26
  t46 := Try.underlying209
  a46 := Try.isAgg209
  z46 := Try.sizeOf209
  v46 := Try.zeroValue209
  t53 := Try.underlying213
  a53 := Try.isAgg213
  z53 := Try.sizeOf213
  v53 := Try.zeroValue213
  t57 := Try.underlying217
  a57 := Try.isAgg217
  z57 := Try.sizeOf217
  v57 := Try.zeroValue217
  t63 := Try.underlying219
  a63 := Try.isAgg219
  z63 := Try.sizeOf219
  v63 := Try.zeroValue219
  t64 := Try.underlying220
  a64 := Try.isAgg220
  z64 := Try.sizeOf220
  v64 := Try.zeroValue220 }


theorem sortsL (m : Nat) : AnyZ.SortsIn Try.prog sortedL_ren Fence.wide m :=
  ⟨fun blk off cap ss W hH hblk hsz => callsIn_wide.2 (AnyM.slices_Sort_string sortL blk off cap ss W hH hblk hsz),
   fun p cap W => callsIn_wide.2 (AnyM.slices_Sort_string_none sortL p cap W)⟩

theorem keys_in (mb : Option Nat) (W : World) : CallsIn Fence.wide 5 Try.prog 95 #[.map mb] W fun e w' => e = .returned (.func (.func 124) #[] #[.pointer (some ⟨W.heap.size, 0, none⟩)]) ∧ w' = W.alloc (.cells #[.map mb] 117) :=
  AnyZ.keys_in keysL Fence.wide 5 trivial rfl mb W

set_option maxHeartbeats 1000000 in
theorem sorted_in {H : Type} (b nn : Nat) (D0 : DataW H) (R : Value → Option (DataW H × List MemPlace)) (w : World) (hown : w.ownsMap Try.prog 9 R b nn D0) (hmax : Maps.size D0 ≤ maxLen) (hbytes : Maps.size D0 * 16 ≤ 140737488355328) :
    CallsIn Fence.wide 5 Try.prog 94 #[.func (.func 124) #[] #[.pointer (some ⟨w.heap.size, 0, none⟩)]] (w.alloc (.cells #[.map (some b)] 117)) fun e w' => ∃ (v : Value) (ss : List (List UInt8)), e = .returned v ∧ ss.Perm (strKeys D0) ∧
      w'.ownsRow (w.alloc (.cells #[.map (some b)] 117)).heap.size 9 1 v ss.length ((ss.mergeSort (fun x y => decide (x ≤ y))).map encStr) ∧ (v = .slice none 0 0 ↔ ss = []) ∧ Below (w.alloc (.cells #[.map (some b)] 117)).heap.size (w.alloc (.cells #[.map (some b)] 117)) w' := by
  have hbl := hown.lt
  have hseq : SeqGives Fence.wide 2 Try.prog 124 #[.pointer (some ⟨w.heap.size, 0, none⟩)] encStr (fun ss => ss.Perm (strKeys D0)) (Maps.size D0) (w.alloc (.cells #[.map (some b)] 117)) :=
    AnyZ.keys_gives (ρ := keysL_ren) { keysL with } Fence.wide _ trivial rfl (by omega) w.heap.size b nn D0 _ (by simp) (by simp) (by
      obtain ⟨es, clock, hb, Ft, hs, hD⟩ := hown
      exact ⟨es, clock, (Below.heap_alloc _ _ b hbl).trans hb, Ft, hs, hD⟩)
  exact AnyZ.sorted_in sortedL Fence.wide 5 trivial trivial trivial trivial rfl (by omega) (sortsL _) (enters_of Try.func123 (by kernel_rfl) rfl) 124 #[.pointer (some ⟨w.heap.size, 0, none⟩)] trivial (enters_of Try.func124 (by kernel_rfl) rfl) _ _ hmax hbytes _ hseq

set_option maxHeartbeats 1000000 in
theorem sorted_nil_in (w : World) :
    CallsIn Fence.wide 5 Try.prog 94 #[.func (.func 124) #[] #[.pointer (some ⟨w.heap.size, 0, none⟩)]] (w.alloc (.cells #[.map none] 117)) fun e w' => ∃ (v : Value) (ss : List (List UInt8)), e = .returned v ∧ ss = [] ∧
      w'.ownsRow (w.alloc (.cells #[.map none] 117)).heap.size 9 1 v ss.length ((ss.mergeSort (fun x y => decide (x ≤ y))).map encStr) ∧ (v = .slice none 0 0 ↔ ss = []) ∧ Below (w.alloc (.cells #[.map none] 117)).heap.size (w.alloc (.cells #[.map none] 117)) w' := by
  have hseq : SeqGives Fence.wide 2 Try.prog 124 #[.pointer (some ⟨w.heap.size, 0, none⟩)] encStr (fun ss : List (List UInt8) => ss = []) 0 (w.alloc (.cells #[.map none] 117)) :=
    AnyZ.keys_gives_nil (ρ := keysL_ren) { keysL with } Fence.wide _ trivial rfl w.heap.size _ (by simp) (by simp)
  exact AnyZ.sorted_in sortedL Fence.wide 5 trivial trivial trivial trivial rfl (by omega) (sortsL _) (enters_of Try.func123 (by kernel_rfl) rfl) 124 #[.pointer (some ⟨w.heap.size, 0, none⟩)] trivial (enters_of Try.func124 (by kernel_rfl) rfl) _ 0 (Nat.zero_le _) (by omega) _ hseq
end Go.Proofs.Ytndpmjanflahhaa

/-
  (*disk.Disk).List$1; slices.IndexFunc, DeleteFunc at texts.
-/
namespace Go.Proofs.Ytndpmjanflahhaa
open Go.RowKit Go.MapKept

/-- A slice's own row of texts. -/
def SRow (w : World) (g cap : Nat) (m : List ByteArray) : Prop := w.ownsRow 0 9 1 (.slice (some ⟨g, 0, none⟩) m.length cap) m.length (m.map Value.string)
theorem SRow.parts {w : World} {g cap : Nat} {m : List ByteArray} (h : SRow w g cap m) : ∃ cur, w.heap[g]? = some (.cells cur 9 (0, 0)) ∧ m.length ≤ cap ∧ cap ≤ maxLen ∧ cur.size = cap ∧ cur.toList.take m.length = m.map Value.string := by
  obtain ⟨_, ⟨h1, _⟩ | ⟨g', cap', cur, hv, _, h2, h3, h4, h5, h6⟩⟩ := h
  · cases h1
  · cases hv; exact ⟨cur, h2, h3, h4, by omega, by rwa [Nat.mul_one] at h6⟩
theorem SRow.mk {w : World} {g cap : Nat} {m : List ByteArray} {cur : Array Value} (h : w.heap[g]? = some (.cells cur 9 (0, 0))) (h1 : m.length ≤ cap) (h2 : cap ≤ maxLen) (h3 : cur.size = cap) (h4 : cur.toList.take m.length = m.map Value.string) : SRow w g cap m :=
  ⟨by simp, .inr ⟨g, cap, cur, rfl, Nat.zero_le _, h, h1, h2, by omega, by rw [Nat.mul_one]; exact h4⟩⟩
theorem SRow.lt {w : World} {g cap : Nat} {m : List ByteArray} (h : SRow w g cap m) : g < w.heap.size := by
  obtain ⟨cur, h1, _⟩ := h.parts; exact (Array.getElem?_eq_some_iff.1 h1).1
theorem SRow.at {w w' : World} {g cap : Nat} {m : List ByteArray} (h : SRow w g cap m) (e : w'.heap[g]? = w.heap[g]?) : SRow w' g cap m := by
  obtain ⟨cur, h1, h2, h3, h4, h5⟩ := h.parts; exact .mk (e.trans h1) h2 h3 h4 h5
theorem SRow.cellAt {w : World} {g cap : Nat} {m : List ByteArray} (h : SRow w g cap m) {i : Nat} {x : ByteArray} (hx : m[i]? = some x) : w.cell? ⟨g, i, none⟩ = some (.string x) := by
  have hi : i < m.length := (List.getElem?_eq_some_iff.1 hx).1
  have := World.ownsRow.cellAt h i (by simpa using hi)
  simpa [hx] using this
theorem SRow.frozen {w : World} {g cap : Nat} {m : List ByteArray} (h : SRow w g cap m) (j : Nat) : w.frozen? ⟨g, j, none⟩ = false := by
  obtain ⟨cur, h1, _⟩ := h.parts
  simp [World.frozen?, h1]
theorem SRow.take {w : World} {g cap : Nat} {m : List ByteArray} (h : SRow w g cap m) (i : Nat) : SRow w g cap (m.take i) := by
  obtain ⟨cur, h1, h2, h3, h4, h5⟩ := h.parts
  refine .mk h1 (by rw [List.length_take]; omega) h3 h4 ?_
  rw [List.map_take, ← h5, List.take_take, List.length_take]
theorem SRow.store {w : World} {g cap : Nat} {m : List ByteArray} (h : SRow w g cap m) (i : Nat) (x : ByteArray) :
    SRow (w.setCell ⟨g, i, none⟩ (.string x)) g cap (m.set i x) ∧ Step (· = g) w (· = g) (w.setCell ⟨g, i, none⟩ (.string x)) := by
  obtain ⟨cur, h1, h2, h3, h4, h5⟩ := h.parts
  rw [setCell_row w g _ cur _ _ _ h1]
  refine ⟨.mk (setRow_at w g _ cur _ _ h1) (by rw [List.length_set]; exact h2) h3 (by simp [h4]) ?_, setRow_step w g _⟩
  rw [List.length_set, List.map_set, ← h5, Array.toList_setIfInBounds, List.take_set]
theorem info_str : (Try.prog.info? 9).map (fun i => (i.zero, i.size, i.bytes)) = some (some (.string ByteArray.empty), 1, 16) := by kernel_rfl

set_option maxRecDepth 100000 in
theorem SRow.clear {w : World} {g cap : Nat} {m : List ByteArray} (h : SRow w g cap m) {i : Nat} (hi : i ≤ m.length) :
    ∃ w2, (∀ ty, (Builtin.clear_ #[30] ty #[.slice (some ⟨g, i, none⟩) (m.length - i) (cap - i)]).run Try.prog w = .ok (.tuple #[]) w2) ∧ SRow w2 g cap (m.take i) ∧ Step (· = g) w (· = g) w2 ∧ w2.heap.size = w.heap.size := by
  by_cases he : i = m.length
  · refine ⟨w, fun ty => ?_, h.take i, Step.refl _ w, rfl⟩
    subst he
    simp [Builtin.clear_, run_underlying Try.underlying30]
  · obtain ⟨cur, h1, h2, h3, h4, h5⟩ := h.parts
    obtain ⟨i0, hi0, hz0, hz1, hz2⟩ := info_parts info_str
    obtain ⟨k, hk⟩ : ∃ k, m.length - i = k + 1 := ⟨m.length - i - 1, by omega⟩
    have hzl : (Builtin.zeroCells #[Value.string ByteArray.empty] (k + 1)).toList.length = (k + 1) := by simp [Builtin.zeroCells]
    have hst := run_storeCells_off (P := Try.prog) g i 9 0 0 (Builtin.zeroCells #[Value.string ByteArray.empty] (k + 1)).toList 0 cur w h1 (by rw [hzl]; omega)
      (by
        intro v hv
        unfold Builtin.zeroCells at hv
        rw [Array.mem_toList_iff, Array.mem_map] at hv
        obtain ⟨j, _, rfl⟩ := hv
        show (#[Value.string ByteArray.empty][j % 1]!).oneCell' = true
        have : j % 1 = 0 := by omega
        rw [this]; rfl) (.inl rfl)
    generalize hz : (Builtin.zeroCells #[Value.string ByteArray.empty] (k + 1)).toList = zs at hst hzl
    refine ⟨w.setRow g (cur.toList.take (i + 0) ++ zs ++ cur.toList.drop (i + 0 + zs.length)).toArray, fun ty => ?_, ?_, setRow_step w g _, setRow_size _ _ _⟩
    · rw [hk]
      have hzr : ∀ w, (zeroValue 9).run Try.prog w = .ok (.string ByteArray.empty) w := fun w => by
        unfold zeroValue
        rw [Sem.run_bind, run_typeInfo w hi0, Result.andThen_ok, hz0]; rfl
      have hq : (Builtin.clear_ #[30] ty #[.slice (some ⟨g, i, none⟩) (k + 1) (cap - i)]).run Try.prog w = ((storeCells ⟨g, i, none⟩ (Builtin.zeroCells #[Value.string ByteArray.empty] (k + 1)).toList).run Try.prog w).andThen fun _ w' => Result.ok (Value.tuple #[]) w' := by
        simp [Builtin.clear_, Sem.run_bind, run_underlying Try.underlying30, Result.andThen_ok, hzr, Value.cells]
      rw [hq, hz, hst]; rfl
    · refine .mk (setRow_at w g _ cur _ _ h1) (by rw [List.length_take]; omega) h3 ?_ ?_
      · rw [List.size_toArray]; simp only [List.length_append, List.length_take, List.length_drop, hzl, Array.length_toList]; omega
      · have hs : cur.toList.length = cap := h4 ▸ Array.length_toList
        rw [List.map_take, ← h5, List.length_take, Nat.min_eq_left hi]
        generalize cur.toList = L at *
        simp only [Nat.add_zero]
        rw [List.append_assoc, List.take_append_of_le_length (by rw [List.length_take]; omega), List.take_take, List.take_take, Nat.min_self, Nat.min_eq_left (by omega : i ≤ m.length)]

/-! ### the predicate -/
/-- Function g, over a cell that holds a text h, answers p. -/
def IsPredS (g c : Nat) (h : ByteArray) (p : ByteArray → Bool) : Prop :=
  ∀ x W, W.cell? ⟨c, 0, none⟩ = some (.string h) → x.size ≤ maxLen → Calls Try.prog g #[.string x, .pointer (some ⟨c, 0, none⟩)] W fun e w' => e = .returned (.bool (p x)) ∧ W = w'
theorem list1_pred (c : Nat) (h : ByteArray) (hh : h.size ≤ maxLen) : IsPredS 97 c h (fun x => !(preB x h)) := by
  intro x W hc hx
  have cH := HasPrefix_any x h W hx hh
  cases hp : preB x h <;> rw [hp] at cH <;> have hp' := Lib.hid hp <;> clear hp
  all_goals
    go_enter Try.func97, Try.ntmps97
    go_wp2_with (go_at_call 98; refine cH.mono ?_; rintro e w' ⟨rfl, rfl⟩)
    go_ret
    exact ⟨ret_bool (by rw [hp'.out]; rfl), rfl⟩
theorem enter_list1 (args : Array Value) (w : World) : (callFunc 97 args).run Try.prog w = .ok (.enter 97 args) w :=
  run_enter Try.func97 (by kernel_rfl) rfl args w

/-- Where the first text lies of which p holds; -1: none. -/
def idxS (l : List ByteArray) (p : ByteArray → Bool) : Int := match l.findIdx? p with | some i => i | none => -1
theorem idxS_none (l : List ByteArray) (p : ByteArray → Bool) (h : ∀ x ∈ l, p x = false) : idxS l p = -1 := by
  unfold idxS
  rw [List.findIdx?_eq_none_iff.mpr h]
theorem idxS_at (l : List ByteArray) (p : ByteArray → Bool) (k : Nat) (x : ByteArray) (hx : l[k]? = some x) (hq : p x = true) (h : ∀ y ∈ l.take k, p y = false) : idxS l p = (k : Int) := by
  unfold idxS
  have hk : k < l.length := (List.getElem?_eq_some_iff.mp hx).1
  have : l.findIdx? p = some k := by
    rw [List.findIdx?_eq_some_iff_getElem]
    refine ⟨hk, ?_, fun j hj => ?_⟩
    · rw [(List.getElem?_eq_some_iff.mp hx).2]; exact hq
    · have hm : l[j] ∈ l.take k := by
        rw [List.mem_take_iff_getElem]; exact ⟨j, by omega, rfl⟩
      rw [h _ hm]; simp
  rw [this]

set_option maxRecDepth 100000 in
set_option maxHeartbeats 1000000 in
theorem IndexFuncS (g c : Nat) (h : ByteArray) (p : ByteArray → Bool) (eg : ∀ args w, (callFunc g args).run Try.prog w = .ok (.enter g args) w) (hp : IsPredS g c h p) (gb cap : Nat) (l : List ByteArray) (w : World) (hl : l.length ≤ 9223372036854775807) (hs : ∀ x ∈ l, x.size ≤ maxLen)
    (hr : SRow w gb cap l) (hc : w.cell? ⟨c, 0, none⟩ = some (.string h)) :
    Calls Try.prog 125 #[.slice (some ⟨gb, 0, none⟩) l.length cap, .func (.func g) #[] #[.pointer (some ⟨c, 0, none⟩)]] w fun e w' => e = .returned (.int .i64 (idxS l p)) ∧ w = w' := by
  obtain ⟨n, hn⟩ : ∃ n, l.length = n := ⟨_, rfl⟩
  rw [hn]
  have hn' := Lib.hid hn
  rw [hn] at hl
  clear hn
  go_enter Try.func125, Try.ntmps125
  go_wp2
  go_loop [8] (fun i => ∃ k : Nat, k ≤ n ∧ i = .int .i64 k ∧ Hid (∀ x ∈ l.take k, p x = false)) (fun i => n - (intOf i).toNat)
  case atStart => exact ⟨0, by omega, rfl, fun x hx => by simp at hx⟩
  case round =>
    obtain ⟨k, hk, rfl, hH⟩ := hrel
    by_cases hkn : k < n
    · have hkl : k < l.length := by rw [hn'.out]; exact hkn
      obtain ⟨x, hx⟩ : ∃ x, l[k]? = some x := ⟨l[k], by simp [hkl]⟩
      have d0 := hr.cellAt hx
      have cp := hp x w hc (hs x (List.mem_of_getElem? hx))
      have hlen : (l.take (k + 1)) = l.take k ++ [x] := by rw [List.take_add_one, hx]; rfl
      have hx' := Lib.hid hx
      have hlen' := Lib.hid hlen
      clear hx hkl hlen
      cases hxe : p x <;> rw [hxe] at cp <;> have hxe' := Lib.hid hxe <;> clear hxe
      · go_wp2_with (go_at_fn g; refine cp.mono ?_; rintro e w1 ⟨rfl, rfl⟩)
        case roundEnd =>
          go_round
          case rel =>
            refine ⟨k + 1, by omega, by go_num, fun y hy => ?_⟩
            rw [hlen'.out, List.mem_append] at hy
            rcases hy with hy | hy
            · exact hH.out y hy
            · rw [List.mem_singleton.mp hy]; exact hxe'.out
          case measure => simp [intOf]; omega
      · go_wp2_with (go_at_fn g; refine cp.mono ?_; rintro e w1 ⟨rfl, rfl⟩)
        go_ret
        refine ⟨?_, rfl⟩
        rw [idxS_at l p k x hx'.out hxe'.out hH.out]
        rfl
    · have : k = n := by omega
      subst this
      go_wp2
      go_ret
      refine ⟨?_, rfl⟩
      rw [idxS_none l p (by have := hH.out; rwa [List.take_of_length_le (Nat.le_of_eq hn'.out)] at this)]
      rfl

/-! ### DeleteFunc -/
structure DelS (l m : List ByteArray) (p : ByteArray → Bool) (i j : Nat) : Prop where
  len : m.length = l.length
  lt : i < j
  le : j ≤ l.length
  low : m.take i = (l.take j).filter (fun x => !(p x))
  high : m.drop j = l.drop j
theorem DelS.at {l m : List ByteArray} {p : ByteArray → Bool} {i j : Nat} (h : DelS l m p i j) : m[j]? = l[j]? := by
  have := congrArg (·[0]?) h.high
  simpa using this
theorem take_succ_s {l : List ByteArray} {j : Nat} {x : ByteArray} (h : l[j]? = some x) : l.take (j + 1) = l.take j ++ [x] := by rw [List.take_add_one, h]; rfl
theorem DelS.keep {l m : List ByteArray} {p : ByteArray → Bool} {i j : Nat} (h : DelS l m p i j) {x : ByteArray} (hx : l[j]? = some x) (hp : p x = false) : DelS l (m.set i x) p (i + 1) (j + 1) := by
  have hj : j < l.length := (List.getElem?_eq_some_iff.1 hx).1
  have h1 := h.lt
  refine ⟨by rw [List.length_set]; exact h.len, by omega, by omega, ?_, ?_⟩
  · have hi : (m.set i x)[i]? = some x := by rw [List.getElem?_set_self (by rw [h.len]; omega)]
    rw [take_succ_s hi, take_succ_s hx, List.take_set_of_le (Nat.le_refl i), h.low]
    rw [List.filter_append]
    simp [hp]
  · rw [List.drop_set_of_lt (by omega), ← List.drop_drop, h.high, List.drop_drop]
theorem DelS.skip {l m : List ByteArray} {p : ByteArray → Bool} {i j : Nat} (h : DelS l m p i j) {x : ByteArray} (hx : l[j]? = some x) (hp : p x = true) : DelS l m p i (j + 1) := by
  have hj : j < l.length := (List.getElem?_eq_some_iff.1 hx).1
  have h1 := h.lt
  refine ⟨h.len, by omega, by omega, ?_, ?_⟩
  · rw [take_succ_s hx, h.low]
    rw [List.filter_append]
    simp [hp]
  · rw [← List.drop_drop, h.high, List.drop_drop]
theorem DelS.start {l : List ByteArray} {p : ByteArray → Bool} {k : Nat} {x : ByteArray} (hx : l[k]? = some x) (hp : p x = true) (h : ∀ y ∈ l.take k, p y = false) : DelS l l p k (k + 1) := by
  have hk : k < l.length := (List.getElem?_eq_some_iff.1 hx).1
  refine ⟨rfl, by omega, by omega, ?_, rfl⟩
  rw [take_succ_s hx]
  rw [List.filter_append, List.filter_eq_self.2 (fun y hy => by rw [h y hy]; rfl)]
  simp [hp]
theorem DelS.last {l m : List ByteArray} {p : ByteArray → Bool} {i : Nat} (h : DelS l m p i l.length) : m.take i = l.filter (fun x => !(p x)) := by
  rw [h.low, List.take_length]
theorem idxS_cases (l : List ByteArray) (p : ByteArray → Bool) : (idxS l p = -1 ∧ l.filter (fun x => !(p x)) = l) ∨ ∃ (k : Nat) (x : ByteArray), idxS l p = k ∧ l[k]? = some x ∧ p x = true ∧ ∀ y ∈ l.take k, p y = false := by
  cases h : l.findIdx? p with
  | none =>
    left
    rw [List.findIdx?_eq_none_iff] at h
    exact ⟨idxS_none l p h, List.filter_eq_self.2 (fun y hy => by rw [h y hy]; rfl)⟩
  | some k =>
    right
    have h0 := h
    rw [List.findIdx?_eq_some_iff_getElem] at h
    obtain ⟨hk, h1, h2⟩ := h
    refine ⟨k, l[k], by unfold idxS; rw [h0], by simp, h1, fun y hy => ?_⟩
    rw [List.mem_take_iff_getElem] at hy
    obtain ⟨j, hj, rfl⟩ := hy
    have := h2 j (by omega)
    simpa using this

set_option maxRecDepth 100000 in
set_option maxHeartbeats 2000000 in
theorem DeleteFuncS (g c : Nat) (h : ByteArray) (p : ByteArray → Bool) (eg : ∀ args w, (callFunc g args).run Try.prog w = .ok (.enter g args) w) (hp : IsPredS g c h p) (gb cap : Nat) (l : List ByteArray) (w : World) (hl : l.length ≤ 9223372036854775807) (hs : ∀ x ∈ l, x.size ≤ maxLen)
    (hr : SRow w gb cap l) (hc : w.cell? ⟨c, 0, none⟩ = some (.string h)) (hcg : c ≠ gb) :
    Calls Try.prog 96 #[.slice (some ⟨gb, 0, none⟩) l.length cap, .func (.func g) #[] #[.pointer (some ⟨c, 0, none⟩)]] w fun e w' =>
      e = .returned (.slice (some ⟨gb, 0, none⟩) (l.filter (fun x => !(p x))).length cap) ∧ SRow w' gb cap (l.filter (fun x => !(p x))) ∧ Step (· = gb) w (· = gb) w' := by
  have hidx := IndexFuncS g c h p eg hp gb cap l w hl hs hr hc
  obtain ⟨n, hn⟩ : ∃ n, l.length = n := ⟨_, rfl⟩
  have hcl : n ≤ cap := by obtain ⟨_, _, h, _⟩ := hr.parts; omega
  have hcm : cap ≤ 9223372036854775807 := by obtain ⟨_, _, _, h, _⟩ := hr.parts; unfold maxLen at h; omega
  rw [hn] at hidx ⊢
  have hn' := Lib.hid hn
  rw [hn] at hl
  clear hn
  rcases idxS_cases l p with ⟨h1, h2⟩ | ⟨k, x, h1, h2, h3, h4⟩
  · rw [h1] at hidx
    rw [h2]
    clear h1 h2
    go_enter Try.func96, Try.ntmps96
    go_wp2_with (go_at_call 125; (with_reducible refine hidx.mono ?_); rintro e w1 ⟨rfl, rfl⟩)
    go_ret
    exact ⟨by rw [hn'.out]; rfl, hr, Step.refl _ _⟩
  · rw [h1] at hidx
    have hk : k < n := by rw [← hn'.out]; exact (List.getElem?_eq_some_iff.1 h2).1
    have hI0 := Lib.hid (DelS.start h2 h3 h4)
    have hkf : ((k : Int) == -1) = false := by rw [beq_eq_false_iff_ne]; omega
    clear h1 h2 h3 h4
    go_enter Try.func96, Try.ntmps96
    go_wp2_with (go_at_call 125; (with_reducible refine hidx.mono ?_); rintro e w1 ⟨rfl, rfl⟩)
    clear hidx
    go_loopw [5, 6] (fun vi vj wr => ∃ (i j : Nat) (m : List ByteArray), vi = .int .i64 i ∧ vj = .int .i64 j ∧ i < j ∧ j ≤ n ∧ Hid (DelS l m p i j) ∧ Step (· = gb) w (· = gb) wr ∧ SRow wr gb cap m) (fun _ vj _ => n - (intOf vj).toNat)
    case atStart => exact ⟨k, k + 1, l, rfl, by go_num, by omega, by omega, hI0, Step.refl _ _, hr⟩
    case round =>
      obtain ⟨i, j, m, rfl, rfl, hij, hjn, hI, hS, hR⟩ := hrel
      have hml : m.length = n := hI.out.len.trans hn'.out
      by_cases hjl : j < n
      · obtain ⟨x, hx⟩ : ∃ x, l[j]? = some x := ⟨l[j]'(by rw [hn'.out]; exact hjl), by simp⟩
        have hxm := List.mem_of_getElem? hx
        have hxq := Lib.hid hx
        have d0 := hR.cellAt (hI.out.at.trans hx)
        have hcb : c < w.heap.size := World.block_lt_of_cell? _ _ hc
        have hc1 : wr.cell? ⟨c, 0, none⟩ = some (.string h) := by rw [← hc]; simp only [World.cell?]; rw [hS.block c hcb hcg]
        have cp := hp x wr hc1 (hs x hxm)
        have him : i < m.length := by omega
        obtain ⟨y, hmi⟩ : ∃ y, m[i]? = some y := ⟨m[i], by simp⟩
        have e0 := hR.cellAt hmi
        have f0 := hR.frozen i
        have hmi' := Lib.hid hmi
        have hml' := Lib.hid hml
        clear hx hmi hml
        cases hxe : p x <;> rw [hxe] at cp <;> have hxe' := Lib.hid hxe <;> clear hxe
        · go_wp2_with (go_at_fn g; refine cp.mono ?_; rintro e w2 ⟨rfl, rfl⟩)
          go_roundw
          case rel => exact ⟨i + 1, j + 1, m.set i x, by go_num, by go_num, by omega, by omega, hI.out.keep hxq.out hxe'.out, hS.trans (hR.store i x).2, (hR.store i x).1⟩
          case measure => simp [intOf]; omega
        · go_wp2_with (go_at_fn g; refine cp.mono ?_; rintro e w2 ⟨rfl, rfl⟩)
          go_roundw
          case rel => exact ⟨i, j + 1, m, rfl, by go_num, by omega, by omega, hI.out.skip hxq.out hxe'.out, hS, hR⟩
          case measure => simp [intOf]; omega
      · have : j = n := by omega
        subst this
        obtain ⟨w3, hcl3, hR3, hS3, hz3⟩ := hR.clear (i := i) (by omega)
        rw [hml] at hcl3
        have hlast := hI.out
        rw [show j = l.length from hn'.out.symm] at hlast
        have hle := hlast.last
        have hlen : (l.filter (fun x => !(p x))).length = i := by rw [← hle, List.length_take]; omega
        rw [hle] at hR3
        have hH := Lib.hid (And.intro hlen hR3)
        clear hlast hle hR3 hlen hml
        go_wp2
        go_ret
        exact ⟨by rw [hH.out.1]; rfl, hH.out.2, hS.trans hS3⟩

set_option maxRecDepth 100000 in
theorem DeleteFuncSN (g c : Nat) (w : World) :
    Calls Try.prog 96 #[.slice none 0 0, .func (.func g) #[] #[.pointer (some ⟨c, 0, none⟩)]] w fun e w' => e = .returned (.slice none 0 0) ∧ w = w' := by
  have hidx : Calls Try.prog 125 #[.slice none 0 0, .func (.func g) #[] #[.pointer (some ⟨c, 0, none⟩)]] w fun e w' => e = .returned (.int .i64 (-1)) ∧ w = w' := by
    go_enter Try.func125, Try.ntmps125
    go_wp2
    go_loop [8] (fun i => i = .int .i64 0) (fun i => 0)
    case atStart => rfl
    case round =>
      subst hrel
      go_wp2
      go_ret
      exact ⟨rfl, rfl⟩
  go_enter Try.func96, Try.ntmps96
  go_wp2_with (go_at_call 125; (with_reducible refine hidx.mono ?_); rintro e w1 ⟨rfl, rfl⟩)
  go_ret
  exact ⟨rfl, rfl⟩
end Go.Proofs.Ytndpmjanflahhaa

/-
  (*disk.Disk).List.
-/
namespace Go.Proofs.Ytndpmjanflahhaa
open Go.RowKit Go.MapKept

/-- The names, by Go's order on strings. -/
def DiskA.sorted (D : DiskA) : List ByteArray := ((D.files.map (fun f => f.name.data.toList)).mergeSort leB).map (fun l => ⟨l.toArray⟩)
def DiskA.list (D : DiskA) (h : ByteArray) : List ByteArray := D.sorted.filter (fun n => preB n h)
theorem sorted_mem {D : DiskA} {n : ByteArray} : n ∈ D.sorted ↔ ∃ f ∈ D.files, f.name = n := by
  unfold DiskA.sorted
  rw [List.mem_map]
  constructor
  · rintro ⟨l, hl, rfl⟩
    rw [List.mem_mergeSort] at hl
    obtain ⟨f, hf, rfl⟩ := List.mem_map.1 hl
    exact ⟨f, hf, by cases f; rename_i nm _ _ _; cases nm; simp⟩
  · rintro ⟨f, hf, rfl⟩
    exact ⟨f.name.data.toList, by rw [List.mem_mergeSort]; exact List.mem_map.2 ⟨f, hf, rfl⟩, by cases f.name; simp⟩
theorem sorted_length (D : DiskA) : D.sorted.length = D.files.length := by
  unfold DiskA.sorted; rw [List.length_map, List.length_mergeSort, List.length_map]

def anyElem (_ : Value) : Option (DataW Unit × List MemPlace) := some (.nil, [])
theorem rg_file {e : MapEntry} {n : ByteArray} (h : e.key = .string n) (hn : n.size ≤ maxLen) : Go.WideElems.rd Try.prog 9 anyElem e = some (.string n.data.toList, .nil) := by
  unfold Go.WideElems.rd
  rw [h, Go.WideMaps.keyOf_string_mk Try.underlying9 hn]
  rfl
set_option maxRecDepth 100000 in
theorem files_ownsMap {w : World} {m : Nat} {fs : List FileA} (h : IsMap w m (fs.map FileA.entry)) (hn : ∀ f ∈ fs, f.name.size ≤ maxLen) (hl : fs.length ≤ maxLen) :
    ∃ D0 : DataW Unit, w.ownsMap Try.prog 9 anyElem m fs.length D0 ∧ (strKeys D0).Perm (fs.map (fun f => f.name.data.toList)) ∧ Maps.size D0 = fs.length := by
  obtain ⟨es, clock, hb, hs, he⟩ := h
  have hsz : es.size = fs.length := by
    have := congrArg List.length he
    simpa using this
  have hrg : es.toList.map (Go.WideElems.rg Try.prog 9 anyElem) = fs.map (fun f => (Lit.string f.name.data.toList, DataW.nil)) := by
    have key : ∀ (l : List MapEntry) (fs : List FileA), l.map (fun e => (e.key, e.val)) = fs.map FileA.entry → (∀ f ∈ fs, f.name.size ≤ maxLen) → l.map (Go.WideElems.rg Try.prog 9 anyElem) = fs.map (fun f => (Lit.string f.name.data.toList, DataW.nil)) := by
      intro l
      induction l with
      | nil => intro fs h _; cases fs with
        | nil => rfl
        | cons _ _ => simp at h
      | cons e t ih =>
        intro fs h hn
        cases fs with
        | nil => simp at h
        | cons f u =>
          simp only [List.map_cons, List.cons.injEq] at h
          rw [List.map_cons, List.map_cons, ih u h.2 (fun g hg => hn g (List.mem_cons_of_mem _ hg))]
          congr 1
          have hk : e.key = .string f.name := by have := congrArg Prod.fst h.1; exact this
          unfold Go.WideElems.rg
          rw [rg_file hk (hn f List.mem_cons_self)]
          rfl
    exact key _ _ he hn
  refine ⟨_, ⟨es, clock, hb, ⟨by rw [hsz]; exact hl, hs, fun x hx => ?_⟩, Nat.le_of_eq hsz, rfl⟩, ?_, ?_⟩
  · have : (x.key, x.val) ∈ fs.map FileA.entry := by rw [← he]; exact List.mem_map.2 ⟨x, hx, rfl⟩
    obtain ⟨f, hf, e⟩ := List.mem_map.1 this
    have hk : x.key = .string f.name := by have := congrArg Prod.fst e; exact this.symm
    exact ⟨_, rg_file hk (hn f hf)⟩
  · rw [hrg]
    show (((fs.map _).foldr DataW.insert []).map fun p => strOf p.1).Perm _
    refine ((Go.WideShapes.sorted_perm _).map _).trans ?_
    rw [List.map_map]
    exact List.Perm.refl _
  · rw [hrg]
    show ((fs.map _).foldr DataW.insert []).length = _
    rw [(Go.WideShapes.sorted_perm _).length_eq, List.length_map]

theorem strs_enc (l : List (List UInt8)) : l.map encStr = (l.map (fun l => (⟨l.toArray⟩ : ByteArray))).map Value.string := by rw [List.map_map]; rfl
theorem mem_sorted_size {D : DiskA} (h : D.Ok) : ∀ n ∈ D.sorted, n.size ≤ maxLen := by
  intro n hn
  obtain ⟨f, hf, rfl⟩ := sorted_mem.1 hn
  have := h.nameLen f hf
  unfold maxLen; omega

/-- What List tells, and leaves. -/
def ListPost (D : DiskA) (hd : ByteArray) (w : World) (e : Ending) (w' : World) : Prop :=
  ∃ a cap, e = .returned (.slice a (D.list hd).length cap) ∧ w'.ownsRow w.heap.size 9 1 (.slice a (D.list hd).length cap) (D.list hd).length ((D.list hd).map Value.string) ∧ Below w.heap.size w w'

set_option maxRecDepth 100000 in
set_option maxHeartbeats 2000000 in
theorem List_any (b : Nat) (D : DiskA) (F : Nat → Prop) (w : World) (h : IsDisk w b D F) (hd : ByteArray) (hh : hd.size ≤ maxLen) :
    Calls Try.prog 55 #[ptr b, .string hd] w (ListPost D hd w) := by
  have hB : Below w.heap.size w (w.alloc (.cells #[.string hd] 9)) := (Below.refl _ w).alloc (Nat.le_refl _) _
  obtain ⟨m, v, hb, hm, hr, fm, fg⟩ := h.head
  have c1 : (w.alloc (.cells #[.string hd] 9)).cell? ⟨b, 2, none⟩ = some (.map (some m)) := (hb.at (hB.block _ hb.lt)).cell 2
  have hok := h.ok
  have hml : maxLen = 9223372036854775807 := by decide
  obtain ⟨D0, hown, hperm, hsize⟩ := files_ownsMap (hm.at (hB.block _ hm.lt)) (fun f hf => by have := hok.nameLen f hf; omega) (by have := hok.files; omega)
  have hfl := hok.files
  have cS := callsIn_wide.1 (sorted_in m D.files.length D0 anyElem _ hown (by omega) (by omega))
  have hsz1 : (w.alloc (.cells #[.string hd] 9)).heap.size = w.heap.size + 1 := by simp
  rw [hsz1] at cS
  have cK := fun W => callsIn_wide.1 (keys_in (some m) W)
  have hsz : ∀ n ∈ D.sorted, n.size ≤ maxLen := mem_sorted_size hok
  have hsl : D.sorted.length ≤ 9223372036854775807 := by rw [sorted_length]; omega
  have hlist : D.list hd = D.sorted.filter (fun x => !(!(preB x hd))) := by unfold DiskA.list; congr 1; funext x; simp
  have hkey : ∀ ss : List (List UInt8), ss.Perm (strKeys D0) → (ss.mergeSort (fun x y => decide (x ≤ y))).map encStr = D.sorted.map Value.string ∧ ss.length = D.sorted.length := by
    intro ss hs
    have hp := hs.trans hperm
    have e := mergeSort_of_perm hp
    unfold leB at e
    refine ⟨?_, ?_⟩
    · rw [e, strs_enc]; rfl
    · rw [hp.length_eq, List.length_map, sorted_length]
  unfold ptr
  have hlist' := Lib.hid hlist
  have hkey' := Lib.hid hkey
  have hBH := Lib.hid hB
  clear hb hm hr fm fg h hown hperm hsize hlist hkey hml hB hsz1
  go_enter Try.func55, Try.ntmps55
  go_wp2_with fail
  refine (cK _).mono ?_
  rintro e w1 ⟨rfl, rfl⟩
  go_wp2_with fail
  refine cS.mono ?_
  rintro e w2 ⟨v2, ss, rfl, hS, hrow, hnil, hb2⟩
  obtain ⟨e1, e2⟩ := hkey'.out ss hS
  rw [e1, e2] at hrow
  have hB2 : Below w.heap.size w w2 := (((Below.refl _ w).alloc (Nat.le_refl _) _).alloc (by simp) _).trans (hb2.mono (by simp; omega))
  have hc : w2.cell? ⟨w.heap.size, 0, none⟩ = some (.string hd) := by
    rw [hb2.cell (p := ⟨w.heap.size, 0, none⟩) (by simp; omega)]
    simp
  clear cK cS hS e1 e2 hnil
  rcases hrow.2 with ⟨rfl, hn0⟩ | ⟨g, cap, cur, rfl, hbase, hg, hlc, hcm, _, _⟩
  · have hnil : D.list hd = [] := by rw [hlist'.out, List.length_eq_zero_iff.1 hn0]; rfl
    have hnil' := Lib.hid hnil
    clear hnil hn0 hrow
    go_wp2_with fail
    refine (DeleteFuncSN _ _ _).mono ?_
    rintro e w3 ⟨rfl, rfl⟩
    go_wp2_with fail
    go_ret
    exact ⟨none, 0, by rw [hnil'.out]; rfl, by rw [hnil'.out]; exact ⟨rfl, .inl ⟨rfl, rfl⟩⟩, hB2⟩
  · have hR : SRow w2 g cap D.sorted := ⟨by simp, .inr (by
      rcases hrow.2 with ⟨h1, _⟩ | ⟨g', cap', cur', hv, _, r⟩
      · cases h1
      · cases hv; exact ⟨g, cap, cur', rfl, Nat.zero_le _, r⟩)⟩
    have hne : w.heap.size ≠ g := by simp at hbase; omega
    have cD := DeleteFuncS 97 w.heap.size hd (fun x => !(preB x hd)) enter_list1 (list1_pred _ hd hh) g cap D.sorted w2 hsl hsz hR hc hne
    rw [← hlist'.out] at cD
    have hR' := Lib.hid hR
    have hbase' : w.heap.size ≤ g := by simp at hbase; omega
    clear hR hrow hg hbase
    generalize D.sorted.length = sl at *
    go_wp2_with fail
    refine cD.mono ?_
    rintro e w3 ⟨rfl, hR3, hs3⟩
    clear cD
    go_wp2_with fail
    go_ret
    refine ⟨some ⟨g, 0, none⟩, cap, rfl, ⟨by simp, ?_⟩, hB2.trans (hs3.below hB2.size (fun k hk => by rw [hk]; exact hbase'))⟩
    rcases hR3.2 with ⟨h1, _⟩ | ⟨g', cap', cur', hv, _, r⟩
    · cases h1
    · cases hv; exact .inr ⟨g, cap, cur', rfl, hbase', r⟩
end Go.Proofs.Ytndpmjanflahhaa
