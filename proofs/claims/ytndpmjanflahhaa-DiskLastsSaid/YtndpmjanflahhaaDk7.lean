/-
  A buffer of bytes that a call has made: out of a text, noughts appended, a text copied into it, and back to a text; disk.laid.
-/
import Derived.Test.YtndpmjanflahhaaDk6
import Derived.Lib.ConvBytes
import Derived.Laws.CopyOwn
namespace Go.Proofs.Ytndpmjanflahhaa
open Go.RowKit Go.MapKept

def byteV (b : UInt8) : Value := .int .u8 b.toNat
/-- Block g is a row of cap bytes, of which the first are L. -/
def Buf (w : World) (g cap : Nat) (L : List UInt8) : Prop :=
  ∃ cur lo hi, w.heap[g]? = some (.cells cur 5 (lo, hi)) ∧ cur.size = cap ∧ (lo = hi ∨ cap ≤ lo) ∧ L.length ≤ cap ∧ cur.toList.take L.length = L.map byteV

theorem Buf.lt {w : World} {g cap : Nat} {L : List UInt8} (h : Buf w g cap L) : g < w.heap.size := by
  obtain ⟨cur, lo, hi, h1, _⟩ := h; exact (Array.getElem?_eq_some_iff.1 h1).1
theorem Buf.cell {w : World} {g cap : Nat} {L : List UInt8} (h : Buf w g cap L) (j : Nat) (hj : j < L.length) : w.cell? ⟨g, j, none⟩ = some (byteV L[j]) := by
  obtain ⟨cur, lo, hi, h1, h2, h3, h4, h5⟩ := h
  have : cur[j]? = some (byteV L[j]) := by
    have e : (cur.toList.take L.length)[j]? = some (byteV L[j]) := by rw [h5]; simp [hj]
    rw [List.getElem?_take_of_lt hj] at e
    simpa using e
  simp [World.cell?, h1, this]

theorem frozen_off {w : World} {g cap : Nat} {cur : Array Value} {lo hi : Nat} {T : TypeId} (h1 : w.heap[g]? = some (.cells cur T (lo, hi))) (h3 : lo = hi ∨ cap ≤ lo) (j : Nat) (hj : j < cap) : w.frozen? ⟨g, j, none⟩ = false := by
  simp only [World.frozen?, h1]
  rw [Bool.and_eq_false_iff]
  rcases h3 with rfl | h3
  · by_cases h : lo ≤ j
    · right; simp; omega
    · left; simp; omega
  · left; simp; omega

theorem setCell_row (w : World) (g j : Nat) (cur : Array Value) (T : TypeId) (fr : Nat × Nat) (v : Value) (hg : w.heap[g]? = some (.cells cur T fr)) : w.setCell ⟨g, j, none⟩ v = w.setRow g (cur.setIfInBounds j v) :=
  setCell_eq_setRow w g j cur T fr v hg

theorem run_storeCells_off {P : Program} (g o : Nat) (T : TypeId) (lo hi : Nat) : ∀ (vs : List Value) (i : Nat) (cur : Array Value) (w : World), w.heap[g]? = some (.cells cur T (lo, hi)) → o + i + vs.length ≤ cur.size → (∀ v ∈ vs, v.oneCell' = true) → (lo = hi ∨ cur.size ≤ lo) →
    (storeCells ⟨g, o, none⟩ vs i).run P w = .ok () (w.setRow g (cur.toList.take (o + i) ++ vs ++ cur.toList.drop (o + i + vs.length)).toArray)
  | [], i, cur, w, hg, _, _, _ => by
    simp only [storeCells, List.append_nil, List.length_nil, Nat.add_zero, List.take_append_drop, Array.toArray_toList]
    rw [setRow_self w g cur T (lo, hi) hg]
    rfl
  | v :: rest, i, cur, w, hg, hl, h1, hfz => by
    have hi' : o + i < cur.size := by simp at hl; omega
    have hadd : (⟨g, o, none⟩ : Addr).add i = ⟨g, o + i, none⟩ := by unfold Addr.add; split <;> simp_all
    have hcell : w.cell? ⟨g, o + i, none⟩ = some cur[o + i] := by simp [World.cell?, hg, hi']
    have hfro : w.frozen? ⟨g, o + i, none⟩ = false := frozen_off hg hfz _ hi'
    have hst : (store ((⟨g, o, none⟩ : Addr).add i) v).run P w = .ok () (w.setRow g (cur.setIfInBounds (o + i) v)) := by
      rw [hadd, run_store P w _ v _ (h1 v (by simp)), hcell]
      simp [hfro, setCell_eq_setRow w g (o + i) cur T (lo, hi) v hg]
    have ih := run_storeCells_off (P := P) g o T lo hi rest (i + 1) (cur.setIfInBounds (o + i) v) (w.setRow g (cur.setIfInBounds (o + i) v)) (setRow_heap w g cur _ T _ hg) (by simp at hl ⊢; omega) (fun x hx => h1 x (by simp [hx])) (by simpa using hfz)
    simp only [storeCells, Sem.run_bind, hst, Result.andThen_ok, ih, setRow_setRow]
    congr 3
    have e := list_seg_step cur.toList (o + i) v rest (by simp at hl ⊢; omega)
    simpa [Array.toList_setIfInBounds, Nat.add_assoc] using e

theorem setRow_size (w : World) (g : Nat) (cs : Array Value) : (w.setRow g cs).heap.size = w.heap.size := by simp [World.setRow]
theorem byteV_one (l : List UInt8) : ∀ v ∈ l.map byteV, v.oneCell' = true := by
  intro v hv; obtain ⟨b, _, rfl⟩ := List.mem_map.1 hv; rfl

/-- '[]byte(s)'. -/
theorem run_toBytes (w : World) (s : ByteArray) (hs : s.size ≤ maxLen) : ∃ cap w', (convert 9 53 (.string s)).run Try.prog w = .ok (.slice (some ⟨w.heap.size, 0, none⟩) s.size cap) w' ∧ Buf w' w.heap.size cap s.data.toList ∧ Below w.heap.size w w' ∧ cap ≤ maxLen := by
  refine ⟨grownCap w s.size 0 5, Lib.bytesWorld w 5 s, Lib.run_convert_string_bytes w _ _ _ s Try.underlying9 Try.underlying53 Try.underlying5, ?_, ?_, grownCap_le_maxLen w _ _ _ hs⟩
  · have hge := grownCap_ge w s.size 0 5
    have hsz : (Lib.bytesCells w 5 s).size = grownCap w s.size 0 5 := by
      unfold Lib.bytesCells
      simp
      have : s.data.size = s.size := rfl
      omega
    refine ⟨_, _, _, Lib.bytesWorld_at_new w _ s, hsz, .inr (by omega), by simp; exact hge, ?_⟩
    unfold Lib.bytesCells
    simp [byteV]
  · refine ⟨rfl, rfl, rfl, by rw [Lib.bytesWorld_size]; omega, fun k hk => Lib.bytesWorld_at_old w _ s k hk⟩

def zeros (n : Nat) : List UInt8 := List.replicate n 0
theorem zeroCells_bytes (n : Nat) : Builtin.zeroCells #[.int .u8 0] n = ((zeros n).map byteV).toArray := by
  unfold Builtin.zeroCells zeros
  apply Array.ext
  · simp
  · intro i h1 h2
    simp [byteV]
    rw [Nat.mod_one]; rfl

theorem info_u8 : (Try.prog.info? 5).map (fun i => (i.zero, i.size, i.bytes)) = some (some (.int .u8 0), 1, 1) := by kernel_rfl

set_option maxRecDepth 100000 in
/-- 'append(b, make([]byte, n)...)'. -/
theorem run_appendZeros (w : World) (ty : TypeId) (g L cap n : Nat) (l : List UInt8) (hb : Buf w g cap l) (hl : l.length = L) (hn : 0 < n) (hm : L + n ≤ 1099511627776) :
    ∃ g' cap' w', (Builtin.append_ #[53, 3] ty #[.slice (some ⟨g, 0, none⟩) L cap, .int .i64 (n : Nat)]).run Try.prog w = .ok (.slice (some ⟨g', 0, none⟩) (L + n) cap') w' ∧
      Buf w' g' cap' (l ++ zeros n) ∧ w.grownBy w' (some g) ∧ (g' = g ∨ w.heap.size ≤ g') := by
  subst hl
  obtain ⟨cur, lo, hi, h1, h2, h3, h4, h5⟩ := hb
  obtain ⟨i0, hi0, hz0, hz1, hz2⟩ := info_parts info_u8
  have ht := Try.underlying53
  have hu := Try.underlying3
  have hw : IntKind.i64.wrap (n : Int) = n := Go.IntWalk.i64_in _ (by omega)
  have hneg : ¬ ((n : Int) < 0) := by omega
  have h48 : ¬ ((n : Int) * ((1 : Nat) : Int) > 2 ^ 48) := by omega
  have hne : n ≠ 0 := by omega
  have hA : ∀ w : World, (asInt (.int .i64 (n : Int))).run Try.prog w = .ok (n : Int) w := fun _ => rfl
  have hzl : (zeros n).length = n := by simp [zeros]
  by_cases hroom : l.length + n ≤ cap
  · have hst := run_storeCells_off (P := Try.prog) g l.length 5 lo hi ((zeros n).map byteV) 0 cur w h1 (by simp [hzl]; omega) (byteV_one _) (by rw [h2]; exact h3)
    simp only [Nat.add_zero, List.length_map, hzl] at hst
    refine ⟨g, cap, w.setRow g (cur.toList.take l.length ++ (zeros n).map byteV ++ cur.toList.drop (l.length + n)).toArray, ?_, ⟨_, lo, hi, setRow_heap w g cur _ _ _ h1, ?_, h3, by simp [hzl]; omega, ?_⟩, ⟨rfl, rfl, rfl, by rw [setRow_size]; exact Nat.le_refl _, fun k _ hk => setRow_other w g k _ (fun e => hk (by rw [e]))⟩, .inl rfl⟩
    · simp [Builtin.append_, run_underlying ht, run_underlying hu, sizeOf, typeInfo, zeroValue, hi0, hz0, hz1, hz2, hA, hw, hneg, hne, hroom, Addr.add_lit, Value.cells, zeroCells_bytes]
      rw [if_neg (by omega), hst]
      simp [Result.andThen]
    · simp [hzl]; omega
    · rw [List.length_append, hzl, List.map_append, ← h5]
      have e1 : (cur.toList.take l.length ++ (zeros n).map byteV).length = l.length + n := by simp [hzl]; omega
      simp only [List.append_assoc]
      rw [← List.append_assoc, ← e1, List.take_left]
  · have hfo := run_firstCells_some (P := Try.prog) w.drew 1 l.length ⟨g, 0, none⟩ l.length cap (l.map byteV) (by simp) (fun j v hj => by
      have hjl : j < l.length := by rw [List.getElem?_eq_some_iff] at hj; simpa using hj.1
      have hc := Buf.cell ⟨cur, lo, hi, h1, h2, h3, h4, h5⟩ j hjl
      have : v = byteV l[j] := by simp [hjl] at hj; exact hj.symm
      rw [this]
      simpa [Addr.add_lit] using hc)
    have hfit : Builtin.nextslicecap (l.length + n) cap * 1 ≤ 281474976710656 := growslice_fits (by omega) (by omega)
    rw [Nat.mul_one] at hfit
    have hge := grownCap_ge w (l.length + n) cap 5
    refine ⟨w.heap.size, grownCap w (l.length + n) cap 5, w.drew.alloc (.cells ((l.map byteV).toArray ++ ((zeros n).map byteV).toArray ++ ((zeros (grownCap w (l.length + n) cap 5 - (l.length + n))).map byteV).toArray) 5), ?_, ⟨_, 0, 0, heap_alloc_new w.drew _, ?_, .inl rfl, by simp [hzl]; omega, ?_⟩, ⟨rfl, rfl, rfl, by simp, fun k hk _ => heap_alloc_old w.drew _ hk⟩, .inr (Nat.le_refl _)⟩
    · simp [Builtin.append_, run_underlying ht, run_underlying hu, sizeOf, typeInfo, zeroValue, hi0, hz0, hz1, hz2, hA, hw, hneg, hne, hroom, Value.cells, zeroCells_bytes, Question.forced, newRow]
      rw [if_neg (by omega), if_neg (by omega), if_neg (by omega)]
      simp [hfo, Result.andThen, grownCap]
    · simp [zeros]; omega
    · have e1 : (l.map byteV ++ (zeros n).map byteV).length = l.length + n := by simp [hzl]
      rw [List.length_append, hzl, List.map_append]
      simp only [Array.toList_append]
      rw [← e1, List.take_left]

set_option maxRecDepth 100000 in
/-- 'copy(b[o:], s)', s a text that fits. -/
theorem run_copyStr (w : World) (ty : TypeId) (g o dLen dCap cap : Nat) (l : List UInt8) (hb : Buf w g cap l) (s : ByteArray) (hfit : o + s.size ≤ l.length) (hd : s.size ≤ dLen) :
    ∃ w', (Builtin.copy_ #[53, 9] ty #[.slice (some ⟨g, o, none⟩) dLen dCap, .string s]).run Try.prog w = .ok (goInt s.size) w' ∧
      Buf w' g cap (l.take o ++ s.data.toList ++ l.drop (o + s.size)) ∧ w.grownBy w' (some g) ∧ w'.heap.size = w.heap.size := by
  obtain ⟨cur, lo, hi, h1, h2, h3, h4, h5⟩ := hb
  obtain ⟨i0, hi0, hz0, hz1, hz2⟩ := info_parts info_u8
  have ht := Try.underlying53
  have hmin : Nat.min s.size dLen = s.size := Nat.min_eq_left hd
  have hsl : s.data.toList.length = s.size := by simp
  have hx : List.take s.size (List.map (fun b : UInt8 => Value.int IntKind.u8 (b.toNat : Int)) s.data.toList) = s.data.toList.map byteV := by
    rw [List.take_of_length_le (by simp)]; rfl
  have hst := run_storeCells_off (P := Try.prog) g o 5 lo hi (s.data.toList.map byteV) 0 cur w h1 (by simp; omega) (byteV_one _) (by rw [h2]; exact h3)
  simp only [Nat.add_zero, List.length_map, hsl] at hst
  have hcur : cur.toList = l.map byteV ++ cur.toList.drop l.length := by rw [← h5, List.take_append_drop]
  refine ⟨w.setRow g (cur.toList.take o ++ s.data.toList.map byteV ++ cur.toList.drop (o + s.size)).toArray, ?_, ⟨_, lo, hi, setRow_heap w g cur _ _ _ h1, ?_, h3, ?_, ?_⟩, ⟨rfl, rfl, rfl, by rw [setRow_size]; exact Nat.le_refl _, fun k _ hk => setRow_other w g k _ (fun e => hk (by rw [e]))⟩, setRow_size _ _ _⟩
  · simp [Builtin.copy_, run_underlying ht, sizeOf, typeInfo, hi0, hz1, Builtin.lenOf, Builtin.firstCells, hmin]
    rw [hx, hst]
    simp
  · simp; omega
  · simp; omega
  · have hlen : (l.take o ++ s.data.toList ++ l.drop (o + s.size)).length = l.length := by simp; omega
    rw [hlen]
    simp only [List.map_append, List.map_take, List.map_drop]
    rw [hcur]
    have e1 : (l.map byteV ++ cur.toList.drop l.length).take o = (l.map byteV).take o := List.take_append_of_le_length (by simp; omega)
    have e2 : (l.map byteV ++ cur.toList.drop l.length).drop (o + s.size) = (l.map byteV).drop (o + s.size) ++ cur.toList.drop l.length := List.drop_append_of_le_length (by simp; omega)
    rw [e1, e2]
    have e3 : ((l.map byteV).take o ++ s.data.toList.map byteV ++ (l.map byteV).drop (o + s.size)).length = l.length := by simp; omega
    rw [← List.append_assoc, ← e3, List.take_left]

theorem run_fromBytes (w : World) (g cap : Nat) (l : List UInt8) (hb : Buf w g cap l) : (convert 53 9 (.slice (some ⟨g, 0, none⟩) l.length cap)).run Try.prog w = .ok (.string ⟨l.toArray⟩) w :=
  run_convert_bytes_back w _ _ _ ⟨g, 0, none⟩ cap l Try.underlying53 Try.underlying5 Try.underlying9 (fun j hj => by
    have := hb.cell j hj
    simpa [Addr.add_lit, byteV] using this)

section
variable {w : World} {ops : Array Oper} {rest : List Oper} {o : Oper} {a : Act} {Q : Exit → Act → World → Prop}
theorem wpList_toBytes (hg : o.guard = none) (x : Operand) (hop : o.op = Op.convert 9 53 x) (s : ByteArray) (hx : a.eval x = .string s) (hs : s.size ≤ maxLen)
    (hK : ∀ cap w', Buf w' w.heap.size cap s.data.toList → Below w.heap.size w w' → cap ≤ maxLen → wpList Try.prog ops Q rest (a.put o.dst (.slice (some ⟨w.heap.size, 0, none⟩) s.size cap)) w') :
    wpList Try.prog ops Q (o :: rest) a w := by
  refine wpList_plain hg fun K' hK' => ?_
  obtain ⟨cap, w', hrun, r1, r2, r3⟩ := run_toBytes w s hs
  unfold Oper.wp
  simp [execOp, hop, hx, hrun, Result.andThen]
  exact hK' _ _ (hK cap w' r1 r2 r3)
theorem wpList_appendZeros (hg : o.guard = none) (x y : Operand) (hop : o.op = .call { callee := .builtin .append, args := #[x, y], argTypes := #[53, 3] }) (g L cap n : Nat) (l : List UInt8)
    (hx : a.eval x = .slice (some ⟨g, 0, none⟩) L cap) (hy : a.eval y = .int .i64 (n : Nat)) (hb : Buf w g cap l) (hl : l.length = L) (hn : 0 < n) (hm : L + n ≤ 1099511627776)
    (hK : ∀ g' cap' w', Buf w' g' cap' (l ++ zeros n) → w.grownBy w' (some g) → (g' = g ∨ w.heap.size ≤ g') → wpList Try.prog ops Q rest (a.put o.dst (.slice (some ⟨g', 0, none⟩) (L + n) cap')) w') :
    wpList Try.prog ops Q (o :: rest) a w := by
  refine wpList_plain hg fun K' hK' => ?_
  obtain ⟨g', cap', w', hrun, r1, r2, r3⟩ := run_appendZeros w o.type g L cap n l hb hl hn hm
  unfold Oper.wp execOp
  simp only [hop, resolve, invoke, builtin, Sem.run_bind, Sem.run_pure, Result.andThen_ok, List.map_toArray, List.map_cons, List.map_nil, hx, hy, hrun]
  exact hK' _ _ (hK g' cap' w' r1 r2 r3)
theorem wpList_copyStr (hg : o.guard = none) (x y : Operand) (hop : o.op = .call { callee := .builtin .copy, args := #[x, y], argTypes := #[53, 9] }) (g off dLen dCap cap : Nat) (l : List UInt8) (s : ByteArray)
    (hx : a.eval x = .slice (some ⟨g, off, none⟩) dLen dCap) (hy : a.eval y = .string s) (hb : Buf w g cap l) (hfit : off + s.size ≤ l.length) (hd : s.size ≤ dLen)
    (hK : ∀ w', Buf w' g cap (l.take off ++ s.data.toList ++ l.drop (off + s.size)) → w.grownBy w' (some g) → w'.heap.size = w.heap.size → wpList Try.prog ops Q rest (a.put o.dst (goInt s.size)) w') :
    wpList Try.prog ops Q (o :: rest) a w := by
  refine wpList_plain hg fun K' hK' => ?_
  obtain ⟨w', hrun, r1, r2, r3⟩ := run_copyStr w o.type g off dLen dCap cap l hb s hfit hd
  unfold Oper.wp execOp
  simp only [hop, resolve, invoke, builtin, Sem.run_bind, Sem.run_pure, Result.andThen_ok, List.map_toArray, List.map_cons, List.map_nil, hx, hy, hrun]
  exact hK' _ _ (hK w' r1 r2 r3)
end
end Go.Proofs.Ytndpmjanflahhaa
