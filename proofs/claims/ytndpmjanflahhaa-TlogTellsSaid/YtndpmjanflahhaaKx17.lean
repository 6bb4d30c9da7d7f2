/-
  THE STATEMENTS OF LAYER 11: what KeyxFinds has added; reveillelaw11.number; an index beside rows of the call's own.
-/
import Derived.Test.YtndpmjanflahhaaKx11
import Derived.Test.YtndpmjanflahhaaKx16
import Derived.Test.YtndpmjanflahhaaOv1
import Derived.Test.YtndpmjanflahhaaArgKeys
namespace Go.Proofs.Ytndpmjanflahhaa
open Go.ChangeShapes Go.WideShapes Go.RowKit Go.MapKept Go.Deep

def POver (T : TypeId) (xb b : Nat) (D : DiskA) (n : Int) : World → (Nat → Prop) → Prop := fun w F => IsOver T w xb b D n F
theorem kind_pover (T : TypeId) (xb b : Nat) (D : DiskA) (n : Int) : Kind1 (POver T xb b D n) := kind_over T xb b D n
theorem OX.sx {T : TypeId} {w0 w : World} {xb b : Nat} {D : DiskA} {n : Int} {O : Nat → Option Obj} (h : OX T w0 xb b D n O w) : SX (POver T xb b D n) w0 O w := h
theorem SX.oX {T : TypeId} {w0 w : World} {xb b : Nat} {D : DiskA} {n : Int} {O : Nat → Option Obj} (h : SX (POver T xb b D n) w0 O w) : OX T w0 xb b D n O w := h

set_option maxRecDepth 100000 in
theorem number11_any (t k : ByteArray) (w : World) (ht : t.size ≤ 1000) (hk : k.size ≤ 1000) :
    Calls Try.prog 68 #[.string t, .string k] w fun e w' => e = .returned (.int .i64 (hashL [t, ⟨#[35]⟩, k] : Nat)) ∧ w = w' := by
  have hml : maxLen = 9223372036854775807 := by decide
  have hz : (t ++ ⟨#[35]⟩ ++ k : ByteArray).size = t.size + 1 + k.size := by rw [ByteArray.size_append, ByteArray.size_append]; rfl
  have hh : hashB 0 (t ++ ⟨#[35]⟩ ++ k : ByteArray).data.toList = hashL [t, ⟨#[35]⟩, k] := by simp only [hashL, hashB, ByteArray.data_append, Array.toList_append, List.foldl_append, List.foldl_cons, List.foldl_nil]
  have cH := refHash_any (t ++ ⟨#[35]⟩ ++ k) w (by rw [hz]; omega)
  rw [hh] at cH
  have hz1 : (t ++ ⟨#[35]⟩ : ByteArray).size = t.size + 1 := by rw [ByteArray.size_append]; rfl
  have hzb : (⟨#[35]⟩ : ByteArray).size = 1 := rfl
  clear hh hml
  generalize hashL [t, ⟨#[35]⟩, k] = H at *
  go_enter Try.func68, Try.ntmps68
  go_wp2_with fail
  refine cH.mono ?_
  rintro e w' ⟨rfl, rfl⟩
  go_wp2_with fail
  go_ret
  exact ⟨rfl, rfl⟩

/-- What was added, and its records. -/
structure AddedR (os : List AddV) (rs : List KRec) : Prop where
  len : rs.length = os.length
  rec_ : ∀ (i : Nat) (a : AddV), os[i]? = some a → ∃ r : KRec, rs[i]? = some r ∧ r.hash = hashL [a.topic, ⟨#[35]⟩, a.key] ∧ (r.at_ : Int) = a.at_ ∧ a.topic.size ≤ 100 ∧ a.key.size ≤ 100
theorem AddedR.nil : AddedR [] [] := ⟨rfl, fun i a h => by simp at h⟩
theorem AddedR.add {os : List AddV} {rs : List KRec} (h : AddedR os rs) {a : AddV} {r : KRec} (h1 : r.hash = hashL [a.topic, ⟨#[35]⟩, a.key]) (h2 : (r.at_ : Int) = a.at_) (h3 : a.topic.size ≤ 100) (h4 : a.key.size ≤ 100) : AddedR (os ++ [a]) (rs ++ [r]) := by
  refine ⟨by simp [h.len], fun i x hi => ?_⟩
  by_cases hil : i < os.length
  · rw [List.getElem?_append_left hil] at hi
    rw [List.getElem?_append_left (by rw [h.len]; exact hil)]
    exact h.rec_ i x hi
  · have : i = os.length := by
      have := (List.getElem?_eq_some_iff.1 hi).1
      simp at this; omega
    subst this
    simp at hi
    subst hi
    exact ⟨r, by rw [← h.len]; simp, h1, h2, h3, h4⟩
def addCells (os : List AddV) : List Value := os.flatMap (fun a => a.cells.toList)
theorem addCells_len (os : List AddV) : (addCells os).length = 4 * os.length := recs_len (C := 4) (f := fun a : AddV => a.cells.toList) (fun _ => rfl) os
theorem addCells_add (os : List AddV) (a : AddV) : addCells (os ++ [a]) = addCells os ++ a.cells.toList := by unfold addCells; simp
theorem addCells_at (os : List AddV) (i : Nat) {a : AddV} (h : os[i]? = some a) (j : Nat) (hj : j < 4) : (addCells os)[4 * i + j]? = a.cells[j]? := by
  have h1 := recs_at (C := 4) (f := fun a : AddV => a.cells.toList) (fun _ => rfl) os i h
  have h2 : ((addCells os).drop (4 * i))[j]? = a.cells.toList[j]? := by
    rw [← h1, List.getElem?_take_of_lt hj]; rfl
  rw [List.getElem?_drop] at h2
  simpa using h2
theorem info_add : (Try.prog.info? 89).map (fun i => (i.zero, i.size, i.bytes)) = some (some (.agg #[.string ByteArray.empty, .string ByteArray.empty, .int .i64 0, .int .i64 0]), 4, 48) := by kernel_rfl
/-- An own row of them. -/
theorem addSl_of_row {w : World} {a : Option Addr} {c : Nat} {os : List AddV} (h : w.ownsRow 0 89 4 (.slice a os.length c) os.length (addCells os)) : AddSl w a os := by
  intro i x hi
  have hil : i < os.length := (List.getElem?_eq_some_iff.1 hi).1
  rcases h.2 with ⟨_, h2⟩ | ⟨g, cap', cur, hv, _⟩
  · omega
  · cases hv
    have hat : ∀ j, j < 4 → w.cell? ⟨g, 0 + i * 4 + j, none⟩ = x.cells[j]? := fun j hj => by
      have := World.ownsRow.cellAt h (4 * i + j) (by omega)
      rw [show 0 + i * 4 + j = 4 * i + j by omega, this]
      exact addCells_at os i hi j hj
    exact ⟨g, 0, rfl, hat 0 (by omega), hat 1 (by omega), hat 2 (by omega), hat 3 (by omega)⟩
theorem AddSl.kept {w w' : World} {a : Option Addr} {os : List AddV} (h : AddSl w a os) (hk : ∀ g off, a = some ⟨g, off, none⟩ → w'.heap[g]? = w.heap[g]?) : AddSl w' a os := by
  intro i x hi
  obtain ⟨g, off, ha, h0, h1, h2, h3⟩ := h i x hi
  have e := hk g off ha
  exact ⟨g, off, ha, (World.cell?_of_block (a := ⟨g, _, none⟩) e).trans h0, (World.cell?_of_block (a := ⟨g, _, none⟩) e).trans h1, (World.cell?_of_block (a := ⟨g, _, none⟩) e).trans h2, (World.cell?_of_block (a := ⟨g, _, none⟩) e).trans h3⟩
theorem AddSl.below {w w' : World} {a : Option Addr} {os : List AddV} (h : AddSl w a os) (hB : Below w.heap.size w w') : AddSl w' a os := by
  intro i x hi
  obtain ⟨g, off, ha, h0, h1, h2, h3⟩ := h i x hi
  exact ⟨g, off, ha, (hB.cell (World.block_lt_of_cell? _ _ h0)).trans h0, (hB.cell (World.block_lt_of_cell? _ _ h1)).trans h1, (hB.cell (World.block_lt_of_cell? _ _ h2)).trans h2, (hB.cell (World.block_lt_of_cell? _ _ h3)).trans h3⟩
theorem row_slice {w : World} {S : TypeId} {sz : Nat} {v : Value} {n : Nat} {cs : List Value} (h : w.ownsRow 0 S sz v n cs) : ∃ a c, v = .slice a n c ∧ n ≤ c := by
  rcases h.2 with ⟨hv, hn⟩ | ⟨g, cap, cur, hv, _, _, hc, _⟩
  · subst hn; exact ⟨none, 0, hv, Nat.le_refl _⟩
  · exact ⟨_, _, hv, hc⟩
theorem new_cells (w : World) (c : Array Value) (T : TypeId) : ∀ (j : Nat) (u : Value), c.toList[j]? = some u → (w.alloc (.cells c T)).cell? ((⟨w.heap.size, 0, none⟩ : Addr).add j) = some u := by
  intro j u hj
  have := (Blk.new w c T).cell (0 + j)
  rw [show (⟨w.heap.size, 0, none⟩ : Addr).add j = ⟨w.heap.size, 0 + j, none⟩ from by unfold Addr.add; split <;> simp_all, this, Nat.zero_add]
  simpa using hj
theorem new_cells' (w : World) (K : Nat) (hK : w.heap.size = K) (c : Array Value) (T : TypeId) : ∀ (j : Nat) (u : Value), c.toList[j]? = some u → (w.alloc (.cells c T)).cell? ((⟨K, 0, none⟩ : Addr).add j) = some u := by
  subst hK; exact new_cells w c T

/-! ### arguments that are structs, and arrays -/
set_option maxRecDepth 100000 in
theorem open_add1 {H : Type} {enc : TypeId × Value → H} {W : World} {v : Value} {d : DataW H} {p : List MemPlace} {base : Nat}
    (hv : Value.okWide Try.prog W .any base 89 v) (h : DataW.Trod enc Try.prog W 0 (fun _ => true) true 89 v d p) : ∃ o : AddV, v = .agg o.cells ∧ o.Fits := by
  obtain ⟨cs, rfl, hsz⟩ := okWide_struct Try.underlying89 hv
  obtain ⟨fuel, hf⟩ := h
  obtain ⟨o, ho, hF⟩ := open_add_c hf
  exact ⟨o, by congr 1; exact Array.toList_inj.1 ho, hF⟩
set_option maxRecDepth 100000 in
theorem open_pair1 {H : Type} {enc : TypeId × Value → H} {W : World} {v : Value} {d : DataW H} {p : List MemPlace} {base : Nat}
    (hv : Value.okWide Try.prog W .any base 68 v) (h : DataW.Trod enc Try.prog W 0 (fun _ => true) true 68 v d p) : ∃ x y : Int, v = .agg #[.int .i64 x, .int .i64 y] ∧ (-9223372036854775808 ≤ x ∧ x ≤ 9223372036854775807) ∧ (-9223372036854775808 ≤ y ∧ y ≤ 9223372036854775807) := by
  have u1 := Try.underlying68
  have z2 : Try.prog.cellsOf 3 = 1 := by kernel_rfl
  have z1 : Try.prog.cellsOf 68 = 2 := by kernel_rfl
  simp only [Value.okWide, u1] at hv
  obtain ⟨cs, rfl, hsz, _⟩ := hv
  obtain ⟨fuel, hf⟩ := h
  obtain ⟨ys, m, rfl, hx, hlen, hyl, hel⟩ := DataW.trod_array u1 hf
  rw [z2] at hel
  obtain ⟨c0, c1, hcs⟩ : ∃ c0 c1, cs.toList = [c0, c1] := by
    rw [z1] at hsz
    have : cs.toList.length = 2 := by simpa using hsz
    match cs.toList, this with
    | [c0, c1], _ => exact ⟨c0, c1, rfl⟩
  obtain ⟨y0, y1, rfl⟩ : ∃ y0 y1, ys = [y0, y1] := by
    match ys, hyl with
    | [y0, y1], _ => exact ⟨y0, y1, rfl⟩
  have e0 := hel 0 (by omega)
  have e1 := hel 1 (by omega)
  simp [Value.cells, hcs] at e0 e1
  obtain ⟨x0, h0, _, w0⟩ := DataW.trod_int Try.underlying3 e0
  obtain ⟨x1, h1, _, w1⟩ := DataW.trod_int Try.underlying3 e1
  cases h0; cases h1
  exact ⟨x0, x1, by congr 1; exact Array.toList_inj.1 hcs, i64_range w0, i64_range w1⟩
end Go.Proofs.Ytndpmjanflahhaa
