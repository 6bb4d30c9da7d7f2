/-
  THE STATEMENTS OF LAYER 16: TlogTells, plain; how its calls come in.
-/
import Derived.Test.YtndpmjanflahhaaTl10
namespace Go.Proofs.Ytndpmjanflahhaa
open Go.ChangeShapes Go.WideShapes Go.RowKit Go.MapKept Go.Deep

/-- A call. -/
structure TOp where
  k : Int
  due : Int
  at_ : Int
deriving instance Inhabited for TOp
def TOp.cells (o : TOp) : Array Value := #[.int .i64 o.k, .int .i64 o.due, .int .i64 o.at_]
def I64 (x : Int) : Prop := -9223372036854775808 ≤ x ∧ x ≤ 9223372036854775807
def TOp.Fits (o : TOp) : Prop := I64 o.k ∧ I64 o.due ∧ I64 o.at_
def TOpSl (w : World) (a : Option Addr) (os : List TOp) : Prop :=
  ∀ i o, os[i]? = some o → ∃ g off, a = some ⟨g, off, none⟩ ∧ w.cell? ⟨g, off + i * 3, none⟩ = some (.int .i64 o.k) ∧ w.cell? ⟨g, off + i * 3 + 1, none⟩ = some (.int .i64 o.due) ∧ w.cell? ⟨g, off + i * 3 + 2, none⟩ = some (.int .i64 o.at_)
set_option maxRecDepth 100000 in
theorem open_top_c {H : Type} {enc : TypeId × Value → H} {W : World} {fuel : Nat} {cs : List Value} {x : DataW H × List MemPlace} (h : DataW.trod enc Try.prog W 0 (fun _ => true) true fuel 106 cs = some x) :
    ∃ o : TOp, cs = o.cells.toList ∧ o.Fits := by
  obtain ⟨xs, n, _, _, hcl, hxl, hf⟩ := DataW.trod_struct Try.underlying106 h
  have e0 : Try.prog.cellsOf 106 = 3 := by kernel_rfl
  have e1 : Try.prog.cellsOf 3 = 1 := by kernel_rfl
  rw [e0] at hcl
  match cs, hcl, xs, hxl, hf with
  | [c0, c1, c2], _, [y0, y1, y2], _, hf =>
    have f0 : DataW.trod enc Try.prog W 0 (fun _ => true) true n 3 [c0] = some y0 := by have := hf 0 _ rfl; simpa [e1] using this
    have f1 : DataW.trod enc Try.prog W 0 (fun _ => true) true n 3 [c1] = some y1 := by have := hf 1 _ rfl; simpa [e1] using this
    have f2 : DataW.trod enc Try.prog W 0 (fun _ => true) true n 3 [c2] = some y2 := by have := hf 2 _ rfl; simpa [e1] using this
    obtain ⟨A, h0, _, w0⟩ := DataW.trod_int Try.underlying3 f0
    obtain ⟨B, h1, _, w1⟩ := DataW.trod_int Try.underlying3 f1
    obtain ⟨C, h2, _, w2⟩ := DataW.trod_int Try.underlying3 f2
    cases h0; cases h1; cases h2
    exact ⟨⟨A, B, C⟩, rfl, i64_range w0, i64_range w1, i64_range w2⟩
set_option maxRecDepth 100000 in
theorem open_tops {H : Type} {enc : TypeId × Value → H} {W : World} {v : Value} {d : DataW H} {p : List MemPlace} {base : Nat}
    (hv : Value.okWide Try.prog W .any base 104 v) (h : DataW.Trod enc Try.prog W 0 (fun _ => true) true 104 v d p) :
    ∃ (a : Option Addr) (cap : Nat) (os : List TOp), v = .slice a os.length cap ∧ os.length ≤ maxLen ∧ TOpSl W a os ∧ ∀ o ∈ os, o.Fits := by
  obtain ⟨a0, len, cap, rfl⟩ := okWide_slice Try.underlying104 hv
  obtain ⟨fuel, hf⟩ := h
  obtain ⟨a, len', cap', hcs, hl, hm, _, hi⟩ := open_rows Try.underlying104 (C := 3) (by kernel_rfl) (by omega) hf
  simp [Value.cells] at hcs
  obtain ⟨rfl, rfl, rfl⟩ := hcs
  have hs : ∀ i, i < len → ∃ o : TOp, o.Fits ∧ ∃ g off, a0 = some ⟨g, off, none⟩ ∧ W.cell? ⟨g, off + i * 3, none⟩ = some (.int .i64 o.k) ∧ W.cell? ⟨g, off + i * 3 + 1, none⟩ = some (.int .i64 o.due) ∧ W.cell? ⟨g, off + i * 3 + 2, none⟩ = some (.int .i64 o.at_) := by
    intro i hil
    obtain ⟨g, off, cs', y, n, ha, hcl, hat, ht⟩ := hi i hil
    obtain ⟨o, rfl, hf⟩ := open_top_c ht
    exact ⟨o, hf, g, off, ha, hat 0 (by omega), hat 1 (by omega), hat 2 (by omega)⟩
  obtain ⟨f, hf⟩ := choose_lt (α := TOp) hs
  have hlen : ((List.range len).map f).length = len := by simp
  refine ⟨a0, cap, (List.range len).map f, by rw [hlen], by rw [hlen]; omega, ?_, ?_⟩
  · intro i s hs
    have hil : i < len := by have := (List.getElem?_eq_some_iff.1 hs).1; rwa [hlen] at this
    have : f i = s := by simpa [hil] using hs
    subst this
    exact (hf i hil).2
  · intro s hs
    obtain ⟨i, hi, rfl⟩ := List.mem_map.1 hs
    exact (hf i (List.mem_range.1 hi)).1

def topCells (os : List TOp) : List Value := os.flatMap (fun o => o.cells.toList)
theorem topCells_add (os : List TOp) (o : TOp) : topCells (os ++ [o]) = topCells os ++ o.cells.toList := by unfold topCells; simp
theorem topCells_at (os : List TOp) (i : Nat) {o : TOp} (h : os[i]? = some o) (j : Nat) (hj : j < 3) : (topCells os)[3 * i + j]? = o.cells[j]? := by
  have h1 := recs_at (C := 3) (f := fun o : TOp => o.cells.toList) (fun _ => rfl) os i h
  have h2 : ((topCells os).drop (3 * i))[j]? = o.cells.toList[j]? := by
    rw [← h1, List.getElem?_take_of_lt hj]; rfl
  rw [List.getElem?_drop] at h2
  simpa using h2
theorem info_top : (Try.prog.info? 106).map (fun i => (i.zero, i.size, i.bytes)) = some (some (.agg #[.int .i64 0, .int .i64 0, .int .i64 0]), 3, 24) := by kernel_rfl
theorem topSl_of_row {w : World} {a : Option Addr} {c : Nat} {os : List TOp} (h : w.ownsRow 0 106 3 (.slice a os.length c) os.length (topCells os)) : TOpSl w a os := by
  intro i x hi
  have hil : i < os.length := (List.getElem?_eq_some_iff.1 hi).1
  rcases h.2 with ⟨_, h2⟩ | ⟨g, cap', cur, hv, _⟩
  · omega
  · cases hv
    have hat : ∀ j, j < 3 → w.cell? ⟨g, 0 + i * 3 + j, none⟩ = x.cells[j]? := fun j hj => by
      have := World.ownsRow.cellAt h (3 * i + j) (by omega)
      rw [show 0 + i * 3 + j = 3 * i + j by omega, this]
      exact topCells_at os i hi j hj
    exact ⟨g, 0, rfl, hat 0 (by omega), hat 1 (by omega), hat 2 (by omega)⟩
abbrev topRow (v : Value) (os : List TOp) : Row := ⟨106, 3, v, os.length, topCells os⟩
abbrev intRow (v : Value) (l : List Int) : Row := ⟨3, 1, v, l.length, l.map (Value.int .i64)⟩

theorem intSl_of_row' {w : World} {a : Option Addr} {c n : Nat} {xs : List Int} (hn : xs.length = n) (h : w.ownsRow 0 3 1 (.slice a n c) xs.length (xs.map (Value.int .i64))) : IntSl w a xs := by
  subst hn; exact intSl_of_row h
/-- The calls that wait, and what waits. -/
def WsR (ws : List TOp) (W : List (Nat × Nat)) : Prop := ws.map (fun o => (o.due, o.at_)) = W.map (fun x => ((x.1 : Int), (x.2 : Int)))
theorem WsR.len {ws : List TOp} {W : List (Nat × Nat)} (h : WsR ws W) : W.length = ws.length := by
  have := congrArg List.length h; simpa using this.symm
theorem WsR.add {ws : List TOp} {W : List (Nat × Nat)} (h : WsR ws W) {o : TOp} {d a : Nat} (hd : (d : Int) = o.due) (ha : (a : Int) = o.at_) : WsR (ws ++ [o]) (W ++ [(d, a)]) := by
  unfold WsR at *; rw [List.map_append, List.map_append, h]; simp [hd, ha]
theorem WsR.filter {ws : List TOp} {W : List (Nat × Nat)} (h : WsR ws W) (p : Int → Bool) : WsR (ws.filter (fun o => p o.due)) (W.filter (fun x => p x.1)) := by
  unfold WsR at *
  have h1 : (ws.filter (fun o => p o.due)).map (fun o => (o.due, o.at_)) = (ws.map (fun o => (o.due, o.at_))).filter (fun y => p y.1) := by rw [List.filter_map]; rfl
  have h2 : (W.filter (fun x => p x.1)).map (fun x => ((x.1 : Int), (x.2 : Int))) = (W.map (fun x => ((x.1 : Int), (x.2 : Int)))).filter (fun y => p y.1) := by rw [List.filter_map]; rfl
  rw [h1, h2, h]
theorem WsR.ats {ws : List TOp} {W : List (Nat × Nat)} (h : WsR ws W) : ws.map TOp.at_ = W.map (fun x => (x.2 : Int)) := by
  have := congrArg (List.map Prod.snd) h
  unfold WsR at h
  rw [List.map_map, List.map_map] at this
  exact this
/-- Those that are due, and those left. -/
def dueW (d : Int) (ws : List TOp) : List TOp := ws.filter (fun o => o.due == d)
def restW (d : Int) (ws : List TOp) : List TOp := ws.filter (fun o => !(o.due == d))
theorem dueW_snoc (d : Int) (ws : List TOp) (o : TOp) : dueW d (ws ++ [o]) = dueW d ws ++ (if o.due = d then [o] else []) := by
  unfold dueW; rw [List.filter_append]
  by_cases h : o.due = d <;> simp [h]
theorem restW_snoc (d : Int) (ws : List TOp) (o : TOp) : restW d (ws ++ [o]) = restW d ws ++ (if o.due = d then [] else [o]) := by
  unfold restW; rw [List.filter_append]
  by_cases h : o.due = d <;> simp [h]
theorem natBeq (a : Nat) (h : Nat) : (((a : Int)) == ((h + 1 : Nat) : Int)) = (a == h + 1) := by
  rw [Bool.eq_iff_iff]; simp; omega
theorem WsR.due {ws : List TOp} {W : List (Nat × Nat)} (h : WsR ws W) (k : Nat) : WsR (dueW ((k + 1 : Nat) : Int) ws) (W.filter (fun x => x.1 == k + 1)) := by
  have := h.filter (fun d => d == ((k + 1 : Nat) : Int))
  simp only [natBeq] at this
  exact this
theorem WsR.rest {ws : List TOp} {W : List (Nat × Nat)} (h : WsR ws W) (k : Nat) : WsR (restW ((k + 1 : Nat) : Int) ws) (W.filter (fun x => !(x.1 == k + 1))) := by
  have := h.filter (fun d => !(d == ((k + 1 : Nat) : Int)))
  simp only [natBeq] at this
  exact this
/-- What Next tells, mark by mark. -/
theorem told_all {M h0 h P n : Nat} {W : List (Nat × Nat)} {Q : Nat → List WRec} (t : Tells M h0 h P n W Q) {tl : List MRec} (htl : tl.map MRec.w = toldW (h + 1) (Q ((h + 1) % 16))) {ws : List TOp} (hw : WsR ws W) :
    tl.length = ((dueW ((h + 1 : Nat) : Int) ws).map TOp.at_).length ∧ ∀ (j : Nat) (m : MRec), tl[j]? = some m → m.due = h + 1 ∧ 1 ≤ m.puts ∧ ((dueW ((h + 1 : Nat) : Int) ws).map TOp.at_)[j]? = some (m.at_ : Int) := by
  have h1 := told_marks t htl
  have h2 := (hw.due h).ats
  rw [h2, ← h1]
  refine ⟨by simp, fun j m hm => ⟨?_, ?_, by simp [hm]⟩⟩
  · have : (m.due, m.at_) ∈ W.filter (fun x => x.1 == h + 1) := by rw [← h1]; exact List.mem_map.2 ⟨m, List.mem_of_getElem? hm, rfl⟩
    simpa using (List.mem_filter.1 this).2
  · have h3 : m.w ∈ toldW (h + 1) (Q ((h + 1) % 16)) := by rw [← htl]; exact List.mem_map.2 ⟨m, List.mem_of_getElem? hm, rfl⟩
    exact (t.far _ (Nat.mod_lt _ (by omega)) _ (List.mem_filter.1 h3).1).2.1
end Go.Proofs.Ytndpmjanflahhaa
