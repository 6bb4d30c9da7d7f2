/-
  SETS OF NUMBERS, as maps from int to bool; an object beside which a map is stored into.
-/
import Derived.Test.YtndpmjanflahhaaOv1
namespace Go.Proofs.Ytndpmjanflahhaa
open Go.RowKit Go.MapKept

def setE (n : Int) : Value × Value := (.int .i64 n, .bool true)
/-- Block m is a set of these numbers. -/
def IsSet (w : World) (m : Nat) (l : List Int) : Prop := IsMap w m (l.map setE)
theorem set_keys {es : Array MapEntry} {l : List Int} (he : es.toList.map (fun e => (e.key, e.val)) = l.map setE) : ∀ x ∈ es.toList, ∃ n ∈ l, x.key = .int .i64 n ∧ x.val = .bool true := by
  intro x hx
  have : (x.key, x.val) ∈ l.map setE := by rw [← he]; exact List.mem_map.2 ⟨x, hx, rfl⟩
  obtain ⟨n, hn, e⟩ := List.mem_map.1 this
  unfold setE at e
  simp only [Prod.mk.injEq] at e
  exact ⟨n, hn, e.1.symm, e.2.symm⟩
theorem zero_bool (w : World) : (zeroValue 4).run Try.prog w = .ok (.bool false) w := by kernel_rfl
set_option maxRecDepth 100000 in
theorem run_lookI {w : World} {m : Nat} {l : List Int} (h : IsSet w m l) (n : Int) :
    (Instr.lookup 92 (.map (some m)) (.int .i64 n) false).run Try.prog w = .ok (.bool (decide (n ∈ l))) w := by
  obtain ⟨es, clock, hb, hs, he⟩ := h
  have hm := Try.underlying92
  have hd := Try.underlying3
  have hk : IsKey (.int .i64) (.int .i64 n) := rfl
  have hkeys : ∀ x ∈ es.toList, IsKey (.int .i64) x.key := fun x hx => by
    obtain ⟨q, _, e, _⟩ := set_keys he x hx
    rw [e]; rfl
  rcases findNow_spec hk es.toList 0 hkeys with ⟨h1, h2⟩ | ⟨j, e, h1, h2, h3⟩
  · have hn : ¬ n ∈ l := fun hn => by
      have : setE n ∈ es.toList.map (fun e => (e.key, e.val)) := by rw [he]; exact List.mem_map.2 ⟨n, hn, rfl⟩
      obtain ⟨x, hx, hxe⟩ := List.mem_map.1 this
      unfold setE at hxe
      simp only [Prod.mk.injEq] at hxe
      exact h2 x hx hxe.1
    rw [decide_eq_false hn]
    simp [Instr.lookup, run_underlying hm, MapKept.run_getObj_map hb, run_checkKey hd hk, run_findKey hd h1, zero_bool, Result.andThen]
  · obtain ⟨q, hq, e1, e2⟩ := set_keys he e (List.mem_of_getElem? h2)
    rw [h3] at e1
    injection e1 with _ e1
    subst e1
    rw [decide_eq_true hq]
    simp [Instr.lookup, run_underlying hm, MapKept.run_getObj_map hb, run_checkKey hd hk, run_findKey hd h1, e2, Result.andThen]
set_option maxRecDepth 100000 in
theorem run_putI {w : World} {m : Nat} {l : List Int} (h : IsSet w m l) (n : Int) (hn : n ∉ l) :
    ∃ w', (Instr.mapUpdate 92 (.map (some m)) (.int .i64 n) (.bool true)).run Try.prog w = .ok () w' ∧ IsSet w' m (l ++ [n]) ∧ w.grownBy w' (some m) := by
  obtain ⟨es, clock, hb, hs, he⟩ := h
  have hm := Try.underlying92
  have hd := Try.underlying3
  have hk : IsKey (.int .i64) (.int .i64 n) := rfl
  have hkeys : ∀ x ∈ es.toList, IsKey (.int .i64) x.key := fun x hx => by
    obtain ⟨q, _, e, _⟩ := set_keys he x hx
    rw [e]; rfl
  rcases findNow_spec hk es.toList 0 hkeys with ⟨h1, h2⟩ | ⟨j, e, h1, h2, h3⟩
  · refine ⟨{ w with heap := w.heap.setIfInBounds m (.map (es.push { key := .int .i64 n, val := .bool true, born := clock }) (clock + 1)) }, ?_, ⟨_, _, (heap_set hb).1, stamped_push hs h2, ?_⟩, heap_put hb⟩
    · simp [Instr.mapUpdate, run_underlying hm, MapKept.run_getObj_map hb, run_checkKey hd hk, run_findKey hd h1, MapKept.run_setObj_map _ hb, Result.andThen]
    · simp [he, setE]
  · obtain ⟨q, hq, e1, e2⟩ := set_keys he e (List.mem_of_getElem? h2)
    rw [h3] at e1
    injection e1 with _ e1
    subst e1
    exact absurd hq hn
set_option maxRecDepth 100000 in
theorem run_lenI {w : World} {m : Nat} {l : List Int} (h : IsSet w m l) : (Builtin.len_ #[92] 3 #[.map (some m)]).run Try.prog w = .ok (.int .i64 (l.length : Nat)) w := by
  obtain ⟨es, clock, hb, hs, he⟩ := h
  have hm := Try.underlying92
  have hl : es.size = l.length := by
    have := congrArg List.length he
    simpa using this
  rw [← hl]
  simp [Builtin.len_, run_underlying hm, MapKept.run_getObj_map hb, Result.andThen, goInt]
theorem wpList_putI {w : World} {ops : Array Oper} {rest : List Oper} {o : Oper} {a : Act} {Q : Exit → Act → World → Prop}
    (hg : o.guard = none) (mo x v : Operand) (hop : o.op = Op.mapUpdate 92 mo x v) (m : Nat) (n : Int) (l : List Int)
    (hm : a.eval mo = .map (some m)) (hx : a.eval x = .int .i64 n) (hv : a.eval v = .bool true) (h : IsSet w m l) (hn : n ∉ l)
    (hK : ∀ w', IsSet w' m (l ++ [n]) → w.grownBy w' (some m) → wpList Try.prog ops Q rest (a.put o.dst undef) w') :
    wpList Try.prog ops Q (o :: rest) a w := by
  refine wpList_plain hg fun K' hK' => ?_
  obtain ⟨w', hrun, r1, r2⟩ := run_putI h n hn
  unfold Oper.wp
  simp [execOp, hop, hm, hx, hv, hrun, Result.andThen]
  exact hK' _ _ (hK w' r1 r2)
theorem IsSet.lt {w : World} {m : Nat} {l : List Int} (h : IsSet w m l) : m < w.heap.size := IsMap.lt h
theorem IsSet.at {w w' : World} {m : Nat} {l : List Int} (h : IsSet w m l) (e : w'.heap[m]? = w.heap[m]?) : IsSet w' m l := IsMap.at h e
theorem IsSet.new (w : World) : IsSet (w.alloc (.map #[] 0)) w.heap.size [] := ⟨#[], 0, heap_alloc_new w _, stamped_empty 0, rfl⟩
theorem IsSet.obj {w : World} {m : Nat} {l : List Int} (h : IsSet w m l) : ∃ es c, w.heap[m]? = some (.map es c) := by
  obtain ⟨es, c, h, _⟩ := h; exact ⟨es, c, h⟩
/-- A map is no row. -/
theorem IsSet.ne {w : World} {m : Nat} {l : List Int} (h : IsSet w m l) {g i : Nat} {v : Value} (hc : w.cell? ⟨g, i, none⟩ = some v) : g ≠ m := by
  rintro rfl
  obtain ⟨es, c, hm⟩ := h.obj
  simp [World.cell?, hm] at hc
theorem IntSl.grown {w w' : World} {a : Option Addr} {xs : List Int} (h : IntSl w a xs) {m : Nat} {l : List Int} (hs : IsSet w m l) (hg : w.grownBy w' (some m)) : IntSl w' a xs := by
  intro i s hi
  obtain ⟨g, off, ha, hc⟩ := h i s hi
  have hlt : g < w.heap.size := World.block_lt_of_cell? _ _ hc
  exact ⟨g, off, ha, (World.cell?_of_block (a := ⟨g, off + i, none⟩) (hg.block g hlt (fun e => hs.ne hc (by injection e)))).trans hc⟩

section
variable {P : World → (Nat → Prop) → Prop} {w0 w w' : World} {O : Nat → Option Obj} {R : List Row}
/-- A block beside it has turned. -/
theorem RX.grown (hP : Kind1 P) (h : RX P w0 R O w) {m : Nat} {o o' : Obj} (ho : O m = some o) (hm : w0.heap.size ≤ m) (hg : w.grownBy w' (some m)) (ho' : w'.heap[m]? = some o') : RX P w0 R (OAnd O m o') w' := by
  obtain ⟨F, h1, h2, h3, h4⟩ := h.ox
  have hmr : ∀ r ∈ R, r.v.ownBlock ≠ some m := fun r hr => h.sep r hr m o ho
  have hmF : ¬ F m := (h3 m o (by rw [rowsO_ne hmr]; exact ho)).2
  have hk : ∀ k, k < w.heap.size → k ≠ m → w'.heap[k]? = w.heap[k]? := fun k hl hne => hg.block k hl (fun e => hne (by injection e))
  have hrk : ∀ r ∈ R, ∀ g, r.v.ownBlock = some g → w'.heap[g]? = w.heap[g]? := fun r hr g hgo => hk g (h.lt hr g hgo) (fun e => hmr r hr (by rw [← e]; exact hgo))
  refine ⟨⟨F, hP.kept h1 (fun k hf hl => hk k hl (fun e => hmF (by rw [← e]; exact hf))), h2, fun k x hx => ?_, h4.grown hg h4.size (fun k e => by injection e with e; omega)⟩, fun r hr => owns_kept (h.row r hr) (hrk r hr), h.base, fun r hr k x hx => ?_, h.dis⟩
  · rcases rowsO_cases (R := R) k with ⟨r, hr, e⟩ | e
    · rw [rowsO_own hr e] at hx
      refine ⟨hx, ?_⟩
      have := h.own hr e
      exact (h3 k _ this).2
    · rw [rowsO_ne e] at hx
      by_cases hkm : k = m
      · subst hkm
        rw [OAnd.at] at hx
        cases hx
        exact ⟨ho', hmF⟩
      · rw [OAnd.ne hkm] at hx
        have h5 := h3 k x (by rw [rowsO_ne e]; exact hx)
        exact ⟨(hk k (Array.getElem?_eq_some_iff.1 h5.1).1 hkm).trans h5.1, h5.2⟩
  · by_cases hkm : k = m
    · subst hkm; exact hmr r hr
    · rw [OAnd.ne hkm] at hx; exact h.sep r hr k x hx
end
end Go.Proofs.Ytndpmjanflahhaa
