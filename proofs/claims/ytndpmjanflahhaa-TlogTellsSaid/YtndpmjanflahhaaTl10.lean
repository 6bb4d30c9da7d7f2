/-
  THE STATEMENTS OF LAYER 16: TlogOrder, plain; a log beside a map; how slices of uint16 come in.
-/
import Derived.Test.YtndpmjanflahhaaTl8
import Derived.Test.YtndpmjanflahhaaMp0
import Derived.Test.YtndpmjanflahhaaArgRows
namespace Go.Proofs.Ytndpmjanflahhaa
open Go.ChangeShapes Go.WideShapes Go.RowKit Go.MapKept Go.Deep

def ordW (xs : List Nat) (i : Nat) : List (Nat × Nat) := (List.range i).map fun j => (1 + xs.getD j 0 % 300, j)
theorem ordW_succ (xs : List Nat) (i : Nat) {x : Nat} (hx : xs[i]? = some x) : ordW xs (i + 1) = ordW xs i ++ [(1 + x % 300, i)] := by
  unfold ordW; rw [List.range_succ, List.map_append]; simp [hx]
theorem ordW_snd (xs : List Nat) (i : Nat) : (ordW xs i).map Prod.snd = List.range i := by
  unfold ordW; rw [List.map_map]
  have : (Prod.snd ∘ fun j => (1 + xs.getD j 0 % 300, j)) = id := rfl
  rw [this, List.map_id]
theorem Tells.gt {M h0 h P n : Nat} {W : List (Nat × Nat)} {Q : Nat → List WRec} (t : Tells M h0 h P n W Q) {x : Nat × Nat} (hx : x ∈ W) : h < x.1 := by
  have h16 : x.1 % 16 < 16 := Nat.mod_lt _ (by omega)
  have : x ∈ W.filter (fun y => y.1 % 16 == x.1 % 16) := List.mem_filter.2 ⟨hx, by simp⟩
  rw [← t.q _ h16] at this
  obtain ⟨r, hr, he⟩ := List.mem_map.1 this
  have h2 := (t.far _ h16 r hr).1
  rw [← he]; exact h2
/-- Told, and those that wait: each once. -/
def OrdI (n : Nat) (W : List (Nat × Nat)) (seen : List Nat) : Prop := (seen ++ W.map Prod.snd).Perm (List.range n)
theorem OrdI.next {n : Nat} {W : List (Nat × Nat)} {seen : List Nat} (h : OrdI n W seen) (p : Nat × Nat → Bool) : OrdI n (W.filter (fun x => !p x)) (seen ++ (W.filter p).map Prod.snd) := by
  unfold OrdI at *
  rw [List.append_assoc, ← List.map_append]
  exact (((List.filter_append_perm p W).map Prod.snd).append_left seen).trans h
theorem OrdI.fresh {n : Nat} {W : List (Nat × Nat)} {seen : List Nat} (h : OrdI n W seen) (p : Nat × Nat → Bool) {j : Nat} {x : Nat × Nat} (hx : (W.filter p)[j]? = some x) : x.2 ∉ seen ++ ((W.filter p).take j).map Prod.snd := by
  have h1 := (h.next p)
  unfold OrdI at h1
  have h2 : ((seen ++ (W.filter p).map Prod.snd) ++ (W.filter (fun x => !p x)).map Prod.snd).Nodup := h1.nodup_iff.2 List.nodup_range
  have h3 : (seen ++ (W.filter p).map Prod.snd).Nodup := (List.nodup_append.1 h2).1
  have h4 : ((seen ++ ((W.filter p).take j).map Prod.snd) ++ [x.2]).Sublist (seen ++ (W.filter p).map Prod.snd) := by
    rw [List.append_assoc]
    refine (List.Sublist.refl _).append ?_
    have : ((W.filter p).take j).map Prod.snd ++ [x.2] = ((W.filter p).take (j + 1)).map Prod.snd := by rw [List.take_add_one, hx]; simp
    rw [this]
    exact (List.take_sublist _ _).map _
  have h5 := h4.nodup h3
  intro hm
  exact (List.nodup_append.1 h5).2.2 _ hm _ (List.mem_singleton.2 rfl) rfl
theorem OrdI.len {n : Nat} {seen : List Nat} (h : OrdI n [] seen) : seen.length = n := by
  have := h.length_eq; simpa using this
/-- What is told, by its marks. -/
theorem told_marks {M h0 h P n : Nat} {W : List (Nat × Nat)} {Q : Nat → List WRec} (t : Tells M h0 h P n W Q) {tl : List MRec} (htl : tl.map MRec.w = toldW (h + 1) (Q ((h + 1) % 16))) : tl.map (fun m => (m.due, m.at_)) = W.filter (fun x => x.1 == h + 1) := by
  rw [← t.told, ← htl, List.map_map]; rfl

section
variable {C : Nat} {w0 w w' : World} {lb wb b h n u : Nat} {Q : Nat → List WRec} {R : List Row} {O : Nat → Option Obj}
theorem LogX.grown (hl : LogX C w0 lb wb b h n Q u R O w) {m : Nat} {o o' : Obj} (ho : O m = some o) (hm : w0.heap.size ≤ m) (hg : w.grownBy w' (some m)) (ho' : w'.heap[m]? = some o') : LogX C w0 lb wb b h n Q u R (OAnd O m o') w' := by
  obtain ⟨D, ms, v, h1, h2, h3⟩ := hl; exact ⟨D, ms, v, h1, h2, h3.grown (kind_log _ _ _ _ _ _) ho hm hg ho'⟩
theorem LogX.made (hl : LogX C w0 lb wb b h n Q u R (fun _ => none) w) : LogX C w0 lb wb b h n Q u R (OAnd (fun _ => none) w.heap.size (.map #[] 0)) (w.alloc (.map #[] 0)) := by
  obtain ⟨D, ms, v, h1, h2, h3⟩ := hl
  exact ⟨D, ms, v, h1, h2, h3.more (kind_log _ _ _ _ _ _) ((Below.refl _ w).alloc (Nat.le_refl _) _) _ (fun k o ho => by
    by_cases hk : k = w.heap.size
    · subst hk; rw [OAnd.at] at ho; cases ho; exact .inr ⟨Nat.le_refl _, heap_alloc_new w _⟩
    · rw [OAnd.ne hk] at ho; cases ho)⟩
/-- The hand, as it stands in memory. -/
def handAt (wb : Nat) (w : World) : Nat := match w.cell? ⟨wb, 1, none⟩ with | some (.int _ i) => i.toNat | _ => 0
theorem LogX.handAt (hl : LogX C w0 lb wb b h n Q u R O w) : handAt wb w = h := by
  obtain ⟨D, ms, v, h1, h2, h3⟩ := hl
  obtain ⟨F, hw, _, _⟩ := LX.wheel h3.ox
  have : w.cell? ⟨wb, 1, none⟩ = some (.int .i64 h) := hw.head.cell 1
  unfold Proofs.Ytndpmjanflahhaa.handAt
  rw [this]; rfl
end

/-- A slice of numbers of two bytes. -/
def U16Sl (w : World) (a : Option Addr) (xs : List Nat) : Prop :=
  ∀ (i x : Nat), xs[i]? = some x → x < 65536 ∧ ∃ b off, a = some ⟨b, off, none⟩ ∧ w.cell? ⟨b, off + i, none⟩ = some (.int .u16 x)
set_option maxRecDepth 100000 in
theorem open_u16s {H : Type} {enc : TypeId × Value → H} {W : World} {v : Value} {d : DataW H} {p : List MemPlace} {base : Nat}
    (hv : Value.okWide Try.prog W .any base 109 v) (h : DataW.Trod enc Try.prog W 0 (fun _ => true) true 109 v d p) :
    ∃ (a : Option Addr) (cap : Nat) (xs : List Nat), v = .slice a xs.length cap ∧ xs.length ≤ maxLen ∧ U16Sl W a xs := by
  obtain ⟨a0, len, cap, rfl⟩ := okWide_slice Try.underlying109 hv
  obtain ⟨fuel, hf⟩ := h
  obtain ⟨a, len', cap', hcs, hl, hm, _, hi⟩ := open_rows Try.underlying109 (C := 1) (by kernel_rfl) (by omega) hf
  simp [Value.cells] at hcs
  obtain ⟨rfl, rfl, rfl⟩ := hcs
  have hs : ∀ i, i < len → ∃ x : Nat, x < 65536 ∧ ∃ g off, a0 = some ⟨g, off, none⟩ ∧ W.cell? ⟨g, off + i, none⟩ = some (.int .u16 x) := by
    intro i hil
    obtain ⟨g, off, cs', y, n, ha, hcl, hat, ht⟩ := hi i hil
    obtain ⟨z, rfl, _, hz⟩ := DataW.trod_int Try.underlying52 ht
    obtain ⟨x, rfl, hx⟩ := u16_range hz
    refine ⟨x, hx, g, off, ha, ?_⟩
    have := hat 0 (by omega)
    simpa using this
  obtain ⟨f, hf⟩ := choose_lt (α := Nat) hs
  have hlen : ((List.range len).map f).length = len := by simp
  refine ⟨a0, cap, (List.range len).map f, by rw [hlen], by rw [hlen]; omega, ?_⟩
  intro i s hs
  have hil : i < len := by have := (List.getElem?_eq_some_iff.1 hs).1; rwa [hlen] at this
  have : f i = s := by simpa [hil] using hs
  subst this
  exact hf i hil
end Go.Proofs.Ytndpmjanflahhaa
