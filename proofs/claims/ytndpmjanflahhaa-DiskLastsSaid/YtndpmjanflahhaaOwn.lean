/-
  Append to a row that a call owns: the row behind it is the elder one's block, or a new one.
-/
import Derived.Test.YtndpmjanflahhaaDk0
import Derived.OwnWalk
namespace Go.Proofs.Ytndpmjanflahhaa
open Go.RowKit

section
variable {P : Program} {w : World} {e : TypeId} {size bytes : Nat}

theorem ownBlock_slice {v : Value} {n : Nat} {xs : List Value} {s : Nat} (h : w.ownsRow 0 e s v n xs) : (v = .slice none 0 0 ∧ n = 0) ∨ ∃ g cap, v = .slice (some ⟨g, 0, none⟩) n cap ∧ v.ownBlock = some g := by
  rcases h.2 with h2 | ⟨g, cap, cur, hv, _⟩
  · exact .inl h2
  · exact .inr ⟨g, cap, hv, by rw [hv]; rfl⟩

/-- What an append leaves: the row with the new cells behind; the block is the elder one's, or new. -/
structure Appended (w : World) (e : TypeId) (size : Nat) (v : Value) (v' : Value) (w' : World) (n : Nat) (xs : List Value) : Prop where
  row : w'.ownsRow 0 e size v' n xs
  grown : w.grownBy w' v.ownBlock
  block : ∀ g, v'.ownBlock = some g → v.ownBlock = some g ∨ w.heap.size ≤ g
  some : n ≠ 0 → v' ≠ .slice none 0 0

theorem run_append_new (t ty : TypeId) (i : TypeInfo) (z : Value) (ht : P.underlying t = some (.slice e)) (hi : P.info? e = some i) (hz : i.zero = some z) (hs : i.size = size) (hy : i.bytes = bytes) (hzs : z.cells.size = size) (hpos : 0 < size)
    (v : Value) (n : Nat) (xs : List Value) (hown : w.ownsRow 0 e size v n xs) (a : Addr) (m c : Nat) (news : List Value) (hl : news.length = m * size) (hnews : ∀ j u, news[j]? = some u → w.cell? (a.add j) = some u)
    (h1 : ∀ u ∈ news, u.oneCell' = true) (hm : 0 < m) (h63 : n + m ≤ maxLen) (hb : (n + m) * bytes ≤ 140737488355328) :
    ∃ v' w', (Builtin.append_ #[t, t] ty #[v, .slice (some a) m c]).run P w = .ok v' w' ∧ Appended w e size v v' w' (n + m) (xs ++ news) := by
  subst hs; subst hy
  have hbig : ((n + m : Nat) : Int) ≤ 9223372036854775807 := by unfold maxLen at h63; omega
  have hxn : (xs ++ news).length = (n + m) * i.size := by rw [List.length_append, hown.1, hl, Nat.add_mul]
  have fresh : ∀ (old : Nat), ∃ v' w', Result.ok (Value.slice (some ⟨w.heap.size, 0, none⟩) (n + m) (grownCap w (n + m) old e)) (w.drew.alloc (.cells (xs.toArray ++ news.toArray ++ Builtin.zeroCells z.cells (grownCap w (n + m) old e - (n + m))) e)) = .ok v' w' ∧ Appended w e i.size v v' w' (n + m) (xs ++ news) := by
    intro old
    have hge := grownCap_ge w (n + m) old e
    refine ⟨_, _, rfl, ⟨hxn, .inr ⟨w.heap.size, _, _, rfl, Nat.zero_le _, heap_alloc_new w.drew _, hge, grownCap_le_maxLen w _ _ _ h63, ?_, ?_⟩⟩, ⟨rfl, rfl, rfl, by simp, fun k hk _ => heap_alloc_old w.drew _ hk⟩, fun g hg => .inr (by simp [Value.ownBlock] at hg; omega), fun _ h => by cases h⟩
    · rw [Array.size_append, Array.size_append, size_zeroCells, hzs, List.size_toArray, List.size_toArray, hown.1, hl, ← Nat.add_mul, ← Nat.add_mul]
      congr 1; omega
    · rw [← hxn, Array.toList_append, Array.toList_append]
      exact List.take_left
  rcases hown.2 with ⟨rfl, rfl⟩ | ⟨g, cap, cur, rfl, _, hg, hnc, hcm, hcs, htk⟩
  · obtain rfl : xs = [] := List.eq_nil_of_length_eq_zero (by simpa using hown.1)
    have hr := run_append_nil (P := P) w t ty e i z ht hi hz a m c news hl hnews (by omega) (by simpa using hbig) (by simp only [Nat.zero_add] at hb; omega)
    have hf := fresh 0
    simp only [Nat.zero_add, List.nil_append, Array.empty_append] at hf ⊢
    rw [hr]; exact hf
  · by_cases hroom : n + m ≤ cap
    · have hfit : n * i.size + news.length ≤ cur.size := by rw [hl, hcs, ← Nat.add_mul]; exact Nat.mul_le_mul_right _ hroom
      rw [run_append_room (P := P) w t ty e i ht hi g n cap cur hg a m c news hl hnews h1 hroom hfit]
      refine ⟨_, _, rfl, ⟨hxn, .inr ⟨g, cap, _, rfl, Nat.zero_le _, setRow_heap w g cur _ e _ hg, hroom, hcm, ?_, ?_⟩⟩, ⟨rfl, rfl, rfl, by simp [World.setRow], fun k _ hk => setRow_other w g k _ (fun q => hk (by rw [q]; rfl))⟩, fun g' hg' => .inl hg', fun _ h => by cases h⟩
      · simp only [List.size_toArray, List.length_append, List.length_take, List.length_drop, Array.length_toList]; omega
      · rw [htk, ← hxn]; exact List.take_left
    · have hold : ∀ j u, xs[j]? = some u → w.cell? ((⟨g, 0, none⟩ : Addr).add j) = some u := World.ownsRow.cells (g := g) hown rfl
      rw [run_append_grow (P := P) w t ty e i z ht hi hz ⟨g, 0, none⟩ n cap xs hown.1 hold a m c news hl hnews (by omega) hbig (growslice_fits (by omega) hb)]
      exact fresh cap
end

section
variable {P : Program} {w : World} {ops : Array Oper} {rest : List Oper} {o : Oper} {a : Act} {Q : Exit → Act → World → Prop}
theorem wpList_append_new (hg : o.guard = none) (x y : Operand) (t : TypeId) (hop : o.op = .call { callee := .builtin .append, args := #[x, y], argTypes := #[t, t] })
    (e size bytes : Nat) (i : TypeInfo) (z : Value) (ht : P.underlying t = some (.slice e)) (hi : P.info? e = some i) (hz : i.zero = some z) (hs : i.size = size) (hy : i.bytes = bytes) (hzs : z.cells.size = size) (hpos : 0 < size)
    (v : Value) (n : Nat) (xs : List Value) (hx : a.eval x = v) (hown : w.ownsRow 0 e size v n xs) (ad : Addr) (m c : Nat) (news : List Value) (hyv : a.eval y = .slice (some ad) m c)
    (hl : news.length = m * size) (hnews : ∀ j u, news[j]? = some u → w.cell? (ad.add j) = some u) (h1 : ∀ u ∈ news, u.oneCell' = true) (hm : 0 < m) (h63 : n + m ≤ maxLen) (hb : (n + m) * bytes ≤ 140737488355328)
    (hK : ∀ g cap w', Appended w e size v (.slice (some ⟨g, 0, none⟩) (n + m) cap) w' (n + m) (xs ++ news) → wpList P ops Q rest (a.put o.dst (.slice (some ⟨g, 0, none⟩) (n + m) cap)) w') : wpList P ops Q (o :: rest) a w := by
  refine wpList_plain hg fun K' hK' => ?_
  obtain ⟨v', w', hrun, r⟩ := run_append_new t o.type i z ht hi hz hs hy hzs hpos v n xs hown ad m c news hl hnews h1 hm h63 hb
  unfold Oper.wp execOp
  simp only [hop, resolve, invoke, builtin, Sem.run_bind, Sem.run_pure, Result.andThen_ok, List.map_toArray, List.map_cons, List.map_nil, hx, hyv, hrun]
  rcases ownBlock_slice r.row with ⟨hv, _⟩ | ⟨g, cap, rfl, _⟩
  · exact absurd hv (r.some (by omega))
  · exact hK' _ _ (hK g cap w' r)
end
end Go.Proofs.Ytndpmjanflahhaa
