/-
  The files' map, stored into and deleted from, at the machine's operations; disk.Create.
-/
import Derived.Test.YtndpmjanflahhaaDk2
import Derived.Maps.OwnSet
namespace Go.Proofs.Ytndpmjanflahhaa
open Go.RowKit Go.MapKept

theorem heap_put {w : World} {r : Nat} {o o' : Obj} (hb : w.heap[r]? = some o) : w.grownBy { w with heap := w.heap.setIfInBounds r o' } (some r) :=
  ⟨rfl, rfl, rfl, by simp, fun k _ hne => (heap_set hb).2 k (fun e => hne (by rw [e]))⟩

theorem keys_of_map {es : Array MapEntry} {l : List (Value × Value)} (he : es.toList.map (fun e => (e.key, e.val)) = l) {P : Value → Prop} (h : ∀ p ∈ l, P p.1) : ∀ x ∈ es.toList, P x.key := by
  intro x hx
  exact h (x.key, x.val) (by rw [← he]; exact List.mem_map.2 ⟨x, hx, rfl⟩)

set_option maxRecDepth 100000 in
theorem run_put {w : World} {m : Nat} {l : List (Value × Value)} (h : IsMap w m l) (n : ByteArray) (v : Value) (hk : ∀ p ∈ l, IsKey .string p.1) (hn : ∀ p ∈ l, p.1 ≠ .string n) :
    ∃ w', (Instr.mapUpdate 117 (.map (some m)) (.string n) v).run Try.prog w = .ok () w' ∧ IsMap w' m (l ++ [(.string n, v)]) ∧ w.grownBy w' (some m) := by
  obtain ⟨es, clock, hb, hs, he⟩ := h
  have hm := Try.underlying117
  have hd := Try.underlying9
  have hkey : IsKey .string (.string n) := trivial
  rcases findNow_spec hkey es.toList 0 (keys_of_map he hk) with ⟨h1, h2⟩ | ⟨j, e, h1, h2, h3⟩
  · refine ⟨{ w with heap := w.heap.setIfInBounds m (.map (es.push { key := .string n, val := v, born := clock }) (clock + 1)) }, ?_, ⟨_, _, (heap_set hb).1, stamped_push hs h2, ?_⟩, heap_put hb⟩
    · simp [Instr.mapUpdate, run_underlying hm, MapKept.run_getObj_map hb, run_checkKey hd hkey, run_findKey hd h1, MapKept.run_setObj_map _ hb, Result.andThen]
    · simp [he]
  · exact absurd h3 (keys_of_map (P := fun k => k ≠ .string n) he hn e (List.mem_of_getElem? h2))

theorem wpList_put {w : World} {ops : Array Oper} {rest : List Oper} {o : Oper} {a : Act} {Q : Exit → Act → World → Prop}
    (hg : o.guard = none) (mo x v : Operand) (hop : o.op = Op.mapUpdate 117 mo x v) (m : Nat) (n : ByteArray) (val : Value) (l : List (Value × Value))
    (hm : a.eval mo = .map (some m)) (hx : a.eval x = .string n) (hv : a.eval v = val) (h : IsMap w m l) (hk : ∀ p ∈ l, IsKey .string p.1) (hn : ∀ p ∈ l, p.1 ≠ .string n)
    (hK : ∀ w', IsMap w' m (l ++ [(.string n, val)]) → w.grownBy w' (some m) → wpList Try.prog ops Q rest (a.put o.dst undef) w') :
    wpList Try.prog ops Q (o :: rest) a w := by
  refine wpList_plain hg fun K' hK' => ?_
  obtain ⟨w', hrun, r1, r2⟩ := run_put h n val hk hn
  unfold Oper.wp
  simp [execOp, hop, hm, hx, hv, hrun, Result.andThen]
  exact hK' _ _ (hK w' r1 r2)

theorem entry_keys (l : List FileA) : ∀ p ∈ l.map FileA.entry, IsKey .string p.1 := by
  intro p hp; obtain ⟨f, _, rfl⟩ := List.mem_map.1 hp; trivial
theorem entry_new {l : List FileA} {n : ByteArray} (h : findF l n = none) : ∀ p ∈ l.map FileA.entry, p.1 ≠ .string n := by
  intro p hp; obtain ⟨f, hf, rfl⟩ := List.mem_map.1 hp
  intro e
  have : f.name = n := by unfold FileA.entry at e; injection e
  exact findF_none h f hf this

def DiskA.addFile (D : DiskA) (n : ByteArray) (id : Nat) : DiskA := { D with files := D.files ++ [⟨n, id, ByteArray.empty, ByteArray.empty⟩] }
/-- What Create tells, and leaves: 'id': a new file's block. -/
def DiskA.create (D : DiskA) (n : ByteArray) (id : Nat) : Int × DiskA :=
  if D.down then (8, D) else if (findF D.files n).isSome then (10, D) else if D.burn.1 then (0, D.burn.2.addFile n id) else (8, D.burn.2)

theorem burn_files (D : DiskA) : D.burn.2.files = D.files ∧ D.burn.2.waits = D.waits ∧ D.burn.2.cap = D.cap := by
  unfold DiskA.burn; split
  · exact ⟨rfl, rfl, rfl⟩
  · split <;> exact ⟨rfl, rfl, rfl⟩

theorem nodup_snoc {α : Type} {l : List α} {a : α} (h : l.Nodup) (ha : ∀ x ∈ l, x ≠ a) : (l ++ [a]).Nodup := by
  rw [List.nodup_append]
  exact ⟨h, by simp, fun x hx y hy => by simp at hy; subst hy; exact ha x hx⟩

theorem DiskA.Ok.addFile {D : DiskA} (h : D.Ok) {n : ByteArray} {id : Nat} (hf : findF D.files n = none) (hid : ∀ f ∈ D.files, f.id ≠ id) (hn : n.size ≤ 140737488351232) (hfl : D.files.length < 4294967296) : (D.addFile n id).Ok := by
  refine ⟨?_, ?_, h.left, h.cap, ?_, ?_, ?_, ?_⟩
  · show ((D.files ++ _).map _).Nodup
    rw [List.map_append]
    exact nodup_snoc h.names (fun x hx => by obtain ⟨f, hf', rfl⟩ := List.mem_map.1 hx; exact findF_none hf f hf')
  · show ((D.files ++ _).map _).Nodup
    rw [List.map_append]
    exact nodup_snoc h.ids (fun x hx => by obtain ⟨f, hf', rfl⟩ := List.mem_map.1 hx; exact hid f hf')
  · show ((D.files ++ _).map _).sum ≤ D.cap
    rw [List.map_append, List.sum_append]
    have := h.size
    simpa using this
  · intro f hf'
    rcases List.mem_append.1 hf' with h1 | h1
    · exact h.nameLen f h1
    · simp at h1; subst h1; exact hn
  · show (D.files ++ _).length ≤ _
    rw [List.length_append]; simp; omega
  · intro x hx
    obtain ⟨f, hf', e⟩ := h.waits x hx
    exact ⟨f, List.mem_append.2 (.inl hf'), e⟩

theorem owns_kept {w w' : World} {e : TypeId} {size : Nat} {v : Value} {n : Nat} {xs : List Value} (h : w.ownsRow 0 e size v n xs) (hk : ∀ g, v.ownBlock = some g → w'.heap[g]? = w.heap[g]?) : w'.ownsRow 0 e size v n xs := by
  obtain ⟨h1, h2⟩ := h
  refine ⟨h1, ?_⟩
  rcases h2 with h2 | ⟨g, cap, cur, hv, hg, hh, r⟩
  · exact Or.inl h2
  · refine Or.inr ⟨g, cap, cur, hv, hg, ?_, r⟩
    rw [hk g (by rw [hv]; rfl)]; exact hh

theorem add_file {b : Nat} {D : DiskA} {F : Nat → Prop} {w1 w2 : World} (hd : IsDisk w1 b D F) {m : Nat} {v : Value} (hb : Blk w1 b #[.int .i64 D.left, .bool D.down, .map (some m), v, .int .i64 D.cap] 120)
    (hm : IsMap w1 m (D.files.map FileA.entry)) (hr : w1.ownsRow 0 127 3 v D.waits.length (waitCells D.waits)) (fm : F m) (fg : ∀ g, v.ownBlock = some g → F g) {n : ByteArray}
    (hm2 : IsMap w2 m (D.files.map FileA.entry ++ [(.string n, .pointer (some ⟨w1.heap.size, 0, none⟩))])) (hg2 : (w1.alloc (.cells #[.string ByteArray.empty, .string ByteArray.empty] 124)).grownBy w2 (some m))
    (hf : findF D.files n = none) (hn : n.size ≤ 140737488351232) (hfl : D.files.length < 4294967296) :
    IsDisk w2 b (D.addFile n w1.heap.size) (fun k => F k ∨ k = w1.heap.size) ∧ Step F w1 (fun k => F k ∨ k = w1.heap.size) w2 := by
  have hid : ∀ f ∈ D.files, f.id ≠ w1.heap.size := fun f hf' e => by have := (hd.files f hf').2.lt; omega
  have hsz : (w1.alloc (.cells #[.string ByteArray.empty, .string ByteArray.empty] 124)).heap.size = w1.heap.size + 1 := by simp
  have keep : ∀ k, k < w1.heap.size → k ≠ m → w2.heap[k]? = w1.heap[k]? := fun k hk hne =>
    (hg2.block k (by omega) (fun e => hne (by injection e))).trans (heap_alloc_old w1 _ hk)
  have hbm : b ≠ m := by
    rintro rfl
    obtain ⟨es, c, h1, _⟩ := hm
    unfold Blk at hb; rw [h1] at hb; cases hb
  have blkm : ∀ k c T, Blk w1 k c T → k ≠ m := by
    rintro k c T hk rfl
    obtain ⟨es, c, h1, _⟩ := hm
    unfold Blk at hk; rw [h1] at hk; cases hk
  refine ⟨⟨hd.ok.addFile hf hid hn hfl, ⟨m, v, hb.at (keep b hb.lt hbm), ?_, ?_, .inl fm, fun g hg => .inl (fg g hg)⟩, .inl hd.own, ?_⟩, ?_⟩
  · show IsMap w2 m ((D.files ++ _).map FileA.entry)
    rw [List.map_append]; exact hm2
  · refine owns_kept hr (fun g hg => keep g ?_ ?_)
    · exact (World.ownsRow.lt hr g hg).2
    · obtain ⟨_, h2⟩ := hr
      rcases h2 with ⟨h2, _⟩ | ⟨g', cap, cur, hv, _, hh, _⟩
      · rw [h2] at hg; cases hg
      · rw [hv] at hg; injection hg with hg; subst hg
        rintro rfl
        obtain ⟨es, c, h1, _⟩ := hm
        rw [h1] at hh; cases hh
  · intro f hf'
    rcases List.mem_append.1 hf' with h1 | h1
    · exact ⟨.inl (hd.files f h1).1, (hd.files f h1).2.at (keep f.id (hd.files f h1).2.lt (blkm _ _ _ (hd.files f h1).2))⟩
    · simp at h1; subst h1
      refine ⟨.inr rfl, ?_⟩
      show Blk w2 w1.heap.size #[.string ByteArray.empty, .string ByteArray.empty] 124
      have hne : w1.heap.size ≠ m := by have := hm.lt; omega
      exact (Blk.new w1 _ _).at (hg2.block _ (by omega) (fun e => hne (by injection e)))
  · refine ⟨hg2.os, hg2.tape, hg2.output, by have := hg2.size; omega, ?_, ?_⟩
    · intro k hk hnf
      exact keep k hk (by rintro rfl; exact hnf fm)
    · rintro k (h1 | h1)
      · exact .inl h1
      · exact .inr (by omega)

set_option maxHeartbeats 1000000 in
theorem Create_any (b : Nat) (D : DiskA) (F : Nat → Prop) (w : World) (h : IsDisk w b D F) (n : ByteArray) (hn : n.size ≤ 140737488351232) (hfl : D.files.length < 4294967296) :
    Calls Try.prog 41 #[ptr b, .string n] w fun e w' => ∃ id F', e = .returned (errn (D.create n id).1) ∧ IsDisk w' b (D.create n id).2 F' ∧ Step F w F' w' ∧ (∀ f ∈ D.files, f.id ≠ id) := by
  obtain ⟨m, v, hb, hm, hrow, fm, fg⟩ := h.head
  have c2 : w.cell? ⟨b, 2, none⟩ = some (.map (some m)) := hb.cell 2
  have hlk := run_look h.ok.names hm n
  have cb := bars_any b D F w h none 0 [] (by simp) (fun i s hi => by simp at hi)
  have cd := done_any b D F w h
  have hcr : ∀ id, D.create n id = if D.down then (8, D) else if (findF D.files n).isSome then (10, D) else if D.burn.1 then (0, D.burn.2.addFile n id) else (8, D.burn.2) := fun _ => rfl
  have hcr' := Lib.hid hcr
  have hbars : D.bars [] = if D.down then 8 else 0 := rfl
  rw [hbars] at cb
  clear hcr hbars
  have hsz : ∃ id, ∀ f ∈ D.files, f.id ≠ id := ⟨w.heap.size, fun f hf e => by have := (h.files f hf).2.lt; omega⟩
  obtain ⟨id0, hid0⟩ := hsz
  cases hdn : D.down
  case true =>
    rw [hdn] at cb
    have hr : ∀ id, Hid (D.create n id = (8, D)) := fun id => by show _ = _; rw [hcr'.out, hdn]; rfl
    clear hdn hlk cd
    unfold ptr errn at *
    go_enter Try.func41, Try.ntmps41
    go_wp2_with (go_at_call 84; refine cb.mono ?_; rintro e w' ⟨rfl, rfl⟩)
    go_ret
    exact ⟨id0, F, by rw [(hr id0).out]; rfl, by rw [(hr id0).out]; exact h, Step.refl _ _, hid0⟩
  case false =>
    rw [hdn] at cb
    simp only [Bool.false_eq_true, if_false] at cb
    cases hf : findF D.files n with
    | some f =>
      have hr : ∀ id, Hid (D.create n id = (10, D)) := fun id => by show _ = _; rw [hcr'.out, hdn, hf]; rfl
      unfold lookV at hlk
      rw [hf] at hlk
      dsimp only at hlk
      clear hdn hf cd
      unfold ptr errn at *
      go_enter Try.func41, Try.ntmps41
      go_wp2_with (go_at_call 84; refine cb.mono ?_; rintro e w' ⟨rfl, rfl⟩)
      go_ret
      exact ⟨id0, F, by rw [(hr id0).out]; rfl, by rw [(hr id0).out]; exact h, Step.refl _ _, hid0⟩
    | none =>
      unfold lookV at hlk
      rw [hf] at hlk
      dsimp only at hlk
      cases hp : D.burn.1
      · rw [hp] at cd
        have hr : ∀ id, Hid (D.create n id = (8, D.burn.2)) := fun id => by show _ = _; rw [hcr'.out, hdn, hf, hp]; rfl
        clear hdn hf hp
        unfold ptr errn at *
        go_enter Try.func41, Try.ntmps41
        go_wp2_with (first
          | (go_at_call 84; refine cb.mono ?_; rintro e w' ⟨rfl, rfl⟩)
          | (go_at_call 85; refine cd.mono ?_; rintro e w1 ⟨rfl, hd1, hs1⟩))
        go_ret
        exact ⟨id0, F, by rw [(hr id0).out]; rfl, by rw [(hr id0).out]; exact hd1, hs1, hid0⟩
      · rw [hp] at cd
        have hr : ∀ id, Hid (D.create n id = (0, D.burn.2.addFile n id)) := fun id => by show _ = _; rw [hcr'.out, hdn, hf, hp]; rfl
        have hbf := burn_files D
        have hf' : Hid (findF D.burn.2.files n = none) := by show _ = _; rw [hbf.1]; exact hf
        clear hdn hf hp
        unfold ptr errn at *
        go_enter Try.func41, Try.ntmps41
        go_wp2_with (first
          | (go_at_call 84; refine cb.mono ?_; rintro e w' ⟨rfl, rfl⟩)
          | (go_at_call 85; refine cd.mono ?_; rintro e w1 ⟨rfl, hd1, hs1⟩; obtain ⟨m1, v1, hb1, hm1, hr1, fm1, fg1⟩ := hd1.head; have c21 : w1.cell? ⟨b, 2, none⟩ = some (.map (some m1)) := hb1.cell 2)
          | (at_mapUpdate; refine wpList_put rfl _ _ _ rfl m1 n _ (D.burn.2.files.map FileA.entry) rfl rfl rfl (hm1.at (heap_alloc_old _ _ hm1.lt)) (entry_keys _) (entry_new hf'.out) ?_; intro w2 hm2 hg2))
        go_ret
        obtain ⟨hd2, hs2⟩ := add_file hd1 hb1 hm1 hr1 fm1 fg1 hm2 hg2 hf'.out hn (by rw [hbf.1]; exact hfl)
        exact ⟨w1.heap.size, _, by rw [(hr _).out]; rfl, by rw [(hr _).out]; exact hd2, hs1.trans hs2, fun f hfm e => by have := (hd1.files f (by rw [hbf.1]; exact hfm)).2.lt; omega⟩
end Go.Proofs.Ytndpmjanflahhaa
