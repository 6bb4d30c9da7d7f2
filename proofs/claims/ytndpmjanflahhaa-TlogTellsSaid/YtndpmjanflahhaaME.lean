/-
  Dk20, Dk21, Dk22, Dk23, Dk24, Dk25, Dk26, Dk27, Dk28, OrdZ, one behind the other.
-/
import Derived.Test.YtndpmjanflahhaaMD
import Derived.OrdersHeld
import Derived.Deep.RegionHeld
/-
  disk.Sync.
-/
namespace Go.Proofs.Ytndpmjanflahhaa
open Go.RowKit Go.MapKept

def DiskA.sync (D : DiskA) (ss : List ByteArray) : Int × DiskA :=
  if D.bars ss ≠ 0 then (D.bars ss, D) else if D.burn.1 then (0, D.burn.2.lasts ss) else (8, D.burn.2)

theorem bars_zero {D : DiskA} {ss : List ByteArray} (h : D.bars ss = 0) : D.down = false ∧ ∀ s ∈ ss, (findF D.files s).isSome = true := by
  unfold DiskA.bars at h
  cases hd : D.down
  · rw [hd] at h
    refine ⟨rfl, ?_⟩
    simp only [if_neg (show ¬ (false = true) by decide)] at h
    split at h
    · rename_i h1; exact fun s hs => List.all_eq_true.1 h1 s hs
    · cases h
  · rw [hd] at h; simp at h
theorem bars_range (D : DiskA) (ss : List ByteArray) : D.bars ss = 0 ∨ D.bars ss = 8 ∨ D.bars ss = 9 := by
  unfold DiskA.bars
  split
  · exact .inr (.inl rfl)
  · split
    · exact .inl rfl
    · exact .inr (.inr rfl)

set_option maxHeartbeats 1000000 in
theorem Sync_any (b : Nat) (D : DiskA) (F : Nat → Prop) (w : World) (h : IsDisk w b D F) (a : Option Addr) (cap : Nat) (ss : List ByteArray) (hl : ss.length ≤ 1000000) (hr : StrSl w a ss) (hF : 0 < ss.length → ∀ x, a = some x → ¬ F x.block) :
    Calls Try.prog 43 #[ptr b, .slice a ss.length cap] w fun e w' => e = .returned (errn (D.sync ss).1) ∧ IsDisk w' b (D.sync ss).2 F ∧ Step F w F w' := by
  have cb := bars_any b D F w h a cap ss hl hr
  have cd := done_any b D F w h
  have hdef : D.sync ss = if D.bars ss ≠ 0 then (D.bars ss, D) else if D.burn.1 then (0, D.burn.2.lasts ss) else (8, D.burn.2) := rfl
  by_cases hz : D.bars ss = 0
  · obtain ⟨_, hall⟩ := bars_zero hz
    rw [hz] at cb
    rw [if_neg (by rw [hz]; decide)] at hdef
    have hall' : ∀ s ∈ ss, (findF D.burn.2.files s).isSome = true := by rw [(burn_files D).1]; exact hall
    cases hbn : D.burn.1
    · rw [hbn] at cd hdef
      rw [hdef]
      clear hdef
      unfold ptr errn at *
      go_enter Try.func43, Try.ntmps43
      go_wp2_with (first
        | (go_at_call 84; (with_reducible refine cb.mono ?_); rintro e w1 ⟨rfl, rfl⟩)
        | (go_at_call 85; (with_reducible refine cd.mono ?_); rintro e w1 ⟨rfl, hd1, hs1⟩))
      go_ret
      exact ⟨rfl, hd1, hs1⟩
    · rw [hbn] at cd hdef
      rw [hdef]
      clear hdef
      have cl := fun w1 (hd1 : IsDisk w1 b D.burn.2 F) (hs1 : Step F w F w1) => lasts_any b D.burn.2 F w1 hd1 a cap ss hl (hr.step hs1 hF) hF hall'
      unfold ptr errn at *
      go_enter Try.func43, Try.ntmps43
      go_wp2_with (first
        | (go_at_call 84; (with_reducible refine cb.mono ?_); rintro e w1 ⟨rfl, rfl⟩)
        | (go_at_call 85; (with_reducible refine cd.mono ?_); rintro e w1 ⟨rfl, hd1, hs1⟩)
        | (go_at_call 87; (with_reducible refine (cl _ hd1 hs1).mono ?_); rintro e w2 ⟨rfl, hd2, hs2⟩))
      go_ret
      exact ⟨rfl, hd2, hs1.trans hs2⟩
  · rw [if_pos hz] at hdef
    have hz' := bars_range D ss
    rw [hdef]
    clear hdef cd
    generalize D.bars ss = r at *
    unfold ptr errn at *
    go_enter Try.func43, Try.ntmps43
    rcases hz' with rfl | rfl | rfl
    · exact absurd rfl hz
    all_goals
      go_wp2_with (go_at_call 84; (with_reducible refine cb.mono ?_); rintro e w1 ⟨rfl, rfl⟩)
      go_ret
      exact ⟨rfl, h, Step.refl F _⟩
end Go.Proofs.Ytndpmjanflahhaa

/-
  disk.Cut.
-/
namespace Go.Proofs.Ytndpmjanflahhaa
open Go.RowKit Go.MapKept

def DiskA.cut (D : DiskA) (n : ByteArray) (k : Int) : Int × DiskA :=
  if D.down then (8, D) else match findF D.files n with
  | none => (9, D)
  | some f =>
    if k < 0 ∨ (f.now.size : Int) < k then (2, D)
    else if D.burn.1 then (0, (D.burn.2.nowed f.id (f.now.extract 0 k.toNat)).lasts [n]) else (8, D.burn.2)

theorem Step.mono {F F1 : Nat → Prop} {w w' : World} (h : Step F1 w F1 w') (hs : ∀ k, F1 k → F k) : Step F w F w' :=
  ⟨h.os, h.tape, h.output, h.size, fun k hk hn => h.block k hk (fun h1 => hn (hs k h1)), fun k hk => .inl hk⟩
theorem StrSl.one (w : World) (n : ByteArray) : StrSl (w.alloc (.cells #[.string n] 9)) (some ⟨w.heap.size, 0, none⟩) [n] := fun i s hi => by
  cases i with
  | zero => simp at hi; subst hi; exact ⟨_, 0, rfl, by simp⟩
  | succ i => simp at hi
theorem bars_new (b : Nat) (D : DiskA) (F : Nat → Prop) (w : World) (h : IsDisk w b D F) (n : ByteArray) :
    Calls Try.prog 84 #[ptr b, .slice (some ⟨w.heap.size, 0, none⟩) 1 1] (w.alloc (.cells #[.string n] 9)) fun e w' => e = .returned (errn (D.bars [n])) ∧ w.alloc (.cells #[.string n] 9) = w' :=
  bars_any b D F _ (h.below ((Below.refl _ w).alloc (Nat.le_refl _) _)) _ 1 [n] (by simp) (StrSl.one w n)
theorem lasts_new (b : Nat) (D : DiskA) (F : Nat → Prop) (w : World) (h : IsDisk w b D F) (n : ByteArray) (hf : (findF D.files n).isSome = true) :
    Calls Try.prog 87 #[ptr b, .slice (some ⟨w.heap.size, 0, none⟩) 1 1] (w.alloc (.cells #[.string n] 9)) fun e w' => e = .returned (.tuple #[]) ∧ IsDisk w' b (D.lasts [n]) F ∧ Step F w F w' := by
  have hB : Below w.heap.size w (w.alloc (.cells #[.string n] 9)) := (Below.refl _ w).alloc (Nat.le_refl _) _
  refine (lasts_any b D _ _ (h.tight.below hB) _ 1 [n] (by simp) (StrSl.one w n) (fun _ x hx => ?_) (fun s hs => by simp at hs; subst hs; exact hf)).mono ?_
  · cases hx; rintro ⟨_, h2⟩; exact absurd h2 (Nat.lt_irrefl _)
  · rintro e w' ⟨rfl, hd, hs⟩
    exact ⟨rfl, hd.mono (fun _ h => h.1), (Step.of_below hB).trans (hs.mono (fun _ h => h.1))⟩

set_option maxRecDepth 100000 in
set_option maxHeartbeats 2000000 in
theorem Cut_any (b : Nat) (D : DiskA) (F : Nat → Prop) (w : World) (h : IsDisk w b D F) (n : ByteArray) (k : Int) (hk : -9223372036854775808 ≤ k ∧ k ≤ 9223372036854775807) :
    Calls Try.prog 88 #[ptr b, .string n, .int .i64 k] w fun e w' => e = .returned (errn (D.cut n k).1) ∧ IsDisk w' b (D.cut n k).2 F ∧ Step F w F w' := by
  have cb := bars_new b D F w h n
  rw [bars_one] at cb
  have hBw : Below w.heap.size w (w.alloc (.cells #[.string n] 9)) := (Below.refl _ w).alloc (Nat.le_refl _) _
  have hw1 := h.below hBw
  have hs1 := Step.of_below (F := F) hBw
  obtain ⟨hk1, hk2⟩ := hk
  have hC : D.cut n k = if D.down then ((8 : Int), D) else match findF D.files n with
    | none => ((9 : Int), D)
    | some f => if k < 0 ∨ (f.now.size : Int) < k then ((2 : Int), D) else if D.burn.1 then ((0 : Int), (D.burn.2.nowed f.id (f.now.extract 0 k.toNat)).lasts [n]) else ((8 : Int), D.burn.2) := rfl
  cases hdn : D.down
  case true =>
    rw [hdn] at cb hC
    simp only [if_true] at cb hC
    rw [hC]
    clear hC hdn
    unfold ptr errn at *
    go_enter Try.func88, Try.ntmps88
    go_wp2_with (go_at_call 84; (with_reducible refine cb.mono ?_); rintro e w1 ⟨rfl, rfl⟩)
    go_ret
    exact ⟨rfl, hw1, hs1⟩
  case false =>
    rw [hdn] at cb hC
    simp only [Bool.false_eq_true, if_false] at cb hC
    cases hf : findF D.files n with
    | none =>
      rw [hf] at cb hC
      dsimp only at hC
      rw [hC]
      clear hC hdn hf
      unfold ptr errn at *
      go_enter Try.func88, Try.ntmps88
      go_wp2_with (go_at_call 84; (with_reducible refine cb.mono ?_); rintro e w1 ⟨rfl, rfl⟩)
      go_ret
      exact ⟨rfl, hw1, hs1⟩
    | some f =>
      rw [hf] at cb hC
      dsimp only at hC
      simp only [Option.isSome_some, if_true] at cb
      obtain ⟨m, v, hb, hm, hrow, fm, fg⟩ := hw1.head
      have c2 : (w.alloc (.cells #[.string n] 9)).cell? ⟨b, 2, none⟩ = some (.map (some m)) := hb.cell 2
      have hlk := run_look h.ok.names hm n
      unfold lookV at hlk
      rw [hf] at hlk
      dsimp only at hlk
      have hfm := (findF_some hf).1
      have hfb := (hw1.files f hfm).2
      have cf : (w.alloc (.cells #[.string n] 9)).cell? ⟨f.id, 1, none⟩ = some (.string f.now) := hfb.cell 1
      have hfs : f.now.size ≤ 16777216 := by
        have h1 := sizes_without h.ok.names hfm
        have h2 : sizes D.files ≤ D.cap := h.ok.size
        have h3 := h.ok.cap
        omega
      have hsome : (findF D.burn.2.files n).isSome = true := by rw [(burn_files D).1, hf]; rfl
      have hfm2 : f ∈ D.burn.2.files := by rw [(burn_files D).1]; exact hfm
      have cd := done_any b D F _ hw1
      clear hb hm hrow fm fg hfb hdn hf
      by_cases b1 : k < 0
      · rw [if_pos (.inl b1)] at hC
        rw [hC]
        clear hC cd
        unfold ptr errn at *
        go_enter Try.func88, Try.ntmps88
        go_wp2_with (go_at_call 84; (with_reducible refine cb.mono ?_); rintro e w1 ⟨rfl, rfl⟩)
        go_ret
        exact ⟨rfl, hw1, hs1⟩
      by_cases b2 : (f.now.size : Int) < k
      · rw [if_pos (.inr b2)] at hC
        rw [hC]
        clear hC cd
        unfold ptr errn at *
        go_enter Try.func88, Try.ntmps88
        go_wp2_with (go_at_call 84; (with_reducible refine cb.mono ?_); rintro e w1 ⟨rfl, rfl⟩)
        go_ret
        exact ⟨rfl, hw1, hs1⟩
      rw [if_neg (by rintro (h | h); exact b1 h; exact b2 h)] at hC
      cases hbn : D.burn.1
      · rw [hbn] at cd hC
        rw [hC]
        clear hC
        unfold ptr errn at *
        go_enter Try.func88, Try.ntmps88
        go_wp2_with (first
          | (go_at_call 84; (with_reducible refine cb.mono ?_); rintro e w1 ⟨rfl, rfl⟩)
          | (go_at_call 85; (with_reducible refine cd.mono ?_); rintro e w1 ⟨rfl, hd1, hs2⟩))
        go_ret
        exact ⟨rfl, hd1, hs1.trans hs2⟩
      · rw [hbn] at cd hC
        rw [hC]
        clear hC
        have cl := fun w2 (hd2 : IsDisk w2 b (D.burn.2.nowed f.id (f.now.extract 0 k.toNat)) F) => lasts_new b (D.burn.2.nowed f.id (f.now.extract 0 k.toNat)) F w2 hd2 n (by
          show (findF (turn _ _ _) n).isSome = true
          rw [findF_turn (u := FileA.setNow (f.now.extract 0 k.toNat)) (fun _ => rfl), Option.isSome_map]; exact hsome)
        unfold ptr errn at *
        go_enter Try.func88, Try.ntmps88
        go_wp2_with (first
          | (go_at_call 84; (with_reducible refine cb.mono ?_); rintro e w1 ⟨rfl, rfl⟩)
          | (go_at_call 85; (with_reducible refine cd.mono ?_); rintro e w1 ⟨rfl, hd1, hs2⟩
             have hfb := (hd1.files f hfm2).2
             have g1 : w1.cell? ⟨f.id, 1, none⟩ = some (.string f.now) := hfb.cell 1
             have gf := hfb.frozen 1
             clear hfb)
          | (go_at_call 87; have cq := cl _ (hd1.nowed hfm2 (f.now.extract 0 k.toNat) (by rw [ByteArray.size_extract]; omega)).1; rw [setCell_size] at cq; (with_reducible refine cq.mono ?_); rintro e w2 ⟨rfl, hd2, hs3⟩))
        go_ret
        exact ⟨rfl, hd2, ((hs1.trans hs2).trans (hd1.nowed hfm2 (f.now.extract 0 k.toNat) (by rw [ByteArray.size_extract]; omega)).2).trans hs3⟩
end Go.Proofs.Ytndpmjanflahhaa

/-
  A file deleted from the files' map; (*disk.Disk).drop.
-/
namespace Go.Proofs.Ytndpmjanflahhaa
open Go.RowKit Go.MapKept

def gone (l : List FileA) (n : ByteArray) : List FileA := l.filter (fun f => !(f.name == n))
theorem gone_none {l : List FileA} {n : ByteArray} (h : ∀ f ∈ l, f.name ≠ n) : gone l n = l := by
  unfold gone
  rw [List.filter_eq_self]
  intro f hf
  have := h f hf
  cases hh : f.name == n
  · rfl
  · exact absurd ((bytes_beq _ _).1 hh) this
theorem gone_erase {l : List FileA} (hn : (l.map (·.name)).Nodup) {j : Nat} {f : FileA} (hj : l[j]? = some f) : l.eraseIdx j = gone l f.name := by
  induction l generalizing j with
  | nil => simp at hj
  | cons x t ih =>
    simp only [List.map_cons, List.nodup_cons] at hn
    cases j with
    | zero =>
      simp at hj; subst hj
      have e : gone (x :: t) x.name = gone t x.name := by
        unfold gone
        rw [List.filter_cons, if_neg]
        have : (x.name == x.name) = true := (bytes_beq _ _).2 rfl
        simp [this]
      rw [e, gone_none (fun g hg e => hn.1 (List.mem_map.2 ⟨g, hg, e⟩))]
      rfl
    | succ j =>
      have hj' : t[j]? = some f := by simpa using hj
      have hne : x.name ≠ f.name := fun e => hn.1 (List.mem_map.2 ⟨f, List.mem_of_getElem? hj', e.symm⟩)
      have e : gone (x :: t) f.name = x :: gone t f.name := by
        unfold gone
        rw [List.filter_cons, if_pos]
        cases hh : x.name == f.name
        · rfl
        · exact absurd ((bytes_beq _ _).1 hh) hne
      rw [e, ← ih hn.2 hj']; rfl
theorem map_eraseIdx' {α β : Type} (g : α → β) (l : List α) (j : Nat) : (l.eraseIdx j).map g = (l.map g).eraseIdx j := by
  induction l generalizing j with
  | nil => rfl
  | cons x t ih => cases j with
    | zero => rfl
    | succ j => simp only [List.eraseIdx_cons_succ, List.map_cons, ih]

set_option maxRecDepth 100000 in
theorem run_del {w : World} {m : Nat} {l : List FileA} (h : IsMap w m (l.map FileA.entry)) (hn : (l.map (·.name)).Nodup) (n : ByteArray) :
    ∃ w', (∀ ty, (Builtin.delete_ #[117, 9] ty #[.map (some m), .string n]).run Try.prog w = .ok (.tuple #[]) w') ∧ IsMap w' m ((gone l n).map FileA.entry) ∧ w.grownBy w' (some m) ∧ w'.heap.size = w.heap.size := by
  obtain ⟨es, clock, hb, hs, he⟩ := h
  have hm := Try.underlying117
  have hd := Try.underlying9
  have hkey : IsKey .string (.string n) := trivial
  have hks := keys_of_map he (entry_keys l)
  rcases findNow_spec hkey es.toList 0 hks with ⟨h1, h2⟩ | ⟨j, e, h1, h2, h3⟩
  · refine ⟨{ w with heap := w.heap.setIfInBounds m (.map es clock) }, fun ty => ?_, ⟨es, clock, (heap_set hb).1, hs, ?_⟩, heap_put hb, by simp⟩
    · simp [Builtin.delete_, run_underlying hm, MapKept.run_getObj_map hb, run_checkKey hd hkey, run_findKey hd h1, MapKept.run_setObj_map _ hb, Result.andThen]
    · rw [he, gone_none]
      intro f hf ef
      have : (f.entry) ∈ es.toList.map (fun e => (e.key, e.val)) := by rw [he]; exact List.mem_map.2 ⟨f, hf, rfl⟩
      obtain ⟨x, hx, ex⟩ := List.mem_map.1 this
      have : x.key = .string f.name := by have := congrArg Prod.fst ex; exact this
      exact h2 x hx (by rw [this, ef])
  · refine ⟨{ w with heap := w.heap.setIfInBounds m (.map (es.eraseIdxIfInBounds j) clock) }, fun ty => ?_, ⟨_, clock, (heap_set hb).1, stamped_erase hs _, ?_⟩, heap_put hb, by simp⟩
    · simp [Builtin.delete_, run_underlying hm, MapKept.run_getObj_map hb, run_checkKey hd hkey, run_findKey hd h1, MapKept.run_setObj_map _ hb, Result.andThen]
    · have hj : (l.map FileA.entry)[j]? = some (e.key, e.val) := by rw [← he, List.getElem?_map, h2]; rfl
      rw [List.getElem?_map] at hj
      obtain ⟨f, hf, ef⟩ := Option.map_eq_some_iff.1 hj
      have hfn : f.name = n := by
        have := congrArg Prod.fst ef
        rw [h3] at this
        unfold FileA.entry at this; injection this
      have hlt : j < es.size := by have := (List.getElem?_eq_some_iff.1 h2).1; simpa using this
      rw [show (es.eraseIdxIfInBounds j).toList = es.toList.eraseIdx j by unfold Array.eraseIdxIfInBounds; rw [dif_pos hlt]; simp, map_eraseIdx', he, ← map_eraseIdx', gone_erase hn hf, hfn]
end Go.Proofs.Ytndpmjanflahhaa

/-
  (*disk.Disk).drop of one file.
-/
namespace Go.Proofs.Ytndpmjanflahhaa
open Go.RowKit Go.MapKept

def DiskA.removed (D : DiskA) (n : ByteArray) : DiskA := { D with files := gone D.files n }
def DiskA.drop1 (D : DiskA) (f : FileA) : DiskA := (D.waited (others D.waits f.id)).removed f.name

theorem gone_mem {l : List FileA} {n : ByteArray} {f : FileA} : f ∈ gone l n ↔ f ∈ l ∧ f.name ≠ n := by
  unfold gone
  rw [List.mem_filter]
  refine and_congr_right fun _ => ?_
  cases h : f.name == n
  · simp; intro e; rw [(bytes_beq _ _).2 e] at h; cases h
  · simp; exact (bytes_beq _ _).1 h
theorem gone_sub (l : List FileA) (n : ByteArray) : (gone l n).Sublist l := List.filter_sublist
theorem nodup_name_eq {l : List FileA} (hn : (l.map (·.name)).Nodup) {f g : FileA} (hf : f ∈ l) (hg : g ∈ l) (e : f.name = g.name) : f = g := by
  induction l with
  | nil => cases hf
  | cons x t ih =>
    simp only [List.map_cons, List.nodup_cons] at hn
    rcases List.mem_cons.1 hf with rfl | hf' <;> rcases List.mem_cons.1 hg with rfl | hg'
    · rfl
    · exact absurd (List.mem_map.2 ⟨g, hg', e.symm⟩) hn.1
    · exact absurd (List.mem_map.2 ⟨f, hf', e⟩) hn.1
    · exact ih hn.2 hf' hg'
theorem nodup_id_eq {l : List FileA} (hn : (l.map (·.id)).Nodup) {f g : FileA} (hf : f ∈ l) (hg : g ∈ l) (e : f.id = g.id) : f = g := by
  induction l with
  | nil => cases hf
  | cons x t ih =>
    simp only [List.map_cons, List.nodup_cons] at hn
    rcases List.mem_cons.1 hf with rfl | hf' <;> rcases List.mem_cons.1 hg with rfl | hg'
    · rfl
    · exact absurd (List.mem_map.2 ⟨g, hg', e.symm⟩) hn.1
    · exact absurd (List.mem_map.2 ⟨f, hf', e⟩) hn.1
    · exact ih hn.2 hf' hg'
theorem sizes_sub {l k : List FileA} (h : l.Sublist k) : sizes l ≤ sizes k := by
  unfold sizes
  induction h with
  | slnil => exact Nat.le_refl _
  | cons a _ ih => simp only [List.map_cons, List.sum_cons]; omega
  | cons_cons a _ ih => simp only [List.map_cons, List.sum_cons]; omega

theorem DiskA.Ok.removed {D : DiskA} (h : D.Ok) (n : ByteArray) (hw : ∀ x ∈ D.waits, ∀ f ∈ D.files, f.id = x.id → f.name ≠ n) : (D.removed n).Ok := by
  have hs := gone_sub D.files n
  refine ⟨(hs.map _).nodup h.names, (hs.map _).nodup h.ids, h.left, h.cap, Nat.le_trans (sizes_sub hs) h.size, fun f hf => h.nameLen f (hs.subset hf), Nat.le_trans hs.length_le h.files, fun x hx => ?_⟩
  obtain ⟨f, hf, e⟩ := h.waits x hx
  exact ⟨f, gone_mem.2 ⟨hf, hw x hx f hf e⟩, e⟩

theorem IsDisk.removed {b : Nat} {D : DiskA} {F : Nat → Prop} {w w' : World} (hd : IsDisk w b D F) {m : Nat} {v : Value} (n : ByteArray)
    (hb : Blk w b #[.int .i64 D.left, .bool D.down, .map (some m), v, .int .i64 D.cap] 120)
    (hm' : IsMap w' m ((gone D.files n).map FileA.entry)) (hg : w.grownBy w' (some m)) (hw : ∀ x ∈ D.waits, ∀ f ∈ D.files, f.id = x.id → f.name ≠ n) :
    IsDisk w' b (D.removed n) F ∧ Step F w F w' := by
  obtain ⟨m2, v2, hb2, hm, hr, fm, fg⟩ := hd.head
  have heq : m2 = m ∧ v2 = v := by
    unfold Blk at hb hb2; rw [hb] at hb2; injection hb2 with hb2; injection hb2 with hb2; simp at hb2; exact ⟨hb2.1.symm, hb2.2.symm⟩
  obtain ⟨rfl, rfl⟩ := heq
  have keep : ∀ k, k < w.heap.size → k ≠ m2 → w'.heap[k]? = w.heap[k]? := fun k hk hne => hg.block k hk (fun e => hne (by cases e; rfl))
  have ne_map : ∀ {k : Nat} {c : Array Value} {T : TypeId}, Blk w k c T → k ≠ m2 := by
    rintro k c T hk rfl
    obtain ⟨es, cl, h1, _⟩ := hm
    unfold Blk at hk; rw [h1] at hk; cases hk
  refine ⟨⟨hd.ok.removed n hw, ⟨m2, v2, hb.at (keep b hb.lt (ne_map hb)), hm', ?_, fm, fg⟩, hd.own, ?_⟩, ?_⟩
  · refine owns_kept hr (fun g hgo => keep g (World.ownsRow.lt hr g hgo).2 ?_)
    rintro rfl; exact owned_ne_map hr hm hgo
  · intro f hf
    have hfb := (hd.files f (gone_mem.1 hf).1)
    exact ⟨hfb.1, hfb.2.at (keep _ hfb.2.lt (ne_map hfb.2))⟩
  · exact ⟨hg.os, hg.tape, hg.output, hg.size, fun k hk hnf => keep k hk (fun e => hnf (e ▸ fm)), fun k hk => .inl hk⟩

theorem enter_drop1 (args : Array Value) (w : World) : (callFunc 140 args).run Try.prog w = .ok (.enter 140 args) w :=
  run_enter Try.func140 (by kernel_rfl) rfl args w

set_option maxRecDepth 100000 in
set_option maxHeartbeats 2000000 in
theorem drop_any (b : Nat) (D : DiskA) (F : Nat → Prop) (w : World) (h : IsDisk w b D F) (g : Nat) (hgF : ¬ F g) (n : ByteArray) (hc : w.cell? ⟨g, 0, none⟩ = some (.string n)) (f : FileA) (hf : findF D.files n = some f) :
    Calls Try.prog 120 #[ptr b, .slice (some ⟨g, 0, none⟩) 1 1] w fun e w' => e = .returned (.tuple #[]) ∧ IsDisk w' b (D.drop1 f) F ∧ Step F w F w' := by
  unfold ptr
  have hfm := (findF_some hf).1
  have hfn := (findF_some hf).2
  obtain ⟨m, v, hb, hm, hrow, fm, fg⟩ := h.head
  have c2 : w.cell? ⟨b, 2, none⟩ = some (.map (some m)) := hb.cell 2
  have hlk := run_look h.ok.names hm n
  unfold lookV at hlk
  rw [hf] at hlk
  unfold ptr at hlk
  dsimp only at hlk
  have hB1 : Below w.heap.size w (w.alloc (.cells #[.pointer (some ⟨f.id, 0, none⟩)] 121)) := (Below.refl _ w).alloc (Nat.le_refl _) _
  have hN1 : Blk (w.alloc (.cells #[.pointer (some ⟨f.id, 0, none⟩)] 121)) w.heap.size #[.pointer (some ⟨f.id, 0, none⟩)] 121 := Blk.new _ _ _
  have hd1 := h.below hB1
  have hb1 := hb.at (hB1.block _ hb.lt)
  have c3 : (w.alloc (.cells #[.pointer (some ⟨f.id, 0, none⟩)] 121)).cell? ⟨b, 3, none⟩ = some v := hb1.cell 3
  have hrow1 : (w.alloc (.cells #[.pointer (some ⟨f.id, 0, none⟩)] 121)).ownsRow 0 127 3 v D.waits.length (waitCells D.waits) := owns_kept hrow (fun g hg => hB1.block g (World.ownsRow.lt hrow g hg).2)
  have hpe : PredEnv (w.alloc (.cells #[.pointer (some ⟨f.id, 0, none⟩)] 121)) w.heap.size f.id D.waits := by
    refine ⟨hN1.cell 0, ⟨_, (hd1.files f hfm).2⟩, fun x hx => ?_⟩
    obtain ⟨g, hg, e⟩ := h.ok.waits x hx
    rw [← e]; exact ⟨_, (hd1.files g hg).2⟩
  have cD := DeleteFuncV 140 w.heap.size f.id enter_drop1 (drop1_pred _ _) v D.waits _ hrow1 hpe (owned_ne hrow1 hN1 (by decide))
  have hob := owned_ne hrow1 hb1 (by decide)
  have hbH := Lib.hid hb1
  have hbl := hb1.lt
  have hows : ∀ x ∈ others D.waits f.id, ∃ g ∈ D.files, g.id = x.id := fun x hx => h.ok.waits x (List.mem_filter.1 hx).1
  have hapart : Hid (∀ x ∈ others D.waits f.id, ∀ g ∈ D.files, g.id = x.id → g.name ≠ n) := by
    intro x hx g hg e en
    have : g = f := nodup_name_eq h.ok.names hg hfm (en.trans hfn.symm)
    subst this
    have := (List.mem_filter.1 hx).2
    simp [e] at this
  have hnm := h.ok.names
  clear hm hrow hrow1 fm fg hf hb hb1 hN1 hpe
  go_enter Try.func120, Try.ntmps120
  go_wp2
  go_loopw [9] (fun i wr => (i = .int .i64 0 ∧ wr = w) ∨ (i = .int .i64 1 ∧ IsDisk wr b (D.drop1 f) F ∧ Step F w F wr)) (fun i _ => 1 - (intOf i).toNat)
  case atStart => exact .inl ⟨rfl, rfl⟩
  case round =>
    rcases hrel with ⟨rfl, rfl⟩ | ⟨rfl, hd, hS⟩
    · go_wp2_with (go_at_call 118; (with_reducible refine cD.mono ?_); rintro e w3 ⟨a', n', cap', rfl, hr3, hS3, ho3⟩
                   have hb3 := hbH.out.at (hS3.block _ hbl hob)
                   have e3 : w3.cell? ⟨b, 3, none⟩ = some v := hb3.cell 3
                   have f3 := hb3.frozen 3
                   have hd4 := (hd1.waited hbH.out hr3 hS3 ho3 hows)
                   obtain ⟨m4, v4, hb4, hm4, hr4, fm4, fg4⟩ := hd4.1.head
                   have e4 : (w3.setCell ⟨b, 3, none⟩ (.slice a' n' cap')).cell? ⟨b, 2, none⟩ = some (.map (some m4)) := hb4.cell 2
                   obtain ⟨w5, hdel, hm5, hg5, hz5⟩ := run_del hm4 hnm n
                   have hd5 := hd4.1.removed n hb4 hm5 hg5 hapart.out
                   clear hb3 hb4 hm4 hr4 fm4 fg4)
      go_roundw
      case rel =>
        refine .inr ⟨rfl, ?_, ((Step.of_below hB1).trans hd4.2).trans hd5.2⟩
        unfold DiskA.drop1
        rw [hfn]
        exact hd5.1
      case measure => simp [intOf]
    · go_wp2
      go_end0
      exact ⟨rfl, hd, hS⟩
end Go.Proofs.Ytndpmjanflahhaa

/-
  disk.Delete.
-/
namespace Go.Proofs.Ytndpmjanflahhaa
open Go.RowKit Go.MapKept

def DiskA.dropOf (D : DiskA) (s : ByteArray) : DiskA := match findF D.files s with | some f => D.drop1 f | none => D
def DiskA.drops (D : DiskA) (ss : List ByteArray) : DiskA := ss.foldl DiskA.dropOf D
theorem drops_snoc (D : DiskA) (ss : List ByteArray) (s : ByteArray) : D.drops (ss ++ [s]) = (D.drops ss).dropOf s := by unfold DiskA.drops; rw [List.foldl_append]; rfl
def DiskA.delete (D : DiskA) (ss : List ByteArray) : Int × DiskA :=
  if D.bars ss ≠ 0 then (D.bars ss, D) else if D.burn.1 then (0, D.burn.2.drops ss) else (8, D.burn.2)

theorem drop_new (b : Nat) (D : DiskA) (F : Nat → Prop) (w : World) (h : IsDisk w b D F) (n : ByteArray) (f : FileA) (hf : findF D.files n = some f) :
    Calls Try.prog 120 #[ptr b, .slice (some ⟨w.heap.size, 0, none⟩) 1 1] (w.alloc (.cells #[.string n] 9)) fun e w' => e = .returned (.tuple #[]) ∧ IsDisk w' b (D.drop1 f) F ∧ Step F w F w' := by
  have hB : Below w.heap.size w (w.alloc (.cells #[.string n] 9)) := (Below.refl _ w).alloc (Nat.le_refl _) _
  refine (drop_any b D _ _ (h.tight.below hB) w.heap.size ?_ n ?_ f hf).mono ?_
  · rintro ⟨_, h2⟩; exact absurd h2 (Nat.lt_irrefl _)
  · simp
  · rintro e w' ⟨rfl, hd, hs⟩
    exact ⟨rfl, hd.mono (fun _ h => h.1), (Step.of_below hB).trans (hs.mono (fun _ h => h.1))⟩

set_option maxRecDepth 100000 in
set_option maxHeartbeats 2000000 in
theorem Delete_any (b : Nat) (D : DiskA) (F : Nat → Prop) (w : World) (h : IsDisk w b D F) (a : Option Addr) (cap : Nat) (ss : List ByteArray) (hl : ss.length ≤ 1000000) (hr : StrSl w a ss) (hF : 0 < ss.length → ∀ x, a = some x → ¬ F x.block) :
    Calls Try.prog 90 #[ptr b, .slice a ss.length cap] w fun e w' => e = .returned (errn (D.delete ss).1) ∧ IsDisk w' b (D.delete ss).2 F ∧ Step F w F w' := by
  have cb := bars_any b D F w h a cap ss hl hr
  have cd := done_any b D F w h
  have hdef : D.delete ss = if D.bars ss ≠ 0 then (D.bars ss, D) else if D.burn.1 then ((0 : Int), D.burn.2.drops ss) else ((8 : Int), D.burn.2) := rfl
  by_cases hz : D.bars ss = 0
  · rw [hz] at cb
    rw [if_neg (by rw [hz]; decide)] at hdef
    cases hbn : D.burn.1
    · rw [hbn] at cd hdef
      rw [hdef]
      clear hdef
      unfold ptr errn at *
      go_enter Try.func90, Try.ntmps90
      go_wp2_with (first
        | (go_at_call 84; (with_reducible refine cb.mono ?_); rintro e w1 ⟨rfl, rfl⟩)
        | (go_at_call 85; (with_reducible refine cd.mono ?_); rintro e w1 ⟨rfl, hd1, hs1⟩))
      go_ret
      exact ⟨rfl, hd1, hs1⟩
    · rw [hbn] at cd hdef
      rw [hdef]
      clear hdef
      generalize D.burn.2 = D1 at *
      obtain ⟨n, hn⟩ : ∃ n, ss.length = n := ⟨_, rfl⟩
      rw [hn] at cb ⊢
      have hn' := Lib.hid hn
      rw [hn] at hl
      clear hn
      unfold ptr errn at *
      go_enter Try.func90, Try.ntmps90
      go_wp2_with (first
        | (go_at_call 84; (with_reducible refine cb.mono ?_); rintro e w1 ⟨rfl, rfl⟩)
        | (go_at_call 85; (with_reducible refine cd.mono ?_); rintro e w1 ⟨rfl, hd1, hs1⟩))
      clear cb cd
      go_loopw [22] (fun i wr => ∃ k : Nat, k ≤ n ∧ i = .int .i64 k ∧ IsDisk wr b (D1.drops (ss.take k)) F ∧ Step F w F wr) (fun i _ => n - (intOf i).toNat)
      case atStart => exact ⟨0, by omega, rfl, hd1, hs1⟩
      case round =>
        obtain ⟨k, hk, rfl, hd, hS⟩ := hrel
        by_cases hkn : k < n
        · have hkl : k < ss.length := by rw [hn'.out]; exact hkn
          have hr2 := hr.step hS hF
          obtain ⟨b', off, rfl, hcell⟩ := hr2.at (by omega)
          obtain ⟨s, hs⟩ : ∃ s, ss[k]? = some s := ⟨ss[k], by simp [hkl]⟩
          have hc := hcell k s hs
          have hst := Lib.hid (drops_snoc D1 (ss.take k) s)
          have htk : Hid (ss.take (k + 1) = ss.take k ++ [s]) := take_succ_strs hs
          clear hs hcell hr2 hkl
          generalize D1.drops (ss.take k) = Dk at *
          obtain ⟨m, v, hb, hm, hrow, fm, fg⟩ := hd.head
          have c2 : wr.cell? ⟨b, 2, none⟩ = some (.map (some m)) := hb.cell 2
          have hlk := run_look hd.ok.names hm s
          unfold lookV at hlk
          clear hb hm hrow fm fg
          cases hf : findF Dk.files s with
          | none =>
            rw [hf] at hlk
            dsimp only at hlk
            have hlo : Hid (Dk.dropOf s = Dk) := by show _ = _; unfold DiskA.dropOf; rw [hf]
            clear hf
            go_wp2
            go_roundw
            case rel =>
              refine ⟨k + 1, by omega, by go_num, ?_, hS⟩
              rw [htk.out, hst.out, hlo.out]; exact hd
            case measure => simp [intOf]; omega
          | some f =>
            rw [hf] at hlk
            unfold ptr at hlk
            dsimp only at hlk
            have hlo : Hid (Dk.dropOf s = Dk.drop1 f) := by show _ = _; unfold DiskA.dropOf; rw [hf]
            have cp := drop_new b Dk F wr hd s f hf
            unfold ptr at cp
            clear hf
            go_wp2_with (go_at_call 120; (with_reducible refine cp.mono ?_); rintro e w2 ⟨rfl, hd2, hs2⟩)
            go_roundw
            case rel =>
              refine ⟨k + 1, by omega, by go_num, ?_, hS.trans hs2⟩
              rw [htk.out, hst.out, hlo.out]; exact hd2
            case measure => simp [intOf]; omega
        · have : k = n := by omega
          subst this
          rw [List.take_of_length_le (Nat.le_of_eq hn'.out)] at hd
          go_wp2
          go_ret
          exact ⟨rfl, hd, hS⟩
  · rw [if_pos hz] at hdef
    have hz' := bars_range D ss
    rw [hdef]
    clear hdef cd
    generalize D.bars ss = r at *
    unfold ptr errn at *
    go_enter Try.func90, Try.ntmps90
    rcases hz' with rfl | rfl | rfl
    · exact absurd rfl hz
    all_goals
      go_wp2_with (go_at_call 84; (with_reducible refine cb.mono ?_); rintro e w1 ⟨rfl, rfl⟩)
      go_ret
      exact ⟨rfl, h, Step.refl F _⟩
end Go.Proofs.Ytndpmjanflahhaa

/-
  disk.Rename.
-/
namespace Go.Proofs.Ytndpmjanflahhaa
open Go.RowKit Go.MapKept

def DiskA.moved (D : DiskA) (f : FileA) (to_ : ByteArray) : DiskA := { D with files := gone (D.files ++ [{ f with name := to_ }]) f.name }
def DiskA.rename (D : DiskA) (n to_ : ByteArray) : Int × DiskA :=
  if D.down then (8, D) else match findF D.files n with
  | none => (9, D)
  | some f => if D.burn.1 then (0, if n == to_ then D.burn.2 else (D.burn.2.dropOf to_).moved f to_) else (8, D.burn.2)

theorem sizes_append (l k : List FileA) : sizes (l ++ k) = sizes l + sizes k := by unfold sizes; rw [List.map_append, List.sum_append]
theorem gone_append (l k : List FileA) (n : ByteArray) : gone (l ++ k) n = gone l n ++ gone k n := by unfold gone; rw [List.filter_append]
theorem gone_length {l : List FileA} (hn : (l.map (·.name)).Nodup) {f : FileA} (hf : f ∈ l) : (gone l f.name).length + 1 = l.length := by
  obtain ⟨j, hj, e⟩ := List.getElem_of_mem hf
  rw [← gone_erase hn (j := j) (f := f) (by rw [List.getElem?_eq_getElem hj, e]), List.length_eraseIdx_of_lt hj]
  omega
theorem moved_files (D : DiskA) (f : FileA) (to_ : ByteArray) (hne : f.name ≠ to_) : (D.moved f to_).files = gone D.files f.name ++ [{ f with name := to_ }] := by
  show gone (D.files ++ [_]) f.name = _
  rw [gone_append, gone_none (l := [{ f with name := to_ }])]
  intro g hg; simp at hg; subst hg; exact fun e => hne e.symm
theorem DiskA.Ok.moved {D : DiskA} (h : D.Ok) {f : FileA} (hf : f ∈ D.files) {to_ : ByteArray} (hne : f.name ≠ to_) (ht : to_.size ≤ 140737488351232) (hno : ∀ g ∈ D.files, g.name ≠ to_) : (D.moved f to_).Ok := by
  have e := moved_files D f to_ hne
  have hsub := gone_sub D.files f.name
  refine ⟨?_, ?_, h.left, h.cap, ?_, ?_, ?_, ?_⟩
  · rw [e, List.map_append]
    exact nodup_snoc ((hsub.map _).nodup h.names) (fun x hx => by
      obtain ⟨g, hg, rfl⟩ := List.mem_map.1 hx
      exact hno g (gone_mem.1 hg).1)
  · rw [e, List.map_append]
    exact nodup_snoc ((hsub.map _).nodup h.ids) (fun x hx => by
      obtain ⟨g, hg, rfl⟩ := List.mem_map.1 hx
      intro e2
      have := nodup_id_eq h.ids (gone_mem.1 hg).1 hf e2
      exact (gone_mem.1 hg).2 (by rw [this]))
  · rw [e]
    show sizes _ ≤ D.cap
    rw [sizes_append]
    have h1 := sizes_without h.names hf
    have h2 : sizes D.files ≤ D.cap := h.size
    have h3 : without D.files f = gone D.files f.name := rfl
    rw [h3] at h1
    have h4 : sizes [{ f with name := to_ }] = f.now.size := by simp [sizes]
    omega
  · rw [e]
    intro g hg
    rcases List.mem_append.1 hg with hg | hg
    · exact h.nameLen g (gone_mem.1 hg).1
    · simp at hg; subst hg; exact ht
  · rw [e, List.length_append]
    have := gone_length h.names hf
    have := h.files
    simp only [List.length_singleton]; omega
  · rw [e]
    intro x hx
    obtain ⟨g, hg, e2⟩ := h.waits x hx
    by_cases hgf : g.name = f.name
    · have := nodup_name_eq h.names hg hf hgf
      subst this
      exact ⟨_, List.mem_append.2 (.inr (List.mem_singleton.2 rfl)), e2⟩
    · exact ⟨g, List.mem_append.2 (.inl (gone_mem.2 ⟨hg, hgf⟩)), e2⟩

theorem IsDisk.moved {b : Nat} {D : DiskA} {F : Nat → Prop} {w w' : World} (hd : IsDisk w b D F) {m : Nat} {v : Value} {f : FileA} (hf : f ∈ D.files) {to_ : ByteArray} (hne : f.name ≠ to_) (ht : to_.size ≤ 140737488351232) (hno : ∀ g ∈ D.files, g.name ≠ to_)
    (hb : Blk w b #[.int .i64 D.left, .bool D.down, .map (some m), v, .int .i64 D.cap] 120)
    (hm' : IsMap w' m ((gone (D.files ++ [{ f with name := to_ }]) f.name).map FileA.entry)) (hg : w.grownBy w' (some m)) :
    IsDisk w' b (D.moved f to_) F ∧ Step F w F w' := by
  obtain ⟨m2, v2, hb2, hm, hr, fm, fg⟩ := hd.head
  have heq : m2 = m ∧ v2 = v := by
    unfold Blk at hb hb2; rw [hb] at hb2; injection hb2 with hb2; injection hb2 with hb2; simp at hb2; exact ⟨hb2.1.symm, hb2.2.symm⟩
  obtain ⟨rfl, rfl⟩ := heq
  have keep : ∀ k, k < w.heap.size → k ≠ m2 → w'.heap[k]? = w.heap[k]? := fun k hk hne => hg.block k hk (fun e => hne (by cases e; rfl))
  have ne_map : ∀ {k : Nat} {c : Array Value} {T : TypeId}, Blk w k c T → k ≠ m2 := by
    rintro k c T hk rfl
    obtain ⟨es, cl, h1, _⟩ := hm
    unfold Blk at hk; rw [h1] at hk; cases hk
  refine ⟨⟨hd.ok.moved hf hne ht hno, ⟨m2, v2, hb.at (keep b hb.lt (ne_map hb)), hm', ?_, fm, fg⟩, hd.own, ?_⟩, ?_⟩
  · refine owns_kept hr (fun g hgo => keep g (World.ownsRow.lt hr g hgo).2 ?_)
    rintro rfl; exact owned_ne_map hr hm hgo
  · intro g hg
    rw [moved_files D f to_ hne] at hg
    rcases List.mem_append.1 hg with hg | hg
    · have hfb := (hd.files g (gone_mem.1 hg).1)
      exact ⟨hfb.1, hfb.2.at (keep _ hfb.2.lt (ne_map hfb.2))⟩
    · simp at hg; subst hg
      have hfb := hd.files f hf
      exact ⟨hfb.1, hfb.2.at (keep _ hfb.2.lt (ne_map hfb.2))⟩
  · exact ⟨hg.os, hg.tape, hg.output, hg.size, fun k hk hnf => keep k hk (fun e => hnf (e ▸ fm)), fun k hk => .inl hk⟩
end Go.Proofs.Ytndpmjanflahhaa

/-
  disk.Rename, walked.
-/
namespace Go.Proofs.Ytndpmjanflahhaa
open Go.RowKit Go.MapKept

theorem names_beq (a b : ByteArray) : (a.toList == b.toList) = (a == b) := by
  rw [Bool.eq_iff_iff, bytes_beq, beq_iff_eq, ByteArray.toList_eq, ByteArray.toList_eq]
  constructor
  · intro h
    cases a; cases b
    simpa using h
  · rintro rfl; rfl

set_option maxRecDepth 100000 in
/-- The two turns of the files' map. -/
theorem rename_ops {b : Nat} {D : DiskA} {F : Nat → Prop} {w : World} (hd : IsDisk w b D F) {f : FileA} (hf : f ∈ D.files) {n to_ : ByteArray} (hfn : f.name = n) (hne : n ≠ to_) (ht : to_.size ≤ 140737488351232) (hno : findF D.files to_ = none) :
    ∃ m w1 w2, w.cell? ⟨b, 2, none⟩ = some (.map (some m)) ∧
      (Instr.mapUpdate 117 (.map (some m)) (.string to_) (.pointer (some ⟨f.id, 0, none⟩))).run Try.prog w.drew = .ok () w1 ∧
      w1.cell? ⟨b, 2, none⟩ = some (.map (some m)) ∧
      (∀ ty, (Builtin.delete_ #[117, 9] ty #[.map (some m), .string n]).run Try.prog w1 = .ok (.tuple #[]) w2) ∧
      IsDisk w2 b (D.moved f to_) F ∧ Step F w F w2 := by
  have hB : Below w.heap.size w w.drew := (Below.refl _ w).drew
  have hd' := hd.below hB
  obtain ⟨m, v, hb, hm, hr, fm, fg⟩ := hd'.head
  obtain ⟨w1, h1, hm1, hg1⟩ := run_put hm to_ (.pointer (some ⟨f.id, 0, none⟩)) (entry_keys _) (entry_new hno)
  have hmb : b ≠ m := by
    rintro rfl
    obtain ⟨es, cl, h1, _⟩ := hm
    unfold Blk at hb; rw [h1] at hb; cases hb
  have hb1 := hb.at (hg1.block b hb.lt (fun e => hmb (by cases e; rfl)))
  have hm2 : IsMap w1 m ((D.files ++ [{ f with name := to_ }]).map FileA.entry) := by
    rw [List.map_append]
    exact hm1
  have hnod : ((D.files ++ [{ f with name := to_ }]).map (fun g : FileA => g.name)).Nodup := by
    rw [List.map_append]
    exact nodup_snoc hd.ok.names (fun x hx => by
      obtain ⟨g, hg, rfl⟩ := List.mem_map.1 hx
      exact findF_none hno g hg)
  obtain ⟨w2, h2, hm3, hg2, _⟩ := run_del hm2 hnod n
  have hg : w.drew.grownBy w2 (some m) :=
    ⟨hg2.os.trans hg1.os, hg2.tape.trans hg1.tape, hg2.output.trans hg1.output, Nat.le_trans hg1.size hg2.size,
     fun k hk hne => (hg2.block k (Nat.lt_of_lt_of_le hk hg1.size) hne).trans (hg1.block k hk hne)⟩
  have hfin := hd'.moved hf (to_ := to_) (by rw [hfn]; exact hne) ht (findF_none hno) hb (by rw [hfn]; exact hm3) hg
  exact ⟨m, w1, w2, hb.cell 2, h1, hb1.cell 2, h2, hfin.1, (Step.of_below hB).trans hfin.2⟩

set_option maxRecDepth 100000 in
set_option maxHeartbeats 2000000 in
theorem Rename_any (b : Nat) (D : DiskA) (F : Nat → Prop) (w : World) (h : IsDisk w b D F) (n to_ : ByteArray) (ht : to_.size ≤ 140737488351232) :
    Calls Try.prog 89 #[ptr b, .string n, .string to_] w fun e w' => e = .returned (errn (D.rename n to_).1) ∧ IsDisk w' b (D.rename n to_).2 F ∧ Step F w F w' := by
  have cb := bars_new b D F w h n
  rw [bars_one] at cb
  have hBw : Below w.heap.size w (w.alloc (.cells #[.string n] 9)) := (Below.refl _ w).alloc (Nat.le_refl _) _
  have hw1 := h.below hBw
  have hs1 := Step.of_below (F := F) hBw
  have hC : D.rename n to_ = if D.down then ((8 : Int), D) else match findF D.files n with
    | none => ((9 : Int), D)
    | some f => if D.burn.1 then ((0 : Int), if n == to_ then D.burn.2 else (D.burn.2.dropOf to_).moved f to_) else ((8 : Int), D.burn.2) := rfl
  cases hdn : D.down
  case true =>
    rw [hdn] at cb hC
    simp only [if_true] at cb hC
    rw [hC]
    clear hC hdn
    unfold ptr errn at *
    go_enter Try.func89, Try.ntmps89
    go_wp2_with (go_at_call 84; (with_reducible refine cb.mono ?_); rintro e w1 ⟨rfl, rfl⟩)
    go_ret
    exact ⟨rfl, hw1, hs1⟩
  case false =>
    rw [hdn] at cb hC
    simp only [Bool.false_eq_true, if_false] at cb hC
    cases hf : findF D.files n with
    | none =>
      rw [hf] at cb hC
      dsimp only at hC
      rw [hC]
      clear hC hdn hf
      unfold ptr errn at *
      go_enter Try.func89, Try.ntmps89
      go_wp2_with (go_at_call 84; (with_reducible refine cb.mono ?_); rintro e w1 ⟨rfl, rfl⟩)
      go_ret
      exact ⟨rfl, hw1, hs1⟩
    | some f =>
      rw [hf] at cb hC
      dsimp only at hC
      simp only [Option.isSome_some, if_true] at cb
      have hf2 : findF D.burn.2.files n = some f := by rw [(burn_files D).1, hf]
      have cd := done_any b D F _ hw1
      clear hdn hf
      cases hbn : D.burn.1
      · rw [hbn] at cd hC
        rw [hC]
        clear hC
        unfold ptr errn at *
        go_enter Try.func89, Try.ntmps89
        go_wp2_with (first
          | (go_at_call 84; (with_reducible refine cb.mono ?_); rintro e w1 ⟨rfl, rfl⟩)
          | (go_at_call 85; (with_reducible refine cd.mono ?_); rintro e w1 ⟨rfl, hd1, hs2⟩))
        go_ret
        exact ⟨rfl, hd1, hs1.trans hs2⟩
      rw [hbn] at cd hC
      have hn1 : (D.burn.2.files.map (fun g : FileA => g.name)).Nodup := by rw [(burn_files D).1]; exact h.ok.names
      generalize D.burn.2 = D1 at *
      cases hnt : n == to_
      case true =>
        rw [hC, hnt]
        clear hC
        rw [← names_beq] at hnt
        unfold ptr errn at *
        go_enter Try.func89, Try.ntmps89
        go_wp2_with (first
          | (go_at_call 84; (with_reducible refine cb.mono ?_); rintro e w1 ⟨rfl, rfl⟩)
          | (go_at_call 85; (with_reducible refine cd.mono ?_); rintro e w1 ⟨rfl, hd1, hs2⟩))
        go_ret
        exact ⟨rfl, hd1, hs1.trans hs2⟩
      have hne : n ≠ to_ := fun e => by rw [(bytes_beq _ _).2 e] at hnt; cases hnt
      rw [hnt] at hC
      rw [← names_beq] at hnt
      have hfm := (findF_some hf2).1
      have hfn := (findF_some hf2).2
      cases hto : findF D1.files to_ with
      | none =>
        have hlo : D1.dropOf to_ = D1 := by unfold DiskA.dropOf; rw [hto]
        rw [hC, hlo]
        have hneH := Lib.hid hne
        have htoH := Lib.hid hto
        have hf2H := Lib.hid hf2
        have hfnH := Lib.hid hfn
        clear hC hlo hne hto hf2 hfn
        unfold ptr errn at *
        go_enter Try.func89, Try.ntmps89
        go_wp2_with (first
          | (go_at_call 84; (with_reducible refine cb.mono ?_); rintro e w1 ⟨rfl, rfl⟩)
          | (go_at_call 85; (with_reducible refine cd.mono ?_); rintro e w1 ⟨rfl, hd1, hs2⟩
             obtain ⟨m, w3, w4, c2, hput, c21, hdel, hd4, hs4⟩ := rename_ops hd1 hfm hfnH.out hneH.out ht htoH.out
             obtain ⟨m', v', hb', hm', _⟩ := (hd1.below (Below.refl _ w1).drew).head
             have hmm : m' = m := by have h0 : w1.drew.cell? ⟨b, 2, none⟩ = some (.map (some m')) := hb'.cell 2; have h00 : w1.cell? ⟨b, 2, none⟩ = some (.map (some m')) := h0; rw [c2] at h00; cases h00; rfl
             subst hmm
             have hlk := run_look hd1.ok.names hm' n
             obtain ⟨m2', v2', hb2', hm2', _⟩ := hd1.head
             have hmm2 : m2' = m' := by have h0 : w1.cell? ⟨b, 2, none⟩ = some (.map (some m2')) := hb2'.cell 2; rw [c2] at h0; cases h0; rfl
             subst hmm2
             have hlk2 := run_look hd1.ok.names hm2' to_
             unfold lookV at hlk hlk2
             rw [hf2H.out] at hlk
             rw [htoH.out] at hlk2
             dsimp only [ptr] at hlk hlk2
             clear hb' hm' hb2' hm2'))
        go_region
        go_wp2
        go_ret
        exact ⟨rfl, hd4, (hs1.trans hs2).trans hs4⟩
      | some g =>
        have hlo : D1.dropOf to_ = D1.drop1 g := by unfold DiskA.dropOf; rw [hto]
        rw [hC, hlo]
        have hg := findF_some hto
        have hfm2 : f ∈ (D1.drop1 g).files := gone_mem.2 ⟨hfm, fun e => hne (hfn.symm.trans (e.trans hg.2))⟩
        have hno2 : findF (D1.drop1 g).files to_ = none := by
          show findF (gone D1.files g.name) to_ = none
          rw [hg.2]
          unfold findF
          rw [List.find?_eq_none]
          intro x hx e
          exact (gone_mem.1 hx).2 ((bytes_beq _ _).1 e)
        have hf3 : findF (D1.drop1 g).files n = some f := by
          cases hq : findF (D1.drop1 g).files n with
          | none => exact absurd hfn (findF_none hq f hfm2)
          | some f' =>
            have h1 := findF_some hq
            have : f' = f := by
              exact nodup_name_eq hn1 (gone_mem.1 h1.1).1 hfm (h1.2.trans hfn.symm)
            rw [this]
        have hneH := Lib.hid hne
        have htoH := Lib.hid hto
        have hf2H := Lib.hid hf2
        have hfnH := Lib.hid hfn
        have hf3H := Lib.hid hf3
        have hno2H := Lib.hid hno2
        clear hC hlo hne hto hf2 hfn hg hf3 hno2
        unfold ptr errn at *
        go_enter Try.func89, Try.ntmps89
        go_wp2_with (first
          | (go_at_call 84; (with_reducible refine cb.mono ?_); rintro e w1 ⟨rfl, rfl⟩)
          | (go_at_call 85; (with_reducible refine cd.mono ?_); rintro e w1 ⟨rfl, hd1, hs2⟩
             obtain ⟨m', v', hb', hm', _⟩ := hd1.head
             have c2 : w1.cell? ⟨b, 2, none⟩ = some (.map (some m')) := hb'.cell 2
             have hlk2 := run_look hd1.ok.names hm' to_
             unfold lookV at hlk2
             rw [htoH.out] at hlk2
             dsimp only [ptr] at hlk2
             have cp := drop_new b D1 F w1 hd1 to_ g htoH.out
             unfold ptr at cp
             clear hb' hm')
          | (go_at_call 120; (with_reducible refine cp.mono ?_); rintro e w2 ⟨rfl, hd2, hs3⟩
             obtain ⟨m, w3, w4, c20, hput, c21, hdel, hd4, hs4⟩ := rename_ops hd2 hfm2 hfnH.out hneH.out ht hno2H.out
             obtain ⟨m'', v'', hb'', hm'', _⟩ := (hd2.below (Below.refl _ w2).drew).head
             have hmm : m'' = m := by have h0 : w2.drew.cell? ⟨b, 2, none⟩ = some (.map (some m'')) := hb''.cell 2; have h00 : w2.cell? ⟨b, 2, none⟩ = some (.map (some m'')) := h0; rw [c20] at h00; cases h00; rfl
             subst hmm
             have hlk := run_look hd2.ok.names hm'' n
             unfold lookV at hlk
             rw [hf3H.out] at hlk
             dsimp only [ptr] at hlk
             clear hb'' hm''))
        go_region
        go_wp2
        go_ret
        exact ⟨rfl, hd4, ((hs1.trans hs2).trans hs3).trans hs4⟩
end Go.Proofs.Ytndpmjanflahhaa

/-
  slices.Index, slices.Contains at bools.
-/
namespace Go.Proofs.Ytndpmjanflahhaa
open Go.RowKit Go.MapKept

/-- From a place on bools lie, one behind the other. -/
def BoolAt (w : World) (g o : Nat) (ks : List Bool) : Prop := ∀ i x, ks[i]? = some x → w.cell? ⟨g, o + i, none⟩ = some (.bool x)
theorem BoolAt.kept {w w' : World} {g o : Nat} {ks : List Bool} (h : BoolAt w g o ks) (e : w'.heap[g]? = w.heap[g]?) : BoolAt w' g o ks := by
  intro i x hx
  rw [← h i x hx]; simp only [World.cell?]; rw [e]
theorem BoolAt.drop {w : World} {g o : Nat} {ks : List Bool} (h : BoolAt w g o ks) (j : Nat) : BoolAt w g (o + j) (ks.drop j) := by
  intro i x hx
  rw [List.getElem?_drop] at hx
  have := h _ _ hx
  rwa [Nat.add_assoc]
theorem BoolAt.take {w : World} {g o : Nat} {ks : List Bool} (h : BoolAt w g o ks) (j : Nat) : BoolAt w g o (ks.take j) := by
  intro i x hx
  rw [List.getElem?_take] at hx
  split at hx
  · exact h _ _ hx
  · cases hx

set_option maxRecDepth 100000 in
theorem IndexBool (g o cap : Nat) (ks : List Bool) (w : World) (hl : ks.length ≤ 1099511627776) (hr : BoolAt w g o ks) :
    Calls Try.prog 121 #[.slice (some ⟨g, o, none⟩) ks.length cap, .bool true] w fun e w' => ∃ r : Int, e = .returned (.int .i64 r) ∧ w = w' ∧ -1 ≤ r ∧ decide (0 ≤ r) = ks.any id := by
  obtain ⟨n, hn⟩ : ∃ n, ks.length = n := ⟨_, rfl⟩
  rw [hn]
  have hn' := Lib.hid hn
  rw [hn] at hl
  clear hn
  go_enter Try.func121, Try.ntmps121
  go_wp2
  go_loop [8] (fun i => ∃ k : Nat, k ≤ n ∧ i = .int .i64 k ∧ Hid ((ks.take k).any id = false)) (fun i => n - (intOf i).toNat)
  case atStart => exact ⟨0, by omega, rfl, rfl⟩
  case round =>
    obtain ⟨k, hk, rfl, hH⟩ := hrel
    by_cases hkn : k < n
    · have hkl : k < ks.length := by rw [hn'.out]; exact hkn
      obtain ⟨x, hx⟩ : ∃ x, ks[k]? = some x := ⟨ks[k], by simp [hkl]⟩
      have hc := hr k x hx
      have hst : Hid ((ks.take (k + 1)).any id = ((ks.take k).any id || x)) := by show _ = _; rw [List.take_add_one, hx]; simp
      have hany : Hid (x = true → ks.any id = true) := fun h => by rw [List.any_eq_true]; exact ⟨x, List.mem_of_getElem? hx, h⟩
      clear hx hkl hr
      cases x
      · go_wp2
        go_round
        case measure => simp [intOf]; omega
        case rel => exact ⟨k + 1, by omega, by go_num, by show _ = _; rw [hst.out, hH.out]; rfl⟩
      · go_wp2
        go_ret
        exact ⟨k, rfl, rfl, by omega, by rw [hany.out trivial]; simp⟩
    · have hz := hH.out
      rw [List.take_of_length_le (by rw [hn'.out]; omega)] at hz
      have hz' := Lib.hid hz
      clear hz hr
      go_wp2
      go_ret
      exact ⟨-1, rfl, rfl, by omega, by rw [hz'.out]; rfl⟩

theorem ContainsBool (g o cap : Nat) (ks : List Bool) (w : World) (hl : ks.length ≤ 1099511627776) (hr : BoolAt w g o ks) :
    Calls Try.prog 92 #[.slice (some ⟨g, o, none⟩) ks.length cap, .bool true] w fun e w' => e = .returned (.bool (ks.any id)) ∧ w = w' := by
  have ci := IndexBool g o cap ks w hl hr
  generalize ks.any id = r at *
  generalize ks.length = n at *
  clear hr
  go_enter Try.func92, Try.ntmps92
  go_wp2_with (go_at_call 121; (with_reducible refine ci.mono ?_); rintro e w1 ⟨x, rfl, rfl, hx, hd⟩)
  go_ret
  exact ⟨rfl, rfl⟩
end Go.Proofs.Ytndpmjanflahhaa

/-
  What a crash leaves, as plain data.
-/
namespace Go.Proofs.Ytndpmjanflahhaa
open Go.RowKit Go.MapKept

/-- No file's image is more than what it has; no write that waits reaches beyond that. -/
structure DiskA.Fit (D : DiskA) : Prop where
  image : ∀ f ∈ D.files, f.image.size ≤ f.now.size
  wait : ∀ x ∈ D.waits, ∀ f ∈ D.files, f.id = x.id → x.pos + x.s.size ≤ f.now.size

def lackS (s : ByteArray) (lack : Int) : ByteArray := s.extract 0 ((s.size : Int) - min (max lack 0) (s.size : Int)).toNat
theorem lackS_le (s : ByteArray) (lack : Int) : (lackS s lack).size ≤ s.size := by unfold lackS; rw [ByteArray.size_extract]; omega
/-- The bytes of a write that a crash lays. -/
def layS (done : List Bool) (lack : Int) (k : Nat) (s : ByteArray) : ByteArray := if (done.drop (k + 1)).any id then s else lackS s lack
theorem layS_le (done : List Bool) (lack : Int) (k : Nat) (s : ByteArray) : (layS done lack k s).size ≤ s.size := by
  unfold layS; split
  · exact Nat.le_refl _
  · exact lackS_le _ _
def byId (l : List FileA) (id : Nat) : Option FileA := l.find? (fun f => f.id == id)
theorem byId_some {l : List FileA} {id : Nat} {f : FileA} (h : byId l id = some f) : f ∈ l ∧ f.id = id :=
  ⟨List.mem_of_find?_eq_some h, by have := List.find?_some h; simpa using this⟩
theorem byId_mem {l : List FileA} (hn : (l.map (·.id)).Nodup) {f : FileA} (hf : f ∈ l) : byId l f.id = some f := by
  cases h : byId l f.id with
  | none => exact absurd (by simp : (f.id == f.id) = true) (List.find?_eq_none.1 h f hf)
  | some g => rw [nodup_id_eq hn (byId_some h).1 hf (byId_some h).2]
def DiskA.layOne (D : DiskA) (x : WaitA) (s : ByteArray) : DiskA := match byId D.files x.id with | some f => D.imaged f.id (laidB f.image x.pos s) | none => D
def DiskA.layUp (D : DiskA) (done : List Bool) (lack : Int) (ws : List WaitA) : Nat → DiskA
  | 0 => D
  | k + 1 => match done[k]?, ws[k]? with
    | some true, some x => (D.layUp done lack ws k).layOne x (layS done lack k x.s)
    | _, _ => D.layUp done lack ws k
def FileA.still (f : FileA) : FileA := { f with now := f.image }
def DiskA.stilled (D : DiskA) (left : List FileA) : DiskA := { D with files := D.files.map (fun g => if left.any (fun x => x.name == g.name) then g else g.still) }
def DiskA.crash (D : DiskA) (keep : List Bool) (lack : Int) : DiskA :=
  { (D.layUp (keep.take (min keep.length D.waits.length)) lack D.waits (min keep.length D.waits.length)).stilled [] with left := -1, down := false, waits := [] }

theorem imaged_fit {D : DiskA} (h : D.Fit) (id : Nat) (s : ByteArray) (hs : ∀ f ∈ D.files, f.id = id → s.size ≤ f.now.size) : (D.imaged id s).Fit := by
  refine ⟨fun f hf => ?_, fun x hx f hf e => ?_⟩
  · obtain ⟨g, hg, ⟨e, rfl⟩ | ⟨_, rfl⟩⟩ := turn_mem hf
    · exact hs g hg e
    · exact h.image f hg
  · obtain ⟨g, hg, ⟨_, rfl⟩ | ⟨_, rfl⟩⟩ := turn_mem hf
    · exact h.wait x hx g hg e
    · exact h.wait x hx f hg e
theorem laidB_le {s : ByteArray} {p : Nat} {o : ByteArray} {n : Nat} (h1 : s.size ≤ n) (h2 : p + o.size ≤ n) : (laidB s p o).size ≤ n := by
  by_cases h : o.size = 0
  · rw [laidB_nil]
    · exact h1
    · have : o.data.toList.length = 0 := by simpa using h
      exact List.length_eq_zero_iff.1 this
  · rw [laidB_size _ _ _ h]; omega
theorem layOne_fit {D : DiskA} (hok : D.Ok) (h : D.Fit) {x : WaitA} {s : ByteArray} (hs : ∀ f ∈ D.files, f.id = x.id → x.pos + s.size ≤ f.now.size) : (D.layOne x s).Fit := by
  unfold DiskA.layOne
  cases hf : byId D.files x.id with
  | none => exact h
  | some f =>
    have hb := byId_some hf
    refine imaged_fit h _ _ (fun g hg e => ?_)
    have := nodup_id_eq hok.ids hg hb.1 e
    subst this
    exact laidB_le (h.image _ hb.1) (hs _ hb.1 hb.2)
theorem imaged_ok {D : DiskA} (h : D.Ok) (id : Nat) (s : ByteArray) : (D.imaged id s).Ok :=
  turn_ok h id (FileA.setImage s) (fun _ => ⟨rfl, rfl⟩) (by rw [turn_sizes_image]; exact h.size)
theorem layOne_ok {D : DiskA} (h : D.Ok) (x : WaitA) (s : ByteArray) : (D.layOne x s).Ok := by
  unfold DiskA.layOne
  split
  · exact imaged_ok h _ _
  · exact h

/-- Two disks alike but for their images. -/
structure AlikeI (D D' : DiskA) : Prop where
  left : D'.left = D.left
  down : D'.down = D.down
  cap : D'.cap = D.cap
  waits : D'.waits = D.waits
  files : D'.files.map (fun f => (f.name, f.id, f.now)) = D.files.map (fun f => (f.name, f.id, f.now))
theorem AlikeI.refl (D : DiskA) : AlikeI D D := ⟨rfl, rfl, rfl, rfl, rfl⟩
theorem AlikeI.trans {D D1 D2 : DiskA} (h : AlikeI D D1) (k : AlikeI D1 D2) : AlikeI D D2 := ⟨k.left.trans h.left, k.down.trans h.down, k.cap.trans h.cap, k.waits.trans h.waits, k.files.trans h.files⟩
theorem AlikeI.imaged (D : DiskA) (id : Nat) (s : ByteArray) : AlikeI D (D.imaged id s) := by
  refine ⟨rfl, rfl, rfl, rfl, ?_⟩
  show (turn _ _ _).map _ = _
  unfold turn
  rw [List.map_map]
  apply List.map_congr_left
  intro g _
  simp only [Function.comp]
  split <;> rfl
theorem AlikeI.layOne (D : DiskA) (x : WaitA) (s : ByteArray) : AlikeI D (D.layOne x s) := by
  unfold DiskA.layOne
  split
  · exact .imaged _ _ _
  · exact .refl _
theorem AlikeI.layUp (D : DiskA) (done : List Bool) (lack : Int) (ws : List WaitA) (k : Nat) : AlikeI D (D.layUp done lack ws k) := by
  induction k with
  | zero => exact .refl _
  | succ k ih =>
    unfold DiskA.layUp
    split
    · exact ih.trans (.layOne _ _ _)
    · exact ih
theorem AlikeI.mem {D D' : DiskA} (h : AlikeI D D') {f : FileA} (hf : f ∈ D'.files) : ∃ g ∈ D.files, g.name = f.name ∧ g.id = f.id ∧ g.now = f.now := by
  have : (f.name, f.id, f.now) ∈ D'.files.map (fun f => (f.name, f.id, f.now)) := List.mem_map.2 ⟨f, hf, rfl⟩
  rw [h.files] at this
  obtain ⟨g, hg, e⟩ := List.mem_map.1 this
  simp only [Prod.mk.injEq] at e
  exact ⟨g, hg, e⟩
theorem AlikeI.entries {D D' : DiskA} (h : AlikeI D D') : D'.files.map FileA.entry = D.files.map FileA.entry := by
  have := congrArg (List.map (fun p : ByteArray × Nat × ByteArray => (Value.string p.1, ptr p.2.1))) h.files
  simp only [List.map_map] at this
  exact this
theorem AlikeI.ids {D D' : DiskA} (h : AlikeI D D') : D'.files.map (·.id) = D.files.map (·.id) := by
  have := congrArg (List.map (fun p : ByteArray × Nat × ByteArray => p.2.1)) h.files
  simpa [List.map_map, Function.comp_def] using this

theorem layUp_ok {D : DiskA} (hok : D.Ok) (h : D.Fit) (done : List Bool) (lack : Int) (k : Nat) : (D.layUp done lack D.waits k).Ok ∧ (D.layUp done lack D.waits k).Fit := by
  induction k with
  | zero => exact ⟨hok, h⟩
  | succ k ih =>
    unfold DiskA.layUp
    split
    · rename_i x _ hx
      refine ⟨layOne_ok ih.1 _ _, layOne_fit ih.1 ih.2 (fun f hf e => ?_)⟩
      obtain ⟨g, hg, _, e2, e3⟩ := (AlikeI.layUp D done lack D.waits k).mem hf
      have := h.wait x (List.mem_of_getElem? hx) g hg (e2.trans e)
      rw [e3] at this
      have := layS_le done lack k x.s
      omega
    · exact ih

theorem map_mem_still {l left : List FileA} {x : FileA} (h : x ∈ l.map (fun g => if left.any (fun x => x.name == g.name) then g else g.still)) : ∃ g ∈ l, x.name = g.name ∧ x.id = g.id ∧ x.image = g.image ∧ (x.now = g.now ∨ x.now = g.image) := by
  obtain ⟨g, hg, e⟩ := List.mem_map.1 h
  refine ⟨g, hg, ?_⟩
  split at e <;> subst e
  · exact ⟨rfl, rfl, rfl, .inl rfl⟩
  · exact ⟨rfl, rfl, rfl, .inr rfl⟩
theorem stilled_names (D : DiskA) (left : List FileA) : (D.stilled left).files.map (·.name) = D.files.map (·.name) := by
  show (D.files.map _).map _ = _
  rw [List.map_map]; apply List.map_congr_left; intro g _; simp only [Function.comp]; split <;> rfl
theorem stilled_ids (D : DiskA) (left : List FileA) : (D.stilled left).files.map (·.id) = D.files.map (·.id) := by
  show (D.files.map _).map _ = _
  rw [List.map_map]; apply List.map_congr_left; intro g _; simp only [Function.comp]; split <;> rfl
theorem stilled_entries (D : DiskA) (left : List FileA) : (D.stilled left).files.map FileA.entry = D.files.map FileA.entry := by
  show (D.files.map _).map _ = _
  rw [List.map_map]; apply List.map_congr_left; intro g _; simp only [Function.comp]; split <;> rfl
theorem stilled_all (D : DiskA) (hD : True) : (D.stilled D.files).files = D.files := by
  show D.files.map _ = _
  conv => rhs; rw [← List.map_id D.files]
  apply List.map_congr_left
  intro g hg
  rw [if_pos]
  · rfl
  · rw [List.any_eq_true]; exact ⟨g, hg, (bytes_beq _ _).2 rfl⟩
theorem stilled_sizes {D : DiskA} (h : D.Fit) (left : List FileA) : sizes (D.stilled left).files ≤ sizes D.files := by
  show sizes (D.files.map _) ≤ _
  have : ∀ l : List FileA, (∀ f ∈ l, f.image.size ≤ f.now.size) → sizes (l.map (fun g => if left.any (fun x => x.name == g.name) then g else g.still)) ≤ sizes l := by
    intro l hl
    induction l with
    | nil => exact Nat.le_refl _
    | cons x t ih =>
      have h1 := ih (fun f hf => hl f (List.mem_cons_of_mem _ hf))
      have h2 := hl x List.mem_cons_self
      unfold sizes at *
      simp only [List.map_cons, List.sum_cons]
      have h3 : (if (left.any fun y => y.name == x.name) = true then x else x.still).now.size ≤ x.now.size := by
        split
        · exact Nat.le_refl _
        · exact h2
      omega
  exact this _ h.image
/-- One more file stilled. -/
theorem stilled_step {D : DiskA} (hn : (D.files.map (·.name)).Nodup) (hi : (D.files.map (·.id)).Nodup) {left : List FileA} {f : FileA} (hf : f ∈ D.files) (hl : f ∈ left) (hsub : ∀ x ∈ left, x ∈ D.files) :
    ((D.stilled left).nowed f.id f.image) = D.stilled (without left f) := by
  unfold DiskA.nowed DiskA.stilled turn
  simp only [List.map_map]
  congr 1
  apply List.map_congr_left
  intro g hg
  simp only [Function.comp]
  by_cases e : g = f
  · subst e
    have h1 : (left.any fun x => x.name == g.name) = true := by rw [List.any_eq_true]; exact ⟨g, hl, (bytes_beq _ _).2 rfl⟩
    have h2 : ((without left g).any fun x => x.name == g.name) = false := by
      rw [List.any_eq_false]
      intro x hx
      have := (List.mem_filter.1 hx).2
      simpa using this
    rw [if_pos h1, h2]
    simp only [if_true]
    rfl
  · have hid : g.id ≠ f.id := fun e2 => e (nodup_id_eq hi hg hf e2)
    have hnm : g.name ≠ f.name := fun e2 => e (nodup_name_eq hn hg hf e2)
    have h3 : ((without left f).any fun x => x.name == g.name) = (left.any fun x => x.name == g.name) := by
      rw [Bool.eq_iff_iff, List.any_eq_true, List.any_eq_true]
      constructor
      · rintro ⟨x, hx, e3⟩; exact ⟨x, (List.mem_filter.1 hx).1, e3⟩
      · rintro ⟨x, hx, e3⟩
        refine ⟨x, List.mem_filter.2 ⟨hx, ?_⟩, e3⟩
        have : x.name = g.name := (bytes_beq _ _).1 e3
        cases hh : x.name == f.name
        · rfl
        · exact absurd (this.symm.trans ((bytes_beq _ _).1 hh)) hnm
    rw [h3]
    have hif : (if (left.any fun x => x.name == g.name) = true then g else g.still).id = g.id := by split <;> rfl
    rw [if_neg (by rw [hif]; exact hid)]
end Go.Proofs.Ytndpmjanflahhaa

/-
  A region that draws its order, whose last operation (all others come before it in every order) may undo what the loads rest upon.
-/
namespace Go.Proofs.Ytndpmjanflahhaa
open Go

section
variable {P : Program} {ops : Array Oper} {Q : Exit → Act → World → Prop} {md : Region.Mode} {S : World → Prop} {z : Nat}

/-- Any order from here on; S holds behind every operation but number z. -/
def AnyZ (P : Program) (md : Region.Mode) (ops : Array Oper) (Q : Exit → Act → World → Prop) (S : World → Prop) (z : Nat) : Nat → Array Bool → Act → World → Prop
  | 0, listed, a, w => Region.ready md ops listed = [] ∧ Q .normal a w
  | fuel + 1, listed, a, w =>
    (Region.ready md ops listed = [] → Q .normal a w) ∧
    ∀ i ∈ Region.ready md ops listed, wpOp P ops Q i (fun a' w' => (i ≠ z → S w') ∧ AnyZ P md ops Q S z fuel (listed.setIfInBounds i true) a' w') a w

theorem AnyZ.any : ∀ (fuel : Nat) (listed : Array Bool) (a : Act) (w : World), AnyZ P md ops Q S z fuel listed a w → wpAny P md ops Q fuel listed a w
  | 0, _, _, _, h => h
  | fuel + 1, _, _, _, h => ⟨h.1, fun i hi => wpOp_mono (fun a' w' h' => AnyZ.any fuel _ a' w' h'.2) (h.2 i hi)⟩

/-- Operation z waits for i by its own list. -/
def waitsFor (md : Region.Mode) (ops : Array Oper) (z i : Nat) : Bool := match ops[z]? with | some o => o.after.any (fun e => Region.binds md e && (e.on == i)) | none => false
theorem waitsFor_spec {i : Nat} (h : waitsFor md ops z i = true) : ∃ o, ops[z]? = some o ∧ ∃ e ∈ o.after, Region.binds md e = true ∧ e.on = i := by
  unfold waitsFor at h
  cases ho : ops[z]? with
  | none => rw [ho] at h; cases h
  | some o =>
    rw [ho] at h
    obtain ⟨k, hk, hh⟩ := Array.any_eq_true.1 h
    simp at hh
    exact ⟨o, rfl, o.after[k], Array.getElem_mem _, hh.1, hh.2⟩

theorem AnyZ.first {i : Nat} {oi : Oper} {v : Value} (hi : ops[i]? = some oi) (hsel : ∀ (j : Nat) (o : Oper) cs b, ops[j]? = some o → o.op ≠ .select cs b)
    (hQ : ∀ c a w, Q (.panic c) (a.put oi.dst v) w → Q (.panic c) a w) (hz : i ≠ z) (hzw : waitsFor md ops z i = true) :
    ∀ (fuel : Nat) (listed : Array Bool) (a : Act) (w : World),
      (∀ j oj, ops[j]? = some oj → j ≠ i → listed.getD j true = false → (∀ e ∈ oj.after, Region.binds md e = true → e.on ≠ i) → oi.apart ops oj = true) →
      i ∈ Region.ready md ops listed → YieldsIf P ops S oi v a → S w →
      AnyZ P md ops Q S z fuel (listed.setIfInBounds i true) (a.put oi.dst v) w → AnyZ P md ops Q S z (fuel + 1) listed a w := by
  intro fuel
  induction fuel with
  | zero =>
    intro listed a w _ hr hy hS H
    refine ⟨fun h => (by rw [h] at hr; cases hr), fun j hj => ?_⟩
    by_cases hji : j = i
    · subst hji; exact hy.wpOp hi hS ⟨fun _ => hS, H⟩
    · have := ready_mono hj hji
      rw [H.1] at this
      cases this
  | succ fuel ih =>
    intro listed a w hfree hr hy hS H
    refine ⟨fun h => (by rw [h] at hr; cases hr), fun j hj => ?_⟩
    by_cases hji : j = i
    · subst hji; exact hy.wpOp hi hS ⟨fun _ => hS, H⟩
    · have h1 := H.2 j (ready_mono hj hji)
      obtain ⟨hjun, oj, hoj, hall⟩ := mem_ready.1 hj
      have hnot : ∀ e ∈ oj.after, Region.binds md e = true → e.on ≠ i := fun e he hb heq => by
        have h1 := hall e he hb
        have h0 := (mem_ready.1 hr).1
        rw [heq] at h1
        rcases Nat.lt_or_ge i listed.size with h' | h'
        · simp [h'] at h0 h1; rw [h0] at h1; cases h1
        · simp [Array.getElem?_eq_none h'] at h1
      have hjz : j ≠ z := by
        rintro rfl
        obtain ⟨o, ho, e, he, hb, hon⟩ := waitsFor_spec hzw
        rw [hoj] at ho; cases ho
        exact hnot e he hb hon
      have h2 := wpOp_putIf hoj (hfree j oj hoj hji hjun hnot) (fun cs b => hsel i oi cs b hi) (fun cs b => hsel j oj cs b hoj) hQ hy h1
      have hfree' : ∀ k ok, ops[k]? = some ok → k ≠ i → (listed.setIfInBounds j true).getD k true = false →
          (∀ e ∈ ok.after, Region.binds md e = true → e.on ≠ i) → oi.apart ops ok = true := fun k ok hk hki hun hno => by
        refine hfree k ok hk hki ?_ hno
        by_cases hjk : j = k
        · subst hjk; exact hjun
        · rw [getD_set_ne true hjk] at hun; exact hun
      refine wpOp_mono (fun a' w' h3 => ⟨h3.2.1, ih (listed.setIfInBounds j true) a' w' hfree' (ready_mono hr (Ne.symm hji)) h3.1 (h3.2.1 hjz) ?_⟩) h2
      rw [Array.setIfInBounds_comm _ _ hji]
      exact h3.2.2

theorem AnyZ.take {i : Nat} {oi : Oper} {v : Value} {fuel : Nat} {listed : Array Bool} {a : Act} {w : World} (hi : ops[i]? = some oi)
    (hs : Region.noSelect ops = true) (hf : Region.free md ops listed i = true) (hr : (Region.ready md ops listed).contains i = true) (hz : (i == z) = false) (hzw : waitsFor md ops z i = true)
    (hQ : ∀ c a w, Q (.panic c) (a.put oi.dst v) w → Q (.panic c) a w) (hy : YieldsIf P ops S oi v a) (hS : S w)
    (h : AnyZ P md ops Q S z fuel (listed.setIfInBounds i true) (a.put oi.dst v) w) : AnyZ P md ops Q S z (fuel + 1) listed a w :=
  AnyZ.first hi (Region.noSelect_spec hs) hQ (by simpa using hz) hzw fuel listed a w (Region.free_spec hi hf) (by simpa using hr) hy hS h

/-- One operation alone may come up. -/
theorem AnyZ.one {fuel : Nat} {listed : Array Bool} {a : Act} {w : World} {i : Nat} {o : Oper} (hr : Region.ready md ops listed = [i]) (ho : ops[i]? = some o)
    (h : ∀ K' : Act → World → Prop, Shut (∀ a w, (i ≠ z → S w) → AnyZ P md ops Q S z fuel (listed.setIfInBounds i true) a w → K' a w) → if Region.wanted o (yielded ops a.tmps) = true then Oper.wp P o a w K' Q else K' (a.put o.dst undef) w) :
    AnyZ P md ops Q S z (fuel + 1) listed a w :=
  ⟨fun h0 => (by rw [hr] at h0; cases h0), fun j hj => by
    rw [hr, List.mem_singleton] at hj
    subst hj
    exact wpOp_step ho (fun K' hK => h K' (fun a w hS hW => hK a w ⟨hS, hW⟩))⟩

theorem AnyZ.done {listed : Array Bool} {a : Act} {w : World} (hr : Region.ready md ops listed = []) (h : Q .normal a w) : ∀ fuel, AnyZ P md ops Q S z fuel listed a w
  | 0 => ⟨hr, h⟩
  | _ + 1 => ⟨fun _ => h, by rw [hr]; simp⟩

theorem wp_region_z {id : Nat} {a : Act} {w : World} (S : World → Prop) (z : Nat) (hm : P.follows .mixedOrders = true) (hS : S w.drew)
    (h : S w.drew → AnyZ P .any ops Q S z ops.size (Array.replicate ops.size false) a w.drew) : (Code.region id ops true).wp P Q a w :=
  wp_region_any hm (AnyZ.any _ _ _ _ (h hS))
end
end Go.Proofs.Ytndpmjanflahhaa
