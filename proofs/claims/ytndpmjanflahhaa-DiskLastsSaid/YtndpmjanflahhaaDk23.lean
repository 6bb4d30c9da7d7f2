/-
  (*disk.Disk).drop of one file.
-/
import Derived.Test.YtndpmjanflahhaaDk22
namespace Go.Proofs.Ytndpmjanflahhaa
open Go.RowKit Go.MapKept

def DiskA.removed (D : DiskA) (n : ByteArray) : DiskA := { D with files := gone D.files n }
def DiskA.drop1 (D : DiskA) (f : FileA) : DiskA := (D.waited (others D.waits f.id)).removed f.name

theorem gone_mem {l : List FileA} {n : ByteArray} {f : FileA} : f ∈ gone l n ↔ f ∈ l ∧ f.name ≠ n := by
  unfold gone
  rw [List.mem_filter]
  refine and_congr_right fun _ => ?_
  cases h : f.name == n
  · simp; intro e; rw [(bytes_beq _ _).2 e] at h; cases h
  · simp; exact (bytes_beq _ _).1 h
theorem gone_sub (l : List FileA) (n : ByteArray) : (gone l n).Sublist l := List.filter_sublist
theorem nodup_name_eq {l : List FileA} (hn : (l.map (·.name)).Nodup) {f g : FileA} (hf : f ∈ l) (hg : g ∈ l) (e : f.name = g.name) : f = g := by
  induction l with
  | nil => cases hf
  | cons x t ih =>
    simp only [List.map_cons, List.nodup_cons] at hn
    rcases List.mem_cons.1 hf with rfl | hf' <;> rcases List.mem_cons.1 hg with rfl | hg'
    · rfl
    · exact absurd (List.mem_map.2 ⟨g, hg', e.symm⟩) hn.1
    · exact absurd (List.mem_map.2 ⟨f, hf', e⟩) hn.1
    · exact ih hn.2 hf' hg'
theorem nodup_id_eq {l : List FileA} (hn : (l.map (·.id)).Nodup) {f g : FileA} (hf : f ∈ l) (hg : g ∈ l) (e : f.id = g.id) : f = g := by
  induction l with
  | nil => cases hf
  | cons x t ih =>
    simp only [List.map_cons, List.nodup_cons] at hn
    rcases List.mem_cons.1 hf with rfl | hf' <;> rcases List.mem_cons.1 hg with rfl | hg'
    · rfl
    · exact absurd (List.mem_map.2 ⟨g, hg', e.symm⟩) hn.1
    · exact absurd (List.mem_map.2 ⟨f, hf', e⟩) hn.1
    · exact ih hn.2 hf' hg'
theorem sizes_sub {l k : List FileA} (h : l.Sublist k) : sizes l ≤ sizes k := by
  unfold sizes
  induction h with
  | slnil => exact Nat.le_refl _
  | cons a _ ih => simp only [List.map_cons, List.sum_cons]; omega
  | cons_cons a _ ih => simp only [List.map_cons, List.sum_cons]; omega

theorem DiskA.Ok.removed {D : DiskA} (h : D.Ok) (n : ByteArray) (hw : ∀ x ∈ D.waits, ∀ f ∈ D.files, f.id = x.id → f.name ≠ n) : (D.removed n).Ok := by
  have hs := gone_sub D.files n
  refine ⟨(hs.map _).nodup h.names, (hs.map _).nodup h.ids, h.left, h.cap, Nat.le_trans (sizes_sub hs) h.size, fun f hf => h.nameLen f (hs.subset hf), Nat.le_trans hs.length_le h.files, fun x hx => ?_⟩
  obtain ⟨f, hf, e⟩ := h.waits x hx
  exact ⟨f, gone_mem.2 ⟨hf, hw x hx f hf e⟩, e⟩

theorem IsDisk.removed {b : Nat} {D : DiskA} {F : Nat → Prop} {w w' : World} (hd : IsDisk w b D F) {m : Nat} {v : Value} (n : ByteArray)
    (hb : Blk w b #[.int .i64 D.left, .bool D.down, .map (some m), v, .int .i64 D.cap] 120)
    (hm' : IsMap w' m ((gone D.files n).map FileA.entry)) (hg : w.grownBy w' (some m)) (hw : ∀ x ∈ D.waits, ∀ f ∈ D.files, f.id = x.id → f.name ≠ n) :
    IsDisk w' b (D.removed n) F ∧ Step F w F w' := by
  obtain ⟨m2, v2, hb2, hm, hr, fm, fg⟩ := hd.head
  have heq : m2 = m ∧ v2 = v := by
    unfold Blk at hb hb2; rw [hb] at hb2; injection hb2 with hb2; injection hb2 with hb2; simp at hb2; exact ⟨hb2.1.symm, hb2.2.symm⟩
  obtain ⟨rfl, rfl⟩ := heq
  have keep : ∀ k, k < w.heap.size → k ≠ m2 → w'.heap[k]? = w.heap[k]? := fun k hk hne => hg.block k hk (fun e => hne (by cases e; rfl))
  have ne_map : ∀ {k : Nat} {c : Array Value} {T : TypeId}, Blk w k c T → k ≠ m2 := by
    rintro k c T hk rfl
    obtain ⟨es, cl, h1, _⟩ := hm
    unfold Blk at hk; rw [h1] at hk; cases hk
  refine ⟨⟨hd.ok.removed n hw, ⟨m2, v2, hb.at (keep b hb.lt (ne_map hb)), hm', ?_, fm, fg⟩, hd.own, ?_⟩, ?_⟩
  · refine owns_kept hr (fun g hgo => keep g (World.ownsRow.lt hr g hgo).2 ?_)
    rintro rfl; exact owned_ne_map hr hm hgo
  · intro f hf
    have hfb := (hd.files f (gone_mem.1 hf).1)
    exact ⟨hfb.1, hfb.2.at (keep _ hfb.2.lt (ne_map hfb.2))⟩
  · exact ⟨hg.os, hg.tape, hg.output, hg.size, fun k hk hnf => keep k hk (fun e => hnf (e ▸ fm)), fun k hk => .inl hk⟩

theorem enter_drop1 (args : Array Value) (w : World) : (callFunc 140 args).run Try.prog w = .ok (.enter 140 args) w :=
  run_enter Try.func140 (by kernel_rfl) rfl args w

set_option maxRecDepth 100000 in
set_option maxHeartbeats 2000000 in
theorem drop_any (b : Nat) (D : DiskA) (F : Nat → Prop) (w : World) (h : IsDisk w b D F) (g : Nat) (hgF : ¬ F g) (n : ByteArray) (hc : w.cell? ⟨g, 0, none⟩ = some (.string n)) (f : FileA) (hf : findF D.files n = some f) :
    Calls Try.prog 120 #[ptr b, .slice (some ⟨g, 0, none⟩) 1 1] w fun e w' => e = .returned (.tuple #[]) ∧ IsDisk w' b (D.drop1 f) F ∧ Step F w F w' := by
  unfold ptr
  have hfm := (findF_some hf).1
  have hfn := (findF_some hf).2
  obtain ⟨m, v, hb, hm, hrow, fm, fg⟩ := h.head
  have c2 : w.cell? ⟨b, 2, none⟩ = some (.map (some m)) := hb.cell 2
  have hlk := run_look h.ok.names hm n
  unfold lookV at hlk
  rw [hf] at hlk
  unfold ptr at hlk
  dsimp only at hlk
  have hB1 : Below w.heap.size w (w.alloc (.cells #[.pointer (some ⟨f.id, 0, none⟩)] 121)) := (Below.refl _ w).alloc (Nat.le_refl _) _
  have hN1 : Blk (w.alloc (.cells #[.pointer (some ⟨f.id, 0, none⟩)] 121)) w.heap.size #[.pointer (some ⟨f.id, 0, none⟩)] 121 := Blk.new _ _ _
  have hd1 := h.below hB1
  have hb1 := hb.at (hB1.block _ hb.lt)
  have c3 : (w.alloc (.cells #[.pointer (some ⟨f.id, 0, none⟩)] 121)).cell? ⟨b, 3, none⟩ = some v := hb1.cell 3
  have hrow1 : (w.alloc (.cells #[.pointer (some ⟨f.id, 0, none⟩)] 121)).ownsRow 0 127 3 v D.waits.length (waitCells D.waits) := owns_kept hrow (fun g hg => hB1.block g (World.ownsRow.lt hrow g hg).2)
  have hpe : PredEnv (w.alloc (.cells #[.pointer (some ⟨f.id, 0, none⟩)] 121)) w.heap.size f.id D.waits := by
    refine ⟨hN1.cell 0, ⟨_, (hd1.files f hfm).2⟩, fun x hx => ?_⟩
    obtain ⟨g, hg, e⟩ := h.ok.waits x hx
    rw [← e]; exact ⟨_, (hd1.files g hg).2⟩
  have cD := DeleteFuncV 140 w.heap.size f.id enter_drop1 (drop1_pred _ _) v D.waits _ hrow1 hpe (owned_ne hrow1 hN1 (by decide))
  have hob := owned_ne hrow1 hb1 (by decide)
  have hbH := Lib.hid hb1
  have hbl := hb1.lt
  have hows : ∀ x ∈ others D.waits f.id, ∃ g ∈ D.files, g.id = x.id := fun x hx => h.ok.waits x (List.mem_filter.1 hx).1
  have hapart : Hid (∀ x ∈ others D.waits f.id, ∀ g ∈ D.files, g.id = x.id → g.name ≠ n) := by
    intro x hx g hg e en
    have : g = f := nodup_name_eq h.ok.names hg hfm (en.trans hfn.symm)
    subst this
    have := (List.mem_filter.1 hx).2
    simp [e] at this
  have hnm := h.ok.names
  clear hm hrow hrow1 fm fg hf hb hb1 hN1 hpe
  go_enter Try.func120, Try.ntmps120
  go_wp2
  go_loopw [9] (fun i wr => (i = .int .i64 0 ∧ wr = w) ∨ (i = .int .i64 1 ∧ IsDisk wr b (D.drop1 f) F ∧ Step F w F wr)) (fun i _ => 1 - (intOf i).toNat)
  case atStart => exact .inl ⟨rfl, rfl⟩
  case round =>
    rcases hrel with ⟨rfl, rfl⟩ | ⟨rfl, hd, hS⟩
    · go_wp2_with (go_at_call 118; (with_reducible refine cD.mono ?_); rintro e w3 ⟨a', n', cap', rfl, hr3, hS3, ho3⟩
                   have hb3 := hbH.out.at (hS3.block _ hbl hob)
                   have e3 : w3.cell? ⟨b, 3, none⟩ = some v := hb3.cell 3
                   have f3 := hb3.frozen 3
                   have hd4 := (hd1.waited hbH.out hr3 hS3 ho3 hows)
                   obtain ⟨m4, v4, hb4, hm4, hr4, fm4, fg4⟩ := hd4.1.head
                   have e4 : (w3.setCell ⟨b, 3, none⟩ (.slice a' n' cap')).cell? ⟨b, 2, none⟩ = some (.map (some m4)) := hb4.cell 2
                   obtain ⟨w5, hdel, hm5, hg5, hz5⟩ := run_del hm4 hnm n
                   have hd5 := hd4.1.removed n hb4 hm5 hg5 hapart.out
                   clear hb3 hb4 hm4 hr4 fm4 fg4)
      go_roundw
      case rel =>
        refine .inr ⟨rfl, ?_, ((Step.of_below hB1).trans hd4.2).trans hd5.2⟩
        unfold DiskA.drop1
        rw [hfn]
        exact hd5.1
      case measure => simp [intOf]
    · go_wp2
      go_end0
      exact ⟨rfl, hd, hS⟩
end Go.Proofs.Ytndpmjanflahhaa
