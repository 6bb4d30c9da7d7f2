/-
  disk.Crash where nothing is laid: the plan keeps none, or no write waits. disk.Crash, whatever the plan.
-/
import Derived.Test.YtndpmjanflahhaaDk29
namespace Go.Proofs.Ytndpmjanflahhaa
open Go.RowKit Go.MapKept

theorem clear_nil (w : World) (ty : TypeId) : (Builtin.clear_ #[118] ty #[.slice none 0 0]).run Try.prog w = .ok (.tuple #[]) w := by
  simp [Builtin.clear_, run_underlying Try.underlying118]

/-- The head behind a crash. -/
theorem crash_head {w w5 : World} {b : Nat} {E D' : DiskA} {F : Nat → Prop} (hd : IsDisk w b E F) {m : Nat} {v v' : Value}
    (hb : Blk w b #[.int .i64 E.left, .bool E.down, .map (some m), v, .int .i64 E.cap] 120)
    (hr' : w5.ownsRow 0 127 3 v' 0 []) (hs : Step (fun k => v.ownBlock = some k) w (fun k => v.ownBlock = some k) w5) (hv : v'.ownBlock = v.ownBlock)
    (hD : D' = { E with left := -1, down := false, waits := [] }) :
    IsDisk (((w5.setCell ⟨b, 3, none⟩ v').setCell ⟨b, 0, none⟩ (.int .i64 (-1))).setCell ⟨b, 1, none⟩ (.bool false)) b D' F ∧ Step F w F (((w5.setCell ⟨b, 3, none⟩ v').setCell ⟨b, 0, none⟩ (.int .i64 (-1))).setCell ⟨b, 1, none⟩ (.bool false)) := by
  have hwt := hd.waited (l := []) hb (v' := v') hr' hs hv (by simp)
  have hokw := hwt.1.ok
  have hokc : D'.Ok := by
    rw [hD]
    exact ⟨hokw.names, hokw.ids, ⟨show (-1 : Int) ≤ -1 by decide, show (-1 : Int) ≤ 9223372036854775807 by decide⟩, hokw.cap, hokw.size, hokw.nameLen, hokw.files, fun x hx => by cases hx⟩
  refine ⟨?_, (hwt.2.setCell _ _ (.inl hd.own)).setCell _ _ (.inl hd.own)⟩
  refine hwt.1.head_set ?_ hokc (by rw [hD]; rfl) (by rw [hD]; rfl) ?_
  · intro q hq; rw [setCell_heap _ _ _ _ hq, setCell_heap _ _ _ _ hq]
  · intro m' v' hbb
    rw [hD]
    exact (hbb.set 0 (.int .i64 (-1))).set 1 (.bool false)

set_option maxRecDepth 100000 in
set_option maxHeartbeats 8000000 in
theorem Crash_zero (b : Nat) (D : DiskA) (F : Nat → Prop) (w : World) (h : IsDisk w b D F) (hfit : D.Fit) (ks : List Bool) (lack : Int) (hk : -9223372036854775808 ≤ lack ∧ lack ≤ 9223372036854775807)
    (kv : Value) (kn : Nat) (hkl : ks.length = kn) (hkn : kn ≤ 1099511627776) (hkv : (kv = .slice none 0 0 ∧ kn = 0) ∨ ∃ a kcap, kv = .slice (some a) kn kcap ∧ kn ≤ kcap) (hz : kn = 0 ∨ D.waits.length = 0) :
    Calls Try.prog 47 #[ptr b, .agg #[kv, .int .i64 lack]] w fun e w' => e = .returned (.tuple #[]) ∧ IsDisk w' b (D.crash ks lack) F ∧ Step F w F w' := by
  obtain ⟨hk1, hk2⟩ := hk
  have hB0 : Below w.heap.size w (w.alloc (.cells #[kv, .int .i64 lack] 44)) := (Below.refl _ w).alloc (Nat.le_refl _) _
  have hBd : Below (w.alloc (.cells #[kv, .int .i64 lack] 44)).heap.size (w.alloc (.cells #[kv, .int .i64 lack] 44)) (w.alloc (.cells #[kv, .int .i64 lack] 44)).drew := (Below.refl _ _).drew
  have hBW : Below w.heap.size w (w.alloc (.cells #[kv, .int .i64 lack] 44)).drew := hB0.trans (hBd.mono (by simp))
  have hW : ∃ W0, (w.alloc (.cells #[kv, .int .i64 lack] 44)).drew = W0 := ⟨_, rfl⟩
  obtain ⟨W0, hW0⟩ := hW
  rw [hW0] at hBW
  have hW0' := Lib.hid hW0
  have hd0 := h.tight.below hBW
  obtain ⟨m, v, hb, hm, hr, fm, fg⟩ := h.head
  obtain ⟨wn, hwn⟩ : ∃ wn, D.waits.length = wn := ⟨_, rfl⟩
  rw [hwn] at hz hr
  have hcr : D.crash ks lack = { D.stilled [] with left := -1, down := false, waits := [] } := by
    unfold DiskA.crash; rw [hkl, hwn]
    have : min kn wn = 0 := by omega
    rw [this]; rfl
  have hcr' := Lib.hid hcr
  have hv : (v = .slice none 0 0 ∧ wn = 0) ∨ ∃ gb cap, v = .slice (some ⟨gb, 0, none⟩) wn cap ∧ wn ≤ cap ∧ wn ≤ 9223372036854775807 := by
    rcases hr.2 with h2 | ⟨g, cap, cur, hv, _, _, h3, h4, _⟩
    · exact .inl h2
    · exact .inr ⟨g, cap, hv, h3, by unfold maxLen at h4; omega⟩
  have hmin : min (kn : Int) (wn : Int) = 0 := by
    rcases hz with h0 | h0 <;> rw [h0]
    · exact Int.min_eq_left (Int.natCast_nonneg _)
    · exact Int.min_eq_right (Int.natCast_nonneg _)
  have hmin1 : min (0 : Int) (wn : Int) = 0 := Int.min_eq_left (Int.natCast_nonneg _)
  have hmin2 : min (kn : Int) (0 : Int) = 0 := Int.min_eq_right (Int.natCast_nonneg _)
  have c2 : (w.alloc (.cells #[kv, .int .i64 lack] 44)).cell? ⟨b, 2, none⟩ = some (.map (some m)) := (hb.at (hB0.block _ hb.lt)).cell 2
  have c3 : (w.alloc (.cells #[kv, .int .i64 lack] 44)).cell? ⟨b, 3, none⟩ = some v := (hb.at (hB0.block _ hb.lt)).cell 3
  have d2 : W0.cell? ⟨b, 2, none⟩ = some (.map (some m)) := (hb.at (hBW.block _ hb.lt)).cell 2
  have hm0 : IsMap W0 m (D.files.map FileA.entry) := hm.at (hBW.block _ hm.lt)
  have hpl : w.heap.size < W0.heap.size := by rw [← hW0]; simp
  obtain ⟨hrg, hit⟩ := Iter.start hm0
  have hB1 : Below W0.heap.size W0 (W0.alloc (.mapIter (some m) (clockOf W0 m) #[] (clockOf W0 m))) := (Below.refl _ _).alloc (Nat.le_refl _) _
  have hd1 := hd0.below hB1
  have hRs : W0.heap.size < (W0.alloc (.mapIter (some m) (clockOf W0 m) #[] (clockOf W0 m))).heap.size := by simp
  obtain ⟨F0, hF0⟩ : ∃ F0 : Nat → Prop, F0 = (fun k => F k ∧ k < w.heap.size) := ⟨_, rfl⟩
  rw [← hF0] at hd0 hd1
  have hS1 := Step.of_below (F := F0) hB1
  have hF0k : ∀ q, F0 q → F q := by rw [hF0]; exact fun q h => h.1
  have hnR : ¬ F0 W0.heap.size := by rw [hF0]; rintro ⟨_, h⟩; omega
  have hst0 : D.stilled D.files = D := by
    show ({ D with files := (D.stilled D.files).files } : DiskA) = D
    rw [stilled_all D trivial]
  rw [← hst0] at hd1
  have hst0' := Lib.hid hst0
  have hDkn := h.ok.names
  have hDki := h.ok.ids
  have fitk := hfit
  have hBW' := Lib.hid hBW
  clear hwn hr hb hm fm fg hcr hB0 hBd hkl hW0 hm0 hBW hF0 hst0 hd0 hB1
  unfold ptr
  rcases hkv with ⟨rfl, rfl⟩ | ⟨⟨kb, ko, ksp⟩, kcap, rfl, hkc⟩ <;> rcases hv with ⟨rfl, rfl⟩ | ⟨gb, cap, rfl, hwc, _⟩
  all_goals
    go_enter Try.func47, Try.ntmps47
    go_wp2
    go_region
    go_wp2
    rw [hW0'.out]
    refine wp_loop_rounds 1 ?_
    rw [rounds_succ]
    go_wp2
    generalize W0.alloc (.mapIter (some m) (clockOf W0 m) #[] (clockOf W0 m)) = W1 at *
    obtain ⟨R, hR0⟩ : ∃ R, R = W0.heap.size := ⟨_, rfl⟩
    rw [← hR0] at hit hnR ⊢
    have hRR := Lib.hid hR0
    clear hR0
    go_loopg [8] D.files.length (fun g s W => ∃ left : List FileA, Iter W R m D.files left ∧ IsDisk W b (D.stilled left) F0 ∧ Step F0 W0 F0 W ∧ (∀ x ∈ left, x ∈ D.files) ∧ left.length = g ∧ W1.heap.size ≤ W.heap.size)
    case atStart => exact ⟨D.files, hit, hd1, hS1, fun _ h => h, rfl, Nat.le_refl _⟩
    case round =>
      obtain ⟨left, hI, hdl, hSl, hsub, hg, hsz⟩ := hrel
      rcases hI.next hDkn with ⟨rfl, hnx⟩ | ⟨f, hf, hff, w2, hg2, hsz2, hI2, hnx, hen⟩
      · obtain ⟨m4, v4, hb4, hm4, hr4, fm4, fg4⟩ := hdl.head
        generalize hwn4 : (D.stilled []).waits.length = n4 at hr4
        have k3 : wr.cell? ⟨b, 3, none⟩ = some v4 := hb4.cell 3
        rcases hr4.2 with ⟨hv4, hn4⟩ | ⟨g4, cap4, cur4, hv4, _, hh4, hle4, hcm4, _⟩
        · subst hv4
          have k0 : wr.cell? ⟨b, 0, none⟩ = some (.int .i64 (D.stilled []).left) := hb4.cell 0
          have k1 : wr.cell? ⟨b, 1, none⟩ = some (.bool (D.stilled []).down) := hb4.cell 1
          have f0 := hb4.frozen 0
          have f1 := hb4.frozen 1
          have f3 := hb4.frozen 3
          have hcl := fun ty => clear_nil wr ty
          have hfin := crash_head (D' := D.crash ks lack) hdl hb4 (v' := .slice none 0 0) (w5 := wr) ⟨rfl, .inl ⟨rfl, rfl⟩⟩ (Step.refl _ _) rfl hcr'.out
          clear hwn4 hn4 hr4 hb4
          go_wp2
          go_end0
          exact ⟨rfl, hfin.1.mono hF0k, (Step.of_below hBW'.out).trans ((hSl.trans hfin.2).mono hF0k)⟩
        · subst hv4
          subst hwn4
          have hrw : WRow wr g4 cap4 (D.stilled []).waits := hr4
          obtain ⟨w5, hcl, hr5, hs5, hz5⟩ := hrw.clear (i := 0) (Nat.zero_le _)
          have hbg : b ≠ g4 := hrw.blk_ne hb4 (by decide)
          have hb5 := hb4.at (hs5.block b hb4.lt hbg)
          have k53 : w5.cell? ⟨b, 3, none⟩ = some (.slice (some ⟨g4, 0, none⟩) (D.stilled []).waits.length cap4) := hb5.cell 3
          have k50 : w5.cell? ⟨b, 0, none⟩ = some (.int .i64 (D.stilled []).left) := hb5.cell 0
          have k51 : w5.cell? ⟨b, 1, none⟩ = some (.bool (D.stilled []).down) := hb5.cell 1
          have f50 := hb5.frozen 0
          have f51 := hb5.frozen 1
          have f53 := hb5.frozen 3
          have e1 : (fun q => (Value.slice (some ⟨g4, 0, none⟩) (D.stilled []).waits.length cap4).ownBlock = some q) = (· = g4) := by
            funext q; simp [Value.ownBlock, eq_comm]
          have hfin := crash_head (D' := D.crash ks lack) hdl hb4 (v' := .slice (some ⟨g4, 0, none⟩) 0 cap4) (w5 := w5) hr5 (by rw [e1]; exact hs5) rfl hcr'.out
          simp only [Nat.zero_mul, Nat.sub_zero] at hcl
          have hlen : (D.stilled []).waits.length ≤ 9223372036854775807 := by unfold maxLen at hcm4; omega
          generalize (D.stilled []).waits.length = n4 at *
          clear hr4 hb4 e1 hb5 hr5 hs5 hrw hh4
          go_wp2
          go_end0
          exact ⟨rfl, hfin.1.mono hF0k, (Step.of_below hBW'.out).trans ((hSl.trans hfin.2).mono hF0k)⟩
      · have hkeep : ∀ q, q < wr.heap.size → q ≠ R → w2.heap[q]? = wr.heap[q]? := fun q hq hne => hg2.block q hq (fun e => hne (by cases e; rfl))
        have hd2 : IsDisk w2 b (D.stilled left) F0 := hdl.kept (fun q hq hlt => hkeep q hlt (fun e => hnR (e ▸ hq)))
        have hfS : f ∈ (D.stilled left).files := List.mem_map.2 ⟨f, hff, by rw [if_pos]; rw [List.any_eq_true]; exact ⟨f, hf, (bytes_beq _ _).2 rfl⟩⟩
        have hfb := (hd2.files f hfS).2
        have hfF := (hd2.files f hfS).1
        have e0 : w2.cell? ⟨f.id, 0, none⟩ = some (.string f.image) := hfb.cell 0
        have e1 : w2.cell? ⟨f.id, 1, none⟩ = some (.string f.now) := hfb.cell 1
        have e2 := hfb.frozen 1
        have hRf : R ≠ f.id := fun e => hnR (by rw [e]; exact hfF)
        have hmf : m ≠ f.id := by
          rintro rfl
          obtain ⟨es, cl, seen, _, h1, _⟩ := hI2
          unfold Blk at hfb; rw [h1] at hfb; cases hfb
        have hnw := hd2.nowed hfS f.image (fitk.image f hff)
        rw [stilled_step hDkn hDki hff hf hsub] at hnw
        have hS2 : Step F0 W0 F0 w2 := ⟨hg2.os.trans hSl.os, hg2.tape.trans hSl.tape, hg2.output.trans hSl.output, by have := hSl.size; omega, fun q hq hne => (hkeep q (Nat.lt_of_lt_of_le hq hSl.size) (by have := hRR.out; omega)).trans (hSl.block q hq hne), fun _ h => .inl h⟩
        have hwl := without_length hf
        clear hfb
        go_wp2
        go_roundg (without left f).length
        case measure => omega
        case rel => exact ⟨without left f, hI2.at (setCell_heap _ _ _ _ hRf) (setCell_heap _ _ _ _ hmf), hnw.1, hS2.trans hnw.2, fun x hx => hsub x (List.mem_filter.1 hx).1, rfl, by rw [setCell_size]; omega⟩

/-- A slice of bools that is none of the blocks F. -/
def KeepV (w : World) (F : Nat → Prop) (ka : Option Addr) (kcap : Nat) (ks : List Bool) : Prop :=
  (ka = none ∧ ks = [] ∧ kcap = 0) ∨ ∃ a, ka = some a ∧ ks.length ≤ kcap ∧ ∀ i x, ks[i]? = some x → ∃ g o, a = ⟨g, o, none⟩ ∧ w.cell? ⟨g, o + i, none⟩ = some (.bool x) ∧ ¬ F g
theorem KeepV.kept {w w' : World} {F F' : Nat → Prop} {ka : Option Addr} {kcap : Nat} {ks : List Bool} (h : KeepV w F ka kcap ks) (hk : ∀ q, q < w.heap.size → ¬ F q → w'.heap[q]? = w.heap[q]? ∧ ¬ F' q) : KeepV w' F' ka kcap ks := by
  rcases h with h | ⟨a, hv, hc, h⟩
  · exact .inl h
  · refine .inr ⟨a, hv, hc, fun i x hx => ?_⟩
    obtain ⟨g, o, ha, hcell, hF⟩ := h i x hx
    have := hk g (World.block_lt_of_cell? _ _ hcell) hF
    exact ⟨g, o, ha, by unfold World.cell? at *; rw [this.1]; exact hcell, this.2⟩

theorem Crash_any (b : Nat) (D : DiskA) (F : Nat → Prop) (w : World) (h : IsDisk w b D F) (hfit : D.Fit) (ks : List Bool) (lack : Int) (hk : -9223372036854775808 ≤ lack ∧ lack ≤ 9223372036854775807)
    (ka : Option Addr) (kcap : Nat) (hkl : ks.length ≤ 1099511627776) (hkv : KeepV w F ka kcap ks) :
    Calls Try.prog 47 #[ptr b, .agg #[.slice ka ks.length kcap, .int .i64 lack]] w fun e w' => e = .returned (.tuple #[]) ∧ IsDisk w' b (D.crash ks lack) F ∧ Step F w F w' := by
  by_cases hz : ks.length = 0 ∨ D.waits.length = 0
  · refine Crash_zero b D F w h hfit ks lack hk _ ks.length rfl hkl ?_ hz
    rcases hkv with ⟨h1, h2, h3⟩ | ⟨a, h1, h2, _⟩
    · exact .inl ⟨by rw [h1, h2, h3]; rfl, by rw [h2]; rfl⟩
    · exact .inr ⟨a, kcap, by rw [h1], h2⟩
  · rcases hkv with ⟨h1, h2, _⟩ | ⟨a, rfl, h2, h3⟩
    · exact absurd (.inl (by rw [h2]; rfl)) hz
    · obtain ⟨kb, ko, rfl, hc0, hF⟩ := h3 0 (ks[0]'(by omega)) (by simp)
      obtain ⟨m, v, hb, hm, hr, fm, fg⟩ := h.head
      rcases hr.2 with ⟨_, hw0⟩ | ⟨g, cap, cur, rfl, _⟩
      · exact absurd (.inr hw0) hz
      · refine Crash_some b D F w h hfit ks lack hk kb ko kcap hkl h2 ?_ hF (World.block_lt_of_cell? _ _ hc0) m g cap hb
        intro i x hx
        obtain ⟨g', o', e, hc, _⟩ := h3 i x hx
        cases e
        exact hc
end Go.Proofs.Ytndpmjanflahhaa
