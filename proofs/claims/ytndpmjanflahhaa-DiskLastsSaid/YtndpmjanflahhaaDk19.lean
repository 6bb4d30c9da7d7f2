/-
  (*disk.Disk).lasts: of each file named the image is what it has, none of its writes waits.
-/
import Derived.Test.YtndpmjanflahhaaDk18
namespace Go.Proofs.Ytndpmjanflahhaa
open Go.RowKit Go.MapKept

def DiskA.last1 (D : DiskA) (f : FileA) : DiskA := (D.imaged f.id f.now).waited (others D.waits f.id)
def DiskA.lastOf (D : DiskA) (s : ByteArray) : DiskA := match findF D.files s with | some f => D.last1 f | none => D
def DiskA.lasts (D : DiskA) (ss : List ByteArray) : DiskA := ss.foldl DiskA.lastOf D

theorem findF_turn {l : List FileA} {id : Nat} {u : FileA → FileA} (hu : ∀ g, (u g).name = g.name) (s : ByteArray) : (findF (turn l id u) s) = (findF l s).map (fun g => if g.id = id then u g else g) := by
  unfold findF turn
  induction l with
  | nil => rfl
  | cons x t ih =>
    have hn : (if x.id = id then u x else x).name = x.name := by split; exact hu x; rfl
    simp only [List.map_cons, List.find?_cons, hn]
    cases x.name == s
    · exact ih
    · rfl
theorem lastOf_some (D : DiskA) (s t : ByteArray) : (findF (D.lastOf s).files t).isSome = (findF D.files t).isSome := by
  unfold DiskA.lastOf
  split
  · rename_i f _
    show (findF (turn _ _ _) t).isSome = _
    rw [findF_turn (u := FileA.setImage f.now) (fun _ => rfl)]; simp
  · rfl
theorem lasts_some (ss : List ByteArray) (D : DiskA) (t : ByteArray) : (findF (D.lasts ss).files t).isSome = (findF D.files t).isSome := by
  induction ss generalizing D with
  | nil => rfl
  | cons x l ih => show (findF ((D.lastOf x).lasts l).files t).isSome = _; rw [ih, lastOf_some]
theorem lasts_snoc (D : DiskA) (ss : List ByteArray) (s : ByteArray) : D.lasts (ss ++ [s]) = (D.lasts ss).lastOf s := by unfold DiskA.lasts; rw [List.foldl_append]; rfl

theorem take_succ_strs {l : List ByteArray} {j : Nat} {x : ByteArray} (h : l[j]? = some x) : l.take (j + 1) = l.take j ++ [x] := by rw [List.take_add_one, h]; rfl
/-- One's own blocks all lie there. -/
theorem IsDisk.tight {w : World} {b : Nat} {D : DiskA} {F : Nat → Prop} (h : IsDisk w b D F) : IsDisk w b D (fun k => F k ∧ k < w.heap.size) := by
  obtain ⟨ok, ⟨m, v, hb, hm, hr, fm, fg⟩, fb, hf⟩ := h
  exact ⟨ok, ⟨m, v, hb, hm, hr, ⟨fm, hm.lt⟩, fun g hg => ⟨fg g hg, (World.ownsRow.lt hr g hg).2⟩⟩, ⟨fb, hb.lt⟩, fun f hfm => ⟨⟨(hf f hfm).1, (hf f hfm).2.lt⟩, (hf f hfm).2⟩⟩
theorem StrSl.kept {w w' : World} {a : Option Addr} {ss : List ByteArray} (h : StrSl w a ss) (hk : ∀ x, a = some x → w'.heap[x.block]? = w.heap[x.block]?) : StrSl w' a ss := by
  intro i s hi
  obtain ⟨b, off, ha, hc⟩ := h i s hi
  refine ⟨b, off, ha, ?_⟩
  rw [← hc]; simp only [World.cell?]; rw [hk _ ha]
theorem StrSl.lt {w : World} {a : Option Addr} {ss : List ByteArray} (h : StrSl w a ss) (hne : 0 < ss.length) {x : Addr} (hx : a = some x) : x.block < w.heap.size := by
  obtain ⟨b, off, ha, hc⟩ := h 0 ss[0] (by simp [hne])
  rw [ha] at hx; cases hx
  exact World.block_lt_of_cell? _ _ hc
theorem StrSl.step {F F' : Nat → Prop} {w w' : World} {a : Option Addr} {ss : List ByteArray} (h : StrSl w a ss) (hs : Step F w F' w') (hF : 0 < ss.length → ∀ x, a = some x → ¬ F x.block) : StrSl w' a ss := by
  intro i s hi
  have hlt : ∀ x, a = some x → x.block < w.heap.size := fun x hx => h.lt (by have := (List.getElem?_eq_some_iff.1 hi).1; omega) hx
  exact h.kept (fun x hx => hs.block _ (hlt x hx) (hF (by have := (List.getElem?_eq_some_iff.1 hi).1; omega) x hx)) i s hi

theorem run_enter {P : Program} {f : FuncId} {fn : Func} {c : Code} (hf : P.funcs[f]? = some fn) (hname : (fn.name == "runtime.NumGoroutine") = false) (hb : fn.body = some c) (args : Array Value) (w : World) :
    (callFunc f args).run P w = .ok (.enter f args) w := by
  have h1 : fn.name ≠ "runtime.NumGoroutine" := by simpa using hname
  simp [callFunc, hf, h1, hb]
theorem enter_lasts1 (args : Array Value) (w : World) : (callFunc 119 args).run Try.prog w = .ok (.enter 119 args) w :=
  run_enter Try.func119 (by kernel_rfl) rfl args w

set_option maxRecDepth 100000 in
set_option maxHeartbeats 2000000 in
theorem lasts_any (b : Nat) (D : DiskA) (F : Nat → Prop) (w : World) (h : IsDisk w b D F) (a : Option Addr) (cap : Nat) (ss : List ByteArray) (hl : ss.length ≤ 1000000) (hr : StrSl w a ss) (hF : 0 < ss.length → ∀ x, a = some x → ¬ F x.block)
    (hall : ∀ s ∈ ss, (findF D.files s).isSome = true) :
    Calls Try.prog 87 #[ptr b, .slice a ss.length cap] w fun e w' => e = .returned (.tuple #[]) ∧ IsDisk w' b (D.lasts ss) F ∧ Step F w F w' := by
  obtain ⟨n, hn⟩ : ∃ n, ss.length = n := ⟨_, rfl⟩
  rw [hn]
  have hn' := Lib.hid hn
  rw [hn] at hl
  clear hn
  unfold ptr
  go_enter Try.func87, Try.ntmps87
  go_wp2
  go_loopw [9] (fun i wr => ∃ k : Nat, k ≤ n ∧ i = .int .i64 k ∧ IsDisk wr b (D.lasts (ss.take k)) F ∧ Step F w F wr) (fun i _ => n - (intOf i).toNat)
  case atStart => exact ⟨0, by omega, rfl, h, Step.refl F _⟩
  case round =>
    obtain ⟨k, hk, rfl, hd, hS⟩ := hrel
    by_cases hkn : k < n
    · have hkl : k < ss.length := by rw [hn'.out]; exact hkn
      have hr2 := hr.step hS hF
      obtain ⟨b', off, rfl, hcell⟩ := hr2.at (by omega)
      obtain ⟨s, hs⟩ : ∃ s, ss[k]? = some s := ⟨ss[k], by simp [hkl]⟩
      have hc := hcell k s hs
      have hst := Lib.hid (lasts_snoc D (ss.take k) s)
      have htk : Hid (ss.take (k + 1) = ss.take k ++ [s]) := take_succ_strs hs
      have hsome : (findF (D.lasts (ss.take k)).files s).isSome = true := by rw [lasts_some]; exact hall s (List.mem_of_getElem? hs)
      obtain ⟨f, hf⟩ := Option.isSome_iff_exists.1 hsome
      have hlo : Hid ((D.lasts (ss.take k)).lastOf s = (D.lasts (ss.take k)).last1 f) := by show _ = _; unfold DiskA.lastOf; rw [hf]
      clear hs hcell hr2 hkl hsome hall
      generalize D.lasts (ss.take k) = Dk at *
      obtain ⟨m, v, hb, hm, hrow, fm, fg⟩ := hd.head
      have c2 : wr.cell? ⟨b, 2, none⟩ = some (.map (some m)) := hb.cell 2
      have hlk := run_look hd.ok.names hm s
      unfold lookV at hlk
      rw [hf] at hlk
      unfold ptr at hlk
      dsimp only at hlk
      have hfm := (findF_some hf).1
      clear hf
      have hfb := (hd.files f hfm).2
      have k0 : wr.cell? ⟨f.id, 0, none⟩ = some (.string f.image) := hfb.cell 0
      have k1 : wr.cell? ⟨f.id, 1, none⟩ = some (.string f.now) := hfb.cell 1
      have kf := hfb.frozen 0
      have hfl := hfb.lt
      clear hb hm hrow fm fg hfb
      go_wp2
      have hB1 : Below wr.heap.size wr (wr.alloc (.cells #[.pointer (some ⟨f.id, 0, none⟩)] 121)) := (Below.refl _ wr).alloc (Nat.le_refl _) _
      have hN1 : Blk (wr.alloc (.cells #[.pointer (some ⟨f.id, 0, none⟩)] 121)) wr.heap.size #[.pointer (some ⟨f.id, 0, none⟩)] 121 := Blk.new _ _ _
      have hsz1 : (wr.alloc (.cells #[.pointer (some ⟨f.id, 0, none⟩)] 121)).heap.size = wr.heap.size + 1 := by simp
      clear k0 k1 kf c2
      generalize wr.alloc (.cells #[.pointer (some ⟨f.id, 0, none⟩)] 121) = W1 at *
      have hd1 := hd.below hB1
      have hfb := (hd1.files f hfm).2
      have k0 : W1.cell? ⟨f.id, 0, none⟩ = some (.string f.image) := hfb.cell 0
      have k1 : W1.cell? ⟨f.id, 1, none⟩ = some (.string f.now) := hfb.cell 1
      have kf := hfb.frozen 0
      have kc : W1.cell? ⟨wr.heap.size, 0, none⟩ = some (.pointer (some ⟨f.id, 0, none⟩)) := hN1.cell 0
      obtain ⟨hd2, hS2⟩ := hd1.imaged hfm f.now
      have hBd : Below (W1.setCell ⟨f.id, 0, none⟩ (.string f.now)).heap.size (W1.setCell ⟨f.id, 0, none⟩ (.string f.now)) (W1.setCell ⟨f.id, 0, none⟩ (.string f.now)).drew := (Below.refl _ _).drew
      have hN2 := (hN1.at (setCell_heap W1 ⟨f.id, 0, none⟩ (.string f.now) _ (show wr.heap.size ≠ f.id by omega))).at (hBd.block _ (by rw [setCell_size]; omega))
      have hd2 := hd2.below hBd
      have hS2 := hS2.trans (Step.of_below (F := F) hBd)
      obtain ⟨m', v, hb, hm, hrow, fm, fg⟩ := hd2.head
      have c3 : (W1.setCell ⟨f.id, 0, none⟩ (.string f.now)).drew.cell? ⟨b, 3, none⟩ = some v := hb.cell 3
      have c3' : (W1.setCell ⟨f.id, 0, none⟩ (.string f.now)).cell? ⟨b, 3, none⟩ = some v := c3
      have hfs : ∀ g ∈ Dk.files, ∃ c1, Blk (W1.setCell ⟨f.id, 0, none⟩ (.string f.now)).drew g.id c1 124 := by
        intro g hg
        have : (if g.id = f.id then FileA.setImage f.now g else g) ∈ (Dk.imaged f.id f.now).files := List.mem_map.2 ⟨g, hg, rfl⟩
        have h2 := (hd2.files _ this).2
        split at h2 <;> exact ⟨_, h2⟩
      have hpe : PredEnv (W1.setCell ⟨f.id, 0, none⟩ (.string f.now)).drew wr.heap.size f.id Dk.waits := by
        refine ⟨hN2.cell 0, hfs f hfm, fun x hx => ?_⟩
        obtain ⟨g, hg, e⟩ := hd.ok.waits x hx
        rw [← e]; exact hfs g hg
      have cD := DeleteFuncV 119 wr.heap.size f.id enter_lasts1 (lasts1_pred _ _) v Dk.waits _ hrow hpe (owned_ne hrow hN2 (by decide))
      have hob := owned_ne hrow hb (by decide)
      have hbl := hb.lt
      have hbH := Lib.hid hb
      have hows : ∀ x ∈ others Dk.waits f.id, ∃ g ∈ (Dk.imaged f.id f.now).files, g.id = x.id := fun x hx => hd2.ok.waits x (List.mem_filter.1 hx).1
      clear hb hm hrow fm fg hfs hpe hfb hN1 hN2
      go_region
      go_wp2_with (go_at_call 118; (with_reducible refine cD.mono ?_); rintro e w3 ⟨a', n', cap', rfl, hr3, hS3, ho3⟩
                   have hb3 := hbH.out.at (hS3.block _ hbl hob)
                   have e3 : w3.cell? ⟨b, 3, none⟩ = some v := hb3.cell 3
                   have f3 := hb3.frozen 3
                   clear hb3)
      go_roundw
      case rel =>
        obtain ⟨hd4, hS4⟩ := hd2.waited hbH.out hr3 hS3 ho3 hows
        refine ⟨k + 1, by omega, by go_num, ?_, ((hS.trans (Step.of_below hB1)).trans hS2).trans hS4⟩
        rw [htk.out, hst.out, hlo.out]
        exact hd4
      case measure => simp [intOf]; omega
    · have : k = n := by omega
      subst this
      rw [List.take_of_length_le (Nat.le_of_eq hn'.out)] at hd
      go_wp2
      go_end0
      exact ⟨rfl, hd, hS⟩
end Go.Proofs.Ytndpmjanflahhaa
