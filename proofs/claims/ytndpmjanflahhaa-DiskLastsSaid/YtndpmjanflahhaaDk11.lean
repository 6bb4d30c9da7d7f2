/-
  THE WALK OF disk.Write where there is room: the fuse has burnt; an empty text; a text.
-/
import Derived.Test.YtndpmjanflahhaaDk10
namespace Go.Proofs.Ytndpmjanflahhaa
open Go.RowKit Go.MapKept

theorem info_write : (Try.prog.info? 127).map (fun i => (i.zero, i.size, i.bytes)) = some (some (.agg #[.pointer none, .int .i64 0, .string ByteArray.empty]), 3, 32) := by kernel_rfl
theorem new_cells3 (w : World) (a b c : Value) (T : TypeId) : ∀ j u, [a, b, c][j]? = some u → (w.alloc (.cells #[a, b, c] T)).cell? ((⟨w.heap.size, 0, none⟩ : Addr).add j) = some u := by
  intro j u hj
  match j, hj with
  | 0, hj => simp at hj; subst hj; simp [Addr.add]
  | 1, hj => simp at hj; subst hj; simp [Addr.add]
  | 2, hj => simp at hj; subst hj; simp [Addr.add]
  | j + 3, hj => simp at hj
theorem new_cells3' (w : World) (K : Nat) (hK : w.heap.size = K) (a b c : Value) (T : TypeId) : ∀ j u, [a, b, c][j]? = some u → (w.alloc (.cells #[a, b, c] T)).cell? ((⟨K, 0, none⟩ : Addr).add j) = some u := by
  subst hK; exact new_cells3 w a b c T

section
variable (b : Nat) (D : DiskA) (F : Nat → Prop) (w : World) (n : ByteArray) (p : Nat) (s : ByteArray)

set_option maxRecDepth 100000 in
set_option maxHeartbeats 8000000 in
theorem Write_burnt_yes (hdn : D.down = false) (f : FileA) (hf : findF D.files n = some f) (hp1 : p ≤ f.now.size) (hs : s.size ≤ 1073741824)
    (hC : (D.cap : Int) - sizes D.files < p + s.size - f.now.size ∧ ¬ (f.now.size : Int) < p + s.size) (hbn : D.burn.1 = false) (h : IsDisk w b D F) :
    Calls Try.prog 42 #[ptr b, .string n, .int .i64 p, .string s] w fun e' w' => e' = .returned (errn 8) ∧ IsDisk w' b D.burn.2 F ∧ Step F w F w' := by
  have hw1 := alloc_disk h (.cells #[.string n] 9)
  have cb := bars_any b D F _ hw1 _ 1 [n] (by simp) (strs_one w n)
  rw [bars_one, hdn, hf] at cb
  have hB := alloc_below w (.cells #[.string n] 9)
  obtain ⟨m, v, hb, hm, hrow, fm, fg⟩ := hw1.head
  have c2 : (w.alloc (.cells #[.string n] 9)).cell? ⟨b, 2, none⟩ = some (.map (some m)) := hb.cell 2
  have hlk := run_look h.ok.names hm n
  unfold lookV at hlk
  rw [hf] at hlk
  have hfb := (hw1.files f (findF_some hf).1).2
  have cf : (w.alloc (.cells #[.string n] 9)).cell? ⟨f.id, 1, none⟩ = some (.string f.now) := hfb.cell 1
  have cR := Room_any b D F (w.alloc (.cells #[.string n] 9)).drew (hw1.below (Below.refl _ _).drew)
  have cd := fun W hW => done_any b D F W hW
  have hlt := hfb.lt
  have hS : sizes D.files ≤ 16777216 := Nat.le_trans h.ok.size h.ok.cap
  have hCc := h.ok.cap
  have hN : f.now.size ≤ 16777216 := by have := sizes_without h.ok.names (findF_some hf).1; omega
  rw [hbn] at cd
  clear hf hdn hbn
  generalize hSD : sizes D.files = S at *
  have hSD' := Lib.hid hSD
  clear hSD
  unfold ptr errn at *
  have e1 : IntKind.i64.wrap ((p : Int) + (s.size : Int)) = p + s.size := Go.IntWalk.i64_in _ (by omega)
  have e2 : IntKind.i64.wrap ((p : Int) + (s.size : Int) - (f.now.size : Int)) = p + s.size - f.now.size := Go.IntWalk.i64_in _ (by omega)
  have hC1 := hC.1
  have d1 : decide ((D.cap : Int) - (S : Int) < p + s.size - f.now.size) = true := decide_eq_true hC.1
  have d2 : decide ((f.now.size : Int) < p + s.size) = false := decide_eq_false hC.2
  have hroom : Hid (¬ ((D.cap : Int) - (S : Int) < p + s.size - f.now.size ∧ (f.now.size : Int) < p + s.size)) := fun hh => hC.2 hh.2
  clear hC
  go_enter Try.func42, Try.ntmps42
  go_wp2_with (go_at_call 84; refine cb.mono ?_; rintro e w' ⟨rfl, rfl⟩)
  go_region_held3 (fun W => W.cell? ⟨f.id, 1, none⟩ = some (.string f.now) ∧ IsDisk W b D F ∧ Below w.heap.size w W)
    (first | exact ⟨cf, hw1, hB⟩ | exact ⟨cf, hw1.below (Below.refl _ _).drew, hB.drew⟩ | exact ⟨cf1, hd1, hB1⟩)
    (first | (go_at_call 56; refine cR.mono ?_; rintro e w1 ⟨rfl, hb1⟩; have cf1 : w1.cell? ⟨f.id, 1, none⟩ = some (.string f.now) := (hb1.cell (p := ⟨f.id, 1, none⟩) hlt).trans cf; have hd1 : IsDisk w1 b D F := (hw1.below (Below.refl _ _).drew).below hb1; have hB1 : Below w.heap.size w w1 := hB.drew.trans (hb1.mono hB.size)))
  have cd1 := cd _ hd1
  clear cd
  go_wp2_with (go_at_call 85; refine cd1.mono ?_; rintro e w2 ⟨rfl, hd2, hs2⟩)
  go_ret
  exact ⟨rfl, hd2, (Step.of_below hB1).trans hs2⟩

set_option maxRecDepth 100000 in
set_option maxHeartbeats 8000000 in
theorem Write_empty_yes (hdn : D.down = false) (f : FileA) (hf : findF D.files n = some f) (hp1 : p ≤ f.now.size) (hs : s.size ≤ 1073741824)
    (hC : (D.cap : Int) - sizes D.files < p + s.size - f.now.size ∧ ¬ (f.now.size : Int) < p + s.size) (hbn : D.burn.1 = true) (hse : s.toList = []) (h : IsDisk w b D F) :
    Calls Try.prog 42 #[ptr b, .string n, .int .i64 p, .string s] w fun e' w' => e' = .returned (errn 0) ∧ IsDisk w' b D.burn.2 F ∧ Step F w F w' := by
  have hw1 := alloc_disk h (.cells #[.string n] 9)
  have cb := bars_any b D F _ hw1 _ 1 [n] (by simp) (strs_one w n)
  rw [bars_one, hdn, hf] at cb
  have hB := alloc_below w (.cells #[.string n] 9)
  obtain ⟨m, v, hb, hm, hrow, fm, fg⟩ := hw1.head
  have c2 : (w.alloc (.cells #[.string n] 9)).cell? ⟨b, 2, none⟩ = some (.map (some m)) := hb.cell 2
  have hlk := run_look h.ok.names hm n
  unfold lookV at hlk
  rw [hf] at hlk
  have hfb := (hw1.files f (findF_some hf).1).2
  have cf : (w.alloc (.cells #[.string n] 9)).cell? ⟨f.id, 1, none⟩ = some (.string f.now) := hfb.cell 1
  have cR := Room_any b D F (w.alloc (.cells #[.string n] 9)).drew (hw1.below (Below.refl _ _).drew)
  have cd := fun W hW => done_any b D F W hW
  have hlt := hfb.lt
  have hS : sizes D.files ≤ 16777216 := Nat.le_trans h.ok.size h.ok.cap
  have hCc := h.ok.cap
  have hN : f.now.size ≤ 16777216 := by have := sizes_without h.ok.names (findF_some hf).1; omega
  rw [hbn] at cd
  clear hf hdn hbn
  generalize hSD : sizes D.files = S at *
  have hSD' := Lib.hid hSD
  clear hSD
  unfold ptr errn at *
  have e1 : IntKind.i64.wrap ((p : Int) + (s.size : Int)) = p + s.size := Go.IntWalk.i64_in _ (by omega)
  have e2 : IntKind.i64.wrap ((p : Int) + (s.size : Int) - (f.now.size : Int)) = p + s.size - f.now.size := Go.IntWalk.i64_in _ (by omega)
  have hC1 := hC.1
  have d1 : decide ((D.cap : Int) - (S : Int) < p + s.size - f.now.size) = true := decide_eq_true hC.1
  have d2 : decide ((f.now.size : Int) < p + s.size) = false := decide_eq_false hC.2
  have hroom : Hid (¬ ((D.cap : Int) - (S : Int) < p + s.size - f.now.size ∧ (f.now.size : Int) < p + s.size)) := fun hh => hC.2 hh.2
  clear hC
  go_enter Try.func42, Try.ntmps42
  go_wp2_with (go_at_call 84; refine cb.mono ?_; rintro e w' ⟨rfl, rfl⟩)
  go_region_held3 (fun W => W.cell? ⟨f.id, 1, none⟩ = some (.string f.now) ∧ IsDisk W b D F ∧ Below w.heap.size w W)
    (first | exact ⟨cf, hw1, hB⟩ | exact ⟨cf, hw1.below (Below.refl _ _).drew, hB.drew⟩ | exact ⟨cf1, hd1, hB1⟩)
    (first | (go_at_call 56; refine cR.mono ?_; rintro e w1 ⟨rfl, hb1⟩; have cf1 : w1.cell? ⟨f.id, 1, none⟩ = some (.string f.now) := (hb1.cell (p := ⟨f.id, 1, none⟩) hlt).trans cf; have hd1 : IsDisk w1 b D F := (hw1.below (Below.refl _ _).drew).below hb1; have hB1 : Below w.heap.size w w1 := hB.drew.trans (hb1.mono hB.size)))
  have cd1 := cd _ hd1
  clear cd
  go_wp2_with (go_at_call 85; refine cd1.mono ?_; rintro e w2 ⟨rfl, hd2, hs2⟩)
  go_ret
  exact ⟨rfl, hd2, (Step.of_below hB1).trans hs2⟩

set_option maxRecDepth 100000 in
set_option maxHeartbeats 8000000 in
theorem Write_put_yes (hdn : D.down = false) (f : FileA) (hf : findF D.files n = some f) (hp1 : p ≤ f.now.size) (hs : s.size ≤ 1073741824)
    (hC : (D.cap : Int) - sizes D.files < p + s.size - f.now.size ∧ ¬ (f.now.size : Int) < p + s.size) (hbn : D.burn.1 = true) (hse0 : ¬ s.toList = []) (hwl : D.waits.length < 1099511627776) (h : IsDisk w b D F) :
    Calls Try.prog 42 #[ptr b, .string n, .int .i64 p, .string s] w fun e' w' => ∃ F', e' = .returned (errn 0) ∧ IsDisk w' b (D.burn.2.put f p s) F' ∧ Step F w F' w' := by
  have hw1 := alloc_disk h (.cells #[.string n] 9)
  have cb := bars_any b D F _ hw1 _ 1 [n] (by simp) (strs_one w n)
  rw [bars_one, hdn, hf] at cb
  have hB := alloc_below w (.cells #[.string n] 9)
  obtain ⟨m, v, hb, hm, hrow, fm, fg⟩ := hw1.head
  have c2 : (w.alloc (.cells #[.string n] 9)).cell? ⟨b, 2, none⟩ = some (.map (some m)) := hb.cell 2
  have hlk := run_look h.ok.names hm n
  unfold lookV at hlk
  rw [hf] at hlk
  have hfb := (hw1.files f (findF_some hf).1).2
  have cf : (w.alloc (.cells #[.string n] 9)).cell? ⟨f.id, 1, none⟩ = some (.string f.now) := hfb.cell 1
  have cR := Room_any b D F (w.alloc (.cells #[.string n] 9)).drew (hw1.below (Below.refl _ _).drew)
  have cd := fun W hW => done_any b D F W hW
  have hlt := hfb.lt
  have hS : sizes D.files ≤ 16777216 := Nat.le_trans h.ok.size h.ok.cap
  have hCc := h.ok.cap
  have hN : f.now.size ≤ 16777216 := by have := sizes_without h.ok.names (findF_some hf).1; omega
  rw [hbn] at cd
  have hfm := (findF_some hf).1
  have hbf := burn_files D
  have hcL := fun W => laid_any f.now p s W (by omega) (by omega) hs
  have hse := isEmpty_of_ne hse0
  have hsn : Hid (s.size ≠ 0) := fun e => hse0 (nil_of_size.2 e)
  have hid0 := h.ok
  have hwl' := Lib.hid hwl
  obtain ⟨iW, hiW, hzW, hsW, hyW⟩ := info_parts info_write
  clear hf hdn hbn hse0 hwl
  generalize hSD : sizes D.files = S at *
  have hSD' := Lib.hid hSD
  clear hSD
  unfold ptr errn at *
  have e1 : IntKind.i64.wrap ((p : Int) + (s.size : Int)) = p + s.size := Go.IntWalk.i64_in _ (by omega)
  have e2 : IntKind.i64.wrap ((p : Int) + (s.size : Int) - (f.now.size : Int)) = p + s.size - f.now.size := Go.IntWalk.i64_in _ (by omega)
  have hC1 := hC.1
  have d1 : decide ((D.cap : Int) - (S : Int) < p + s.size - f.now.size) = true := decide_eq_true hC.1
  have d2 : decide ((f.now.size : Int) < p + s.size) = false := decide_eq_false hC.2
  have hroom : Hid (¬ ((D.cap : Int) - (S : Int) < p + s.size - f.now.size ∧ (f.now.size : Int) < p + s.size)) := fun hh => hC.2 hh.2
  clear hC
  go_enter Try.func42, Try.ntmps42
  go_wp2_with (go_at_call 84; refine cb.mono ?_; rintro e w' ⟨rfl, rfl⟩)
  go_region_held3 (fun W => W.cell? ⟨f.id, 1, none⟩ = some (.string f.now) ∧ IsDisk W b D F ∧ Below w.heap.size w W)
    (first | exact ⟨cf, hw1, hB⟩ | exact ⟨cf, hw1.below (Below.refl _ _).drew, hB.drew⟩ | exact ⟨cf1, hd1, hB1⟩)
    (first | (go_at_call 56; refine cR.mono ?_; rintro e w1 ⟨rfl, hb1⟩; have cf1 : w1.cell? ⟨f.id, 1, none⟩ = some (.string f.now) := (hb1.cell (p := ⟨f.id, 1, none⟩) hlt).trans cf; have hd1 : IsDisk w1 b D F := (hw1.below (Below.refl _ _).drew).below hb1; have hB1 : Below w.heap.size w w1 := hB.drew.trans (hb1.mono hB.size)))
  have cd1 := cd _ hd1
  clear cd
  go_wp2_with (first
    | (go_at_call 85; refine cd1.mono ?_; rintro e w2 ⟨rfl, hd2, hs2⟩; have hfm2 : f ∈ D.burn.2.files := (by rw [hbf.1]; exact hfm); have cf2 : w2.cell? ⟨f.id, 1, none⟩ = some (.string f.now) := (hd2.files f hfm2).2.cell 1)
    | (go_at_call 86; refine (hcL _).mono ?_; rintro e w3 ⟨rfl, hB3⟩; have hd3 := hd2.below hB3; have cf3 : w3.cell? ⟨f.id, 1, none⟩ = some (.string f.now) := (hd3.files f hfm2).2.cell 1; have ff3 := (hd3.files f hfm2).2.frozen 1; obtain ⟨m3, v3, hb3, hm3, hr3, fm3, fg3⟩ := hd3.head; have c33 : w3.cell? ⟨b, 3, none⟩ = some v3 := hb3.cell 3)
    | (at_builtin; refine wpList_append_new rfl _ _ 118 rfl 127 3 32 iW _ Try.underlying118 hiW hzW hsW hyW rfl (by decide) v3 _ _ rfl (put_owns hd3 hfm2 _ _ hr3) _ 1 1 [.pointer (some ⟨f.id, 0, none⟩), .int .i64 p, .string s] rfl rfl (new_cells3' _ _ (setCell_size _ _ _) _ _ _ _) (by simp [Value.oneCell']) (by decide) (by rw [hbf.2.1]; have := hwl'.out; unfold maxLen; omega) (by rw [hbf.2.1]; have := hwl'.out; omega) ?_; intro g4 cap4 w4 ha; have hbb := put_head hd3 hfm2 hb3 hr3 ha; have c34 : w4.cell? ⟨b, 3, none⟩ = some v3 := hbb.cell 3; have f34 := hbb.frozen 3))
  go_ret
  obtain ⟨hd4, hs4⟩ := put_disk hd3 hfm2 hb3 hm3 fm3 fg3 hr3 ha (DiskA.Ok.put hd3.ok hfm2 hsn.out (by rw [hbf.1, hbf.2.2]; have := hroom.out; rw [hSD'.out]; exact this))
  rw [hbf.2.1] at hd4 hs4
  exact ⟨_, rfl, hd4, (Step.of_below hB1).trans (hs2.trans ((Step.of_below hB3).trans hs4))⟩

set_option maxRecDepth 100000 in
set_option maxHeartbeats 8000000 in
theorem Write_burnt_no (hdn : D.down = false) (f : FileA) (hf : findF D.files n = some f) (hp1 : p ≤ f.now.size) (hs : s.size ≤ 1073741824)
    (hC : ¬ (D.cap : Int) - sizes D.files < p + s.size - f.now.size) (hbn : D.burn.1 = false) (h : IsDisk w b D F) :
    Calls Try.prog 42 #[ptr b, .string n, .int .i64 p, .string s] w fun e' w' => e' = .returned (errn 8) ∧ IsDisk w' b D.burn.2 F ∧ Step F w F w' := by
  have hw1 := alloc_disk h (.cells #[.string n] 9)
  have cb := bars_any b D F _ hw1 _ 1 [n] (by simp) (strs_one w n)
  rw [bars_one, hdn, hf] at cb
  have hB := alloc_below w (.cells #[.string n] 9)
  obtain ⟨m, v, hb, hm, hrow, fm, fg⟩ := hw1.head
  have c2 : (w.alloc (.cells #[.string n] 9)).cell? ⟨b, 2, none⟩ = some (.map (some m)) := hb.cell 2
  have hlk := run_look h.ok.names hm n
  unfold lookV at hlk
  rw [hf] at hlk
  have hfb := (hw1.files f (findF_some hf).1).2
  have cf : (w.alloc (.cells #[.string n] 9)).cell? ⟨f.id, 1, none⟩ = some (.string f.now) := hfb.cell 1
  have cR := Room_any b D F (w.alloc (.cells #[.string n] 9)).drew (hw1.below (Below.refl _ _).drew)
  have cd := fun W hW => done_any b D F W hW
  have hlt := hfb.lt
  have hS : sizes D.files ≤ 16777216 := Nat.le_trans h.ok.size h.ok.cap
  have hCc := h.ok.cap
  have hN : f.now.size ≤ 16777216 := by have := sizes_without h.ok.names (findF_some hf).1; omega
  rw [hbn] at cd
  clear hf hdn hbn
  generalize hSD : sizes D.files = S at *
  have hSD' := Lib.hid hSD
  clear hSD
  unfold ptr errn at *
  have e1 : IntKind.i64.wrap ((p : Int) + (s.size : Int)) = p + s.size := Go.IntWalk.i64_in _ (by omega)
  have e2 : IntKind.i64.wrap ((p : Int) + (s.size : Int) - (f.now.size : Int)) = p + s.size - f.now.size := Go.IntWalk.i64_in _ (by omega)
  have d1 : decide ((D.cap : Int) - (S : Int) < p + s.size - f.now.size) = false := decide_eq_false hC
  have hroom : Hid (¬ ((D.cap : Int) - (S : Int) < p + s.size - f.now.size ∧ (f.now.size : Int) < p + s.size)) := fun hh => hC hh.1
  clear hC
  go_enter Try.func42, Try.ntmps42
  go_wp2_with (go_at_call 84; refine cb.mono ?_; rintro e w' ⟨rfl, rfl⟩)
  refine wp_region_held_drew (S := fun W => W.cell? ⟨f.id, 1, none⟩ = some (.string f.now) ∧ IsDisk W b D F ∧ Below w.heap.size w W) (by kernel_rfl) ⟨cf, hw1.below (Below.refl _ _).drew, hB.drew⟩ (fun hHeld => ?_)
  refine wpAnyH_take (i := 0) (v := ?_) (oi := ⟨some 38, _, _, _, _, _⟩) rfl (by kernel_rfl) (by kernel_rfl) (by kernel_rfl) (fun _ _ _ h => h) (Or.inl ⟨rfl, ?_⟩) (by assumption) ?_
  rotate_left
  · (intro W hW; (try dsimp only at hW); go_simp; try with_reducible rfl)
  try simp only [Act.put, List.setIfInBounds_toArray, List.set_cons_zero, List.set_cons_succ]
  refine wpAnyH_take (i := 1) (v := ?_) (oi := ⟨some 39, _, _, _, _, _⟩) rfl (by kernel_rfl) (by kernel_rfl) (by kernel_rfl) (fun _ _ _ h => h) (Or.inl ⟨rfl, ?_⟩) (by assumption) ?_
  rotate_left
  · (intro W hW; (try dsimp only at hW); go_simp; try with_reducible rfl)
  try simp only [Act.put, List.setIfInBounds_toArray, List.set_cons_zero, List.set_cons_succ]
  refine wpAnyH_take (i := 2) (v := ?_) (oi := ⟨some 40, _, _, _, _, _⟩) rfl (by kernel_rfl) (by kernel_rfl) (by kernel_rfl) (fun _ _ _ h => h) (Or.inl ⟨rfl, ?_⟩) (by assumption) ?_
  rotate_left
  · (intro W hW; (try dsimp only at hW); go_simp; try with_reducible rfl)
  try simp only [Act.put, List.setIfInBounds_toArray, List.set_cons_zero, List.set_cons_succ]
  refine wpAnyH_take (i := 3) (v := ?_) (oi := ⟨some 41, _, _, _, _, _⟩) rfl (by kernel_rfl) (by kernel_rfl) (by kernel_rfl) (fun _ _ _ h => h) (Or.inl ⟨rfl, ?_⟩) (by assumption) ?_
  rotate_left
  · (intro W hW; (try dsimp only at hW); go_simp; try with_reducible rfl)
  try simp only [Act.put, List.setIfInBounds_toArray, List.set_cons_zero, List.set_cons_succ]
  refine wpAnyH_take (i := 4) (v := ?_) (oi := ⟨some 42, _, _, _, _, _⟩) rfl (by kernel_rfl) (by kernel_rfl) (by kernel_rfl) (fun _ _ _ h => h) (Or.inl ⟨rfl, ?_⟩) (by assumption) ?_
  rotate_left
  · (intro W hW; (try dsimp only at hW); go_simp; try with_reducible rfl)
  try simp only [Act.put, List.setIfInBounds_toArray, List.set_cons_zero, List.set_cons_succ]
  refine wpAnyH_take (i := 5) (v := ?_) (oi := ⟨some 43, _, _, _, _, _⟩) rfl (by kernel_rfl) (by kernel_rfl) (by kernel_rfl) (fun _ _ _ h => h) (Or.inl ⟨rfl, ?_⟩) (by assumption) ?_
  rotate_left
  · (intro W hW; (try dsimp only at hW); go_simp; try with_reducible rfl)
  try simp only [Act.put, List.setIfInBounds_toArray, List.set_cons_zero, List.set_cons_succ]
  refine wpAnyH_take (i := 6) (v := ?_) (oi := ⟨some 44, _, _, _, _, _⟩) rfl (by kernel_rfl) (by kernel_rfl) (by kernel_rfl) (fun _ _ _ h => h) (Or.inl ⟨rfl, ?_⟩) (by assumption) ?_
  rotate_left
  · (intro W hW; (try dsimp only at hW); go_simp; try with_reducible rfl)
  try simp only [Act.put, List.setIfInBounds_toArray, List.set_cons_zero, List.set_cons_succ]
  refine wpAnyH_take (i := 7) (v := ?_) (oi := ⟨some 45, _, _, _, _, _⟩) rfl (by kernel_rfl) (by kernel_rfl) (by kernel_rfl) (fun _ _ _ h => h) (Or.inl ⟨rfl, ?_⟩) (by assumption) ?_
  rotate_left
  · (intro W hW; (try dsimp only at hW); go_simp; try with_reducible rfl)
  try simp only [Act.put, List.setIfInBounds_toArray, List.set_cons_zero, List.set_cons_succ]
  refine wpAnyH_take (i := 8) (v := ?_) (oi := ⟨some 46, _, _, _, _, _⟩) rfl (by kernel_rfl) (by kernel_rfl) (by kernel_rfl) (fun _ _ _ h => h) (Or.inl ⟨rfl, ?_⟩) (by assumption) ?_
  rotate_left
  · (intro W hW; (try dsimp only at hW); go_simp; try with_reducible rfl)
  try simp only [Act.put, List.setIfInBounds_toArray, List.set_cons_zero, List.set_cons_succ]
  refine wpAnyH_take (i := 9) (v := ?_) (oi := ⟨some 47, _, _, _, _, _⟩) rfl (by kernel_rfl) (by kernel_rfl) (by kernel_rfl) (fun _ _ _ h => h) (Or.inl ⟨rfl, ?_⟩) (by assumption) ?_
  rotate_left
  · (intro W hW; (try dsimp only at hW); go_simp; try with_reducible rfl)
  try simp only [Act.put, List.setIfInBounds_toArray, List.set_cons_zero, List.set_cons_succ]
  refine wpAnyH_take (i := 10) (v := ?_) (oi := ⟨some 48, _, _, _, _, _⟩) rfl (by kernel_rfl) (by kernel_rfl) (by kernel_rfl) (fun _ _ _ h => h) (Or.inl ⟨rfl, ?_⟩) (by assumption) ?_
  rotate_left
  · (intro W hW; (try dsimp only at hW); go_simp; try with_reducible rfl)
  try simp only [Act.put, List.setIfInBounds_toArray, List.set_cons_zero, List.set_cons_succ]
  refine wpAnyH_ready (rs := [11]) (by kernel_rfl) (by simp) ?_
  refine AllReadyH.cons (o := ⟨some 49, _, _, _, _, _⟩) rfl (fun K hK => ?_) AllReadyH.nil
  go_simp
  go_at_call 56
  refine cR.mono ?_
  rintro e w1 ⟨rfl, hb1⟩
  have cf1 : w1.cell? ⟨f.id, 1, none⟩ = some (.string f.now) := (hb1.cell (p := ⟨f.id, 1, none⟩) hlt).trans cf
  have hd1 : IsDisk w1 b D F := (hw1.below (Below.refl _ _).drew).below hb1
  have hB1 : Below w.heap.size w w1 := hB.drew.trans (hb1.mono hB.size)
  refine hK.out _ _ ⟨cf1, hd1, hB1⟩ (fun hHeld1 => ?_)
  clear hK K hHeld
  try simp only [Act.put, List.setIfInBounds_toArray, List.set_cons_zero, List.set_cons_succ]
  refine wpAnyH_take (i := 12) (v := ?_) (oi := ⟨some 50, _, _, _, _, _⟩) rfl (by kernel_rfl) (by kernel_rfl) (by kernel_rfl) (fun _ _ _ h => h) (Or.inl ⟨rfl, ?_⟩) (by assumption) ?_
  rotate_left
  · (intro W hW; (try dsimp only at hW); go_simp; try with_reducible rfl)
  try simp only [Act.put, List.setIfInBounds_toArray, List.set_cons_zero, List.set_cons_succ]
  refine wpAnyH_take (i := 13) (v := ?_) (oi := ⟨some 51, _, _, _, _, _⟩) rfl (by kernel_rfl) (by kernel_rfl) (by kernel_rfl) (fun _ _ _ h => h) (Or.inl ⟨rfl, ?_⟩) (by assumption) ?_
  rotate_left
  · (intro W hW; (try dsimp only at hW); go_simp; try with_reducible rfl)
  try simp only [Act.put, List.setIfInBounds_toArray, List.set_cons_zero, List.set_cons_succ]
  refine wpAnyH_take (i := 14) (v := undef) (oi := ⟨some 52, _, _, _, _, _⟩) rfl (by kernel_rfl) (by kernel_rfl) (by kernel_rfl) (fun _ _ _ h => h) (Or.inr ⟨rfl, rfl⟩) (by assumption) ?_
  try simp only [Act.put, List.setIfInBounds_toArray, List.set_cons_zero, List.set_cons_succ]
  refine wpAnyH_take (i := 15) (v := undef) (oi := ⟨some 53, _, _, _, _, _⟩) rfl (by kernel_rfl) (by kernel_rfl) (by kernel_rfl) (fun _ _ _ h => h) (Or.inr ⟨rfl, rfl⟩) (by assumption) ?_
  try simp only [Act.put, List.setIfInBounds_toArray, List.set_cons_zero, List.set_cons_succ]
  refine wpAnyH_take (i := 16) (v := undef) (oi := ⟨some 54, _, _, _, _, _⟩) rfl (by kernel_rfl) (by kernel_rfl) (by kernel_rfl) (fun _ _ _ h => h) (Or.inr ⟨rfl, rfl⟩) (by assumption) ?_
  try simp only [Act.put, List.setIfInBounds_toArray, List.set_cons_zero, List.set_cons_succ]
  refine wpAnyH_take (i := 17) (v := undef) (oi := ⟨some 55, _, _, _, _, _⟩) rfl (by kernel_rfl) (by kernel_rfl) (by kernel_rfl) (fun _ _ _ h => h) (Or.inr ⟨rfl, rfl⟩) (by assumption) ?_
  try simp only [Act.put, List.setIfInBounds_toArray, List.set_cons_zero, List.set_cons_succ]
  refine wpAnyH_take (i := 18) (v := undef) (oi := ⟨some 56, _, _, _, _, _⟩) rfl (by kernel_rfl) (by kernel_rfl) (by kernel_rfl) (fun _ _ _ h => h) (Or.inr ⟨rfl, rfl⟩) (by assumption) ?_
  try simp only [Act.put, List.setIfInBounds_toArray, List.set_cons_zero, List.set_cons_succ]
  refine wpAnyH_take (i := 19) (v := undef) (oi := ⟨some 57, _, _, _, _, _⟩) rfl (by kernel_rfl) (by kernel_rfl) (by kernel_rfl) (fun _ _ _ h => h) (Or.inr ⟨rfl, rfl⟩) (by assumption) ?_
  try simp only [Act.put, List.setIfInBounds_toArray, List.set_cons_zero, List.set_cons_succ]
  refine wpAnyH_take (i := 20) (v := undef) (oi := ⟨some 58, _, _, _, _, _⟩) rfl (by kernel_rfl) (by kernel_rfl) (by kernel_rfl) (fun _ _ _ h => h) (Or.inr ⟨rfl, rfl⟩) (by assumption) ?_
  try simp only [Act.put, List.setIfInBounds_toArray, List.set_cons_zero, List.set_cons_succ]
  refine wpAnyH_take (i := 21) (v := undef) (oi := ⟨some 59, _, _, _, _, _⟩) rfl (by kernel_rfl) (by kernel_rfl) (by kernel_rfl) (fun _ _ _ h => h) (Or.inr ⟨rfl, rfl⟩) (by assumption) ?_
  try simp only [Act.put, List.setIfInBounds_toArray, List.set_cons_zero, List.set_cons_succ]
  refine wpAnyH_take (i := 22) (v := undef) (oi := ⟨some 60, _, _, _, _, _⟩) rfl (by kernel_rfl) (by kernel_rfl) (by kernel_rfl) (fun _ _ _ h => h) (Or.inr ⟨rfl, rfl⟩) (by assumption) ?_
  try simp only [Act.put, List.setIfInBounds_toArray, List.set_cons_zero, List.set_cons_succ]
  refine wpAnyH_take (i := 23) (v := undef) (oi := ⟨some 61, _, _, _, _, _⟩) rfl (by kernel_rfl) (by kernel_rfl) (by kernel_rfl) (fun _ _ _ h => h) (Or.inr ⟨rfl, rfl⟩) (by assumption) ?_
  try simp only [Act.put, List.setIfInBounds_toArray, List.set_cons_zero, List.set_cons_succ]
  refine wpAnyH_take (i := 24) (v := ?_) (oi := ⟨some 62, _, _, _, _, _⟩) rfl (by kernel_rfl) (by kernel_rfl) (by kernel_rfl) (fun _ _ _ h => h) (Or.inl ⟨rfl, ?_⟩) (by assumption) ?_
  rotate_left
  · (intro W hW; (try dsimp only at hW); go_simp; try with_reducible rfl)
  try simp only [Act.put, List.setIfInBounds_toArray, List.set_cons_zero, List.set_cons_succ]
  refine wpAnyH_take (i := 25) (v := ?_) (oi := ⟨some 37, _, _, _, _, _⟩) rfl (by kernel_rfl) (by kernel_rfl) (by kernel_rfl) (fun _ _ _ h => h) (Or.inl ⟨rfl, ?_⟩) (by assumption) ?_
  rotate_left
  · (intro W hW; (try dsimp only at hW); go_simp; try with_reducible rfl)
  try simp only [Act.put, List.setIfInBounds_toArray, List.set_cons_zero, List.set_cons_succ]
  refine wpAnyH_done (by kernel_rfl) ?_ _
  have cd1 := cd _ hd1
  clear cd
  go_wp2_with (go_at_call 85; refine cd1.mono ?_; rintro e w2 ⟨rfl, hd2, hs2⟩)
  go_ret
  exact ⟨rfl, hd2, (Step.of_below hB1).trans hs2⟩

set_option maxRecDepth 100000 in
set_option maxHeartbeats 8000000 in
theorem Write_empty_no (hdn : D.down = false) (f : FileA) (hf : findF D.files n = some f) (hp1 : p ≤ f.now.size) (hs : s.size ≤ 1073741824)
    (hC : ¬ (D.cap : Int) - sizes D.files < p + s.size - f.now.size) (hbn : D.burn.1 = true) (hse : s.toList = []) (h : IsDisk w b D F) :
    Calls Try.prog 42 #[ptr b, .string n, .int .i64 p, .string s] w fun e' w' => e' = .returned (errn 0) ∧ IsDisk w' b D.burn.2 F ∧ Step F w F w' := by
  have hw1 := alloc_disk h (.cells #[.string n] 9)
  have cb := bars_any b D F _ hw1 _ 1 [n] (by simp) (strs_one w n)
  rw [bars_one, hdn, hf] at cb
  have hB := alloc_below w (.cells #[.string n] 9)
  obtain ⟨m, v, hb, hm, hrow, fm, fg⟩ := hw1.head
  have c2 : (w.alloc (.cells #[.string n] 9)).cell? ⟨b, 2, none⟩ = some (.map (some m)) := hb.cell 2
  have hlk := run_look h.ok.names hm n
  unfold lookV at hlk
  rw [hf] at hlk
  have hfb := (hw1.files f (findF_some hf).1).2
  have cf : (w.alloc (.cells #[.string n] 9)).cell? ⟨f.id, 1, none⟩ = some (.string f.now) := hfb.cell 1
  have cR := Room_any b D F (w.alloc (.cells #[.string n] 9)).drew (hw1.below (Below.refl _ _).drew)
  have cd := fun W hW => done_any b D F W hW
  have hlt := hfb.lt
  have hS : sizes D.files ≤ 16777216 := Nat.le_trans h.ok.size h.ok.cap
  have hCc := h.ok.cap
  have hN : f.now.size ≤ 16777216 := by have := sizes_without h.ok.names (findF_some hf).1; omega
  rw [hbn] at cd
  clear hf hdn hbn
  generalize hSD : sizes D.files = S at *
  have hSD' := Lib.hid hSD
  clear hSD
  unfold ptr errn at *
  have e1 : IntKind.i64.wrap ((p : Int) + (s.size : Int)) = p + s.size := Go.IntWalk.i64_in _ (by omega)
  have e2 : IntKind.i64.wrap ((p : Int) + (s.size : Int) - (f.now.size : Int)) = p + s.size - f.now.size := Go.IntWalk.i64_in _ (by omega)
  have d1 : decide ((D.cap : Int) - (S : Int) < p + s.size - f.now.size) = false := decide_eq_false hC
  have hroom : Hid (¬ ((D.cap : Int) - (S : Int) < p + s.size - f.now.size ∧ (f.now.size : Int) < p + s.size)) := fun hh => hC hh.1
  clear hC
  go_enter Try.func42, Try.ntmps42
  go_wp2_with (go_at_call 84; refine cb.mono ?_; rintro e w' ⟨rfl, rfl⟩)
  refine wp_region_held_drew (S := fun W => W.cell? ⟨f.id, 1, none⟩ = some (.string f.now) ∧ IsDisk W b D F ∧ Below w.heap.size w W) (by kernel_rfl) ⟨cf, hw1.below (Below.refl _ _).drew, hB.drew⟩ (fun hHeld => ?_)
  refine wpAnyH_take (i := 0) (v := ?_) (oi := ⟨some 38, _, _, _, _, _⟩) rfl (by kernel_rfl) (by kernel_rfl) (by kernel_rfl) (fun _ _ _ h => h) (Or.inl ⟨rfl, ?_⟩) (by assumption) ?_
  rotate_left
  · (intro W hW; (try dsimp only at hW); go_simp; try with_reducible rfl)
  try simp only [Act.put, List.setIfInBounds_toArray, List.set_cons_zero, List.set_cons_succ]
  refine wpAnyH_take (i := 1) (v := ?_) (oi := ⟨some 39, _, _, _, _, _⟩) rfl (by kernel_rfl) (by kernel_rfl) (by kernel_rfl) (fun _ _ _ h => h) (Or.inl ⟨rfl, ?_⟩) (by assumption) ?_
  rotate_left
  · (intro W hW; (try dsimp only at hW); go_simp; try with_reducible rfl)
  try simp only [Act.put, List.setIfInBounds_toArray, List.set_cons_zero, List.set_cons_succ]
  refine wpAnyH_take (i := 2) (v := ?_) (oi := ⟨some 40, _, _, _, _, _⟩) rfl (by kernel_rfl) (by kernel_rfl) (by kernel_rfl) (fun _ _ _ h => h) (Or.inl ⟨rfl, ?_⟩) (by assumption) ?_
  rotate_left
  · (intro W hW; (try dsimp only at hW); go_simp; try with_reducible rfl)
  try simp only [Act.put, List.setIfInBounds_toArray, List.set_cons_zero, List.set_cons_succ]
  refine wpAnyH_take (i := 3) (v := ?_) (oi := ⟨some 41, _, _, _, _, _⟩) rfl (by kernel_rfl) (by kernel_rfl) (by kernel_rfl) (fun _ _ _ h => h) (Or.inl ⟨rfl, ?_⟩) (by assumption) ?_
  rotate_left
  · (intro W hW; (try dsimp only at hW); go_simp; try with_reducible rfl)
  try simp only [Act.put, List.setIfInBounds_toArray, List.set_cons_zero, List.set_cons_succ]
  refine wpAnyH_take (i := 4) (v := ?_) (oi := ⟨some 42, _, _, _, _, _⟩) rfl (by kernel_rfl) (by kernel_rfl) (by kernel_rfl) (fun _ _ _ h => h) (Or.inl ⟨rfl, ?_⟩) (by assumption) ?_
  rotate_left
  · (intro W hW; (try dsimp only at hW); go_simp; try with_reducible rfl)
  try simp only [Act.put, List.setIfInBounds_toArray, List.set_cons_zero, List.set_cons_succ]
  refine wpAnyH_take (i := 5) (v := ?_) (oi := ⟨some 43, _, _, _, _, _⟩) rfl (by kernel_rfl) (by kernel_rfl) (by kernel_rfl) (fun _ _ _ h => h) (Or.inl ⟨rfl, ?_⟩) (by assumption) ?_
  rotate_left
  · (intro W hW; (try dsimp only at hW); go_simp; try with_reducible rfl)
  try simp only [Act.put, List.setIfInBounds_toArray, List.set_cons_zero, List.set_cons_succ]
  refine wpAnyH_take (i := 6) (v := ?_) (oi := ⟨some 44, _, _, _, _, _⟩) rfl (by kernel_rfl) (by kernel_rfl) (by kernel_rfl) (fun _ _ _ h => h) (Or.inl ⟨rfl, ?_⟩) (by assumption) ?_
  rotate_left
  · (intro W hW; (try dsimp only at hW); go_simp; try with_reducible rfl)
  try simp only [Act.put, List.setIfInBounds_toArray, List.set_cons_zero, List.set_cons_succ]
  refine wpAnyH_take (i := 7) (v := ?_) (oi := ⟨some 45, _, _, _, _, _⟩) rfl (by kernel_rfl) (by kernel_rfl) (by kernel_rfl) (fun _ _ _ h => h) (Or.inl ⟨rfl, ?_⟩) (by assumption) ?_
  rotate_left
  · (intro W hW; (try dsimp only at hW); go_simp; try with_reducible rfl)
  try simp only [Act.put, List.setIfInBounds_toArray, List.set_cons_zero, List.set_cons_succ]
  refine wpAnyH_take (i := 8) (v := ?_) (oi := ⟨some 46, _, _, _, _, _⟩) rfl (by kernel_rfl) (by kernel_rfl) (by kernel_rfl) (fun _ _ _ h => h) (Or.inl ⟨rfl, ?_⟩) (by assumption) ?_
  rotate_left
  · (intro W hW; (try dsimp only at hW); go_simp; try with_reducible rfl)
  try simp only [Act.put, List.setIfInBounds_toArray, List.set_cons_zero, List.set_cons_succ]
  refine wpAnyH_take (i := 9) (v := ?_) (oi := ⟨some 47, _, _, _, _, _⟩) rfl (by kernel_rfl) (by kernel_rfl) (by kernel_rfl) (fun _ _ _ h => h) (Or.inl ⟨rfl, ?_⟩) (by assumption) ?_
  rotate_left
  · (intro W hW; (try dsimp only at hW); go_simp; try with_reducible rfl)
  try simp only [Act.put, List.setIfInBounds_toArray, List.set_cons_zero, List.set_cons_succ]
  refine wpAnyH_take (i := 10) (v := ?_) (oi := ⟨some 48, _, _, _, _, _⟩) rfl (by kernel_rfl) (by kernel_rfl) (by kernel_rfl) (fun _ _ _ h => h) (Or.inl ⟨rfl, ?_⟩) (by assumption) ?_
  rotate_left
  · (intro W hW; (try dsimp only at hW); go_simp; try with_reducible rfl)
  try simp only [Act.put, List.setIfInBounds_toArray, List.set_cons_zero, List.set_cons_succ]
  refine wpAnyH_ready (rs := [11]) (by kernel_rfl) (by simp) ?_
  refine AllReadyH.cons (o := ⟨some 49, _, _, _, _, _⟩) rfl (fun K hK => ?_) AllReadyH.nil
  go_simp
  go_at_call 56
  refine cR.mono ?_
  rintro e w1 ⟨rfl, hb1⟩
  have cf1 : w1.cell? ⟨f.id, 1, none⟩ = some (.string f.now) := (hb1.cell (p := ⟨f.id, 1, none⟩) hlt).trans cf
  have hd1 : IsDisk w1 b D F := (hw1.below (Below.refl _ _).drew).below hb1
  have hB1 : Below w.heap.size w w1 := hB.drew.trans (hb1.mono hB.size)
  refine hK.out _ _ ⟨cf1, hd1, hB1⟩ (fun hHeld1 => ?_)
  clear hK K hHeld
  try simp only [Act.put, List.setIfInBounds_toArray, List.set_cons_zero, List.set_cons_succ]
  refine wpAnyH_take (i := 12) (v := ?_) (oi := ⟨some 50, _, _, _, _, _⟩) rfl (by kernel_rfl) (by kernel_rfl) (by kernel_rfl) (fun _ _ _ h => h) (Or.inl ⟨rfl, ?_⟩) (by assumption) ?_
  rotate_left
  · (intro W hW; (try dsimp only at hW); go_simp; try with_reducible rfl)
  try simp only [Act.put, List.setIfInBounds_toArray, List.set_cons_zero, List.set_cons_succ]
  refine wpAnyH_take (i := 13) (v := ?_) (oi := ⟨some 51, _, _, _, _, _⟩) rfl (by kernel_rfl) (by kernel_rfl) (by kernel_rfl) (fun _ _ _ h => h) (Or.inl ⟨rfl, ?_⟩) (by assumption) ?_
  rotate_left
  · (intro W hW; (try dsimp only at hW); go_simp; try with_reducible rfl)
  try simp only [Act.put, List.setIfInBounds_toArray, List.set_cons_zero, List.set_cons_succ]
  refine wpAnyH_take (i := 14) (v := undef) (oi := ⟨some 52, _, _, _, _, _⟩) rfl (by kernel_rfl) (by kernel_rfl) (by kernel_rfl) (fun _ _ _ h => h) (Or.inr ⟨rfl, rfl⟩) (by assumption) ?_
  try simp only [Act.put, List.setIfInBounds_toArray, List.set_cons_zero, List.set_cons_succ]
  refine wpAnyH_take (i := 15) (v := undef) (oi := ⟨some 53, _, _, _, _, _⟩) rfl (by kernel_rfl) (by kernel_rfl) (by kernel_rfl) (fun _ _ _ h => h) (Or.inr ⟨rfl, rfl⟩) (by assumption) ?_
  try simp only [Act.put, List.setIfInBounds_toArray, List.set_cons_zero, List.set_cons_succ]
  refine wpAnyH_take (i := 16) (v := undef) (oi := ⟨some 54, _, _, _, _, _⟩) rfl (by kernel_rfl) (by kernel_rfl) (by kernel_rfl) (fun _ _ _ h => h) (Or.inr ⟨rfl, rfl⟩) (by assumption) ?_
  try simp only [Act.put, List.setIfInBounds_toArray, List.set_cons_zero, List.set_cons_succ]
  refine wpAnyH_take (i := 17) (v := undef) (oi := ⟨some 55, _, _, _, _, _⟩) rfl (by kernel_rfl) (by kernel_rfl) (by kernel_rfl) (fun _ _ _ h => h) (Or.inr ⟨rfl, rfl⟩) (by assumption) ?_
  try simp only [Act.put, List.setIfInBounds_toArray, List.set_cons_zero, List.set_cons_succ]
  refine wpAnyH_take (i := 18) (v := undef) (oi := ⟨some 56, _, _, _, _, _⟩) rfl (by kernel_rfl) (by kernel_rfl) (by kernel_rfl) (fun _ _ _ h => h) (Or.inr ⟨rfl, rfl⟩) (by assumption) ?_
  try simp only [Act.put, List.setIfInBounds_toArray, List.set_cons_zero, List.set_cons_succ]
  refine wpAnyH_take (i := 19) (v := undef) (oi := ⟨some 57, _, _, _, _, _⟩) rfl (by kernel_rfl) (by kernel_rfl) (by kernel_rfl) (fun _ _ _ h => h) (Or.inr ⟨rfl, rfl⟩) (by assumption) ?_
  try simp only [Act.put, List.setIfInBounds_toArray, List.set_cons_zero, List.set_cons_succ]
  refine wpAnyH_take (i := 20) (v := undef) (oi := ⟨some 58, _, _, _, _, _⟩) rfl (by kernel_rfl) (by kernel_rfl) (by kernel_rfl) (fun _ _ _ h => h) (Or.inr ⟨rfl, rfl⟩) (by assumption) ?_
  try simp only [Act.put, List.setIfInBounds_toArray, List.set_cons_zero, List.set_cons_succ]
  refine wpAnyH_take (i := 21) (v := undef) (oi := ⟨some 59, _, _, _, _, _⟩) rfl (by kernel_rfl) (by kernel_rfl) (by kernel_rfl) (fun _ _ _ h => h) (Or.inr ⟨rfl, rfl⟩) (by assumption) ?_
  try simp only [Act.put, List.setIfInBounds_toArray, List.set_cons_zero, List.set_cons_succ]
  refine wpAnyH_take (i := 22) (v := undef) (oi := ⟨some 60, _, _, _, _, _⟩) rfl (by kernel_rfl) (by kernel_rfl) (by kernel_rfl) (fun _ _ _ h => h) (Or.inr ⟨rfl, rfl⟩) (by assumption) ?_
  try simp only [Act.put, List.setIfInBounds_toArray, List.set_cons_zero, List.set_cons_succ]
  refine wpAnyH_take (i := 23) (v := undef) (oi := ⟨some 61, _, _, _, _, _⟩) rfl (by kernel_rfl) (by kernel_rfl) (by kernel_rfl) (fun _ _ _ h => h) (Or.inr ⟨rfl, rfl⟩) (by assumption) ?_
  try simp only [Act.put, List.setIfInBounds_toArray, List.set_cons_zero, List.set_cons_succ]
  refine wpAnyH_take (i := 24) (v := ?_) (oi := ⟨some 62, _, _, _, _, _⟩) rfl (by kernel_rfl) (by kernel_rfl) (by kernel_rfl) (fun _ _ _ h => h) (Or.inl ⟨rfl, ?_⟩) (by assumption) ?_
  rotate_left
  · (intro W hW; (try dsimp only at hW); go_simp; try with_reducible rfl)
  try simp only [Act.put, List.setIfInBounds_toArray, List.set_cons_zero, List.set_cons_succ]
  refine wpAnyH_take (i := 25) (v := ?_) (oi := ⟨some 37, _, _, _, _, _⟩) rfl (by kernel_rfl) (by kernel_rfl) (by kernel_rfl) (fun _ _ _ h => h) (Or.inl ⟨rfl, ?_⟩) (by assumption) ?_
  rotate_left
  · (intro W hW; (try dsimp only at hW); go_simp; try with_reducible rfl)
  try simp only [Act.put, List.setIfInBounds_toArray, List.set_cons_zero, List.set_cons_succ]
  refine wpAnyH_done (by kernel_rfl) ?_ _
  have cd1 := cd _ hd1
  clear cd
  go_wp2_with (go_at_call 85; refine cd1.mono ?_; rintro e w2 ⟨rfl, hd2, hs2⟩)
  go_ret
  exact ⟨rfl, hd2, (Step.of_below hB1).trans hs2⟩

set_option maxRecDepth 100000 in
set_option maxHeartbeats 8000000 in
theorem Write_put_no (hdn : D.down = false) (f : FileA) (hf : findF D.files n = some f) (hp1 : p ≤ f.now.size) (hs : s.size ≤ 1073741824)
    (hC : ¬ (D.cap : Int) - sizes D.files < p + s.size - f.now.size) (hbn : D.burn.1 = true) (hse0 : ¬ s.toList = []) (hwl : D.waits.length < 1099511627776) (h : IsDisk w b D F) :
    Calls Try.prog 42 #[ptr b, .string n, .int .i64 p, .string s] w fun e' w' => ∃ F', e' = .returned (errn 0) ∧ IsDisk w' b (D.burn.2.put f p s) F' ∧ Step F w F' w' := by
  have hw1 := alloc_disk h (.cells #[.string n] 9)
  have cb := bars_any b D F _ hw1 _ 1 [n] (by simp) (strs_one w n)
  rw [bars_one, hdn, hf] at cb
  have hB := alloc_below w (.cells #[.string n] 9)
  obtain ⟨m, v, hb, hm, hrow, fm, fg⟩ := hw1.head
  have c2 : (w.alloc (.cells #[.string n] 9)).cell? ⟨b, 2, none⟩ = some (.map (some m)) := hb.cell 2
  have hlk := run_look h.ok.names hm n
  unfold lookV at hlk
  rw [hf] at hlk
  have hfb := (hw1.files f (findF_some hf).1).2
  have cf : (w.alloc (.cells #[.string n] 9)).cell? ⟨f.id, 1, none⟩ = some (.string f.now) := hfb.cell 1
  have cR := Room_any b D F (w.alloc (.cells #[.string n] 9)).drew (hw1.below (Below.refl _ _).drew)
  have cd := fun W hW => done_any b D F W hW
  have hlt := hfb.lt
  have hS : sizes D.files ≤ 16777216 := Nat.le_trans h.ok.size h.ok.cap
  have hCc := h.ok.cap
  have hN : f.now.size ≤ 16777216 := by have := sizes_without h.ok.names (findF_some hf).1; omega
  rw [hbn] at cd
  have hfm := (findF_some hf).1
  have hbf := burn_files D
  have hcL := fun W => laid_any f.now p s W (by omega) (by omega) hs
  have hse := isEmpty_of_ne hse0
  have hsn : Hid (s.size ≠ 0) := fun e => hse0 (nil_of_size.2 e)
  have hid0 := h.ok
  have hwl' := Lib.hid hwl
  obtain ⟨iW, hiW, hzW, hsW, hyW⟩ := info_parts info_write
  clear hf hdn hbn hse0 hwl
  generalize hSD : sizes D.files = S at *
  have hSD' := Lib.hid hSD
  clear hSD
  unfold ptr errn at *
  have e1 : IntKind.i64.wrap ((p : Int) + (s.size : Int)) = p + s.size := Go.IntWalk.i64_in _ (by omega)
  have e2 : IntKind.i64.wrap ((p : Int) + (s.size : Int) - (f.now.size : Int)) = p + s.size - f.now.size := Go.IntWalk.i64_in _ (by omega)
  have d1 : decide ((D.cap : Int) - (S : Int) < p + s.size - f.now.size) = false := decide_eq_false hC
  have hroom : Hid (¬ ((D.cap : Int) - (S : Int) < p + s.size - f.now.size ∧ (f.now.size : Int) < p + s.size)) := fun hh => hC hh.1
  clear hC
  go_enter Try.func42, Try.ntmps42
  go_wp2_with (go_at_call 84; refine cb.mono ?_; rintro e w' ⟨rfl, rfl⟩)
  refine wp_region_held_drew (S := fun W => W.cell? ⟨f.id, 1, none⟩ = some (.string f.now) ∧ IsDisk W b D F ∧ Below w.heap.size w W) (by kernel_rfl) ⟨cf, hw1.below (Below.refl _ _).drew, hB.drew⟩ (fun hHeld => ?_)
  refine wpAnyH_take (i := 0) (v := ?_) (oi := ⟨some 38, _, _, _, _, _⟩) rfl (by kernel_rfl) (by kernel_rfl) (by kernel_rfl) (fun _ _ _ h => h) (Or.inl ⟨rfl, ?_⟩) (by assumption) ?_
  rotate_left
  · (intro W hW; (try dsimp only at hW); go_simp; try with_reducible rfl)
  try simp only [Act.put, List.setIfInBounds_toArray, List.set_cons_zero, List.set_cons_succ]
  refine wpAnyH_take (i := 1) (v := ?_) (oi := ⟨some 39, _, _, _, _, _⟩) rfl (by kernel_rfl) (by kernel_rfl) (by kernel_rfl) (fun _ _ _ h => h) (Or.inl ⟨rfl, ?_⟩) (by assumption) ?_
  rotate_left
  · (intro W hW; (try dsimp only at hW); go_simp; try with_reducible rfl)
  try simp only [Act.put, List.setIfInBounds_toArray, List.set_cons_zero, List.set_cons_succ]
  refine wpAnyH_take (i := 2) (v := ?_) (oi := ⟨some 40, _, _, _, _, _⟩) rfl (by kernel_rfl) (by kernel_rfl) (by kernel_rfl) (fun _ _ _ h => h) (Or.inl ⟨rfl, ?_⟩) (by assumption) ?_
  rotate_left
  · (intro W hW; (try dsimp only at hW); go_simp; try with_reducible rfl)
  try simp only [Act.put, List.setIfInBounds_toArray, List.set_cons_zero, List.set_cons_succ]
  refine wpAnyH_take (i := 3) (v := ?_) (oi := ⟨some 41, _, _, _, _, _⟩) rfl (by kernel_rfl) (by kernel_rfl) (by kernel_rfl) (fun _ _ _ h => h) (Or.inl ⟨rfl, ?_⟩) (by assumption) ?_
  rotate_left
  · (intro W hW; (try dsimp only at hW); go_simp; try with_reducible rfl)
  try simp only [Act.put, List.setIfInBounds_toArray, List.set_cons_zero, List.set_cons_succ]
  refine wpAnyH_take (i := 4) (v := ?_) (oi := ⟨some 42, _, _, _, _, _⟩) rfl (by kernel_rfl) (by kernel_rfl) (by kernel_rfl) (fun _ _ _ h => h) (Or.inl ⟨rfl, ?_⟩) (by assumption) ?_
  rotate_left
  · (intro W hW; (try dsimp only at hW); go_simp; try with_reducible rfl)
  try simp only [Act.put, List.setIfInBounds_toArray, List.set_cons_zero, List.set_cons_succ]
  refine wpAnyH_take (i := 5) (v := ?_) (oi := ⟨some 43, _, _, _, _, _⟩) rfl (by kernel_rfl) (by kernel_rfl) (by kernel_rfl) (fun _ _ _ h => h) (Or.inl ⟨rfl, ?_⟩) (by assumption) ?_
  rotate_left
  · (intro W hW; (try dsimp only at hW); go_simp; try with_reducible rfl)
  try simp only [Act.put, List.setIfInBounds_toArray, List.set_cons_zero, List.set_cons_succ]
  refine wpAnyH_take (i := 6) (v := ?_) (oi := ⟨some 44, _, _, _, _, _⟩) rfl (by kernel_rfl) (by kernel_rfl) (by kernel_rfl) (fun _ _ _ h => h) (Or.inl ⟨rfl, ?_⟩) (by assumption) ?_
  rotate_left
  · (intro W hW; (try dsimp only at hW); go_simp; try with_reducible rfl)
  try simp only [Act.put, List.setIfInBounds_toArray, List.set_cons_zero, List.set_cons_succ]
  refine wpAnyH_take (i := 7) (v := ?_) (oi := ⟨some 45, _, _, _, _, _⟩) rfl (by kernel_rfl) (by kernel_rfl) (by kernel_rfl) (fun _ _ _ h => h) (Or.inl ⟨rfl, ?_⟩) (by assumption) ?_
  rotate_left
  · (intro W hW; (try dsimp only at hW); go_simp; try with_reducible rfl)
  try simp only [Act.put, List.setIfInBounds_toArray, List.set_cons_zero, List.set_cons_succ]
  refine wpAnyH_take (i := 8) (v := ?_) (oi := ⟨some 46, _, _, _, _, _⟩) rfl (by kernel_rfl) (by kernel_rfl) (by kernel_rfl) (fun _ _ _ h => h) (Or.inl ⟨rfl, ?_⟩) (by assumption) ?_
  rotate_left
  · (intro W hW; (try dsimp only at hW); go_simp; try with_reducible rfl)
  try simp only [Act.put, List.setIfInBounds_toArray, List.set_cons_zero, List.set_cons_succ]
  refine wpAnyH_take (i := 9) (v := ?_) (oi := ⟨some 47, _, _, _, _, _⟩) rfl (by kernel_rfl) (by kernel_rfl) (by kernel_rfl) (fun _ _ _ h => h) (Or.inl ⟨rfl, ?_⟩) (by assumption) ?_
  rotate_left
  · (intro W hW; (try dsimp only at hW); go_simp; try with_reducible rfl)
  try simp only [Act.put, List.setIfInBounds_toArray, List.set_cons_zero, List.set_cons_succ]
  refine wpAnyH_take (i := 10) (v := ?_) (oi := ⟨some 48, _, _, _, _, _⟩) rfl (by kernel_rfl) (by kernel_rfl) (by kernel_rfl) (fun _ _ _ h => h) (Or.inl ⟨rfl, ?_⟩) (by assumption) ?_
  rotate_left
  · (intro W hW; (try dsimp only at hW); go_simp; try with_reducible rfl)
  try simp only [Act.put, List.setIfInBounds_toArray, List.set_cons_zero, List.set_cons_succ]
  refine wpAnyH_ready (rs := [11]) (by kernel_rfl) (by simp) ?_
  refine AllReadyH.cons (o := ⟨some 49, _, _, _, _, _⟩) rfl (fun K hK => ?_) AllReadyH.nil
  go_simp
  go_at_call 56
  refine cR.mono ?_
  rintro e w1 ⟨rfl, hb1⟩
  have cf1 : w1.cell? ⟨f.id, 1, none⟩ = some (.string f.now) := (hb1.cell (p := ⟨f.id, 1, none⟩) hlt).trans cf
  have hd1 : IsDisk w1 b D F := (hw1.below (Below.refl _ _).drew).below hb1
  have hB1 : Below w.heap.size w w1 := hB.drew.trans (hb1.mono hB.size)
  refine hK.out _ _ ⟨cf1, hd1, hB1⟩ (fun hHeld1 => ?_)
  clear hK K hHeld
  try simp only [Act.put, List.setIfInBounds_toArray, List.set_cons_zero, List.set_cons_succ]
  refine wpAnyH_take (i := 12) (v := ?_) (oi := ⟨some 50, _, _, _, _, _⟩) rfl (by kernel_rfl) (by kernel_rfl) (by kernel_rfl) (fun _ _ _ h => h) (Or.inl ⟨rfl, ?_⟩) (by assumption) ?_
  rotate_left
  · (intro W hW; (try dsimp only at hW); go_simp; try with_reducible rfl)
  try simp only [Act.put, List.setIfInBounds_toArray, List.set_cons_zero, List.set_cons_succ]
  refine wpAnyH_take (i := 13) (v := ?_) (oi := ⟨some 51, _, _, _, _, _⟩) rfl (by kernel_rfl) (by kernel_rfl) (by kernel_rfl) (fun _ _ _ h => h) (Or.inl ⟨rfl, ?_⟩) (by assumption) ?_
  rotate_left
  · (intro W hW; (try dsimp only at hW); go_simp; try with_reducible rfl)
  try simp only [Act.put, List.setIfInBounds_toArray, List.set_cons_zero, List.set_cons_succ]
  refine wpAnyH_take (i := 14) (v := undef) (oi := ⟨some 52, _, _, _, _, _⟩) rfl (by kernel_rfl) (by kernel_rfl) (by kernel_rfl) (fun _ _ _ h => h) (Or.inr ⟨rfl, rfl⟩) (by assumption) ?_
  try simp only [Act.put, List.setIfInBounds_toArray, List.set_cons_zero, List.set_cons_succ]
  refine wpAnyH_take (i := 15) (v := undef) (oi := ⟨some 53, _, _, _, _, _⟩) rfl (by kernel_rfl) (by kernel_rfl) (by kernel_rfl) (fun _ _ _ h => h) (Or.inr ⟨rfl, rfl⟩) (by assumption) ?_
  try simp only [Act.put, List.setIfInBounds_toArray, List.set_cons_zero, List.set_cons_succ]
  refine wpAnyH_take (i := 16) (v := undef) (oi := ⟨some 54, _, _, _, _, _⟩) rfl (by kernel_rfl) (by kernel_rfl) (by kernel_rfl) (fun _ _ _ h => h) (Or.inr ⟨rfl, rfl⟩) (by assumption) ?_
  try simp only [Act.put, List.setIfInBounds_toArray, List.set_cons_zero, List.set_cons_succ]
  refine wpAnyH_take (i := 17) (v := undef) (oi := ⟨some 55, _, _, _, _, _⟩) rfl (by kernel_rfl) (by kernel_rfl) (by kernel_rfl) (fun _ _ _ h => h) (Or.inr ⟨rfl, rfl⟩) (by assumption) ?_
  try simp only [Act.put, List.setIfInBounds_toArray, List.set_cons_zero, List.set_cons_succ]
  refine wpAnyH_take (i := 18) (v := undef) (oi := ⟨some 56, _, _, _, _, _⟩) rfl (by kernel_rfl) (by kernel_rfl) (by kernel_rfl) (fun _ _ _ h => h) (Or.inr ⟨rfl, rfl⟩) (by assumption) ?_
  try simp only [Act.put, List.setIfInBounds_toArray, List.set_cons_zero, List.set_cons_succ]
  refine wpAnyH_take (i := 19) (v := undef) (oi := ⟨some 57, _, _, _, _, _⟩) rfl (by kernel_rfl) (by kernel_rfl) (by kernel_rfl) (fun _ _ _ h => h) (Or.inr ⟨rfl, rfl⟩) (by assumption) ?_
  try simp only [Act.put, List.setIfInBounds_toArray, List.set_cons_zero, List.set_cons_succ]
  refine wpAnyH_take (i := 20) (v := undef) (oi := ⟨some 58, _, _, _, _, _⟩) rfl (by kernel_rfl) (by kernel_rfl) (by kernel_rfl) (fun _ _ _ h => h) (Or.inr ⟨rfl, rfl⟩) (by assumption) ?_
  try simp only [Act.put, List.setIfInBounds_toArray, List.set_cons_zero, List.set_cons_succ]
  refine wpAnyH_take (i := 21) (v := undef) (oi := ⟨some 59, _, _, _, _, _⟩) rfl (by kernel_rfl) (by kernel_rfl) (by kernel_rfl) (fun _ _ _ h => h) (Or.inr ⟨rfl, rfl⟩) (by assumption) ?_
  try simp only [Act.put, List.setIfInBounds_toArray, List.set_cons_zero, List.set_cons_succ]
  refine wpAnyH_take (i := 22) (v := undef) (oi := ⟨some 60, _, _, _, _, _⟩) rfl (by kernel_rfl) (by kernel_rfl) (by kernel_rfl) (fun _ _ _ h => h) (Or.inr ⟨rfl, rfl⟩) (by assumption) ?_
  try simp only [Act.put, List.setIfInBounds_toArray, List.set_cons_zero, List.set_cons_succ]
  refine wpAnyH_take (i := 23) (v := undef) (oi := ⟨some 61, _, _, _, _, _⟩) rfl (by kernel_rfl) (by kernel_rfl) (by kernel_rfl) (fun _ _ _ h => h) (Or.inr ⟨rfl, rfl⟩) (by assumption) ?_
  try simp only [Act.put, List.setIfInBounds_toArray, List.set_cons_zero, List.set_cons_succ]
  refine wpAnyH_take (i := 24) (v := ?_) (oi := ⟨some 62, _, _, _, _, _⟩) rfl (by kernel_rfl) (by kernel_rfl) (by kernel_rfl) (fun _ _ _ h => h) (Or.inl ⟨rfl, ?_⟩) (by assumption) ?_
  rotate_left
  · (intro W hW; (try dsimp only at hW); go_simp; try with_reducible rfl)
  try simp only [Act.put, List.setIfInBounds_toArray, List.set_cons_zero, List.set_cons_succ]
  refine wpAnyH_take (i := 25) (v := ?_) (oi := ⟨some 37, _, _, _, _, _⟩) rfl (by kernel_rfl) (by kernel_rfl) (by kernel_rfl) (fun _ _ _ h => h) (Or.inl ⟨rfl, ?_⟩) (by assumption) ?_
  rotate_left
  · (intro W hW; (try dsimp only at hW); go_simp; try with_reducible rfl)
  try simp only [Act.put, List.setIfInBounds_toArray, List.set_cons_zero, List.set_cons_succ]
  refine wpAnyH_done (by kernel_rfl) ?_ _
  have cd1 := cd _ hd1
  clear cd
  go_wp2_with (first
    | (go_at_call 85; refine cd1.mono ?_; rintro e w2 ⟨rfl, hd2, hs2⟩; have hfm2 : f ∈ D.burn.2.files := (by rw [hbf.1]; exact hfm); have cf2 : w2.cell? ⟨f.id, 1, none⟩ = some (.string f.now) := (hd2.files f hfm2).2.cell 1)
    | (go_at_call 86; refine (hcL _).mono ?_; rintro e w3 ⟨rfl, hB3⟩; have hd3 := hd2.below hB3; have cf3 : w3.cell? ⟨f.id, 1, none⟩ = some (.string f.now) := (hd3.files f hfm2).2.cell 1; have ff3 := (hd3.files f hfm2).2.frozen 1; obtain ⟨m3, v3, hb3, hm3, hr3, fm3, fg3⟩ := hd3.head; have c33 : w3.cell? ⟨b, 3, none⟩ = some v3 := hb3.cell 3)
    | (at_builtin; refine wpList_append_new rfl _ _ 118 rfl 127 3 32 iW _ Try.underlying118 hiW hzW hsW hyW rfl (by decide) v3 _ _ rfl (put_owns hd3 hfm2 _ _ hr3) _ 1 1 [.pointer (some ⟨f.id, 0, none⟩), .int .i64 p, .string s] rfl rfl (new_cells3' _ _ (setCell_size _ _ _) _ _ _ _) (by simp [Value.oneCell']) (by decide) (by rw [hbf.2.1]; have := hwl'.out; unfold maxLen; omega) (by rw [hbf.2.1]; have := hwl'.out; omega) ?_; intro g4 cap4 w4 ha; have hbb := put_head hd3 hfm2 hb3 hr3 ha; have c34 : w4.cell? ⟨b, 3, none⟩ = some v3 := hbb.cell 3; have f34 := hbb.frozen 3))
  go_ret
  obtain ⟨hd4, hs4⟩ := put_disk hd3 hfm2 hb3 hm3 fm3 fg3 hr3 ha (DiskA.Ok.put hd3.ok hfm2 hsn.out (by rw [hbf.1, hbf.2.2]; have := hroom.out; rw [hSD'.out]; exact this))
  rw [hbf.2.1] at hd4 hs4
  exact ⟨_, rfl, hd4, (Step.of_below hB1).trans (hs2.trans ((Step.of_below hB3).trans hs4))⟩

end
end Go.Proofs.Ytndpmjanflahhaa
