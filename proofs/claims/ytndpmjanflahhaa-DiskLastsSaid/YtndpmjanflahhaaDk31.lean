/-
  THE STATEMENTS OF LAYER 4: a call as plain data; Do.
-/
import Derived.Test.YtndpmjanflahhaaDk30
namespace Go.Proofs.Ytndpmjanflahhaa
open Go.RowKit Go.MapKept

/-- A call, and where its slices lie. -/
structure OpV where
  K : Int
  N : Int
  A : ByteArray
  B : ByteArray
  S : ByteArray
  la : Option Addr
  lcap : Nat
  L : List ByteArray
  ka : Option Addr
  kcap : Nat
  keep : List Bool
  lack : Int
def OpV.cells (o : OpV) : Array Value := #[.int .i64 o.K, .int .i64 o.N, .string o.A, .string o.B, .string o.S, .slice o.la o.L.length o.lcap, .slice o.ka o.keep.length o.kcap, .int .i64 o.lack]
/-- It is one that lies in memory, outside the blocks F. -/
structure OpV.Good (o : OpV) (w : World) (F : Nat → Prop) : Prop where
  K : -9223372036854775808 ≤ o.K ∧ o.K ≤ 9223372036854775807
  N : -9223372036854775808 ≤ o.N ∧ o.N ≤ 9223372036854775807
  lack : -9223372036854775808 ≤ o.lack ∧ o.lack ≤ 9223372036854775807
  L : StrSl w o.la o.L
  LF : 0 < o.L.length → ∀ x, o.la = some x → ¬ F x.block
  keep : KeepV w F o.ka o.kcap o.keep
/-- It is one that is played. -/
structure OpV.Small (o : OpV) : Prop where
  A : o.A.size ≤ 20
  B : o.B.size ≤ 20
  S : o.S.size ≤ 300
  L : o.L.length ≤ 10
  keep : o.keep.length ≤ 200
  names : ∀ n ∈ o.L, n.size ≤ 20
def DiskA.doOp (D : DiskA) (o : OpV) (id : Nat) : Int × DiskA :=
  if o.K = 0 then D.create o.A id
  else if o.K = 1 then D.write o.A o.N o.S
  else if o.K = 2 then D.sync o.L
  else if o.K = 3 then D.cut o.A o.N
  else if o.K = 4 then D.rename o.A o.B
  else if o.K = 5 then D.delete o.L
  else if o.K = 6 then (0, D.fuse o.N)
  else if o.K = 7 then (0, D.crash o.keep o.lack)
  else (0, D)

theorem OpV.Good.kept {o : OpV} {w w' : World} {F F' : Nat → Prop} (h : o.Good w F) (hk : ∀ q, q < w.heap.size → ¬ F q → w'.heap[q]? = w.heap[q]? ∧ ¬ F' q) : o.Good w' F' := by
  refine ⟨h.K, h.N, h.lack, ?_, ?_, h.keep.kept hk⟩
  · intro i s hi
    have hl : 0 < o.L.length := by have := (List.getElem?_eq_some_iff.1 hi).1; omega
    exact h.L.kept (fun x hx => (hk _ (h.L.lt hl hx) (h.LF hl x hx)).1) i s hi
  · intro hl x hx
    exact (hk _ (h.L.lt hl hx) (h.LF hl x hx)).2

/-- What Do tells and leaves. -/
def DoPost (b : Nat) (D : DiskA) (F : Nat → Prop) (o : OpV) (w : World) (e : Ending) (w' : World) : Prop :=
  ∃ id F', e = .returned (errn (D.doOp o id).1) ∧ IsDisk w' b (D.doOp o id).2 F' ∧ Step F w F' w' ∧ (∀ f ∈ D.files, f.id ≠ id)

theorem step_tight {F F' : Nat → Prop} {w w1 w' : World} (hB : Below w.heap.size w w1) (h4 : Step (fun k => F k ∧ k < w.heap.size) w1 F' w') : Step F w F' w' :=
  ⟨h4.os.trans hB.os, h4.tape.trans hB.tape, h4.output.trans hB.output, Nat.le_trans hB.size h4.size, fun k hk hn => (h4.block k (Nat.lt_of_lt_of_le hk hB.size) (fun hh => hn hh.1)).trans (hB.block k hk),
    fun k hk => (h4.new k hk).imp (fun h => h.1) (fun h => Nat.le_trans hB.size h)⟩
theorem do_post {b : Nat} {D : DiskA} {F : Nat → Prop} {o : OpV} {w : World} (id : Nat) (hid : ∀ f ∈ D.files, f.id ≠ id) (hB : Below w.heap.size w (w.alloc (.cells o.cells 46))) {n : Int} {D' : DiskA} {F' : Nat → Prop} {e : Ending} {w' : World}
    (h1 : D.doOp o id = (n, D')) (h2 : e = .returned (errn n)) (h3 : IsDisk w' b D' F') (h4 : Step (fun k => F k ∧ k < w.heap.size) (w.alloc (.cells o.cells 46)) F' w') : DoPost b D F o w e w' :=
  ⟨id, F', by rw [h1]; exact h2, by rw [h1]; exact h3, step_tight hB h4, hid⟩

theorem doOp_0 (D : DiskA) (o : OpV) (id : Nat) (h : o.K = 0) : D.doOp o id = D.create o.A id := by unfold DiskA.doOp; rw [if_pos h]
theorem doOp_1 (D : DiskA) (o : OpV) (id : Nat) (h : o.K = 1) : D.doOp o id = D.write o.A o.N o.S := by unfold DiskA.doOp; rw [h]; rfl
theorem doOp_2 (D : DiskA) (o : OpV) (id : Nat) (h : o.K = 2) : D.doOp o id = D.sync o.L := by unfold DiskA.doOp; rw [h]; rfl
theorem doOp_3 (D : DiskA) (o : OpV) (id : Nat) (h : o.K = 3) : D.doOp o id = D.cut o.A o.N := by unfold DiskA.doOp; rw [h]; rfl
theorem doOp_4 (D : DiskA) (o : OpV) (id : Nat) (h : o.K = 4) : D.doOp o id = D.rename o.A o.B := by unfold DiskA.doOp; rw [h]; rfl
theorem doOp_5 (D : DiskA) (o : OpV) (id : Nat) (h : o.K = 5) : D.doOp o id = D.delete o.L := by unfold DiskA.doOp; rw [h]; rfl
theorem doOp_6 (D : DiskA) (o : OpV) (id : Nat) (h : o.K = 6) : D.doOp o id = (0, D.fuse o.N) := by unfold DiskA.doOp; rw [h]; rfl
theorem doOp_7 (D : DiskA) (o : OpV) (id : Nat) (h : o.K = 7) : D.doOp o id = (0, D.crash o.keep o.lack) := by unfold DiskA.doOp; rw [h]; rfl
theorem doOp_8 (D : DiskA) (o : OpV) (id : Nat) (h : o.K < 0 ∨ 7 < o.K) : D.doOp o id = (0, D) := by
  unfold DiskA.doOp
  rw [if_neg (by omega), if_neg (by omega), if_neg (by omega), if_neg (by omega), if_neg (by omega), if_neg (by omega), if_neg (by omega), if_neg (by omega)]

set_option maxRecDepth 100000 in
set_option maxHeartbeats 4000000 in
theorem Do_any (b : Nat) (D : DiskA) (F : Nat → Prop) (w : World) (h : IsDisk w b D F) (hfit : D.Fit) (o : OpV) (hg : o.Good w F) (hs : o.Small) (hwl : D.waits.length < 1099511627776) (hfl : D.files.length < 4294967296) :
    Calls Try.prog 44 #[ptr b, .agg o.cells] w (DoPost b D F o w) := by
  have hB : Below w.heap.size w (w.alloc (.cells o.cells 46)) := (Below.refl _ w).alloc (Nat.le_refl _) _
  have hd := h.tight.below hB
  have hg1 : o.Good (w.alloc (.cells o.cells 46)) (fun k => F k ∧ k < w.heap.size) := hg.kept (fun q hq hF => ⟨hB.block q hq, fun hh => hF hh.1⟩)
  obtain ⟨id0, hid0⟩ : ∃ id, ∀ f ∈ D.files, f.id ≠ id := ⟨w.heap.size, fun f hf e => by have := (h.files f hf).2.lt; omega⟩
  have hid0' := Lib.hid hid0
  have hA := hs.A
  have hBs := hs.B
  have hS := hs.S
  have hL := hs.L
  have hkp := hs.keep
  clear hid0
  obtain ⟨K, N, A, B, S, la, lcap, L, ka, kcap, keep, lack⟩ := o
  obtain ⟨hK, hN, hlk, hgL, hgF, hgk⟩ := hg1
  unfold OpV.cells at *
  dsimp only at *
  clear hg hs
  unfold ptr
  by_cases k0 : K = 0
  · subst k0
    have c := Create_any b D _ _ hd A (by omega) hfl
    have hB' := Lib.hid hB
    clear hB
    unfold errn ptr at c
    go_enter Try.func44, Try.ntmps44
    go_wp2_with (go_at_call 41; refine c.mono ?_; rintro e w2 ⟨id, F', rfl, hd2, hs2, hid⟩)
    go_ret
    exact ⟨id, F', by rw [doOp_0 D _ id rfl]; rfl, by rw [doOp_0 D _ id rfl]; exact hd2, step_tight hB'.out hs2, hid⟩
  by_cases k1 : K = 1
  · subst k1
    have c := Write_any b D _ _ hd A N S (by omega) hwl
    have hB' := Lib.hid hB
    clear hB
    unfold errn ptr at c
    go_enter Try.func44, Try.ntmps44
    go_wp2_with (go_at_call 42; refine c.mono ?_; rintro e w2 ⟨F', rfl, hd2, hs2⟩)
    go_ret
    exact do_post id0 hid0'.out hB'.out (doOp_1 D _ id0 rfl) rfl hd2 hs2
  by_cases k2 : K = 2
  · subst k2
    have c := Sync_any b D _ _ hd la lcap L (by omega) hgL hgF
    have hB' := Lib.hid hB
    clear hB
    unfold errn ptr at c
    go_enter Try.func44, Try.ntmps44
    go_wp2_with (go_at_call 43; refine c.mono ?_; rintro e w2 ⟨rfl, hd2, hs2⟩)
    go_ret
    exact do_post id0 hid0'.out hB'.out (doOp_2 D _ id0 rfl) rfl hd2 hs2
  by_cases k3 : K = 3
  · subst k3
    have c := Cut_any b D _ _ hd A N hN
    have hB' := Lib.hid hB
    clear hB
    unfold errn ptr at c
    go_enter Try.func44, Try.ntmps44
    go_wp2_with (go_at_call 88; refine c.mono ?_; rintro e w2 ⟨rfl, hd2, hs2⟩)
    go_ret
    exact do_post id0 hid0'.out hB'.out (doOp_3 D _ id0 rfl) rfl hd2 hs2
  by_cases k4 : K = 4
  · subst k4
    have c := Rename_any b D _ _ hd A B (by omega)
    have hB' := Lib.hid hB
    clear hB
    unfold errn ptr at c
    go_enter Try.func44, Try.ntmps44
    go_wp2_with (go_at_call 89; refine c.mono ?_; rintro e w2 ⟨rfl, hd2, hs2⟩)
    go_ret
    exact do_post id0 hid0'.out hB'.out (doOp_4 D _ id0 rfl) rfl hd2 hs2
  by_cases k5 : K = 5
  · subst k5
    have c := Delete_any b D _ _ hd la lcap L (by omega) hgL hgF
    have hB' := Lib.hid hB
    clear hB
    unfold errn ptr at c
    go_enter Try.func44, Try.ntmps44
    go_wp2_with (go_at_call 90; refine c.mono ?_; rintro e w2 ⟨rfl, hd2, hs2⟩)
    go_ret
    exact do_post id0 hid0'.out hB'.out (doOp_5 D _ id0 rfl) rfl hd2 hs2
  by_cases k6 : K = 6
  · subst k6
    have c := Fuse_any b D _ _ hd N hN
    have hB' := Lib.hid hB
    clear hB
    unfold errn ptr at c
    go_enter Try.func44, Try.ntmps44
    go_wp2_with (go_at_call 91; refine c.mono ?_; rintro e w2 ⟨rfl, hd2, hs2⟩)
    go_ret
    exact do_post id0 hid0'.out hB'.out (doOp_6 D _ id0 rfl) rfl hd2 hs2
  by_cases k7 : K = 7
  · subst k7
    have c := Crash_any b D _ _ hd hfit keep lack hlk ka kcap (by omega) hgk
    have hB' := Lib.hid hB
    clear hB
    unfold errn ptr at c
    go_enter Try.func44, Try.ntmps44
    go_wp2_with (go_at_call 47; refine c.mono ?_; rintro e w2 ⟨rfl, hd2, hs2⟩)
    go_ret
    exact do_post id0 hid0'.out hB'.out (doOp_7 D _ id0 rfl) rfl hd2 hs2
  have e0 : (K == 0) = false := beq_eq_false_iff_ne.2 k0
  have e1 : (K == 1) = false := beq_eq_false_iff_ne.2 k1
  have e2 : (K == 2) = false := beq_eq_false_iff_ne.2 k2
  have e3 : (K == 3) = false := beq_eq_false_iff_ne.2 k3
  have e4 : (K == 4) = false := beq_eq_false_iff_ne.2 k4
  have e5 : (K == 5) = false := beq_eq_false_iff_ne.2 k5
  have e6 : (K == 6) = false := beq_eq_false_iff_ne.2 k6
  have e7 : (K == 7) = false := beq_eq_false_iff_ne.2 k7
  have kk : K < 0 ∨ 7 < K := by omega
  have hB' := Lib.hid hB
  have hdo := Lib.hid (doOp_8 D ⟨K, N, A, B, S, la, lcap, L, ka, kcap, keep, lack⟩ id0 kk)
  clear hB kk k0 k1 k2 k3 k4 k5 k6 k7
  go_enter Try.func44, Try.ntmps44
  go_wp2
  go_ret
  exact do_post id0 hid0'.out hB'.out hdo.out rfl hd (Step.refl _ _)
end Go.Proofs.Ytndpmjanflahhaa
