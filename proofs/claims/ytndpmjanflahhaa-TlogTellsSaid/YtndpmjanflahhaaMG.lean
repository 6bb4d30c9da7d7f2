/-
  Dk31, Dk32, Dk33, Dk34, one behind the other.
-/
import Derived.Test.YtndpmjanflahhaaMF
/-
  THE STATEMENTS OF LAYER 4: a call as plain data; Do.
-/
namespace Go.Proofs.Ytndpmjanflahhaa
open Go.RowKit Go.MapKept

/-- A call, and where its slices lie. -/
structure OpV where
  K : Int
  N : Int
  A : ByteArray
  B : ByteArray
  S : ByteArray
  la : Option Addr
  lcap : Nat
  L : List ByteArray
  ka : Option Addr
  kcap : Nat
  keep : List Bool
  lack : Int
def OpV.cells (o : OpV) : Array Value := #[.int .i64 o.K, .int .i64 o.N, .string o.A, .string o.B, .string o.S, .slice o.la o.L.length o.lcap, .slice o.ka o.keep.length o.kcap, .int .i64 o.lack]
/-- It is one that lies in memory, outside the blocks F. -/
structure OpV.Good (o : OpV) (w : World) (F : Nat → Prop) : Prop where
  K : -9223372036854775808 ≤ o.K ∧ o.K ≤ 9223372036854775807
  N : -9223372036854775808 ≤ o.N ∧ o.N ≤ 9223372036854775807
  lack : -9223372036854775808 ≤ o.lack ∧ o.lack ≤ 9223372036854775807
  L : StrSl w o.la o.L
  LF : 0 < o.L.length → ∀ x, o.la = some x → ¬ F x.block
  keep : KeepV w F o.ka o.kcap o.keep
/-- It is one that is played. -/
structure OpV.Small (o : OpV) : Prop where
  A : o.A.size ≤ 20
  B : o.B.size ≤ 20
  S : o.S.size ≤ 300
  L : o.L.length ≤ 10
  keep : o.keep.length ≤ 200
  names : ∀ n ∈ o.L, n.size ≤ 20
def DiskA.doOp (D : DiskA) (o : OpV) (id : Nat) : Int × DiskA :=
  if o.K = 0 then D.create o.A id
  else if o.K = 1 then D.write o.A o.N o.S
  else if o.K = 2 then D.sync o.L
  else if o.K = 3 then D.cut o.A o.N
  else if o.K = 4 then D.rename o.A o.B
  else if o.K = 5 then D.delete o.L
  else if o.K = 6 then (0, D.fuse o.N)
  else if o.K = 7 then (0, D.crash o.keep o.lack)
  else (0, D)

theorem OpV.Good.kept {o : OpV} {w w' : World} {F F' : Nat → Prop} (h : o.Good w F) (hk : ∀ q, q < w.heap.size → ¬ F q → w'.heap[q]? = w.heap[q]? ∧ ¬ F' q) : o.Good w' F' := by
  refine ⟨h.K, h.N, h.lack, ?_, ?_, h.keep.kept hk⟩
  · intro i s hi
    have hl : 0 < o.L.length := by have := (List.getElem?_eq_some_iff.1 hi).1; omega
    exact h.L.kept (fun x hx => (hk _ (h.L.lt hl hx) (h.LF hl x hx)).1) i s hi
  · intro hl x hx
    exact (hk _ (h.L.lt hl hx) (h.LF hl x hx)).2

/-- What Do tells and leaves. -/
def DoPost (b : Nat) (D : DiskA) (F : Nat → Prop) (o : OpV) (w : World) (e : Ending) (w' : World) : Prop :=
  ∃ id F', e = .returned (errn (D.doOp o id).1) ∧ IsDisk w' b (D.doOp o id).2 F' ∧ Step F w F' w' ∧ (∀ f ∈ D.files, f.id ≠ id)

theorem step_tight {F F' : Nat → Prop} {w w1 w' : World} (hB : Below w.heap.size w w1) (h4 : Step (fun k => F k ∧ k < w.heap.size) w1 F' w') : Step F w F' w' :=
  ⟨h4.os.trans hB.os, h4.tape.trans hB.tape, h4.output.trans hB.output, Nat.le_trans hB.size h4.size, fun k hk hn => (h4.block k (Nat.lt_of_lt_of_le hk hB.size) (fun hh => hn hh.1)).trans (hB.block k hk),
    fun k hk => (h4.new k hk).imp (fun h => h.1) (fun h => Nat.le_trans hB.size h)⟩
theorem do_post {b : Nat} {D : DiskA} {F : Nat → Prop} {o : OpV} {w : World} (id : Nat) (hid : ∀ f ∈ D.files, f.id ≠ id) (hB : Below w.heap.size w (w.alloc (.cells o.cells 46))) {n : Int} {D' : DiskA} {F' : Nat → Prop} {e : Ending} {w' : World}
    (h1 : D.doOp o id = (n, D')) (h2 : e = .returned (errn n)) (h3 : IsDisk w' b D' F') (h4 : Step (fun k => F k ∧ k < w.heap.size) (w.alloc (.cells o.cells 46)) F' w') : DoPost b D F o w e w' :=
  ⟨id, F', by rw [h1]; exact h2, by rw [h1]; exact h3, step_tight hB h4, hid⟩

theorem doOp_0 (D : DiskA) (o : OpV) (id : Nat) (h : o.K = 0) : D.doOp o id = D.create o.A id := by unfold DiskA.doOp; rw [if_pos h]
theorem doOp_1 (D : DiskA) (o : OpV) (id : Nat) (h : o.K = 1) : D.doOp o id = D.write o.A o.N o.S := by unfold DiskA.doOp; rw [h]; rfl
theorem doOp_2 (D : DiskA) (o : OpV) (id : Nat) (h : o.K = 2) : D.doOp o id = D.sync o.L := by unfold DiskA.doOp; rw [h]; rfl
theorem doOp_3 (D : DiskA) (o : OpV) (id : Nat) (h : o.K = 3) : D.doOp o id = D.cut o.A o.N := by unfold DiskA.doOp; rw [h]; rfl
theorem doOp_4 (D : DiskA) (o : OpV) (id : Nat) (h : o.K = 4) : D.doOp o id = D.rename o.A o.B := by unfold DiskA.doOp; rw [h]; rfl
theorem doOp_5 (D : DiskA) (o : OpV) (id : Nat) (h : o.K = 5) : D.doOp o id = D.delete o.L := by unfold DiskA.doOp; rw [h]; rfl
theorem doOp_6 (D : DiskA) (o : OpV) (id : Nat) (h : o.K = 6) : D.doOp o id = (0, D.fuse o.N) := by unfold DiskA.doOp; rw [h]; rfl
theorem doOp_7 (D : DiskA) (o : OpV) (id : Nat) (h : o.K = 7) : D.doOp o id = (0, D.crash o.keep o.lack) := by unfold DiskA.doOp; rw [h]; rfl
theorem doOp_8 (D : DiskA) (o : OpV) (id : Nat) (h : o.K < 0 ∨ 7 < o.K) : D.doOp o id = (0, D) := by
  unfold DiskA.doOp
  rw [if_neg (by omega), if_neg (by omega), if_neg (by omega), if_neg (by omega), if_neg (by omega), if_neg (by omega), if_neg (by omega), if_neg (by omega)]

set_option maxRecDepth 100000 in
set_option maxHeartbeats 4000000 in
theorem Do_any (b : Nat) (D : DiskA) (F : Nat → Prop) (w : World) (h : IsDisk w b D F) (hfit : D.Fit) (o : OpV) (hg : o.Good w F) (hs : o.Small) (hwl : D.waits.length < 1099511627776) (hfl : D.files.length < 4294967296) :
    Calls Try.prog 44 #[ptr b, .agg o.cells] w (DoPost b D F o w) := by
  have hB : Below w.heap.size w (w.alloc (.cells o.cells 46)) := (Below.refl _ w).alloc (Nat.le_refl _) _
  have hd := h.tight.below hB
  have hg1 : o.Good (w.alloc (.cells o.cells 46)) (fun k => F k ∧ k < w.heap.size) := hg.kept (fun q hq hF => ⟨hB.block q hq, fun hh => hF hh.1⟩)
  obtain ⟨id0, hid0⟩ : ∃ id, ∀ f ∈ D.files, f.id ≠ id := ⟨w.heap.size, fun f hf e => by have := (h.files f hf).2.lt; omega⟩
  have hid0' := Lib.hid hid0
  have hA := hs.A
  have hBs := hs.B
  have hS := hs.S
  have hL := hs.L
  have hkp := hs.keep
  clear hid0
  obtain ⟨K, N, A, B, S, la, lcap, L, ka, kcap, keep, lack⟩ := o
  obtain ⟨hK, hN, hlk, hgL, hgF, hgk⟩ := hg1
  unfold OpV.cells at *
  dsimp only at *
  clear hg hs
  unfold ptr
  by_cases k0 : K = 0
  · subst k0
    have c := Create_any b D _ _ hd A (by omega) hfl
    have hB' := Lib.hid hB
    clear hB
    unfold errn ptr at c
    go_enter Try.func44, Try.ntmps44
    go_wp2_with (go_at_call 41; refine c.mono ?_; rintro e w2 ⟨id, F', rfl, hd2, hs2, hid⟩)
    go_ret
    exact ⟨id, F', by rw [doOp_0 D _ id rfl]; rfl, by rw [doOp_0 D _ id rfl]; exact hd2, step_tight hB'.out hs2, hid⟩
  by_cases k1 : K = 1
  · subst k1
    have c := Write_any b D _ _ hd A N S (by omega) hwl
    have hB' := Lib.hid hB
    clear hB
    unfold errn ptr at c
    go_enter Try.func44, Try.ntmps44
    go_wp2_with (go_at_call 42; refine c.mono ?_; rintro e w2 ⟨F', rfl, hd2, hs2⟩)
    go_ret
    exact do_post id0 hid0'.out hB'.out (doOp_1 D _ id0 rfl) rfl hd2 hs2
  by_cases k2 : K = 2
  · subst k2
    have c := Sync_any b D _ _ hd la lcap L (by omega) hgL hgF
    have hB' := Lib.hid hB
    clear hB
    unfold errn ptr at c
    go_enter Try.func44, Try.ntmps44
    go_wp2_with (go_at_call 43; refine c.mono ?_; rintro e w2 ⟨rfl, hd2, hs2⟩)
    go_ret
    exact do_post id0 hid0'.out hB'.out (doOp_2 D _ id0 rfl) rfl hd2 hs2
  by_cases k3 : K = 3
  · subst k3
    have c := Cut_any b D _ _ hd A N hN
    have hB' := Lib.hid hB
    clear hB
    unfold errn ptr at c
    go_enter Try.func44, Try.ntmps44
    go_wp2_with (go_at_call 88; refine c.mono ?_; rintro e w2 ⟨rfl, hd2, hs2⟩)
    go_ret
    exact do_post id0 hid0'.out hB'.out (doOp_3 D _ id0 rfl) rfl hd2 hs2
  by_cases k4 : K = 4
  · subst k4
    have c := Rename_any b D _ _ hd A B (by omega)
    have hB' := Lib.hid hB
    clear hB
    unfold errn ptr at c
    go_enter Try.func44, Try.ntmps44
    go_wp2_with (go_at_call 89; refine c.mono ?_; rintro e w2 ⟨rfl, hd2, hs2⟩)
    go_ret
    exact do_post id0 hid0'.out hB'.out (doOp_4 D _ id0 rfl) rfl hd2 hs2
  by_cases k5 : K = 5
  · subst k5
    have c := Delete_any b D _ _ hd la lcap L (by omega) hgL hgF
    have hB' := Lib.hid hB
    clear hB
    unfold errn ptr at c
    go_enter Try.func44, Try.ntmps44
    go_wp2_with (go_at_call 90; refine c.mono ?_; rintro e w2 ⟨rfl, hd2, hs2⟩)
    go_ret
    exact do_post id0 hid0'.out hB'.out (doOp_5 D _ id0 rfl) rfl hd2 hs2
  by_cases k6 : K = 6
  · subst k6
    have c := Fuse_any b D _ _ hd N hN
    have hB' := Lib.hid hB
    clear hB
    unfold errn ptr at c
    go_enter Try.func44, Try.ntmps44
    go_wp2_with (go_at_call 91; refine c.mono ?_; rintro e w2 ⟨rfl, hd2, hs2⟩)
    go_ret
    exact do_post id0 hid0'.out hB'.out (doOp_6 D _ id0 rfl) rfl hd2 hs2
  by_cases k7 : K = 7
  · subst k7
    have c := Crash_any b D _ _ hd hfit keep lack hlk ka kcap (by omega) hgk
    have hB' := Lib.hid hB
    clear hB
    unfold errn ptr at c
    go_enter Try.func44, Try.ntmps44
    go_wp2_with (go_at_call 47; refine c.mono ?_; rintro e w2 ⟨rfl, hd2, hs2⟩)
    go_ret
    exact do_post id0 hid0'.out hB'.out (doOp_7 D _ id0 rfl) rfl hd2 hs2
  have e0 : (K == 0) = false := beq_eq_false_iff_ne.2 k0
  have e1 : (K == 1) = false := beq_eq_false_iff_ne.2 k1
  have e2 : (K == 2) = false := beq_eq_false_iff_ne.2 k2
  have e3 : (K == 3) = false := beq_eq_false_iff_ne.2 k3
  have e4 : (K == 4) = false := beq_eq_false_iff_ne.2 k4
  have e5 : (K == 5) = false := beq_eq_false_iff_ne.2 k5
  have e6 : (K == 6) = false := beq_eq_false_iff_ne.2 k6
  have e7 : (K == 7) = false := beq_eq_false_iff_ne.2 k7
  have kk : K < 0 ∨ 7 < K := by omega
  have hB' := Lib.hid hB
  have hdo := Lib.hid (doOp_8 D ⟨K, N, A, B, S, la, lcap, L, ka, kcap, keep, lack⟩ id0 kk)
  clear hB kk k0 k1 k2 k3 k4 k5 k6 k7
  go_enter Try.func44, Try.ntmps44
  go_wp2
  go_ret
  exact do_post id0 hid0'.out hB'.out hdo.out rfl hd (Step.refl _ _)
end Go.Proofs.Ytndpmjanflahhaa

/-
  THE STATEMENTS OF LAYER 4: Great.
-/
namespace Go.Proofs.Ytndpmjanflahhaa
open Go.RowKit Go.MapKept

/-- A slice of calls: from an address on lie these. -/
def OpSl (w : World) (a : Option Addr) (os : List OpV) : Prop :=
  ∀ i o, os[i]? = some o → ∃ g off, a = some ⟨g, off, none⟩ ∧ ∀ j, j < 8 → w.cell? ⟨g, off + i * 8 + j, none⟩ = o.cells[j]?
theorem OpSl.at {w : World} {a : Option Addr} {os : List OpV} (h : OpSl w a os) (hne : 0 < os.length) : ∃ g off, a = some ⟨g, off, none⟩ ∧ g < w.heap.size ∧ ∀ i o, os[i]? = some o → ∀ j, j < 8 → w.cell? ⟨g, off + i * 8 + j, none⟩ = o.cells[j]? := by
  obtain ⟨g, off, ha, hc⟩ := h 0 os[0] (by simp [hne])
  refine ⟨g, off, ha, World.block_lt_of_cell? _ _ (hc 0 (by omega)), fun i o hi => ?_⟩
  obtain ⟨g', off', ha', hc'⟩ := h i o hi
  rw [ha] at ha'
  cases ha'
  exact hc'
/-- What one call's cells are. -/
theorem op_cells {w : World} {g p : Nat} {o : OpV} (h : ∀ j, j < 8 → w.cell? ⟨g, p + j, none⟩ = o.cells[j]?) :
    w.cell? ⟨g, p, none⟩ = some (.int .i64 o.K) ∧ w.cell? ⟨g, p + 1, none⟩ = some (.int .i64 o.N) ∧ w.cell? ⟨g, p + 2, none⟩ = some (.string o.A) ∧ w.cell? ⟨g, p + 3, none⟩ = some (.string o.B) ∧
    w.cell? ⟨g, p + 4, none⟩ = some (.string o.S) ∧ w.cell? ⟨g, p + 5, none⟩ = some (.slice o.la o.L.length o.lcap) ∧ w.cell? ⟨g, p + 6, none⟩ = some (.slice o.ka o.keep.length o.kcap) ∧ w.cell? ⟨g, p + 7, none⟩ = some (.int .i64 o.lack) :=
  ⟨h 0 (by omega), h 1 (by omega), h 2 (by omega), h 3 (by omega), h 4 (by omega), h 5 (by omega), h 6 (by omega), h 7 (by omega)⟩

def GreatPost (os : List OpV) (w : World) (e : Ending) (w' : World) : Prop :=
  ∃ r, e = .returned (.bool r) ∧ (r = false → os.length ≤ 100 ∧ ∀ o ∈ os, o.Small) ∧ Below w.heap.size w w'
theorem great_yes {os : List OpV} {w w' : World} {e : Ending} (he : e = .returned (.bool true)) (hB : Below w.heap.size w w') : GreatPost os w e w' := ⟨true, he, (fun h => by cases h), hB⟩

set_option maxRecDepth 100000 in
set_option maxHeartbeats 4000000 in
theorem Great_any (a : Option Addr) (cap : Nat) (os : List OpV) (w : World) (F : Nat → Prop) (hl : os.length ≤ 9223372036854775807) (hr : OpSl w a os) (hg : ∀ o ∈ os, o.Good w F) (hsz : ∀ o ∈ os, o.A.size ≤ 9223372036854775807 ∧ o.B.size ≤ 9223372036854775807 ∧ o.S.size ≤ 9223372036854775807 ∧ o.L.length ≤ 9223372036854775807 ∧ o.keep.length ≤ 9223372036854775807 ∧ ∀ n ∈ o.L, n.size ≤ 9223372036854775807) :
    Calls Try.prog 39 #[.slice a os.length cap] w (GreatPost os w) := by
  obtain ⟨n, hn⟩ : ∃ n, os.length = n := ⟨_, rfl⟩
  rw [hn] at hl ⊢
  have hn' := Lib.hid hn
  by_cases h100 : 100 < n
  · clear hn
    go_enter Try.func39, Try.ntmps39
    go_wp2
    go_ret
    exact great_yes rfl (Below.refl _ _)
  have hn100 : os.length ≤ 100 := by omega
  have hn100' := Lib.hid hn100
  clear hn hn100
  go_enter Try.func39, Try.ntmps39
  go_wp2
  go_loopw [12] (fun i wr => ∃ k : Nat, k ≤ n ∧ i = .int .i64 k ∧ Below w.heap.size w wr ∧ Hid (∀ o ∈ os.take k, o.Small)) (fun i _ => n - (intOf i).toNat)
  case atStart => exact ⟨0, by omega, rfl, Below.refl _ _, fun o ho => by simp at ho⟩
  case round =>
    obtain ⟨k, hk, rfl, hB, hH⟩ := hrel
    by_cases hkn : k < n
    · have hkl : k < os.length := by rw [hn'.out]; exact hkn
      obtain ⟨g, off, rfl, hgl, hcell⟩ := hr.at (by omega)
      obtain ⟨o, ho⟩ : ∃ o, os[k]? = some o := ⟨os[k], by simp [hkl]⟩
      have hom := List.mem_of_getElem? ho
      obtain ⟨c0, c1, c2, c3, c4, c5, c6, c7⟩ := op_cells (w := wr) (g := g) (p := off + k * 8) (o := o) (fun j hj => (hB.cell (p := ⟨g, off + k * 8 + j, none⟩) hgl).trans (hcell k o ho j hj))
      obtain ⟨z1, z2, z3, z4, z5, z6⟩ := hsz o hom
      have hL := (hg o hom).L
      have ho' := Lib.hid ho
      have hsm : Hid (o.Small → ∀ x ∈ os.take (k + 1), x.Small) := fun h x hx => by
        rw [List.take_add_one, ho'.out] at hx
        simp at hx
        rcases hx with hx | rfl
        · exact hH.out x hx
        · exact h
      have hBo : Below w.heap.size w (wr.alloc (.cells o.cells 46)) := hB.trans ((Below.refl _ _).alloc (Nat.le_refl _) _ |>.mono hB.size)
      clear hcell hr ho hg hsz hom
      obtain ⟨K, N, A, B, S, la, lcap, L, ka, kcap, keep, lack⟩ := o
      unfold OpV.cells at *
      dsimp only at *
      obtain ⟨ln, hln⟩ : ∃ ln, L.length = ln := ⟨_, rfl⟩
      rw [hln] at c5 z4 hBo
      have hln' := Lib.hid hln
      clear hln
      generalize hkz : keep.length = kz at *
      have hkz' := Lib.hid hkz
      clear hkz
      by_cases b1 : 20 < A.size
      · go_wp2
        go_ret
        exact great_yes rfl hBo
      by_cases b2 : 20 < B.size
      · go_wp2
        go_ret
        exact great_yes rfl hBo
      by_cases b3 : 300 < S.size
      · go_wp2
        go_ret
        exact great_yes rfl hBo
      by_cases b4 : 10 < ln
      · go_wp2
        go_ret
        exact great_yes rfl hBo
      by_cases b5 : 200 < kz
      · go_wp2
        go_ret
        exact great_yes rfl hBo
      go_wp2
      have hW := hBo
      obtain ⟨wo, hwo⟩ : ∃ wo, wo = wr.alloc (.cells #[.int .i64 K, .int .i64 N, .string A, .string B, .string S, .slice la ln lcap, .slice ka kz kcap, .int .i64 lack] 46) := ⟨_, rfl⟩
      have hstr : ∀ j x, L[j]? = some x → ∃ g off, la = some ⟨g, off, none⟩ ∧ wo.cell? ⟨g, off + j, none⟩ = some (.string x) := by
        intro j x hj
        obtain ⟨b', off', e, hc⟩ := hL j x hj
        refine ⟨b', off', e, ?_⟩
        rw [hwo]
        exact (hBo.cell (p := ⟨b', off' + j, none⟩) (World.block_lt_of_cell? _ _ hc)).trans hc
      have hstr' := Lib.hid hstr
      rw [← hwo] at hBo ⊢
      clear hstr hL hW hwo
      go_loop [48] (fun j => ∃ q : Nat, q ≤ ln ∧ j = .int .i64 q ∧ Hid (∀ x ∈ L.take q, x.size ≤ 20)) (fun j => ln - (intOf j).toNat)
      case atStart => exact ⟨0, by omega, rfl, fun x hx => by simp at hx⟩
      case round =>
        obtain ⟨q, hq, rfl, hQ⟩ := hrel
        by_cases hql : q < ln
        · have hql' : q < L.length := by rw [hln'.out]; exact hql
          obtain ⟨x, hx⟩ : ∃ x, L[q]? = some x := ⟨L[q], by simp [hql']⟩
          obtain ⟨b', off', rfl, hc⟩ := hstr'.out q x hx
          have hxz := z6 x (List.mem_of_getElem? hx)
          have hst : Hid (x.size ≤ 20 → ∀ y ∈ L.take (q + 1), y.size ≤ 20) := fun h y hy => by
            rw [List.take_add_one, hx] at hy
            simp at hy
            rcases hy with hy | rfl
            · exact hQ.out y hy
            · exact h
          clear hx z6 hql'
          by_cases b6 : 20 < x.size
          · go_wp2
            go_ret
            exact great_yes rfl hBo
          · go_wp2
            go_round
            case rel => exact ⟨q + 1, by omega, by go_num, hst.out (by omega)⟩
            case measure => simp [intOf]; omega
        · go_wp2
          go_roundw
          case rel => exact ⟨k + 1, by omega, by go_num, hBo, hsm.out ⟨by dsimp only; omega, by dsimp only; omega, by dsimp only; omega, by dsimp only; rw [hln'.out]; omega, by dsimp only; rw [hkz'.out]; omega, by have := hQ.out; rwa [List.take_of_length_le (by rw [hln'.out]; omega)] at this⟩⟩
          case measure => simp [intOf]; omega
    · go_wp2
      go_ret
      exact ⟨false, rfl, fun _ => ⟨hn100'.out, by have := hH.out; rwa [List.take_of_length_le (by rw [hn'.out]; omega)] at this⟩, hB⟩
end Go.Proofs.Ytndpmjanflahhaa

/-
  A call that does not name a file leaves it as it is; a crash can always be laid (plain data).
-/
namespace Go.Proofs.Ytndpmjanflahhaa
open Go.RowKit Go.MapKept

/-- This very file is there, and no write of it waits. -/
structure Keeps (D : DiskA) (f : FileA) : Prop where
  mem : f ∈ D.files
  waits : ∀ x ∈ D.waits, x.id ≠ f.id
structure Nd (D : DiskA) : Prop where
  names : (D.files.map (·.name)).Nodup
  ids : (D.files.map (·.id)).Nodup
theorem DiskA.Ok.nd {D : DiskA} (h : D.Ok) : Nd D := ⟨h.names, h.ids⟩

theorem id_ne {D : DiskA} (h : Nd D) {f g : FileA} (hf : f ∈ D.files) (hg : g ∈ D.files) (hn : g.name ≠ f.name) : g.id ≠ f.id :=
  fun e => hn (by rw [nodup_id_eq h.ids hg hf e])
theorem turn_keep {l : List FileA} {f : FileA} (hf : f ∈ l) {id : Nat} (h : id ≠ f.id) (u : FileA → FileA) : f ∈ turn l id u :=
  List.mem_map.2 ⟨f, hf, if_neg (fun e => h e.symm)⟩
theorem others_mem {l : List WaitA} {id : Nat} {x : WaitA} : x ∈ others l id ↔ x ∈ l ∧ x.id ≠ id := by
  unfold others; rw [List.mem_filter]; simp
theorem burn_keeps {D : DiskA} {f : FileA} (h : Keeps D f) : Keeps D.burn.2 f := ⟨by rw [(burn_files D).1]; exact h.mem, by rw [(burn_files D).2.1]; exact h.waits⟩
theorem burn_nd {D : DiskA} (h : Nd D) : Nd D.burn.2 := ⟨by rw [(burn_files D).1]; exact h.names, by rw [(burn_files D).1]; exact h.ids⟩
theorem burn_fit {D : DiskA} (h : D.Fit) : D.burn.2.Fit := ⟨by rw [(burn_files D).1]; exact h.image, by rw [(burn_files D).1, (burn_files D).2.1]; exact h.wait⟩

/-! ### files last -/
theorem lastOf_nd {D : DiskA} (h : Nd D) (s : ByteArray) : Nd (D.lastOf s) := by
  unfold DiskA.lastOf; split
  · rename_i g _
    exact ⟨by show ((turn _ _ _).map _).Nodup; rw [turn_names _ _ (FileA.setImage g.now) (fun _ => rfl)]; exact h.names, by show ((turn _ _ _).map _).Nodup; rw [turn_ids _ _ (FileA.setImage g.now) (fun _ => rfl)]; exact h.ids⟩
  · exact h
theorem lastOf_keeps {D : DiskA} (h : Nd D) {f : FileA} (k : Keeps D f) {s : ByteArray} (hs : s ≠ f.name) : Keeps (D.lastOf s) f := by
  unfold DiskA.lastOf; split
  · rename_i g hg
    have hgm := findF_some hg
    have hid := id_ne h k.mem hgm.1 (by rw [hgm.2]; exact hs)
    exact ⟨turn_keep k.mem hid _, fun x hx => k.waits x (others_mem.1 hx).1⟩
  · exact k
/-- .. where all but one file fits. -/
theorem last1_fit' {D : DiskA} (hn : Nd D) {g : FileA} (hg : g ∈ D.files) (h1 : ∀ f ∈ D.files, f.id ≠ g.id → f.image.size ≤ f.now.size) (h2 : ∀ x ∈ D.waits, x.id ≠ g.id → ∀ f ∈ D.files, f.id = x.id → x.pos + x.s.size ≤ f.now.size) : (D.last1 g).Fit := by
  refine ⟨fun f hf => ?_, fun x hx f hf e => ?_⟩
  · obtain ⟨y, hy, ⟨e, rfl⟩ | ⟨e, rfl⟩⟩ := turn_mem (u := FileA.setImage g.now) hf
    · have := nodup_id_eq hn.ids hy hg e
      subst this
      exact Nat.le_refl _
    · exact h1 f hy e
  · have hx' := others_mem.1 hx
    obtain ⟨y, hy, ⟨_, rfl⟩ | ⟨_, rfl⟩⟩ := turn_mem (u := FileA.setImage g.now) hf
    · exact h2 x hx'.1 hx'.2 y hy e
    · exact h2 x hx'.1 hx'.2 f hy e
theorem last1_fit {D : DiskA} (hn : Nd D) (h : D.Fit) {g : FileA} (hg : g ∈ D.files) : (D.last1 g).Fit :=
  last1_fit' hn hg (fun f hf _ => h.image f hf) (fun x hx _ => h.wait x hx)
theorem lastOf_fit {D : DiskA} (hn : Nd D) (h : D.Fit) (s : ByteArray) : (D.lastOf s).Fit := by
  unfold DiskA.lastOf; split
  · rename_i g hg
    exact last1_fit hn h (findF_some hg).1
  · exact h
theorem lastOf_size (D : DiskA) (s : ByteArray) : (D.lastOf s).waits.length ≤ D.waits.length ∧ (D.lastOf s).files.length = D.files.length := by
  unfold DiskA.lastOf; split
  · exact ⟨List.length_filter_le _ _, by show (turn _ _ _).length = _; unfold turn; rw [List.length_map]⟩
  · exact ⟨Nat.le_refl _, rfl⟩
theorem lasts_all (ss : List ByteArray) : ∀ {D : DiskA}, Nd D → D.Fit → Nd (D.lasts ss) ∧ (D.lasts ss).Fit ∧ (D.lasts ss).waits.length ≤ D.waits.length ∧ (D.lasts ss).files.length = D.files.length := by
  induction ss with
  | nil => exact fun h k => ⟨h, k, Nat.le_refl _, rfl⟩
  | cons s t ih =>
    intro D h k
    have := ih (lastOf_nd h s) (lastOf_fit h k s)
    have hz := lastOf_size D s
    exact ⟨this.1, this.2.1, Nat.le_trans this.2.2.1 hz.1, this.2.2.2.trans hz.2⟩
theorem lasts_keeps (ss : List ByteArray) : ∀ {D : DiskA}, Nd D → ∀ {f : FileA}, Keeps D f → (∀ s ∈ ss, s ≠ f.name) → Keeps (D.lasts ss) f := by
  induction ss with
  | nil => exact fun _ _ k _ => k
  | cons s t ih =>
    intro D h f k hs
    exact ih (lastOf_nd h s) (lastOf_keeps h k (hs s List.mem_cons_self)) (fun x hx => hs x (List.mem_cons_of_mem _ hx))

/-! ### files go -/
theorem gone_nd {D : DiskA} (h : Nd D) (l : List WaitA) (n : ByteArray) : Nd ((D.waited l).removed n) :=
  ⟨h.names.sublist ((gone_sub _ _).map _), h.ids.sublist ((gone_sub _ _).map _)⟩
theorem dropOf_nd {D : DiskA} (h : Nd D) (s : ByteArray) : Nd (D.dropOf s) := by
  unfold DiskA.dropOf; split
  · exact gone_nd h _ _
  · exact h
theorem dropOf_keeps {D : DiskA} {f : FileA} (k : Keeps D f) {s : ByteArray} (hs : s ≠ f.name) : Keeps (D.dropOf s) f := by
  unfold DiskA.dropOf; split
  · rename_i g hg
    refine ⟨gone_mem.2 ⟨k.mem, ?_⟩, fun x hx => k.waits x (others_mem.1 hx).1⟩
    rw [(findF_some hg).2]; exact fun e => hs e.symm
  · exact k
theorem dropOf_fit {D : DiskA} (h : D.Fit) (s : ByteArray) : (D.dropOf s).Fit := by
  unfold DiskA.dropOf; split
  · exact ⟨fun f hf => h.image f (gone_mem.1 hf).1, fun x hx f hf e => h.wait x (others_mem.1 hx).1 f (gone_mem.1 hf).1 e⟩
  · exact h
theorem dropOf_size (D : DiskA) (s : ByteArray) : (D.dropOf s).waits.length ≤ D.waits.length ∧ (D.dropOf s).files.length ≤ D.files.length := by
  unfold DiskA.dropOf; split
  · exact ⟨List.length_filter_le _ _, List.length_filter_le _ _⟩
  · exact ⟨Nat.le_refl _, Nat.le_refl _⟩
theorem drops_all (ss : List ByteArray) : ∀ {D : DiskA}, Nd D → D.Fit → Nd (D.drops ss) ∧ (D.drops ss).Fit ∧ (D.drops ss).waits.length ≤ D.waits.length ∧ (D.drops ss).files.length ≤ D.files.length := by
  induction ss with
  | nil => exact fun h k => ⟨h, k, Nat.le_refl _, Nat.le_refl _⟩
  | cons s t ih =>
    intro D h k
    have := ih (dropOf_nd h s) (dropOf_fit k s)
    have hz := dropOf_size D s
    exact ⟨this.1, this.2.1, Nat.le_trans this.2.2.1 hz.1, Nat.le_trans this.2.2.2 hz.2⟩
theorem drops_keeps (ss : List ByteArray) : ∀ {D : DiskA} {f : FileA}, Keeps D f → (∀ s ∈ ss, s ≠ f.name) → Keeps (D.drops ss) f := by
  induction ss with
  | nil => exact fun k _ => k
  | cons s t ih =>
    intro D f k hs
    exact ih (dropOf_keeps k (hs s List.mem_cons_self)) (fun x hx => hs x (List.mem_cons_of_mem _ hx))

/-! ### a crash -/
theorem layOne_keeps {D : DiskA} {f : FileA} (k : Keeps D f) {x : WaitA} (hx : x.id ≠ f.id) (s : ByteArray) : Keeps (D.layOne x s) f := by
  unfold DiskA.layOne; split
  · rename_i g hg
    exact ⟨turn_keep k.mem (by rw [(byId_some hg).2]; exact hx) _, k.waits⟩
  · exact k
theorem layUp_keeps {D : DiskA} {f : FileA} (k : Keeps D f) (done : List Bool) (lack : Int) (n : Nat) : Keeps (D.layUp done lack D.waits n) f := by
  induction n with
  | zero => exact k
  | succ n ih =>
    unfold DiskA.layUp
    split
    · rename_i x _ hx
      exact layOne_keeps ih (k.waits x (List.mem_of_getElem? hx)) _
    · exact ih
theorem crash_keeps {D : DiskA} {f : FileA} (k : Keeps D f) (hf : f.image = f.now) (keep : List Bool) (lack : Int) : Keeps (D.crash keep lack) f := by
  refine ⟨?_, fun x hx => by cases hx⟩
  refine List.mem_map.2 ⟨f, (layUp_keeps k _ _ _).mem, ?_⟩
  rw [if_neg (by simp)]
  cases f; simp only at hf; subst hf; rfl
theorem crash_fit (D : DiskA) (keep : List Bool) (lack : Int) : (D.crash keep lack).Fit := by
  refine ⟨fun f hf => ?_, fun x hx => by cases hx⟩
  obtain ⟨g, _, rfl⟩ := List.mem_map.1 hf
  rw [if_neg (by simp)]
  exact Nat.le_refl _
theorem crash_size (D : DiskA) (keep : List Bool) (lack : Int) : (D.crash keep lack).files.length = D.files.length := by
  show (List.map _ _).length = _
  rw [List.length_map]
  have := congrArg List.length (AlikeI.layUp D (keep.take (min keep.length D.waits.length)) lack D.waits (min keep.length D.waits.length)).files
  simpa using this

/-! ### a call -/
structure DiskA.Near (D E : DiskA) : Prop where
  fit : E.Fit
  waits : E.waits.length ≤ D.waits.length + 1
  files : E.files.length ≤ D.files.length + 1
theorem near_refl {D : DiskA} (h : D.Fit) : D.Near D := ⟨h, by omega, by omega⟩
theorem near_burn {D : DiskA} (h : D.Fit) : D.Near D.burn.2 := ⟨burn_fit h, by rw [(burn_files D).2.1]; omega, by rw [(burn_files D).1]; omega⟩
theorem put_fit {D : DiskA} (hn : Nd D) (h : D.Fit) {g : FileA} (hg : g ∈ D.files) (p : Nat) (s : ByteArray) (hs : s.size ≠ 0) : (D.put g p s).Fit := by
  refine ⟨fun f hf => ?_, fun x hx f hf e => ?_⟩
  · obtain ⟨y, hy, ⟨e, rfl⟩ | ⟨e, rfl⟩⟩ := turn_mem (u := FileA.setNow (laidB g.now p s)) hf
    · have := nodup_id_eq hn.ids hy hg e
      subst this
      show y.image.size ≤ (laidB y.now p s).size
      rw [laidB_size _ _ _ hs]
      have := h.image y hy
      omega
    · exact h.image f hy
  · have hx' : x ∈ D.waits ∨ x = ⟨g.id, p, s⟩ := by
      have : x ∈ D.waits ++ [⟨g.id, p, s⟩] := hx
      simpa using this
    obtain ⟨y, hy, ⟨e1, rfl⟩ | ⟨e1, rfl⟩⟩ := turn_mem (u := FileA.setNow (laidB g.now p s)) hf
    · have := nodup_id_eq hn.ids hy hg e1
      subst this
      show x.pos + x.s.size ≤ (laidB y.now p s).size
      rw [laidB_size _ _ _ hs]
      rcases hx' with hx' | rfl
      · have := h.wait x hx' y hy e
        omega
      · show p + s.size ≤ _
        omega
    · rcases hx' with hx' | rfl
      · exact h.wait x hx' f hy e
      · exact absurd e e1
theorem put_keeps {D : DiskA} (hn : Nd D) {f : FileA} (k : Keeps D f) {g : FileA} (hg : g ∈ D.files) (hne : g.name ≠ f.name) (p : Nat) (s : ByteArray) : Keeps (D.put g p s) f := by
  have hid := id_ne hn k.mem hg hne
  refine ⟨turn_keep k.mem hid _, fun x hx => ?_⟩
  have : x ∈ D.waits ++ [⟨g.id, p, s⟩] := hx
  simp at this
  rcases this with h | rfl
  · exact k.waits x h
  · exact hid

theorem create_near {D : DiskA} (hok : D.Ok) (h : D.Fit) (n : ByteArray) {id : Nat} (hid : ∀ f ∈ D.files, f.id ≠ id) : D.Near (D.create n id).2 := by
  unfold DiskA.create
  split
  · exact near_refl h
  · split
    · exact near_refl h
    · split
      · have hb := burn_fit h
        refine ⟨⟨fun f hf => ?_, fun x hx f hf e => ?_⟩, ?_, ?_⟩
        · rcases List.mem_append.1 hf with hf | hf
          · exact hb.image f hf
          · simp at hf; subst hf; exact Nat.le_refl _
        · have hx' : x ∈ D.waits := by rw [← (burn_files D).2.1]; exact hx
          rcases List.mem_append.1 hf with hf | hf
          · exact hb.wait x hx f hf e
          · simp at hf; subst hf
            obtain ⟨g, hg, e2⟩ := hok.waits x hx'
            exact absurd (e2.trans e.symm) (hid g hg)
        · show D.burn.2.waits.length ≤ _
          rw [(burn_files D).2.1]; omega
        · show (D.burn.2.files ++ _).length ≤ _
          rw [(burn_files D).1]; simp
      · exact near_burn h
theorem create_keeps {D : DiskA} {f : FileA} (k : Keeps D f) (n : ByteArray) (id : Nat) : Keeps (D.create n id).2 f := by
  unfold DiskA.create
  split
  · exact k
  · split
    · exact k
    · split
      · exact ⟨List.mem_append.2 (.inl (burn_keeps k).mem), (burn_keeps k).waits⟩
      · exact burn_keeps k

theorem write_near {D : DiskA} (hn : Nd D) (h : D.Fit) (n : ByteArray) (p : Int) (s : ByteArray) : D.Near (D.write n p s).2 := by
  unfold DiskA.write
  split
  · exact near_refl h
  · split
    · exact near_refl h
    · rename_i g hg
      split
      · exact near_refl h
      · split
        · exact near_refl h
        · split
          · exact near_burn h
          · dsimp only
            split
            · exact near_burn h
            · rename_i hs
              have hg' : g ∈ D.burn.2.files := by rw [(burn_files D).1]; exact (findF_some hg).1
              refine ⟨put_fit (burn_nd hn) (burn_fit h) hg' _ _ hs, ?_, ?_⟩
              · show (D.burn.2.waits ++ _).length ≤ _
                rw [(burn_files D).2.1]; simp
              · show (turn D.burn.2.files _ _).length ≤ _
                unfold turn; rw [List.length_map, (burn_files D).1]; omega
theorem write_keeps {D : DiskA} (hn : Nd D) {f : FileA} (k : Keeps D f) {n : ByteArray} (hne : n ≠ f.name) (p : Int) (s : ByteArray) : Keeps (D.write n p s).2 f := by
  unfold DiskA.write
  split
  · exact k
  · split
    · exact k
    · rename_i g hg
      split
      · exact k
      · split
        · exact k
        · split
          · exact burn_keeps k
          · dsimp only
            split
            · exact burn_keeps k
            · have hg' : g ∈ D.burn.2.files := by rw [(burn_files D).1]; exact (findF_some hg).1
              exact put_keeps (burn_nd hn) (burn_keeps k) hg' (by rw [(findF_some hg).2]; exact hne) _ _

theorem sync_near {D : DiskA} (hn : Nd D) (h : D.Fit) (ss : List ByteArray) : D.Near (D.sync ss).2 := by
  unfold DiskA.sync
  split
  · exact near_refl h
  · split
    · have := lasts_all ss (burn_nd hn) (burn_fit h)
      exact ⟨this.2.1, by have h1 := this.2.2.1; rw [(burn_files D).2.1] at h1; show (D.burn.2.lasts ss).waits.length ≤ _; omega, by have h1 := this.2.2.2; rw [(burn_files D).1] at h1; show (D.burn.2.lasts ss).files.length ≤ _; omega⟩
    · exact near_burn h
theorem sync_keeps {D : DiskA} (hn : Nd D) {f : FileA} (k : Keeps D f) {ss : List ByteArray} (hs : ∀ s ∈ ss, s ≠ f.name) : Keeps (D.sync ss).2 f := by
  unfold DiskA.sync
  split
  · exact k
  · split
    · exact lasts_keeps ss (burn_nd hn) (burn_keeps k) hs
    · exact burn_keeps k

theorem cut_near {D : DiskA} (hn : Nd D) (h : D.Fit) (n : ByteArray) (i : Int) : D.Near (D.cut n i).2 := by
  unfold DiskA.cut
  split
  · exact near_refl h
  · split
    · exact near_refl h
    · rename_i g hg
      split
      · exact near_refl h
      · split
        · have hg' : g ∈ D.burn.2.files := by rw [(burn_files D).1]; exact (findF_some hg).1
          have hgn := (findF_some hg).2
          generalize hE : D.burn.2 = E at *
          have hnE : Nd E := by rw [← hE]; exact burn_nd hn
          have hfE : E.Fit := by rw [← hE]; exact burn_fit h
          have hnd : Nd (E.nowed g.id (g.now.extract 0 i.toNat)) := ⟨by show ((turn _ _ _).map _).Nodup; rw [turn_names _ _ (FileA.setNow (g.now.extract 0 i.toNat)) (fun _ => rfl)]; exact hnE.names, by show ((turn _ _ _).map _).Nodup; rw [turn_ids _ _ (FileA.setNow (g.now.extract 0 i.toNat)) (fun _ => rfl)]; exact hnE.ids⟩
          have hf2 : findF (E.nowed g.id (g.now.extract 0 i.toNat)).files n = some (g.setNow (g.now.extract 0 i.toNat)) := by
            have := findF_of hnd.names (f := g.setNow (g.now.extract 0 i.toNat)) (List.mem_map.2 ⟨g, hg', if_pos rfl⟩)
            rw [← hgn]; exact this
          have hl : (E.nowed g.id (g.now.extract 0 i.toNat)).lasts [n] = (E.nowed g.id (g.now.extract 0 i.toNat)).last1 (g.setNow (g.now.extract 0 i.toNat)) := by
            show DiskA.lastOf _ n = _
            unfold DiskA.lastOf; rw [hf2]
          have hm2 := (findF_some hf2).1
          have hw : E.waits.length = D.waits.length := by rw [← hE, (burn_files D).2.1]
          have hfl : E.files.length = D.files.length := by rw [← hE, (burn_files D).1]
          show D.Near ((E.nowed g.id (g.now.extract 0 i.toNat)).lasts [n])
          rw [hl]
          refine ⟨last1_fit' hnd hm2 ?_ ?_, ?_, ?_⟩
          · intro f hf hne
            obtain ⟨y, hy, ⟨e, rfl⟩ | ⟨_, rfl⟩⟩ := turn_mem (u := FileA.setNow (g.now.extract 0 i.toNat)) hf
            · exact absurd e hne
            · exact hfE.image f hy
          · intro x hx hne f hf e2
            obtain ⟨y, hy, ⟨e, rfl⟩ | ⟨_, rfl⟩⟩ := turn_mem (u := FileA.setNow (g.now.extract 0 i.toNat)) hf
            · exact absurd (e2.symm.trans e) hne
            · exact hfE.wait x hx f hy e2
          · show (others E.waits _).length ≤ _
            have : (others E.waits (g.setNow (g.now.extract 0 i.toNat)).id).length ≤ E.waits.length := List.length_filter_le _ _
            omega
          · show (turn (turn _ _ _) _ _).length ≤ _
            unfold turn; rw [List.length_map, List.length_map]; omega
        · exact near_burn h
theorem cut_keeps {D : DiskA} (hn : Nd D) {f : FileA} (k : Keeps D f) {n : ByteArray} (hne : n ≠ f.name) (i : Int) : Keeps (D.cut n i).2 f := by
  unfold DiskA.cut
  split
  · exact k
  · split
    · exact k
    · rename_i g hg
      split
      · exact k
      · split
        · have hg' : g ∈ D.burn.2.files := by rw [(burn_files D).1]; exact (findF_some hg).1
          have hgn := (findF_some hg).2
          have hkE := burn_keeps k
          have hnE := burn_nd hn
          generalize D.burn.2 = E at *
          have hid := id_ne hnE hkE.mem hg' (by rw [hgn]; exact hne)
          have hnd : Nd (E.nowed g.id (g.now.extract 0 i.toNat)) := ⟨by show ((turn _ _ _).map _).Nodup; rw [turn_names _ _ (FileA.setNow (g.now.extract 0 i.toNat)) (fun _ => rfl)]; exact hnE.names, by show ((turn _ _ _).map _).Nodup; rw [turn_ids _ _ (FileA.setNow (g.now.extract 0 i.toNat)) (fun _ => rfl)]; exact hnE.ids⟩
          have hk2 : Keeps (E.nowed g.id (g.now.extract 0 i.toNat)) f := ⟨turn_keep hkE.mem hid _, hkE.waits⟩
          exact lasts_keeps [n] hnd hk2 (fun s hs => by simp at hs; subst hs; exact hne)
        · exact burn_keeps k

theorem moved_fit {D : DiskA} (h : D.Fit) {g : FileA} (hg : g ∈ D.files) (t : ByteArray) : (D.moved g t).Fit := by
  refine ⟨fun f hf => ?_, fun x hx f hf e => ?_⟩
  · rcases List.mem_append.1 (gone_mem.1 hf).1 with hf | hf
    · exact h.image f hf
    · simp at hf; subst hf; exact h.image g hg
  · rcases List.mem_append.1 (gone_mem.1 hf).1 with hf | hf
    · exact h.wait x hx f hf e
    · simp at hf; subst hf; exact h.wait x hx g hg e
theorem dropOf_mem {D : DiskA} {g : FileA} (hg : g ∈ D.files) {s : ByteArray} (hne : g.name ≠ s) : g ∈ (D.dropOf s).files := by
  unfold DiskA.dropOf; split
  · rename_i y hy
    exact gone_mem.2 ⟨hg, by rw [(findF_some hy).2]; exact hne⟩
  · exact hg
theorem rename_near {D : DiskA} (h : D.Fit) (n t : ByteArray) : D.Near (D.rename n t).2 := by
  unfold DiskA.rename
  split
  · exact near_refl h
  · split
    · exact near_refl h
    · rename_i g hg
      split
      · dsimp only
        split
        · exact near_burn h
        · rename_i hne
          have hg' : g ∈ D.burn.2.files := by rw [(burn_files D).1]; exact (findF_some hg).1
          have hgm : g ∈ (D.burn.2.dropOf t).files := dropOf_mem hg' (by rw [(findF_some hg).2]; exact fun e => hne ((bytes_beq _ _).2 e))
          have hz := dropOf_size D.burn.2 t
          rw [(burn_files D).2.1, (burn_files D).1] at hz
          refine ⟨moved_fit (dropOf_fit (burn_fit h) t) hgm t, ?_, ?_⟩
          · show (D.burn.2.dropOf t).waits.length ≤ _; omega
          · show (gone _ _).length ≤ _
            have : (gone ((D.burn.2.dropOf t).files ++ [{ g with name := t }]) g.name).length ≤ ((D.burn.2.dropOf t).files ++ [{ g with name := t }]).length := List.length_filter_le _ _
            simp at this
            omega
      · exact near_burn h
theorem rename_keeps {D : DiskA} {f : FileA} (k : Keeps D f) {n t : ByteArray} (hn : n ≠ f.name) (ht : t ≠ f.name) : Keeps (D.rename n t).2 f := by
  unfold DiskA.rename
  split
  · exact k
  · split
    · exact k
    · rename_i g hg
      split
      · dsimp only
        split
        · exact burn_keeps k
        · have hk := dropOf_keeps (burn_keeps k) ht
          exact ⟨gone_mem.2 ⟨List.mem_append.2 (.inl hk.mem), by rw [(findF_some hg).2]; exact fun e => hn e.symm⟩, hk.waits⟩
      · exact burn_keeps k

theorem delete_near {D : DiskA} (hn : Nd D) (h : D.Fit) (ss : List ByteArray) : D.Near (D.delete ss).2 := by
  unfold DiskA.delete
  split
  · exact near_refl h
  · split
    · have := drops_all ss (burn_nd hn) (burn_fit h)
      exact ⟨this.2.1, by have h1 := this.2.2.1; rw [(burn_files D).2.1] at h1; show (D.burn.2.drops ss).waits.length ≤ _; omega, by have h1 := this.2.2.2; rw [(burn_files D).1] at h1; show (D.burn.2.drops ss).files.length ≤ _; omega⟩
    · exact near_burn h
theorem delete_keeps {D : DiskA} {f : FileA} (k : Keeps D f) {ss : List ByteArray} (hs : ∀ s ∈ ss, s ≠ f.name) : Keeps (D.delete ss).2 f := by
  unfold DiskA.delete
  split
  · exact k
  · split
    · exact drops_keeps ss (burn_keeps k) hs
    · exact burn_keeps k

theorem doOp_near {D : DiskA} (hok : D.Ok) (h : D.Fit) (o : OpV) {id : Nat} (hid : ∀ f ∈ D.files, f.id ≠ id) : D.Near (D.doOp o id).2 := by
  unfold DiskA.doOp
  split
  · exact create_near hok h _ hid
  split
  · exact write_near hok.nd h _ _ _
  split
  · exact sync_near hok.nd h _
  split
  · exact cut_near hok.nd h _ _
  split
  · exact rename_near h _ _
  split
  · exact delete_near hok.nd h _
  split
  · exact ⟨⟨h.image, h.wait⟩, Nat.le_succ _, Nat.le_succ _⟩
  split
  · exact ⟨crash_fit D _ _, Nat.zero_le _, by show (D.crash _ _).files.length ≤ _; rw [crash_size]; omega⟩
  · exact near_refl h
theorem doOp_keeps {D : DiskA} (hok : D.Ok) {f : FileA} (k : Keeps D f) (hf : f.image = f.now) (o : OpV) (id : Nat) (hA : o.A ≠ f.name) (hB : o.B ≠ f.name) (hL : ∀ s ∈ o.L, s ≠ f.name) : Keeps (D.doOp o id).2 f := by
  unfold DiskA.doOp
  split
  · exact create_keeps k _ _
  split
  · exact write_keeps hok.nd k hA _ _
  split
  · exact sync_keeps hok.nd k hL
  split
  · exact cut_keeps hok.nd k hA _
  split
  · exact rename_keeps k hA hB
  split
  · exact delete_keeps k hL
  split
  · exact ⟨k.mem, k.waits⟩
  split
  · exact crash_keeps k hf _ _
  · exact k
end Go.Proofs.Ytndpmjanflahhaa

/-
  A disk that the call itself made: the disk's contracts, with nothing told of blocks.
-/
namespace Go.Proofs.Ytndpmjanflahhaa
open Go.RowKit Go.MapKept

/-- Block b is a disk, made behind the world w0, and all that was there is as it was. -/
def Lives (w0 : World) (b : Nat) (D : DiskA) (w : World) : Prop := ∃ F, IsDisk w b D F ∧ (∀ k, F k → w0.heap.size ≤ k) ∧ Below w0.heap.size w0 w
theorem Lives.below {w0 w w' : World} {b : Nat} {D : DiskA} (h : Lives w0 b D w) (hB : Below w.heap.size w w') : Lives w0 b D w' := by
  obtain ⟨F, hd, hF, hb⟩ := h
  exact ⟨F, hd.below hB, hF, hb.trans (hB.mono hb.size)⟩
theorem Lives.grew {w0 w : World} {b : Nat} {D : DiskA} (h : Lives w0 b D w) : Below w0.heap.size w0 w := by
  obtain ⟨F, hd, hF, hb⟩ := h; exact hb
theorem Lives.ok {w0 w : World} {b : Nat} {D : DiskA} (h : Lives w0 b D w) : D.Ok := by
  obtain ⟨F, hd, hF, hb⟩ := h; exact hd.ok
theorem lives_step {w0 w w' : World} {b : Nat} {D' : DiskA} {F F' : Nat → Prop} (hF : ∀ k, F k → w0.heap.size ≤ k) (hb : Below w0.heap.size w0 w) (hd : IsDisk w' b D' F') (hs : Step F w F' w') : Lives w0 b D' w' :=
  ⟨F', hd, fun k hk => (hs.new k hk).elim (hF k) (fun h => Nat.le_trans hb.size h), hb.trans (hs.below hb.size hF)⟩

theorem New_lives {w0 w : World} (hB : Below w0.heap.size w0 w) (c : Int) (hc : -9223372036854775808 ≤ c ∧ c ≤ 9223372036854775807) :
    Calls Try.prog 40 #[.int .i64 c] w fun e w' => ∃ b, e = .returned (.pointer (some ⟨b, 0, none⟩)) ∧ Lives w0 b (newD c) w' :=
  (New_any c w hc).mono fun e w' ⟨b, F, he, hd, hb, hF⟩ => ⟨b, he, F, hd, fun k hk => Nat.le_trans hB.size (hF k hk), hB.trans (hb.mono hB.size)⟩
theorem Lives.create {w0 w : World} {b : Nat} {D : DiskA} (h : Lives w0 b D w) (n : ByteArray) (hn : n.size ≤ 140737488351232) (hfl : D.files.length < 4294967296) :
    Calls Try.prog 41 #[.pointer (some ⟨b, 0, none⟩), .string n] w fun e w' => ∃ id, e = .returned (.int .i64 (D.create n id).1) ∧ Lives w0 b (D.create n id).2 w' ∧ (∀ f ∈ D.files, f.id ≠ id) := by
  obtain ⟨F, hd, hF, hb⟩ := h
  exact (Create_any b D F w hd n hn hfl).mono fun e w' ⟨id, F', he, hd', hs, hid⟩ => ⟨id, he, lives_step hF hb hd' hs, hid⟩
theorem Lives.write {w0 w : World} {b : Nat} {D : DiskA} (h : Lives w0 b D w) (n : ByteArray) (p : Int) (s : ByteArray) (hs : s.size ≤ 1073741824) (hwl : D.waits.length < 1099511627776) :
    Calls Try.prog 42 #[.pointer (some ⟨b, 0, none⟩), .string n, .int .i64 p, .string s] w fun e w' => e = .returned (.int .i64 (D.write n p s).1) ∧ Lives w0 b (D.write n p s).2 w' := by
  obtain ⟨F, hd, hF, hb⟩ := h
  exact (Write_any b D F w hd n p s hs hwl).mono fun e w' ⟨F', he, hd', hs⟩ => ⟨he, lives_step hF hb hd' hs⟩
theorem Lives.sync1 {w0 w : World} {b : Nat} {D : DiskA} (h : Lives w0 b D w) (n : ByteArray) :
    Calls Try.prog 43 #[.pointer (some ⟨b, 0, none⟩), .slice (some ⟨w.heap.size, 0, none⟩) 1 1] (w.alloc (.cells #[.string n] 9)) fun e w' => e = .returned (.int .i64 (D.sync [n]).1) ∧ Lives w0 b (D.sync [n]).2 w' := by
  obtain ⟨F, hd, hF, hb⟩ := h
  have hB : Below w.heap.size w (w.alloc (.cells #[.string n] 9)) := (Below.refl _ w).alloc (Nat.le_refl _) _
  refine (Sync_any b D _ _ (hd.tight.below hB) _ 1 [n] (by simp) (StrSl.one w n) (fun _ x hx => ?_)).mono ?_
  · cases hx; rintro ⟨_, h2⟩; exact absurd h2 (Nat.lt_irrefl _)
  · rintro e w' ⟨he, hd', hs⟩
    exact ⟨he, lives_step hF hb (hd'.mono (fun _ h => h.1)) ((Step.of_below hB).trans (hs.mono (fun _ h => h.1)))⟩
theorem Lives.all {w0 w : World} {b : Nat} {D : DiskA} (h : Lives w0 b D w) (n : ByteArray) :
    Calls Try.prog 45 #[.pointer (some ⟨b, 0, none⟩), .string n] w fun e w' => e = .returned (.tuple #[.string (D.all n).1, .int .i64 (D.all n).2]) ∧ Lives w0 b D w' := by
  obtain ⟨F, hd, hF, hb⟩ := h
  exact (All_any b D F w hd n).mono fun e w' ⟨he, hB, hd'⟩ => ⟨he, F, hd', hF, hb.trans (hB.mono hb.size)⟩
theorem Lives.isDown {w0 w : World} {b : Nat} {D : DiskA} (h : Lives w0 b D w) :
    Calls Try.prog 46 #[.pointer (some ⟨b, 0, none⟩)] w fun e w' => e = .returned (.bool D.down) ∧ w = w' := by
  obtain ⟨F, hd, hF, hb⟩ := h
  exact Down_any b D F w hd
theorem Lives.crash0 {w0 w : World} {b : Nat} {D : DiskA} (h : Lives w0 b D w) (hfit : D.Fit) :
    Calls Try.prog 47 #[.pointer (some ⟨b, 0, none⟩), .agg #[.slice none 0 0, .int .i64 0]] w fun e w' => e = .returned (.tuple #[]) ∧ Lives w0 b (D.crash [] 0) w' := by
  obtain ⟨F, hd, hF, hb⟩ := h
  exact (Crash_any b D F w hd hfit [] 0 (by omega) none 0 (by simp) (.inl ⟨rfl, rfl, rfl⟩)).mono fun e w' ⟨he, hd', hs⟩ => ⟨he, lives_step hF hb hd' hs⟩
theorem Lives.doOp {w0 w : World} {b : Nat} {D : DiskA} (h : Lives w0 b D w) (hfit : D.Fit) (o : OpV) (hg : o.Good w0 (fun k => w0.heap.size ≤ k)) (hs : o.Small) (hwl : D.waits.length < 1099511627776) (hfl : D.files.length < 4294967296) :
    Calls Try.prog 44 #[.pointer (some ⟨b, 0, none⟩), .agg o.cells] w fun e w' => ∃ id, e = .returned (.int .i64 (D.doOp o id).1) ∧ Lives w0 b (D.doOp o id).2 w' ∧ (∀ f ∈ D.files, f.id ≠ id) := by
  obtain ⟨F, hd, hF, hb⟩ := h
  refine (Do_any b D F w hd hfit o (hg.kept (fun q hq _ => ⟨hb.block q hq, fun h => absurd (hF q h) (by omega)⟩)) hs hwl hfl).mono ?_
  rintro e w' ⟨id, F', he, hd', hs, hid⟩
  exact ⟨id, he, lives_step hF hb hd' hs, hid⟩

/-! ### where nothing goes wrong -/
theorem burn_id {D : DiskA} (h : D.left = -1) : D.burn = (true, D) := by
  unfold DiskA.burn; rw [h]; rfl
theorem create_ok {D : DiskA} (h : D.left = -1) (hd : D.down = false) {n : ByteArray} (hf : findF D.files n = none) (id : Nat) : D.create n id = (0, D.addFile n id) := by
  unfold DiskA.create; rw [hd, hf, burn_id h]; rfl
theorem write_ok {D : DiskA} (h : D.left = -1) (hd : D.down = false) {n : ByteArray} {f : FileA} (hf : findF D.files n = some f) {p : Nat} (hp : p ≤ f.now.size) {s : ByteArray} (hs : s.size ≠ 0)
    (hr : p + s.size ≤ f.now.size ∨ (p + s.size : Int) - f.now.size ≤ (D.cap : Int) - sizes D.files) : D.write n (p : Int) s = (0, D.put f p s) := by
  unfold DiskA.write; rw [hd, hf, burn_id h]
  simp only [Bool.false_eq_true, if_false]
  rw [if_neg (by omega), if_neg (by omega), if_neg hs]; rfl
theorem bars_ok {D : DiskA} (hd : D.down = false) {ss : List ByteArray} (hs : ∀ s ∈ ss, (findF D.files s).isSome = true) : D.bars ss = 0 := by
  unfold DiskA.bars; rw [hd, List.all_eq_true.2 hs]; rfl
theorem sync_ok {D : DiskA} (h : D.left = -1) (hd : D.down = false) {ss : List ByteArray} (hs : ∀ s ∈ ss, (findF D.files s).isSome = true) : D.sync ss = (0, D.lasts ss) := by
  unfold DiskA.sync; rw [bars_ok hd hs, burn_id h]; rfl
theorem all_ok {D : DiskA} (hd : D.down = false) {n : ByteArray} {f : FileA} (hf : findF D.files n = some f) : D.all n = (f.now, 0) := by
  unfold DiskA.all; rw [hd, hf]; rfl

/-! ### the document's example -/
def fB : ByteArray := ⟨#[102]⟩
def abB : ByteArray := ⟨#[97, 98]⟩
def cdB : ByteArray := ⟨#[99, 100]⟩
def abcdB : ByteArray := ⟨#[97, 98, 99, 100]⟩
def awD (id : Nat) (image now : ByteArray) (waits : List WaitA) : DiskA := ⟨-1, false, 100, [⟨fB, id, image, now⟩], waits⟩
theorem aw_find (id : Nat) (i n : ByteArray) (l : List WaitA) : findF (awD id i n l).files fB = some ⟨fB, id, i, n⟩ := by
  unfold findF awD; simp [(bytes_beq fB fB).2 rfl]
theorem aw_put (id : Nat) (i n : ByteArray) (l : List WaitA) (p : Nat) (s : ByteArray) : (awD id i n l).put ⟨fB, id, i, n⟩ p s = awD id i (laidB n p s) (l ++ [⟨id, p, s⟩]) := by
  simp [DiskA.put, awD, turn, FileA.setNow]
theorem lasts_one (D : DiskA) (n : ByteArray) : D.lasts [n] = D.lastOf n := rfl
theorem aw_last (id : Nat) (i n : ByteArray) (l : List WaitA) : (awD id i n l).lasts [fB] = awD id n n (others l id) := by
  rw [lasts_one]
  unfold DiskA.lastOf
  rw [aw_find]
  simp [DiskA.last1, DiskA.imaged, DiskA.waited, turn, FileA.setImage, awD]
theorem aw1 (id : Nat) : (newD 100).create fB id = (0, awD id ByteArray.empty ByteArray.empty []) := rfl
theorem ab_size : abB.size = 2 := by decide
theorem cd_size : cdB.size = 2 := by decide
theorem aw_sizes (id : Nat) (i n : ByteArray) (l : List WaitA) : sizes (awD id i n l).files = n.size := by simp [awD, sizes]
theorem aw2 (id : Nat) : (awD id ByteArray.empty ByteArray.empty []).write fB 0 abB = (0, awD id ByteArray.empty abB [⟨id, 0, abB⟩]) := by
  have := write_ok (D := awD id ByteArray.empty ByteArray.empty []) rfl rfl (aw_find _ _ _ _) (p := 0) (Nat.zero_le _) (s := abB) (by decide) (.inr (by
    rw [aw_sizes, ab_size]; show (_ : Int) - (ByteArray.empty.size : Nat) ≤ 100 - (ByteArray.empty.size : Nat); decide))
  rw [aw_put] at this
  exact this
theorem aw3 (id : Nat) : (awD id ByteArray.empty abB [⟨id, 0, abB⟩]).sync [fB] = (0, awD id abB abB []) := by
  rw [sync_ok rfl rfl (fun s hs => by simp at hs; subst hs; rw [aw_find]; rfl), aw_last]
  simp [others]
theorem aw4 (id : Nat) : (awD id abB abB []).write fB 2 cdB = (0, awD id abB abcdB [⟨id, 2, cdB⟩]) := by
  have := write_ok (D := awD id abB abB []) rfl rfl (aw_find _ _ _ _) (p := 2) (by show 2 ≤ abB.size; decide) (s := cdB) (by decide) (.inr (by
    rw [aw_sizes, cd_size]; show (_ : Int) - (abB.size : Nat) ≤ 100 - (abB.size : Nat); rw [ab_size]; decide))
  rw [aw_put] at this
  exact this
theorem aw5 (id : Nat) : (awD id abB abcdB [⟨id, 2, cdB⟩]).crash [] 0 = awD id abB abB [] := by
  unfold DiskA.crash
  simp [DiskA.layUp, awD, DiskA.stilled, FileA.still]
theorem aw_fit (id : Nat) : (awD id abB abcdB [⟨id, 2, cdB⟩]).Fit := by
  refine ⟨fun f hf => ?_, fun x hx f hf _ => ?_⟩
  · simp [awD] at hf; subst hf; show abB.size ≤ abcdB.size; decide
  · simp [awD] at hf hx; subst hf; subst hx; show 2 + cdB.size ≤ abcdB.size; decide
theorem aw6 (id : Nat) : (awD id abB abB []).all fB = (abB, 0) := all_ok rfl (aw_find _ _ _ _)
end Go.Proofs.Ytndpmjanflahhaa
