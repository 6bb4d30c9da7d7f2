/-
  En0, En1, En2, Ov0, one behind the other.
-/
import Derived.Test.YtndpmjanflahhaaRc0
import Derived.Test.YtndpmjanflahhaaWh6
import Derived.Laws.ResultCell
import Derived.Test.YtndpmjanflahhaaWh9
/-
  entry.put, (entry.Link).Put, (entry.Mark).Put.
-/
namespace Go.Proofs.Ytndpmjanflahhaa
open Go.RowKit Go.MapKept

/-- A slice of widths: from an address on lie these. -/
def WidSl (w : World) (a : Option Addr) (l : List (Nat × Nat)) : Prop :=
  ∀ i p, l[i]? = some p → ∃ g off, a = some ⟨g, off, none⟩ ∧ w.cell? ⟨g, off + i * 2, none⟩ = some (.int .i64 p.1) ∧ w.cell? ⟨g, off + i * 2 + 1, none⟩ = some (.int .i64 p.2)
/-- Widths' bytes. -/
def recL (l : List (Nat × Nat)) : List UInt8 := l.flatMap (fun p => beL p.1 p.2)
def recB (l : List (Nat × Nat)) : ByteArray := ⟨(recL l).toArray⟩
theorem recL_len (l : List (Nat × Nat)) (h : ∀ p ∈ l, p.1 ≤ 7) : (recL l).length ≤ 7 * l.length := by
  induction l with
  | nil => exact Nat.le_refl _
  | cons p t ih =>
    show (beL p.1 p.2 ++ recL t).length ≤ _
    rw [List.length_append, beL_len, List.length_cons]
    have := ih (fun q hq => h q (List.mem_cons_of_mem _ hq))
    have := h p List.mem_cons_self
    omega
theorem recB_take_succ {l : List (Nat × Nat)} {k : Nat} {p : Nat × Nat} (h : l[k]? = some p) : recB (l.take k) ++ beB p.1 p.2 = recB (l.take (k + 1)) := by
  rw [List.take_add_one, h]
  apply ba_ext
  simp [recB, recL, beB]
theorem recB_size (l : List (Nat × Nat)) (h : ∀ p ∈ l, p.1 ≤ 7) : (recB l).size ≤ 7 * l.length := by
  show (List.toArray _).size ≤ _
  rw [List.size_toArray]; exact recL_len l h

set_option maxRecDepth 100000 in
set_option maxHeartbeats 2000000 in
theorem EPut_any (a : Option Addr) (cap : Nat) (l : List (Nat × Nat)) (w : World) (hl : l.length ≤ 8) (hf : ∀ p ∈ l, 1 ≤ p.1 ∧ p.1 ≤ 7 ∧ p.2 < 256 ^ p.1) (hr : WidSl w a l) :
    Calls Try.prog 133 #[.slice a l.length cap] w fun e w' => e = .returned (.tuple #[.string (recB l), .bool true]) ∧ Below w.heap.size w w' := by
  obtain ⟨n, hn⟩ : ∃ n, l.length = n := ⟨_, rfl⟩
  rw [hn] at hl ⊢
  have hn' := Lib.hid hn
  have hr' := Lib.hid hr
  have hf' := Lib.hid hf
  clear hn hr hf
  go_enter Try.func133, Try.ntmps133
  go_wp2_with fail
  go_loopw [4, 11] (fun vs vi wr => ∃ k : Nat, k ≤ n ∧ vi = .int .i64 k ∧ vs = .string (recB (l.take k)) ∧ Below w.heap.size w wr) (fun _ vi _ => n - (intOf vi).toNat)
  case atStart => exact ⟨0, by omega, rfl, rfl, Below.refl _ _⟩
  case round =>
    obtain ⟨k, hk, rfl, rfl, hB⟩ := hrel
    by_cases hkn : k < n
    · have hkl : k < l.length := by rw [hn'.out]; exact hkn
      obtain ⟨⟨m, x⟩, hxk⟩ : ∃ p, l[k]? = some p := ⟨l[k], by simp [hkl]⟩
      obtain ⟨g, off, rfl, hc0, hc1⟩ := hr'.out k _ hxk
      obtain ⟨h1, h2, h3⟩ := hf'.out _ (List.mem_of_getElem? hxk)
      have hcat := Lib.hid (recB_take_succ hxk)
      have hs1 : (recB (l.take k)).size ≤ 56 := by
        have := recB_size (l.take k) (fun p hp => (hf'.out p (List.mem_of_mem_take hp)).2.1)
        rw [List.length_take] at this; omega
      dsimp only at hc0 hc1 h1 h2 h3 hcat
      have c0 := (hB.cell (p := ⟨g, off + k * 2, none⟩) (World.block_lt_of_cell? _ _ hc0)).trans hc0
      have c1 := (hB.cell (p := ⟨g, off + k * 2 + 1, none⟩) (World.block_lt_of_cell? _ _ hc1)).trans hc1
      have hx7 : x ≤ 9223372036854775807 := by
        have : 256 ^ m ≤ 256 ^ 7 := Nat.pow_le_pow_right (by omega) h2
        have h256 : 256 ^ 7 = 72057594037927936 := by decide
        omega
      have cN := fun W (g' : Nat) (hc : W.cell? ⟨g', 0, none⟩ = some (.int .i64 x)) => Num_ok m h1 h2 (some ⟨g', 0, none⟩) 1 [(x : Int)] W (by simp) (by
        intro y hy; simp at hy; subst hy
        exact ⟨by omega, by show (x : Int) < ((256 ^ m : Nat) : Int); omega⟩) (by
        intro i y hi
        cases i with
        | zero => simp at hi; subst hi; exact ⟨_, _, rfl, by simpa using hc⟩
        | succ i => simp at hi)
      have hnum : (⟨(numsL m [(x : Int)]).toArray⟩ : ByteArray) = beB m x := by simp [numsL, beB]
      rw [hnum] at cN
      have hs2 : (beB m x).size ≤ 7 := by rw [beB_size]; exact h2
      generalize recB (l.take k) = z1 at *
      generalize beB m x = z2 at *
      clear hnum hc0 hc1 hxk hkl h3
      go_wp2_with fail
      refine (cN _ _ ?_).mono ?_
      · simp
      rintro e w6 ⟨rfl, hB6⟩
      clear cN
      have hB7 : Below w.heap.size w w6 := ((hB.alloc hB.size (.cells #[.int .i64 m, .int .i64 x] 182)).alloc (by simp; have := hB.size; omega) (.cells #[.int .i64 x] 3)).trans (hB6.mono (by simp; have := hB.size; omega))
      go_wp2_with fail
      refine ⟨⟨k + 1, by omega, by go_num, by rw [hcat.out], hB7⟩, by simp [intOf]; omega⟩
    · obtain rfl : k = n := by omega
      have ht : l.take k = l := List.take_of_length_le (by rw [hn'.out]; omega)
      rw [ht]
      go_wp2_with fail
      go_ret2
      exact ⟨rfl, hB⟩
theorem Blk.new' {w : World} {k : Nat} (h : w.heap.size = k) (c : Array Value) (T : TypeId) : Blk (w.alloc (.cells c T)) k c T := by subst h; exact Blk.new _ _ _

set_option maxRecDepth 100000 in
theorem LPut_any (x0 x1 x2 x3 : Nat) (w : World) (h0 : x0 < 1099511627776) (h1 : x1 < 281474976710656) (h2 : x2 < 281474976710656) (h3 : x3 < 16777216) :
    Calls Try.prog 108 #[.agg #[.int .i64 x0, .int .i64 x1, .int .i64 x2, .int .i64 x3]] w fun e w' => e = .returned (.tuple #[.string (recB [(5, x0), (6, x1), (6, x2), (3, x3)]), .bool true]) ∧ Below w.heap.size w w' := by
  have cP := fun W (g : Nat) (hc : Blk W g #[.int .i64 5, .int .i64 x0, .int .i64 6, .int .i64 x1, .int .i64 6, .int .i64 x2, .int .i64 3, .int .i64 x3] 182) => EPut_any (some ⟨g, 0, none⟩) 4 [(5, x0), (6, x1), (6, x2), (3, x3)] W (by simp) (by
    intro p hp
    simp at hp
    rcases hp with rfl | rfl | rfl | rfl
    all_goals (refine ⟨by simp, by simp, ?_⟩)
    all_goals (simp only [Nat.reducePow]; omega)) (by
    intro i p hi
    match i, hi with
    | 0, hi => simp at hi; subst hi; exact ⟨g, 0, rfl, hc.cell 0, hc.cell 1⟩
    | 1, hi => simp at hi; subst hi; exact ⟨g, 0, rfl, hc.cell 2, hc.cell 3⟩
    | 2, hi => simp at hi; subst hi; exact ⟨g, 0, rfl, hc.cell 4, hc.cell 5⟩
    | 3, hi => simp at hi; subst hi; exact ⟨g, 0, rfl, hc.cell 6, hc.cell 7⟩)
  clear h0 h1 h2 h3
  generalize recB [(5, x0), (6, x1), (6, x2), (3, x3)] = z at *
  have hB : Below w.heap.size w ((w.alloc (.cells #[.int .i64 x0, .int .i64 x1, .int .i64 x2, .int .i64 x3] 152)).alloc (.cells #[.int .i64 5, .int .i64 x0, .int .i64 6, .int .i64 x1, .int .i64 6, .int .i64 x2, .int .i64 3, .int .i64 x3] 182)) := ((Below.refl _ w).alloc (Nat.le_refl _) _).alloc (by simp) _
  go_enter Try.func108, Try.ntmps108
  go_wp2_with fail
  refine (cP _ _ ?_).mono ?_
  · exact Blk.new' (by simp) _ _
  rintro e w6 ⟨rfl, hB6⟩
  clear cP
  go_wp2_with fail
  go_ret2
  exact ⟨rfl, hB.trans (hB6.mono (by simp; omega))⟩
set_option maxRecDepth 100000 in
theorem MPut_any (x0 x1 x2 x3 : Nat) (w : World) (h0 : x0 < 281474976710656) (h1 : x1 < 281474976710656) (h2 : x2 < 281474976710656) (h3 : x3 < 65536) :
    Calls Try.prog 136 #[.agg #[.int .i64 x0, .int .i64 x1, .int .i64 x2, .int .i64 x3]] w fun e w' => e = .returned (.tuple #[.string (recB [(6, x0), (6, x1), (6, x2), (2, x3)]), .bool true]) ∧ Below w.heap.size w w' := by
  have cP := fun W (g : Nat) (hc : Blk W g #[.int .i64 6, .int .i64 x0, .int .i64 6, .int .i64 x1, .int .i64 6, .int .i64 x2, .int .i64 2, .int .i64 x3] 182) => EPut_any (some ⟨g, 0, none⟩) 4 [(6, x0), (6, x1), (6, x2), (2, x3)] W (by simp) (by
    intro p hp
    simp at hp
    rcases hp with rfl | rfl | rfl | rfl
    all_goals (refine ⟨by simp, by simp, ?_⟩)
    all_goals (simp only [Nat.reducePow]; omega)) (by
    intro i p hi
    match i, hi with
    | 0, hi => simp at hi; subst hi; exact ⟨g, 0, rfl, hc.cell 0, hc.cell 1⟩
    | 1, hi => simp at hi; subst hi; exact ⟨g, 0, rfl, hc.cell 2, hc.cell 3⟩
    | 2, hi => simp at hi; subst hi; exact ⟨g, 0, rfl, hc.cell 4, hc.cell 5⟩
    | 3, hi => simp at hi; subst hi; exact ⟨g, 0, rfl, hc.cell 6, hc.cell 7⟩)
  clear h0 h1 h2 h3
  generalize recB [(6, x0), (6, x1), (6, x2), (2, x3)] = z at *
  have hB : Below w.heap.size w ((w.alloc (.cells #[.int .i64 x0, .int .i64 x1, .int .i64 x2, .int .i64 x3] 102)).alloc (.cells #[.int .i64 6, .int .i64 x0, .int .i64 6, .int .i64 x1, .int .i64 6, .int .i64 x2, .int .i64 2, .int .i64 x3] 182)) := ((Below.refl _ w).alloc (Nat.le_refl _) _).alloc (by simp) _
  go_enter Try.func136, Try.ntmps136
  go_wp2_with fail
  refine (cP _ _ ?_).mono ?_
  · exact Blk.new' (by simp) _ _
  rintro e w6 ⟨rfl, hB6⟩
  clear cP
  go_wp2_with fail
  go_ret2
  exact ⟨rfl, hB.trans (hB6.mono (by simp; omega))⟩
end Go.Proofs.Ytndpmjanflahhaa

/-
  entry.get, entry.GetLink, entry.GetMark, where the bytes are just there.
-/
namespace Go.Proofs.Ytndpmjanflahhaa
open Go.RowKit Go.MapKept

set_option maxRecDepth 100000 in
theorem OLeft_any (r : Nat) (s : ByteArray) (x : Int) (w : World) (h : Blk w r #[.string s, .int .i64 x] 178) :
    Calls Try.prog 166 #[.pointer (some ⟨r, 0, none⟩)] w fun e w' => e = .returned (.int .i64 s.size) ∧ w = w' := by
  have c0 : w.cell? ⟨r, 0, none⟩ = some (.string s) := h.cell 0
  go_enter Try.func166, Try.ntmps166
  go_wp2
  go_ret
  exact ⟨rfl, rfl⟩
set_option maxRecDepth 100000 in
theorem OEnd_ok (r : Nat) (s : ByteArray) (w : World) (h : Blk w r #[.string s, .int .i64 0] 178) (hs : s.size = 0) :
    Calls Try.prog 159 #[.pointer (some ⟨r, 0, none⟩)] w fun e w' => e = .returned (.int .i64 0) ∧ w = w' := by
  have cE := OErr_any r s 0 w h
  have cL := OLeft_any r s 0 w h
  rw [hs] at cL
  clear h hs
  go_enter Try.func159, Try.ntmps159
  go_wp2_with fail
  refine cE.mono ?_
  rintro e w' ⟨rfl, rfl⟩
  go_wp2_with fail
  refine cL.mono ?_
  rintro e w' ⟨rfl, rfl⟩
  go_wp2_with fail
  go_ret
  exact ⟨rfl, rfl⟩

/-- Where the k-th number begins. -/
def posN (n : Nat → Nat) : Nat → Nat
  | 0 => 0
  | k + 1 => posN n k + n k
def partN (n : Nat → Nat) (s : ByteArray) (k : Nat) : Nat := getL ((s.data.toList.drop (posN n k)).take (n k))

theorem posN_mono (n : Nat → Nat) {i j : Nat} (h : i ≤ j) : posN n i ≤ posN n j := by
  induction j with
  | zero => obtain rfl : i = 0 := by omega
            exact Nat.le_refl _
  | succ j ih =>
    rcases Nat.lt_or_ge i (j + 1) with h1 | h1
    · have := ih (by omega); show _ ≤ posN n j + n j; omega
    · obtain rfl : i = j + 1 := by omega
      exact Nat.le_refl _

set_option maxRecDepth 100000 in
set_option maxHeartbeats 2000000 in
theorem EGet_any (s : ByteArray) (m : Nat) (p n : Nat → Nat) (a : Option Addr) (cap B : Nat) (w : World) (hm : m ≤ 8) (hs : s.size = posN n m) (hn : ∀ i, i < m → 1 ≤ n i ∧ n i ≤ 7) (hp : ∀ i j, i < m → j < m → i ≠ j → p i ≠ p j) (hB0 : ∀ i, i < m → B ≤ p i) (hBw : B ≤ w.heap.size)
    (ha : ∀ i, i < m → ∃ g off, a = some ⟨g, off, none⟩ ∧ g < w.heap.size ∧ (∀ j, j < m → g ≠ p j) ∧ w.cell? ⟨g, off + i, none⟩ = some (.pointer (some ⟨p i, 0, none⟩))) (hw : ∀ i, i < m → Blk w (p i) #[.int .i64 (n i), .int .i64 0] 182) :
    Calls Try.prog 146 #[.string s, .slice a m cap] w fun e w' => e = .returned (.bool true) ∧ (∀ i, i < m → Blk w' (p i) #[.int .i64 (n i), .int .i64 (partN n s i)] 182) ∧ Below B w w' := by
  have hsl : s.data.toList.length = posN n m := by rw [← hs]; simp
  have hs7 : posN n m ≤ 7 * m := by
    have : ∀ k, k ≤ m → posN n k ≤ 7 * k := by
      intro k
      induction k with
      | zero => intro _; exact Nat.le_refl _
      | succ k ih => intro hk; show posN n k + n k ≤ _; have := ih (by omega); have := (hn k (by omega)).2; omega
    exact this m (Nat.le_refl _)
  have hmono := fun k (hk : k < m) => posN_mono n (show k + 1 ≤ m from hk)
  have hsl' := Lib.hid hsl
  have hn' := Lib.hid hn
  have hp' := Lib.hid hp
  have hB0' := Lib.hid hB0
  have ha' := Lib.hid ha
  have hw' := Lib.hid hw
  have hmono' := Lib.hid hmono
  clear hsl hs hn hp hB0 ha hw hmono
  go_enter Try.func146, Try.ntmps146
  go_wp2_with fail
  refine (ONew_any s w).mono ?_
  rintro e w1 ⟨rfl, hw1⟩
  have hR : Blk w1 w.heap.size #[.string s, .int .i64 0] 178 := by rw [hw1]; exact Blk.new _ _ _
  have hold : ∀ g, g < w.heap.size → w1.heap[g]? = w.heap[g]? := fun g hg => by rw [hw1]; exact ((Below.refl _ w).alloc (Nat.le_refl _) _).block g hg
  have hBw1 : Below B w w1 := by rw [hw1]; exact (Below.refl _ w).alloc hBw _
  obtain ⟨R, hRe⟩ : ∃ R, R = w.heap.size := ⟨_, rfl⟩
  have hRl := Lib.hid hRe
  rw [← hRe] at hR ⊢
  clear hw1 hRe
  go_wp2_with fail
  go_loopw [12] (fun vi wr => ∃ (k : Nat) (t : ByteArray), k ≤ m ∧ vi = .int .i64 k ∧ Blk wr R #[.string t, .int .i64 0] 178 ∧ Hid (t.data.toList = s.data.toList.drop (posN n k)) ∧ Hid (∀ i, i < m → Blk wr (p i) #[.int .i64 (n i), .int .i64 (if i < k then partN n s i else 0 : Nat)] 182) ∧ Hid (∀ g, g < w.heap.size → (∀ j, j < m → g ≠ p j) → wr.heap[g]? = w.heap[g]?) ∧ Below B w wr) (fun vi _ => m - (intOf vi).toNat)
  case atStart => exact ⟨0, s, by omega, rfl, hR, by show _ = _; simp [posN], fun i hi => by simpa using (hw'.out i hi).at (hold _ (hw'.out i hi).lt), fun g hg _ => hold g hg, hBw1⟩
  case round =>
    obtain ⟨k, t, hk, rfl, hRt, ht, hW, hO, hB⟩ := hrel
    by_cases hkm : k < m
    · obtain ⟨g, off, rfl, hg, hgp, hc⟩ := ha'.out k hkm
      have c0 := (World.cell?_of_block (a := ⟨g, off + k, none⟩) (hO.out g hg hgp)).trans hc
      obtain ⟨n1, n7⟩ := hn'.out k hkm
      have hts : t.size = posN n m - posN n k := by
        have := congrArg List.length ht.out
        rw [List.length_drop, hsl'.out] at this
        simpa using this
      have hpm : posN n k + n k ≤ posN n m := hmono'.out k hkm
      have cN := ONum_any R t (n k) wr hRt (by omega) (by omega) n1 n7
      have hval : getL (t.data.toList.take (n k)) = partN n s k := by unfold partN; rw [ht.out]
      rw [hval] at cN
      have hRp : ∀ i, i < m → p i ≠ R := fun i hi => by have := (hw'.out i hi).lt; rw [hRl.out]; omega
      have hk0 := hW.out k hkm
      rw [if_neg (by omega)] at hk0
      have hk1 := hk0.at (setCell_heap wr ⟨R, 0, none⟩ (.string (t.extract (n k) t.size)) (p k) (hRp k hkm))
      have c1 : wr.cell? ⟨p k, 0, none⟩ = some (.int .i64 (n k)) := hk0.cell 0
      have c2 := hk1.cell 1
      have f2 := hk1.frozen 1
      generalize hnk : n k = nk at *
      generalize hpk : p k = pk at *
      generalize hxx : partN n s k = xx at *
      generalize ht2 : t.extract nk t.size = t2 at *
      have hnkH := Lib.hid hnk
      have hpkH := Lib.hid hpk
      have hxxH := Lib.hid hxx
      have ht2H := Lib.hid ht2
      clear hnk hpk hxx ht2 hc hval hgp hk0 hk1
      go_wp2_with fail
      refine cN.mono ?_
      rintro e w2 ⟨rfl, rfl⟩
      go_wp2_with fail
      have hRpk : pk ≠ R := by rw [← hpkH.out]; exact hRp k hkm
      have hBpk : B ≤ pk := by rw [← hpkH.out]; exact hB0'.out k hkm
      have hBR : B ≤ R := by rw [hRl.out]; exact hBw
      have hoth : ∀ q, q ≠ R → q ≠ pk → ((wr.setCell ⟨R, 0, none⟩ (.string t2)).setCell ⟨pk, 1, none⟩ (.int .i64 xx)).heap[q]? = wr.heap[q]? := fun q h1 h2 => (setCell_heap _ _ _ _ h2).trans (setCell_heap _ _ _ _ h1)
      refine ⟨⟨k + 1, t2, by omega, by go_num, ?_, ?_, ?_, ?_, ?_⟩, by simp [intOf]; omega⟩
      · exact (hRt.set 0 (.string t2)).at (setCell_heap _ _ _ _ (fun h => hRpk h.symm))
      · show _ = _
        rw [← ht2H.out, ext_drop, ht.out, List.drop_drop, ← hnkH.out]
        rfl
      · intro i hi
        by_cases hik : i = k
        · subst hik
          rw [if_pos (by omega), hnkH.out, hxxH.out, hpkH.out]
          have hk0 := hW.out i hi
          rw [if_neg (by omega), hnkH.out, hpkH.out] at hk0
          have hk1 := hk0.at (setCell_heap wr ⟨R, 0, none⟩ (.string t2) pk hRpk)
          exact hk1.set 1 (.int .i64 xx)
        · have h0 := hW.out i hi
          have : (if i < k + 1 then partN n s i else 0) = (if i < k then partN n s i else 0) := by
            by_cases h : i < k
            · rw [if_pos h, if_pos (by omega)]
            · rw [if_neg h, if_neg (by omega)]
          rw [this]
          exact h0.at (hoth _ (hRp i hi) (by rw [← hpkH.out]; exact hp'.out i k hi hkm hik))
      · intro q hq hqp
        rw [hoth q (by rw [hRl.out]; omega) (by rw [← hpkH.out]; exact hqp k hkm)]
        exact hO.out q hq hqp
      · exact (hB.setCell (p := ⟨R, 0, none⟩) hBR _).setCell (p := ⟨pk, 1, none⟩) hBpk _
    · obtain rfl : k = m := by omega
      have hte : t.size = 0 := by
        have := congrArg List.length ht.out
        rw [List.length_drop, hsl'.out] at this
        simpa using this
      have cE := OEnd_ok R t wr hRt hte
      go_wp2_with fail
      refine cE.mono ?_
      rintro e w2 ⟨rfl, rfl⟩
      go_wp2_with fail
      go_ret
      exact ⟨rfl, fun i hi => by simpa [hi] using hW.out i hi, hB⟩
end Go.Proofs.Ytndpmjanflahhaa

/-
  entry.GetLink, entry.GetMark, where the bytes are just there.
-/
namespace Go.Proofs.Ytndpmjanflahhaa
open Go.RowKit Go.MapKept

theorem Blk.up {w : World} {k : Nat} {c : Array Value} {T : TypeId} (h : Blk w k c T) (o : Obj) : Blk (w.alloc o) k c T := h.at (((Below.refl _ w).alloc (Nat.le_refl _) o).block k h.lt)

def nLink (i : Nat) : Nat := match i with | 0 => 5 | 1 => 6 | 2 => 6 | _ => 3
set_option maxRecDepth 100000 in
set_option maxHeartbeats 1000000 in
theorem GetLink_any (s : ByteArray) (w : World) (hs : s.size = 20) :
    Calls Try.prog 145 #[.string s] w fun e w' => e = .returned (.tuple #[.agg #[.int .i64 (partN nLink s 0), .int .i64 (partN nLink s 1), .int .i64 (partN nLink s 2), .int .i64 (partN nLink s 3)], .bool true]) ∧ Below w.heap.size w w' := by
  have cG := fun W (k : Nat) (hk : w.heap.size ≤ k) (hW : k + 5 ≤ W.heap.size) (b0 : Blk W (k + 1) #[.int .i64 5, .int .i64 0] 182) (b1 : Blk W (k + 2) #[.int .i64 6, .int .i64 0] 182) (b2 : Blk W (k + 3) #[.int .i64 6, .int .i64 0] 182) (b3 : Blk W (k + 4) #[.int .i64 3, .int .i64 0] 182) (bp : Blk W (k + 5) #[.pointer (some ⟨k + 1, 0, none⟩), .pointer (some ⟨k + 2, 0, none⟩), .pointer (some ⟨k + 3, 0, none⟩), .pointer (some ⟨k + 4, 0, none⟩)] 199) =>
    EGet_any s 4 (fun i => k + 1 + i) nLink (some ⟨k + 5, 0, none⟩) 4 (k + 1) W (by omega) (by rw [hs]; rfl) (fun i hi => by match i, hi with | 0, _ | 1, _ | 2, _ | 3, _ => exact ⟨by decide, by decide⟩) (fun i j _ _ h => by show k + 1 + i ≠ k + 1 + j; omega) (fun i _ => by show k + 1 ≤ k + 1 + i; omega) (by omega)
      (fun i hi => ⟨k + 5, 0, rfl, bp.lt, fun j hj => by show k + 5 ≠ k + 1 + j; omega, by match i, hi with | 0, _ => exact bp.cell 0 | 1, _ => exact bp.cell 1 | 2, _ => exact bp.cell 2 | 3, _ => exact bp.cell 3⟩)
      (fun i hi => by match i, hi with | 0, _ => exact b0 | 1, _ => exact b1 | 2, _ => exact b2 | 3, _ => exact b3)
  clear hs
  go_enter Try.func145, Try.ntmps145
  go_wp2_with fail
  refine (cG _ w.heap.size (Nat.le_refl _) ?_ ?_ ?_ ?_ ?_ ?_).mono ?_
  · simp
  · exact ((((Blk.new' (by simp) _ _).up _).up _).up _).up _
  · exact (((Blk.new' (by simp) _ _).up _).up _).up _
  · exact ((Blk.new' (by simp) _ _).up _).up _
  · exact (Blk.new' (by simp) _ _).up _
  · exact Blk.new' (by simp) _ _
  clear cG
  rintro e w6 ⟨rfl, hp, hB6⟩
  have hB7 : Below w.heap.size w w6 := by
    refine Below.trans ?_ (hB6.mono (by omega))
    repeat' (first | exact Below.refl _ _ | refine Below.alloc ?_ (by simp <;> omega) _)
  have hb : Blk w6 w.heap.size #[.int .i64 0, .int .i64 0, .int .i64 0, .int .i64 0] 152 := (((((((Blk.new' rfl _ _).up _).up _).up _).up _).up _)).at (hB6.block _ (by omega))
  have p0 := hp 0 (by omega)
  have p1 := hp 1 (by omega)
  have p2 := hp 2 (by omega)
  have p3 := hp 3 (by omega)
  dsimp only [Nat.add_zero] at p0 p1 p2 p3
  have d0 : w6.cell? ⟨w.heap.size + 1, 1, none⟩ = some (.int .i64 (partN nLink s 0)) := p0.cell 1
  have d1 : w6.cell? ⟨w.heap.size + 1 + 1, 1, none⟩ = some (.int .i64 (partN nLink s 1)) := p1.cell 1
  have d2 : w6.cell? ⟨w.heap.size + 1 + 1 + 1, 1, none⟩ = some (.int .i64 (partN nLink s 2)) := p2.cell 1
  have d3 : w6.cell? ⟨w.heap.size + 1 + 1 + 1 + 1, 1, none⟩ = some (.int .i64 (partN nLink s 3)) := p3.cell 1
  have e0 : w6.cell? ⟨w.heap.size, 0, none⟩ = some (.int .i64 0) := hb.cell 0
  have e1 : w6.cell? ⟨w.heap.size, 1, none⟩ = some (.int .i64 0) := hb.cell 1
  have e2 : w6.cell? ⟨w.heap.size, 2, none⟩ = some (.int .i64 0) := hb.cell 2
  have e3 : w6.cell? ⟨w.heap.size, 3, none⟩ = some (.int .i64 0) := hb.cell 3
  have f0 := hb.frozen 0
  have f1 := hb.frozen 1
  have f2 := hb.frozen 2
  have f3 := hb.frozen 3
  have hfin : Blk ((((w6.setCell ⟨w.heap.size, 0, none⟩ (.int .i64 (partN nLink s 0))).setCell ⟨w.heap.size, 1, none⟩ (.int .i64 (partN nLink s 1))).setCell ⟨w.heap.size, 2, none⟩ (.int .i64 (partN nLink s 2))).setCell ⟨w.heap.size, 3, none⟩ (.int .i64 (partN nLink s 3))) w.heap.size #[.int .i64 (partN nLink s 0), .int .i64 (partN nLink s 1), .int .i64 (partN nLink s 2), .int .i64 (partN nLink s 3)] 152 := (((hb.set 0 _).set 1 _).set 2 _).set 3 _
  have hBf : Below w.heap.size w ((((w6.setCell ⟨w.heap.size, 0, none⟩ (.int .i64 (partN nLink s 0))).setCell ⟨w.heap.size, 1, none⟩ (.int .i64 (partN nLink s 1))).setCell ⟨w.heap.size, 2, none⟩ (.int .i64 (partN nLink s 2))).setCell ⟨w.heap.size, 3, none⟩ (.int .i64 (partN nLink s 3))) := (((hB7.setCell (p := ⟨w.heap.size, 0, none⟩) (Nat.le_refl _) _).setCell (p := ⟨w.heap.size, 1, none⟩) (Nat.le_refl _) _).setCell (p := ⟨w.heap.size, 2, none⟩) (Nat.le_refl _) _).setCell (p := ⟨w.heap.size, 3, none⟩) (Nat.le_refl _) _
  clear hp p0 p1 p2 p3 hb hB6 hB7
  go_wp2_with fail
  (try simp only [Exit.inBlock, Exit.then])
  generalize ((((w6.setCell ⟨w.heap.size, 0, none⟩ (.int .i64 (partN nLink s 0))).setCell ⟨w.heap.size, 1, none⟩ (.int .i64 (partN nLink s 1))).setCell ⟨w.heap.size, 2, none⟩ (.int .i64 (partN nLink s 2))).setCell ⟨w.heap.size, 3, none⟩ (.int .i64 (partN nLink s 3))) = w7 at *
  have g0 : w7.cell? ⟨w.heap.size, 0, none⟩ = some (.int .i64 (partN nLink s 0)) := hfin.cell 0
  have g1 : w7.cell? ⟨w.heap.size, 1, none⟩ = some (.int .i64 (partN nLink s 1)) := hfin.cell 1
  have g2 : w7.cell? ⟨w.heap.size, 2, none⟩ = some (.int .i64 (partN nLink s 2)) := hfin.cell 2
  have g3 : w7.cell? ⟨w.heap.size, 3, none⟩ = some (.int .i64 (partN nLink s 3)) := hfin.cell 3
  refine bodyPost_ret (v := .tuple #[.agg #[.int .i64 (partN nLink s 0), .int .i64 (partN nLink s 1), .int .i64 (partN nLink s 2), .int .i64 (partN nLink s 3)], .bool true]) ?_ rfl ⟨rfl, hBf⟩
  rw [results_cell_tmp rfl]
  go_simp
theorem Link_back (x0 x1 x2 x3 : Nat) (h0 : x0 < 1099511627776) (h1 : x1 < 281474976710656) (h2 : x2 < 281474976710656) (h3 : x3 < 16777216) : partN nLink (recB [(5, x0), (6, x1), (6, x2), (3, x3)]) 0 = x0 ∧ partN nLink (recB [(5, x0), (6, x1), (6, x2), (3, x3)]) 1 = x1 ∧ partN nLink (recB [(5, x0), (6, x1), (6, x2), (3, x3)]) 2 = x2 ∧ partN nLink (recB [(5, x0), (6, x1), (6, x2), (3, x3)]) 3 = x3 ∧ (recB [(5, x0), (6, x1), (6, x2), (3, x3)]).size = 20 := by
  refine ⟨?_, ?_, ?_, ?_, ?_⟩
  all_goals simp [partN, recB, recL, posN, nLink, List.drop_append, List.take_append, List.drop_of_length_le, List.take_of_length_le, beL_len, getL_beL, ByteArray.size]
  all_goals (try omega)

def nMark (i : Nat) : Nat := match i with | 0 => 6 | 1 => 6 | 2 => 6 | _ => 2
set_option maxRecDepth 100000 in
set_option maxHeartbeats 1000000 in
theorem GetMark_any (s : ByteArray) (w : World) (hs : s.size = 20) :
    Calls Try.prog 137 #[.string s] w fun e w' => e = .returned (.tuple #[.agg #[.int .i64 (partN nMark s 0), .int .i64 (partN nMark s 1), .int .i64 (partN nMark s 2), .int .i64 (partN nMark s 3)], .bool true]) ∧ Below w.heap.size w w' := by
  have cG := fun W (k : Nat) (hk : w.heap.size ≤ k) (hW : k + 5 ≤ W.heap.size) (b0 : Blk W (k + 1) #[.int .i64 6, .int .i64 0] 182) (b1 : Blk W (k + 2) #[.int .i64 6, .int .i64 0] 182) (b2 : Blk W (k + 3) #[.int .i64 6, .int .i64 0] 182) (b3 : Blk W (k + 4) #[.int .i64 2, .int .i64 0] 182) (bp : Blk W (k + 5) #[.pointer (some ⟨k + 1, 0, none⟩), .pointer (some ⟨k + 2, 0, none⟩), .pointer (some ⟨k + 3, 0, none⟩), .pointer (some ⟨k + 4, 0, none⟩)] 199) =>
    EGet_any s 4 (fun i => k + 1 + i) nMark (some ⟨k + 5, 0, none⟩) 4 (k + 1) W (by omega) (by rw [hs]; rfl) (fun i hi => by match i, hi with | 0, _ | 1, _ | 2, _ | 3, _ => exact ⟨by decide, by decide⟩) (fun i j _ _ h => by show k + 1 + i ≠ k + 1 + j; omega) (fun i _ => by show k + 1 ≤ k + 1 + i; omega) (by omega)
      (fun i hi => ⟨k + 5, 0, rfl, bp.lt, fun j hj => by show k + 5 ≠ k + 1 + j; omega, by match i, hi with | 0, _ => exact bp.cell 0 | 1, _ => exact bp.cell 1 | 2, _ => exact bp.cell 2 | 3, _ => exact bp.cell 3⟩)
      (fun i hi => by match i, hi with | 0, _ => exact b0 | 1, _ => exact b1 | 2, _ => exact b2 | 3, _ => exact b3)
  clear hs
  go_enter Try.func137, Try.ntmps137
  go_wp2_with fail
  refine (cG _ w.heap.size (Nat.le_refl _) ?_ ?_ ?_ ?_ ?_ ?_).mono ?_
  · simp
  · exact ((((Blk.new' (by simp) _ _).up _).up _).up _).up _
  · exact (((Blk.new' (by simp) _ _).up _).up _).up _
  · exact ((Blk.new' (by simp) _ _).up _).up _
  · exact (Blk.new' (by simp) _ _).up _
  · exact Blk.new' (by simp) _ _
  clear cG
  rintro e w6 ⟨rfl, hp, hB6⟩
  have hB7 : Below w.heap.size w w6 := by
    refine Below.trans ?_ (hB6.mono (by omega))
    repeat' (first | exact Below.refl _ _ | refine Below.alloc ?_ (by simp <;> omega) _)
  have hb : Blk w6 w.heap.size #[.int .i64 0, .int .i64 0, .int .i64 0, .int .i64 0] 102 := (((((((Blk.new' rfl _ _).up _).up _).up _).up _).up _)).at (hB6.block _ (by omega))
  have p0 := hp 0 (by omega)
  have p1 := hp 1 (by omega)
  have p2 := hp 2 (by omega)
  have p3 := hp 3 (by omega)
  dsimp only [Nat.add_zero] at p0 p1 p2 p3
  have d0 : w6.cell? ⟨w.heap.size + 1, 1, none⟩ = some (.int .i64 (partN nMark s 0)) := p0.cell 1
  have d1 : w6.cell? ⟨w.heap.size + 1 + 1, 1, none⟩ = some (.int .i64 (partN nMark s 1)) := p1.cell 1
  have d2 : w6.cell? ⟨w.heap.size + 1 + 1 + 1, 1, none⟩ = some (.int .i64 (partN nMark s 2)) := p2.cell 1
  have d3 : w6.cell? ⟨w.heap.size + 1 + 1 + 1 + 1, 1, none⟩ = some (.int .i64 (partN nMark s 3)) := p3.cell 1
  have e0 : w6.cell? ⟨w.heap.size, 0, none⟩ = some (.int .i64 0) := hb.cell 0
  have e1 : w6.cell? ⟨w.heap.size, 1, none⟩ = some (.int .i64 0) := hb.cell 1
  have e2 : w6.cell? ⟨w.heap.size, 2, none⟩ = some (.int .i64 0) := hb.cell 2
  have e3 : w6.cell? ⟨w.heap.size, 3, none⟩ = some (.int .i64 0) := hb.cell 3
  have f0 := hb.frozen 0
  have f1 := hb.frozen 1
  have f2 := hb.frozen 2
  have f3 := hb.frozen 3
  have hfin : Blk ((((w6.setCell ⟨w.heap.size, 0, none⟩ (.int .i64 (partN nMark s 0))).setCell ⟨w.heap.size, 1, none⟩ (.int .i64 (partN nMark s 1))).setCell ⟨w.heap.size, 2, none⟩ (.int .i64 (partN nMark s 2))).setCell ⟨w.heap.size, 3, none⟩ (.int .i64 (partN nMark s 3))) w.heap.size #[.int .i64 (partN nMark s 0), .int .i64 (partN nMark s 1), .int .i64 (partN nMark s 2), .int .i64 (partN nMark s 3)] 102 := (((hb.set 0 _).set 1 _).set 2 _).set 3 _
  have hBf : Below w.heap.size w ((((w6.setCell ⟨w.heap.size, 0, none⟩ (.int .i64 (partN nMark s 0))).setCell ⟨w.heap.size, 1, none⟩ (.int .i64 (partN nMark s 1))).setCell ⟨w.heap.size, 2, none⟩ (.int .i64 (partN nMark s 2))).setCell ⟨w.heap.size, 3, none⟩ (.int .i64 (partN nMark s 3))) := (((hB7.setCell (p := ⟨w.heap.size, 0, none⟩) (Nat.le_refl _) _).setCell (p := ⟨w.heap.size, 1, none⟩) (Nat.le_refl _) _).setCell (p := ⟨w.heap.size, 2, none⟩) (Nat.le_refl _) _).setCell (p := ⟨w.heap.size, 3, none⟩) (Nat.le_refl _) _
  clear hp p0 p1 p2 p3 hb hB6 hB7
  go_wp2_with fail
  (try simp only [Exit.inBlock, Exit.then])
  generalize ((((w6.setCell ⟨w.heap.size, 0, none⟩ (.int .i64 (partN nMark s 0))).setCell ⟨w.heap.size, 1, none⟩ (.int .i64 (partN nMark s 1))).setCell ⟨w.heap.size, 2, none⟩ (.int .i64 (partN nMark s 2))).setCell ⟨w.heap.size, 3, none⟩ (.int .i64 (partN nMark s 3))) = w7 at *
  have g0 : w7.cell? ⟨w.heap.size, 0, none⟩ = some (.int .i64 (partN nMark s 0)) := hfin.cell 0
  have g1 : w7.cell? ⟨w.heap.size, 1, none⟩ = some (.int .i64 (partN nMark s 1)) := hfin.cell 1
  have g2 : w7.cell? ⟨w.heap.size, 2, none⟩ = some (.int .i64 (partN nMark s 2)) := hfin.cell 2
  have g3 : w7.cell? ⟨w.heap.size, 3, none⟩ = some (.int .i64 (partN nMark s 3)) := hfin.cell 3
  refine bodyPost_ret (v := .tuple #[.agg #[.int .i64 (partN nMark s 0), .int .i64 (partN nMark s 1), .int .i64 (partN nMark s 2), .int .i64 (partN nMark s 3)], .bool true]) ?_ rfl ⟨rfl, hBf⟩
  rw [results_cell_tmp rfl]
  go_simp
theorem Mark_back (x0 x1 x2 x3 : Nat) (h0 : x0 < 281474976710656) (h1 : x1 < 281474976710656) (h2 : x2 < 281474976710656) (h3 : x3 < 65536) : partN nMark (recB [(6, x0), (6, x1), (6, x2), (2, x3)]) 0 = x0 ∧ partN nMark (recB [(6, x0), (6, x1), (6, x2), (2, x3)]) 1 = x1 ∧ partN nMark (recB [(6, x0), (6, x1), (6, x2), (2, x3)]) 2 = x2 ∧ partN nMark (recB [(6, x0), (6, x1), (6, x2), (2, x3)]) 3 = x3 ∧ (recB [(6, x0), (6, x1), (6, x2), (2, x3)]).size = 20 := by
  refine ⟨?_, ?_, ?_, ?_, ?_⟩
  all_goals simp [partN, recB, recL, posN, nMark, List.drop_append, List.take_append, List.drop_of_length_le, List.take_of_length_le, beL_len, getL_beL, ByteArray.size]
  all_goals (try omega)
end Go.Proofs.Ytndpmjanflahhaa

/-
  AN OBJECT OVER A DISK: a block that holds the disk and a number; blocks beside it that keep their objects.
-/
namespace Go.Proofs.Ytndpmjanflahhaa
open Go.RowKit Go.MapKept

structure IsOver (T : TypeId) (w : World) (xb b : Nat) (D : DiskA) (n : Int) (F : Nat → Prop) : Prop where
  own : F xb
  head : Blk w xb #[.pointer (some ⟨b, 0, none⟩), .int .i64 n] T
  disk : ∃ Fd : Nat → Prop, IsDisk w b D Fd ∧ (∀ k, Fd k → F k) ∧ ¬ Fd xb
theorem IsOver.below {T : TypeId} {w w' : World} {xb b : Nat} {D : DiskA} {n : Int} {F : Nat → Prop} (hw : IsOver T w xb b D n F) (hB : Below w.heap.size w w') : IsOver T w' xb b D n F := by
  obtain ⟨Fd, hd, hs, hn⟩ := hw.disk
  exact ⟨hw.own, hw.head.at (hB.block _ hw.head.lt), Fd, hd.below hB, hs, hn⟩
theorem IsOver.kept {T : TypeId} {w w' : World} {xb b : Nat} {D : DiskA} {n : Int} {F : Nat → Prop} (hw : IsOver T w xb b D n F) (hk : ∀ k, F k → k < w.heap.size → w'.heap[k]? = w.heap[k]?) : IsOver T w' xb b D n F := by
  obtain ⟨Fd, hd, hs, hn⟩ := hw.disk
  exact ⟨hw.own, hw.head.at (hk _ hw.own hw.head.lt), Fd, hd.kept (fun k h hl => hk k (hs k h) hl), hs, hn⟩
theorem IsOver.tight {T : TypeId} {w : World} {xb b : Nat} {D : DiskA} {n : Int} {F : Nat → Prop} (hw : IsOver T w xb b D n F) : IsOver T w xb b D n (fun k => F k ∧ k < w.heap.size) := by
  obtain ⟨Fd, hd, hs, hn⟩ := hw.disk
  exact ⟨⟨hw.own, hw.head.lt⟩, hw.head, fun k => Fd k ∧ k < w.heap.size, hd.tight, fun k hk => ⟨hs k hk.1, hk.2⟩, fun hk => hn hk.1⟩
theorem IsOver.step {T : TypeId} {w w' : World} {xb b : Nat} {D D' : DiskA} {n : Int} {F Fd Fd' : Nat → Prop} (hw : IsOver T w xb b D n F) (hs : ∀ k, Fd k → F k) (hn : ¬ Fd xb) (hd' : IsDisk w' b D' Fd') (hst : Step Fd w Fd' w') : ∃ F', IsOver T w' xb b D' n F' ∧ Step F w F' w' := by
  have hlt := hw.head.lt
  refine ⟨fun k => k = xb ∨ Fd' k, ⟨.inl rfl, hw.head.at (hst.block _ hlt hn), Fd', hd', fun k hk => .inr hk, fun hk => ?_⟩, ⟨hst.os, hst.tape, hst.output, hst.size, fun k hk hnk => hst.block k hk (fun h => hnk (hs k h)), fun k hk => ?_⟩⟩
  · rcases hst.new _ hk with h1 | h1
    · exact hn h1
    · omega
  · rcases hk with rfl | hk
    · exact .inl hw.own
    · exact (hst.new _ hk).imp (hs k) id

/-- .. that the call itself made; the blocks O are not its own, and hold this. -/
def OX (T : TypeId) (w0 : World) (xb b : Nat) (D : DiskA) (n : Int) (O : Nat → Option Obj) (w : World) : Prop :=
  ∃ F, IsOver T w xb b D n F ∧ (∀ k, F k → w0.heap.size ≤ k) ∧ (∀ k o, O k = some o → w.heap[k]? = some o ∧ ¬ F k) ∧ Below w0.heap.size w0 w
section
variable {T : TypeId} {w0 w w' : World} {xb b : Nat} {D : DiskA} {n : Int} {O O' : Nat → Option Obj}
theorem OX.grew (hl : OX T w0 xb b D n O w) : Below w0.heap.size w0 w := by
  obtain ⟨F, h1, h2, h3, h4⟩ := hl; exact h4
theorem OX.lives (hl : OX T w0 xb b D n O w) : Lives w0 b D w := by
  obtain ⟨F, h1, h2, h3, h4⟩ := hl
  obtain ⟨Fd, hd, hs, hn⟩ := h1.disk
  exact ⟨Fd, hd, fun k hk => h2 k (hs k hk), h4⟩
theorem OX.ok (hl : OX T w0 xb b D n O w) : D.Ok := hl.lives.ok
theorem OX.head (hl : OX T w0 xb b D n O w) : Blk w xb #[.pointer (some ⟨b, 0, none⟩), .int .i64 n] T := by
  obtain ⟨F, h1, h2, h3, h4⟩ := hl; exact h1.head
theorem OX.block (hl : OX T w0 xb b D n O w) {k : Nat} {o : Obj} (ho : O k = some o) : w.heap[k]? = some o := by
  obtain ⟨F, h1, h2, h3, h4⟩ := hl; exact (h3 k o ho).1
theorem OX.below (hl : OX T w0 xb b D n O w) (hB : Below w.heap.size w w') : OX T w0 xb b D n O w' := by
  obtain ⟨F, h1, h2, h3, h4⟩ := hl
  exact ⟨F, h1.below hB, h2, fun k o ho => ⟨(hB.block k (Array.getElem?_eq_some_iff.1 (h3 k o ho).1).1).trans (h3 k o ho).1, (h3 k o ho).2⟩, h4.trans (hB.mono h4.size)⟩
theorem OX.more (hl : OX T w0 xb b D n O w) (hB : Below w.heap.size w w') (O' : Nat → Option Obj) (hO : ∀ k o, O' k = some o → O k = some o ∨ (w.heap.size ≤ k ∧ w'.heap[k]? = some o)) : OX T w0 xb b D n O' w' := by
  obtain ⟨F, h1, h2, h3, h4⟩ := hl
  refine ⟨fun k => F k ∧ k < w.heap.size, h1.tight.below hB, fun k hk => h2 k hk.1, fun k o ho => ?_, h4.trans (hB.mono h4.size)⟩
  rcases hO k o ho with h | ⟨h, hc⟩
  · exact ⟨(hB.block k (Array.getElem?_eq_some_iff.1 (h3 k o h).1).1).trans (h3 k o h).1, fun hf => (h3 k o h).2 hf.1⟩
  · exact ⟨hc, fun hf => by have := hf.2; omega⟩
theorem OX.less (hl : OX T w0 xb b D n O w) (hO : ∀ k o, O' k = some o → O k = some o) : OX T w0 xb b D n O' w :=
  hl.more (Below.refl _ w) O' (fun k o ho => .inl (hO k o ho))
theorem OX.one (hl : OX T w0 xb b D n O w) (c : Array Value) (S : TypeId) : OX T w0 xb b D n (OAnd O w.heap.size (.cells c S)) (w.alloc (.cells c S)) :=
  hl.more ((Below.refl _ w).alloc (Nat.le_refl _) _) _ (fun k o ho => by
    by_cases hk : k = w.heap.size
    · subst hk; rw [OAnd.at] at ho; cases ho; exact .inr ⟨Nat.le_refl _, Blk.new _ _ _⟩
    · rw [OAnd.ne hk] at ho; exact .inl ho)
theorem OX.put (hl : OX T w0 xb b D n O w) {g : Nat} {c : Array Value} {S : TypeId} (ho : O g = some (.cells c S)) (hg : w0.heap.size ≤ g) (i : Nat) (v : Value) :
    OX T w0 xb b D n (OAnd O g (.cells (c.setIfInBounds i v) S)) (w.setCell ⟨g, i, none⟩ v) := by
  obtain ⟨F, h1, h2, h3, h4⟩ := hl
  have hbk : Blk w g c S := (h3 g _ ho).1
  refine ⟨F, h1.kept (fun k hk _ => setCell_heap _ _ _ _ (fun e => (h3 g _ ho).2 (by have e' : k = g := e; rw [← e']; exact hk))), h2, fun k o hk => ?_, h4.setCell (p := ⟨g, i, none⟩) hg _⟩
  by_cases hkg : k = g
  · subst hkg
    rw [OAnd.at] at hk
    cases hk
    exact ⟨hbk.set i v, (h3 k _ ho).2⟩
  · rw [OAnd.ne hkg] at hk
    exact ⟨(setCell_heap _ _ _ _ (fun e => hkg e)).trans (h3 k o hk).1, (h3 k o hk).2⟩
/-- Its number is another one. -/
theorem OX.count (hl : OX T w0 xb b D n O w) (m : Int) : OX T w0 xb b D m O (w.setCell ⟨xb, 1, none⟩ (.int .i64 m)) := by
  obtain ⟨F, h1, h2, h3, h4⟩ := hl
  obtain ⟨Fd, hd, hs, hn⟩ := h1.disk
  refine ⟨F, ⟨h1.own, h1.head.set 1 _, Fd, hd.kept (fun k hk _ => setCell_heap _ _ _ _ (fun e => hn (by have e' : k = xb := e; rw [← e']; exact hk))), hs, hn⟩, h2, fun k o ho => ⟨(setCell_heap _ _ _ _ (fun e => (h3 k o ho).2 (by have e' : k = xb := e; rw [e']; exact h1.own))).trans (h3 k o ho).1, (h3 k o ho).2⟩, h4.setCell (p := ⟨xb, 1, none⟩) (h2 _ h1.own) _⟩
theorem OX.write (hl : OX T w0 xb b D n O w) (nm : ByteArray) (p : Int) (s : ByteArray) (hs : s.size ≤ 1073741824) (hwl : D.waits.length < 1099511627776) :
    Calls Try.prog 42 #[.pointer (some ⟨b, 0, none⟩), .string nm, .int .i64 p, .string s] w fun e w' => e = .returned (.int .i64 (D.write nm p s).1) ∧ OX T w0 xb b (D.write nm p s).2 n O w' := by
  obtain ⟨F, h1, h2, h3, h4⟩ := hl
  obtain ⟨Fd, hd, hsub, hn⟩ := h1.disk
  refine (Write_any b D Fd w hd nm p s hs hwl).mono ?_
  rintro e w' ⟨F0, he, hd', hst0⟩
  obtain ⟨F', hw', hst⟩ := h1.step hsub hn hd' hst0
  refine ⟨he, F', hw', fun k hk => (hst.new k hk).elim (h2 k) (fun h => Nat.le_trans h4.size h), fun k o ho => ?_, h4.trans (hst.below h4.size h2)⟩
  have hlt := (Array.getElem?_eq_some_iff.1 (h3 k o ho).1).1
  exact ⟨(hst.block k hlt (h3 k o ho).2).trans (h3 k o ho).1, fun hk => (hst.new k hk).elim (h3 k o ho).2 (fun h => by omega)⟩
theorem OX.create (hl : OX T w0 xb b D n O w) (nm : ByteArray) (hn : nm.size ≤ 140737488351232) (hfl : D.files.length < 4294967296) :
    Calls Try.prog 41 #[.pointer (some ⟨b, 0, none⟩), .string nm] w fun e w' => ∃ id, e = .returned (.int .i64 (D.create nm id).1) ∧ OX T w0 xb b (D.create nm id).2 n O w' := by
  obtain ⟨F, h1, h2, h3, h4⟩ := hl
  obtain ⟨Fd, hd, hsub, hnn⟩ := h1.disk
  refine (Create_any b D Fd w hd nm hn hfl).mono ?_
  rintro e w' ⟨id, F0, he, hd', hst0, _⟩
  obtain ⟨F', hw', hst⟩ := h1.step hsub hnn hd' hst0
  refine ⟨id, he, F', hw', fun k hk => (hst.new k hk).elim (h2 k) (fun h => Nat.le_trans h4.size h), fun k o ho => ?_, h4.trans (hst.below h4.size h2)⟩
  have hlt := (Array.getElem?_eq_some_iff.1 (h3 k o ho).1).1
  exact ⟨(hst.block k hlt (h3 k o ho).2).trans (h3 k o ho).1, fun hk => (hst.new k hk).elim (h3 k o ho).2 (fun h => by omega)⟩
theorem OX.read (hl : OX T w0 xb b D n O w) (nm : ByteArray) (p k : Int) (hp : -9223372036854775808 ≤ p ∧ p ≤ 9223372036854775807) (hk : -9223372036854775808 ≤ k ∧ k ≤ 9223372036854775807) :
    Calls Try.prog 103 #[.pointer (some ⟨b, 0, none⟩), .string nm, .int .i64 p, .int .i64 k] w fun e w' => e = .returned (.tuple #[.string (D.read nm p k).1, .int .i64 (D.read nm p k).2]) ∧ Below w.heap.size w w' := by
  obtain ⟨F, h1, h2, h3, h4⟩ := hl
  obtain ⟨Fd, hd, hs, hn⟩ := h1.disk
  exact (Read_any b D Fd w hd nm p k hp hk).mono fun e w' ⟨he, hb, _⟩ => ⟨he, hb⟩
end
/-- .. made over a disk. -/
theorem Lives.over {w0 w : World} {b : Nat} {D : DiskA} (h : Lives w0 b D w) (T : TypeId) (n : Int) : OX T w0 w.heap.size b D n (fun _ => none) (w.alloc (.cells #[.pointer (some ⟨b, 0, none⟩), .int .i64 n] T)) := by
  obtain ⟨F, hdk, hF, hB⟩ := h
  have hb : Below w.heap.size w (w.alloc (.cells #[.pointer (some ⟨b, 0, none⟩), .int .i64 n] T)) := (Below.refl _ w).alloc (Nat.le_refl _) _
  refine ⟨fun k => k = w.heap.size ∨ (F k ∧ k < w.heap.size), ⟨.inl rfl, Blk.new _ _ _, fun k => F k ∧ k < w.heap.size, hdk.tight.below hb, fun k hk => .inr hk, fun hk => by omega⟩, fun k hk => ?_, (fun k o ho => by cases ho), hB.trans (hb.mono hB.size)⟩
  rcases hk with rfl | hk
  · exact hB.size
  · exact hF k hk.1
end Go.Proofs.Ytndpmjanflahhaa
