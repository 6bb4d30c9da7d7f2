/-
  (*tlog.Log).Chain.
-/
import Derived.Test.YtndpmjanflahhaaTl4
import Derived.Test.YtndpmjanflahhaaKx17
namespace Go.Proofs.Ytndpmjanflahhaa
open Go.RowKit Go.MapKept

theorem info_mark : (Try.prog.info? 102).map (fun i => (i.zero, i.size, i.bytes)) = some (some (.agg #[.int .i64 0, .int .i64 0, .int .i64 0, .int .i64 0]), 4, 32) := by kernel_rfl
abbrev markRow (a : Option Addr) (c : Nat) (l : List MRec) : Row := ⟨102, 4, .slice a l.length c, l.length, markCells l⟩
/-- A row of marks. -/
def MarkSl (w : World) (a : Option Addr) (l : List MRec) : Prop :=
  ∀ i m, l[i]? = some m → ∃ g off, a = some ⟨g, off, none⟩ ∧ w.cell? ⟨g, off + i * 4, none⟩ = some (.int .i64 m.due) ∧ w.cell? ⟨g, off + i * 4 + 1, none⟩ = some (.int .i64 m.at_) ∧ w.cell? ⟨g, off + i * 4 + 2, none⟩ = some (.int .i64 m.ahead) ∧ w.cell? ⟨g, off + i * 4 + 3, none⟩ = some (.int .i64 m.puts)
theorem markSl_of_row {w : World} {a : Option Addr} {c : Nat} {l : List MRec} (h : w.ownsRow 0 102 4 (.slice a l.length c) l.length (markCells l)) : MarkSl w a l := by
  intro i x hi
  have hil : i < l.length := (List.getElem?_eq_some_iff.1 hi).1
  rcases h.2 with ⟨_, h2⟩ | ⟨g, cap', cur, hv, _⟩
  · omega
  · cases hv
    have hat : ∀ j, j < 4 → w.cell? ⟨g, 0 + i * 4 + j, none⟩ = x.cells[j]? := fun j hj => by
      have := World.ownsRow.cellAt h (4 * i + j) (by omega)
      rw [show 0 + i * 4 + j = 4 * i + j by omega, this]
      exact markCells_at l i hi j hj
    exact ⟨g, 0, rfl, hat 0 (by omega), hat 1 (by omega), hat 2 (by omega), hat 3 (by omega)⟩
def TChainPost (C : Nat) (w0 : World) (lb wb b h n : Nat) (Q : Nat → List WRec) (u : Nat) (R : List Row) (O : Nat → Option Obj) (s : Nat) (e : Ending) (w' : World) : Prop :=
  ∃ a c tl, e = .returned (.tuple #[.slice a tl.length c, .int .i64 0]) ∧ tl.map MRec.w = Q s ∧ (∀ m ∈ tl, m.Small) ∧ tl.length ≤ n ∧ LogX C w0 lb wb b h n Q u (markRow a c tl :: R) O w'
set_option maxRecDepth 100000 in
set_option maxHeartbeats 1000000 in
theorem TChain_any {C : Nat} {w0 w : World} {lb wb b h n u : Nat} {Q : Nat → List WRec} {R : List Row} {O : Nat → Option Obj} (hl : LogX C w0 lb wb b h n Q u R O w) (s : Nat) (hs : s < 16) (hn : n < 100000000) :
    Calls Try.prog 114 #[.pointer (some ⟨lb, 0, none⟩), .int .i64 s] w (TChainPost C w0 lb wb b h n Q u R O s) := by
  obtain ⟨iM, hiM, hzM, hsM, hyM⟩ := info_parts info_mark
  obtain ⟨D, ms, v, hms, hD, hR⟩ := hl
  obtain ⟨x, l, hvx, hch, hlQ⟩ := hD.chain s hs
  have c0 : w.cell? ⟨lb, 0, none⟩ = some (.pointer (some ⟨wb, 0, none⟩)) := (LX.head hR.ox).cell 0
  have cH := (LX.wheel hR.ox).head hD.wheel s hs hvx
  have hDH := Lib.hid hD
  have hmsH := Lib.hid hms
  have hlQH := Lib.hid hlQ
  have hchH := Lib.hid hch
  have hmem := Lib.hid (fun m (hm : m ∈ l) => hD.small m (hch.mem m hm))
  have hlen : l.length ≤ n := by have := hch.len; have := hch.le; omega
  have hlenH := Lib.hid hlen
  have cRd : ∀ (k : Nat) (m : MRec) (W : World), 0 < k → ms[k - 1]? = some m → WLives w0 wb b D h W → Calls Try.prog 103 #[.pointer (some ⟨b, 0, none⟩), .string wmarks, .int .i64 (((k : Int) - 1) * 20), .int .i64 20] W fun e w' => e = .returned (.tuple #[.string (recB [(6, m.due), (6, m.at_), (6, m.ahead), (2, m.puts)]), .int .i64 0]) ∧ Below W.heap.size W w' := by
    intro k m W h0 hk hW
    have hkl : k - 1 < ms.length := (List.getElem?_eq_some_iff.1 hk).1
    have hrd := read_calm hD.wheel.calm hD.marks (p := 20 * (k - 1)) (k := 20) (by rw [marksB_size]; omega)
    have cR := hW.read wmarks (20 * (k - 1) : Nat) 20 (by omega) (by omega)
    have hrd' : D.read wmarks ((20 * (k - 1) : Nat) : Int) 20 = ((marksB ms).extract (20 * (k - 1)) (20 * (k - 1) + 20), 0) := hrd
    rw [hrd', marksB_get ms (k - 1) hk, show ((20 * (k - 1) : Nat) : Int) = ((k : Int) - 1) * 20 by omega] at cR
    exact cR
  have cGd : ∀ (k : Nat) (m : MRec), ms[k - 1]? = some m → ∀ W, Calls Try.prog 137 #[.string (recB [(6, m.due), (6, m.at_), (6, m.ahead), (2, m.puts)])] W fun e w' => e = .returned (.tuple #[.agg #[.int .i64 m.due, .int .i64 m.at_, .int .i64 m.ahead, .int .i64 m.puts], .bool true]) ∧ Below W.heap.size W w' := by
    intro k m hk W
    obtain ⟨s1, s2, s3, s4⟩ := hD.small m (List.mem_of_getElem? hk)
    obtain ⟨g0, g1, g2, g3, g4⟩ := Mark_back m.due m.at_ m.ahead m.puts (by omega) (by omega) (by omega) (by omega)
    have cG := GetMark_any (recB [(6, m.due), (6, m.at_), (6, m.ahead), (2, m.puts)]) W g4
    rw [g0, g1, g2, g3] at cG
    exact cG
  have cRH := Lib.hid cRd
  have cGH := Lib.hid cGd
  have hxle := hch.le
  rw [hms] at hxle
  clear cRd cGd hD hms hvx hch hlQ hlen
  go_enter Try.func114, Try.ntmps114
  go_wp2_with fail
  refine cH.mono ?_
  rintro e w1 ⟨rfl, hB1⟩
  have hV1 := (hR.below (kind_log _ _ _ _ _ _) hB1).nil 102 4
  clear cH hR hB1 c0
  go_wp2_with fail
  go_loopw [6, 7, 8] (fun vn ve vo wr => ∃ (k : Nat) (lr acc : List MRec), k ≤ n ∧ vn = .int .i64 k ∧ ve = .int .i64 0 ∧ Hid (IsCh ms k lr) ∧ Hid (acc ++ lr = l) ∧ acc.length ≤ n ∧ RX (PLog lb wb b D h n) w0 (⟨102, 4, vo, acc.length, markCells acc⟩ :: R) O wr) (fun vn _ _ _ => (intOf vn).toNat)
  case atStart => exact ⟨x, l, [], hxle, rfl, rfl, hchH, rfl, by simp, hV1⟩
  case round =>
    obtain ⟨k, lr, acc, hk, rfl, rfl, hC, hA, hal, hV⟩ := hrel
    by_cases hk0 : k = 0
    · subst hk0
      have hlr : lr = [] := by
        cases lr with
        | nil => rfl
        | cons m t => exact absurd hC.out.1 (by omega)
      subst hlr
      have hacc : acc = l := by have := hA.out; simpa using this
      subst hacc
      have hrow := hV.row _ List.mem_cons_self
      obtain ⟨a2, c2, hv2, hc2⟩ := row_slice hrow
      dsimp only at hv2 hrow
      subst hv2
      have cR := Rev_row acc hrow (by omega)
      have hV' := hV
      clear hrow
      go_wp2_with fail
      refine cR.mono ?_
      rintro e w2 ⟨rfl, hAp⟩
      have hV2 := hV'.push (kind_log _ _ _ _ _ _) hAp
      clear cR hV hV' hAp
      go_wp2_with fail
      go_ret2
      refine ⟨a2, c2, acc.reverse, ?_, hlQH.out, fun m hm => hmem.out m (List.mem_reverse.1 hm), by simpa using hal, D, ms, v, hmsH.out, hDH.out, ?_⟩
      · rw [List.length_reverse]; rfl
      · show RX _ _ (⟨_, _, .slice a2 acc.reverse.length c2, acc.reverse.length, _⟩ :: R) _ _
        rw [List.length_reverse]; exact hV2
    · obtain ⟨m, t, rfl⟩ : ∃ m t, lr = m :: t := by
        cases lr with
        | nil => exact absurd hC.out hk0
        | cons m t => exact ⟨m, t, rfl⟩
      obtain ⟨q1, q2, q3, q4⟩ := hC.out
      have q4H := Lib.hid q4
      have hAn : Hid ((acc ++ [m]) ++ t = l) := by show _ = _; rw [List.append_assoc]; exact hA.out
      have haln : acc.length + 1 ≤ n := by
        have h1 := congrArg List.length hA.out
        have h2 := hlenH.out
        simp only [List.length_append, List.length_cons] at h1
        omega
      have cR := cRH.out k m _ q1 q2 (LX.wheel hV.ox)
      have cG := cGH.out k m q2
      have d0 : wr.cell? ⟨lb, 0, none⟩ = some (.pointer (some ⟨wb, 0, none⟩)) := (LX.head hV.ox).cell 0
      have d1 := (LX.wheel hV.ox).ptr.1
      have hkpos : (0 : Int) < k := by omega
      obtain ⟨md, ma, mh, mp⟩ := m
      dsimp only at cR cG q3 q4H
      generalize recB [(6, md), (6, ma), (6, mh), (2, mp)] = z at *
      clear q1 q2 q4 hk0 hC hA
      go_wp2_with fail
      refine cR.mono ?_
      rintro e w2 ⟨rfl, hB2⟩
      have hV2 := hV.below (kind_log _ _ _ _ _ _) hB2
      clear cR d0 d1 hV hB2
      go_wp2_with fail
      refine (cG _).mono ?_
      rintro e w3 ⟨rfl, hB3⟩
      have hV3 := hV2.below (kind_log _ _ _ _ _ _) hB3
      have hV4 := (hV3.below (kind_log _ _ _ _ _ _) ((Below.refl _ w3).alloc (Nat.le_refl _) (.cells #[.int .i64 md, .int .i64 ma, .int .i64 mh, .int .i64 mp] 102))).below (kind_log _ _ _ _ _ _) ((Below.refl _ _).alloc (Nat.le_refl _) (.cells #[.int .i64 md, .int .i64 ma, .int .i64 mh, .int .i64 mp] 102))
      have hrow : World.ownsRow _ 0 102 4 u8 acc.length (markCells acc) := hV4.row _ List.mem_cons_self
      have hne : u8.ownBlock ≠ some w3.heap.size := fun e => by
        have := hV3.lt List.mem_cons_self _ e
        omega
      have hb4 : Blk ((w3.alloc (.cells #[.int .i64 md, .int .i64 ma, .int .i64 mh, .int .i64 mp] 102)).alloc (.cells #[.int .i64 md, .int .i64 ma, .int .i64 mh, .int .i64 mp] 102)) w3.heap.size #[.int .i64 md, .int .i64 ma, .int .i64 mh, .int .i64 mp] 102 := (Blk.new _ _ _).up _
      have hneH := Lib.hid hne
      have hb4H := Lib.hid hb4
      clear cG hV2 hB3 hV3 hne hb4
      go_wp2_with (at_builtin; refine wpList_append_new rfl _ _ 98 rfl 102 4 32 iM _ Try.underlying98 hiM hzM hsM hyM rfl (by decide) u8 _ _ rfl hrow _ 1 1 [.int .i64 md, .int .i64 ma, .int .i64 mh, .int .i64 mp] rfl rfl (new_cells' _ (w3.heap.size + 1) (by simp) #[.int .i64 md, .int .i64 ma, .int .i64 mh, .int .i64 mp] 102) (by simp [Value.oneCell']) (by decide) (by unfold maxLen; omega) (by omega) ?_; intro g5 cap5 w5 hAp; have hq : w5.cell? ⟨w3.heap.size, 2, none⟩ = some (.int .i64 mh) := (hb4H.out.at (hAp.grown.block _ hb4H.out.lt (fun e => hneH.out e.symm))).cell 2)
      have hV5 := hV4.push (kind_log _ _ _ _ _ _) hAp
      have hV6 : RX (PLog lb wb b D h n) w0 (⟨102, 4, .slice (some ⟨g5, 0, none⟩) (acc.length + 1) cap5, (acc ++ [(⟨md, ma, mh, mp⟩ : MRec)]).length, markCells (acc ++ [(⟨md, ma, mh, mp⟩ : MRec)])⟩ :: R) O w5 := by
        have e1 : (acc ++ [(⟨md, ma, mh, mp⟩ : MRec)]).length = acc.length + 1 := by simp
        have e2 : markCells (acc ++ [(⟨md, ma, mh, mp⟩ : MRec)]) = markCells acc ++ [.int .i64 md, .int .i64 ma, .int .i64 mh, .int .i64 mp] := by simp [markCells, MRec.cells]
        rw [e1, e2]; exact hV5
      clear hq hrow hV4 hV5 hAp
      go_wp2_with fail
      go_roundw
      case rel => exact ⟨mh, t, acc ++ [⟨md, ma, mh, mp⟩], by omega, rfl, rfl, q4H, hAn, by simp; omega, hV6⟩
      case measure => simp [intOf]; omega
end Go.Proofs.Ytndpmjanflahhaa
