/-
  (*tlog.Log).Take, Next, Waits.
-/
import Derived.Test.YtndpmjanflahhaaTl5
import Derived.Test.YtndpmjanflahhaaTl2
namespace Go.Proofs.Ytndpmjanflahhaa
open Go.RowKit Go.MapKept

theorem toldW_snoc (sec : Nat) (l : List WRec) (r : WRec) : toldW sec (l ++ [r]) = toldW sec l ++ (if r.due ≤ sec then [r] else []) := by
  unfold toldW; rw [List.filter_append]
  by_cases h : r.due ≤ sec <;> simp [h]
theorem leftW_snoc (sec : Nat) (l : List WRec) (r : WRec) : leftW sec (l ++ [r]) = leftW sec l ++ (if sec < r.due then [⟨r.due, r.at_, r.puts + 1⟩] else []) := by
  unfold leftW; rw [List.filter_append, List.map_append]
  by_cases h : sec < r.due <;> simp [h]
theorem leftW_len (sec : Nat) (l : List WRec) : (leftW sec l).length ≤ l.length := by
  unfold leftW; rw [List.length_map]; exact List.length_filter_le _ _
theorem LogX.ptr {C : Nat} {w0 w : World} {lb wb b h n u : Nat} {Q : Nat → List WRec} {R : List Row} {O : Nat → Option Obj} (hl : LogX C w0 lb wb b h n Q u R O w) : w.cell? ⟨lb, 0, none⟩ = some (.pointer (some ⟨wb, 0, none⟩)) := by
  obtain ⟨D, ms, v, hms, hD, hR⟩ := hl; exact (LX.head hR.ox).cell 0
theorem LogX.clear {C : Nat} {w0 w : World} {lb wb b h n u : Nat} {Q : Nat → List WRec} {R : List Row} {O : Nat → Option Obj} (hl : LogX C w0 lb wb b h n Q u R O w) (s : Nat) (hs : s < 16) (hu : u < 1099511627000) :
    Calls Try.prog 59 #[.pointer (some ⟨wb, 0, none⟩), .int .i64 s, .int .i64 0] w fun e w' => e = .returned (.int .i64 0) ∧ LogX C w0 lb wb b h n (setQ Q s []) (u + 1) R O w' := by
  obtain ⟨D, ms, v, hms, hD, hR⟩ := hl
  obtain ⟨D', hWD, hWr, c⟩ := LX.set hR.ox hD.wheel s hs 0 (by omega) (by have := hD.waits; omega)
  refine c.mono ?_
  rintro e w' ⟨he, hX⟩
  exact ⟨he, D', ms, _, hms, hD.clear hs hWD hWr, hR.back hX⟩

def TTakePost (C : Nat) (w0 : World) (lb wb b h n : Nat) (Q : Nat → List WRec) (u : Nat) (R : List Row) (O : Nat → Option Obj) (sec s : Nat) (e : Ending) (w' : World) : Prop :=
  ∃ a c tl, e = .returned (.tuple #[.slice a tl.length c, .int .i64 0]) ∧ tl.map MRec.w = toldW sec (Q s) ∧ LogX C w0 lb wb b h (n + (leftW sec (Q s)).length) (setQ Q s (leftW sec (Q s))) (u + 1 + 2 * n) (markRow a c tl :: R) O w'
set_option maxRecDepth 100000 in
set_option maxHeartbeats 1000000 in
theorem TTake_any {C : Nat} {w0 w : World} {lb wb b h n u : Nat} {Q : Nat → List WRec} {R : List Row} {O : Nat → Option Obj} (hl : LogX C w0 lb wb b h n Q u R O w) (sec : Nat) (hsec : sec ≤ 9223372036854775807) (hn : n < 50000000)
    (hslot : ∀ r ∈ Q (sec % 16), r.due % 16 = sec % 16 ∧ r.puts + 1 < 65536) (hC : 96 + 20 * (n + (leftW sec (Q (sec % 16))).length) ≤ C) (hu : u + 1 + 2 * n < 1099511627000) :
    Calls Try.prog 113 #[.pointer (some ⟨lb, 0, none⟩), .int .i64 sec] w (TTakePost C w0 lb wb b h n Q u R O sec (sec % 16)) := by
  obtain ⟨iM, hiM, hzM, hsM, hyM⟩ := info_parts info_mark
  have hs16 : sec % 16 < 16 := Nat.mod_lt _ (by omega)
  have cS := Slot_any sec w hsec
  obtain ⟨s, hse⟩ : ∃ s, sec % 16 = s := ⟨_, rfl⟩
  rw [hse] at hs16 cS hslot hC ⊢
  have cC := TChain_any hl s hs16 (by omega)
  have hslotH := Lib.hid hslot
  have hCH := Lib.hid hC
  have hs0 : (0 : Int) ≤ sec := by omega
  clear hse hslot hC hl
  go_enter Try.func113, Try.ntmps113
  go_wp2_with fail
  refine cS.mono ?_
  rintro e w1 ⟨rfl, rfl⟩
  clear cS
  go_wp2_with fail
  refine cC.mono ?_
  rintro e w1 ⟨a, c, tl, rfl, htl, hsm, htn, hV⟩
  clear cC
  by_cases h0 : tl.length = 0
  · obtain rfl : tl = [] := List.length_eq_zero_iff.1 h0
    have hQ : Q s = [] := by rw [← htl]; rfl
    have hset : setQ Q s (leftW sec (Q s)) = Q := by
      funext k
      unfold setQ
      split
      · rename_i hk; rw [hk, hQ]; rfl
      · rfl
    have e1 : (leftW sec (Q s)).length = 0 := by rw [hQ]; rfl
    have e2 : toldW sec (Q s) = [] := by rw [hQ]; rfl
    have e3 := Lib.hid hset
    have e4 := Lib.hid e1
    have e5 := Lib.hid e2
    clear htl hQ hset e1 e2 h0 hslotH hCH
    go_wp2_with fail
    go_ret2
    refine ⟨none, 0, [], rfl, e5.out.symm, ?_⟩
    rw [e3.out, e4.out]
    exact (hV.tail.nil _ _).more _ (by omega)
  · have cSet := hV.clear s hs16 (by omega)
    have cp := hV.ptr
    obtain ⟨tn, htne⟩ : ∃ tn, tl.length = tn := ⟨_, rfl⟩
    have htneH := Lib.hid htne
    have htlH := Lib.hid htl
    have hsmH := Lib.hid hsm
    rw [htne] at h0 htn ⊢
    have htn0 : 0 < tn := by omega
    clear htl hsm hV h0 htne
    go_wp2_with fail
    refine cSet.mono ?_
    rintro e w2 ⟨rfl, hV2⟩
    have hV3 := hV2.nil 102 4
    clear cSet cp hV2
    go_wp2_with fail
    go_loopw [10, 47] (fun vo vi wr => ∃ (j : Nat) (acc : List MRec), j ≤ tn ∧ vi = .int .i64 j ∧ acc.length ≤ j ∧ Hid (acc.map MRec.w = toldW sec ((tl.take j).map MRec.w)) ∧ LogX C w0 lb wb b h (n + (leftW sec ((tl.take j).map MRec.w)).length) (setQ Q s (leftW sec ((tl.take j).map MRec.w))) (u + 1 + 2 * j) (⟨102, 4, vo, acc.length, markCells acc⟩ :: markRow a c tl :: R) O wr) (fun _ vi _ => tn - (intOf vi).toNat)
    case atStart => exact ⟨0, [], by omega, rfl, by simp, rfl, hV3⟩
    case round =>
      obtain ⟨j, acc, hj, rfl, hal, hA, hL⟩ := hrel
      have hlr := leftW_len sec ((tl.take j).map MRec.w)
      have hlr2 : ((tl.take j).map MRec.w).length ≤ j := by rw [List.length_map, List.length_take]; omega
      by_cases hjn : j < tn
      · have hjl : j < tl.length := by rw [htneH.out]; exact hjn
        obtain ⟨⟨md, ma, mh, mp⟩, hm⟩ : ∃ m, tl[j]? = some m := ⟨tl[j], by simp [hjl]⟩
        obtain ⟨g, off, rfl, c0, c1, c2, c3⟩ := markSl_of_row (hL.row (List.mem_cons_of_mem _ List.mem_cons_self)) j _ hm
        obtain ⟨s1, s2, s3, s4⟩ := hsmH.out _ (List.mem_of_getElem? hm)
        have htk : (tl.take (j + 1)).map MRec.w = (tl.take j).map MRec.w ++ [⟨md, ma, mp⟩] := by rw [List.take_add_one, hm]; simp [MRec.w]
        have hin : (⟨md, ma, mp⟩ : WRec) ∈ Q s := by rw [← htlH.out]; exact List.mem_map.2 ⟨_, List.mem_of_getElem? hm, rfl⟩
        obtain ⟨hsl, hpu⟩ := hslotH.out _ hin
        dsimp only at c0 c1 c2 c3 s1 s2 s3 s4 hsl hpu
        have hto := toldW_snoc sec ((tl.take j).map MRec.w) ⟨md, ma, mp⟩
        have hle := leftW_snoc sec ((tl.take j).map MRec.w) ⟨md, ma, mp⟩
        rw [← htk] at hto hle
        dsimp only at hto hle
        clear hin htk hm hjl
        by_cases hdue : md ≤ sec
        · rw [if_pos hdue] at hto
          rw [if_neg (by omega), List.append_nil] at hle
          have hAn : Hid ((acc ++ [(⟨md, ma, mh, mp⟩ : MRec)]).map MRec.w = toldW sec ((tl.take (j + 1)).map MRec.w)) := by
            show _ = _
            rw [hto, List.map_append, hA.out]; rfl
          have hleH := Lib.hid hle
          have hL4 := (hL.below ((Below.refl _ wr).alloc (Nat.le_refl _) (.cells #[.int .i64 md, .int .i64 ma, .int .i64 mh, .int .i64 mp] 102))).below ((Below.refl _ _).alloc (Nat.le_refl _) (.cells #[.int .i64 md, .int .i64 ma, .int .i64 mh, .int .i64 mp] 102))
          have hrow : World.ownsRow _ 0 102 4 u10 acc.length (markCells acc) := hL4.row List.mem_cons_self
          clear hto hle hA hL
          go_wp2_with (at_builtin; refine wpList_append_new rfl _ _ 98 rfl 102 4 32 iM _ Try.underlying98 hiM hzM hsM hyM rfl (by decide) u10 _ _ rfl hrow _ 1 1 [.int .i64 md, .int .i64 ma, .int .i64 mh, .int .i64 mp] rfl rfl (new_cells' _ (wr.heap.size + 1) (by simp) #[.int .i64 md, .int .i64 ma, .int .i64 mh, .int .i64 mp] 102) (by simp [Value.oneCell']) (by decide) (by unfold maxLen; omega) (by omega) ?_; intro g5 cap5 w5 hAp)
          have hL5 := hL4.push hAp
          have hL6 : LogX C w0 lb wb b h (n + (leftW sec ((tl.take (j + 1)).map MRec.w)).length) (setQ Q s (leftW sec ((tl.take (j + 1)).map MRec.w))) (u + 1 + 2 * (j + 1)) (⟨102, 4, .slice (some ⟨g5, 0, none⟩) (acc.length + 1) cap5, (acc ++ [(⟨md, ma, mh, mp⟩ : MRec)]).length, markCells (acc ++ [(⟨md, ma, mh, mp⟩ : MRec)])⟩ :: markRow (some ⟨g, off, none⟩) c tl :: R) O w5 := by
            have e1 : (acc ++ [(⟨md, ma, mh, mp⟩ : MRec)]).length = acc.length + 1 := by simp
            have e2 : markCells (acc ++ [(⟨md, ma, mh, mp⟩ : MRec)]) = markCells acc ++ [.int .i64 md, .int .i64 ma, .int .i64 mh, .int .i64 mp] := by simp [markCells, MRec.cells]
            rw [hleH.out, e1, e2]; exact hL5.more _ (by omega)
          clear hrow hL4 hL5 hAp c0 c1 c2 c3
          go_wp2_with fail
          go_roundw
          case rel => exact ⟨j + 1, acc ++ [⟨md, ma, mh, mp⟩], by omega, by go_num, by simp; omega, hAn, hL6⟩
          case measure => simp [intOf]; omega
        · rw [if_neg hdue, List.append_nil] at hto
          rw [if_pos (by omega)] at hle
          have hAn : Hid (acc.map MRec.w = toldW sec ((tl.take (j + 1)).map MRec.w)) := by
            show _ = _
            rw [hto]; exact hA.out
          have hB2 : Below wr.heap.size wr (wr.alloc (.cells #[.int .i64 md, .int .i64 ma, .int .i64 mh, .int .i64 ((mp : Int) + 1)] 102)) := (Below.refl _ wr).alloc (Nat.le_refl _) _
          have hll := congrArg List.length hle
          rw [List.length_append] at hll
          have hslen : (leftW sec ((tl.take (j + 1)).map MRec.w)).length ≤ (leftW sec (Q s)).length := by
            rw [← htlH.out]
            unfold leftW
            rw [List.length_map, List.length_map]
            exact ((List.take_sublist _ _).map _ |>.filter _).length_le
          have hcap := hCH.out
          have cLay := TLay_any (hL.below hB2) md ma (mp + 1) mh (by omega) (by omega) (by omega) (by omega) (by simp only [List.length_cons, List.length_nil] at hll; omega) (by omega)
          rw [hsl, setQ_set, setQ_at] at cLay
          rw [show ((mp + 1 : Nat) : Int) = (mp : Int) + 1 by omega, show n + (leftW sec ((tl.take j).map MRec.w)).length + 1 = n + (leftW sec ((tl.take (j + 1)).map MRec.w)).length by simp only [List.length_cons, List.length_nil] at hll; omega, ← hle] at cLay
          have cLH := Lib.hid cLay
          clear hto hle hA hL hll hslen hcap cLay hB2
          go_wp2_with fail
          have cLay := cLH.out
          unfold LayPost at cLay
          refine cLay.mono ?_
          rintro e w5 ⟨rfl, hL5⟩
          have hL6 := hL5.more (u + 1 + 2 * (j + 1)) (by omega)
          clear cLay cLH hL5 c0 c1 c2 c3
          go_wp2_with fail
          go_roundw
          case rel => exact ⟨j + 1, acc, by omega, by go_num, by omega, hAn, hL6⟩
          case measure => simp [intOf]; omega
      · have htt : tl.take j = tl := List.take_of_length_le (by rw [htneH.out]; omega)
        rw [htt, htlH.out] at hA hL
        have hrow := hL.row List.mem_cons_self
        obtain ⟨a2, c2, hv2, hc2⟩ := row_slice hrow
        dsimp only at hv2
        subst hv2
        have hfin := (hL.perm (List.Perm.swap _ _ _)).tail.more (u + 1 + 2 * n) (by omega)
        clear hrow htt hL
        go_wp2_with fail
        go_ret2
        exact ⟨a2, c2, acc, rfl, hA.out, hfin⟩
end Go.Proofs.Ytndpmjanflahhaa
