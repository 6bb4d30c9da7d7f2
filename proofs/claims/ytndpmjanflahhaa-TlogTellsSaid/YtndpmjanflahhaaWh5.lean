/-
  (*wheel.Wheel).Head, Set.
-/
import Derived.Test.YtndpmjanflahhaaWh4
import Derived.Test.YtndpmjanflahhaaRc0
import Derived.Test.YtndpmjanflahhaaMI
namespace Go.Proofs.Ytndpmjanflahhaa
open Go.RowKit Go.MapKept

/-- The slots' file has just these numbers. -/
structure WheelD (D : DiskA) (v : List Nat) : Prop where
  calm : Calm D
  len : v.length = 16
  small : ∀ x ∈ v, x < 281474976710656
  get : D.get wslots = some (slotB 6 v)
theorem WheelMade.slots {D D' : DiskA} (h : WheelMade D D') : WheelD D' (List.replicate 16 0) :=
  ⟨h.calm, List.length_replicate, fun x hx => by rw [List.eq_of_mem_replicate hx]; omega, by rw [h.get, slotB_zero]; rfl⟩

/-- The disk's pointer, as a wheel has it. -/
theorem WLives.ptr {w0 w : World} {wb b : Nat} {D : DiskA} {h : Int} (hl : WLives w0 wb b D h w) : w.cell? ⟨wb, 0, none⟩ = some (.pointer (some ⟨b, 0, none⟩)) ∧ wb < w.heap.size := by
  obtain ⟨F, hw, hF, hB⟩ := hl
  exact ⟨hw.head.cell 0, hw.head.lt⟩
theorem WLives.read {w0 w : World} {wb b : Nat} {D : DiskA} {h : Int} (hl : WLives w0 wb b D h w) (n : ByteArray) (p k : Int) (hp : -9223372036854775808 ≤ p ∧ p ≤ 9223372036854775807) (hk : -9223372036854775808 ≤ k ∧ k ≤ 9223372036854775807) :
    Calls Try.prog 103 #[.pointer (some ⟨b, 0, none⟩), .string n, .int .i64 p, .int .i64 k] w fun e w' => e = .returned (.tuple #[.string (D.read n p k).1, .int .i64 (D.read n p k).2]) ∧ Below w.heap.size w w' := by
  obtain ⟨F, hw, hF, hB⟩ := hl
  obtain ⟨Fd, hd, hs, hn⟩ := hw.disk
  exact (Read_any b D Fd w hd n p k hp hk).mono fun e w' ⟨he, hb, _⟩ => ⟨he, hb⟩
theorem WLives.write {w0 w : World} {wb b : Nat} {D : DiskA} {h : Int} (hl : WLives w0 wb b D h w) (n : ByteArray) (p : Int) (s : ByteArray) (hs : s.size ≤ 1073741824) (hwl : D.waits.length < 1099511627776) :
    Calls Try.prog 42 #[.pointer (some ⟨b, 0, none⟩), .string n, .int .i64 p, .string s] w fun e w' => e = .returned (.int .i64 (D.write n p s).1) ∧ WLives w0 wb b (D.write n p s).2 h w' := by
  obtain ⟨F, hw, hF, hB⟩ := hl
  obtain ⟨Fd, hd, hsub, hn⟩ := hw.disk
  refine (Write_any b D Fd w hd n p s hs hwl).mono ?_
  rintro e w' ⟨F', he, hd', hst⟩
  exact ⟨he, wlives_step hw hF hB hsub hn hd' hst⟩
theorem WLives.ok {w0 w : World} {wb b : Nat} {D : DiskA} {h : Int} (hl : WLives w0 wb b D h w) : D.Ok := (IsWheel.lives hl).ok

theorem WBars_ok (wb : Nat) (s : Int) (w : World) (h0 : 0 ≤ s) (h1 : s < 16) : Calls Try.prog 101 #[.pointer (some ⟨wb, 0, none⟩), .int .i64 s] w fun e w' => e = .returned (.int .i64 0) ∧ w = w' := by
  go_enter Try.func101, Try.ntmps101
  go_wp2
  go_ret
  exact ⟨rfl, rfl⟩
theorem WBars_bad (wb : Nat) (s : Int) (w : World) (h : s < 0 ∨ 16 ≤ s) : Calls Try.prog 101 #[.pointer (some ⟨wb, 0, none⟩), .int .i64 s] w fun e w' => e = .returned (.int .i64 2) ∧ w = w' := by
  rcases h with h | h
  all_goals
    go_enter Try.func101, Try.ntmps101
    go_wp2
    go_ret
    exact ⟨rfl, rfl⟩
theorem WHead_bad (wb : Nat) (s : Int) (w : World) (h : s < 0 ∨ 16 ≤ s) : Calls Try.prog 62 #[.pointer (some ⟨wb, 0, none⟩), .int .i64 s] w fun e w' => e = .returned (.tuple #[.int .i64 0, .int .i64 2]) ∧ w = w' := by
  have c := WBars_bad wb s w h
  clear h
  go_enter Try.func62, Try.ntmps62
  go_wp2_with fail
  refine c.mono ?_
  rintro e w' ⟨rfl, rfl⟩
  go_wp2_with fail
  go_ret2
  exact ⟨rfl, rfl⟩
set_option maxRecDepth 100000 in
set_option maxHeartbeats 1000000 in
theorem WLives.head {w0 w : World} {wb b : Nat} {D : DiskA} {h : Int} (hl : WLives w0 wb b D h w) {v : List Nat} (hD : WheelD D v) (s : Nat) (hs : s < 16) {x : Nat} (hx : v[s]? = some x) :
    Calls Try.prog 62 #[.pointer (some ⟨wb, 0, none⟩), .int .i64 s] w fun e w' => e = .returned (.tuple #[.int .i64 x, .int .i64 0]) ∧ Below w.heap.size w w' := by
  obtain ⟨c0, _⟩ := hl.ptr
  have cB := WBars_ok wb s w (by omega) (by omega)
  have hsz : (slotB 6 v).size = 96 := by rw [slotB_size, hD.len]
  have hrd := read_calm hD.calm hD.get (p := 6 * s) (k := 6) (by rw [hsz]; omega)
  have cR := hl.read wslots (6 * s : Nat) 6 (by omega) (by omega)
  have hrd' : D.read wslots ((6 * s : Nat) : Int) 6 = ((slotB 6 v).extract (6 * s) (6 * s + 6), 0) := hrd
  rw [hrd'] at cR
  have hget := slotB_get 6 v s hx
  have hxs := hD.small x (List.mem_of_getElem? hx)
  have hE : ((slotB 6 v).extract (6 * s) (6 * s + 6)).size = 6 := by rw [ByteArray.size_extract, hsz]; omega
  have hE' := Lib.hid hE
  have hfin : Hid (getL (((slotB 6 v).extract (6 * s) (6 * s + 6)).data.toList.take 6) = x) := by
    show _ = _
    rw [hget, List.take_of_length_le (by rw [beL_len]; omega), getL_beL]
    exact Nat.mod_eq_of_lt (by omega)
  have hcast : ((6 * s : Nat) : Int) = 6 * (s : Int) := by omega
  rw [hcast] at cR
  generalize (slotB 6 v).extract (6 * s) (6 * s + 6) = z at *
  clear hrd hrd' hget hsz hx hE hcast
  go_enter Try.func62, Try.ntmps62
  go_wp2_with fail
  refine cB.mono ?_
  rintro e w' ⟨rfl, rfl⟩
  go_wp2_with fail
  refine cR.mono ?_
  rintro e w1 ⟨rfl, hb1⟩
  clear cB cR
  go_wp2_with fail
  refine (ONew_any z w1).mono ?_
  rintro e w2 ⟨rfl, rfl⟩
  go_wp2_with fail
  refine (ONum_any w1.heap.size z 6 _ (Blk.new _ _ _) (by rw [hE'.out]; omega) (by rw [hE'.out]; omega) (by omega) (by omega)).mono ?_
  rintro e w2 ⟨rfl, rfl⟩
  rw [hfin.out]
  go_wp2_with fail
  go_ret2
  exact ⟨rfl, hb1.trans (((Below.refl _ w1).alloc (Nat.le_refl _) _).mono hb1.size)⟩

theorem WSet_bad (wb : Nat) (s n : Int) (w : World) (h : s < 0 ∨ 16 ≤ s) : Calls Try.prog 59 #[.pointer (some ⟨wb, 0, none⟩), .int .i64 s, .int .i64 n] w fun e w' => e = .returned (.int .i64 2) ∧ w = w' := by
  have c := WBars_bad wb s w h
  clear h
  go_enter Try.func59, Try.ntmps59
  go_wp2_with fail
  refine c.mono ?_
  rintro e w' ⟨rfl, rfl⟩
  go_wp2_with fail
  go_ret
  exact ⟨rfl, rfl⟩
set_option maxRecDepth 100000 in
theorem WSet_none (wb : Nat) (s n : Int) (w : World) (h0 : 0 ≤ s) (h1 : s < 16) (hn : n < 0 ∨ 281474976710656 ≤ n) (hr : -9223372036854775808 ≤ n ∧ n ≤ 9223372036854775807) : Calls Try.prog 59 #[.pointer (some ⟨wb, 0, none⟩), .int .i64 s, .int .i64 n] w fun e w' => e = .returned (.int .i64 1) ∧ Below w.heap.size w w' := by
  have c := WBars_ok wb s w h0 h1
  have cN := Num_bad 6 (by omega) (by omega) w.heap.size 0 1 n (w.alloc (.cells #[.int .i64 n] 3)) (by unfold fitsN; omega) hr (by simp)
  clear hn hr h0 h1
  go_enter Try.func59, Try.ntmps59
  go_wp2_with fail
  refine c.mono ?_
  rintro e w' ⟨rfl, rfl⟩
  go_wp2_with fail
  refine cN.mono ?_
  rintro e w' ⟨rfl, hb⟩
  go_wp2_with fail
  go_ret
  exact ⟨rfl, ((Below.refl _ w).alloc (Nat.le_refl _) _).trans (hb.mono (by simp))⟩
set_option maxRecDepth 100000 in
set_option maxHeartbeats 1000000 in
theorem WLives.set {w0 w : World} {wb b : Nat} {D : DiskA} {h : Int} (hl : WLives w0 wb b D h w) {v : List Nat} (hD : WheelD D v) (s : Nat) (hs : s < 16) (x : Nat) (hx : x < 281474976710656) (hwl : D.waits.length < 1099511627775) :
    ∃ D', WheelD D' (v.set s x) ∧ Wrote D wslots (slotB 6 (v.set s x)) D' ∧ Calls Try.prog 59 #[.pointer (some ⟨wb, 0, none⟩), .int .i64 s, .int .i64 x] w fun e w' => e = .returned (.int .i64 0) ∧ WLives w0 wb b D' h w' := by
  have hsz : (slotB 6 v).size = 96 := by rw [slotB_size, hD.len]
  obtain ⟨D', e1, hW⟩ := write_calm hl.ok hD.calm hD.get (p := 6 * s) (by rw [hsz]; omega) (beB 6 x) (.inl (by rw [beB_size, hsz]; omega))
  rw [slotB_set 6 v s (by rw [hD.len]; exact hs)] at hW
  refine ⟨D', ⟨hW.calm, by rw [List.length_set]; exact hD.len, fun y hy => ?_, hW.get⟩, hW, ?_⟩
  · rcases List.mem_or_eq_of_mem_set hy with h1 | h1
    · exact hD.small y h1
    · rw [h1]; exact hx
  · have c := WBars_ok wb s w (by omega) (by omega)
    have cN := Num_ok 6 (by omega) (by omega) (some ⟨w.heap.size, 0, none⟩) 1 [(x : Int)] (w.alloc (.cells #[.int .i64 x] 3)) (by simp) (by
      intro y hy; simp at hy; subst hy
      refine ⟨by omega, ?_⟩
      show (x : Int) < ((256 ^ 6 : Nat) : Int)
      have : (256 ^ 6 : Nat) = 281474976710656 := by decide
      omega) (by
      intro i y hi
      cases i with
      | zero => simp at hi; subst hi; exact ⟨_, _, rfl, by simp⟩
      | succ i => simp at hi)
    have hnum : (⟨(numsL 6 [(x : Int)]).toArray⟩ : ByteArray) = beB 6 x := by simp [numsL, beB]
    rw [hnum] at cN
    have cW := fun W (hW : Below w.heap.size w W) => (hl.below hW).write wslots (6 * s : Nat) (beB 6 x) (by rw [beB_size]; omega) (by omega)
    rw [e1] at cW
    have hcast : ((6 * s : Nat) : Int) = 6 * (s : Int) := by omega
    rw [hcast] at cW
    obtain ⟨c0, hwb⟩ := hl.ptr
    generalize beB 6 x = z at *
    clear hsz e1 hW hD hnum hcast hl
    go_enter Try.func59, Try.ntmps59
    go_wp2_with fail
    refine c.mono ?_
    rintro e w' ⟨rfl, rfl⟩
    clear c
    go_wp2_with fail
    refine cN.mono ?_
    rintro e w1 ⟨rfl, hb⟩
    have hB : Below w.heap.size w w1 := ((Below.refl _ w).alloc (Nat.le_refl _) _).trans (hb.mono (by simp))
    have c1 : w1.cell? ⟨wb, 0, none⟩ = some (.pointer (some ⟨b, 0, none⟩)) := (hB.cell (p := ⟨wb, 0, none⟩) hwb).trans c0
    have cW1 := cW w1 hB
    clear cN cW
    go_wp2_with fail
    refine cW1.mono ?_
    rintro e w2 ⟨rfl, hL2⟩
    go_wp2_with fail
    go_ret
    exact ⟨rfl, hL2⟩

theorem owns_kept_base {w w' : World} {base : Nat} {e : TypeId} {size : Nat} {v : Value} {n : Nat} {xs : List Value} (h : w.ownsRow base e size v n xs) (hk : ∀ g, v.ownBlock = some g → w'.heap[g]? = w.heap[g]?) : w'.ownsRow base e size v n xs := by
  obtain ⟨h1, h2⟩ := h
  refine ⟨h1, ?_⟩
  rcases h2 with h2 | ⟨g, cap, cur, hv, hg, hh, r⟩
  · exact Or.inl h2
  · refine Or.inr ⟨g, cap, cur, hv, hg, ?_, r⟩
    rw [hk g (by rw [hv]; rfl)]; exact hh
theorem info_int : (Try.prog.info? 3).map (fun i => (i.zero, i.size, i.bytes)) = some (some (.int .i64 0), 1, 8) := by kernel_rfl
/-- An own row of ints. -/
theorem intSl_of_row {w : World} {base : Nat} {a : Option Addr} {cap : Nat} {xs : List Int} (h : w.ownsRow base 3 1 (.slice a xs.length cap) xs.length (xs.map (Value.int .i64))) : IntSl w a xs := by
  intro i s hi
  have hil : i < xs.length := (List.getElem?_eq_some_iff.1 hi).1
  rcases h.2 with ⟨_, h2⟩ | ⟨g, cap', cur, hv, _⟩
  · omega
  · cases hv
    refine ⟨g, 0, rfl, ?_⟩
    have := World.ownsRow.cellAt h i (by simpa using hil)
    rw [Nat.zero_add, this]; simp [hi]
theorem IntSl.below {w w' : World} {a : Option Addr} {xs : List Int} (h : IntSl w a xs) (hB : Below w.heap.size w w') : IntSl w' a xs := by
  intro i s hi
  obtain ⟨b, off, ha, hc⟩ := h i s hi
  exact ⟨b, off, ha, (hB.cell (p := ⟨b, off + i, none⟩) (World.block_lt_of_cell? _ _ hc)).trans hc⟩
def ints (v : List Nat) : List Int := v.map (fun x : Nat => (x : Int))
theorem ints_len (v : List Nat) : (ints v).length = v.length := by unfold ints; rw [List.length_map]
theorem ints_take_succ {v : List Nat} {k x : Nat} (h : v[k]? = some x) : (ints (v.take (k + 1))).map (Value.int .i64) = (ints (v.take k)).map (Value.int .i64) ++ [.int .i64 (x : Int)] := by
  rw [List.take_add_one, h]; simp [ints]

def HeadsPost (w0 : World) (wb b : Nat) (D : DiskA) (h : Int) (v : List Nat) (w : World) (e : Ending) (w' : World) : Prop :=
  ∃ g cap, e = .returned (.tuple #[.slice (some ⟨g, 0, none⟩) 16 cap, .int .i64 0]) ∧ w.heap.size ≤ g ∧ g < w'.heap.size ∧ IntSl w' (some ⟨g, 0, none⟩) (ints v) ∧ WLives w0 wb b D h w' ∧ Below w.heap.size w w'

set_option maxRecDepth 100000 in
set_option maxHeartbeats 2000000 in
theorem WLives.heads {w0 w : World} {wb b : Nat} {D : DiskA} {h : Int} (hl : WLives w0 wb b D h w) {v : List Nat} (hD : WheelD D v) :
    Calls Try.prog 61 #[.pointer (some ⟨wb, 0, none⟩)] w (HeadsPost w0 wb b D h v w) := by
  obtain ⟨i0, hi, hz0, hz1, hz2⟩ := info_parts info_int
  have hlen := hD.len
  have hlen' := Lib.hid hlen
  clear hlen
  go_enter Try.func61, Try.ntmps61
  go_wp2_with fail
  go_loopw [4, 8] (fun vo vi wr => ∃ k : Nat, k ≤ 16 ∧ vi = .int .i64 k ∧ wr.ownsRow w.heap.size 3 1 vo k ((ints (v.take k)).map (Value.int .i64)) ∧ Below w.heap.size w wr) (fun _ vi _ => 16 - (intOf vi).toNat)
  case atStart => exact ⟨0, by omega, rfl, World.ownsRow_nil _ _ _ _, Below.refl _ _⟩
  case round =>
    obtain ⟨k, hk, rfl, hown, hB⟩ := hrel
    by_cases hk16 : k < 16
    · obtain ⟨x, hx⟩ : ∃ x, v[k]? = some x := ⟨v[k]'(by rw [hlen'.out]; exact hk16), by simp⟩
      have cH := (hl.below hB).head hD k hk16 hx
      have hts := ints_take_succ hx
      have hts' := Lib.hid hts
      clear hts hx
      go_wp2_with fail
      refine cH.mono ?_
      rintro e w1 ⟨rfl, hb1⟩
      clear cH
      have hown1 := owns_kept_base hown (fun g hg => hb1.block g ((World.ownsRow.lt hown g hg).2))
      have hB1 := hB.trans (hb1.mono hB.size)
      go_wp2_with (at_builtin; refine wpList_append_own _ rfl _ _ 67 rfl w.heap.size 3 i0 (.int .i64 0) 1 8 Try.underlying67 hi hz0 hz1 hz2 rfl (by decide) _ _ _ rfl (hown1.alloc _) ⟨w1.heap.size, 0, none⟩ 1 1 [.int .i64 x] rfl rfl ?c1 ?c2 ?c3 ?c4 ?c5 ?_)
      case c1 =>
        intro j u hj
        match j, hj with
        | 0, hj => simp at hj; subst hj; simp [Addr.add]
      case c2 => intro u hu; simp at hu; subst hu; rfl
      case c3 => unfold maxLen; omega
      case c4 => omega
      case c5 => have := hB1.size; simp; omega
      intro v' w2 hown' hgrow _
      rw [← hts'.out] at hown'
      have hB2 : Below w.heap.size w w2 := (hB1.trans (((Below.refl _ w1).alloc (Nat.le_refl _) (.cells #[.int .i64 x] 3)).mono hB1.size)).grown hgrow (by have := hB1.size; simp; omega) (fun g hg => (World.ownsRow.lt hown1 g hg).1)
      go_wp2_with fail
      go_roundw
      case rel => exact ⟨k + 1, by omega, by go_num, hown', hB2⟩
      case measure => simp [intOf]; omega
    · obtain rfl : k = 16 := by omega
      have hown2 := hown
      rw [List.take_of_length_le (by rw [hlen'.out]; omega)] at hown2
      obtain ⟨g, n', cap, rfl⟩ : ∃ g n' cap, u4 = .slice (some ⟨g, 0, none⟩) n' cap := by
        rcases hown.2 with ⟨hv, hn⟩ | ⟨g, cap, cur, hv, _⟩
        · omega
        · exact ⟨_, _, _, hv⟩
      have hn16 : n' = 16 := by
        rcases hown.2 with ⟨hv, hn⟩ | ⟨g, cap, cur, hv, _⟩
        · omega
        · cases hv; rfl
      subst hn16
      go_wp2_with fail
      go_ret2
      exact ⟨g, cap, rfl, (World.ownsRow.lt hown g rfl).1, (World.ownsRow.lt hown g rfl).2, intSl_of_row (by rw [ints_len, hlen'.out]; exact hown2), hl.below hB, hB⟩
end Go.Proofs.Ytndpmjanflahhaa
