/-
  Oc0, Oc1, Oc2, Oc3, Oc4, one behind the other.
-/
import Derived.Test.YtndpmjanflahhaaProg
import Derived.Test.YtndpmjanflahhaaMB
import Derived.Test.YtndpmjanflahhaaMA
import Derived.OwnWalk
import Derived.Shelf.Strings.Builder1
import Derived.WalkKit
/-
  NUMBERS AS BYTES, as plain data.
-/
namespace Go.Proofs.Ytndpmjanflahhaa

/-- A number's n bytes, the greatest first. -/
def beL : Nat → Nat → List UInt8
  | 0, _ => []
  | n + 1, x => beL n (x / 256) ++ [UInt8.ofNat (x % 256)]
def beB (n x : Nat) : ByteArray := ⟨(beL n x).toArray⟩
/-- The number of bytes. -/
def getL (l : List UInt8) : Nat := l.foldl (fun a b => 256 * a + b.toNat) 0
theorem beL_len (n x : Nat) : (beL n x).length = n := by
  induction n generalizing x with
  | zero => rfl
  | succ n ih => unfold beL; rw [List.length_append, ih]; rfl
theorem beB_size (n x : Nat) : (beB n x).size = n := by unfold beB; simp [ByteArray.size, beL_len]
theorem beL_cons (n x : Nat) : beL (n + 1) x = UInt8.ofNat (x / 256 ^ n % 256) :: beL n x := by
  induction n generalizing x with
  | zero => simp [beL]
  | succ n ih =>
    have h1 : beL (n + 1 + 1) x = beL (n + 1) (x / 256) ++ [UInt8.ofNat (x % 256)] := rfl
    have h2 : beL (n + 1) x = beL n (x / 256) ++ [UInt8.ofNat (x % 256)] := rfl
    rw [h1, ih, h2, List.cons_append, Nat.div_div_eq_div_mul, Nat.pow_succ, Nat.mul_comm 256]
theorem getL_snoc (l : List UInt8) (b : UInt8) : getL (l ++ [b]) = 256 * getL l + b.toNat := by unfold getL; simp
theorem getL_beL (n x : Nat) : getL (beL n x) = x % 256 ^ n := by
  induction n generalizing x with
  | zero => simp [beL, getL, Nat.mod_one]
  | succ n ih =>
    show getL (beL n (x / 256) ++ [_]) = _
    rw [getL_snoc, ih, Nat.pow_succ, Nat.mul_comm (256 ^ n), Nat.mod_mul]
    have : (UInt8.ofNat (x % 256)).toNat = x % 256 := by simp
    rw [this]; omega
theorem getL_bd (l : List UInt8) : getL l < 256 ^ l.length := by
  have h : ∀ (l : List UInt8) (a k : Nat), a < 256 ^ k → l.foldl (fun a b => 256 * a + b.toNat) a < 256 ^ (k + l.length) := by
    intro l
    induction l with
    | nil => intro a k h; simpa using h
    | cons c t ih =>
      intro a k h
      have := ih (256 * a + c.toNat) (k + 1) (by
        have hc := UInt8.toNat_lt c
        rw [Nat.pow_succ]; omega)
      rw [List.foldl_cons, List.length_cons]
      rw [show k + (t.length + 1) = k + 1 + t.length by omega]
      exact this
  have := h l 0 0 (by simp)
  simpa [getL] using this
end Go.Proofs.Ytndpmjanflahhaa

/-
  octet.put, octet.get.
-/
namespace Go.Proofs.Ytndpmjanflahhaa
open Go.RowKit Go.MapKept

theorem Buf.set {w : World} {g cap : Nat} {L : List UInt8} (h : Buf w g cap L) (j : Nat) (hj : j < L.length) (b : UInt8) : Buf (w.setCell ⟨g, j, none⟩ (byteV b)) g cap (L.set j b) ∧ w.frozen? ⟨g, j, none⟩ = false := by
  obtain ⟨cur, lo, hi, h1, h2, h3, h4, h5⟩ := h
  refine ⟨?_, frozen_off h1 h3 j (by omega)⟩
  rw [setCell_row w g j cur _ _ _ h1]
  refine ⟨cur.setIfInBounds j (byteV b), lo, hi, by rw [setRow_heap w g cur _ _ _ h1], by simp [h2], h3, by rw [List.length_set]; exact h4, ?_⟩
  rw [List.length_set, List.map_set, ← h5, Array.toList_setIfInBounds, List.take_set]
theorem Buf.at {w w' : World} {g cap : Nat} {L : List UInt8} (h : Buf w g cap L) (e : w'.heap[g]? = w.heap[g]?) : Buf w' g cap L := by
  obtain ⟨cur, lo, hi, h1, r⟩ := h; exact ⟨cur, lo, hi, e.trans h1, r⟩
theorem madeCells_bytes (n : Nat) : (madeCells #[.int .u8 0] n).toList = (zeros n).map byteV := by
  have := zeroCells_bytes n
  have h : madeCells #[.int .u8 0] n = ((zeros n).map byteV).toArray := by
    rw [← this]; unfold madeCells Builtin.zeroCells
    simp
  rw [h]
theorem Buf.made {w : World} {g n : Nat} (h : w.ownsRow 0 5 1 (.slice (some ⟨g, 0, none⟩) n n) n (madeCells #[.int .u8 0] (n * 1)).toList) : Buf w g n (zeros n) := by
  rcases h.2 with ⟨h1, _⟩ | ⟨g', cap, cur, hv, _, h1, h2, h3, h4, h5⟩
  · cases h1
  · cases hv
    refine ⟨cur, 0, 0, h1, by omega, .inl rfl, by simp [zeros], ?_⟩
    rw [Nat.mul_one] at h5
    rw [madeCells_bytes] at h5
    simpa [zeros] using h5

theorem byteV_nat (y : Nat) : byteV (UInt8.ofNat (y % 256)) = .int .u8 ((y : Int) % 256) := by
  unfold byteV
  have : (UInt8.ofNat (y % 256)).toNat = y % 256 := by simp
  rw [this]; congr 1
theorem put_step (m : Nat) (r : List UInt8) (b : UInt8) : (zeros (m + 1) ++ r).set m b = zeros m ++ b :: r := by
  have : zeros (m + 1) = zeros m ++ [0] := by unfold zeros; rw [List.replicate_succ']
  rw [this, List.append_assoc, List.set_append_right _ _ (by simp [zeros])]
  simp [zeros]

set_option maxRecDepth 100000 in
set_option maxHeartbeats 1000000 in
theorem put_any (n x : Nat) (w : World) (hn : n ≤ 7) (hn0 : 1 ≤ n) (hx : x ≤ 9223372036854775807) :
    Calls Try.prog 128 #[.int .i64 n, .int .i64 x] w fun e w' => e = .returned (.string (beB n x)) ∧ Below w.heap.size w w' := by
  obtain ⟨i0, hi0, hz0, hz1, hz2⟩ := info_parts info_u8
  go_enter Try.func128, Try.ntmps128
  go_wp2_with (refine wpList_make_full _ rfl _ _ 53 rfl 0 5 i0 (.int .u8 0) 1 Try.underlying53 hi0 hz0 hz1 .i64 .i64 n n n rfl rfl rfl rfl (by rw [hz2]; omega) (by unfold maxLen; omega) (Nat.zero_le _) ?_; intro w1 hown hgrow)
  have hB1 : Below w.heap.size w w1 := (Below.refl _ w).grown hgrow (Nat.le_refl _) (fun k hk => by cases hk)
  have hb1 := Buf.made hown
  clear hown hgrow
  go_loopw [1, 11] (fun vx vi wr => ∃ i y : Nat, i ≤ n ∧ vi = .int .i64 i ∧ vx = .int .i64 y ∧ Hid (y = x / 256 ^ i) ∧ y ≤ 9223372036854775807 ∧ Buf wr w.heap.size n (zeros (n - i) ++ beL i x) ∧ Below w.heap.size w wr) (fun _ vi _ => n - (intOf vi).toNat)
  case atStart => exact ⟨0, x, by omega, rfl, rfl, by show x = _; simp, hx, by simpa [beL] using hb1, hB1⟩
  case round =>
    obtain ⟨i, y, hi, rfl, rfl, hy, hyl, hb, hB⟩ := hrel
    by_cases hin : i < n
    · have hlen : (zeros (n - i) ++ beL i x).length = n := by simp [zeros, beL_len]; omega
      have hset := hb.set (n - 1 - i) (by omega) (UInt8.ofNat (y % 256))
      have hfr := hset.2
      have hcell := hb.cell (n - 1 - i) (by omega)
      unfold byteV at hcell
      have hy' : Hid (y / 256 = x / 256 ^ (i + 1)) := by show _ = _; rw [hy.out, Nat.div_div_eq_div_mul, Nat.pow_succ]
      have hyb : Hid (beL (i + 1) x = UInt8.ofNat (y % 256) :: beL i x) := by show _ = _; rw [beL_cons, ← hy.out]
      go_wp2
      refine ⟨⟨i + 1, y / 256, by omega, by go_num, by go_num, hy', by omega, ?_, hB.setCell (p := ⟨w.heap.size, n - 1 - i, none⟩) (Nat.le_refl _) _⟩, by simp [intOf]; omega⟩
      have h1 := hset.1
      rw [byteV_nat] at h1
      rw [hyb.out, ← put_step (n - (i + 1)) (beL i x)]
      rw [show n - (i + 1) + 1 = n - i by omega, show n - (i + 1) = n - 1 - i by omega]
      exact h1
    · have : i = n := by omega
      subst this
      have hb' : Buf wr w.heap.size i (beL i x) := by simpa [zeros] using hb
      have hrun := run_fromBytes wr w.heap.size i (beL i x) hb'
      rw [beL_len] at hrun
      go_wp2
      go_ret
      exact ⟨rfl, hB⟩

/-! ### get -/
theorem shl_or (a b : Nat) (ha : a ≤ 281474976710655) (hb : b < 256) : (a * 256) ||| b = a * 256 + b := by
  have := Nat.shiftLeft_add_eq_or_of_lt (i := 8) hb a
  rw [Nat.shiftLeft_eq] at this
  exact this.symm

theorem bits_or_i64_nat (a b : Nat) (ha : a < 4611686018427387904) (hb : b < 4611686018427387904) : bits .or .i64 (a : Int) (b : Int) = ((a ||| b : Nat) : Int) := by
  have hx : a ||| b < 2 ^ 62 := Nat.or_lt_two_pow (by omega) (by omega)
  have h1 : (BitVec.ofInt 64 (a : Int)).toNat = a := by
    rw [BitVec.ofInt_natCast, BitVec.toNat_ofNat]; exact Nat.mod_eq_of_lt (by omega)
  have h2 : (BitVec.ofInt 64 (b : Int)).toNat = b := by
    rw [BitVec.ofInt_natCast, BitVec.toNat_ofNat]; exact Nat.mod_eq_of_lt (by omega)
  show IntKind.i64.wrap ((BitVec.ofInt 64 (a : Int) ||| BitVec.ofInt 64 (b : Int)).toNat : Int) = _
  rw [BitVec.toNat_or, h1, h2]
  exact Go.IntWalk.i64_in _ (by omega)
theorem get_step (y : Nat) (b : UInt8) (hy : y ≤ 281474976710655) : Value.int .i64 (bits .or .i64 ((y : Int) * 256) (wrap64 (b.toNat : Int))) = .int .i64 ((256 * y + b.toNat : Nat) : Int) := by
  have hb := UInt8.toNat_lt b
  have e : wrap64 (b.toNat : Int) = (b.toNat : Int) := Go.IntWalk.wrap64_in _ (by omega)
  have e2 : ((y : Int) * 256) = ((y * 256 : Nat) : Int) := by omega
  rw [e, e2, bits_or_i64_nat _ _ (by omega) (by omega), shl_or y _ hy hb, Nat.mul_comm]

set_option maxRecDepth 100000 in
set_option maxHeartbeats 1000000 in
theorem get_any (s : ByteArray) (w : World) (hs : s.size ≤ 7) :
    Calls Try.prog 131 #[.string s] w fun e w' => e = .returned (.int .i64 (getL s.data.toList)) ∧ w = w' := by
  go_enter Try.func131, Try.ntmps131
  go_wp2
  go_loop [3, 7] (fun x i => ∃ k y : Nat, k ≤ s.size ∧ i = .int .i64 k ∧ x = .int .i64 y ∧ Hid (y = getL (s.data.toList.take k)) ∧ y < 256 ^ k) (fun _ i => s.size - (intOf i).toNat)
  case atStart => exact ⟨0, 0, by omega, rfl, rfl, rfl, by omega⟩
  case round =>
    obtain ⟨k, y, hk, rfl, rfl, hy, hyl⟩ := hrel
    by_cases hks : k < s.size
    · have hyb : y ≤ 281474976710655 := by
        have : 256 ^ k ≤ 256 ^ 6 := Nat.pow_le_pow_right (by omega) (by omega)
        omega
      have hst : Hid (256 * y + s[k].toNat = getL (s.data.toList.take (k + 1))) := by show _ = _; rw [take_snoc s k hks, getL_snoc, ← hy.out]
      have hpw : Hid (256 * y + s[k].toNat < 256 ^ (k + 1)) := by
        have hb := UInt8.toNat_lt s[k]
        show _ < _
        rw [Nat.pow_succ]; omega
      go_wp2
      refine ⟨⟨k + 1, 256 * y + s[k].toNat, by omega, by go_num, get_step y s[k] hyb, hst.out, hpw.out⟩, by simp [intOf]; omega⟩
    · go_wp2
      go_ret
      exact ⟨ret_int (by have := hy.out; rw [List.take_of_length_le (by simp; omega)] at this; rw [this]), rfl⟩
end Go.Proofs.Ytndpmjanflahhaa

/-
  strings.Builder: copyCheck, WriteString; String (the library's contract, laid at this program).
-/
namespace Go.Proofs.Ytndpmjanflahhaa
open Go.Shelf Go.RowKit
def laysStr_ren : Go.Shelf.Ren := ⟨fun | 169 => 129 | n => n, fun | 70 => 169 | 9 => 9 | 0 => 0 | 72 => 171 | 37 => 53 | 127 => 194 | 3 => 3 | 5 => 5 | n => n, fun | n => n⟩
theorem laysStr : Go.Proofs.Lays.n169 Try.prog laysStr_ren := {
  mixed := by kernel_rfl
  f169 := Try.func129.trans (congrArg some (by kernel_rfl))
  t0 := Try.underlying0
  a0 := Try.isAgg0
  z0 := Try.sizeOf0
  v0 := Try.zeroValue0
  t3 := Try.underlying3
  a3 := Try.isAgg3
  z3 := Try.sizeOf3
  v3 := Try.zeroValue3
  t9 := Try.underlying9
  a9 := Try.isAgg9
  z9 := Try.sizeOf9
  v9 := Try.zeroValue9
  t37 := Try.underlying53
  a37 := Try.isAgg53
  z37 := Try.sizeOf53
  v37 := Try.zeroValue53
  t70 := Try.underlying169
  a70 := Try.isAgg169
  z70 := Try.sizeOf169
  v70 := Try.zeroValue169
  t72 := Try.underlying171
  a72 := Try.isAgg171
  z72 := Try.sizeOf171
  v72 := Try.zeroValue171
  t127 := Try.underlying194
  a127 := Try.isAgg194
  z127 := Try.sizeOf194
  v127 := Try.zeroValue194 }
theorem extraStr : Builder.Extra Try.prog laysStr_ren := {
  sizeBuilder := by kernel_rfl
  liesBuilder := by kernel_rfl
  t5 := Try.underlying5
  a5 := Try.isAgg5
  z5 := Try.sizeOf5
  v5 := Try.zeroValue5
  infoByte := by kernel_rfl
  cellsByte := by kernel_rfl
  sizeByte := by kernel_rfl
  neB5 := by decide }
open Go.RowKit in
theorem builder_String (B b : Nat) (l : List UInt8) (w : World) (h : Lib.IsBuilder 171 5 B b (Lib.byteCells l) w) (hBw : B ≤ w.heap.size) :
    Calls Try.prog 129 #[.pointer (some ⟨b, 0, none⟩)] w fun e w' => e = .returned (.string ⟨l.toArray⟩) ∧ Below B w w' := Any.Builder_String_any laysStr extraStr B b l w h hBw

theorem sizeBuilder : (Try.prog.info? 171).map (·.size) = some 2 := by kernel_rfl
theorem liesBuilder : liesAt Try.prog Try.prog.depth 171 (2 / Try.prog.cellsOf 171) 0 171 1 = true := by kernel_rfl
theorem info_byte : (Try.prog.info? 5).map (fun i => (i.zero, i.size, i.bytes)) = some (some (.int .u8 0), 1, 1) := by kernel_rfl

set_option maxHeartbeats 1000000 in
set_option maxRecDepth 100000 in
theorem copyCheck_used (b : Nat) (w : World) (h0 : w.cell? ⟨b, 0, none⟩ = some (.pointer (some ⟨b, 0, none⟩))) :
    Calls Try.prog 144 #[.pointer (some ⟨b, 0, none⟩)] w fun e w' => e = .returned (.tuple #[]) ∧ w' = w := by
  obtain ⟨j, hj, _⟩ := Option.map_eq_some_iff.1 sizeBuilder
  go_enter Try.func144, Try.ntmps144
  go_wp2
  rw [Lib.run_neq_ptr_same w _ Try.underlying169 hj]
  go_wp2
  go_end0
  exact ⟨rfl, rfl⟩

set_option maxHeartbeats 1000000 in
set_option maxRecDepth 100000 in
theorem copyCheck_fresh (b : Nat) (w : World) (h0 : w.cell? ⟨b, 0, none⟩ = some (.pointer none)) (hsh : w.shape? b = some (171, 2)) (hfz : w.frozen? ⟨b, 0, none⟩ = false) :
    Calls Try.prog 144 #[.pointer (some ⟨b, 0, none⟩)] w fun e w' => e = .returned (.tuple #[]) ∧ w' = w.setCell ⟨b, 0, none⟩ (.pointer (some ⟨b, 0, none⟩)) := by
  obtain ⟨j, hj, hjs⟩ := Option.map_eq_some_iff.1 sizeBuilder
  go_enter Try.func144, Try.ntmps144
  go_wp2
  rw [Lib.run_to_unsafe w ⟨b, 0, none⟩ Try.underlying169 Try.underlying210 hj (by rw [hjs]; decide) hsh (Nat.zero_lt_succ 1)]
  simp only [Result.andThen]
  rw [Oper.upon_value]
  go_wp2
  rw [run_callFunc_extern Try.func158 (by kernel_rfl) (by kernel_rfl) (by kernel_rfl) (e := Extern.AbiNoEscape.same) (by kernel_rfl)]
  rw [Lib.run_noEscape]
  simp only [Result.andThen]
  rw [Oper.upon_value]
  go_wp2
  rw [Lib.run_from_unsafe w ⟨b, 0, none⟩ Try.underlying210 Try.underlying169 hj hsh liesBuilder]
  simp only [Result.andThen]
  rw [Oper.upon_value]
  go_wp2
  go_end0
  exact ⟨rfl, rfl⟩

theorem copyCheck_any (B b : Nat) (bs : List Value) (w : World) (h : Lib.IsBuilder 171 5 B b bs w) :
    Calls Try.prog 144 #[.pointer (some ⟨b, 0, none⟩)] w fun e w' => e = .returned (.tuple #[]) ∧ (Lib.BuilderAt 171 5 B b (.pointer (some ⟨b, 0, none⟩)) bs w' ∧ Below B w w') := by
  rcases h with h | h
  · refine (copyCheck_fresh b w h.cell0 h.shape h.frozen0).mono ?_
    rintro e w' ⟨rfl, rfl⟩
    exact ⟨rfl, h.used _, (Below.refl B w).setCell (p := ⟨b, 0, none⟩) h.1 _⟩
  · refine (copyCheck_used b w h.cell0).mono ?_
    rintro e w' ⟨rfl, rfl⟩
    exact ⟨rfl, h, Below.refl B _⟩

set_option maxHeartbeats 2000000 in
set_option maxRecDepth 100000 in
theorem WriteString_any (B b : Nat) (bs : List Value) (s : ByteArray) (w : World) (h : Lib.IsBuilder 171 5 B b bs w) (hlen : bs.length + s.size ≤ 140737488355328) (hBw : B ≤ w.heap.size) :
    Calls Try.prog 127 #[.pointer (some ⟨b, 0, none⟩), .string s] w fun e w' => e = .returned (.tuple #[.int .i64 s.size, .nilIface]) ∧ (Lib.BuilderAt 171 5 B b (.pointer (some ⟨b, 0, none⟩)) (bs ++ Lib.strCells s) w' ∧ Below B w w') := by
  obtain ⟨i0, hi, hz0, hz1, hz2⟩ := info_parts info_byte
  go_enter Try.func127, Try.ntmps127
  go_wp2_with (go_at_call 144; refine (copyCheck_any B b bs _ h).mono ?_)
  rintro e w1 ⟨rfl, h1, hb1⟩
  obtain ⟨hB, v, hbk, hown, hne⟩ := h1
  have c0 : w1.cell? ⟨b, 0, none⟩ = some (.pointer (some ⟨b, 0, none⟩)) := by rw [Lib.cell_of_heap hbk]; rfl
  have c1 : w1.cell? ⟨b, 1, none⟩ = some v := by rw [Lib.cell_of_heap hbk]; rfl
  go_wp2_with (at_builtin; refine Lib.wpList_append_own_string _ rfl _ _ 53 9 rfl B 5 i0 Try.underlying53 Try.underlying9 hi hz0 hz1 hz2 _ _ _ rfl hown s rfl ?c3 ?c4 ?c5 ?_)
  case c3 => unfold maxLen; omega
  case c4 => omega
  case c5 => have := hb1.size; omega
  intro v' w2 hown' hgrow _
  have hlt : b < w1.heap.size := by
    rcases Nat.lt_or_ge b w1.heap.size with h' | h'
    · exact h'
    · simp [Array.getElem?_eq_none h'] at hbk
  have hb2 : w2.heap[b]? = some (.cells #[.pointer (some ⟨b, 0, none⟩), v] 171 (0, 0)) := by
    rw [hgrow.block b hlt (fun e => hne e.symm)]
    exact hbk
  have d0 : w2.cell? ⟨b, 0, none⟩ = some (.pointer (some ⟨b, 0, none⟩)) := by rw [Lib.cell_of_heap hb2]; rfl
  have d1 : w2.cell? ⟨b, 1, none⟩ = some v := by rw [Lib.cell_of_heap hb2]; rfl
  have f1 : w2.frozen? ⟨b, 1, none⟩ = false := Lib.frozen_of_heap hb2 1
  obtain ⟨ao, n', cap, rfl⟩ : ∃ ao n' cap, v' = .slice ao n' cap := by
    rcases hown'.2 with ⟨hv, _⟩ | ⟨g, cap, cur, hv, _⟩
    · exact ⟨_, _, _, hv⟩
    · exact ⟨_, _, _, hv⟩
  go_wp2
  go_ret2
  refine ⟨rfl, ?_, ?_⟩
  · exact Lib.BuilderAt.put (T := 171) (e := 5) hB hb2 (bs' := bs ++ Lib.strCells s) (by simpa [Lib.strCells_length] using hown') (by decide)
  · exact (hb1.grown hgrow (by have := hb1.size; omega) (fun k hk => (hown.lt k hk).1)).setCell (p := ⟨b, 1, none⟩) hB _
end Go.Proofs.Ytndpmjanflahhaa

/-
  octet.Num.
-/
namespace Go.Proofs.Ytndpmjanflahhaa
open Go.RowKit Go.MapKept

/-- A slice of ints: from an address on lie these. -/
def IntSl (w : World) (a : Option Addr) (xs : List Int) : Prop :=
  ∀ i x, xs[i]? = some x → ∃ b off, a = some ⟨b, off, none⟩ ∧ w.cell? ⟨b, off + i, none⟩ = some (.int .i64 x)
theorem IntSl.at {w : World} {a : Option Addr} {xs : List Int} (h : IntSl w a xs) (hne : 0 < xs.length) : ∃ b off, a = some ⟨b, off, none⟩ ∧ b < w.heap.size ∧ ∀ i x, xs[i]? = some x → w.cell? ⟨b, off + i, none⟩ = some (.int .i64 x) := by
  obtain ⟨b, off, ha, hc⟩ := h 0 xs[0] (by simp [hne])
  refine ⟨b, off, ha, World.block_lt_of_cell? _ _ hc, fun i s hi => ?_⟩
  obtain ⟨b', off', ha', hc⟩ := h i s hi
  rw [ha] at ha'
  cases ha'
  exact hc

/-- Numbers' bytes. -/
def numsL (n : Nat) (xs : List Int) : List UInt8 := xs.flatMap (fun x => beL n x.toNat)
theorem numsL_len (n : Nat) (xs : List Int) : (numsL n xs).length = xs.length * n := by
  induction xs with
  | nil => simp [numsL]
  | cons x t ih => show (beL n x.toNat ++ numsL n t).length = _; rw [List.length_append, ih, beL_len, List.length_cons, Nat.add_mul]; omega
def fitsN (n : Nat) (x : Int) : Prop := 0 ≤ x ∧ x < (256 ^ n : Nat)

theorem pow_cast (n : Nat) : (2 : Int) ^ (8 * n) = ((256 ^ n : Nat) : Int) := by
  rw [Int.pow_mul, Int.natCast_pow]; rfl
theorem shr_no {n y : Nat} (h : (y : Int) < ((256 ^ n : Nat) : Int)) : ((y : Int) / 2 ^ (8 * n) != 0) = false := by
  rw [bne_eq_false_iff_eq]
  rw [pow_cast]
  exact Int.ediv_eq_zero_of_lt (by omega) h
theorem isBuilder_below {T e : TypeId} {B b : Nat} {bs : List Value} {w w' : World} (h : Lib.IsBuilder T e B b bs w) (hb : Below w.heap.size w w') : Lib.IsBuilder T e B b bs w' := by
  have key : ∀ p, Lib.BuilderAt T e B b p bs w → Lib.BuilderAt T e B b p bs w' := by
    rintro p ⟨h1, v, h2, h3, h4⟩
    refine ⟨h1, v, (hb.block _ (Array.getElem?_eq_some_iff.1 h2).1).trans h2, ?_, h4⟩
    obtain ⟨a1, a2⟩ := h3
    refine ⟨a1, ?_⟩
    rcases a2 with a2 | ⟨g, cap, cur, hv, hg, hh, r⟩
    · exact .inl a2
    · exact .inr ⟨g, cap, cur, hv, hg, (hb.block _ (Array.getElem?_eq_some_iff.1 hh).1).trans hh, r⟩
  exact h.imp (key _) (key _)

set_option maxRecDepth 100000 in
set_option maxHeartbeats 2000000 in
theorem Num_ok (n : Nat) (hn1 : 1 ≤ n) (hn : n ≤ 7) (a : Option Addr) (cap : Nat) (xs : List Int) (w : World) (hl : xs.length ≤ 1000000) (hx : ∀ x ∈ xs, fitsN n x) (hr : IntSl w a xs) :
    Calls Try.prog 102 #[.int .i64 n, .slice a xs.length cap] w fun e w' => e = .returned (.tuple #[.string ⟨(numsL n xs).toArray⟩, .int .i64 0]) ∧ Below w.heap.size w w' := by
  obtain ⟨m, hm⟩ : ∃ m, xs.length = m := ⟨_, rfl⟩
  rw [hm] at hl ⊢
  have hm' := Lib.hid hm
  clear hm
  go_enter Try.func102, Try.ntmps102
  go_wp2_with fail
  go_loopw [17] (fun i wr => ∃ k : Nat, k ≤ m ∧ i = .int .i64 k ∧ Lib.IsBuilder 171 5 w.heap.size w.heap.size (Lib.byteCells (numsL n (xs.take k))) wr ∧ Below w.heap.size w wr) (fun i _ => m - (intOf i).toNat)
  case atStart => exact ⟨0, by omega, rfl, Lib.fresh_isBuilder _ _ w, (Below.refl _ w).alloc (Nat.le_refl _) _⟩
  case round =>
    obtain ⟨k, hk, rfl, hI, hB⟩ := hrel
    by_cases hkm : k < m
    · have hkl : k < xs.length := by rw [hm'.out]; exact hkm
      obtain ⟨g, off, rfl, hgl, hcell⟩ := hr.at (by omega)
      obtain ⟨x, hxk⟩ : ∃ x, xs[k]? = some x := ⟨xs[k], by simp [hkl]⟩
      have c0 : wr.cell? ⟨g, off + k, none⟩ = some (.int .i64 x) := (hB.cell (p := ⟨g, off + k, none⟩) hgl).trans (hcell k x hxk)
      obtain ⟨h0, h1⟩ := hx x (List.mem_of_getElem? hxk)
      obtain ⟨y, rfl⟩ := Int.eq_ofNat_of_zero_le h0
      have hq : ((y : Int) / 2 ^ (8 * n) != 0) = false := shr_no h1
      have hy : y ≤ 9223372036854775807 := by
        have : 256 ^ n ≤ 256 ^ 7 := Nat.pow_le_pow_right (by omega) hn
        have h2 : (y : Int) < ((256 ^ n : Nat) : Int) := h1
        omega
      have cP := put_any n y wr hn hn1 hy
      have hst : Hid (numsL n (xs.take (k + 1)) = numsL n (xs.take k) ++ beL n y) := by
        show _ = _
        rw [List.take_add_one, hxk]
        unfold numsL
        rw [List.flatMap_append]
        simp
      have hlen : (numsL n (xs.take k)).length ≤ 7000000 := by
        rw [numsL_len, List.length_take]
        have : min k xs.length * n ≤ 1000000 * 7 := Nat.mul_le_mul (by omega) hn
        omega
      have hq' := Lib.hid hq
      clear hcell hr hx h1 hxk
      go_wp2_with fail
      refine cP.mono ?_
      rintro e w1 ⟨rfl, hb1⟩
      have hI1 : Lib.IsBuilder 171 5 w.heap.size w.heap.size (Lib.byteCells (numsL n (xs.take k))) w1 := isBuilder_below hI hb1
      have hB1 := hB.trans (hb1.mono hB.size)
      have cW := WriteString_any w.heap.size w.heap.size _ (beB n y) w1 hI1 (by rw [Lib.byteCells_length, beB_size]; omega) hB1.size
      clear cP hq
      go_wp2_with fail
      refine cW.mono ?_
      rintro e w2 ⟨rfl, hI2, hb2⟩
      clear cW
      go_wp2_with fail
      go_roundw
      case rel => exact ⟨k + 1, by omega, by go_num, by rw [hst.out, Lib.byteCells_append]; exact .inr hI2, hB1.trans hb2⟩
      case measure => simp [intOf]; omega
    · have : k = m := by omega
      subst this
      have hI' := hI
      rw [List.take_of_length_le (by rw [hm'.out]; omega)] at hI'
      have cS := builder_String w.heap.size w.heap.size _ wr hI' hB.size
      go_wp2_with fail
      refine cS.mono ?_
      rintro e w1 ⟨rfl, hb1⟩
      go_wp2_with fail
      go_ret2
      exact ⟨rfl, hB.trans hb1⟩

theorem shr_yes {n y : Nat} (h : 256 ^ n ≤ y) : ((y : Int) / 2 ^ (8 * n) != 0) = true := by
  rw [bne_iff_ne]
  rw [pow_cast]
  have : 1 ≤ y / 256 ^ n := by
    rw [Nat.le_div_iff_mul_le (Nat.pow_pos (by omega))]; omega
  have h2 : ((y : Int) / ((256 ^ n : Nat) : Int)) = ((y / 256 ^ n : Nat) : Int) := (Int.natCast_ediv y (256 ^ n)).symm
  rw [h2]; omega

set_option maxRecDepth 100000 in
set_option maxHeartbeats 2000000 in
/-- One number that doesn't fit. -/
theorem Num_bad (n : Nat) (hn1 : 1 ≤ n) (hn : n ≤ 7) (g off cap : Nat) (x : Int) (w : World) (hx : ¬ fitsN n x) (hx1 : -9223372036854775808 ≤ x ∧ x ≤ 9223372036854775807) (hc : w.cell? ⟨g, off, none⟩ = some (.int .i64 x)) :
    Calls Try.prog 102 #[.int .i64 n, .slice (some ⟨g, off, none⟩) 1 cap] w fun e w' => e = .returned (.tuple #[.string ⟨#[]⟩, .int .i64 2]) ∧ Below w.heap.size w w' := by
  have hgl := World.block_lt_of_cell? _ _ hc
  have hB : Below w.heap.size w (w.alloc (.cells #[.pointer none, .slice none 0 0] 171)) := (Below.refl _ w).alloc (Nat.le_refl _) _
  have c0 : (w.alloc (.cells #[.pointer none, .slice none 0 0] 171)).cell? ⟨g, off + 0, none⟩ = some (.int .i64 x) := (hB.cell (p := ⟨g, off, none⟩) hgl).trans hc
  obtain ⟨hx2, hx3⟩ := hx1
  rw [Nat.add_zero] at c0
  by_cases h0 : x < 0
  · go_enter Try.func102, Try.ntmps102
    go_wp2_with fail
    refine wp_loop_rounds 1 ?_
    rw [rounds_succ]
    go_wp2_with fail
    go_ret2
    exact ⟨rfl, hB⟩
  · obtain ⟨y, rfl⟩ := Int.eq_ofNat_of_zero_le (by omega : 0 ≤ x)
    have hq : ((y : Int) / 2 ^ (8 * n) != 0) = true := shr_yes (by
      rcases Nat.lt_or_ge y (256 ^ n) with h | h
      · exact absurd ⟨by omega, by show (y : Int) < ((256 ^ n : Nat) : Int); omega⟩ hx
      · exact h)
    go_enter Try.func102, Try.ntmps102
    go_wp2_with fail
    refine wp_loop_rounds 1 ?_
    rw [rounds_succ]
    go_wp2_with fail
    go_ret2
    exact ⟨rfl, hB⟩
end Go.Proofs.Ytndpmjanflahhaa

/-
  octet.New, (*octet.Reader).Err, Take, Num, where the bytes are there.
-/
namespace Go.Proofs.Ytndpmjanflahhaa
open Go.RowKit Go.MapKept

theorem ext_take (s : ByteArray) (n : Nat) : (s.extract 0 n).data.toList = s.data.toList.take n := by simp
theorem ext_drop (s : ByteArray) (n : Nat) : (s.extract n s.size).data.toList = s.data.toList.drop n := by
  simp only [ByteArray.data_extract, Array.toList_extract]
  rw [List.extract_eq_take_drop, List.take_of_length_le (by simp)]

theorem ONew_any (s : ByteArray) (w : World) :
    Calls Try.prog 104 #[.string s] w fun e w' => e = .returned (.pointer (some ⟨w.heap.size, 0, none⟩)) ∧ w' = w.alloc (.cells #[.string s, .int .i64 0] 178) := by
  go_enter Try.func104, Try.ntmps104
  go_wp2
  go_ret
  exact ⟨rfl, rfl⟩
theorem OErr_any (r : Nat) (s : ByteArray) (x : Int) (w : World) (h : Blk w r #[.string s, .int .i64 x] 178) :
    Calls Try.prog 130 #[.pointer (some ⟨r, 0, none⟩)] w fun e w' => e = .returned (.int .i64 x) ∧ w = w' := by
  have c1 : w.cell? ⟨r, 1, none⟩ = some (.int .i64 x) := h.cell 1
  go_enter Try.func130, Try.ntmps130
  go_wp2
  go_ret
  exact ⟨rfl, rfl⟩
set_option maxRecDepth 100000 in
theorem OTake_any (r : Nat) (s : ByteArray) (n : Nat) (w : World) (h : Blk w r #[.string s, .int .i64 0] 178) (hn : n ≤ s.size) (hs : s.size ≤ 9223372036854775807) :
    Calls Try.prog 132 #[.pointer (some ⟨r, 0, none⟩), .int .i64 n] w fun e w' => e = .returned (.string (s.extract 0 n)) ∧ w' = w.setCell ⟨r, 0, none⟩ (.string (s.extract n s.size)) := by
  have c0 : w.cell? ⟨r, 0, none⟩ = some (.string s) := h.cell 0
  have c1 : w.cell? ⟨r, 1, none⟩ = some (.int .i64 0) := h.cell 1
  have f0 := h.frozen 0
  have cE := OErr_any r s 0 w h
  go_enter Try.func132, Try.ntmps132
  go_wp2_with (go_at_call 130; refine cE.mono ?_; rintro e w' ⟨rfl, rfl⟩)
  go_ret
  exact ⟨rfl, rfl⟩
set_option maxRecDepth 100000 in
theorem ONum_any (r : Nat) (s : ByteArray) (n : Nat) (w : World) (h : Blk w r #[.string s, .int .i64 0] 178) (hn : n ≤ s.size) (hs : s.size ≤ 9223372036854775807) (h1 : 1 ≤ n) (h7 : n ≤ 7) :
    Calls Try.prog 105 #[.pointer (some ⟨r, 0, none⟩), .int .i64 n] w fun e w' => e = .returned (.int .i64 (getL (s.data.toList.take n))) ∧ w' = w.setCell ⟨r, 0, none⟩ (.string (s.extract n s.size)) := by
  have cE := OErr_any r s 0 w h
  have cT := OTake_any r s n w h hn hs
  have cG := fun W => get_any (s.extract 0 n) W (by rw [ByteArray.size_extract]; omega)
  rw [ext_take] at cG
  go_enter Try.func105, Try.ntmps105
  go_wp2_with (first | (go_at_call 130; refine cE.mono ?_; rintro e w' ⟨rfl, rfl⟩) | (go_at_call 132; refine cT.mono ?_; rintro e w' ⟨rfl, rfl⟩) | (go_at_call 131; refine (cG _).mono ?_; rintro e w' ⟨rfl, rfl⟩))
  go_ret
  exact ⟨rfl, rfl⟩
end Go.Proofs.Ytndpmjanflahhaa
