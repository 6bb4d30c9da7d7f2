/-
  disk.laid: bytes with others laid over them from a place on.
-/
import Derived.Test.YtndpmjanflahhaaDk7
namespace Go.Proofs.Ytndpmjanflahhaa
open Go.RowKit Go.MapKept

def laidL (l : List UInt8) (at_ : Nat) (o : List UInt8) : List UInt8 :=
  if o = [] then l else (l ++ zeros (at_ + o.length - l.length)).take at_ ++ o ++ (l ++ zeros (at_ + o.length - l.length)).drop (at_ + o.length)
def laidB (s : ByteArray) (at_ : Nat) (o : ByteArray) : ByteArray := ⟨(laidL s.data.toList at_ o.data.toList).toArray⟩
theorem ba_of_list (s : ByteArray) : (⟨s.data.toList.toArray⟩ : ByteArray) = s := by cases s; simp
theorem laidB_nil (s : ByteArray) (at_ : Nat) (o : ByteArray) (h : o.data.toList = []) : laidB s at_ o = s := by
  unfold laidB laidL; rw [if_pos h, ba_of_list]
theorem laidL_len (l : List UInt8) (at_ : Nat) (o : List UInt8) (h : o ≠ []) : (laidL l at_ o).length = max l.length (at_ + o.length) := by
  unfold laidL; rw [if_neg h]; simp [zeros]; omega

set_option maxRecDepth 100000 in
set_option maxHeartbeats 1000000 in
theorem laid_any (s : ByteArray) (p : Nat) (o : ByteArray) (w : World) (hs : s.size ≤ 1073741824) (hp : p ≤ 1073741824) (ho : o.size ≤ 1073741824) :
    Calls Try.prog 86 #[.string s, .int .i64 p, .string o] w fun e w' => e = .returned (.string (laidB s p o)) ∧ Below w.heap.size w w' := by
  by_cases h0 : o.toList = []
  · have hr := Lib.hid (laidB_nil s p o (by rw [← ByteArray.toList_eq]; exact h0))
    go_enter Try.func86, Try.ntmps86
    go_wp2
    go_ret
    exact ⟨ret_str (by rw [hr.out]), Below.refl _ _⟩
  · have hpos : 0 < o.size := by have := mt nil_of_size.2 h0; omega
    have hne : o.data.toList ≠ [] := by rw [← ByteArray.toList_eq]; exact h0
    have hol : Hid (o.data.toList.length = o.size) := by show _ = _; simp
    have hsl : Hid (s.data.toList.length = s.size) := by show _ = _; simp
    have hms : s.size ≤ maxLen := by unfold maxLen; omega
    have hE := isEmpty_of_ne h0
    by_cases hgt : s.size < p + o.size
    · have hr : Hid (laidB s p o = ⟨((s.data.toList ++ zeros (p + o.size - s.size)).take p ++ o.data.toList ++ (s.data.toList ++ zeros (p + o.size - s.size)).drop (p + o.size)).toArray⟩) := by
        show _ = _; unfold laidB laidL; rw [if_neg hne, hol.out, hsl.out]
      obtain ⟨N, hN⟩ : ∃ N, p + o.size - s.size = N := ⟨_, rfl⟩
      have hcast : ((p : Int) + (o.size : Int) - (s.size : Int)) = (N : Int) := by omega
      have hN0 : 0 < N := by omega
      have hN1 : s.size + N ≤ 1099511627776 := by omega
      have hN2 : s.size + N = p + o.size := by omega
      rw [hN] at hr
      have hzl : Hid ((s.data.toList ++ zeros N).length = s.size + N) := by show _ = _; simp [zeros]
      have hN2' := Lib.hid hN2
      have hfit : p + o.size ≤ (s.data.toList ++ zeros N).length := by rw [hzl.out]; omega
      have hfit' := Lib.hid hfit
      have hol' : o.size ≤ s.size + N - p := by omega
      have hlen3 : Hid ((((s.data.toList ++ zeros N).take p) ++ o.data.toList ++ ((s.data.toList ++ zeros N).drop (p + o.size))).length = s.size + N) := by
        show _ = _; rw [List.length_append, List.length_append, List.length_take, List.length_drop, hol.out, hzl.out]; omega
      clear hN hN2 hfit hne
      go_enter Try.func86, Try.ntmps86
      go_wp2_with (first
        | (refine wpList_toBytes rfl _ rfl s rfl hms ?_; intro cap w1 hb1 hB1 hc1)
        | (refine wpList_appendZeros rfl _ _ rfl _ s.size cap N s.data.toList rfl rfl hb1 hsl.out hN0 hN1 ?_; intro g cap2 w2 hb2 hg2 hgc; have hcap2 : s.size + N ≤ cap2 := by (obtain ⟨_, _, _, _, _, _, h4, _⟩ := hb2; rw [hzl.out] at h4; exact h4))
        | (refine wpList_copyStr rfl _ _ rfl g p _ _ cap2 _ o rfl rfl hb2 hfit'.out hol' ?_; intro w3 hb3 hg3 hz3; have hback := run_fromBytes w3 g cap2 _ hb3; rw [hlen3.out] at hback))
      go_ret
      have hB2 : Below w.heap.size w w2 := hB1.grown hg2 hB1.size (fun k hk => by injection hk with hk; omega)
      refine ⟨ret_str (by rw [hr.out, List.append_assoc]), hB2.grown hg3 hB2.size (fun k hk => by injection hk with hk; rcases hgc with h | h; omega; have := hB1.size; omega)⟩
    · have hz : p + o.size - s.size = 0 := by omega
      have hr : Hid (laidB s p o = ⟨(s.data.toList.take p ++ o.data.toList ++ s.data.toList.drop (p + o.size)).toArray⟩) := by
        show _ = _; unfold laidB laidL; rw [if_neg hne, hol.out, hsl.out, hz]; simp [zeros]
      have hfit : Hid (p + o.size ≤ s.data.toList.length) := by show _ ≤ _; rw [hsl.out]; omega
      have hol' : o.size ≤ s.size - p := by omega
      have hps : p ≤ s.size := by omega
      have hlen3 : Hid ((s.data.toList.take p ++ o.data.toList ++ s.data.toList.drop (p + o.size)).length = s.size) := by
        show _ = _; rw [List.length_append, List.length_append, List.length_take, List.length_drop, hol.out, hsl.out]; omega
      clear hne hz
      go_enter Try.func86, Try.ntmps86
      go_wp2_with (first
        | (refine wpList_toBytes rfl _ rfl s rfl hms ?_; intro cap w1 hb1 hB1 hc1; have hcap1 : s.size ≤ cap := by (obtain ⟨_, _, _, _, _, _, h4, _⟩ := hb1; rw [hsl.out] at h4; exact h4))
        | (refine wpList_copyStr rfl _ _ rfl w.heap.size p _ _ cap _ o rfl rfl hb1 hfit.out hol' ?_; intro w3 hb3 hg3 hz3; have hback := run_fromBytes w3 w.heap.size cap _ hb3; rw [hlen3.out] at hback))
      go_ret
      exact ⟨ret_str (by rw [hr.out, List.append_assoc]), hB1.grown hg3 hB1.size (fun k hk => by injection hk with hk; omega)⟩
end Go.Proofs.Ytndpmjanflahhaa
