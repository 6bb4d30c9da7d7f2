/-
  RECORDS OF ONE LENGTH, one behind the other (plain data).
-/
import Derived.Test.YtndpmjanflahhaaMI
import Derived.Test.YtndpmjanflahhaaMB
namespace Go.Proofs.Ytndpmjanflahhaa

section
variable {α β : Type} {f : α → List β} {C : Nat} (hf : ∀ x, (f x).length = C)
include hf
theorem recs_len (l : List α) : (l.flatMap f).length = C * l.length := by
  induction l with
  | nil => simp
  | cons x t ih => rw [List.flatMap_cons, List.length_append, hf, ih, List.length_cons, Nat.mul_add]; omega
theorem recs_drop (l : List α) (i : Nat) : (l.flatMap f).drop (C * i) = (l.drop i).flatMap f := by
  induction l generalizing i with
  | nil => simp
  | cons x t ih =>
    cases i with
    | zero => simp
    | succ i =>
      rw [List.flatMap_cons, List.drop_succ_cons, ← ih i, List.drop_append, hf, Nat.mul_add, Nat.mul_one]
      have : (f x).drop (C * i + C) = [] := by rw [List.drop_eq_nil_iff, hf]; omega
      rw [this, List.nil_append, Nat.add_sub_cancel]
theorem recs_take (l : List α) (i : Nat) : (l.flatMap f).take (C * i) = (l.take i).flatMap f := by
  induction l generalizing i with
  | nil => simp
  | cons x t ih =>
    cases i with
    | zero => simp
    | succ i =>
      rw [List.flatMap_cons, List.take_succ_cons, List.flatMap_cons, ← ih i, List.take_append, hf, Nat.mul_add, Nat.mul_one]
      have : (f x).take (C * i + C) = f x := List.take_of_length_le (by rw [hf]; omega)
      rw [this, Nat.add_sub_cancel]
theorem recs_at (l : List α) (i : Nat) {x : α} (hx : l[i]? = some x) : ((l.flatMap f).drop (C * i)).take C = f x := by
  rw [recs_drop hf]
  have hi : i < l.length := (List.getElem?_eq_some_iff.1 hx).1
  have he : l[i] = x := (List.getElem?_eq_some_iff.1 hx).2
  rw [List.drop_eq_getElem_cons hi, List.flatMap_cons, he, List.take_append_of_le_length (by rw [hf]; omega), List.take_of_length_le (by rw [hf]; omega)]
end

/-- Bytes laid within, or just behind, others. -/
theorem laidL_in (l : List UInt8) (p : Nat) (o : List UInt8) (h : p + o.length ≤ l.length) : laidL l p o = l.take p ++ o ++ l.drop (p + o.length) := by
  unfold laidL
  split
  · rename_i h0; subst h0; simp
  · have : zeros (p + o.length - l.length) = [] := by unfold zeros; rw [show p + o.length - l.length = 0 by omega]; rfl
    rw [this, List.append_nil]
theorem laidL_end (l : List UInt8) (o : List UInt8) : laidL l l.length o = l ++ o := by
  unfold laidL
  split
  · rename_i h0; subst h0; simp
  · have h1 : l.length + o.length - l.length = o.length := by omega
    rw [h1, List.take_left, List.drop_eq_nil_of_le (by simp [zeros]), List.append_nil]
theorem laid_rec {f : Nat → List UInt8} {C : Nat} (hf : ∀ x, (f x).length = C) (v : List Nat) (i : Nat) (hi : i < v.length) (x : Nat) : laidL (v.flatMap f) (C * i) (f x) = (v.set i x).flatMap f := by
  have hlen := recs_len hf v
  have hle : C * i + C ≤ C * v.length := by rw [← Nat.mul_succ]; exact Nat.mul_le_mul_left _ hi
  rw [laidL_in _ _ _ (by rw [hf, hlen]; exact hle), hf, recs_take hf, show C * i + C = C * (i + 1) by rw [Nat.mul_add, Nat.mul_one], recs_drop hf, List.set_eq_take_append_cons_drop, if_pos hi, List.flatMap_append, List.flatMap_cons, List.append_assoc]

/-- Slots of six bytes. -/
def slotL (v : List Nat) : List UInt8 := v.flatMap (beL 6)
def slotB (C : Nat) (v : List Nat) : ByteArray := ⟨(v.flatMap (beL C)).toArray⟩
theorem slotB_size (C : Nat) (v : List Nat) : (slotB C v).size = C * v.length := by
  have := recs_len (beL_len C) v
  show (List.toArray _).size = _
  rw [List.size_toArray, this]
theorem slotB_set (C : Nat) (v : List Nat) (i : Nat) (hi : i < v.length) (x : Nat) : laidB (slotB C v) (C * i) (beB C x) = slotB C (v.set i x) := by
  unfold laidB slotB beB
  rw [List.toList_toArray, List.toList_toArray, laid_rec (beL_len C) v i hi x]
theorem slotB_get (C : Nat) (v : List Nat) (i : Nat) {x : Nat} (hx : v[i]? = some x) : ((slotB C v).extract (C * i) (C * i + C)).data.toList = beL C x := by
  have h := recs_at (beL_len C) v i hx
  rw [← h]
  simp only [ByteArray.data_extract, Array.toList_extract]
  rw [List.extract_eq_take_drop]
  show List.take (C * i + C - C * i) (List.drop (C * i) (slotB C v).data.toList) = _
  rw [Nat.add_sub_cancel_left]; rfl
theorem beL_zero (n : Nat) : beL n 0 = zeros n := by
  induction n with
  | zero => rfl
  | succ n ih =>
    show beL n (0 / 256) ++ [UInt8.ofNat (0 % 256)] = _
    rw [Nat.zero_div, ih]
    unfold zeros
    rw [List.replicate_succ']; rfl
theorem slotB_zero (C m : Nat) : slotB C (List.replicate m 0) = ⟨(zeros (C * m)).toArray⟩ := by
  unfold slotB
  congr 2
  induction m with
  | zero => rfl
  | succ m ih =>
    rw [List.replicate_succ, List.flatMap_cons, ih, beL_zero]
    unfold zeros
    rw [List.replicate_append_replicate]
    congr 1
    rw [Nat.mul_add]; omega
end Go.Proofs.Ytndpmjanflahhaa
