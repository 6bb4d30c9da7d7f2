/-
  THE WALK OF reveillelaw03.NameParts: it returns true, for every two texts of the model's reach.
-/
import Derived.Test.YtndpmjanflahhaaNm5
namespace Go.Proofs.Ytndpmjanflahhaa
open Go.RowKit

theorem Hash_one (a : ByteArray) (b : Nat) (w : World) (ha : a.size ≤ maxLen) (hc : w.cell? ⟨b, 0, none⟩ = some (.string a)) :
    Calls Try.prog 25 #[.slice (some ⟨b, 0, none⟩) 1 1] w fun e w' => e = .returned (.int .i64 (hashB 0 a.data.toList : Nat)) ∧ w = w' :=
  (Hash_any (some ⟨b, 0, none⟩) 1 [a] w (by unfold maxLen; simp) (by simpa using ha) (fun i s h => by
    cases i with
    | zero => simp at h; subst h; exact ⟨b, 0, rfl, hc⟩
    | succ i => simp at h))
theorem Hash_two (a b : ByteArray) (k : Nat) (w : World) (ha : a.size ≤ maxLen) (hb : b.size ≤ maxLen) (hc : w.cell? ⟨k, 0, none⟩ = some (.string a)) (hd : w.cell? ⟨k, 1, none⟩ = some (.string b)) :
    Calls Try.prog 25 #[.slice (some ⟨k, 0, none⟩) 2 2] w fun e w' => e = .returned (.int .i64 (hashB (hashB 0 a.data.toList) b.data.toList : Nat)) ∧ w = w' :=
  (Hash_any (some ⟨k, 0, none⟩) 2 [a, b] w (by unfold maxLen; simp) (by simp; exact ⟨ha, hb⟩) (fun i s h => by
    match i with
    | 0 => simp at h; subst h; exact ⟨k, 0, rfl, hc⟩
    | 1 => simp at h; subst h; exact ⟨k, 0, rfl, hd⟩
    | i + 2 => simp at h))

theorem step_pow (h c P : Nat) : ((31 * h + c) % 4294967296 * P) % 4294967296 = (31 * (h * P) + c * P) % 4294967296 := by
  rw [Nat.mul_mod, Nat.mod_mod, ← Nat.mul_mod, Nat.add_mul, Nat.mul_assoc]

theorem hash_parts (l : List UInt8) : ∀ h, h < 4294967296 → hashB h l = (h * 31 ^ l.length % 4294967296 + hashB 0 l) % 4294967296 := by
  induction l with
  | nil => intro h hh; simp [hashB]; omega
  | cons c t ih =>
    intro h hh
    show hashB (hStep h c) t = (_ + hashB (hStep 0 c) t) % _
    rw [ih _ (hStep_lt h c), ih _ (hStep_lt 0 c)]
    have e1 := step_pow h c.toNat (31 ^ t.length)
    have e2 := step_pow 0 c.toNat (31 ^ t.length)
    have e3 : h * 31 ^ (c :: t).length = 31 * (h * 31 ^ t.length) := by
      rw [List.length_cons, Nat.pow_succ, Nat.mul_comm (31 ^ t.length), ← Nat.mul_assoc, Nat.mul_comm h, Nat.mul_assoc]
    unfold hStep
    rw [e1, e2, e3]
    generalize h * 31 ^ t.length = X
    generalize c.toNat * 31 ^ t.length = Y
    generalize hashB 0 t = Z
    simp only [Nat.zero_mul, Nat.mul_zero, Nat.zero_add]
    omega

def mulN (h k : Nat) : Nat := h * 31 ^ k % 4294967296
theorem mulN_lt (h k : Nat) : mulN h k < 4294967296 := Nat.mod_lt _ (by decide)
theorem mulN_succ (h k : Nat) : mulN h (k + 1) = mulN h k * 31 % 4294967296 := by
  unfold mulN; rw [Nat.pow_succ, ← Nat.mul_assoc]; omega

set_option maxRecDepth 100000 in
set_option maxHeartbeats 1000000 in
theorem nameParts_in (a b : ByteArray) (w : World) (ha : a.size ≤ 500) (hb : b.size ≤ 500) :
    Calls Try.prog 4 #[.string a, .string b] w fun e w' => e = .returned (.bool true) ∧ Below w.heap.size w w' := by
  have ma : a.size ≤ maxLen := by unfold maxLen; omega
  have mb : b.size ≤ maxLen := by unfold maxLen; omega
  have cA := fun w => awake03 w
  have h1 := fun k w hc => Hash_one a k w ma hc
  have h2 := fun k w hc => Hash_one b k w mb hc
  have h3 := fun k w hc hd => Hash_two a b k w ma mb hc hd
  have pa := hashB_lt 0 a.data.toList (by decide)
  have hk := Lib.hid (hash_parts b.data.toList (hashB 0 a.data.toList) pa)
  have pb := hashB_lt 0 b.data.toList (by decide)
  have pc := hashB_lt (hashB 0 a.data.toList) b.data.toList pa
  have hbl : Hid (b.data.toList.length = b.size) := by show _ = _; simp
  generalize hashB (hashB 0 a.data.toList) b.data.toList = C at *
  generalize hashB 0 a.data.toList = X at *
  generalize hashB 0 b.data.toList = Y at *
  generalize b.data.toList.length = bl at *
  have HB := Below.refl w.heap.size w
  go_enter Try.func4, Try.ntmps4
  go_wp2_with (first
    | (go_at_call 20; (with_reducible refine (cA _).mono ?_); rintro e w' ⟨rfl, hb'⟩; replace HB := HB.trans (hb'.mono HB.size); clear hb')
    | (go_at_call 25; (with_reducible refine (h1 _ _ ?_).mono ?_); (focus go_simp); rintro e w' ⟨rfl, rfl⟩))
  go_loop [5, 23] (fun h i => ∃ k : Nat, k ≤ b.size ∧ i = .int .i64 k ∧ h = .int .u32 (mulN X k : Nat)) (fun _ i => b.size - (intOf i).toNat)
  case atStart => exact ⟨0, by omega, rfl, by unfold mulN; simp; omega⟩
  case round =>
    obtain ⟨k, hk1, rfl, rfl⟩ := hrel
    have hM := mulN_lt X k
    by_cases hkb : k < b.size
    · go_wp2
      go_round
      case measure => simp [intOf]; omega
      case rel => exact ⟨k + 1, by omega, by go_num, by rw [mulN_succ]; first | rfl | go_num⟩
    · obtain rfl : k = b.size := by omega
      have hC : ((C : Int) == ((mulN X b.size : Nat) + (Y : Int)) % 4294967296) = true := by
        have := hk.out
        rw [hbl.out] at this
        unfold mulN
        rw [this]; simp
      go_wp2_with (first
        | (go_at_call 25; (with_reducible refine (h3 _ _ ?_ ?_).mono ?_); (focus go_simp); (focus go_simp); rintro e w' ⟨rfl, rfl⟩)
        | (go_at_call 25; (with_reducible refine (h2 _ _ ?_).mono ?_); (focus go_simp); rintro e w' ⟨rfl, rfl⟩))
      go_ret
      exact ⟨ret_bool (by simp; omega), (((HB.alloc HB.size _).alloc (Nat.le_trans HB.size (by simp)) _).alloc (Nat.le_trans HB.size (by simp; omega)) _)⟩

set_option maxRecDepth 100000 in
theorem nameParts_any (a b : ByteArray) (w : World) (ma : a.size ≤ maxLen) (mb : b.size ≤ maxLen) :
    Calls Try.prog 4 #[.string a, .string b] w fun e w' => e = .returned (.bool true) ∧ Below w.heap.size w w' := by
  by_cases h1 : a.size ≤ 500
  · by_cases h2 : b.size ≤ 500
    · exact nameParts_in a b w h1 h2
    · have cA := fun w => awake03 w
      have HB := Below.refl w.heap.size w
      unfold maxLen at ma mb
      go_enter Try.func4, Try.ntmps4
      go_wp2_with (go_at_call 20; (with_reducible refine (cA _).mono ?_); rintro e w' ⟨rfl, hb'⟩; replace HB := HB.trans (hb'.mono HB.size); clear hb')
      go_ret
      exact ⟨rfl, HB⟩
  · have cA := fun w => awake03 w
    have HB := Below.refl w.heap.size w
    unfold maxLen at ma mb
    go_enter Try.func4, Try.ntmps4
    go_wp2_with (go_at_call 20; (with_reducible refine (cA _).mono ?_); rintro e w' ⟨rfl, hb'⟩; replace HB := HB.trans (hb'.mono HB.size); clear hb')
    go_ret
    exact ⟨rfl, HB⟩
end Go.Proofs.Ytndpmjanflahhaa
