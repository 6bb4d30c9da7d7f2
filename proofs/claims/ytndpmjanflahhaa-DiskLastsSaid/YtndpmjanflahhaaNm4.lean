/-
  THE WALK OF reveillelaw03.NameOwn: it returns true, for every two texts of the model's reach.
-/
import Derived.Test.YtndpmjanflahhaaNm3
namespace Go.Proofs.Ytndpmjanflahhaa
open Go.RowKit

def gB : ByteArray := ⟨#[103]⟩
def rgB : ByteArray := ⟨#[37, 114, 101, 116, 114, 121, 37, 103]⟩
theorem own_g : ownOf retryHead gB = rgB := by kernel_rfl
theorem topic_rg : topicB rgB = true := by kernel_rfl
theorem plain_rg : plainB rgB = false := by kernel_rfl

theorem awake03 (w : World) : Calls Try.prog 20 #[] w fun e w' => e = .returned (.bool true) ∧ Below w.heap.size w w' := by
  have c1 := fun w => Retry_any gB w (by decide)
  have c2 := fun w => Topic_any rgB w (by decide)
  have c3 := fun w => Plain_any rgB w (by decide)
  rw [own_g] at c1
  rw [topic_rg] at c2
  rw [plain_rg] at c3
  have h0 : rgB.toList = [37, 114, 101, 116, 114, 121, 37, 103] := by rw [ByteArray.toList_eq]; rfl
  go_enter Try.func20, Try.ntmps20
  go_wp2_with (first | (go_at_call 22; refine (c1 _).mono ?_; rintro e w1 ⟨rfl, hb1⟩) | (go_at_call 29; refine (c2 _).mono ?_; rintro e w2 ⟨rfl, hb2⟩) | (go_at_call 24; refine (c3 _).mono ?_; rintro e w3 ⟨rfl, hb3⟩))
  go_ret
  exact ⟨rfl, hb1.trans ((hb2.trans (hb3.mono hb2.size)).mono hb1.size)⟩

theorem head_not_plain (h g : ByteArray) (c : UInt8) (h0 : h.data.toList.head? = some c) (hc : signB c.toNat = false) : plainB (h ++ g) = false := by
  have : signs (h ++ g) = false := by
    unfold signs
    have e : (h ++ g).data.toList = h.data.toList ++ g.data.toList := by simp
    rw [e]
    cases hl : h.data.toList with
    | nil => rw [hl] at h0; cases h0
    | cons x t => rw [hl] at h0; simp at h0; rw [h0]; simp [hc]
  unfold plainB; rw [this]; simp

theorem toList_append (a b : ByteArray) : (a ++ b).toList = a.toList ++ b.toList := by
  simp [ByteArray.toList_eq]

theorem beq_eq_of_iff {x y a b : List UInt8} (h : x = y ↔ a = b) : (x == y) = (a == b) := by
  rw [Bool.eq_iff_iff]; simpa using h

set_option maxRecDepth 100000 in
set_option maxHeartbeats 1000000 in
theorem nameOwn_in (a b : ByteArray) (w : World) (ha : a.size ≤ 100) (hb : b.size ≤ 100) (ga : groupB a = true) (gb : groupB b = true) :
    Calls Try.prog 3 #[.string a, .string b] w fun e w' => e = .returned (.bool true) ∧ Below w.heap.size w w' := by
  have ma : a.size ≤ maxLen := by unfold maxLen; omega
  have mb : b.size ≤ maxLen := by unfold maxLen; omega
  have cA := fun w => awake03 w
  have cga := fun w => Group_any a w ma
  have cgb := fun w => Group_any b w mb
  have cra := fun w => Retry_any a w ma
  have crb := fun w => Retry_any b w mb
  have cda := fun w => Dead_any a w ma
  have cdb := fun w => Dead_any b w mb
  rw [ownOf_yes ga] at cra cda
  rw [ownOf_yes gb] at crb cdb
  simp only [ga] at cga
  simp only [gb] at cgb
  have sz : ∀ h g : ByteArray, (h ++ g).size = h.size + g.size := fun h g => by simp
  have cpr := fun w => Plain_any (retryHead ++ a) w (by rw [sz]; unfold maxLen; show 7 + _ ≤ _; omega)
  have cpd := fun w => Plain_any (deadHead ++ a) w (by rw [sz]; unfold maxLen; show 6 + _ ≤ _; omega)
  rw [head_not_plain retryHead a 37 rfl (by decide)] at cpr
  rw [head_not_plain deadHead a 37 rfl (by decide)] at cpd
  have hpa : plainB a = true := by unfold groupB at ga; simp at ga; exact ga.1
  have cpa := fun w => Plain_any a w ma
  simp only [hpa] at cpa
  have hrd : ∀ x y : ByteArray, ¬ (retryHead ++ x).toList = (deadHead ++ y).toList := by
    intro x y h
    rw [toList_append, toList_append, ByteArray.toList_eq, ByteArray.toList_eq, ByteArray.toList_eq deadHead] at h
    simp [retryHead, deadHead] at h
  have n1 : ((retryHead ++ a).toList == (deadHead ++ a).toList) = false := by simpa using hrd a a
  have n2 : ((retryHead ++ a).toList == (deadHead ++ b).toList) = false := by simpa using hrd a b
  have n3 : ((retryHead ++ a).toList == (retryHead ++ b).toList) = (a.toList == b.toList) := beq_eq_of_iff (by rw [toList_append, toList_append]; simp)
  have n4 : ((deadHead ++ a).toList == (deadHead ++ b).toList) = (a.toList == b.toList) := beq_eq_of_iff (by rw [toList_append, toList_append]; simp)
  generalize retryHead ++ a = ra at *
  generalize retryHead ++ b = rb at *
  generalize deadHead ++ a = da at *
  generalize deadHead ++ b = db at *
  clear hrd sz ga gb hpa
  have HB := Below.refl w.heap.size w
  go_enter Try.func3, Try.ntmps3
  go_wp2_with (first
    | (go_at_call 20; (with_reducible refine (cA _).mono ?_); rintro e w' ⟨rfl, hb'⟩; replace HB := HB.trans (hb'.mono HB.size); clear hb')
    | (go_at_call 21; (with_reducible refine (cga _).mono ?_); rintro e w' ⟨rfl, hb'⟩; replace HB := HB.trans (hb'.mono HB.size); clear hb')
    | (go_at_call 21; (with_reducible refine (cgb _).mono ?_); rintro e w' ⟨rfl, hb'⟩; replace HB := HB.trans (hb'.mono HB.size); clear hb')
    | (go_at_call 22; (with_reducible refine (cra _).mono ?_); rintro e w' ⟨rfl, hb'⟩; replace HB := HB.trans (hb'.mono HB.size); clear hb')
    | (go_at_call 23; (with_reducible refine (cda _).mono ?_); rintro e w' ⟨rfl, hb'⟩; replace HB := HB.trans (hb'.mono HB.size); clear hb')
    | (go_at_call 24; (with_reducible refine (cpr _).mono ?_); rintro e w' ⟨rfl, hb'⟩; replace HB := HB.trans (hb'.mono HB.size); clear hb')
    | (go_at_call 24; (with_reducible refine (cpd _).mono ?_); rintro e w' ⟨rfl, hb'⟩; replace HB := HB.trans (hb'.mono HB.size); clear hb')
    | (go_at_call 23; (with_reducible refine (cdb _).mono ?_); rintro e w' ⟨rfl, hb'⟩; replace HB := HB.trans (hb'.mono HB.size); clear hb')
    | (go_at_call 22; (with_reducible refine (crb _).mono ?_); rintro e w' ⟨rfl, hb'⟩; replace HB := HB.trans (hb'.mono HB.size); clear hb')
    | (go_at_call 24; (with_reducible refine (cpa _).mono ?_); rintro e w' ⟨rfl, hb'⟩; replace HB := HB.trans (hb'.mono HB.size); clear hb'))
  go_ret
  exact ⟨rfl, HB⟩

set_option maxRecDepth 100000 in
set_option maxHeartbeats 1000000 in
theorem nameOwn_out (a b : ByteArray) (w : World) (ma : a.size ≤ maxLen) (mb : b.size ≤ maxLen) (ho : ¬ (a.size ≤ 100 ∧ b.size ≤ 100 ∧ groupB a = true ∧ groupB b = true)) :
    Calls Try.prog 3 #[.string a, .string b] w fun e w' => e = .returned (.bool true) ∧ Below w.heap.size w w' := by
  have cA := fun w => awake03 w
  have cga := fun w => Group_any a w ma
  have cgb := fun w => Group_any b w mb
  have HB := Below.refl w.heap.size w
  unfold maxLen at ma mb
  by_cases h1 : a.size ≤ 100
  case neg =>
    clear ho
    go_enter Try.func3, Try.ntmps3
    go_wp2_with (go_at_call 20; (with_reducible refine (cA _).mono ?_); rintro e w' ⟨rfl, hb'⟩; replace HB := HB.trans (hb'.mono HB.size); clear hb')
    go_ret
    exact ⟨rfl, HB⟩
  by_cases h2 : b.size ≤ 100
  case neg =>
    clear ho
    go_enter Try.func3, Try.ntmps3
    go_wp2_with (go_at_call 20; (with_reducible refine (cA _).mono ?_); rintro e w' ⟨rfl, hb'⟩; replace HB := HB.trans (hb'.mono HB.size); clear hb')
    go_ret
    exact ⟨rfl, HB⟩
  have ho' : groupB a = true → groupB b = false := fun h3 => by
    cases h4 : groupB b
    · rfl
    · exact absurd ⟨h1, h2, h3, h4⟩ ho
  clear ho
  cases h3 : groupB a <;> simp only [h3] at cga
  · clear ho' h3
    go_enter Try.func3, Try.ntmps3
    go_wp2_with (first
      | (go_at_call 20; (with_reducible refine (cA _).mono ?_); rintro e w' ⟨rfl, hb'⟩; replace HB := HB.trans (hb'.mono HB.size); clear hb')
      | (go_at_call 21; (with_reducible refine (cga _).mono ?_); rintro e w' ⟨rfl, hb'⟩; replace HB := HB.trans (hb'.mono HB.size); clear hb'))
    go_ret
    exact ⟨rfl, HB⟩
  · have h4 := ho' h3
    simp only [h4] at cgb
    clear ho' h3 h4
    go_enter Try.func3, Try.ntmps3
    go_wp2_with (first
      | (go_at_call 20; (with_reducible refine (cA _).mono ?_); rintro e w' ⟨rfl, hb'⟩; replace HB := HB.trans (hb'.mono HB.size); clear hb')
      | (go_at_call 21; (with_reducible refine (cga _).mono ?_); rintro e w' ⟨rfl, hb'⟩; replace HB := HB.trans (hb'.mono HB.size); clear hb')
      | (go_at_call 21; (with_reducible refine (cgb _).mono ?_); rintro e w' ⟨rfl, hb'⟩; replace HB := HB.trans (hb'.mono HB.size); clear hb'))
    go_ret
    exact ⟨rfl, HB⟩

theorem nameOwn_any (a b : ByteArray) (w : World) (ma : a.size ≤ maxLen) (mb : b.size ≤ maxLen) :
    Calls Try.prog 3 #[.string a, .string b] w fun e w' => e = .returned (.bool true) ∧ Below w.heap.size w w' := by
  by_cases h : a.size ≤ 100 ∧ b.size ≤ 100 ∧ groupB a = true ∧ groupB b = true
  · exact nameOwn_in a b w h.1 h.2.1 h.2.2.1 h.2.2.2
  · exact nameOwn_out a b w ma mb h
end Go.Proofs.Ytndpmjanflahhaa
