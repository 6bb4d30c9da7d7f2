/-
  THE WALK OF reveillelaw03.NameTells: it returns true, for every text of the model's reach.
-/
import Derived.Test.YtndpmjanflahhaaNm8
namespace Go.Proofs.Ytndpmjanflahhaa
open Go.RowKit

theorem ba_ext {a b : ByteArray} (h : a.data.toList = b.data.toList) : a = b := by
  cases a with | mk x => cases b with | mk y => cases x; cases y; simp at h; rw [h]
theorem extract_list (s : ByteArray) (a b : Nat) : (s.extract a b).data.toList = (s.data.toList.take b).drop a := by
  rw [ByteArray.data_extract, Array.toList_extract, List.extract_eq_take_drop, List.drop_take]
theorem data_append (a b : ByteArray) : (a ++ b).data.toList = a.data.toList ++ b.data.toList := by simp
theorem size_list (a : ByteArray) : a.size = a.data.toList.length := by simp
theorem preB_list (s h : ByteArray) : preB s h = decide (s.data.toList.take h.data.toList.length = h.data.toList) := by
  unfold preB
  rw [ByteArray.toList_eq, ByteArray.toList_eq, extract_list, List.drop_zero, size_list, size_list, Bool.eq_iff_iff]
  simp only [Bool.and_eq_true, decide_eq_true_eq, beq_iff_eq]
  constructor
  · exact fun h => h.2
  · intro e
    refine ⟨?_, e⟩
    have := congrArg List.length e
    rw [List.length_take] at this
    omega
theorem preB_head (h s : ByteArray) : preB (h ++ s) h = true := by
  rw [preB_list, data_append]; simp
theorem cutB_head (h s : ByteArray) : cutB (h ++ s) h = s := by
  rw [cutB_yes (preB_head h s)]
  apply ba_ext
  rw [extract_list, data_append, size_list, size_list, data_append, List.take_length, List.drop_left]
theorem not_retry (s : ByteArray) : preB (deadHead ++ s) retryHead = false := by
  rw [preB_list, data_append]; simp [retryHead, deadHead]
theorem of_retry {s : ByteArray} (g : groupB s = true) : ofS (retryHead ++ s) = s := by
  unfold ofS ofYes; rw [preB_head, cutB_head, g]; rfl
theorem of_dead {s : ByteArray} (g : groupB s = true) : ofS (deadHead ++ s) = s := by
  unfold ofS ofYes; rw [not_retry, preB_head, cutB_head, g]; rfl
theorem topic_retry {s : ByteArray} (g : groupB s = true) : topicB (retryHead ++ s) = true := by
  unfold topicB ofB ofYes; rw [preB_head, cutB_head, g]; rfl
theorem topic_dead {s : ByteArray} (g : groupB s = true) : topicB (deadHead ++ s) = true := by
  unfold topicB ofB ofYes; rw [not_retry, preB_head, cutB_head, g]; rfl

set_option maxRecDepth 100000 in
set_option maxHeartbeats 4000000 in
theorem nameTells_any (s : ByteArray) (w : World) (hs : s.size ≤ maxLen) :
    Calls Try.prog 5 #[.string s] w fun e w' => e = .returned (.bool true) ∧ Below w.heap.size w w' := by
  have cA := fun w => awake03 w
  have HB := Below.refl w.heap.size w
  by_cases hl : s.size ≤ 1000
  case neg =>
    unfold maxLen at hs
    go_enter Try.func5, Try.ntmps5
    go_wp2_with (go_at_call 20; (with_reducible refine (cA _).mono ?_); rintro e w' ⟨rfl, hb'⟩; replace HB := HB.trans (hb'.mono HB.size); clear hb')
    go_ret
    exact ⟨rfl, HB⟩
  have cP := fun w => Plain_any s w hs
  have cP' := fun w => refPlain_any s w hs
  have cG := fun w => Group_any s w hs
  have cG' := fun w => refGroup_any s w hs
  have cT := fun w => Topic_any s w hs
  have cT' := fun w => refTopic_any s w hs
  have cg := fun w => Tag_any s w hs
  have cg' := fun w => refTag_any s w hs
  have cK := fun w => Key_any s w hs
  have cK' := fun w => refKey_any s w hs
  have cO := fun w => Of_any s w hs
  have cO' := fun w => refOf_any s w hs
  have cR := fun w => Retry_any s w hs
  have cD := fun w => Dead_any s w hs
  simp only [ofS_empty] at cO
  have sz : ∀ h g : ByteArray, (h ++ g).size = h.size + g.size := fun h g => by simp
  have cOr := fun (g : groupB s = true) w => Of_any (retryHead ++ s) w (by rw [sz]; unfold maxLen; show 7 + _ ≤ _; omega)
  have cOd := fun (g : groupB s = true) w => Of_any (deadHead ++ s) w (by rw [sz]; unfold maxLen; show 6 + _ ≤ _; omega)
  have cTr := fun (g : groupB s = true) w => Topic_any (retryHead ++ s) w (by rw [sz]; unfold maxLen; show 7 + _ ≤ _; omega)
  have cTd := fun (g : groupB s = true) w => Topic_any (deadHead ++ s) w (by rw [sz]; unfold maxLen; show 6 + _ ≤ _; omega)
  cases hg : groupB s
  · simp only [ownOf_no hg] at cR cD
    clear cOr cOd cTr cTd sz
    simp only [hg] at cG cG'
    generalize plainB s = P at *
    generalize topicB s = T at *
    generalize tagB s = Tg at *
    generalize keyB s = K at *
    generalize ofS s = O at *
    clear hg
    unfold maxLen at hs
    go_enter Try.func5, Try.ntmps5
    go_wp2_with (first
      | (go_at_call 20; (with_reducible refine (cA _).mono ?_); rintro e w' ⟨rfl, hb'⟩; replace HB := HB.trans (hb'.mono HB.size); clear hb')
      | (go_at_call 26; (with_reducible refine (cO _).mono ?_); rintro e w' ⟨rfl, hb'⟩; replace HB := HB.trans (hb'.mono HB.size); clear hb')
      | (go_at_call 24; (with_reducible refine (cP _).mono ?_); rintro e w' ⟨rfl, hb'⟩; replace HB := HB.trans (hb'.mono HB.size); clear hb')
      | (go_at_call 27; (with_reducible refine (cP' _).mono ?_); rintro e w' ⟨rfl, rfl⟩)
      | (go_at_call 21; (with_reducible refine (cG _).mono ?_); rintro e w' ⟨rfl, hb'⟩; replace HB := HB.trans (hb'.mono HB.size); clear hb')
      | (go_at_call 28; (with_reducible refine (cG' _).mono ?_); rintro e w' ⟨rfl, rfl⟩)
      | (go_at_call 29; (with_reducible refine (cT _).mono ?_); rintro e w' ⟨rfl, hb'⟩; replace HB := HB.trans (hb'.mono HB.size); clear hb')
      | (go_at_call 30; (with_reducible refine (cT' _).mono ?_); rintro e w' ⟨rfl, rfl⟩)
      | (go_at_call 31; (with_reducible refine (cg _).mono ?_); rintro e w' ⟨rfl, hb'⟩; replace HB := HB.trans (hb'.mono HB.size); clear hb')
      | (go_at_call 32; (with_reducible refine (cg' _).mono ?_); rintro e w' ⟨rfl, rfl⟩)
      | (go_at_call 33; (with_reducible refine (cK _).mono ?_); rintro e w' ⟨rfl, rfl⟩)
      | (go_at_call 34; (with_reducible refine (cK' _).mono ?_); rintro e w' ⟨rfl, rfl⟩)
      | (go_at_call 35; (with_reducible refine (cO' _).mono ?_); rintro e w' ⟨rfl, rfl⟩)
      | (go_at_call 22; (with_reducible refine (cR _).mono ?_); rintro e w' ⟨rfl, hb'⟩; replace HB := HB.trans (hb'.mono HB.size); clear hb')
      | (go_at_call 23; (with_reducible refine (cD _).mono ?_); rintro e w' ⟨rfl, hb'⟩; replace HB := HB.trans (hb'.mono HB.size); clear hb'))
    go_ret
    exact ⟨rfl, HB⟩
  · have cOr := fun w => cOr hg w
    have cOd := fun w => cOd hg w
    have cTr := fun w => cTr hg w
    have cTd := fun w => cTd hg w
    simp only [ownOf_yes hg] at cR cD
    simp only [hg] at cG cG'
    simp only [ofS_empty, of_retry hg] at cOr
    simp only [ofS_empty, of_dead hg] at cOd
    simp only [topic_retry hg] at cTr
    simp only [topic_dead hg] at cTd
    have h8 : s.size ≤ 8 := by unfold groupB at hg; simp at hg; omega
    generalize plainB s = P at *
    generalize topicB s = T at *
    generalize tagB s = Tg at *
    generalize keyB s = K at *
    generalize ofS s = O at *
    clear hg sz
    unfold maxLen at hs
    go_enter Try.func5, Try.ntmps5
    go_wp2_with (first
      | (go_at_call 20; (with_reducible refine (cA _).mono ?_); rintro e w' ⟨rfl, hb'⟩; replace HB := HB.trans (hb'.mono HB.size); clear hb')
      | (go_at_call 26; (with_reducible refine (cO _).mono ?_); rintro e w' ⟨rfl, hb'⟩; replace HB := HB.trans (hb'.mono HB.size); clear hb')
      | (go_at_call 24; (with_reducible refine (cP _).mono ?_); rintro e w' ⟨rfl, hb'⟩; replace HB := HB.trans (hb'.mono HB.size); clear hb')
      | (go_at_call 27; (with_reducible refine (cP' _).mono ?_); rintro e w' ⟨rfl, rfl⟩)
      | (go_at_call 21; (with_reducible refine (cG _).mono ?_); rintro e w' ⟨rfl, hb'⟩; replace HB := HB.trans (hb'.mono HB.size); clear hb')
      | (go_at_call 28; (with_reducible refine (cG' _).mono ?_); rintro e w' ⟨rfl, rfl⟩)
      | (go_at_call 29; (with_reducible refine (cT _).mono ?_); rintro e w' ⟨rfl, hb'⟩; replace HB := HB.trans (hb'.mono HB.size); clear hb')
      | (go_at_call 30; (with_reducible refine (cT' _).mono ?_); rintro e w' ⟨rfl, rfl⟩)
      | (go_at_call 31; (with_reducible refine (cg _).mono ?_); rintro e w' ⟨rfl, hb'⟩; replace HB := HB.trans (hb'.mono HB.size); clear hb')
      | (go_at_call 32; (with_reducible refine (cg' _).mono ?_); rintro e w' ⟨rfl, rfl⟩)
      | (go_at_call 33; (with_reducible refine (cK _).mono ?_); rintro e w' ⟨rfl, rfl⟩)
      | (go_at_call 34; (with_reducible refine (cK' _).mono ?_); rintro e w' ⟨rfl, rfl⟩)
      | (go_at_call 35; (with_reducible refine (cO' _).mono ?_); rintro e w' ⟨rfl, rfl⟩)
      | (go_at_call 22; (with_reducible refine (cR _).mono ?_); rintro e w' ⟨rfl, hb'⟩; replace HB := HB.trans (hb'.mono HB.size); clear hb')
      | (go_at_call 23; (with_reducible refine (cD _).mono ?_); rintro e w' ⟨rfl, hb'⟩; replace HB := HB.trans (hb'.mono HB.size); clear hb')
      | (go_at_call 26; (with_reducible refine (cOr _).mono ?_); rintro e w' ⟨rfl, hb'⟩; replace HB := HB.trans (hb'.mono HB.size); clear hb')
      | (go_at_call 26; (with_reducible refine (cOd _).mono ?_); rintro e w' ⟨rfl, hb'⟩; replace HB := HB.trans (hb'.mono HB.size); clear hb')
      | (go_at_call 29; (with_reducible refine (cTr _).mono ?_); rintro e w' ⟨rfl, hb'⟩; replace HB := HB.trans (hb'.mono HB.size); clear hb')
      | (go_at_call 29; (with_reducible refine (cTd _).mono ?_); rintro e w' ⟨rfl, hb'⟩; replace HB := HB.trans (hb'.mono HB.size); clear hb'))
    go_ret
    exact ⟨ret_bool (by simp; omega), HB⟩
end Go.Proofs.Ytndpmjanflahhaa
