/-
  THE WALK OF reveillelaw03.NameHashes: it returns true, for every slice of texts that lies in memory.
-/
import Derived.Test.YtndpmjanflahhaaNm9
import Derived.Test.YtndpmjanflahhaaNm6
namespace Go.Proofs.Ytndpmjanflahhaa
open Go.RowKit

theorem nilFunc_eql (w : World) : (binOp .eql 23 .nilFunc .nilFunc).run Try.prog w = .ok (.bool true) w := by kernel_rfl
theorem func_eql (w : World) : (binOp .eql 23 (.func (.func 24) #[] #[]) .nilFunc).run Try.prog w = .ok (.bool false) w := by kernel_rfl

set_option maxHeartbeats 1000000 in
theorem All_plain (a : Option Addr) (cap : Nat) (ss : List ByteArray) (w : World) (hl : ss.length ≤ maxLen) (hz : ∀ s ∈ ss, s.size ≤ maxLen) (hr : StrSl w a ss) :
    Calls Try.prog 37 #[.func (.func 24) #[] #[], .slice a ss.length cap] w fun e w' => e = .returned (.bool (ss.all plainB)) ∧ Below w.heap.size w w' := by
  unfold maxLen at hl
  obtain ⟨n, hn⟩ : ∃ n, ss.length = n := ⟨_, rfl⟩
  rw [hn]
  have hn' := Lib.hid hn
  rw [hn] at hl
  clear hn
  have qf := func_eql
  go_enter Try.func37, Try.ntmps37
  go_wp2
  go_loopw [9] (fun i wr => ∃ k : Nat, k ≤ n ∧ i = .int .i64 k ∧ Hid ((ss.take k).all plainB = true) ∧ Below w.heap.size w wr) (fun i _ => n - (intOf i).toNat)
  case atStart => exact ⟨0, by omega, rfl, rfl, Below.refl _ _⟩
  case round =>
    obtain ⟨k, hk, rfl, hH, hb⟩ := hrel
    by_cases hkn : k < n
    · have hkl : k < ss.length := by rw [hn'.out]; exact hkn
      obtain ⟨b, off, rfl, hcell⟩ := hr.at (by omega)
      obtain ⟨s, hs⟩ : ∃ s, ss[k]? = some s := ⟨ss[k], by simp [hkl]⟩
      have hc0 := hcell k s hs
      have hc := (hb.cell (p := ⟨b, off + k, none⟩) (World.block_lt_of_cell? _ _ hc0)).trans hc0
      have hsz := hz s (List.mem_of_getElem? hs)
      have hst : Hid ((ss.take (k + 1)).all plainB = ((ss.take k).all plainB && plainB s)) := by show _ = _; rw [List.take_add_one, hs]; simp
      have hfa : Hid (plainB s = false → ss.all plainB = false) := by
        intro h
        cases hh : ss.all plainB
        · rfl
        · rw [List.all_eq_true] at hh; rw [hh s (List.mem_of_getElem? hs)] at h; cases h
      have cp := fun w => Plain_any s w hsz
      clear hs hcell hr hkl hc0
      cases hp : plainB s <;> simp only [hp] at cp <;> have hp' := Lib.hid hp <;> clear hp
      · go_wp2_with (go_at_call 24; (with_reducible refine (cp _).mono ?_); rintro e w' ⟨rfl, hb'⟩; replace hb := hb.trans (hb'.mono hb.size); clear hb')
        go_ret
        exact ⟨ret_bool (hfa.out hp'.out).symm, hb⟩
      · go_wp2_with (go_at_call 24; (with_reducible refine (cp _).mono ?_); rintro e w' ⟨rfl, hb'⟩; replace hb := hb.trans (hb'.mono hb.size); clear hb')
        go_roundw
        case measure => simp [intOf]; omega
        case rel => exact ⟨k + 1, by omega, by go_num, by show _ = _; rw [hst.out, hH.out, hp'.out]; rfl, hb⟩
    · go_wp2
      go_ret
      exact ⟨ret_bool (by have := hH.out; rw [List.take_of_length_le (by rw [hn'.out]; omega)] at this; rw [this]), hb⟩

theorem All_nil (a : Option Addr) (cap : Nat) (ss : List ByteArray) (w : World) (hl : ss.length ≤ maxLen) (hr : StrSl w a ss) :
    Calls Try.prog 37 #[.nilFunc, .slice a ss.length cap] w fun e w' => e = .returned (.bool (ss.length == 0)) ∧ w = w' := by
  unfold maxLen at hl
  by_cases h0 : 0 < ss.length
  · obtain ⟨b, off, rfl, hcell⟩ := hr.at h0
    obtain ⟨s, hs⟩ : ∃ s, ss[0]? = some s := ⟨ss[0], by simp [h0]⟩
    have hc := hcell 0 s hs
    rw [Nat.add_zero] at hc
    have h0' : (ss.length == 0) = false := by simp; intro h; rw [h] at h0; simp at h0
    generalize ss.length = n at *
    have H := Lib.hid h0'
    have qn := nilFunc_eql
    clear hs hcell h0'
    go_enter Try.func37, Try.ntmps37
    go_wp2
    refine wp_loop_rounds 1 ?_
    rw [rounds_succ]
    go_wp2
    go_ret
    exact ⟨ret_bool H.out.symm, rfl⟩
  · obtain rfl : ss = [] := by cases ss; rfl; simp at h0
    go_enter Try.func37, Try.ntmps37
    go_wp2
    refine wp_loop_rounds 1 ?_
    rw [rounds_succ]
    go_wp2
    go_ret
    exact ⟨rfl, rfl⟩

def catL (ss : List ByteArray) : List UInt8 := ss.flatMap fun s => s.data.toList
theorem catL_snoc (ss : List ByteArray) (k : Nat) (s : ByteArray) (h : ss[k]? = some s) : catL (ss.take (k + 1)) = catL (ss.take k) ++ s.data.toList := by
  unfold catL; rw [List.take_add_one, h]; simp
theorem hashB_append (h : Nat) (a b : List UInt8) : hashB h (a ++ b) = hashB (hashB h a) b := by simp [hashB]
theorem hash_cat (ss : List ByteArray) : ∀ h, ss.foldl (fun h s => hashB h s.data.toList) h = hashB h (catL ss) := by
  induction ss with
  | nil => intro h; rfl
  | cons s t ih => intro h; simp only [List.foldl_cons, catL, List.flatMap_cons]; rw [hashB_append, ih]; rfl

set_option maxRecDepth 100000 in
set_option maxHeartbeats 2000000 in
theorem nameHashes_any (a : Option Addr) (cap : Nat) (ss : List ByteArray) (w : World) (hl : ss.length ≤ maxLen) (hz : ∀ s ∈ ss, s.size ≤ 140737488351232) (hr : StrSl w a ss) :
    Calls Try.prog 6 #[.slice a ss.length cap] w fun e w' => e = .returned (.bool true) ∧ Below w.heap.size w w' := by
  have cA := awake03 w
  have hz' : ∀ s ∈ ss, s.size ≤ maxLen := fun s hs => by have := hz s hs; unfold maxLen; omega
  have hrL : ∀ wx, Below w.heap.size w wx → StrSl wx a ss := fun wx hb i s hi => by
    obtain ⟨b, off, ha, hc⟩ := hr i s hi
    exact ⟨b, off, ha, (hb.cell (p := ⟨b, off + i, none⟩) (World.block_lt_of_cell? _ _ hc)).trans hc⟩
  have cH := fun wx hb => Hash_any a cap ss wx hl hz' (hrL wx hb)
  have cP := fun wx hb => All_plain a cap ss wx hl hz' (hrL wx hb)
  have cN := fun wx hb => All_nil a cap ss wx hl (hrL wx hb)
  have hce := Lib.hid (hash_cat ss 0)
  obtain ⟨n, hn⟩ : ∃ n, ss.length = n := ⟨_, rfl⟩
  simp only [hn] at cH cP cN
  rw [hn]
  have hn' := Lib.hid hn
  rw [hn] at hl
  clear hn hr
  unfold maxLen at hl
  go_enter Try.func6, Try.ntmps6
  go_wp2_with (go_at_call 20; (with_reducible refine cA.mono ?_); rintro e w1 ⟨rfl, HB⟩)
  go_loop [3, 4, 11] (fun v p i => ∃ (k : Nat) (A : ByteArray) (P : Bool), k ≤ n ∧ i = .int .i64 k ∧ v = .string A ∧ p = .bool P ∧ Hid (A.data.toList = catL (ss.take k)) ∧ A.size ≤ 1000 ∧ Hid (P = (ss.take k).all plainB)) (fun _ _ i => n - (intOf i).toNat)
  case atStart => exact ⟨0, ByteArray.empty, true, by omega, rfl, rfl, rfl, rfl, by simp, rfl⟩
  case round =>
    obtain ⟨k, A, P, hk, rfl, rfl, rfl, hA, hAs, hP⟩ := hrel
    by_cases hkn : k < n
    · have hkl : k < ss.length := by rw [hn'.out]; exact hkn
      obtain ⟨b, off, rfl, hcell⟩ := (hrL w1 HB).at (by omega)
      obtain ⟨s, hs⟩ : ∃ s, ss[k]? = some s := ⟨ss[k], by simp [hkl]⟩
      have hc := hcell k s hs
      have hsz := hz s (List.mem_of_getElem? hs)
      have hsz' := hz' s (List.mem_of_getElem? hs)
      have hcat := Lib.hid (catL_snoc ss k s hs)
      have hall : Hid ((ss.take (k + 1)).all plainB = ((ss.take k).all plainB && plainB s)) := by show _ = _; rw [List.take_add_one, hs]; simp
      have cp := fun w => refPlain_any s w hsz'
      generalize plainB s = ps at *
      clear hs hcell hkl cH cP cN hrL hz hz'
      cases P
      all_goals
        go_wp2_with (go_at_call 27; (with_reducible refine (cp _).mono ?_); rintro e w' ⟨rfl, rfl⟩)
        all_goals first
        | (go_ret
           exact ⟨rfl, HB⟩)
        | (go_round
           case measure => simp [intOf]; omega
           case rel => exact ⟨k + 1, A ++ s, _, by omega, by go_num, rfl, rfl, by show _ = _; rw [hcat.out, ← hA.out]; simp, by simp at *; omega, by show _ = _; rw [hall.out, ← hP.out]; simp⟩)
    · have hk2 : k = n := by omega
      have hA2 : Hid (A.data.toList = catL ss) := by show _ = _; rw [hA.out, List.take_of_length_le (by rw [hn'.out]; omega)]
      have hP2 : Hid (P = ss.all plainB) := by show _ = _; rw [hP.out, List.take_of_length_le (by rw [hn'.out]; omega)]
      have hAm : A.size ≤ maxLen := by unfold maxLen; omega
      have cr := fun w => refHash_any A w hAm
      have c1 := fun k w hc => Hash_one A k w hAm hc
      have cH := fun wx hb => cH wx hb
      have e1 : hashL ss = hashB 0 A.data.toList := by unfold hashL; rw [hce.out, hA2.out]
      simp only [e1] at cH
      simp only [← hP2.out] at cP
      generalize hashB 0 A.data.toList = X at *
      clear e1 hrL hz hz' hA hP hk2
      by_cases h60 : n ≤ 60
      · go_wp2_with (first
          | (go_at_call 25; (with_reducible refine (cH _ HB).mono ?_); rintro e w' ⟨rfl, rfl⟩)
          | (go_at_call 36; (with_reducible refine (cr _).mono ?_); rintro e w' ⟨rfl, rfl⟩)
          | (go_at_call 25; (with_reducible refine (c1 _ _ ?_).mono ?_); (focus go_simp); rintro e w' ⟨rfl, rfl⟩; replace HB := HB.alloc HB.size (.cells #[.string A] 9))
          | (go_at_call 37; (with_reducible refine (cP _ HB).mono ?_); rintro e w' ⟨rfl, hb'⟩; replace HB := HB.trans (hb'.mono HB.size); clear hb')
          | (go_at_call 37; (with_reducible refine (cN _ HB).mono ?_); rintro e w' ⟨rfl, rfl⟩))
        go_ret
        exact ⟨ret_bool (by simp only [beq_iff_eq]; rw [Bool.eq_iff_iff]; simp), HB⟩
      · go_wp2
        go_ret
        exact ⟨rfl, HB⟩
end Go.Proofs.Ytndpmjanflahhaa
