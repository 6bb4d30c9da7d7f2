/-
  disk.Write and disk.Read: what they tell and leave.
-/
import Derived.Test.YtndpmjanflahhaaDk11
namespace Go.Proofs.Ytndpmjanflahhaa
open Go.RowKit Go.MapKept

theorem Write_any (b : Nat) (D : DiskA) (F : Nat → Prop) (w : World) (h : IsDisk w b D F) (n : ByteArray) (p : Int) (s : ByteArray) (hs : s.size ≤ 1073741824) (hwl : D.waits.length < 1099511627776) :
    Calls Try.prog 42 #[ptr b, .string n, .int .i64 p, .string s] w fun e' w' => ∃ F', e' = .returned (errn (D.write n p s).1) ∧ IsDisk w' b (D.write n p s).2 F' ∧ Step F w F' w' := by
  unfold DiskA.write
  cases hdn : D.down
  case true =>
    refine (Write_barred b D F w n p s 8 (by rw [bars_one, hdn]; rfl) (by decide) h).mono ?_
    rintro e w' ⟨rfl, hd, hb⟩
    exact ⟨F, rfl, hd, Step.of_below hb⟩
  case false =>
    simp only [Bool.false_eq_true, if_false]
    cases hf : findF D.files n with
    | none =>
      refine (Write_barred b D F w n p s 9 (by rw [bars_one, hdn, hf]; rfl) (by decide) h).mono ?_
      rintro e w' ⟨rfl, hd, hb⟩
      exact ⟨F, rfl, hd, Step.of_below hb⟩
    | some f =>
      dsimp only
      by_cases hr : p < 0 ∨ (f.now.size : Int) < p
      · rw [if_pos hr]
        refine (Write_range b D F w n p s hdn f hf hr h).mono ?_
        rintro e w' ⟨rfl, hd, hb⟩
        exact ⟨F, rfl, hd, Step.of_below hb⟩
      · rw [if_neg hr]
        obtain ⟨k, rfl⟩ : ∃ k : Nat, p = k := ⟨p.toNat, by omega⟩
        have hk : k ≤ f.now.size := by omega
        by_cases hc : (D.cap : Int) - sizes D.files < k + s.size - f.now.size ∧ (f.now.size : Int) < k + s.size
        · rw [if_pos hc]
          refine (Write_full b D F w n k s hdn f hf (by omega) (by omega) hs hc.1 hc.2 h).mono ?_
          rintro e w' ⟨rfl, hd, hb⟩
          exact ⟨F, rfl, hd, Step.of_below hb⟩
        · rw [if_neg hc]
          have hcase : ((D.cap : Int) - sizes D.files < k + s.size - f.now.size ∧ ¬ (f.now.size : Int) < k + s.size) ∨ ¬ (D.cap : Int) - sizes D.files < k + s.size - f.now.size := by omega
          cases hbn : D.burn.1
          · rw [if_pos rfl]
            rcases hcase with hc | hc
            · refine (Write_burnt_yes b D F w n k s hdn f hf hk hs hc hbn h).mono ?_
              rintro e w' ⟨rfl, hd, hs⟩
              exact ⟨F, rfl, hd, hs⟩
            · refine (Write_burnt_no b D F w n k s hdn f hf hk hs hc hbn h).mono ?_
              rintro e w' ⟨rfl, hd, hs⟩
              exact ⟨F, rfl, hd, hs⟩
          · rw [if_neg (by decide)]
            by_cases he : s.toList = []
            · rw [if_pos (nil_of_size.1 he)]
              rcases hcase with hc | hc
              · refine (Write_empty_yes b D F w n k s hdn f hf hk hs hc hbn he h).mono ?_
                rintro e w' ⟨rfl, hd, hs⟩
                exact ⟨F, rfl, hd, hs⟩
              · refine (Write_empty_no b D F w n k s hdn f hf hk hs hc hbn he h).mono ?_
                rintro e w' ⟨rfl, hd, hs⟩
                exact ⟨F, rfl, hd, hs⟩
            · rw [if_neg (fun e => he (nil_of_size.2 e))]
              have hkt : (k : Int).toNat = k := by omega
              rw [hkt]
              rcases hcase with hc | hc
              · exact Write_put_yes b D F w n k s hdn f hf hk hs hc hbn he hwl h
              · exact Write_put_no b D F w n k s hdn f hf hk hs hc hbn he hwl h

/-- What Read tells. -/
def DiskA.read (D : DiskA) (n : ByteArray) (p k : Int) : ByteArray × Int :=
  if (D.all n).2 ≠ 0 then (ByteArray.empty, (D.all n).2)
  else if p < 0 ∨ k < 0 ∨ ((D.all n).1.size : Int) < p ∨ ((D.all n).1.size : Int) - p < k then (ByteArray.empty, 2)
  else ((D.all n).1.extract p.toNat (p + k).toNat, 0)

theorem ret_str_err {a b : ByteArray} {x y : Int} (h : a = b) (k : x = y) : Ending.returned (.tuple #[.string a, errn x]) = .returned (.tuple #[.string b, errn y]) := by rw [h, k]

theorem all_size (D : DiskA) (hok : D.Ok) (n : ByteArray) : (D.all n).1.size ≤ 16777216 := by
  unfold DiskA.all
  split
  · decide
  · cases hf : findF D.files n with
    | none => decide
    | some f =>
      have h1 := sizes_without hok.names (findF_some hf).1
      have h2 : sizes D.files ≤ D.cap := hok.size
      have := hok.cap
      show f.now.size ≤ _
      omega
theorem all_err (D : DiskA) (n : ByteArray) : 0 ≤ (D.all n).2 ∧ (D.all n).2 ≤ 9 := by
  unfold DiskA.all
  split
  · decide
  · cases findF D.files n <;> simp

set_option maxRecDepth 100000 in
set_option maxHeartbeats 1000000 in
theorem Read_any (b : Nat) (D : DiskA) (F : Nat → Prop) (w : World) (h : IsDisk w b D F) (n : ByteArray) (p k : Int) (hp : -9223372036854775808 ≤ p ∧ p ≤ 9223372036854775807) (hk : -9223372036854775808 ≤ k ∧ k ≤ 9223372036854775807) :
    Calls Try.prog 103 #[ptr b, .string n, .int .i64 p, .int .i64 k] w fun e w' => e = .returned (.tuple #[.string (D.read n p k).1, errn (D.read n p k).2]) ∧ Below w.heap.size w w' ∧ IsDisk w' b D F := by
  have cA := All_any b D F w h n
  have hsz := all_size D h.ok n
  have hR : D.read n p k = if (D.all n).2 ≠ 0 then (ByteArray.empty, (D.all n).2) else if p < 0 ∨ k < 0 ∨ ((D.all n).1.size : Int) < p ∨ ((D.all n).1.size : Int) - p < k then (ByteArray.empty, (2 : Int)) else ((D.all n).1.extract p.toNat (p + k).toNat, (0 : Int)) := rfl
  generalize D.read n p k = R at *
  generalize D.all n = A at *
  obtain ⟨s, e⟩ := A
  dsimp only at cA hsz hR
  obtain ⟨hp1, hp2⟩ := hp
  obtain ⟨hk1, hk2⟩ := hk
  unfold ptr errn at *
  by_cases he : e = 0
  case neg =>
    rw [if_pos he] at hR
    have hR' := Lib.hid hR
    have he' : (e == 0) = false := by simpa using he
    clear hR he h
    go_enter Try.func103, Try.ntmps103
    go_wp2_with (go_at_call 45; refine cA.mono ?_; rintro e' w' ⟨rfl, hb, hd⟩)
    go_ret2
    exact ⟨by rw [hR'.out]; rfl, hb, hd⟩
  case pos =>
    subst he
    rw [if_neg (by simp)] at hR
    by_cases hbad : p < 0 ∨ k < 0 ∨ (s.size : Int) < p ∨ (s.size : Int) - p < k
    · rw [if_pos hbad] at hR
      have hR' := Lib.hid hR
      clear hR h
      by_cases b1 : p < 0
      · clear hbad
        go_enter Try.func103, Try.ntmps103
        go_wp2_with (go_at_call 45; refine cA.mono ?_; rintro e' w' ⟨rfl, hb, hd⟩)
        go_ret2
        exact ⟨by rw [hR'.out]; rfl, hb, hd⟩
      by_cases b2 : k < 0
      · clear hbad
        go_enter Try.func103, Try.ntmps103
        go_wp2_with (go_at_call 45; refine cA.mono ?_; rintro e' w' ⟨rfl, hb, hd⟩)
        go_ret2
        exact ⟨by rw [hR'.out]; rfl, hb, hd⟩
      by_cases b3 : (s.size : Int) < p
      · clear hbad
        go_enter Try.func103, Try.ntmps103
        go_wp2_with (go_at_call 45; refine cA.mono ?_; rintro e' w' ⟨rfl, hb, hd⟩)
        go_ret2
        exact ⟨by rw [hR'.out]; rfl, hb, hd⟩
      have b4 : (s.size : Int) - p < k := by omega
      clear hbad
      go_enter Try.func103, Try.ntmps103
      go_wp2_with (go_at_call 45; refine cA.mono ?_; rintro e' w' ⟨rfl, hb, hd⟩)
      go_ret2
      exact ⟨by rw [hR'.out]; rfl, hb, hd⟩
    · rw [if_neg hbad] at hR
      obtain ⟨pn, rfl⟩ : ∃ q : Nat, p = q := ⟨p.toNat, by omega⟩
      obtain ⟨kn, rfl⟩ : ∃ q : Nat, k = q := ⟨k.toNat, by omega⟩
      have b3 : pn ≤ s.size := by omega
      have b4 : pn + kn ≤ s.size := by omega
      have b5 : (kn : Int) ≤ (s.size : Int) - pn := by omega
      have e1 : ((pn : Int) + (kn : Int)).toNat = pn + kn := by omega
      have e2 : (pn : Int).toNat = pn := by omega
      rw [e1, e2] at hR
      have hR' := Lib.hid hR
      clear hR h hbad e1 e2
      go_enter Try.func103, Try.ntmps103
      go_wp2_with (go_at_call 45; refine cA.mono ?_; rintro e' w' ⟨rfl, hb, hd⟩)
      go_ret2
      exact ⟨by rw [hR'.out]; rfl, hb, hd⟩
end Go.Proofs.Ytndpmjanflahhaa
