/-
  reveilleref01.Num; reveilleref08.Ints at lists that are one.
-/
import Derived.Test.YtndpmjanflahhaaWh5
import Derived.Test.YtndpmjanflahhaaKp2
namespace Go.Proofs.Ytndpmjanflahhaa
open Go.RowKit Go.MapKept

set_option maxRecDepth 100000 in
set_option maxHeartbeats 2000000 in
theorem RInts_yes (a1 a2 : Option Addr) (cap1 cap2 : Nat) (xs : List Int) (w : World) (hl : xs.length ≤ 9223372036854775807) (h1 : IntSl w a1 xs) (h2 : IntSl w a2 xs) :
    Calls Try.prog 63 #[.slice a1 xs.length cap1, .slice a2 xs.length cap2] w fun e w' => e = .returned (.bool true) ∧ Below w.heap.size w w' := by
  obtain ⟨n, hn⟩ : ∃ n, xs.length = n := ⟨_, rfl⟩
  rw [hn] at hl ⊢
  have hn' := Lib.hid hn
  have h1' := Lib.hid h1
  have h2' := Lib.hid h2
  clear hn h1 h2
  go_enter Try.func63, Try.ntmps63
  go_wp2
  go_loopw [5] (fun i wr => ∃ k : Nat, k ≤ n ∧ i = .int .i64 k ∧ Below w.heap.size w wr) (fun i _ => n - (intOf i).toNat)
  case atStart => exact ⟨0, by omega, rfl, Below.refl _ _⟩
  case round =>
    obtain ⟨k, hk, rfl, hB⟩ := hrel
    by_cases hkn : k < n
    · have hkl : k < xs.length := by rw [hn'.out]; exact hkn
      obtain ⟨s, hs⟩ : ∃ s, xs[k]? = some s := ⟨xs[k], by simp [hkl]⟩
      obtain ⟨g1, o1, rfl, d1⟩ := (h1'.out.below hB) k s hs
      obtain ⟨g2, o2, rfl, d2⟩ := (h2'.out.below hB) k s hs
      have i0 : (0 : Int) ≤ k := by omega
      have i1 : (k : Int) < n := by omega
      clear hs hkl
      go_wp2
      go_quiet (fail)
      go_wp2
      go_roundw
      case rel => exact ⟨k + 1, by omega, by go_num, hB.trans ((below_drewN _ _).mono hB.size)⟩
      case measure => simp [intOf]; omega
    · go_wp2
      go_ret
      exact ⟨rfl, hB⟩

theorem ba_ext {a b : ByteArray} (h : a.data.toList = b.data.toList) : a = b := by
  cases a; cases b; simp only at h; congr 1; exact Array.toList_inj.1 h
set_option maxRecDepth 100000 in
set_option maxHeartbeats 1000000 in
theorem RNum_any (n x : Nat) (w : World) (hn : n ≤ 7) (hx : x ≤ 9223372036854775807) :
    Calls Try.prog 60 #[.int .i64 n, .int .i64 x] w fun e w' => e = .returned (.string (beB n x)) ∧ Below w.heap.size w w' := by
  go_enter Try.func60, Try.ntmps60
  go_wp2
  go_loopw [1, 5, 6] (fun vx vs vi wr => ∃ (i y : Nat), i ≤ n ∧ vi = .int .i64 i ∧ vx = .int .i64 y ∧ vs = .string (beB i x) ∧ Hid (y = x / 256 ^ i) ∧ y ≤ 9223372036854775807 ∧ Below w.heap.size w wr) (fun _ _ vi _ => n - (intOf vi).toNat)
  case atStart => exact ⟨0, x, by omega, rfl, rfl, rfl, by show x = _; simp, hx, Below.refl _ _⟩
  case round =>
    obtain ⟨i, y, hi, rfl, rfl, rfl, hy, hyl, hB⟩ := hrel
    by_cases hin : i < n
    · have hbuf : Buf (wr.alloc (.cells #[.int .u8 ((y : Int) % 256)] 5)) wr.heap.size 1 [UInt8.ofNat (y % 256)] := ⟨_, 0, 0, heap_alloc_new wr _, rfl, .inl rfl, Nat.le_refl _, by rw [List.map_cons, byteV_nat]; rfl⟩
      have hrun := run_fromBytes _ _ _ _ hbuf
      have hB1 : Below w.heap.size w (wr.alloc (.cells #[.int .u8 ((y : Int) % 256)] 5)) := hB.trans ((Below.refl _ wr).alloc (Nat.le_refl _) _ |>.mono hB.size)
      clear hbuf
      have hy' : Hid (y / 256 = x / 256 ^ (i + 1)) := by show _ = _; rw [hy.out, Nat.div_div_eq_div_mul, Nat.pow_succ]
      have hyb : Hid (beL (i + 1) x = UInt8.ofNat (y % 256) :: beL i x) := by show _ = _; rw [beL_cons, ← hy.out]
      go_wp2
      rw [show ([UInt8.ofNat (y % 256)] : List UInt8).length = 1 from rfl] at hrun
      have hz : (beB i x).size ≤ 7 := by rw [beB_size]; omega
      obtain ⟨z, hzz⟩ : ∃ z, Hid (z = beB i x) := ⟨_, rfl⟩
      rw [← hzz.out] at hz ⊢
      rw [hrun]
      simp only [Result.andThen]
      rw [Oper.upon_value]
      have hcat : Hid ((⟨#[UInt8.ofNat (y % 256)]⟩ : ByteArray) ++ z = beB (i + 1) x) := by
        show _ = _
        rw [hzz.out]
        unfold beB
        rw [hyb.out]
        apply ba_ext
        simp
      clear hrun
      go_wp2
      refine ⟨⟨i + 1, y / 256, by omega, by go_num, by go_num, by rw [hcat.out], hy', by omega, hB1⟩, by simp [intOf]; omega⟩
    · obtain rfl : i = n := by omega
      go_wp2
      go_ret
      exact ⟨rfl, hB⟩
end Go.Proofs.Ytndpmjanflahhaa
