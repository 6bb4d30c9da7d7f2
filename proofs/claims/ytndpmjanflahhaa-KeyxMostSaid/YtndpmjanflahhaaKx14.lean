/-
  THE STATEMENTS OF LAYER 11: KeyxMost, the walk.
-/
import Derived.Test.YtndpmjanflahhaaKx15
namespace Go.Proofs.Ytndpmjanflahhaa
open Go.RowKit Go.MapKept

set_option maxRecDepth 100000 in
set_option maxHeartbeats 1000000 in
theorem keyxMost_any (few many : Nat) (a : Option Addr) (cap : Nat) (xs : List UInt8) (w : World) (hf : few < 256) (hm : many < 256) (hl : xs.length ≤ 9223372036854775807) (hr : U8Sl w a xs) :
    Calls Try.prog 14 #[.slice a xs.length cap, .int .u8 few, .int .u8 many] w (LastsPost w) := by
  have hr' := Lib.hid hr
  obtain ⟨n, hn⟩ : ∃ n, xs.length = n := ⟨_, rfl⟩
  rw [hn] at hl ⊢
  have hn' := Lib.hid hn
  have t1 : topicB ⟨#[97]⟩ = true := by decide +kernel
  have t1' := Lib.hid t1
  clear hn hr t1
  go_enter Try.func14, Try.ntmps14
  go_wp2_with fail
  refine (awake11_any w).mono ?_
  rintro e w1 ⟨rfl, hB1⟩
  by_cases hbig : 100 < n
  · go_wp2_with fail
    go_ret
    exact ⟨rfl, hB1⟩
  go_wp2_with fail
  refine (New_lives (w0 := w) hB1 1048576 (by omega)).mono ?_
  rintro e w2 ⟨b, rfl, h2⟩
  go_wp2_with fail
  refine (KNew_ok 1048576 w b w2 h2 (by decide) (by decide)).mono ?_
  rintro e w3 ⟨xb, D, rfl, h3, hD⟩
  go_wp2_with fail
  go_loopw [32] (fun vi wr => ∃ (k : Nat) (D : DiskA) (v : List Nat) (rs : List KRec), k ≤ n ∧ vi = .int .i64 k ∧ Hid (rs.length = k) ∧ Hid (MostR xs rs) ∧ Hid (KeyD 1048576 D rs v) ∧ OX 150 w xb b D k (fun _ => none) wr) (fun vi _ => n - (intOf vi).toNat)
  case atStart => exact ⟨0, D, _, [], by omega, rfl, rfl, ⟨fun i r h => by simp at h⟩, hD, h3⟩
  case round =>
    obtain ⟨k, D, v, rs, hk, rfl, hrl, hMR, hKD, hL⟩ := hrel
    by_cases hkn : k < n
    · have hkl : k < xs.length := by rw [hn'.out]; exact hkn
      obtain ⟨x, hx⟩ : ∃ x, xs[k]? = some x := ⟨xs[k], by simp [hkl]⟩
      obtain ⟨g, off, rfl, hc⟩ := hr'.out k x hx
      have c0 : wr.cell? ⟨g, off + k, none⟩ = some (.int .u8 x.toNat) := (hL.grew.cell (p := ⟨g, off + k, none⟩) (World.block_lt_of_cell? _ _ hc)).trans hc
      have hx8 := UInt8.toNat_lt x
      have hbyte : (UInt8.ofNat (97 + x.toNat % 4)).toNat = 97 + x.toNat % 4 := by simp; omega
      obtain ⟨hh1, hh2⟩ := mostHash (x.toNat % 4) (Nat.mod_lt _ (by omega))
      generalize UInt8.ofNat (97 + x.toNat % 4) = ch at *
      have hMR' := hMR.out.add (x := x) (by rw [hrl.out]; exact hx) (10 * k) (by rw [hrl.out]) k (lastTo rs ((94399 + x.toNat % 4) % 8) rs.length)
      have hrn := hrl.out
      have hLn : OX 150 w xb b D (rs.length : Nat) (fun _ => none) wr := by rw [hrn]; exact hL
      have cA := fun W (hB : Below wr.heap.size wr W) => KAdd_ok (x := 10 * k) (y := k) (hLn.below hB) hKD.out (by omega) (by omega) ⟨#[97]⟩ ⟨#[ch]⟩ (by decide) (by show (1 : Nat) ≤ _; omega) t1'.out hh2 (by omega) (by omega)
      rw [hh1] at cA
      have hbuf : Buf (wr.alloc (.cells #[.int .u8 (97 + (x.toNat : Int) % 4)] 5)) wr.heap.size 1 [ch] := ⟨_, 0, 0, heap_alloc_new wr _, rfl, .inl rfl, Nat.le_refl _, by simp [byteV, hbyte]⟩
      have hrun := run_fromBytes _ _ _ _ hbuf
      rw [show ([ch] : List UInt8).length = 1 from rfl] at hrun
      have cAH := Lib.hid (cA _ ((Below.refl _ wr).alloc (Nat.le_refl _) (.cells #[.int .u8 (97 + (x.toNat : Int) % 4)] 5)))
      have hMRH := Lib.hid hMR'
      clear cA hMR' hh1 hh2 hbuf hx hkl hc hbyte hrn hLn
      generalize x.toNat = y at *
      go_wp2_with fail
      have cA := cAH.out
      rw [show ((10 * k : Nat) : Int) = 10 * (k : Int) by omega] at cA
      refine cA.mono ?_
      rintro e w4 ⟨D', rfl, hX, hKD'⟩
      have hKH := Lib.hid hKD'
      rw [List.length_append, hrl.out] at hX
      clear cA cAH hrun hKD'
      go_wp2_with fail
      go_roundw
      case rel => exact ⟨k + 1, D', _, _, by omega, by go_num, by show _ = _; rw [List.length_append, hrl.out]; rfl, hMRH.out, hKH.out, hX⟩
      case measure => simp [intOf]; omega
    · obtain rfl : k = n := by omega
      have hBa : Below wr.heap.size wr (wr.alloc (.cells #[.string ⟨#[97]⟩, .string ⟨#[98]⟩, .string ⟨#[99]⟩, .string ⟨#[100]⟩] 9)) := (Below.refl _ _).alloc (Nat.le_refl _) _
      have hbb : Blk (wr.alloc (.cells #[.string ⟨#[97]⟩, .string ⟨#[98]⟩, .string ⟨#[99]⟩, .string ⟨#[100]⟩] 9)) wr.heap.size #[.string ⟨#[97]⟩, .string ⟨#[98]⟩, .string ⟨#[99]⟩, .string ⟨#[100]⟩] 9 := Blk.new _ _ _
      have hX0 := hL.below hBa
      have hst : ∀ q, q < 4 → (wr.alloc (.cells #[.string ⟨#[97]⟩, .string ⟨#[98]⟩, .string ⟨#[99]⟩, .string ⟨#[100]⟩] 9)).cell? ⟨wr.heap.size, q, none⟩ = some (.string ⟨#[UInt8.ofNat (97 + q)]⟩) := fun q hq => by
        rw [hbb.cell]
        match q, hq with
        | 0, _ => rfl
        | 1, _ => rfl
        | 2, _ => rfl
        | 3, _ => rfl
      have hstH := Lib.hid hst
      clear hst hbb hBa hL
      go_wp2_with fail
      generalize wr.alloc (.cells #[.string ⟨#[97]⟩, .string ⟨#[98]⟩, .string ⟨#[99]⟩, .string ⟨#[100]⟩] 9) = W1 at *
      go_loopw [51] (fun vi w' => ∃ q : Nat, q ≤ 4 ∧ vi = .int .i64 q ∧ Below W1.heap.size W1 w') (fun vi _ => 4 - (intOf vi).toNat)
      case atStart => exact ⟨0, by omega, rfl, Below.refl _ _⟩
      case round =>
        obtain ⟨q, hq, rfl, hB5⟩ := hrel
        by_cases hq4 : q < 4
        · have hc0 := hstH.out q hq4
          have c0 := (hB5.cell (World.block_lt_of_cell? _ _ hc0)).trans hc0
          obtain ⟨hh1, hh2⟩ := mostHash q hq4
          have hbyte : (UInt8.ofNat (97 + q)).toNat = 97 + q := by simp; omega
          generalize UInt8.ofNat (97 + q) = ch at *
          have hX5 := hX0.below hB5
          have hrn := hrl.out
          have cF1 := KFind_any hX5 hKD.out (by omega) ⟨#[97]⟩ ⟨#[ch]⟩ 0 many (by decide) (by show (1 : Nat) ≤ _; omega)
          have cF2 := fun W (hB : Below _ _ W) (mm : Int) => KFind_any (hX5.below hB) hKD.out (by omega) ⟨#[97]⟩ ⟨#[ch]⟩ 0 mm (by decide) (by show (1 : Nat) ≤ _; omega)
          rw [hh1] at cF1 cF2
          clear hc0 hrn hh1 hh2
          go_wp2_with fail
          refine cF1.mono ?_
          rintro e w6 ⟨la, lc, rfl, hL1, hLc, hB6⟩
          have hcF2 := Lib.hid (cF2 w6 hB6)
          clear cF1 cF2
          have hlow : ∀ r ∈ rs, (0 : Int) ≤ (r.at_ : Int) := fun r _ => Int.natCast_nonneg _
          have hLe : findL rs (94399 + q) 0 many = (mostHits rs q).take many := by rw [findL_low hlow]; rfl
          rw [hLe] at hL1 hLc ⊢
          clear hLe
          have hgrew6 : Below w.heap.size w w6 := (hX5.below hB6).grew
          obtain ⟨ll, hll⟩ : ∃ ll, ((mostHits rs q).take many).length = ll := ⟨_, rfl⟩
          rw [hll] at hLc ⊢
          have hllH := Lib.hid hll
          clear hll
          go_wp2_with fail
          have hmi0 : 0 ≤ min (few : Int) (many : Int) := by omega
          have hmi1 : min (few : Int) (many : Int) ≤ many := by omega
          have hmi2 : min (few : Int) (many : Int) ≤ 255 := by omega
          generalize hmiE : min (few : Int) (many : Int) = mi at *
          have cF2 := hcF2.out mi
          have hMe : findL rs (94399 + q) 0 mi = (mostHits rs q).take mi.toNat := by rw [findL_low hlow]; rfl
          unfold FindsPost at cF2
          rw [hMe] at cF2
          have hML : (mostHits rs q).take mi.toNat = ((mostHits rs q).take many).take (((mostHits rs q).take mi.toNat).length) := by
            rw [List.take_take, List.length_take]
            rcases Nat.le_total mi.toNat (mostHits rs q).length with h | h
            · rw [Nat.min_eq_left h, Nat.min_eq_left (by omega)]
            · rw [Nat.min_eq_right h, List.take_of_length_le h, List.take_of_length_le (by omega)]
          have hMLH := Lib.hid hML
          have hl1 : ((mostHits rs q).take mi.toNat).length = min mi.toNat (mostHits rs q).length := List.length_take
          have hll := hllH.out
          have hl2 : ((mostHits rs q).take many).length = min many (mostHits rs q).length := List.length_take
          have q1 : ((((mostHits rs q).take mi.toNat).length : Nat) : Int) ≤ mi := by omega
          have q2 : ((((mostHits rs q).take mi.toNat).length : Nat) : Int) ≤ ((((mostHits rs q).take many).length : Nat) : Int) := by omega
          have q3 : mi ≤ ((((mostHits rs q).take mi.toNat).length : Nat) : Int) ∨ ((((mostHits rs q).take mi.toNat).length : Nat) : Int) = ((((mostHits rs q).take many).length : Nat) : Int) := by omega
          have q4 : ((mostHits rs q).take many).length ≤ 255 := by omega
          have hmem := Lib.hid (fun (j : Nat) (y : Int) (hj : ((mostHits rs q).take many)[j]? = some y) => mostHits_mem hMR.out (List.mem_of_mem_take (List.mem_of_getElem? hj)))
          have hfall := Lib.hid ((mostHits_falls hMR.out q).sublist (List.take_sublist many _))
          rw [hll] at q2 q3 q4
          clear hMe hML hl1 hl2 hcF2 hlow hll
          generalize (mostHits rs q).take mi.toNat = M at *
          generalize (mostHits rs q).take many = L at *
          refine cF2.mono ?_
          rintro e w7 ⟨ma, mc, rfl, hM1, _, hB7⟩
          have hLs := hL1.below hB7
          have hLM : IntSl w7 la M := fun j y hj => hLs j y (by rw [hMLH.out] at hj; rw [List.getElem?_take] at hj; split at hj; exact hj; cases hj)
          have cI := RInts_yes ma la mc lc M w7 (by omega) hM1 hLM
          have hMlH := Lib.hid hM1
          have hLlH := Lib.hid hLs
          obtain ⟨ml, hml⟩ : ∃ ml, M.length = ml := ⟨_, rfl⟩
          rw [hml] at cI q1 q2 q3 ⊢
          have hmlH := Lib.hid hml
          clear hml hLM hM1 hLs hL1 cF2
          go_wp2_with fail
          refine cI.mono ?_
          rintro e w8 ⟨rfl, hB8⟩
          have hLs8 := Lib.hid (hLlH.out.below hB8)
          have hgrew8 : Below w.heap.size w w8 := (hgrew6.trans (hB7.mono hgrew6.size)).trans (hB8.mono (hgrew6.trans (hB7.mono hgrew6.size)).size)
          have hB58 : Below W1.heap.size W1 w8 := ((hB5.trans (hB6.mono hB5.size)).trans (hB7.mono (hB5.trans (hB6.mono hB5.size)).size)).trans (hB8.mono ((hB5.trans (hB6.mono hB5.size)).trans (hB7.mono (hB5.trans (hB6.mono hB5.size)).size)).size)
          clear cI hB6 hB7 hB8 hX5 c0
          have g1 : decide (mi < (ml : Int)) = false := decide_eq_false (by omega)
          have g2 : decide (ll < ml) = false := decide_eq_false (by omega)
          rcases q3 with q3 | q3
          case' inr =>
            obtain rfl : ll = ml := by omega
            have g3 : ((ll : Int) != (ll : Int)) = false := by simp
          case' inl => have g3 : decide ((ml : Int) < mi) = false := decide_eq_false (by omega)
          all_goals go_wp2_with fail
          all_goals
            clear g1 g2 g3
            go_loopw [122] (fun vi w' => ∃ j : Nat, j ≤ ll ∧ vi = .int .i64 j ∧ Below w8.heap.size w8 w') (fun vi _ => ll - (intOf vi).toNat)
            case atStart => exact ⟨0, by omega, rfl, Below.refl _ _⟩
            case round =>
              obtain ⟨j, hj, rfl, hB9⟩ := hrel
              by_cases hjl : j < ll
              · have hjL : j < L.length := by rw [hllH.out]; exact hjl
                obtain ⟨y, hy⟩ : ∃ y, L[j]? = some y := ⟨L[j], by simp [hjL]⟩
                obtain ⟨lg, loff, rfl, hyc⟩ := hLs8.out j y hy
                obtain ⟨i, hi, rfl, x, hxk, hx4⟩ := hmem.out j y hy
                obtain ⟨kg, koff, rfl, hkc⟩ := hr'.out i x hxk
                have d1 := (hB9.cell (World.block_lt_of_cell? _ _ hyc)).trans hyc
                have hW9 := hgrew8.trans (hB9.mono hgrew8.size)
                have d2 := (hW9.cell (World.block_lt_of_cell? _ _ hkc)).trans hkc
                have hikn : i < k := by rw [hrl.out] at hi; exact hi
                have hx8 := UInt8.toNat_lt x
                rw [show ((10 * i : Nat) : Int) = 10 * (i : Int) by omega] at d1
                generalize x.toNat = xn at *
                clear hyc hkc hxk hi
                have e10 : 10 * (i : Int) / 10 = (i : Int) := by omega
                have e12 : (((⟨#[ch]⟩ : ByteArray)[0]'(by show 0 < 1; omega)).toNat : Int) = 97 + (q : Int) := by
                  show ((ch.toNat : Nat) : Int) = _
                  omega
                have e13 : IntKind.u8.wrap (97 + (q : Int) - 97) = (q : Int) := by rw [show 97 + (q : Int) - 97 = q by omega]; exact Go.IntWalk.u8_in _ (by omega)
                have e14 : (xn : Int).tmod 4 = (q : Int) := by rw [Int.tmod_eq_emod_of_nonneg (by omega)]; omega
                have e11 : IntKind.i64.wrap (i : Int) = (i : Int) := Go.IntWalk.i64_in _ (by omega)
                by_cases hj0 : 0 < j
                case neg =>
                  have hjn : decide (0 < (j : Int)) = false := decide_eq_false (by omega)
                  go_wp2_with fail
                  go_quiet (fail)
                  clear e10 e11 e12 e13 e14 hjn
                  go_wp2_with fail
                  go_roundw
                  case rel => exact ⟨j + 1, by omega, by go_num, hB9.trans ((below_drewN _ _).mono hB9.size)⟩
                  case measure => simp [intOf]; omega
                case pos =>
                  have hjn : decide (0 < (j : Int)) = true := decide_eq_true (by omega)
                  obtain ⟨y', hy'⟩ : ∃ y', L[j - 1]? = some y' := ⟨L[j - 1]'(by omega), by simp⟩
                  obtain ⟨i', _, rfl, _⟩ := hmem.out (j - 1) y' hy'
                  have hlt := (List.pairwise_iff_getElem.1 hfall.out) (j - 1) j (by omega) hjL (by omega)
                  rw [(List.getElem?_eq_some_iff.1 hy').2, (List.getElem?_eq_some_iff.1 hy).2] at hlt
                  obtain ⟨lg', loff', hle, hyc'⟩ := hLs8.out (j - 1) _ hy'
                  cases hle
                  have d3 := (hB9.cell (World.block_lt_of_cell? _ _ hyc')).trans hyc'
                  rw [show ((10 * i' : Nat) : Int) = 10 * (i' : Int) by omega] at d3
                  have e15 : IntKind.i64.wrap ((j : Int) - 1) = (j : Int) - 1 := Go.IntWalk.i64_in _ (by omega)
                  have e16 : ((j : Int) - 1).toNat = j - 1 := by omega
                  have e17 : 0 ≤ (j : Int) - 1 := by omega
                  have e18 : decide (i' ≤ i) = false := decide_eq_false (by omega)
                  have e19 : ¬ i' ≤ i := by omega
                  clear hyc' hy' hlt hy hjL
                  go_wp2_with fail
                  go_quiet (fail)
                  clear e10 e11 e12 e13 e14 e15 e16 e17 hjn
                  go_wp2_with fail
                  refine ⟨⟨j + 1, by omega, by go_num, hB9.trans ((below_drewN _ _).mono hB9.size)⟩, by simp [intOf]; omega⟩
              · go_wp2_with fail
                go_roundw
                case rel => exact ⟨q + 1, by omega, by go_num, hB58.trans (hB9.mono hB58.size)⟩
                case measure => simp [intOf]; omega
        · go_wp2_with fail
          go_ret
          exact ⟨rfl, hX0.grew.trans (hB5.mono hX0.grew.size)⟩
end Go.Proofs.Ytndpmjanflahhaa
