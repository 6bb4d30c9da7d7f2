/-
  name.Hash: what it returns, for every slice of texts that lies in memory.
-/
import Derived.Test.YtndpmjanflahhaaNm4
namespace Go.Proofs.Ytndpmjanflahhaa
open Go.RowKit

def hStep (h : Nat) (c : UInt8) : Nat := (31 * h + c.toNat) % 4294967296
def hashB (h : Nat) (l : List UInt8) : Nat := l.foldl hStep h
def hashL (l : List ByteArray) : Nat := l.foldl (fun h s => hashB h s.data.toList) 0
theorem hStep_lt (h : Nat) (c : UInt8) : hStep h c < 4294967296 := Nat.mod_lt _ (by decide)
theorem hashB_lt (h : Nat) (l : List UInt8) (hh : h < 4294967296) : hashB h l < 4294967296 := by
  induction l generalizing h with
  | nil => exact hh
  | cons c t ih => exact ih _ (hStep_lt _ _)
theorem foldl_hash_lt (l : List ByteArray) : ∀ h, h < 4294967296 → l.foldl (fun h s => hashB h s.data.toList) h < 4294967296 := by
  induction l with
  | nil => exact fun h hh => hh
  | cons s t ih => exact fun h hh => ih _ (hashB_lt _ _ hh)
theorem hashL_lt (l : List ByteArray) : hashL l < 4294967296 := foldl_hash_lt l 0 (by decide)
theorem hashB_snoc (h : Nat) (l : List UInt8) (c : UInt8) : hashB h (l ++ [c]) = hStep (hashB h l) c := by simp [hashB]
theorem take_snoc (s : ByteArray) (k : Nat) (h : k < s.size) : s.data.toList.take (k + 1) = s.data.toList.take k ++ [s[k]] := by
  rw [List.take_succ_eq_append_getElem (by simpa using h)]; rfl

/-- A slice of texts: from an address on lie these. -/
def StrSl (w : World) (a : Option Addr) (ss : List ByteArray) : Prop :=
  ∀ i s, ss[i]? = some s → ∃ b off, a = some ⟨b, off, none⟩ ∧ w.cell? ⟨b, off + i, none⟩ = some (.string s)

theorem StrSl.at {w : World} {a : Option Addr} {ss : List ByteArray} (h : StrSl w a ss) (hne : 0 < ss.length) : ∃ b off, a = some ⟨b, off, none⟩ ∧ ∀ i s, ss[i]? = some s → w.cell? ⟨b, off + i, none⟩ = some (.string s) := by
  obtain ⟨b, off, ha, _⟩ := h 0 ss[0] (by simp [hne])
  refine ⟨b, off, ha, fun i s hi => ?_⟩
  obtain ⟨b', off', ha', hc⟩ := h i s hi
  rw [ha] at ha'
  cases ha'
  exact hc

theorem u32_step (G : Nat) (c : UInt8) : Value.int .u32 ((31 * (G : Int) % 4294967296 + (c.toNat : Int) % 4294967296) % 4294967296) = Value.int .u32 (hStep G c : Nat) := by
  unfold hStep; congr 1; omega
theorem hashL_snoc (ss : List ByteArray) (k : Nat) (s : ByteArray) (h : ss[k]? = some s) : hashL (ss.take (k + 1)) = hashB (hashL (ss.take k)) s.data.toList := by
  unfold hashL; rw [List.take_add_one, h]; simp

set_option maxHeartbeats 1000000 in
theorem Hash_any (a : Option Addr) (cap : Nat) (ss : List ByteArray) (w : World) (hl : ss.length ≤ maxLen) (hz : ∀ s ∈ ss, s.size ≤ maxLen) (hr : StrSl w a ss) :
    Calls Try.prog 25 #[.slice a ss.length cap] w fun e w' => e = .returned (.int .i64 (hashL ss)) ∧ w = w' := by
  unfold maxLen at hl
  obtain ⟨n, hn⟩ : ∃ n, ss.length = n := ⟨_, rfl⟩
  rw [hn]
  have hn' := Lib.hid hn
  rw [hn] at hl
  clear hn
  go_enter Try.func25, Try.ntmps25
  go_wp2
  go_loop [3, 9] (fun h i => ∃ k H : Nat, k ≤ n ∧ i = .int .i64 k ∧ h = .int .u32 H ∧ Hid (H = hashL (ss.take k)) ∧ H < 4294967296) (fun _ i => n - (intOf i).toNat)
  case atStart => exact ⟨0, 0, by omega, rfl, rfl, rfl, by omega⟩
  case round =>
    obtain ⟨k, H, hk, rfl, rfl, hH, hlt⟩ := hrel
    by_cases hkn : k < n
    · have hkl : k < ss.length := by rw [hn'.out]; exact hkn
      obtain ⟨b, off, rfl, hcell⟩ := hr.at (by omega)
      obtain ⟨s, hs⟩ : ∃ s, ss[k]? = some s := ⟨ss[k], by simp [hkl]⟩
      have hc := hcell k s hs
      have hsz := hz s (List.mem_of_getElem? hs)
      unfold maxLen at hsz
      have hs' := Lib.hid hs
      have hH' := Lib.hid hlt
      clear hs hcell hr hkl
      go_wp2
      go_loop [3, 15] (fun h i => ∃ j G : Nat, j ≤ s.size ∧ i = .int .i64 j ∧ h = .int .u32 G ∧ Hid (G = hashB H (s.data.toList.take j)) ∧ G < 4294967296) (fun _ i => s.size - (intOf i).toNat)
      case atStart => exact ⟨0, H, by omega, rfl, rfl, rfl, hH'.out⟩
      case round =>
        obtain ⟨j, G, hj, rfl, rfl, hG, hlt2⟩ := hrel
        by_cases hjs : j < s.size
        · go_wp2
          go_roundw
          case measure => simp [intOf]; omega
          case rel => exact ⟨j + 1, hStep G s[j], by omega, by go_num, u32_step G s[j], by rw [take_snoc s j hjs, hashB_snoc, ← hG.out]; rfl, hStep_lt _ _⟩
        · go_wp2
          go_round
          case measure => simp [intOf]; omega
          case rel => exact ⟨k + 1, G, by omega, by go_num, rfl, by rw [hashL_snoc ss k s hs'.out, ← hH.out, hG.out, List.take_of_length_le (by simp; omega)]; rfl, hlt2⟩
    · go_wp2
      go_ret
      exact ⟨ret_int (by have := hH.out; rw [List.take_of_length_le (by rw [hn'.out]; omega)] at this; rw [← this]), rfl⟩
end Go.Proofs.Ytndpmjanflahhaa
