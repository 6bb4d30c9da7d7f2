/-
  Kx0, Kx1, Kx2, Kx3, Kx4, Kx5, Kx6, Kx7, Kx8, Kx9, Kx10, one behind the other.
-/
import Derived.Test.YtndpmjanflahhaaMK
import Derived.Test.YtndpmjanflahhaaMJ
import Derived.Test.YtndpmjanflahhaaNm8
import Derived.BigQuiet
import Derived.Deep.RegionHeld3
/-
  WHICH RECORDS HAVE A KEY, as plain data.
-/
namespace Go.Proofs.Ytndpmjanflahhaa

def xlinks : ByteArray := ⟨#[120, 45, 108, 105, 110, 107, 115]⟩
def xslots : ByteArray := ⟨#[120, 45, 115, 108, 111, 116, 115]⟩
def xhead : ByteArray := ⟨#[120, 45]⟩

/-- A key's entry. -/
structure KRec where
  hash : Nat
  at_ : Nat
  born : Nat
  ahead : Nat
def KRec.bytes (r : KRec) : List UInt8 := recL [(5, r.hash), (6, r.at_), (6, r.born), (3, r.ahead)]
theorem KRec.len (r : KRec) : r.bytes.length = 20 := by simp [KRec.bytes, recL, beL_len]
def linksB (rs : List KRec) : ByteArray := ⟨(rs.flatMap KRec.bytes).toArray⟩
theorem linksB_size (rs : List KRec) : (linksB rs).size = 20 * rs.length := by
  show (List.toArray _).size = _
  rw [List.size_toArray, recs_len KRec.len]
theorem linksB_add (rs : List KRec) (r : KRec) : laidB (linksB rs) (20 * rs.length) (recB [(5, r.hash), (6, r.at_), (6, r.born), (3, r.ahead)]) = linksB (rs ++ [r]) := by
  unfold laidB linksB recB
  rw [List.toList_toArray, List.toList_toArray, ← recs_len KRec.len rs, laidL_end, List.flatMap_append]
  simp [KRec.bytes]
theorem linksB_get (rs : List KRec) (i : Nat) {r : KRec} (hx : rs[i]? = some r) : (linksB rs).extract (20 * i) (20 * i + 20) = recB [(5, r.hash), (6, r.at_), (6, r.born), (3, r.ahead)] := by
  apply ba_ext
  have h := recs_at KRec.len rs i hx
  show _ = KRec.bytes r
  rw [← h]
  simp only [ByteArray.data_extract, Array.toList_extract]
  rw [List.extract_eq_take_drop]
  show List.take (20 * i + 20 - 20 * i) (List.drop (20 * i) (linksB rs).data.toList) = _
  rw [Nat.add_sub_cancel_left]; rfl
def KRec.Small (r : KRec) : Prop := r.hash < 4294967296 ∧ r.at_ ≤ 1099511627776 ∧ r.born ≤ 1099511627776

def inB (rs : List KRec) (b k : Nat) : Bool := match rs[k]? with | some r => r.hash % 8 == b | none => false
/-- The last of the first k entries that is of a bucket; 0: none. -/
def lastTo (rs : List KRec) (b : Nat) : Nat → Nat
  | 0 => 0
  | k + 1 => if inB rs b k then k + 1 else lastTo rs b k
/-- Those of the first k entries that are of a bucket, the last one first. -/
def chainTo (rs : List KRec) (b : Nat) : Nat → List Nat
  | 0 => []
  | k + 1 => if inB rs b k then (k + 1) :: chainTo rs b k else chainTo rs b k
theorem lastTo_succ (rs : List KRec) (b k : Nat) : lastTo rs b (k + 1) = if inB rs b k then k + 1 else lastTo rs b k := rfl
theorem chainTo_succ (rs : List KRec) (b k : Nat) : chainTo rs b (k + 1) = if inB rs b k then (k + 1) :: chainTo rs b k else chainTo rs b k := rfl
theorem lastTo_le (rs : List KRec) (b k : Nat) : lastTo rs b k ≤ k := by
  induction k with
  | zero => exact Nat.le_refl _
  | succ k ih => unfold lastTo; split <;> omega
theorem lastTo_pos {rs : List KRec} {b k n : Nat} (h : lastTo rs b k = n) (hn : 0 < n) : ∃ r, rs[n - 1]? = some r ∧ r.hash % 8 = b := by
  induction k with
  | zero => unfold lastTo at h; omega
  | succ k ih =>
    unfold lastTo at h
    split at h
    · rename_i hb
      subst h
      unfold inB at hb
      split at hb
      · rename_i r hr; exact ⟨r, hr, by simpa using hb⟩
      · cases hb
    · exact ih h
theorem chainTo_eq (rs : List KRec) (b k : Nat) : chainTo rs b k = if lastTo rs b k = 0 then [] else lastTo rs b k :: chainTo rs b (lastTo rs b k - 1) := by
  induction k with
  | zero => rfl
  | succ k ih =>
    rw [chainTo_succ, lastTo_succ]
    split
    · rw [if_neg (by omega), Nat.add_sub_cancel]
    · exact ih
theorem inB_append {rs : List KRec} {r : KRec} {b k : Nat} (h : k < rs.length) : inB (rs ++ [r]) b k = inB rs b k := by
  unfold inB; rw [List.getElem?_append_left h]
theorem lastTo_append {rs : List KRec} {r : KRec} {b k : Nat} (h : k ≤ rs.length) : lastTo (rs ++ [r]) b k = lastTo rs b k := by
  induction k with
  | zero => rfl
  | succ k ih => unfold lastTo; rw [inB_append (by omega), ih (by omega)]
theorem lastTo_snoc (rs : List KRec) (r : KRec) (b : Nat) : lastTo (rs ++ [r]) b (rs.length + 1) = if r.hash % 8 = b then rs.length + 1 else lastTo rs b rs.length := by
  have h : inB (rs ++ [r]) b rs.length = (r.hash % 8 == b) := by unfold inB; simp
  rw [lastTo_succ, h, lastTo_append (Nat.le_refl _)]
  by_cases hb : r.hash % 8 = b
  · simp [hb]
  · simp [hb]

/-- The index's files have just these. -/
structure KeyD (C : Nat) (D : DiskA) (rs : List KRec) (v : List Nat) : Prop where
  calm : Calm D
  cap : D.cap = C
  size : sizes D.files = 24 + 20 * rs.length
  waits : D.waits.length ≤ 1 + 2 * rs.length
  len : v.length = 8
  links : D.get xlinks = some (linksB rs)
  slots : D.get xslots = some (slotB 3 v)
  small : ∀ r ∈ rs, r.Small
  last : ∀ b, b < 8 → v[b]? = some (lastTo rs b rs.length)
  ahead : ∀ (i : Nat) (r : KRec), rs[i]? = some r → r.ahead = lastTo rs (r.hash % 8) i
end Go.Proofs.Ytndpmjanflahhaa

/-
  keyx.New, number, last, link.
-/
namespace Go.Proofs.Ytndpmjanflahhaa
open Go.RowKit Go.MapKept

theorem number_any (a b : ByteArray) (w : World) (ha : a.size ≤ 9223372036854775807) (hb : b.size ≤ 9223372036854775807) :
    Calls Try.prog 106 #[.string a, .string b] w fun e w' => e = .returned (.int .i64 (hashL [a, ⟨#[35]⟩, b])) ∧ Below w.heap.size w w' := by
  have hB : Below w.heap.size w (w.alloc (.cells #[.string a, .string ⟨#[35]⟩, .string b] 9)) := (Below.refl _ _).alloc (Nat.le_refl _) _
  have hs : StrSl (w.alloc (.cells #[.string a, .string ⟨#[35]⟩, .string b] 9)) (some ⟨w.heap.size, 0, none⟩) [a, ⟨#[35]⟩, b] := by
    intro i s hi
    have hb : Blk (w.alloc (.cells #[.string a, .string ⟨#[35]⟩, .string b] 9)) w.heap.size #[.string a, .string ⟨#[35]⟩, .string b] 9 := Blk.new _ _ _
    match i, hi with
    | 0, hi => simp at hi; subst hi; exact ⟨_, 0, rfl, hb.cell 0⟩
    | 1, hi => simp at hi; subst hi; exact ⟨_, 0, rfl, hb.cell 1⟩
    | 2, hi => simp at hi; subst hi; exact ⟨_, 0, rfl, hb.cell 2⟩
  have hml : maxLen = 9223372036854775807 := by decide
  have cH := Hash_any (some ⟨w.heap.size, 0, none⟩) 3 [a, ⟨#[35]⟩, b] _ (by rw [hml]; simp) (by
    intro s hs; simp at hs
    rcases hs with rfl | rfl | rfl
    · omega
    · decide
    · omega) hs
  generalize hashL [a, ⟨#[35]⟩, b] = h at *
  clear hs hml
  go_enter Try.func106, Try.ntmps106
  go_wp2_with fail
  refine cH.mono ?_
  rintro e w' ⟨rfl, rfl⟩
  go_wp2_with fail
  go_ret
  exact ⟨rfl, hB⟩

abbrev KX (w0 : World) (xb b : Nat) (D : DiskA) (n : Int) (w : World) : Prop := OX 150 w0 xb b D n (fun _ => none) w

set_option maxRecDepth 100000 in
set_option maxHeartbeats 1000000 in
theorem KLast_any {w0 w : World} {xb b C : Nat} {D : DiskA} {n : Int} {O : Nat → Option Obj} (hl : OX 150 w0 xb b D n O w) {rs : List KRec} {v : List Nat} (hD : KeyD C D rs v) (hr : rs.length < 16777216) (s : Nat) (hs : s < 8) :
    Calls Try.prog 107 #[.pointer (some ⟨xb, 0, none⟩), .int .i64 s] w fun e w' => e = .returned (.tuple #[.int .i64 (lastTo rs s rs.length), .int .i64 0]) ∧ Below w.heap.size w w' := by
  have c0 : w.cell? ⟨xb, 0, none⟩ = some (.pointer (some ⟨b, 0, none⟩)) := hl.head.cell 0
  have hsz : (slotB 3 v).size = 24 := by rw [slotB_size, hD.len]
  have hrd := read_calm hD.calm hD.slots (p := 3 * s) (k := 3) (by rw [hsz]; omega)
  have cR := hl.read xslots (3 * s : Nat) 3 (by omega) (by omega)
  have hrd' : D.read xslots ((3 * s : Nat) : Int) 3 = ((slotB 3 v).extract (3 * s) (3 * s + 3), 0) := hrd
  rw [hrd'] at cR
  have hx := hD.last s hs
  have hle := lastTo_le rs s rs.length
  generalize lastTo rs s rs.length = x at *
  have hget := slotB_get 3 v s hx
  have hE : ((slotB 3 v).extract (3 * s) (3 * s + 3)).size = 3 := by rw [ByteArray.size_extract, hsz]; omega
  have hE' := Lib.hid hE
  have hfin : Hid (getL (((slotB 3 v).extract (3 * s) (3 * s + 3)).data.toList.take 3) = x) := by
    show _ = _
    rw [hget, List.take_of_length_le (by rw [beL_len]; omega), getL_beL]
    exact Nat.mod_eq_of_lt (by omega)
  have hcast : ((3 * s : Nat) : Int) = 3 * (s : Int) := by omega
  rw [hcast] at cR
  generalize (slotB 3 v).extract (3 * s) (3 * s + 3) = z at *
  clear hrd hrd' hget hsz hx hE hcast
  go_enter Try.func107, Try.ntmps107
  go_wp2_with fail
  refine cR.mono ?_
  rintro e w1 ⟨rfl, hb1⟩
  clear cR
  go_wp2_with fail
  refine (ONew_any z w1).mono ?_
  rintro e w2 ⟨rfl, rfl⟩
  go_wp2_with fail
  refine (ONum_any w1.heap.size z 3 _ (Blk.new _ _ _) (by rw [hE'.out]; omega) (by rw [hE'.out]; omega) (by omega) (by omega)).mono ?_
  rintro e w2 ⟨rfl, rfl⟩
  rw [hfin.out]
  go_wp2_with fail
  go_ret2
  exact ⟨rfl, hb1.trans (((Below.refl _ w1).alloc (Nat.le_refl _) _).mono hb1.size)⟩

def KRec.agg (r : KRec) : Value := .agg #[.int .i64 r.hash, .int .i64 r.at_, .int .i64 r.born, .int .i64 r.ahead]
set_option maxRecDepth 100000 in
set_option maxHeartbeats 1000000 in
theorem KLink_any {w0 w : World} {xb b C : Nat} {D : DiskA} {n : Int} {O : Nat → Option Obj} (hl : OX 150 w0 xb b D n O w) {rs : List KRec} {v : List Nat} (hD : KeyD C D rs v) (hr : rs.length < 16777216) (k : Nat) (h0 : 0 < k) {r : KRec} (hk : rs[k - 1]? = some r) :
    Calls Try.prog 134 #[.pointer (some ⟨xb, 0, none⟩), .int .i64 k] w fun e w' => e = .returned (.tuple #[.agg #[.int .i64 r.hash, .int .i64 r.at_, .int .i64 r.born, .int .i64 r.ahead], .int .i64 0]) ∧ Below w.heap.size w w' := by
  have c0 : w.cell? ⟨xb, 0, none⟩ = some (.pointer (some ⟨b, 0, none⟩)) := hl.head.cell 0
  have hkl : k - 1 < rs.length := (List.getElem?_eq_some_iff.1 hk).1
  have hrd := read_calm hD.calm hD.links (p := 20 * (k - 1)) (k := 20) (by rw [linksB_size]; omega)
  have hxl := hl.head.lt
  have hBa : Below w.heap.size w (w.alloc (.cells #[.int .i64 0, .int .i64 0, .int .i64 0, .int .i64 0] 152)) := (Below.refl _ _).alloc (Nat.le_refl _) _
  have cR := (hl.below hBa).read xlinks (20 * (k - 1) : Nat) 20 (by omega) (by omega)
  have hrd' : D.read xlinks ((20 * (k - 1) : Nat) : Int) 20 = ((linksB rs).extract (20 * (k - 1)) (20 * (k - 1) + 20), 0) := hrd
  rw [hrd', linksB_get rs (k - 1) hk] at cR
  obtain ⟨s1, s2, s3⟩ := hD.small r (List.mem_of_getElem? hk)
  have s4 : r.ahead < 16777216 := by rw [hD.ahead _ r hk]; have := lastTo_le rs (r.hash % 8) (k - 1); omega
  obtain ⟨g0, g1, g2, g3, g4⟩ := Link_back r.hash r.at_ r.born r.ahead (by omega) (by omega) (by omega) (by omega)
  have cG := fun W => GetLink_any (recB [(5, r.hash), (6, r.at_), (6, r.born), (3, r.ahead)]) W g4
  rw [g0, g1, g2, g3] at cG
  have hcast : ((20 * (k - 1) : Nat) : Int) = ((k : Int) - 1) * 20 := by omega
  rw [hcast] at cR
  generalize recB [(5, r.hash), (6, r.at_), (6, r.born), (3, r.ahead)] = z at *
  clear hrd hrd' hk hcast g0 g1 g2 g3 g4 hl hD
  obtain ⟨rh, ra, rb, rd⟩ := r
  dsimp only at *
  go_enter Try.func134, Try.ntmps134
  go_wp2_with fail
  refine cR.mono ?_
  rintro e w1 ⟨rfl, hb1⟩
  clear cR
  have hB1 := hBa.trans (hb1.mono (by simp))
  have hb : Blk w1 w.heap.size #[.int .i64 0, .int .i64 0, .int .i64 0, .int .i64 0] 152 := (Blk.new _ _ _).at (hb1.block _ (by simp))
  clear hBa hb1
  go_wp2_with fail
  refine (cG _).mono ?_
  rintro e w2 ⟨rfl, hb2⟩
  have hB2 := hB1.trans (hb2.mono hB1.size)
  have hbb := hb.at (hb2.block _ hb.lt)
  clear cG hb hB1 hb2
  have hlt := hbb.lt
  have e0 : w2.cell? ⟨w.heap.size, 0, none⟩ = some (.int .i64 0) := hbb.cell 0
  have e1 : w2.cell? ⟨w.heap.size, 1, none⟩ = some (.int .i64 0) := hbb.cell 1
  have e2 : w2.cell? ⟨w.heap.size, 2, none⟩ = some (.int .i64 0) := hbb.cell 2
  have e3 : w2.cell? ⟨w.heap.size, 3, none⟩ = some (.int .i64 0) := hbb.cell 3
  have f0 := hbb.frozen 0
  have f1 := hbb.frozen 1
  have f2 := hbb.frozen 2
  have f3 := hbb.frozen 3
  have hfin : Blk ((((w2.setCell ⟨w.heap.size, 0, none⟩ (.int .i64 rh)).setCell ⟨w.heap.size, 1, none⟩ (.int .i64 ra)).setCell ⟨w.heap.size, 2, none⟩ (.int .i64 rb)).setCell ⟨w.heap.size, 3, none⟩ (.int .i64 rd)) w.heap.size #[.int .i64 rh, .int .i64 ra, .int .i64 rb, .int .i64 rd] 152 := (((hbb.set 0 _).set 1 _).set 2 _).set 3 _
  have hBf : Below w.heap.size w ((((w2.setCell ⟨w.heap.size, 0, none⟩ (.int .i64 rh)).setCell ⟨w.heap.size, 1, none⟩ (.int .i64 ra)).setCell ⟨w.heap.size, 2, none⟩ (.int .i64 rb)).setCell ⟨w.heap.size, 3, none⟩ (.int .i64 rd)) := (((hB2.setCell (p := ⟨w.heap.size, 0, none⟩) (Nat.le_refl _) _).setCell (p := ⟨w.heap.size, 1, none⟩) (Nat.le_refl _) _).setCell (p := ⟨w.heap.size, 2, none⟩) (Nat.le_refl _) _).setCell (p := ⟨w.heap.size, 3, none⟩) (Nat.le_refl _) _
  go_wp2_with fail
  (try simp only [Exit.inBlock, Exit.then])
  generalize ((((w2.setCell ⟨w.heap.size, 0, none⟩ (.int .i64 rh)).setCell ⟨w.heap.size, 1, none⟩ (.int .i64 ra)).setCell ⟨w.heap.size, 2, none⟩ (.int .i64 rb)).setCell ⟨w.heap.size, 3, none⟩ (.int .i64 rd)) = w7 at *
  have hf2 := hfin.up (.cells #[.int .i64 rh, .int .i64 ra, .int .i64 rb, .int .i64 rd] 152)
  have hBg : Below w.heap.size w (w7.alloc (.cells #[.int .i64 rh, .int .i64 ra, .int .i64 rb, .int .i64 rd] 152)) := hBf.alloc hBf.size _
  generalize w7.alloc (.cells #[.int .i64 rh, .int .i64 ra, .int .i64 rb, .int .i64 rd] 152) = w8 at *
  have g0 : w8.cell? ⟨w.heap.size, 0, none⟩ = some (.int .i64 rh) := hf2.cell 0
  have g1 : w8.cell? ⟨w.heap.size, 1, none⟩ = some (.int .i64 ra) := hf2.cell 1
  have g2 : w8.cell? ⟨w.heap.size, 2, none⟩ = some (.int .i64 rb) := hf2.cell 2
  have g3 : w8.cell? ⟨w.heap.size, 3, none⟩ = some (.int .i64 rd) := hf2.cell 3
  refine bodyPost_ret (v := .tuple #[.agg #[.int .i64 rh, .int .i64 ra, .int .i64 rb, .int .i64 rd], .int .i64 0]) ?_ rfl ⟨rfl, hBg⟩
  rw [results_cell_tmp rfl]
  go_simp

/-- What New leaves of an empty disk. -/
def KNewPost (C : Nat) (w0 : World) (b : Nat) (e : Ending) (w' : World) : Prop :=
  ∃ xb D, e = .returned (.tuple #[.pointer (some ⟨xb, 0, none⟩), .int .i64 0]) ∧ KX w0 xb b D 0 w' ∧ KeyD C D [] (List.replicate 8 0)
theorem info_u8x : True := trivial
set_option maxRecDepth 100000 in
set_option maxHeartbeats 2000000 in
theorem KNew_ok (C : Nat) (w0 : World) (b : Nat) (w : World) (h : Lives w0 b (newD C) w) (hC : 24 ≤ (newD C).cap) (hCC : (newD C).cap = C) :
    Calls Try.prog 65 #[.pointer (some ⟨b, 0, none⟩)] w (KNewPost C w0 b) := by
  obtain ⟨i0, hi0, hz0, hz1, hz2⟩ := info_parts info_u8
  have cL := h.list xhead (by decide)
  have hLn : (newD C).list xhead = [] := by simp [DiskA.list, DiskA.sorted, newD]
  rw [hLn] at cL
  go_enter Try.func65, Try.ntmps65
  go_wp2_with fail
  refine cL.mono ?_
  rintro e w1 ⟨la, lcap, rfl, _, hLN, hb1⟩
  clear cL hLn
  have hL1 := hLN.lives
  clear hLN hb1 h
  have hX := hL1.over 150 0
  have hwx : (w1.alloc (.cells #[.pointer (some ⟨b, 0, none⟩), .int .i64 0] 150)).heap.size = w1.heap.size + 1 := by simp
  have hX2 : OX 150 w0 w1.heap.size b (newD C) 0 (OAnd (fun _ => none) (w1.heap.size + 1) (.cells #[.string ⟨#[120, 45, 108, 105, 110, 107, 115]⟩, .string ⟨#[120, 45, 115, 108, 111, 116, 115]⟩] 9)) ((w1.alloc (.cells #[.pointer (some ⟨b, 0, none⟩), .int .i64 0] 150)).alloc (.cells #[.string ⟨#[120, 45, 108, 105, 110, 107, 115]⟩, .string ⟨#[120, 45, 115, 108, 111, 116, 115]⟩] 9)) := by
    have := hX.one #[.string ⟨#[120, 45, 108, 105, 110, 107, 115]⟩, .string ⟨#[120, 45, 115, 108, 111, 116, 115]⟩] 9
    rw [hwx] at this
    exact this
  generalize hD0 : newD C = D0 at *
  have hc0 : Calm D0 := by rw [← hD0]; exact calm_new _
  go_wp2_with fail
  generalize ((w1.alloc (.cells #[.pointer (some ⟨b, 0, none⟩), .int .i64 0] 150)).alloc (.cells #[.string ⟨#[120, 45, 108, 105, 110, 107, 115]⟩, .string ⟨#[120, 45, 115, 108, 111, 116, 115]⟩] 9)) = W at *
  have hbs : Blk W (w1.heap.size + 1) #[.string ⟨#[120, 45, 108, 105, 110, 107, 115]⟩, .string ⟨#[120, 45, 115, 108, 111, 116, 115]⟩] 9 := hX2.block (OAnd.at _ _ _)
  have d0 : W.cell? ⟨w1.heap.size + 1, 0, none⟩ = some (.string ⟨#[120, 45, 108, 105, 110, 107, 115]⟩) := hbs.cell 0
  have k1 := fun id => create_calm (D := D0) (n := xlinks) hc0 (by rw [← hD0]; rfl) id
  have cC := hX2.create xlinks (by decide) (by rw [← hD0]; show 0 < 4294967296; omega)
  clear hX hL1 hwx hbs
  refine wp_loop_rounds 3 ?_
  rw [rounds_succ]
  go_wp2_with fail
  refine cC.mono ?_
  rintro e w2 ⟨id1, rfl, h3⟩
  obtain ⟨k1a, k1b⟩ := k1 id1
  rw [k1a] at h3 ⊢
  have hbs : Blk w2 (w1.heap.size + 1) #[.string ⟨#[120, 45, 108, 105, 110, 107, 115]⟩, .string ⟨#[120, 45, 115, 108, 111, 116, 115]⟩] 9 := h3.block (OAnd.at _ _ _)
  have d1 : w2.cell? ⟨w1.heap.size + 1, 1, none⟩ = some (.string ⟨#[120, 45, 115, 108, 111, 116, 115]⟩) := hbs.cell 1
  generalize hD1 : D0.addFile xlinks id1 = D1 at *
  clear k1 k1a cC hbs d0
  have hg : D1.get xslots = none := by rw [k1b.other xslots (by decide), ← hD0]; rfl
  have k2 := fun id => create_calm (D := D1) (n := xslots) k1b.calm hg id
  have hf1 : D1.files.length = 1 := by rw [← hD1, ← hD0]; rfl
  have cC := h3.create xslots (by decide) (by show D1.files.length < _; omega)
  go_wp2_with fail
  rw [rounds_succ]
  go_wp2_with fail
  refine cC.mono ?_
  rintro e w3 ⟨id2, rfl, h4⟩
  obtain ⟨k2a, k2b⟩ := k2 id2
  rw [k2a] at h4 ⊢
  generalize hD2 : D1.addFile xslots id2 = D2 at *
  have hcap : D2.cap = C := by rw [k2b.cap, k1b.cap]; exact hCC
  have hsz : sizes D2.files = 0 := by rw [k2b.size, k1b.size, ← hD0]; rfl
  have hwt : D2.waits.length = 0 := by rw [k2b.waits, k1b.waits, ← hD0]; rfl
  have hlk : D2.get xlinks = some ByteArray.empty := by rw [k2b.other xlinks (by decide)]; exact k1b.get
  clear k2 k2a cC hD1 hf1 hg d1 k1b
  go_wp2_with fail
  rw [rounds_succ]
  obtain ⟨D', e1, hW⟩ := write_calm h4.ok k2b.calm k2b.get (p := 0) (Nat.zero_le _) (zeroB 24) (.inr (by
    rw [hsz, hcap, zeroB_size, ← hCC]; show 0 + 24 + 0 ≤ _ + 0; omega))
  rw [laidB_start] at hW
  have hfin : KeyD C D' [] (List.replicate 8 0) := by
    refine ⟨hW.calm, by rw [hW.cap]; exact hcap, ?_, ?_, List.length_replicate, ?_, ?_, (fun r hr => by cases hr), fun b hb => ?_, (fun i r h => by simp at h)⟩
    · have := hW.size _ k2b.get
      rw [hsz, zeroB_size] at this
      show _ = 24 + 20 * 0
      have h0 : ByteArray.empty.size = 0 := rfl
      omega
    · have := hW.waits; show _ ≤ 1 + 2 * 0; omega
    · rw [hW.other xlinks (by decide)]; exact hlk
    · rw [hW.get, slotB_zero]; rfl
    · rw [List.getElem?_replicate, if_pos hb]; rfl
  have cW := fun w4 (hb : Below w3.heap.size w3 w4) => (h4.below hb).write xslots 0 (zeroB 24) (by rw [zeroB_size]; omega) (by show D2.waits.length < _; omega)
  have e2 : D2.write xslots 0 (zeroB 24) = (0, D') := e1
  clear e1 hW k2b hsz hwt hlk hcap h3 hX2
  go_wp2_with (refine wpList_make_full _ rfl _ _ 53 rfl 0 5 i0 (.int .u8 0) 1 Try.underlying53 hi0 hz0 hz1 .i64 .i64 24 24 24 rfl rfl rfl rfl (by rw [hz2]; omega) (by unfold maxLen; omega) (Nat.zero_le _) ?_; intro w4 hown hgrow)
  have hb3 : Below w3.heap.size w3 w4 := (Below.refl _ w3).grown hgrow (Nat.le_refl _) (fun k hk => by cases hk)
  have hbuf := Buf.made hown
  have hrun := run_fromBytes w4 w3.heap.size 24 (zeros 24) hbuf
  rw [show (zeros 24).length = 24 from by simp [zeros]] at hrun
  have cW' := cW w4 hb3
  rw [show (D2.write xslots 0 (zeroB 24)) = _ from e2] at cW'
  clear hown hgrow hbuf cW
  go_wp2_with fail
  refine cW'.mono ?_
  rintro e w5 ⟨rfl, h5⟩
  clear cW' hrun
  go_wp2_with fail
  go_ret2
  exact ⟨_, D', rfl, h5.less (fun k o h => by cases h), hfin⟩
end Go.Proofs.Ytndpmjanflahhaa

/-
  (*keyx.Index).Add.
-/
namespace Go.Proofs.Ytndpmjanflahhaa
open Go.RowKit Go.MapKept

set_option maxRecDepth 100000 in
theorem KAdd_name (xb : Nat) (t k : ByteArray) (x y : Int) (w : World) (ht : t.size ≤ 9223372036854775807) (hk : k.size ≤ 9223372036854775807) (h : (topicB t && keyB k) = false) :
    Calls Try.prog 66 #[.pointer (some ⟨xb, 0, none⟩), .string t, .string k, .int .i64 x, .int .i64 y] w fun e w' => e = .returned (.int .i64 11) ∧ Below w.heap.size w w' := by
  have hml : maxLen = 9223372036854775807 := by decide
  have cT := Topic_any t w (by omega)
  have cK := fun W => Key_any k W (by omega)
  clear hml
  cases h1 : topicB t
  · rw [h1] at cT
    go_enter Try.func66, Try.ntmps66
    go_wp2_with fail
    refine cT.mono ?_
    rintro e w1 ⟨rfl, hB⟩
    go_wp2_with fail
    go_ret
    exact ⟨rfl, hB⟩
  · rw [h1] at cT
    have h2 : keyB k = false := by rw [h1] at h; simpa using h
    rw [h2] at cK
    clear h h1 h2
    go_enter Try.func66, Try.ntmps66
    go_wp2_with fail
    refine cT.mono ?_
    rintro e w1 ⟨rfl, hB⟩
    go_wp2_with fail
    refine (cK _).mono ?_
    rintro e w2 ⟨rfl, rfl⟩
    go_wp2_with fail
    go_ret
    exact ⟨rfl, hB⟩
set_option maxRecDepth 100000 in
theorem KAdd_num (xb : Nat) (t k : ByteArray) (x y : Int) (w : World) (ht : t.size ≤ 9223372036854775807) (hk : k.size ≤ 9223372036854775807) (h1 : topicB t = true) (h2 : keyB k = true) (hx : -9223372036854775808 ≤ x ∧ x ≤ 9223372036854775807) (hy : -9223372036854775808 ≤ y ∧ y ≤ 9223372036854775807) (hbad : x < 0 ∨ 1099511627776 < x ∨ y < 0 ∨ 1099511627776 < y) :
    Calls Try.prog 66 #[.pointer (some ⟨xb, 0, none⟩), .string t, .string k, .int .i64 x, .int .i64 y] w fun e w' => e = .returned (.int .i64 1) ∧ Below w.heap.size w w' := by
  have hml : maxLen = 9223372036854775807 := by decide
  have cT := Topic_any t w (by omega)
  have cK := fun W => Key_any k W (by omega)
  rw [h1] at cT
  rw [h2] at cK
  obtain ⟨hx1, hx2⟩ := hx
  obtain ⟨hy1, hy2⟩ := hy
  clear hml h1 h2
  by_cases b1 : x < 0
  · clear hbad
    go_enter Try.func66, Try.ntmps66
    go_wp2_with fail
    refine cT.mono ?_
    rintro e w1 ⟨rfl, hB⟩
    go_wp2_with fail
    refine (cK _).mono ?_
    rintro e w2 ⟨rfl, rfl⟩
    go_wp2_with fail
    go_ret
    exact ⟨rfl, hB⟩
  by_cases b2 : 1099511627776 < x
  · clear hbad
    go_enter Try.func66, Try.ntmps66
    go_wp2_with fail
    refine cT.mono ?_
    rintro e w1 ⟨rfl, hB⟩
    go_wp2_with fail
    refine (cK _).mono ?_
    rintro e w2 ⟨rfl, rfl⟩
    go_wp2_with fail
    go_ret
    exact ⟨rfl, hB⟩
  by_cases b3 : y < 0
  · clear hbad
    go_enter Try.func66, Try.ntmps66
    go_wp2_with fail
    refine cT.mono ?_
    rintro e w1 ⟨rfl, hB⟩
    go_wp2_with fail
    refine (cK _).mono ?_
    rintro e w2 ⟨rfl, rfl⟩
    go_wp2_with fail
    go_ret
    exact ⟨rfl, hB⟩
  · have b4 : 1099511627776 < y := by omega
    clear hbad
    go_enter Try.func66, Try.ntmps66
    go_wp2_with fail
    refine cT.mono ?_
    rintro e w1 ⟨rfl, hB⟩
    go_wp2_with fail
    refine (cK _).mono ?_
    rintro e w2 ⟨rfl, rfl⟩
    go_wp2_with fail
    go_ret
    exact ⟨rfl, hB⟩
end Go.Proofs.Ytndpmjanflahhaa

/-
  (*keyx.Index).Add, where the record is added.
-/
namespace Go.Proofs.Ytndpmjanflahhaa
open Go.RowKit Go.MapKept

/-- The files, when a record was added. -/
theorem KeyD.add {C : Nat} {D D1 D2 : DiskA} {rs : List KRec} {v : List Nat} (h : KeyD C D rs v) (hl : rs.length < 16777215) {r : KRec} (hr : r.Small) (ha : r.ahead = lastTo rs (r.hash % 8) rs.length) (h1 : Wrote D xlinks (linksB (rs ++ [r])) D1) (h2 : Wrote D1 xslots (slotB 3 (v.set (r.hash % 8) (rs.length + 1))) D2) :
    KeyD C D2 (rs ++ [r]) (v.set (r.hash % 8) (rs.length + 1)) := by
  have hb8 : r.hash % 8 < 8 := Nat.mod_lt _ (by omega)
  have hne1 : xlinks ≠ xslots := by decide
  refine ⟨h2.calm, by rw [h2.cap, h1.cap]; exact h.cap, ?_, ?_, by rw [List.length_set]; exact h.len, by rw [h2.other _ hne1]; exact h1.get, h2.get, ?_, ?_, ?_⟩
  · have e1 := h1.size _ h.links
    have e2 := h2.size _ (by rw [h1.other _ (fun h => hne1 h.symm)]; exact h.slots)
    rw [linksB_size, linksB_size, h.size] at e1
    rw [slotB_size, slotB_size, List.length_set] at e2
    simp only [List.length_append, List.length_cons, List.length_nil] at e1 ⊢
    omega
  · have e1 := h1.waits
    have e2 := h2.waits
    have e3 := h.waits
    simp only [List.length_append, List.length_cons, List.length_nil]
    omega
  · intro q hq
    rcases List.mem_append.1 hq with hq | hq
    · exact h.small q hq
    · simp at hq; subst hq; exact hr
  · intro b hb
    rw [List.length_append, List.length_cons, List.length_nil, lastTo_snoc]
    by_cases hbe : r.hash % 8 = b
    · subst hbe
      rw [if_pos rfl, List.getElem?_set_self (by rw [h.len]; exact hb)]
    · rw [if_neg hbe, List.getElem?_set_ne hbe]
      exact h.last b hb
  · intro i q hi
    by_cases hil : i < rs.length
    · rw [List.getElem?_append_left hil] at hi
      rw [lastTo_append (by omega)]
      exact h.ahead i q hi
    · have : i = rs.length := by
        have := (List.getElem?_eq_some_iff.1 hi).1
        simp at this; omega
      subst this
      simp at hi
      subst hi
      rw [lastTo_append (Nat.le_refl _)]
      exact ha

def KAddPost (C : Nat) (w0 : World) (xb b : Nat) (O : Nat → Option Obj) (rs : List KRec) (v : List Nat) (r : KRec) (e : Ending) (w' : World) : Prop :=
  ∃ D' , e = .returned (.int .i64 0) ∧ OX 150 w0 xb b D' ((rs ++ [r]).length : Nat) O w' ∧ KeyD C D' (rs ++ [r]) (v.set (r.hash % 8) (rs.length + 1))
set_option maxRecDepth 100000 in
set_option maxHeartbeats 400000 in
theorem KAdd_ok {w0 w : World} {xb b C : Nat} {D : DiskA} {O : Nat → Option Obj} {rs : List KRec} {v : List Nat} (hl : OX 150 w0 xb b D (rs.length : Nat) O w) (hD : KeyD C D rs v) (hr : rs.length < 10000000) (hC : 24 + 20 * (rs.length + 1) ≤ C) (t k : ByteArray) (x y : Nat) (ht : t.size ≤ 9223372036854775807) (hk : k.size ≤ 9223372036854775807) (h1 : topicB t = true) (h2 : keyB k = true) (hx : x ≤ 1099511627776) (hy : y ≤ 1099511627776) :
    Calls Try.prog 66 #[.pointer (some ⟨xb, 0, none⟩), .string t, .string k, .int .i64 x, .int .i64 y] w (KAddPost C w0 xb b O rs v ⟨hashL [t, ⟨#[35]⟩, k], x, y, lastTo rs (hashL [t, ⟨#[35]⟩, k] % 8) rs.length⟩) := by
  have hml : maxLen = 9223372036854775807 := by decide
  have cT := Topic_any t w (by omega)
  have cK := fun W => Key_any k W (by omega)
  have cN := fun W => number_any t k W ht hk
  rw [h1] at cT
  rw [h2] at cK
  have hlt := hashL_lt [t, ⟨#[35]⟩, k]
  generalize hashL [t, ⟨#[35]⟩, k] = h at *
  have hb8 : h % 8 < 8 := Nat.mod_lt _ (by omega)
  have hle := lastTo_le rs (h % 8) rs.length
  obtain ⟨a, hae⟩ : ∃ a, lastTo rs (h % 8) rs.length = a := ⟨_, rfl⟩
  have cLs := fun W (hB : Below w.heap.size w W) => KLast_any (hl.below hB) hD (by omega) (h % 8) hb8
  rw [hae] at cLs hle ⊢
  rw [show ((h % 8 : Nat) : Int) = (h : Int) % 8 by omega] at cLs
  have cP := fun W => LPut_any h x y a W (by omega) (by omega) (by omega) (by omega)
  have hz20 : (recB [(5, h), (6, x), (6, y), (3, a)]).size = 20 := (Link_back h x y a (by omega) (by omega) (by omega) (by omega)).2.2.2.2
  obtain ⟨D1, e1, hW1⟩ := write_calm hl.ok hD.calm hD.links (p := 20 * rs.length) (by rw [linksB_size]; exact Nat.le_refl _) (recB [(5, h), (6, x), (6, y), (3, a)]) (.inr (by
    rw [hz20, hD.size, hD.cap, linksB_size]; omega))
  have hadd := linksB_add rs ⟨h, x, y, a⟩
  dsimp only at hadd
  rw [hadd] at hW1
  have cW1 := fun W (hB : Below w.heap.size w W) => (hl.below hB).write xlinks (20 * rs.length : Nat) (recB [(5, h), (6, x), (6, y), (3, a)]) (by omega) (by have := hD.waits; omega)
  rw [e1] at cW1
  have hcast : ((20 * rs.length : Nat) : Int) = (rs.length : Int) * 20 := by omega
  rw [hcast] at cW1
  have hslot1 : D1.get xslots = some (slotB 3 v) := by rw [hW1.other _ (by decide)]; exact hD.slots
  have hsz : (slotB 3 v).size = 24 := by rw [slotB_size, hD.len]
  have hsl := slotB_set 3 v (h % 8) (by rw [hD.len]; exact hb8) (rs.length + 1)
  have hw1 := hW1.waits
  have hfin : ∀ D2, Wrote D1 xslots (slotB 3 (v.set (h % 8) (rs.length + 1))) D2 → KeyD C D2 (rs ++ [⟨h, x, y, a⟩]) (v.set (h % 8) (rs.length + 1)) := fun D2 hW2 => hD.add (by omega) ⟨hlt, hx, hy⟩ hae.symm hW1 hW2
  have cal1 := hW1.calm
  have hlen : ((rs ++ [(⟨h, x, y, a⟩ : KRec)]).length : Nat) = rs.length + 1 := by simp
  have hdw := hD.waits
  generalize recB [(5, h), (6, x), (6, y), (3, a)] = z at *
  generalize hm : rs.length = m at *
  have hm' := Lib.hid hm
  have hfin' := Lib.hid hfin
  have hlen' := Lib.hid hlen
  have c0 : w.cell? ⟨xb, 0, none⟩ = some (.pointer (some ⟨b, 0, none⟩)) := hl.head.cell 0
  have c1 : w.cell? ⟨xb, 1, none⟩ = some (.int .i64 m) := hl.head.cell 1
  have hxl := hl.head.lt
  have hslot1' := Lib.hid hslot1
  have hsz' := Lib.hid hsz
  have hsl' := Lib.hid hsl
  have hCm := Lib.hid hC
  clear hslot1 hsz hsl hC
  clear hml h1 h2 hz20 hadd e1 hcast hW1 hD hae hm hfin hlen
  go_enter Try.func66, Try.ntmps66
  go_wp2_with fail
  refine cT.mono ?_
  rintro e w1 ⟨rfl, hB1⟩
  go_wp2_with fail
  refine (cK _).mono ?_
  rintro e w2 ⟨rfl, rfl⟩
  clear cT cK
  go_wp2_with fail
  refine (cN _).mono ?_
  rintro e w2 ⟨rfl, hB2⟩
  have hB2' := hB1.trans (hB2.mono hB1.size)
  clear cN hB1 hB2
  go_wp2_with fail
  refine (cLs _ hB2').mono ?_
  rintro e w3 ⟨rfl, hB3⟩
  have hB3' := hB2'.trans (hB3.mono hB2'.size)
  clear cLs hB2' hB3
  go_wp2_with fail
  refine (cP _).mono ?_
  rintro e w4 ⟨rfl, hB4⟩
  have hB4' := hB3'.trans (hB4.mono hB3'.size)
  clear cP hB3' hB4
  have c0' : w4.cell? ⟨xb, 0, none⟩ = some (.pointer (some ⟨b, 0, none⟩)) := (hB4'.cell (p := ⟨xb, 0, none⟩) hxl).trans c0
  have c1' : w4.cell? ⟨xb, 1, none⟩ = some (.int .i64 m) := (hB4'.cell (p := ⟨xb, 1, none⟩) hxl).trans c1
  have cW := cW1 _ hB4'.drew
  clear c0 c1 cW1
  go_wp2_with fail
  have ew : IntKind.i64.wrap ((m : Int) * 20) = (m : Int) * 20 := Go.IntWalk.i64_in _ (by omega)
  have hr' := Lib.hid hr
  have hlt' := Lib.hid hlt
  have hle' := Lib.hid hle
  have hdw' := Lib.hid hdw
  have hw1' := Lib.hid hw1
  clear hl hr hlt hle hdw hw1 hx hy hk ht
  refine wp_region_held_drew (S := fun W => W.cell? ⟨xb, 0, none⟩ = some (.pointer (some ⟨b, 0, none⟩)) ∧ W.cell? ⟨xb, 1, none⟩ = some (.int .i64 m)) (by kernel_rfl) ⟨c0', c1'⟩ (fun hHeld => ?_)
  refine wpAnyH_take (i := 0) (v := ?_) (oi := ⟨some 71, _, _, _, _, _⟩) rfl (by kernel_rfl) (by kernel_rfl) (by kernel_rfl) (fun _ _ _ h => h) (Or.inl ⟨rfl, ?_⟩) (by assumption) ?_
  rotate_left
  · (intro W hW; (try dsimp only at hW); go_simp; try with_reducible rfl)
  try simp only [Act.put, List.setIfInBounds_toArray, List.set_cons_zero, List.set_cons_succ]
  refine wpAnyH_take (i := 1) (v := ?_) (oi := ⟨some 72, _, _, _, _, _⟩) rfl (by kernel_rfl) (by kernel_rfl) (by kernel_rfl) (fun _ _ _ h => h) (Or.inl ⟨rfl, ?_⟩) (by assumption) ?_
  rotate_left
  · (intro W hW; (try dsimp only at hW); go_simp; try with_reducible rfl)
  try simp only [Act.put, List.setIfInBounds_toArray, List.set_cons_zero, List.set_cons_succ]
  refine wpAnyH_take (i := 2) (v := ?_) (oi := ⟨some 73, _, _, _, _, _⟩) rfl (by kernel_rfl) (by kernel_rfl) (by kernel_rfl) (fun _ _ _ h => h) (Or.inl ⟨rfl, ?_⟩) (by assumption) ?_
  rotate_left
  · (intro W hW; (try dsimp only at hW); go_simp; try with_reducible rfl)
  try simp only [Act.put, List.setIfInBounds_toArray, List.set_cons_zero, List.set_cons_succ]
  refine wpAnyH_take (i := 3) (v := ?_) (oi := ⟨some 74, _, _, _, _, _⟩) rfl (by kernel_rfl) (by kernel_rfl) (by kernel_rfl) (fun _ _ _ h => h) (Or.inl ⟨rfl, ?_⟩) (by assumption) ?_
  rotate_left
  · (intro W hW; (try dsimp only at hW); go_simp; try with_reducible rfl)
  try simp only [Act.put, List.setIfInBounds_toArray, List.set_cons_zero, List.set_cons_succ]
  refine wpAnyH_take (i := 4) (v := ?_) (oi := ⟨some 75, _, _, _, _, _⟩) rfl (by kernel_rfl) (by kernel_rfl) (by kernel_rfl) (fun _ _ _ h => h) (Or.inl ⟨rfl, ?_⟩) (by assumption) ?_
  rotate_left
  · (intro W hW; (try dsimp only at hW); go_simp; try with_reducible rfl)
  try simp only [Act.put, List.setIfInBounds_toArray, List.set_cons_zero, List.set_cons_succ]
  refine wpAnyH_take (i := 5) (v := ?_) (oi := ⟨some 76, _, _, _, _, _⟩) rfl (by kernel_rfl) (by kernel_rfl) (by kernel_rfl) (fun _ _ _ h => h) (Or.inl ⟨rfl, ?_⟩) (by assumption) ?_
  rotate_left
  · (intro W hW; (try dsimp only at hW); go_simp; try with_reducible rfl)
  try simp only [Act.put, List.setIfInBounds_toArray, List.set_cons_zero, List.set_cons_succ]
  refine wpAnyH_take (i := 6) (v := ?_) (oi := ⟨some 77, _, _, _, _, _⟩) rfl (by kernel_rfl) (by kernel_rfl) (by kernel_rfl) (fun _ _ _ h => h) (Or.inl ⟨rfl, ?_⟩) (by assumption) ?_
  rotate_left
  · (intro W hW; (try dsimp only at hW); go_simp; try with_reducible rfl)
  try simp only [Act.put, List.setIfInBounds_toArray, List.set_cons_zero, List.set_cons_succ]
  refine wpAnyH_take (i := 7) (v := ?_) (oi := ⟨some 78, _, _, _, _, _⟩) rfl (by kernel_rfl) (by kernel_rfl) (by kernel_rfl) (fun _ _ _ h => h) (Or.inl ⟨rfl, ?_⟩) (by assumption) ?_
  rotate_left
  · (intro W hW; (try dsimp only at hW); go_simp; try with_reducible rfl)
  try simp only [Act.put, List.setIfInBounds_toArray, List.set_cons_zero, List.set_cons_succ]
  refine wpAnyH_take (i := 8) (v := ?_) (oi := ⟨some 79, _, _, _, _, _⟩) rfl (by kernel_rfl) (by kernel_rfl) (by kernel_rfl) (fun _ _ _ h => h) (Or.inl ⟨rfl, ?_⟩) (by assumption) ?_
  rotate_left
  · (intro W hW; (try dsimp only at hW); go_simp; try with_reducible rfl)
  try simp only [Act.put, List.setIfInBounds_toArray, List.set_cons_zero, List.set_cons_succ]
  refine wpAnyH_take (i := 9) (v := ?_) (oi := ⟨some 80, _, _, _, _, _⟩) rfl (by kernel_rfl) (by kernel_rfl) (by kernel_rfl) (fun _ _ _ h => h) (Or.inl ⟨rfl, ?_⟩) (by assumption) ?_
  rotate_left
  · (intro W hW; (try dsimp only at hW); go_simp; try with_reducible rfl)
  try simp only [Act.put, List.setIfInBounds_toArray, List.set_cons_zero, List.set_cons_succ]
  refine wpAnyH_ready (rs := [10]) (by kernel_rfl) (by simp) ?_
  refine AllReadyH.cons (o := ⟨some 81, _, _, _, _, _⟩) rfl (fun K hK => ?_) AllReadyH.nil
  have hKh := Lib.hid hK
  clear hK
  go_simp
  go_at_call 42
  refine cW.mono ?_
  rintro e w5 ⟨rfl, hX5⟩
  have cf0 : w5.cell? ⟨xb, 0, none⟩ = some (.pointer (some ⟨b, 0, none⟩)) := hX5.head.cell 0
  have cf1 : w5.cell? ⟨xb, 1, none⟩ = some (.int .i64 m) := hX5.head.cell 1
  refine hKh.out _ _ ⟨cf0, cf1⟩ (fun hHeld1 => ?_)
  clear hKh K hHeld cW c0' c1'
  try simp only [Act.put, List.setIfInBounds_toArray, List.set_cons_zero, List.set_cons_succ]
  refine wpAnyH_take (i := 11) (v := ?_) (oi := ⟨some 17, _, _, _, _, _⟩) rfl (by kernel_rfl) (by kernel_rfl) (by kernel_rfl) (fun _ _ _ h => h) (Or.inl ⟨rfl, ?_⟩) (by assumption) ?_
  rotate_left
  · (intro W hW; (try dsimp only at hW); go_simp; try with_reducible rfl)
  try simp only [Act.put, List.setIfInBounds_toArray, List.set_cons_zero, List.set_cons_succ]
  refine wpAnyH_done (by kernel_rfl) ?_ _
  clear hHeld1 ew
  have cN := fun W (g' : Nat) (hc : W.cell? ⟨g', 0, none⟩ = some (.int .i64 ((m : Int) + 1))) => Num_ok 3 (by omega) (by omega) (some ⟨g', 0, none⟩) 1 [(m : Int) + 1] W (by simp) (by
    intro y hy; simp at hy; subst hy
    have := hr'.out
    exact ⟨by omega, by show (m : Int) + 1 < ((256 ^ 3 : Nat) : Int); simp only [Nat.reducePow]; omega⟩) (by
    intro i y hi
    cases i with
    | zero => simp at hi; subst hi; exact ⟨_, _, rfl, by simpa using hc⟩
    | succ i => simp at hi)
  have hnum : (⟨(numsL 3 [(m : Int) + 1]).toArray⟩ : ByteArray) = beB 3 (m + 1) := by
    have : ((m : Int) + 1).toNat = m + 1 := by omega
    simp [numsL, beB, this]
  rw [hnum] at cN
  have hz3 : (beB 3 (m + 1)).size = 3 := beB_size _ _
  obtain ⟨D2, e2, hW2⟩ := write_calm hX5.ok cal1 hslot1'.out (p := 3 * (h % 8)) (by rw [hsz'.out]; omega) (beB 3 (m + 1)) (.inl (by rw [hz3, hsz'.out]; omega))
  rw [hsl'.out] at hW2
  have hKD := hfin'.out D2 hW2
  have cW2 := fun W (hB : Below w5.heap.size w5 W) => (hX5.below hB).write xslots (3 * (h % 8) : Nat) (beB 3 (m + 1)) (by omega) (by
    have h1 := hw1'.out
    have h2 := hdw'.out
    have h3 := hr'.out
    omega)
  rw [show (D1.write xslots ((3 * (h % 8) : Nat) : Int) (beB 3 (m + 1))) = _ from e2, show ((3 * (h % 8) : Nat) : Int) = 3 * ((h : Int) % 8) by omega] at cW2
  have hxl5 := hX5.head.lt
  have hKD' := Lib.hid hKD
  have hr5 := hr'.out
  generalize beB 3 (m + 1) = z3 at *
  clear hz3 hnum e2 hW2 hKD
  go_wp2_with fail
  refine (cN _ _ ?_).mono ?_
  · simp
  rintro e w6 ⟨rfl, hB6⟩
  have hB7 : Below w5.heap.size w5 w6 := ((Below.refl _ w5).alloc (Nat.le_refl _) (.cells #[.int .i64 ((m : Int) + 1)] 3)).trans (hB6.mono (by simp))
  have d0 : w6.cell? ⟨xb, 0, none⟩ = some (.pointer (some ⟨b, 0, none⟩)) := (hB7.cell (p := ⟨xb, 0, none⟩) hxl5).trans cf0
  have cW3 := cW2 _ hB7
  clear cN cW2 cf0 cf1
  go_wp2_with fail
  refine cW3.mono ?_
  rintro e w7 ⟨rfl, hX7⟩
  have g1 : w7.cell? ⟨xb, 1, none⟩ = some (.int .i64 m) := hX7.head.cell 1
  have g2 := hX7.head.frozen 1
  have hX8 := hX7.count ((m : Int) + 1)
  clear cW3 d0 hX5 hB6 hB7
  go_wp2_with fail
  go_ret
  exact ⟨D2, rfl, by rw [hlen'.out]; exact hX8, by rw [hm'.out]; exact hKD'.out⟩
end Go.Proofs.Ytndpmjanflahhaa

/-
  (*keyx.Index).along.
-/
namespace Go.Proofs.Ytndpmjanflahhaa
open Go.RowKit Go.MapKept

def AlongPost (S : Nat → World → Prop) (Q : World → Prop) (rs : List KRec) (s : Nat) (e : Ending) (w' : World) : Prop :=
  e = .returned (.int .i64 0) ∧ ((∃ m, lastTo rs s m = 0 ∧ S m w') ∨ Q w')
/-- What is done at one entry of the chain. -/
def StepAt (fid : FuncId) (caps : Array Value) (S : Nat → World → Prop) (Q : World → Prop) (Free : World → Nat → Prop) (rs : List KRec) (s : Nat) : Prop :=
  ∀ m W n r, m ≤ rs.length → S m W → lastTo rs s m = n → 0 < n → rs[n - 1]? = some r →
    Calls Try.prog fid (#[.int .i64 n, .agg #[.int .i64 r.hash, .int .i64 r.at_, .int .i64 r.born, .int .i64 r.ahead]] ++ caps) W fun e W' => ∃ ok, e = .returned (.bool ok) ∧ (ok = true → S (n - 1) W') ∧ (ok = false → Q W') ∧ ∀ X o, Free W X → W.heap[X]? = some o → W'.heap[X]? = some o

set_option maxRecDepth 100000 in
set_option maxHeartbeats 1000000 in
theorem KAlong_any {w0 w : World} {xb b C : Nat} {D : DiskA} {n : Int} {O : Nat → Option Obj} {rs : List KRec} {v : List Nat} (hD : KeyD C D rs v) (hr : rs.length < 10000000) (s : Nat) (hs : s < 8)
    (fid : FuncId) (caps : Array Value) (S : Nat → World → Prop) (Q : World → Prop) (Free : World → Nat → Prop) (hent : ∀ args W, (callFunc fid args).run Try.prog W = .ok (.enter fid args) W)
    (hSX : ∀ m W, S m W → OX 150 w0 xb b D n O W) (hSS : ∀ m W W', S m W → Below W.heap.size W W' → S m W') (hFr : ∀ m W W' X, S m W → Below W.heap.size W W' → W.heap.size ≤ X → Free W' X) (hstep : StepAt fid caps S Q Free rs s) (h0 : S rs.length w) :
    Calls Try.prog 109 #[.pointer (some ⟨xb, 0, none⟩), .int .i64 s, .func (.func fid) #[] caps] w (AlongPost S Q rs s) := by
  have cL := KLast_any (hSX _ _ h0) hD (by omega) s hs
  have hstep' := Lib.hid hstep
  have cK := fun W (hl : OX 150 w0 xb b D n O W) (k : Nat) (r : KRec) (h0 : 0 < k) (hk : rs[k - 1]? = some r) => KLink_any hl hD (by omega) k h0 hk
  have hah := Lib.hid hD.ahead
  have hSX' := Lib.hid hSX
  have hSS' := Lib.hid hSS
  have hFr' := Lib.hid hFr
  have cK' := Lib.hid cK
  clear hstep hD cK hSX hSS hFr
  go_enter Try.func109, Try.ntmps109
  go_wp2_with fail
  refine cL.mono ?_
  rintro e w1 ⟨rfl, hB1⟩
  have hS1 := hSS'.out _ _ _ h0 hB1
  clear cL h0 hB1
  go_wp2_with fail
  go_loopw [7, 8] (fun vn ve wr => ∃ m : Nat, m ≤ rs.length ∧ vn = .int .i64 (lastTo rs s m) ∧ ve = .int .i64 0 ∧ S m wr) (fun vn _ _ => (intOf vn).toNat)
  case atStart => exact ⟨rs.length, Nat.le_refl _, rfl, rfl, hS1⟩
  case round =>
    obtain ⟨m, hm, rfl, rfl, hS⟩ := hrel
    obtain ⟨k, hk⟩ : ∃ k, lastTo rs s m = k := ⟨_, rfl⟩
    have hkH := Lib.hid hk
    have hle := lastTo_le rs s m
    rw [hk] at hle ⊢
    by_cases hk0 : k = 0
    · subst hk0
      clear hk
      go_wp2_with fail
      go_ret
      exact ⟨rfl, .inl ⟨m, hkH.out, hS⟩⟩
    · obtain ⟨r, hrk, hrb⟩ := lastTo_pos hk (by omega)
      have hSa := hSS'.out _ _ _ hS ((Below.refl _ wr).alloc (Nat.le_refl _) (.cells #[.int .i64 0, .int .i64 0, .int .i64 0, .int .i64 0] 152))
      have hkpos : (0 : Int) < (k : Int) := by omega
      have cLk := cK'.out (wr.alloc (.cells #[.int .i64 0, .int .i64 0, .int .i64 0, .int .i64 0] 152)) (hSX'.out _ _ hSa) k r (by omega) hrk
      have hahr := Lib.hid (hah.out _ _ hrk)
      have cF := hstep'.out
      unfold StepAt at cF
      have cF' := fun W (hSW : S m W) => cF m W k r hm hSW hkH.out (by omega) hrk
      have cFH := Lib.hid cF'
      clear hk cF cF' hrk
      obtain ⟨rh, ra, rb, rd⟩ := r
      dsimp only at cLk cFH hahr hrb
      go_wp2_with fail
      refine cLk.mono ?_
      rintro e w2 ⟨rfl, hB2⟩
      have hBr : Below wr.heap.size wr w2 := ((Below.refl _ wr).alloc (Nat.le_refl _) _).trans (hB2.mono (by simp))
      have hbb : Blk w2 wr.heap.size #[.int .i64 0, .int .i64 0, .int .i64 0, .int .i64 0] 152 := (Blk.new _ _ _).at (hB2.block _ (by simp))
      have e0 : w2.cell? ⟨wr.heap.size, 0, none⟩ = some (.int .i64 0) := hbb.cell 0
      have e1 : w2.cell? ⟨wr.heap.size, 1, none⟩ = some (.int .i64 0) := hbb.cell 1
      have e2 : w2.cell? ⟨wr.heap.size, 2, none⟩ = some (.int .i64 0) := hbb.cell 2
      have e3 : w2.cell? ⟨wr.heap.size, 3, none⟩ = some (.int .i64 0) := hbb.cell 3
      have f0 := hbb.frozen 0
      have f1 := hbb.frozen 1
      have f2 := hbb.frozen 2
      have f3 := hbb.frozen 3
      have hb3 : Blk ((((w2.setCell ⟨wr.heap.size, 0, none⟩ (.int .i64 rh)).setCell ⟨wr.heap.size, 1, none⟩ (.int .i64 ra)).setCell ⟨wr.heap.size, 2, none⟩ (.int .i64 rb)).setCell ⟨wr.heap.size, 3, none⟩ (.int .i64 rd)) wr.heap.size #[.int .i64 rh, .int .i64 ra, .int .i64 rb, .int .i64 rd] 152 := (((hbb.set 0 _).set 1 _).set 2 _).set 3 _
      have hBs : Below wr.heap.size wr ((((w2.setCell ⟨wr.heap.size, 0, none⟩ (.int .i64 rh)).setCell ⟨wr.heap.size, 1, none⟩ (.int .i64 ra)).setCell ⟨wr.heap.size, 2, none⟩ (.int .i64 rb)).setCell ⟨wr.heap.size, 3, none⟩ (.int .i64 rd)) := (((hBr.setCell (p := ⟨wr.heap.size, 0, none⟩) (Nat.le_refl _) _).setCell (p := ⟨wr.heap.size, 1, none⟩) (Nat.le_refl _) _).setCell (p := ⟨wr.heap.size, 2, none⟩) (Nat.le_refl _) _).setCell (p := ⟨wr.heap.size, 3, none⟩) (Nat.le_refl _) _
      obtain ⟨W3, hW3⟩ : ∃ W, W = ((((w2.setCell ⟨wr.heap.size, 0, none⟩ (.int .i64 rh)).setCell ⟨wr.heap.size, 1, none⟩ (.int .i64 ra)).setCell ⟨wr.heap.size, 2, none⟩ (.int .i64 rb)).setCell ⟨wr.heap.size, 3, none⟩ (.int .i64 rd)) := ⟨_, rfl⟩
      have hW3H := Lib.hid hW3
      rw [← hW3] at hb3 hBs
      have hS3 := hSS'.out _ _ _ hS hBs
      have hfree := hFr'.out _ _ _ wr.heap.size hS hBs (Nat.le_refl _)
      have cC := cFH.out W3 hS3
      clear hW3 hbb hBr hSa hB2 cLk
      have g0 : W3.cell? ⟨wr.heap.size, 0, none⟩ = some (.int .i64 rh) := hb3.cell 0
      have g1 : W3.cell? ⟨wr.heap.size, 1, none⟩ = some (.int .i64 ra) := hb3.cell 1
      have g2 : W3.cell? ⟨wr.heap.size, 2, none⟩ = some (.int .i64 rb) := hb3.cell 2
      have g3 : W3.cell? ⟨wr.heap.size, 3, none⟩ = some (.int .i64 rd) := hb3.cell 3
      go_wp2_with fail
      rw [← hW3H.out]
      refine cC.mono ?_
      rintro e W4 ⟨ok, rfl, hT, hF, hKeep⟩
      have hb4 : Blk W4 wr.heap.size #[.int .i64 rh, .int .i64 ra, .int .i64 rb, .int .i64 rd] 152 := hKeep _ _ hfree hb3
      have q3 : W4.cell? ⟨wr.heap.size, 3, none⟩ = some (.int .i64 rd) := hb4.cell 3
      have hTH := Lib.hid hT
      have hFH := Lib.hid hF
      clear cC hKeep hT hF g0 g1 g2 g3 e0 e1 e2 e3 f0 f1 f2 f3
      cases ok
      case false =>
        go_wp2_with fail
        go_ret
        exact ⟨rfl, .inr (hFH.out trivial)⟩
      case true =>
        have hrd : rd = lastTo rs s (k - 1) := by
          have := hahr.out
          rw [hrb] at this
          exact this
        have hrdl := lastTo_le rs s (k - 1)
        rw [← hrd] at hrdl
        have hrdH := Lib.hid hrd
        clear hrd
        go_wp2_with fail
        go_roundw
        case rel => exact ⟨k - 1, by omega, by rw [← hrdH.out], rfl, hTH.out trivial⟩
        case measure => simp [intOf]; omega
end Go.Proofs.Ytndpmjanflahhaa

/-
  The index's chains: what is done at one entry.
-/
namespace Go.Proofs.Ytndpmjanflahhaa
open Go.RowKit Go.MapKept

/-- A variable that holds a row of one's own. -/
structure OutV (W : World) (ob : Nat) (v : Value) (acc : List Int) : Prop where
  cell : Blk W ob #[v] 67
  row : W.ownsRow (ob + 1) 3 1 v acc.length (acc.map (Value.int .i64))
theorem OutV.below {W W' : World} {ob : Nat} {v : Value} {acc : List Int} (h : OutV W ob v acc) (hB : Below W.heap.size W W') : OutV W' ob v acc :=
  ⟨h.cell.at (hB.block _ h.cell.lt), owns_kept_base h.row (fun g hg => hB.block g (World.ownsRow.lt h.row g hg).2)⟩
theorem OutV.slice {W : World} {ob : Nat} {v : Value} {acc : List Int} (h : OutV W ob v acc) : ∃ a n c, v = .slice a n c ∧ n = acc.length := by
  rcases h.row.2 with ⟨hv, hn⟩ | ⟨g, cap, cur, hv, _⟩
  · exact ⟨none, 0, 0, hv, hn.symm⟩
  · exact ⟨_, _, _, hv, rfl⟩

def PushPost (ob : Nat) (v : Value) (acc : List Int) (x : Int) (W : World) (e : Ending) (W' : World) : Prop :=
  e = .returned (.bool true) ∧ ∃ v', OutV W' ob v' (acc ++ [x]) ∧ (∀ X o, X ≠ ob → v.ownBlock ≠ some X → W.heap[X]? = some o → W'.heap[X]? = some o) ∧ Below ob W W'

set_option maxRecDepth 100000 in
set_option maxHeartbeats 1000000 in
theorem chain1_any (ob : Nat) (n : Int) (a0 a1 a2 a3 : Int) (acc : List Int) (v : Value) (W : World) (h : OutV W ob v acc) (hl : acc.length < 10000000) :
    Calls Try.prog 111 #[.int .i64 n, .agg #[.int .i64 a0, .int .i64 a1, .int .i64 a2, .int .i64 a3], .pointer (some ⟨ob, 0, none⟩)] W (PushPost ob v acc n W) := by
  obtain ⟨i0, hi, hz0, hz1, hz2⟩ := info_parts info_int
  have c0 : W.cell? ⟨ob, 0, none⟩ = some v := h.cell.cell 0
  have hol := h.cell.lt
  obtain ⟨a, k, c, rfl, hk⟩ := h.slice
  have hrow := h.row
  have hcell := Lib.hid h.cell
  rw [← hk] at hrow hl
  have hkH := Lib.hid hk
  clear hk h
  go_enter Try.func111, Try.ntmps111
  go_wp2_with (at_builtin; refine wpList_append_own _ rfl _ _ 67 rfl (ob + 1) 3 i0 (.int .i64 0) 1 8 Try.underlying67 hi hz0 hz1 hz2 rfl (by decide) _ _ _ rfl ((hrow.alloc _).alloc _) ⟨W.heap.size + 1, 0, none⟩ 1 1 [.int .i64 n] rfl rfl ?c1 ?c2 ?c3 ?c4 ?c5 ?_)
  case c1 =>
    intro j u hj
    match j, hj with
    | 0, hj => simp at hj; subst hj; simp [Addr.add]
  case c2 => intro u hu; simp at hu; subst hu; rfl
  case c3 => unfold maxLen; omega
  case c4 => omega
  case c5 => simp; omega
  intro v' w2 hown' hgrow _
  have hold : ∀ X o, (Value.slice a k c).ownBlock ≠ some X → W.heap[X]? = some o → w2.heap[X]? = some o := fun X o hne ho => by
    have hX := (Array.getElem?_eq_some_iff.1 ho).1
    rw [hgrow.block X (by simp; omega) (fun e => hne e.symm)]
    exact ((((Below.refl _ W).alloc (Nat.le_refl _) _).alloc (by simp) _).block X hX).trans ho
  have hobn : (Value.slice a k c).ownBlock ≠ some ob := fun e => by have := (World.ownsRow.lt hrow ob e).1; omega
  have hb2 : Blk w2 ob #[.slice a k c] 67 := hold ob _ hobn hcell.out
  have hBe : Below ob W w2 := (((Below.refl ob W).alloc (by omega) _).alloc (by simp; omega) _).grown hgrow (by simp; omega) (fun X e => by have := (World.ownsRow.lt hrow X e).1; omega)
  have d0 : w2.cell? ⟨ob, 0, none⟩ = some (.slice a k c) := hb2.cell 0
  have f0 := hb2.frozen 0
  obtain ⟨a', n', c', rfl⟩ : ∃ a' n' c', v' = .slice a' n' c' := by
    rcases hown'.2 with ⟨hv, hn⟩ | ⟨g, cap, cur, hv, _⟩
    · exact ⟨_, _, _, hv⟩
    · exact ⟨_, _, _, hv⟩
  have hnb' : (Value.slice a' n' c').ownBlock ≠ some ob := fun e => by have := (World.ownsRow.lt hown' ob e).1; omega
  have hfin : OutV (w2.setCell ⟨ob, 0, none⟩ (.slice a' n' c')) ob (.slice a' n' c') (acc ++ [n]) := by
    refine ⟨hb2.set 0 _, ?_⟩
    rw [List.map_append, List.length_append, ← hkH.out]
    exact owns_kept_base hown' (fun g hg => setCell_heap _ _ _ _ (fun e => hnb' (by have e' : g = ob := e; rw [← e']; exact hg)))
  have hoth : ∀ X o, X ≠ ob → (Value.slice a k c).ownBlock ≠ some X → W.heap[X]? = some o → (w2.setCell ⟨ob, 0, none⟩ (.slice a' n' c')).heap[X]? = some o := fun X o hX hne ho => (setCell_heap _ _ _ _ hX).trans (hold X o hne ho)
  have hBf : Below ob W (w2.setCell ⟨ob, 0, none⟩ (.slice a' n' c')) := hBe.setCell (p := ⟨ob, 0, none⟩) (Nat.le_refl _) _
  clear hold hgrow hown' hb2 hrow
  go_wp2_with fail
  go_ret
  exact ⟨rfl, _, hfin, hoth, hBf⟩
end Go.Proofs.Ytndpmjanflahhaa

/-
  The index's Find: what is done at one entry.
-/
namespace Go.Proofs.Ytndpmjanflahhaa
open Go.RowKit Go.MapKept

def findAcc (H : Nat) (least most : Int) (acc : List Int) (h a : Nat) : List Int := if h = H ∧ least ≤ (a : Int) ∧ (acc.length : Int) < most then acc ++ [(a : Int)] else acc
def findOk (least most : Int) (acc' : List Int) (a : Nat) : Bool := decide ((acc'.length : Int) < most ∧ least ≤ (a : Int))
def FindPost (ob : Nat) (v : Value) (acc' : List Int) (ok : Bool) (W : World) (e : Ending) (W' : World) : Prop :=
  e = .returned (.bool ok) ∧ ∃ v', OutV W' ob v' acc' ∧ (∀ X o, X ≠ ob → v.ownBlock ≠ some X → W.heap[X]? = some o → W'.heap[X]? = some o) ∧ Below ob W W'

set_option maxRecDepth 100000 in
set_option maxHeartbeats 1000000 in
theorem find1_no (ob hb lb mb H : Nat) (least most : Int) (n : Int) (rh ra rb rd : Nat) (acc : List Int) (v : Value) (W : World) (h : OutV W ob v acc) (hl : acc.length < 10000000)
    (c1 : W.cell? ⟨hb, 0, none⟩ = some (.int .i64 H)) (c2 : W.cell? ⟨lb, 0, none⟩ = some (.int .i64 least)) (c3 : W.cell? ⟨mb, 0, none⟩ = some (.int .i64 most)) (hno : ¬ (rh = H ∧ least ≤ (ra : Int) ∧ (acc.length : Int) < most)) :
    Calls Try.prog 110 #[.int .i64 n, .agg #[.int .i64 rh, .int .i64 ra, .int .i64 rb, .int .i64 rd], .pointer (some ⟨hb, 0, none⟩), .pointer (some ⟨lb, 0, none⟩), .pointer (some ⟨ob, 0, none⟩), .pointer (some ⟨mb, 0, none⟩)] W (FindPost ob v acc (findOk least most acc ra) W) := by
  have c0 : W.cell? ⟨ob, 0, none⟩ = some v := h.cell.cell 0
  have hol := h.cell.lt
  have l1 := World.block_lt_of_cell? _ _ c1
  have l2 := World.block_lt_of_cell? _ _ c2
  have l3 := World.block_lt_of_cell? _ _ c3
  dsimp only at l1 l2 l3
  obtain ⟨a, k, c, rfl, hk⟩ := h.slice
  have hB : Below W.heap.size W (W.alloc (.cells #[.int .i64 rh, .int .i64 ra, .int .i64 rb, .int .i64 rd] 152)) := (Below.refl _ W).alloc (Nat.le_refl _) _
  have hfin := h.below hB
  have hkeep : ∀ X o, X ≠ ob → (Value.slice a k c).ownBlock ≠ some X → W.heap[X]? = some o → (W.alloc (.cells #[.int .i64 rh, .int .i64 ra, .int .i64 rb, .int .i64 rd] 152)).heap[X]? = some o := fun X o _ _ ho => (hB.block X (Array.getElem?_eq_some_iff.1 ho).1).trans ho
  have hBo : Below ob W (W.alloc (.cells #[.int .i64 rh, .int .i64 ra, .int .i64 rb, .int .i64 rd] 152)) := (Below.refl _ W).alloc (by omega) _
  unfold findOk
  rw [← hk] at hno hl ⊢
  clear h hk hB
  by_cases b3 : (k : Int) < most
  · by_cases b2 : least ≤ (ra : Int)
    · have b1 : ¬ (rh : Int) = (H : Int) := fun e => hno ⟨by omega, b2, b3⟩
      have hr : decide ((k : Int) < most ∧ least ≤ (ra : Int)) = true := decide_eq_true ⟨b3, b2⟩
      rw [hr]
      clear hno hr
      go_enter Try.func110, Try.ntmps110
      go_wp2_with fail
      go_ret
      exact ⟨rfl, _, hfin, hkeep, hBo⟩
    · have hr : decide ((k : Int) < most ∧ least ≤ (ra : Int)) = false := decide_eq_false (fun h => b2 h.2)
      rw [hr]
      have b2' : (ra : Int) < least := by omega
      clear hno hr
      by_cases b1' : rh = H
      case' pos => subst b1'
      case' neg => have b1 : ¬ (rh : Int) = (H : Int) := by omega
      all_goals
        go_enter Try.func110, Try.ntmps110
        go_wp2_with fail
        go_ret
        exact ⟨rfl, _, hfin, hkeep, hBo⟩
  · have hr : decide ((k : Int) < most ∧ least ≤ (ra : Int)) = false := decide_eq_false (fun h => b3 h.1)
    rw [hr]
    have b3' : most ≤ (k : Int) := by omega
    clear hno hr
    by_cases b1' : rh = H
    case' pos => subst b1'
    case' neg => have b1 : ¬ (rh : Int) = (H : Int) := by omega
    all_goals by_cases b2 : least ≤ (ra : Int)
    all_goals
      go_enter Try.func110, Try.ntmps110
      go_wp2_with fail
      go_ret
      exact ⟨rfl, _, hfin, hkeep, hBo⟩
end Go.Proofs.Ytndpmjanflahhaa

/-
  The index's Find: an entry that is taken.
-/
namespace Go.Proofs.Ytndpmjanflahhaa
open Go.RowKit Go.MapKept

set_option maxRecDepth 100000 in
set_option maxHeartbeats 1000000 in
theorem find1_yes (ob hb lb mb H : Nat) (least most : Int) (n : Int) (ra rb rd : Nat) (acc : List Int) (v : Value) (W : World) (h : OutV W ob v acc) (hl : acc.length < 10000000)
    (c1 : W.cell? ⟨hb, 0, none⟩ = some (.int .i64 H)) (c2 : W.cell? ⟨lb, 0, none⟩ = some (.int .i64 least)) (c3 : W.cell? ⟨mb, 0, none⟩ = some (.int .i64 most)) (l1' : hb < ob) (l2' : lb < ob) (l3' : mb < ob) (b2 : least ≤ (ra : Int)) (b3 : (acc.length : Int) < most) :
    Calls Try.prog 110 #[.int .i64 n, .agg #[.int .i64 H, .int .i64 ra, .int .i64 rb, .int .i64 rd], .pointer (some ⟨hb, 0, none⟩), .pointer (some ⟨lb, 0, none⟩), .pointer (some ⟨ob, 0, none⟩), .pointer (some ⟨mb, 0, none⟩)] W (FindPost ob v (acc ++ [(ra : Int)]) (findOk least most (acc ++ [(ra : Int)]) ra) W) := by
  obtain ⟨i0, hi, hz0, hz1, hz2⟩ := info_parts info_int
  have c0 : W.cell? ⟨ob, 0, none⟩ = some v := h.cell.cell 0
  have hol := h.cell.lt
  have l1 : hb < W.heap.size := by omega
  have l2 : lb < W.heap.size := by omega
  have l3 : mb < W.heap.size := by omega
  obtain ⟨a, k, c, rfl, hk⟩ := h.slice
  have hrow := h.row
  have hcell := Lib.hid h.cell
  unfold findOk
  rw [show (acc ++ [(ra : Int)]).length = acc.length + 1 by simp]
  rw [← hk] at hrow hl b3 ⊢
  have hkH := Lib.hid hk
  clear hk h
  obtain ⟨hr, hrb⟩ : ∃ r, decide ((((k + 1 : Nat) : Int)) < most ∧ least ≤ (ra : Int)) = r := ⟨_, rfl⟩
  rw [hrb]
  have hrH := Lib.hid hrb
  clear hrb
  go_enter Try.func110, Try.ntmps110
  go_wp2_with (at_builtin; refine wpList_append_own _ rfl _ _ 67 rfl (ob + 1) 3 i0 (.int .i64 0) 1 8 Try.underlying67 hi hz0 hz1 hz2 rfl (by decide) _ _ _ rfl ((hrow.alloc _).alloc _) ⟨W.heap.size + 1, 0, none⟩ 1 1 [.int .i64 ra] rfl rfl ?c1 ?c2 ?c3 ?c4 ?c5 ?_)
  case c1 =>
    intro j u hj
    match j, hj with
    | 0, hj => simp at hj; subst hj; simp [Addr.add]
  case c2 => intro u hu; simp at hu; subst hu; rfl
  case c3 => unfold maxLen; omega
  case c4 => omega
  case c5 => simp; omega
  intro v' w2 hown' hgrow _
  have hold : ∀ X o, (Value.slice a k c).ownBlock ≠ some X → W.heap[X]? = some o → w2.heap[X]? = some o := fun X o hne ho => by
    have hX := (Array.getElem?_eq_some_iff.1 ho).1
    rw [hgrow.block X (by simp; omega) (fun e => hne e.symm)]
    exact ((((Below.refl _ W).alloc (Nat.le_refl _) _).alloc (by simp) _).block X hX).trans ho
  have hobn : (Value.slice a k c).ownBlock ≠ some ob := fun e => by have := (World.ownsRow.lt hrow ob e).1; omega
  have hb2 : Blk w2 ob #[.slice a k c] 67 := hold ob _ hobn hcell.out
  have hBe : Below ob W w2 := (((Below.refl ob W).alloc (by omega) _).alloc (by simp; omega) _).grown hgrow (by simp; omega) (fun X e => by have := (World.ownsRow.lt hrow X e).1; omega)
  have hW1 : w2.cell? ⟨W.heap.size, 1, none⟩ = some (.int .i64 ra) := by
    have hne : (Value.slice a k c).ownBlock ≠ some W.heap.size := fun e => by have := (World.ownsRow.lt hrow _ e).2; omega
    have hx := hgrow.block W.heap.size (by simp; omega) (fun e => hne e.symm)
    exact (Blk.at (Blk.up (Blk.new W #[.int .i64 H, .int .i64 ra, .int .i64 rb, .int .i64 rd] 152) _) hx).cell 1
  have d0 : w2.cell? ⟨ob, 0, none⟩ = some (.slice a k c) := hb2.cell 0
  have f0 := hb2.frozen 0
  have c2' := (hBe.cell (p := ⟨lb, 0, none⟩) l2').trans c2
  have c3' := (hBe.cell (p := ⟨mb, 0, none⟩) l3').trans c3
  have hne1 : lb ≠ ob := by omega
  have hne2 : mb ≠ ob := by omega
  have hne3 : W.heap.size ≠ ob := by omega
  obtain ⟨a', n', c', rfl, hn'⟩ : ∃ a' n' c', v' = .slice a' n' c' ∧ n' = k + 1 := by
    rcases hown'.2 with ⟨hv, hn⟩ | ⟨g, cap, cur, hv, _⟩
    · omega
    · exact ⟨_, _, _, hv, rfl⟩
  subst hn'
  have hnb' : (Value.slice a' (k + 1) c').ownBlock ≠ some ob := fun e => by have := (World.ownsRow.lt hown' ob e).1; omega
  have hfin : OutV (w2.setCell ⟨ob, 0, none⟩ (.slice a' (k + 1) c')) ob (.slice a' (k + 1) c') (acc ++ [(ra : Int)]) := by
    refine ⟨hb2.set 0 _, ?_⟩
    rw [List.map_append, List.length_append, ← hkH.out]
    exact owns_kept_base hown' (fun g hg => setCell_heap _ _ _ _ (fun e => hnb' (by have e' : g = ob := e; rw [← e']; exact hg)))
  have hoth : ∀ X o, X ≠ ob → (Value.slice a k c).ownBlock ≠ some X → W.heap[X]? = some o → (w2.setCell ⟨ob, 0, none⟩ (.slice a' (k + 1) c')).heap[X]? = some o := fun X o hX hne ho => (setCell_heap _ _ _ _ hX).trans (hold X o hne ho)
  have hBf : Below ob W (w2.setCell ⟨ob, 0, none⟩ (.slice a' (k + 1) c')) := hBe.setCell (p := ⟨ob, 0, none⟩) (Nat.le_refl _) _
  clear hold hgrow hown' hb2 hrow c0 c1 c2 c3 hcell
  go_wp2_with fail
  · go_ret
    refine ⟨ret_bool ?_, _, hfin, hoth, hBf⟩
    rw [← hrH.out]
    symm
    rw [decide_eq_true_iff]
    exact ⟨by omega, b2⟩
  · go_ret
    refine ⟨ret_bool ?_, _, hfin, hoth, hBf⟩
    rw [← hrH.out]
    symm
    rw [decide_eq_false_iff_not]
    intro h
    omega
end Go.Proofs.Ytndpmjanflahhaa

/-
  (*keyx.Index).Chain, Len.
-/
namespace Go.Proofs.Ytndpmjanflahhaa
open Go.RowKit Go.MapKept

theorem OutV.below' {W W' : World} {ob : Nat} {v : Value} {acc : List Int} (h : OutV W ob v acc) (hB : Below W.heap.size W W') {X : Nat} (hX : W.heap.size ≤ X) : X ≠ ob ∧ ∀ v' acc', OutV W' ob v' acc' → v'.ownBlock ≠ some X := by
  refine ⟨by have := h.cell.lt; omega, fun v' acc' h' e => ?_⟩
  have h2 := (h.below hB).cell
  have h3 := h'.cell
  unfold Blk at h2 h3
  rw [h2] at h3
  have : v = v' := by injection h3 with h3; injection h3 with h3; simpa using h3
  subst this
  have := (World.ownsRow.lt h.row X e).2
  omega
theorem intSl_of_out {W : World} {ob : Nat} {a : Option Addr} {k c : Nat} {acc : List Int} (h : OutV W ob (.slice a k c) acc) : IntSl W a acc := by
  obtain ⟨_, _, _, he, hk⟩ := h.slice
  cases he
  have := h.row
  subst hk
  exact intSl_of_row this
theorem OutV.cap {W : World} {ob : Nat} {a : Option Addr} {k c : Nat} {acc : List Int} (h : OutV W ob (.slice a k c) acc) : k ≤ c := by
  rcases h.row.2 with ⟨hv, hn⟩ | ⟨g, cap, cur, hv, _, _, hc, _⟩
  · cases hv; exact Nat.le_refl _
  · cases hv; exact hc
theorem enter_chain1 (args : Array Value) (w : World) : (callFunc 111 args).run Try.prog w = .ok (.enter 111 args) w :=
  run_enter Try.func111 (by kernel_rfl) rfl args w
theorem enter_find1 (args : Array Value) (w : World) : (callFunc 110 args).run Try.prog w = .ok (.enter 110 args) w :=
  run_enter Try.func110 (by kernel_rfl) rfl args w

def ChS (w : World) (rs : List KRec) (s : Nat) (m : Nat) (W : World) : Prop :=
  Below w.heap.size w W ∧ ∃ v acc, OutV W w.heap.size v acc ∧ acc ++ ints (chainTo rs s m) = ints (chainTo rs s rs.length)
def ChFree (ob : Nat) (W : World) (X : Nat) : Prop := X ≠ ob ∧ ∀ v acc, OutV W ob v acc → v.ownBlock ≠ some X
theorem chainTo_len (rs : List KRec) (s m : Nat) : (chainTo rs s m).length ≤ m := by
  induction m with
  | zero => exact Nat.le_refl _
  | succ m ih => rw [chainTo_succ]; split <;> (try rw [List.length_cons]) <;> omega
theorem chain_step (w : World) (rs : List KRec) (s : Nat) (hr : rs.length < 10000000) : StepAt 111 #[.pointer (some ⟨w.heap.size, 0, none⟩)] (ChS w rs s) (fun _ => False) (ChFree w.heap.size) rs s := by
  intro m W n r hm hS hn hn0 hrk
  obtain ⟨hB, v, acc, hO, hacc⟩ := hS
  have hch := chainTo_eq rs s m
  rw [hn, if_neg (by omega)] at hch
  have hal : acc.length < 10000000 := by
    have := congrArg List.length hacc
    rw [List.length_append, ints_len, ints_len] at this
    have := chainTo_len rs s rs.length
    omega
  refine (chain1_any w.heap.size n r.hash r.at_ r.born r.ahead acc v W hO hal).mono ?_
  rintro e W' ⟨rfl, v', hO', hk, hB'⟩
  refine ⟨true, rfl, fun _ => ⟨hB.trans hB', v', acc ++ [(n : Int)], hO', ?_⟩, (fun h => by cases h), fun X o hX ho => hk X o hX.1 (hX.2 v acc hO) ho⟩
  rw [← hacc, hch]
  simp [ints]

def ChainPost (rs : List KRec) (s : Nat) (w : World) (e : Ending) (w' : World) : Prop :=
  ∃ a c, e = .returned (.slice a (chainTo rs s rs.length).length c) ∧ IntSl w' a (ints (chainTo rs s rs.length)) ∧ Below w.heap.size w w'
set_option maxRecDepth 100000 in
set_option maxHeartbeats 1000000 in
theorem KChain_any {w0 w : World} {xb b C : Nat} {D : DiskA} {n : Int} {O : Nat → Option Obj} (hl : OX 150 w0 xb b D n O w) {rs : List KRec} {v : List Nat} (hD : KeyD C D rs v) (hr : rs.length < 10000000) (s : Nat) (hs : s < 8) :
    Calls Try.prog 70 #[.pointer (some ⟨xb, 0, none⟩), .int .i64 s] w (ChainPost rs s w) := by
  have hB0 : Below w.heap.size w (w.alloc (.cells #[.slice none 0 0] 67)) := (Below.refl _ w).alloc (Nat.le_refl _) _
  have h0 : ChS w rs s rs.length (w.alloc (.cells #[.slice none 0 0] 67)) := ⟨hB0, .slice none 0 0, [], ⟨Blk.new _ _ _, World.ownsRow_nil _ _ _ _⟩, rfl⟩
  have cA := KAlong_any (w := w.alloc (.cells #[.slice none 0 0] 67)) hD hr s hs 111 #[.pointer (some ⟨w.heap.size, 0, none⟩)] (ChS w rs s) (fun _ => False) (ChFree w.heap.size) enter_chain1
    (fun m W h => hl.below h.1) (fun m W W' h hB => by
      obtain ⟨h1, v, acc, h2, h3⟩ := h
      exact ⟨h1.trans (hB.mono h1.size), v, acc, h2.below hB, h3⟩) (fun m W W' X h hB hX => by
      obtain ⟨h1, v, acc, h2, h3⟩ := h
      exact h2.below' hB hX) (chain_step w rs s hr) h0
  have i0 : (0 : Int) ≤ s := by omega
  have i1 : (s : Int) < 8 := by omega
  clear hl hD h0
  go_enter Try.func70, Try.ntmps70
  go_wp2_with fail
  refine cA.mono ?_
  rintro e w1 ⟨rfl, hP⟩
  rcases hP with ⟨m, hm, hB, v', acc, hO, hacc⟩ | hF
  · have hch := chainTo_eq rs s m
    rw [hm, if_pos rfl] at hch
    rw [hch] at hacc
    obtain rfl : acc = ints (chainTo rs s rs.length) := by rw [← hacc]; simp [ints]
    have c1 : w1.cell? ⟨w.heap.size, 0, none⟩ = some v' := hO.cell.cell 0
    obtain ⟨a, k, c, rfl, hk⟩ := hO.slice
    have hI := intSl_of_out hO
    rw [ints_len] at hk
    have hkH := Lib.hid hk
    clear cA hacc hch hO hk
    go_wp2_with fail
    go_ret
    refine ⟨a, c, ?_, hI, hB⟩
    show Ending.returned (Value.slice a k c) = _
    rw [hkH.out]
  · exact hF.elim
theorem KLen_any {w0 w : World} {xb b : Nat} {D : DiskA} {n : Int} {O : Nat → Option Obj} (hl : OX 150 w0 xb b D n O w) :
    Calls Try.prog 69 #[.pointer (some ⟨xb, 0, none⟩)] w fun e w' => e = .returned (.int .i64 n) ∧ w = w' := by
  have c1 : w.cell? ⟨xb, 1, none⟩ = some (.int .i64 n) := hl.head.cell 1
  go_enter Try.func69, Try.ntmps69
  go_wp2
  go_ret
  exact ⟨rfl, rfl⟩
end Go.Proofs.Ytndpmjanflahhaa

/-
  (*keyx.Index).Find.
-/
namespace Go.Proofs.Ytndpmjanflahhaa
open Go.RowKit Go.MapKept

/-- What is found along a chain. -/
def findRun (rs : List KRec) (H : Nat) (least most : Int) : List Nat → List Int → List Int
  | [], acc => acc
  | n :: t, acc => match rs[n - 1]? with
    | none => acc
    | some r => if findOk least most (findAcc H least most acc r.hash r.at_) r.at_ then findRun rs H least most t (findAcc H least most acc r.hash r.at_) else findAcc H least most acc r.hash r.at_
def findL (rs : List KRec) (H : Nat) (least most : Int) : List Int := findRun rs H least most (chainTo rs (H % 8) rs.length) []
def FdS (Wc : World) (ob : Nat) (rs : List KRec) (H s : Nat) (least most : Int) (m : Nat) (W : World) : Prop :=
  Below ob Wc W ∧ ∃ v acc, OutV W ob v acc ∧ acc.length + (chainTo rs s m).length ≤ rs.length ∧ findRun rs H least most (chainTo rs s m) acc = findL rs H least most
def FdQ (Wc : World) (ob : Nat) (rs : List KRec) (H : Nat) (least most : Int) (W : World) : Prop :=
  Below ob Wc W ∧ ∃ v, OutV W ob v (findL rs H least most)
theorem find_step (Wc : World) (ob hb lb mb : Nat) (rs : List KRec) (H s : Nat) (least most : Int) (hr : rs.length < 10000000) (l1 : hb < ob) (l2 : lb < ob) (l3 : mb < ob)
    (c1 : Wc.cell? ⟨hb, 0, none⟩ = some (.int .i64 H)) (c2 : Wc.cell? ⟨lb, 0, none⟩ = some (.int .i64 least)) (c3 : Wc.cell? ⟨mb, 0, none⟩ = some (.int .i64 most)) :
    StepAt 110 #[.pointer (some ⟨hb, 0, none⟩), .pointer (some ⟨lb, 0, none⟩), .pointer (some ⟨ob, 0, none⟩), .pointer (some ⟨mb, 0, none⟩)] (FdS Wc ob rs H s least most) (FdQ Wc ob rs H least most) (ChFree ob) rs s := by
  intro m W n r hm hS hn hn0 hrk
  obtain ⟨hB, v, acc, hO, hlen, hacc⟩ := hS
  have hch := chainTo_eq rs s m
  rw [hn, if_neg (by omega)] at hch
  rw [hch] at hacc hlen
  rw [List.length_cons] at hlen
  have hal : acc.length < 10000000 := by omega
  have d1 := (hB.cell (p := ⟨hb, 0, none⟩) l1).trans c1
  have d2 := (hB.cell (p := ⟨lb, 0, none⟩) l2).trans c2
  have d3 := (hB.cell (p := ⟨mb, 0, none⟩) l3).trans c3
  have hrun : findRun rs H least most (n :: chainTo rs s (n - 1)) acc = if findOk least most (findAcc H least most acc r.hash r.at_) r.at_ then findRun rs H least most (chainTo rs s (n - 1)) (findAcc H least most acc r.hash r.at_) else findAcc H least most acc r.hash r.at_ := by
    rw [findRun, hrk]
  rw [hrun] at hacc
  have key : Calls Try.prog 110 #[.int .i64 n, .agg #[.int .i64 r.hash, .int .i64 r.at_, .int .i64 r.born, .int .i64 r.ahead], .pointer (some ⟨hb, 0, none⟩), .pointer (some ⟨lb, 0, none⟩), .pointer (some ⟨ob, 0, none⟩), .pointer (some ⟨mb, 0, none⟩)] W (FindPost ob v (findAcc H least most acc r.hash r.at_) (findOk least most (findAcc H least most acc r.hash r.at_) r.at_) W) := by
    by_cases hy : r.hash = H ∧ least ≤ (r.at_ : Int) ∧ (acc.length : Int) < most
    · have : findAcc H least most acc r.hash r.at_ = acc ++ [(r.at_ : Int)] := by unfold findAcc; rw [if_pos hy]
      rw [this, hy.1]
      exact find1_yes ob hb lb mb H least most n r.at_ r.born r.ahead acc v W hO hal d1 d2 d3 l1 l2 l3 hy.2.1 hy.2.2
    · have : findAcc H least most acc r.hash r.at_ = acc := by unfold findAcc; rw [if_neg hy]
      rw [this]
      exact find1_no ob hb lb mb H least most n r.hash r.at_ r.born r.ahead acc v W hO hal d1 d2 d3 hy
  have hal' : (findAcc H least most acc r.hash r.at_).length ≤ acc.length + 1 := by
    unfold findAcc; split <;> simp
  generalize findAcc H least most acc r.hash r.at_ = acc' at *
  refine key.mono ?_
  rintro e W' ⟨rfl, v', hO', hk, hB'⟩
  refine ⟨_, rfl, fun hok => ⟨hB.trans hB', v', acc', hO', by omega, ?_⟩, fun hno => ⟨hB.trans hB', v', ?_⟩, fun X o hX ho => hk X o hX.1 (hX.2 v acc hO) ho⟩
  · rw [if_pos hok] at hacc; exact hacc
  · rw [hno, if_neg (by simp)] at hacc; rw [← hacc]; exact hO'
end Go.Proofs.Ytndpmjanflahhaa

/-
  (*keyx.Index).Find, the walk.
-/
namespace Go.Proofs.Ytndpmjanflahhaa
open Go.RowKit Go.MapKept

def FindsPost (rs : List KRec) (H : Nat) (least most : Int) (w : World) (e : Ending) (w' : World) : Prop :=
  ∃ a c, e = .returned (.tuple #[.slice a (findL rs H least most).length c, .int .i64 0]) ∧ IntSl w' a (findL rs H least most) ∧ (findL rs H least most).length ≤ c ∧ Below w.heap.size w w'
set_option maxRecDepth 100000 in
set_option maxHeartbeats 1000000 in
theorem KFind_any {w0 w : World} {xb b C : Nat} {D : DiskA} {n : Int} {O : Nat → Option Obj} (hl : OX 150 w0 xb b D n O w) {rs : List KRec} {v : List Nat} (hD : KeyD C D rs v) (hr : rs.length < 10000000) (t k : ByteArray) (least most : Int) (ht : t.size ≤ 9223372036854775807) (hk : k.size ≤ 9223372036854775807) :
    Calls Try.prog 67 #[.pointer (some ⟨xb, 0, none⟩), .string t, .string k, .int .i64 least, .int .i64 most] w (FindsPost rs (hashL [t, ⟨#[35]⟩, k]) least most w) := by
  have cN := fun W => number_any t k W ht hk
  generalize hashL [t, ⟨#[35]⟩, k] = H at *
  have hb8 : H % 8 < 8 := Nat.mod_lt _ (by omega)
  have cA := fun Wc ob hb lb mb (l1 : hb < ob) (l2 : lb < ob) (l3 : mb < ob) (hob : w.heap.size ≤ ob) (hBc : Below w.heap.size w Wc) (c1 : Wc.cell? ⟨hb, 0, none⟩ = some (.int .i64 H)) (c2 : Wc.cell? ⟨lb, 0, none⟩ = some (.int .i64 least)) (c3 : Wc.cell? ⟨mb, 0, none⟩ = some (.int .i64 most)) (ho : OutV Wc ob (.slice none 0 0) []) =>
    KAlong_any (w := Wc) hD hr (H % 8) hb8 110 #[.pointer (some ⟨hb, 0, none⟩), .pointer (some ⟨lb, 0, none⟩), .pointer (some ⟨ob, 0, none⟩), .pointer (some ⟨mb, 0, none⟩)] (FdS Wc ob rs H (H % 8) least most) (FdQ Wc ob rs H least most) (ChFree ob) enter_find1
      (fun m W h => hl.below (hBc.trans (h.1.mono hob))) (fun m W W' h hB => by
        obtain ⟨h1, v, acc, h2, h3⟩ := h
        exact ⟨h1.trans (hB.mono (by have := h2.cell.lt; omega)), v, acc, h2.below hB, h3⟩) (fun m W W' X h hB hX => by
        obtain ⟨h1, v, acc, h2, h3⟩ := h
        exact h2.below' hB hX) (find_step Wc ob hb lb mb rs H (H % 8) least most hr l1 l2 l3 c1 c2 c3) ⟨Below.refl _ _, .slice none 0 0, [], ho, by have := chainTo_len rs (H % 8) rs.length; simpa using this, rfl⟩
  rw [show ((H % 8 : Nat) : Int) = (H : Int) % 8 by omega] at cA
  have cAH := Lib.hid cA
  clear cA hl hD
  have hB0 : Below w.heap.size w ((w.alloc (.cells #[.int .i64 least] 3)).alloc (.cells #[.int .i64 most] 3)) := ((Below.refl _ w).alloc (Nat.le_refl _) _).alloc (by simp) _
  have b0 : Blk ((w.alloc (.cells #[.int .i64 least] 3)).alloc (.cells #[.int .i64 most] 3)) w.heap.size #[.int .i64 least] 3 := (Blk.new _ _ _).up _
  have b1 : Blk ((w.alloc (.cells #[.int .i64 least] 3)).alloc (.cells #[.int .i64 most] 3)) (w.heap.size + 1) #[.int .i64 most] 3 := Blk.new' (by simp) _ _
  go_enter Try.func67, Try.ntmps67
  go_wp2_with fail
  refine (cN _).mono ?_
  rintro e w1 ⟨rfl, hB1⟩
  have hB1' := hB0.trans (hB1.mono hB0.size)
  have b0' := b0.at (hB1.block _ b0.lt)
  have b1' := b1.at (hB1.block _ b1.lt)
  have l0 := b0'.lt
  have l1 := b1'.lt
  clear cN hB0 hB1 b0 b1
  have hBc : Below w.heap.size w ((w1.alloc (.cells #[.int .i64 H] 3)).alloc (.cells #[.slice none 0 0] 67)) := (hB1'.alloc hB1'.size _).alloc (by simp; have := hB1'.size; omega) _
  have hO : OutV ((w1.alloc (.cells #[.int .i64 H] 3)).alloc (.cells #[.slice none 0 0] 67)) (w1.heap.size + 1) (.slice none 0 0) [] := ⟨Blk.new' (by simp) _ _, World.ownsRow_nil _ _ _ _⟩
  have cF := cAH.out _ (w1.heap.size + 1) w1.heap.size w.heap.size (w.heap.size + 1) (by omega) (by omega) (by omega) (by have := hB1'.size; omega) hBc (((Blk.new w1 #[.int .i64 H] 3).up _).cell 0) (((b0'.up _).up _).cell 0) (((b1'.up _).up _).cell 0) hO
  have hob : w.heap.size ≤ w1.heap.size + 1 := by have := hB1'.size; omega
  clear hO hB1' b0' b1' cAH
  go_wp2_with fail
  refine cF.mono ?_
  rintro e w2 ⟨rfl, hP⟩
  have hQ : FdQ ((w1.alloc (.cells #[.int .i64 H] 3)).alloc (.cells #[.slice none 0 0] 67)) (w1.heap.size + 1) rs H least most w2 := by
    rcases hP with ⟨m, hm, hB, v', acc, hO, hlen, hacc⟩ | hQ
    · have hch := chainTo_eq rs (H % 8) m
      rw [hm, if_pos rfl] at hch
      rw [hch] at hacc
      have hacc' : acc = findL rs H least most := hacc
      subst hacc'
      exact ⟨hB, v', hO⟩
    · exact hQ
  obtain ⟨hB2, v', hO⟩ := hQ
  have hBf := hBc.trans (hB2.mono hob)
  have c1 : w2.cell? ⟨w1.heap.size + 1, 0, none⟩ = some v' := hO.cell.cell 0
  obtain ⟨a, q, c, rfl, hq⟩ := hO.slice
  have hI := intSl_of_out hO
  have hcap := hO.cap
  rw [hq] at hcap
  have hqH := Lib.hid hq
  clear cF hP hO hq hB2 hBc
  go_wp2_with fail
  go_ret2
  refine ⟨a, c, ?_, hI, hcap, hBf⟩
  show Ending.returned (Value.tuple #[Value.slice a q c, _]) = _
  rw [hqH.out]
  rfl
end Go.Proofs.Ytndpmjanflahhaa
