/-
  THE TIMER LOG, as plain data.
-/
import Derived.Test.YtndpmjanflahhaaWh9
import Derived.Test.YtndpmjanflahhaaMK
namespace Go.Proofs.Ytndpmjanflahhaa

def wmarks : ByteArray := ⟨#[119, 45, 109, 97, 114, 107, 115]⟩
/-- A mark. -/
structure MRec where
  due : Nat
  at_ : Nat
  ahead : Nat
  puts : Nat
def MRec.bytes (r : MRec) : List UInt8 := recL [(6, r.due), (6, r.at_), (6, r.ahead), (2, r.puts)]
theorem MRec.len (r : MRec) : r.bytes.length = 20 := by simp [MRec.bytes, recL, beL_len]
def marksB (rs : List MRec) : ByteArray := ⟨(rs.flatMap MRec.bytes).toArray⟩
theorem marksB_size (rs : List MRec) : (marksB rs).size = 20 * rs.length := by
  show (List.toArray _).size = _
  rw [List.size_toArray, recs_len MRec.len]
theorem marksB_add (rs : List MRec) (r : MRec) : laidB (marksB rs) (20 * rs.length) (recB [(6, r.due), (6, r.at_), (6, r.ahead), (2, r.puts)]) = marksB (rs ++ [r]) := by
  unfold laidB marksB recB
  rw [List.toList_toArray, List.toList_toArray, ← recs_len MRec.len rs, laidL_end, List.flatMap_append]
  simp [MRec.bytes]
theorem marksB_get (rs : List MRec) (i : Nat) {r : MRec} (hx : rs[i]? = some r) : (marksB rs).extract (20 * i) (20 * i + 20) = recB [(6, r.due), (6, r.at_), (6, r.ahead), (2, r.puts)] := by
  apply ba_ext
  have h := recs_at MRec.len rs i hx
  show _ = MRec.bytes r
  rw [← h]
  simp only [ByteArray.data_extract, Array.toList_extract]
  rw [List.extract_eq_take_drop]
  show List.take (20 * i + 20 - 20 * i) (List.drop (20 * i) (marksB rs).data.toList) = _
  rw [Nat.add_sub_cancel_left]; rfl
def MRec.Small (r : MRec) : Prop := r.due ≤ 1099511627776 ∧ r.at_ ≤ 1099511627776 ∧ r.ahead < 281474976710656 ∧ r.puts < 65536

/-- The marks of a chain, the last one first. -/
def IsCh (ms : List MRec) : Nat → List MRec → Prop
  | n, [] => n = 0
  | n, m :: t => 0 < n ∧ ms[n - 1]? = some m ∧ m.ahead < n ∧ IsCh ms m.ahead t
theorem IsCh.append {ms : List MRec} (r : MRec) : ∀ {l : List MRec} {n : Nat}, IsCh ms n l → IsCh (ms ++ [r]) n l
  | [], _, h => h
  | m :: t, n, ⟨h1, h2, h3, h4⟩ => ⟨h1, by rw [List.getElem?_append_left (List.getElem?_eq_some_iff.1 h2).1]; exact h2, h3, IsCh.append r h4⟩
theorem IsCh.le {ms : List MRec} : ∀ {l : List MRec} {n : Nat}, IsCh ms n l → n ≤ ms.length
  | [], _, h => by have h' : _ = 0 := h; omega
  | m :: t, n, ⟨h1, h2, h3, h4⟩ => by have := (List.getElem?_eq_some_iff.1 h2).1; omega
theorem IsCh.len {ms : List MRec} : ∀ {l : List MRec} {n : Nat}, IsCh ms n l → l.length ≤ n
  | [], _, _ => Nat.zero_le _
  | m :: t, n, ⟨h1, h2, h3, h4⟩ => by have := h4.len; simp only [List.length_cons]; omega
theorem IsCh.new {ms : List MRec} {n : Nat} {l : List MRec} (h : IsCh ms n l) (r : MRec) (hr : r.ahead = n) : IsCh (ms ++ [r]) (ms.length + 1) (r :: l) :=
  ⟨by omega, by simp, by have := h.le; omega, by rw [hr]; exact h.append r⟩
theorem IsCh.mem {ms : List MRec} : ∀ {l : List MRec} {n : Nat}, IsCh ms n l → ∀ m ∈ l, m ∈ ms
  | [], _, _, m, hm => by cases hm
  | a :: t, n, ⟨h1, h2, h3, h4⟩, m, hm => by
    rcases List.mem_cons.1 hm with rfl | hm
    · exact List.mem_of_getElem? h2
    · exact h4.mem m hm

/-- A record that waits. -/
structure WRec where
  due : Nat
  at_ : Nat
  puts : Nat
def MRec.w (m : MRec) : WRec := ⟨m.due, m.at_, m.puts⟩

/-- The log's files have just these; Q: what waits in a slot, in the order in which it was put. -/
structure LogD (C : Nat) (D : DiskA) (ms : List MRec) (v : List Nat) (Q : Nat → List WRec) (u : Nat) : Prop where
  wheel : WheelD D v
  cap : D.cap = C
  size : sizes D.files = 96 + 20 * ms.length
  waits : D.waits.length ≤ u
  marks : D.get wmarks = some (marksB ms)
  small : ∀ r ∈ ms, r.Small
  chain : ∀ s, s < 16 → ∃ n l, v[s]? = some n ∧ IsCh ms n l ∧ l.reverse.map MRec.w = Q s
def setQ (Q : Nat → List WRec) (s : Nat) (l : List WRec) : Nat → List WRec := fun k => if k = s then l else Q k
theorem setQ_at (Q : Nat → List WRec) (s : Nat) (l : List WRec) : setQ Q s l s = l := by unfold setQ; simp
theorem setQ_ne {Q : Nat → List WRec} {s k : Nat} {l : List WRec} (h : k ≠ s) : setQ Q s l k = Q k := by unfold setQ; simp [h]
theorem setQ_set (Q : Nat → List WRec) (s : Nat) (l k : List WRec) : setQ (setQ Q s l) s k = setQ Q s k := by funext x; unfold setQ; split <;> rfl
/-- The files, when a mark was laid. -/
theorem LogD.lay {C : Nat} {D D1 D2 : DiskA} {ms : List MRec} {v : List Nat} {Q : Nat → List WRec} {u : Nat} (h : LogD C D ms v Q u) {r : MRec} (hr : r.Small) {s : Nat} (hs : s < 16) (ha : v[s]? = some r.ahead)
    (h1 : Wrote D wmarks (marksB (ms ++ [r])) D1) (hW : WheelD D2 (v.set s (ms.length + 1))) (h2 : Wrote D1 wslots (slotB 6 (v.set s (ms.length + 1))) D2) :
    LogD C D2 (ms ++ [r]) (v.set s (ms.length + 1)) (setQ Q s (Q s ++ [r.w])) (u + 2) := by
  have hne : wmarks ≠ wslots := by decide
  have hlen : v.length = 16 := h.wheel.len
  refine ⟨hW, by rw [h2.cap, h1.cap]; exact h.cap, ?_, ?_, by rw [h2.other _ hne]; exact h1.get, ?_, ?_⟩
  · have e1 := h1.size _ h.marks
    have e2 := h2.size _ (by rw [h1.other _ (fun h => hne h.symm)]; exact h.wheel.get)
    rw [marksB_size, marksB_size, h.size] at e1
    rw [slotB_size, slotB_size, List.length_set] at e2
    simp only [List.length_append, List.length_cons, List.length_nil] at e1 ⊢
    omega
  · have e1 := h1.waits
    have e2 := h2.waits
    have e3 := h.waits
    omega
  · intro q hq
    rcases List.mem_append.1 hq with hq | hq
    · exact h.small q hq
    · simp at hq; subst hq; exact hr
  · intro k hk
    obtain ⟨n, l, c1, c2, c3⟩ := h.chain k hk
    by_cases hks : k = s
    · subst hks
      rw [ha] at c1
      injection c1 with c1
      refine ⟨ms.length + 1, r :: l, by rw [List.getElem?_set_self (by omega)], c2.new r c1, ?_⟩
      rw [setQ_at, ← c3]; simp
    · refine ⟨n, l, by rw [List.getElem?_set_ne (fun e => hks e.symm)]; exact c1, c2.append r, ?_⟩
      rw [setQ_ne hks]; exact c3
/-- A slot taken. -/
theorem LogD.clear {C : Nat} {D D2 : DiskA} {ms : List MRec} {v : List Nat} {Q : Nat → List WRec} {u : Nat} (h : LogD C D ms v Q u) {s : Nat} (hs : s < 16) (hW : WheelD D2 (v.set s 0)) (h2 : Wrote D wslots (slotB 6 (v.set s 0)) D2) :
    LogD C D2 ms (v.set s 0) (setQ Q s []) (u + 1) := by
  have hne : wmarks ≠ wslots := by decide
  have hlen : v.length = 16 := h.wheel.len
  refine ⟨hW, by rw [h2.cap]; exact h.cap, ?_, ?_, by rw [h2.other _ hne]; exact h.marks, h.small, ?_⟩
  · have e2 := h2.size _ h.wheel.get
    rw [slotB_size, slotB_size, List.length_set, h.size] at e2
    omega
  · have e2 := h2.waits
    have e3 := h.waits
    omega
  · intro k hk
    obtain ⟨n, l, c1, c2, c3⟩ := h.chain k hk
    by_cases hks : k = s
    · subst hks
      exact ⟨0, [], by rw [List.getElem?_set_self (by omega)], rfl, by rw [setQ_at]; rfl⟩
    · exact ⟨n, l, by rw [List.getElem?_set_ne (fun e => hks e.symm)]; exact c1, c2, by rw [setQ_ne hks]; exact c3⟩
end Go.Proofs.Ytndpmjanflahhaa
