/-
  THE TIMER LOG IN MEMORY.
-/
import Derived.Test.YtndpmjanflahhaaTl0
import Derived.Test.YtndpmjanflahhaaOv1
namespace Go.Proofs.Ytndpmjanflahhaa
open Go.RowKit Go.MapKept

structure IsLog (w : World) (lb wb b : Nat) (D : DiskA) (h : Int) (n : Int) (F : Nat → Prop) : Prop where
  own : F lb
  head : Blk w lb #[.pointer (some ⟨wb, 0, none⟩), .int .i64 n] 157
  wheel : ∃ Fw : Nat → Prop, IsWheel w wb b D h Fw ∧ (∀ k, Fw k → F k) ∧ ¬ Fw lb
def PLog (lb wb b : Nat) (D : DiskA) (h n : Int) : World → (Nat → Prop) → Prop := fun w F => IsLog w lb wb b D h n F
theorem kind_log (lb wb b : Nat) (D : DiskA) (h n : Int) : Kind1 (PLog lb wb b D h n) := by
  constructor
  · intro w w' F hw hk
    obtain ⟨Fw, hd, hs, hn⟩ := hw.wheel
    exact ⟨hw.own, hw.head.at (hk _ hw.own hw.head.lt), Fw, hd.kept (fun k h hl => hk k (hs k h) hl), hs, hn⟩
  · intro w F hw
    obtain ⟨Fw, hd, hs, hn⟩ := hw.wheel
    exact ⟨⟨hw.own, hw.head.lt⟩, hw.head, fun k => Fw k ∧ k < w.heap.size, hd.tight, fun k hk => ⟨hs k hk.1, hk.2⟩, fun hk => hn hk.1⟩
theorem IsLog.step {w w' : World} {lb wb b : Nat} {D D' : DiskA} {h h' n : Int} {F Fw Fw' : Nat → Prop} (hw : IsLog w lb wb b D h n F) (hs : ∀ k, Fw k → F k) (hn : ¬ Fw lb) (hd' : IsWheel w' wb b D' h' Fw') (hst : Step Fw w Fw' w') : ∃ F', PLog lb wb b D' h' n w' F' ∧ Step F w F' w' := by
  have hlt := hw.head.lt
  refine ⟨fun k => k = lb ∨ Fw' k, ⟨.inl rfl, hw.head.at (hst.block _ hlt hn), Fw', hd', fun k hk => .inr hk, fun hk => ?_⟩, ⟨hst.os, hst.tape, hst.output, hst.size, fun k hk hnk => hst.block k hk (fun h => hnk (hs k h)), fun k hk => ?_⟩⟩
  · rcases hst.new _ hk with h1 | h1
    · exact hn h1
    · omega
  · rcases hk with rfl | hk
    · exact .inl hw.own
    · exact (hst.new _ hk).imp (hs k) id
section
variable {w0 w w' : World} {lb wb b : Nat} {D : DiskA} {h n : Int} {O : Nat → Option Obj}
theorem LX.head (hl : SX (PLog lb wb b D h n) w0 O w) : Blk w lb #[.pointer (some ⟨wb, 0, none⟩), .int .i64 n] 157 := by
  obtain ⟨F, h1, h2, h3, h4⟩ := hl; exact h1.head
theorem LX.wheel (hl : SX (PLog lb wb b D h n) w0 O w) : WLives w0 wb b D h w := by
  obtain ⟨F, h1, h2, h3, h4⟩ := hl
  obtain ⟨Fw, hd, hs, hn⟩ := h1.wheel
  exact ⟨Fw, hd, fun k hk => h2 k (hs k hk), h4⟩
theorem LX.below (hl : SX (PLog lb wb b D h n) w0 O w) (hB : Below w.heap.size w w') : SX (PLog lb wb b D h n) w0 O w' := SX.below (kind_log _ _ _ _ _ _) hl hB
theorem LX.write (hl : SX (PLog lb wb b D h n) w0 O w) (nm : ByteArray) (p : Int) (s : ByteArray) (hs : s.size ≤ 1073741824) (hwl : D.waits.length < 1099511627776) :
    Calls Try.prog 42 #[.pointer (some ⟨b, 0, none⟩), .string nm, .int .i64 p, .string s] w fun e w' => e = .returned (.int .i64 (D.write nm p s).1) ∧ SX (PLog lb wb b (D.write nm p s).2 h n) w0 O w' := by
  obtain ⟨F, h1, h2, h3, h4⟩ := hl
  obtain ⟨Fw, hd, hsub, hn⟩ := h1.wheel
  refine (hd.write nm p s hs hwl).mono ?_
  rintro e w' ⟨he, Fw', hd', hst⟩
  obtain ⟨F', h5, hst'⟩ := h1.step hsub hn hd' hst
  refine ⟨he, F', h5, fun k hk => (hst'.new k hk).elim (h2 k) (fun h => Nat.le_trans h4.size h), fun k o ho => ?_, h4.trans (hst'.below h4.size h2)⟩
  have hlt := (Array.getElem?_eq_some_iff.1 (h3 k o ho).1).1
  exact ⟨(hst'.block k hlt (h3 k o ho).2).trans (h3 k o ho).1, fun hk => (hst'.new k hk).elim (h3 k o ho).2 (fun h => by omega)⟩
theorem LX.set (hl : SX (PLog lb wb b D h n) w0 O w) {v : List Nat} (hD : WheelD D v) (s : Nat) (hs : s < 16) (x : Nat) (hx : x < 281474976710656) (hwl : D.waits.length < 1099511627775) :
    ∃ D', WheelD D' (v.set s x) ∧ Wrote D wslots (slotB 6 (v.set s x)) D' ∧ Calls Try.prog 59 #[.pointer (some ⟨wb, 0, none⟩), .int .i64 s, .int .i64 x] w fun e w' => e = .returned (.int .i64 0) ∧ SX (PLog lb wb b D' h n) w0 O w' := by
  obtain ⟨F, h1, h2, h3, h4⟩ := hl
  obtain ⟨Fw, hd, hsub, hn⟩ := h1.wheel
  obtain ⟨D', e1, e2, c⟩ := hd.set hD s hs x hx hwl
  refine ⟨D', e1, e2, c.mono ?_⟩
  rintro e w' ⟨he, Fw', hd', hst⟩
  obtain ⟨F', h5, hst'⟩ := h1.step hsub hn hd' hst
  refine ⟨he, F', h5, fun k hk => (hst'.new k hk).elim (h2 k) (fun h => Nat.le_trans h4.size h), fun k o ho => ?_, h4.trans (hst'.below h4.size h2)⟩
  have hlt := (Array.getElem?_eq_some_iff.1 (h3 k o ho).1).1
  exact ⟨(hst'.block k hlt (h3 k o ho).2).trans (h3 k o ho).1, fun hk => (hst'.new k hk).elim (h3 k o ho).2 (fun h => by omega)⟩
/-- Its number is another one. -/
theorem LX.count (hl : SX (PLog lb wb b D h n) w0 O w) (m : Int) : SX (PLog lb wb b D h m) w0 O (w.setCell ⟨lb, 1, none⟩ (.int .i64 m)) := by
  obtain ⟨F, h1, h2, h3, h4⟩ := hl
  obtain ⟨Fw, hd, hs, hn⟩ := h1.wheel
  refine ⟨F, ⟨h1.own, h1.head.set 1 _, Fw, hd.kept (fun k hk _ => setCell_heap _ _ _ _ (fun e => hn (by have e' : k = lb := e; rw [← e']; exact hk))), hs, hn⟩, h2, fun k o ho => ⟨(setCell_heap _ _ _ _ (fun e => (h3 k o ho).2 (by have e' : k = lb := e; rw [e']; exact h1.own))).trans (h3 k o ho).1, (h3 k o ho).2⟩, h4.setCell (p := ⟨lb, 1, none⟩) (h2 _ h1.own) _⟩
theorem WTurn_yes {wb : Nat} {h now : Int} {w : World} (hc : w.cell? ⟨wb, 1, none⟩ = some (.int .i64 h)) (hf : w.frozen? ⟨wb, 1, none⟩ = false) (hn : h < now) (h0 : 0 ≤ h) (h1 : now ≤ 9223372036854775807) :
    Calls Try.prog 50 #[.pointer (some ⟨wb, 0, none⟩), .int .i64 now] w fun e w' => e = .returned (.tuple #[.int .i64 (h + 1), .bool true]) ∧ w' = w.setCell ⟨wb, 1, none⟩ (.int .i64 (h + 1)) := by
  have c := handTurn_yes wb h now w hc hf hn h0 h1
  clear hc hf
  go_enter Try.func50, Try.ntmps50
  go_wp2_with (go_at_call 93; refine c.mono ?_; rintro e w' ⟨rfl, rfl⟩)
  go_ret2
  exact ⟨rfl, rfl⟩
theorem LX.turn_yes {now : Int} (hl : SX (PLog lb wb b D h n) w0 O w) (hn : h < now) (h0 : 0 ≤ h) (h1 : now ≤ 9223372036854775807) :
    Calls Try.prog 50 #[.pointer (some ⟨wb, 0, none⟩), .int .i64 now] w fun e w' => e = .returned (.tuple #[.int .i64 (h + 1), .bool true]) ∧ SX (PLog lb wb b D (h + 1) n) w0 O w' := by
  have hfin : SX (PLog lb wb b D (h + 1) n) w0 O (w.setCell ⟨wb, 1, none⟩ (.int .i64 (h + 1))) := by
    obtain ⟨F, g1, h2, h3, h4⟩ := hl
    obtain ⟨Fw, hw, hs, hnl⟩ := g1.wheel
    obtain ⟨Fd, hd, hsd, hnb⟩ := hw.disk
    have hnlb : lb ≠ wb := fun e => hnl (by rw [e]; exact hw.own)
    refine ⟨F, ⟨g1.own, g1.head.at (setCell_heap _ _ _ _ hnlb), Fw, ⟨hw.own, hw.head.set 1 _, Fd, hd.kept (fun k hk _ => setCell_heap _ _ _ _ (fun e => hnb (by have e' : k = wb := e; rw [← e']; exact hk))), hsd, hnb⟩, hs, hnl⟩, h2, fun k o ho => ⟨(setCell_heap _ _ _ _ (fun e => (h3 k o ho).2 (by have e' : k = wb := e; rw [e']; exact hs _ hw.own))).trans (h3 k o ho).1, (h3 k o ho).2⟩, h4.setCell (p := ⟨wb, 1, none⟩) (h2 _ (hs _ hw.own)) _⟩
  obtain ⟨F, g1, h2, h3, h4⟩ := hl
  obtain ⟨Fw, hw, hs, hnl⟩ := g1.wheel
  exact (WTurn_yes (hw.head.cell 1) (hw.head.frozen 1) hn h0 h1).mono fun e w' ⟨he, hw'⟩ => ⟨he, by rw [hw']; exact hfin⟩
end

/-- The log, with its files. -/
def LogX (C : Nat) (w0 : World) (lb wb b h n : Nat) (Q : Nat → List WRec) (u : Nat) (R : List Row) (O : Nat → Option Obj) (w : World) : Prop :=
  ∃ D ms v, ms.length = n ∧ LogD C D ms v Q u ∧ RX (PLog lb wb b D h n) w0 R O w
section
variable {C : Nat} {w0 w w' : World} {lb wb b h n u : Nat} {Q : Nat → List WRec} {R R' : List Row} {r : Row} {O O' : Nat → Option Obj}
theorem LogX.grew (hl : LogX C w0 lb wb b h n Q u R O w) : Below w0.heap.size w0 w := by obtain ⟨D, ms, v, h1, h2, h3⟩ := hl; exact h3.grew
theorem LogX.below (hl : LogX C w0 lb wb b h n Q u R O w) (hB : Below w.heap.size w w') : LogX C w0 lb wb b h n Q u R O w' := by
  obtain ⟨D, ms, v, h1, h2, h3⟩ := hl; exact ⟨D, ms, v, h1, h2, h3.below (kind_log _ _ _ _ _ _) hB⟩
theorem LogX.less (hl : LogX C w0 lb wb b h n Q u R O w) (hO : ∀ k o, O' k = some o → O k = some o) : LogX C w0 lb wb b h n Q u R O' w := by
  obtain ⟨D, ms, v, h1, h2, h3⟩ := hl; exact ⟨D, ms, v, h1, h2, h3.less hO⟩
theorem LogX.bare (hl : LogX C w0 lb wb b h n Q u R O w) : LogX C w0 lb wb b h n Q u R (fun _ => none) w := hl.less (fun k o ho => by cases ho)
theorem LogX.one (hl : LogX C w0 lb wb b h n Q u R O w) (c : Array Value) (Y : TypeId) : LogX C w0 lb wb b h n Q u R (OAnd O w.heap.size (.cells c Y)) (w.alloc (.cells c Y)) := by
  obtain ⟨D, ms, v, h1, h2, h3⟩ := hl; exact ⟨D, ms, v, h1, h2, h3.one (kind_log _ _ _ _ _ _) c Y⟩
theorem LogX.nil (hl : LogX C w0 lb wb b h n Q u R O w) (S : TypeId) (sz : Nat) : LogX C w0 lb wb b h n Q u (⟨S, sz, .slice none 0 0, 0, []⟩ :: R) O w := by
  obtain ⟨D, ms, v, h1, h2, h3⟩ := hl; exact ⟨D, ms, v, h1, h2, h3.nil S sz⟩
theorem LogX.tail (hl : LogX C w0 lb wb b h n Q u (r :: R) O w) : LogX C w0 lb wb b h n Q u R O w := by
  obtain ⟨D, ms, v, h1, h2, h3⟩ := hl; exact ⟨D, ms, v, h1, h2, h3.tail⟩
theorem LogX.perm (hl : LogX C w0 lb wb b h n Q u R O w) (hp : R.Perm R') : LogX C w0 lb wb b h n Q u R' O w := by
  obtain ⟨D, ms, v, h1, h2, h3⟩ := hl; exact ⟨D, ms, v, h1, h2, h3.perm hp⟩
theorem LogX.push {S : TypeId} {sz : Nat} {v : Value} {len : Nat} {cs : List Value} (hl : LogX C w0 lb wb b h n Q u (⟨S, sz, v, len, cs⟩ :: R) O w) {v' : Value} {len' : Nat} {cs' : List Value} (hA : Appended w S sz v v' w' len' cs') : LogX C w0 lb wb b h n Q u (⟨S, sz, v', len', cs'⟩ :: R) O w' := by
  obtain ⟨D, ms, vv, h1, h2, h3⟩ := hl; exact ⟨D, ms, vv, h1, h2, h3.push (kind_log _ _ _ _ _ _) hA⟩
theorem LogX.block (hl : LogX C w0 lb wb b h n Q u R O w) {k : Nat} {o : Obj} (ho : O k = some o) : w.heap[k]? = some o := by
  obtain ⟨D, ms, v, h1, h2, h3⟩ := hl; exact h3.block ho
theorem LogX.row (hl : LogX C w0 lb wb b h n Q u R O w) (hr : r ∈ R) : w.ownsRow 0 r.S r.sz r.v r.len r.cs := by
  obtain ⟨D, ms, v, h1, h2, h3⟩ := hl; exact h3.row r hr
theorem LogX.more (u' : Nat) (hl : LogX C w0 lb wb b h n Q u R O w) (hu : u ≤ u') : LogX C w0 lb wb b h n Q u' R O w := by
  obtain ⟨D, ms, v, h1, h2, h3⟩ := hl
  exact ⟨D, ms, v, h1, ⟨h2.wheel, h2.cap, h2.size, Nat.le_trans h2.waits hu, h2.marks, h2.small, h2.chain⟩, h3⟩
end
end Go.Proofs.Ytndpmjanflahhaa
