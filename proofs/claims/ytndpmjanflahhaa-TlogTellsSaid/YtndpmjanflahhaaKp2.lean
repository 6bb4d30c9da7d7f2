/-
  (*disk.Disk).Same at disks that have the same; reveilleref01.Same at lists that are one.
-/
import Derived.Test.YtndpmjanflahhaaMH
import Derived.Test.YtndpmjanflahhaaMJ
import Derived.Deep.QuietTactic
import Derived.BigQuiet
import Derived.Deep.RegionWith
import Derived.Deep.LoopGhost
namespace Go.Proofs.Ytndpmjanflahhaa
open Go.RowKit Go.MapKept

set_option maxRecDepth 100000 in
theorem run_look_ok {w : World} {m : Nat} {l : List FileA} (hn : (l.map (·.name)).Nodup) (h : IsMap w m (l.map FileA.entry)) {n : ByteArray} {f : FileA} (hf : findF l n = some f) :
    (Instr.lookup 117 (.map (some m)) (.string n) true).run Try.prog w = .ok (.tuple #[.pointer (some ⟨f.id, 0, none⟩), .bool true]) w := by
  obtain ⟨hfm, rfl⟩ := findF_some hf
  obtain ⟨es, clock, hb, hs, he⟩ := h
  have hm := Try.underlying117
  have hd := Try.underlying9
  have hk : IsKey .string (.string f.name) := trivial
  rcases findNow_spec hk es.toList 0 (entries_isKey he) with ⟨h1, h2⟩ | ⟨j, e, h1, h2, h3⟩
  · have : f.entry ∈ es.toList.map (fun e => (e.key, e.val)) := by rw [he]; exact List.mem_map.2 ⟨f, hfm, rfl⟩
    obtain ⟨x, hx, hxe⟩ := List.mem_map.1 this
    unfold FileA.entry at hxe
    simp only [Prod.mk.injEq] at hxe
    exact absurd hxe.1 (h2 x hx)
  · obtain ⟨g, hgm, hkey, hval⟩ := entries_key he e (List.mem_of_getElem? h2)
    rw [h3] at hkey
    have hgn : g.name = f.name := by injection hkey with hkey; exact hkey.symm
    have hgf : g = f := nodup_name_eq hn hgm hfm hgn
    subst hgf
    unfold ptr at hval
    simp [Instr.lookup, run_underlying hm, MapKept.run_getObj_map hb, run_checkKey hd hk, run_findKey hd h1, hval, Result.andThen]

theorem below_drewN (w : World) (n : Nat) : Below w.heap.size w (w.drewN n) := ⟨rfl, rfl, rfl, Nat.le_refl _, fun _ _ => rfl⟩

set_option maxRecDepth 100000 in
theorem same1_yes (p q : Nat) (s : ByteArray) (w : World) (h1 : w.cell? ⟨p, 1, none⟩ = some (.string s)) (h2 : w.cell? ⟨q, 1, none⟩ = some (.string s)) :
    Calls Try.prog 100 #[.pointer (some ⟨p, 0, none⟩), .pointer (some ⟨q, 0, none⟩)] w fun e w' => e = .returned (.bool true) ∧ Below w.heap.size w w' := by
  go_enter Try.func100, Try.ntmps100
  go_wp2
  go_quiet (fail)
  go_wp2
  go_ret
  exact ⟨by simp, below_drewN w _⟩
theorem enter_same1 (args : Array Value) (w : World) : (callFunc 100 args).run Try.prog w = .ok (.enter 100 args) w :=
  run_enter Try.func100 (by kernel_rfl) rfl args w

/-- One has what the other has. -/
def HasAll (D E : DiskA) : Prop := D.files.length = E.files.length ∧ ∀ f ∈ D.files, ∃ g, findF E.files f.name = some g ∧ g.now = f.now

set_option maxRecDepth 100000 in
set_option maxHeartbeats 2000000 in
theorem EqualFunc_yes (D E : DiskA) (m1 m2 : Nat) (w : World) (hD : D.Ok) (hE : E.Ok) (h1 : IsMap w m1 (D.files.map FileA.entry)) (h2 : IsMap w m2 (E.files.map FileA.entry)) (k1 : ∀ f ∈ D.files, Blk w f.id #[.string f.image, .string f.now] 124) (k2 : ∀ f ∈ E.files, Blk w f.id #[.string f.image, .string f.now] 124) (hs : HasAll D E) :
    Calls Try.prog 99 #[.map (some m1), .map (some m2), .func (.func 100) #[] #[]] w fun e w' => e = .returned (.bool true) ∧ Below w.heap.size w w' := by
  have hml : maxLen = 9223372036854775807 := by decide
  obtain ⟨X, hown1, _, hz1⟩ := files_ownsMap h1 (fun f hf => by have := hD.nameLen f hf; omega) (by have := hD.files; omega)
  obtain ⟨Y, hown2, _, hz2⟩ := files_ownsMap h2 (fun f hf => by have := hE.nameLen f hf; omega) (by have := hE.files; omega)
  have hl1 := fun ty => hown1.len Try.underlying117 ty
  have hl2 := fun ty => hown2.len Try.underlying117 ty
  rw [hz1] at hl1
  rw [hz2, ← hs.1] at hl2
  obtain ⟨hrg, hit⟩ := Iter.start h1
  have hn1 := hD.names
  have hn2 := hE.names
  have hfd := hs.2
  have hm2 := h2.lt
  have h2' := Lib.hid h2
  have k1' := Lib.hid k1
  have k2' := Lib.hid k2
  have hfd' := Lib.hid hfd
  have hn2' := Lib.hid hn2
  generalize D.files = fs at *
  obtain ⟨ln, hln⟩ : ∃ ln, fs.length = ln := ⟨_, rfl⟩
  rw [hln] at hl1 hl2
  have hln' := Lib.hid hln
  clear hml hown1 hown2 hz1 hz2 hs h1 h2 k1 k2 hfd hn2 hD hE hln
  go_enter Try.func99, Try.ntmps99
  go_wp2
  go_loopg [] ln (fun g wr => ∃ (left : List FileA), Iter wr w.heap.size m1 fs left ∧ Below w.heap.size w wr ∧ left.length = g)
  case atStart => exact ⟨fs, hit, (Below.refl _ w).alloc (Nat.le_refl _) _, hln'.out⟩
  case round =>
    obtain ⟨left, hI, hB, hg⟩ := hrel
    rcases hI.next hn1 with ⟨rfl, hnx⟩ | ⟨f, hf, hff, w2, hg2, hsz2, hI2, hnx, hen⟩
    · clear hg
      go_wp2
      go_ret
      exact ⟨rfl, hB⟩
    · have hB2 : Below w.heap.size w w2 := hB.grown hg2 (by have := hB.size; exact this) (fun k hk => by injection hk with hk; omega)
      obtain ⟨q, hq, hqn⟩ := hfd'.out f hff
      have hlk := run_look_ok hn2'.out (h2'.out.at (hB2.block _ hm2)) hq
      have c1 : w2.cell? ⟨f.id, 1, none⟩ = some (.string f.now) := ((k1'.out f hff).at (hB2.block _ (k1'.out f hff).lt)).cell 1
      have c2 : w2.cell? ⟨q.id, 1, none⟩ = some (.string f.now) := by rw [← hqn]; exact ((k2'.out q (findF_some hq).1).at (hB2.block _ (k2'.out q (findF_some hq).1).lt)).cell 1
      have cS := same1_yes f.id q.id f.now w2 c1 c2
      have hwl := without_length hf
      have hg' := Lib.hid hg
      clear hg hq hqn
      go_wp2_with fail
      refine cS.mono ?_
      rintro e w3 ⟨rfl, hb3⟩
      go_wp2_with fail
      go_roundg (without left f).length
      case measure => have := hg'.out; omega
      case rel => exact ⟨without left f, hI2.at (hb3.block _ (by have := hB2.size; have := hI2; obtain ⟨_, _, _, hh, _⟩ := hI2; exact (Array.getElem?_eq_some_iff.1 hh).1)) (hb3.block _ (by obtain ⟨_, _, _, _, hh, _⟩ := hI2; exact (Array.getElem?_eq_some_iff.1 hh).1)), hB2.trans (hb3.mono hB2.size), rfl⟩

set_option maxRecDepth 100000 in
set_option maxHeartbeats 2000000 in
theorem Same_yes (b1 b2 : Nat) (D E : DiskA) (F G : Nat → Prop) (w : World) (h1 : IsDisk w b1 D F) (h2 : IsDisk w b2 E G) (hs : HasAll D E) :
    Calls Try.prog 57 #[.pointer (some ⟨b1, 0, none⟩), .pointer (some ⟨b2, 0, none⟩)] w fun e w' => e = .returned (.bool true) ∧ Below w.heap.size w w' := by
  obtain ⟨m1, v1, hb1, hm1, _⟩ := h1.head
  obtain ⟨m2, v2, hb2, hm2, _⟩ := h2.head
  have c1 : w.cell? ⟨b1, 2, none⟩ = some (.map (some m1)) := hb1.cell 2
  have c2 : w.cell? ⟨b2, 2, none⟩ = some (.map (some m2)) := hb2.cell 2
  have hd : Below w.heap.size w w.drew := (Below.refl _ w).drew
  have cE := EqualFunc_yes D E m1 m2 w.drew h1.ok h2.ok (hm1.at (hd.block _ hm1.lt)) (hm2.at (hd.block _ hm2.lt)) (fun f hf => ((h1.files f hf).2).at (hd.block _ (h1.files f hf).2.lt)) (fun f hf => ((h2.files f hf).2).at (hd.block _ (h2.files f hf).2.lt)) hs
  clear hb1 hb2 hm1 hm2 h1 h2 hs hd
  go_enter Try.func57, Try.ntmps57
  go_wp2
  go_region_with (go_at_call 99; refine cE.mono ?_; rintro e w1 ⟨rfl, hb1⟩)
  all_goals
    go_wp2
    go_ret
    exact ⟨rfl, (Below.refl _ w).drew.trans hb1⟩

theorem StrSl.below {w w' : World} {a : Option Addr} {ss : List ByteArray} (h : StrSl w a ss) (hB : Below w.heap.size w w') : StrSl w' a ss := by
  intro i s hi
  obtain ⟨b, off, ha, hc⟩ := h i s hi
  exact ⟨b, off, ha, (hB.cell (p := ⟨b, off + i, none⟩) (World.block_lt_of_cell? _ _ hc)).trans hc⟩
set_option maxRecDepth 100000 in
set_option maxHeartbeats 2000000 in
theorem RSame_yes (a1 a2 : Option Addr) (cap1 cap2 : Nat) (ss : List ByteArray) (w : World) (hl : ss.length ≤ 9223372036854775807) (h1 : StrSl w a1 ss) (h2 : StrSl w a2 ss) :
    Calls Try.prog 58 #[.slice a1 ss.length cap1, .slice a2 ss.length cap2] w fun e w' => e = .returned (.bool true) ∧ Below w.heap.size w w' := by
  obtain ⟨n, hn⟩ : ∃ n, ss.length = n := ⟨_, rfl⟩
  rw [hn] at hl ⊢
  have hn' := Lib.hid hn
  have h1' := Lib.hid h1
  have h2' := Lib.hid h2
  clear hn h1 h2
  go_enter Try.func58, Try.ntmps58
  go_wp2
  go_loopw [5] (fun i wr => ∃ k : Nat, k ≤ n ∧ i = .int .i64 k ∧ Below w.heap.size w wr) (fun i _ => n - (intOf i).toNat)
  case atStart => exact ⟨0, by omega, rfl, Below.refl _ _⟩
  case round =>
    obtain ⟨k, hk, rfl, hB⟩ := hrel
    by_cases hkn : k < n
    · have hkl : k < ss.length := by rw [hn'.out]; exact hkn
      obtain ⟨s, hs⟩ : ∃ s, ss[k]? = some s := ⟨ss[k], by simp [hkl]⟩
      obtain ⟨g1, o1, rfl, d1⟩ := (h1'.out.below hB) k s hs
      obtain ⟨g2, o2, rfl, d2⟩ := (h2'.out.below hB) k s hs
      have i0 : (0 : Int) ≤ k := by omega
      have i1 : (k : Int) < n := by omega
      clear hs hkl
      go_wp2
      go_quiet (fail)
      go_wp2
      go_roundw
      case rel => exact ⟨k + 1, by omega, by go_num, hB.trans ((below_drewN _ _).mono hB.size)⟩
      case measure => simp [intOf]; omega
    · go_wp2
      go_ret
      exact ⟨rfl, hB⟩
end Go.Proofs.Ytndpmjanflahhaa
