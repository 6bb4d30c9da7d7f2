/-
  The files' map at the machine's operations: a look-up, a store, a delete; what bars a call.
-/
import Derived.Test.YtndpmjanflahhaaDk1
namespace Go.Proofs.Ytndpmjanflahhaa
open Go.RowKit Go.MapKept

def findF (l : List FileA) (n : ByteArray) : Option FileA := l.find? (fun f => f.name == n)
def lookV (l : List FileA) (n : ByteArray) : Value := match findF l n with | some f => ptr f.id | none => .pointer none

theorem findF_some {l : List FileA} {n : ByteArray} {f : FileA} (h : findF l n = some f) : f ∈ l ∧ f.name = n :=
  ⟨List.mem_of_find?_eq_some h, (bytes_beq _ _).1 (by have := List.find?_some h; simpa using this)⟩
theorem findF_none {l : List FileA} {n : ByteArray} (h : findF l n = none) : ∀ f ∈ l, f.name ≠ n := by
  intro f hf e
  have := List.find?_eq_none.1 h f hf
  exact this ((bytes_beq _ _).2 e)
theorem findF_of {l : List FileA} {f : FileA} (hn : (l.map (·.name)).Nodup) (hf : f ∈ l) : findF l f.name = some f := by
  induction l with
  | nil => cases hf
  | cons x t ih =>
    unfold findF
    rw [List.find?_cons]
    by_cases e : x.name = f.name
    · rw [(bytes_beq _ _).2 e]
      simp only [List.map_cons, List.nodup_cons] at hn
      rcases List.mem_cons.1 hf with rfl | h
      · rfl
      · exact absurd (List.mem_map.2 ⟨f, h, e.symm⟩) hn.1
    · have hne : (x.name == f.name) = false := by
        cases hh : (x.name == f.name)
        · rfl
        · exact absurd ((bytes_beq _ _).1 hh) e
      rw [hne]
      simp only [List.map_cons, List.nodup_cons] at hn
      rcases List.mem_cons.1 hf with rfl | h
      · exact absurd rfl e
      · exact ih hn.2 h

theorem entries_key {es : Array MapEntry} {l : List FileA} (h : es.toList.map (fun e => (e.key, e.val)) = l.map FileA.entry) : ∀ x ∈ es.toList, ∃ f ∈ l, x.key = .string f.name ∧ x.val = ptr f.id := by
  intro x hx
  have : (x.key, x.val) ∈ l.map FileA.entry := by rw [← h]; exact List.mem_map.2 ⟨x, hx, rfl⟩
  obtain ⟨f, hf, e⟩ := List.mem_map.1 this
  unfold FileA.entry at e
  simp only [Prod.mk.injEq] at e
  exact ⟨f, hf, e.1.symm, e.2.symm⟩
theorem entries_isKey {es : Array MapEntry} {l : List FileA} (h : es.toList.map (fun e => (e.key, e.val)) = l.map FileA.entry) : ∀ x ∈ es.toList, IsKey .string x.key := by
  intro x hx
  obtain ⟨f, _, e, _⟩ := entries_key h x hx
  rw [e]; trivial

theorem zero_ptr (w : World) : (zeroValue 121).run Try.prog w = .ok (.pointer none) w := by kernel_rfl

set_option maxRecDepth 100000 in
theorem run_look {w : World} {m : Nat} {l : List FileA} (hn : (l.map (·.name)).Nodup) (h : IsMap w m (l.map FileA.entry)) (n : ByteArray) :
    (Instr.lookup 117 (.map (some m)) (.string n) false).run Try.prog w = .ok (lookV l n) w := by
  obtain ⟨es, clock, hb, hs, he⟩ := h
  have hm := Try.underlying117
  have hd := Try.underlying9
  have hk : IsKey .string (.string n) := trivial
  rcases findNow_spec hk es.toList 0 (entries_isKey he) with ⟨h1, h2⟩ | ⟨j, e, h1, h2, h3⟩
  · have hl : lookV l n = .pointer none := by
      unfold lookV
      cases hf : findF l n with
      | none => rfl
      | some f =>
        obtain ⟨hfm, rfl⟩ := findF_some hf
        have : f.entry ∈ es.toList.map (fun e => (e.key, e.val)) := by rw [he]; exact List.mem_map.2 ⟨f, hfm, rfl⟩
        obtain ⟨x, hx, hxe⟩ := List.mem_map.1 this
        unfold FileA.entry at hxe
        simp only [Prod.mk.injEq] at hxe
        exact absurd hxe.1 (h2 x hx)
    rw [hl]
    simp [Instr.lookup, run_underlying hm, MapKept.run_getObj_map hb, run_checkKey hd hk, run_findKey hd h1, zero_ptr, Result.andThen]
  · obtain ⟨f, hfm, hkey, hval⟩ := entries_key he e (List.mem_of_getElem? h2)
    rw [h3] at hkey
    have hfn : f.name = n := by injection hkey with hkey; exact hkey.symm
    have hl : lookV l n = ptr f.id := by unfold lookV; rw [← hfn, findF_of hn hfm]
    rw [hl]
    simp [Instr.lookup, run_underlying hm, MapKept.run_getObj_map hb, run_checkKey hd hk, run_findKey hd h1, hval, Result.andThen]

/-- What bars a call with some files: nothing, or that it is down, or that one isn't there. -/
def DiskA.bars (D : DiskA) (ss : List ByteArray) : Int := if D.down then 8 else if ss.all (fun s => (findF D.files s).isSome) then 0 else 9

set_option maxHeartbeats 1000000 in
theorem bars_any (b : Nat) (D : DiskA) (F : Nat → Prop) (w : World) (h : IsDisk w b D F) (a : Option Addr) (cap : Nat) (ss : List ByteArray) (hl : ss.length ≤ 1000000) (hr : StrSl w a ss) :
    Calls Try.prog 84 #[ptr b, .slice a ss.length cap] w fun e w' => e = .returned (errn (D.bars ss)) ∧ w = w' := by
  obtain ⟨m, v, hb, hm, hrow, fm, fg⟩ := h.head
  have c1 : w.cell? ⟨b, 1, none⟩ = some (.bool D.down) := hb.cell 1
  have c2 : w.cell? ⟨b, 2, none⟩ = some (.map (some m)) := hb.cell 2
  have hlk := fun n => run_look h.ok.names hm n
  have hD : D.bars ss = if D.down then 8 else if ss.all (fun s => (findF D.files s).isSome) then 0 else 9 := rfl
  have hD' := Lib.hid hD
  generalize D.bars ss = r at *
  obtain ⟨n, hn⟩ : ∃ n, ss.length = n := ⟨_, rfl⟩
  rw [hn]
  have hn' := Lib.hid hn
  rw [hn] at hl
  clear hn hD hb hm hrow fm fg h
  unfold ptr
  cases hdn : D.down <;> rw [hdn] at c1 hD'
  case true =>
    clear hlk
    go_enter Try.func84, Try.ntmps84
    go_wp2
    go_ret
    exact ⟨by rw [hD'.out]; rfl, rfl⟩
  case false =>
    generalize D.files = fs at *
    clear hdn
    go_enter Try.func84, Try.ntmps84
    go_wp2
    go_loop [18] (fun i => ∃ k : Nat, k ≤ n ∧ i = .int .i64 k ∧ Hid ((ss.take k).all (fun s => (findF fs s).isSome) = true)) (fun i => n - (intOf i).toNat)
    case atStart => exact ⟨0, by omega, rfl, rfl⟩
    case round =>
      obtain ⟨k, hk, rfl, hH⟩ := hrel
      by_cases hkn : k < n
      · have hkl : k < ss.length := by rw [hn'.out]; exact hkn
        obtain ⟨b', off, rfl, hcell⟩ := hr.at (by omega)
        obtain ⟨s, hs⟩ : ∃ s, ss[k]? = some s := ⟨ss[k], by simp [hkl]⟩
        have hc := hcell k s hs
        have hst : Hid ((ss.take (k + 1)).all (fun s => (findF fs s).isSome) = ((ss.take k).all (fun s => (findF fs s).isSome) && (findF fs s).isSome)) := by show _ = _; rw [List.take_add_one, hs]; simp
        have hfa : Hid ((findF fs s).isSome = false → ss.all (fun s => (findF fs s).isSome) = false) := by
          intro h
          cases hh : ss.all (fun s => (findF fs s).isSome)
          · rfl
          · rw [List.all_eq_true] at hh; rw [hh s (List.mem_of_getElem? hs)] at h; cases h
        have hlk1 := hlk s
        clear hs hcell hr hkl hlk
        unfold lookV at hlk1
        cases hf : findF fs s with
        | none =>
          rw [hf] at hlk1 hst hfa
          dsimp only at hlk1
          have hr' : Hid (r = 9) := by show _ = _; rw [hD'.out, hfa.out rfl]; rfl
          clear hf
          go_wp2
          go_ret
          exact ⟨by rw [hr'.out]; rfl, rfl⟩
        | some f =>
          rw [hf] at hlk1 hst hfa
          unfold ptr at hlk1
          dsimp only at hlk1
          clear hf
          go_wp2
          go_round
          case measure => simp [intOf]; omega
          case rel => exact ⟨k + 1, by omega, by go_num, by show _ = _; rw [hst.out, hH.out]; rfl⟩
      · have hr' : Hid (r = 0) := by
          show _ = _
          have := hH.out
          rw [List.take_of_length_le (by rw [hn'.out]; omega)] at this
          rw [hD'.out, this]; rfl
        clear hlk
        go_wp2
        go_ret
        exact ⟨by rw [hr'.out]; rfl, rfl⟩
end Go.Proofs.Ytndpmjanflahhaa
