/-
  No cell of these rows narrows 'for every input' (looked for: loops, veiled, ifaces, maps, wideKeys, modest, calm, conditions, laid).
  DERIVED. THE GIVEN ROWS OF THIS SEAT. 17 by the template 'for every input the law returns true; each argument reads behind the call as it read before'; 0 by the template 'total and deterministic' (their statements: YtndpmjanflahhaaTotals.lean).
  GIVEN WITH THE SEED: the statements are not yours to turn. If you find one false, say at which input.
  Laid BY PROGRAM, IN A SANDBOX (cutbox-rows.mjs): the forced cells as the released guide's own fill.sh prints them over the translation 5104b56660460adf… (all of the seat's roots in one cut). By AI agents, Wed Nov 11 2026. No macro, syntax, notation, axiom, sorry.
-/
import Derived.Test.YtndpmjanflahhaaChecked
import GoSem.Claim
import GoSem.ClaimJoined
import GoSem.ClaimMapViews
import Derived.JoinedTies
import Derived.KernelRfl
namespace Go.Proofs.Ytndpmjanflahhaa
/- THE CELL 'sum', in the pinned program and in every row, IS THE sha256 OF THE DUMP (.gsa) THAT YtndpmjanflahhaaProg.lean LOADS. Nothing in Lean hashes anything: it is a label: what it is worth is what the hold of that sum in a sandbox is worth. -/
noncomputable def Try.pinned : Pinned := { name := "ytndpmjanflahhaa", sum := "5104b56660460adf2b34b8e7cdaa7d30e75d8b5f1fbe839c8c7c17395cf12ca5", checked := Try.checked }
namespace Rows
def none {H : Type} : Left H := { results := [], args := [] }

/-- 'reveillelaw03.NameOwn': WHATEVER THE INPUT: true; the input reads as it did. -/
def nameOwnSpec : ChangeSpec := { name := "nameOwn", fn := fun _ => fun
  | [d1, d2] => { results := [.lit (.bool true)], args := [d1, d2] }
  | _ => none }
def nameOwnRow : OpenClaim := { program := "ytndpmjanflahhaa", sum := "5104b56660460adf2b34b8e7cdaa7d30e75d8b5f1fbe839c8c7c17395cf12ca5", func := "reveille/reveillelaw03.NameOwn", spec := "nameOwn", unfollowed := true, recurses := true, apart := false }
def NameOwnSaid : Prop := nameOwnRow.holds Try.pinned (OpenSpec.ofChange nameOwnSpec)

/-- ITS FALSE NEIGHBOUR: 'it returns false'. Refute it at one input. -/
def nameOwnWrong : ChangeSpec := { name := "nameOwn", fn := fun _ => fun
  | [d1, d2] => { results := [.lit (.bool false)], args := [d1, d2] }
  | _ => none }
def NameOwnWrongFalsely : Prop := nameOwnRow.holds Try.pinned (OpenSpec.ofChange nameOwnWrong)

/-- 'reveillelaw03.NameParts': WHATEVER THE INPUT: true; the input reads as it did. -/
def namePartsSpec : ChangeSpec := { name := "nameParts", fn := fun _ => fun
  | [d1, d2] => { results := [.lit (.bool true)], args := [d1, d2] }
  | _ => none }
def namePartsRow : OpenClaim := { program := "ytndpmjanflahhaa", sum := "5104b56660460adf2b34b8e7cdaa7d30e75d8b5f1fbe839c8c7c17395cf12ca5", func := "reveille/reveillelaw03.NameParts", spec := "nameParts", unfollowed := true, recurses := true, apart := false }
def NamePartsSaid : Prop := namePartsRow.holds Try.pinned (OpenSpec.ofChange namePartsSpec)

/-- ITS FALSE NEIGHBOUR: 'it returns false'. Refute it at one input. -/
def namePartsWrong : ChangeSpec := { name := "nameParts", fn := fun _ => fun
  | [d1, d2] => { results := [.lit (.bool false)], args := [d1, d2] }
  | _ => none }
def NamePartsWrongFalsely : Prop := namePartsRow.holds Try.pinned (OpenSpec.ofChange namePartsWrong)

/-- 'reveillelaw03.NameTells': WHATEVER THE INPUT: true; the input reads as it did. -/
def nameTellsSpec : ChangeSpec := { name := "nameTells", fn := fun _ => fun
  | [d] => { results := [.lit (.bool true)], args := [d] }
  | _ => none }
def nameTellsRow : OpenClaim := { program := "ytndpmjanflahhaa", sum := "5104b56660460adf2b34b8e7cdaa7d30e75d8b5f1fbe839c8c7c17395cf12ca5", func := "reveille/reveillelaw03.NameTells", spec := "nameTells", unfollowed := true, recurses := true, apart := false }
def NameTellsSaid : Prop := nameTellsRow.holds Try.pinned (OpenSpec.ofChange nameTellsSpec)

/-- ITS FALSE NEIGHBOUR: 'it returns false'. Refute it at one input. -/
def nameTellsWrong : ChangeSpec := { name := "nameTells", fn := fun _ => fun
  | [d] => { results := [.lit (.bool false)], args := [d] }
  | _ => none }
def NameTellsWrongFalsely : Prop := nameTellsRow.holds Try.pinned (OpenSpec.ofChange nameTellsWrong)

/-- 'reveillelaw03.NameHashes': WHATEVER THE INPUT: true; the input reads as it did. -/
def nameHashesSpec : ChangeSpec := { name := "nameHashes", fn := fun _ => fun
  | [d] => { results := [.lit (.bool true)], args := [d] }
  | _ => none }
def nameHashesRow : OpenClaim := { program := "ytndpmjanflahhaa", sum := "5104b56660460adf2b34b8e7cdaa7d30e75d8b5f1fbe839c8c7c17395cf12ca5", func := "reveille/reveillelaw03.NameHashes", spec := "nameHashes", unfollowed := true, recurses := true, apart := false }
def NameHashesSaid : Prop := nameHashesRow.holds Try.pinned (OpenSpec.ofChange nameHashesSpec)

/-- ITS FALSE NEIGHBOUR: 'it returns false'. Refute it at one input. -/
def nameHashesWrong : ChangeSpec := { name := "nameHashes", fn := fun _ => fun
  | [d] => { results := [.lit (.bool false)], args := [d] }
  | _ => none }
def NameHashesWrongFalsely : Prop := nameHashesRow.holds Try.pinned (OpenSpec.ofChange nameHashesWrong)

/-- 'reveillelaw04.DiskLasts': WHATEVER THE INPUT: true; the input reads as it did. -/
def diskLastsSpec : ChangeSpec := { name := "diskLasts", fn := fun _ => fun
  | [d1, d2] => { results := [.lit (.bool true)], args := [d1, d2] }
  | _ => none }
def diskLastsRow : OpenClaim := { program := "ytndpmjanflahhaa", sum := "5104b56660460adf2b34b8e7cdaa7d30e75d8b5f1fbe839c8c7c17395cf12ca5", func := "reveille/reveillelaw04.DiskLasts", spec := "diskLasts", unfollowed := true, recurses := true, apart := false }
def DiskLastsSaid : Prop := diskLastsRow.holds Try.pinned (OpenSpec.ofChange diskLastsSpec)

/-- ITS FALSE NEIGHBOUR: 'it returns false'. Refute it at one input. -/
def diskLastsWrong : ChangeSpec := { name := "diskLasts", fn := fun _ => fun
  | [d1, d2] => { results := [.lit (.bool false)], args := [d1, d2] }
  | _ => none }
def DiskLastsWrongFalsely : Prop := diskLastsRow.holds Try.pinned (OpenSpec.ofChange diskLastsWrong)

/-- 'reveillelaw15.WheelLaps': WHATEVER THE INPUT: true; the input reads as it did. -/
def wheelLapsSpec : ChangeSpec := { name := "wheelLaps", fn := fun _ => fun
  | [d1, d2] => { results := [.lit (.bool true)], args := [d1, d2] }
  | _ => none }
def wheelLapsRow : OpenClaim := { program := "ytndpmjanflahhaa", sum := "5104b56660460adf2b34b8e7cdaa7d30e75d8b5f1fbe839c8c7c17395cf12ca5", func := "reveille/reveillelaw15.WheelLaps", spec := "wheelLaps", unfollowed := true, recurses := true, apart := false }
def WheelLapsSaid : Prop := wheelLapsRow.holds Try.pinned (OpenSpec.ofChange wheelLapsSpec)

/-- ITS FALSE NEIGHBOUR: 'it returns false'. Refute it at one input. -/
def wheelLapsWrong : ChangeSpec := { name := "wheelLaps", fn := fun _ => fun
  | [d1, d2] => { results := [.lit (.bool false)], args := [d1, d2] }
  | _ => none }
def WheelLapsWrongFalsely : Prop := wheelLapsRow.holds Try.pinned (OpenSpec.ofChange wheelLapsWrong)

/-- 'reveillelaw04.DiskRoom': WHATEVER THE INPUT: true; the input reads as it did. -/
def diskRoomSpec : ChangeSpec := { name := "diskRoom", fn := fun _ => fun
  | [d1, d2] => { results := [.lit (.bool true)], args := [d1, d2] }
  | _ => none }
def diskRoomRow : OpenClaim := { program := "ytndpmjanflahhaa", sum := "5104b56660460adf2b34b8e7cdaa7d30e75d8b5f1fbe839c8c7c17395cf12ca5", func := "reveille/reveillelaw04.DiskRoom", spec := "diskRoom", unfollowed := true, recurses := true, apart := false }
def DiskRoomSaid : Prop := diskRoomRow.holds Try.pinned (OpenSpec.ofChange diskRoomSpec)

/-- ITS FALSE NEIGHBOUR: 'it returns false'. Refute it at one input. -/
def diskRoomWrong : ChangeSpec := { name := "diskRoom", fn := fun _ => fun
  | [d1, d2] => { results := [.lit (.bool false)], args := [d1, d2] }
  | _ => none }
def DiskRoomWrongFalsely : Prop := diskRoomRow.holds Try.pinned (OpenSpec.ofChange diskRoomWrong)

/-- 'reveillelaw04.DiskKeeps': WHATEVER THE INPUT: true; the input reads as it did. -/
def diskKeepsSpec : ChangeSpec := { name := "diskKeeps", fn := fun _ => fun
  | [d] => { results := [.lit (.bool true)], args := [d] }
  | _ => none }
def diskKeepsRow : OpenClaim := { program := "ytndpmjanflahhaa", sum := "5104b56660460adf2b34b8e7cdaa7d30e75d8b5f1fbe839c8c7c17395cf12ca5", func := "reveille/reveillelaw04.DiskKeeps", spec := "diskKeeps", unfollowed := true, recurses := true, apart := false }
def DiskKeepsSaid : Prop := diskKeepsRow.holds Try.pinned (OpenSpec.ofChange diskKeepsSpec)

/-- ITS FALSE NEIGHBOUR: 'it returns false'. Refute it at one input. -/
def diskKeepsWrong : ChangeSpec := { name := "diskKeeps", fn := fun _ => fun
  | [d] => { results := [.lit (.bool false)], args := [d] }
  | _ => none }
def DiskKeepsWrongFalsely : Prop := diskKeepsRow.holds Try.pinned (OpenSpec.ofChange diskKeepsWrong)

/-- 'reveillelaw15.WheelSlots': WHATEVER THE INPUT: true; the input reads as it did. -/
def wheelSlotsSpec : ChangeSpec := { name := "wheelSlots", fn := fun _ => fun
  | [d1, d2] => { results := [.lit (.bool true)], args := [d1, d2] }
  | _ => none }
def wheelSlotsRow : OpenClaim := { program := "ytndpmjanflahhaa", sum := "5104b56660460adf2b34b8e7cdaa7d30e75d8b5f1fbe839c8c7c17395cf12ca5", func := "reveille/reveillelaw15.WheelSlots", spec := "wheelSlots", inPlace := ["internal/abi.NoEscape"], unfollowed := true, recurses := true, apart := false }
def WheelSlotsSaid : Prop := wheelSlotsRow.holds Try.pinned (OpenSpec.ofChange wheelSlotsSpec)

/-- ITS FALSE NEIGHBOUR: 'it returns false'. Refute it at one input. -/
def wheelSlotsWrong : ChangeSpec := { name := "wheelSlots", fn := fun _ => fun
  | [d1, d2] => { results := [.lit (.bool false)], args := [d1, d2] }
  | _ => none }
def WheelSlotsWrongFalsely : Prop := wheelSlotsRow.holds Try.pinned (OpenSpec.ofChange wheelSlotsWrong)

/-- 'reveillelaw15.WheelApart': WHATEVER THE INPUT: true; the input reads as it did. -/
def wheelApartSpec : ChangeSpec := { name := "wheelApart", fn := fun _ => fun
  | [d] => { results := [.lit (.bool true)], args := [d] }
  | _ => none }
def wheelApartRow : OpenClaim := { program := "ytndpmjanflahhaa", sum := "5104b56660460adf2b34b8e7cdaa7d30e75d8b5f1fbe839c8c7c17395cf12ca5", func := "reveille/reveillelaw15.WheelApart", spec := "wheelApart", inPlace := ["internal/abi.NoEscape"], unfollowed := true, recurses := true, apart := false }
def WheelApartSaid : Prop := wheelApartRow.holds Try.pinned (OpenSpec.ofChange wheelApartSpec)

/-- ITS FALSE NEIGHBOUR: 'it returns false'. Refute it at one input. -/
def wheelApartWrong : ChangeSpec := { name := "wheelApart", fn := fun _ => fun
  | [d] => { results := [.lit (.bool false)], args := [d] }
  | _ => none }
def WheelApartWrongFalsely : Prop := wheelApartRow.holds Try.pinned (OpenSpec.ofChange wheelApartWrong)

/-- 'reveillelaw15.WheelTurns': WHATEVER THE INPUT: true; the input reads as it did. -/
def wheelTurnsSpec : ChangeSpec := { name := "wheelTurns", fn := fun _ => fun
  | [d1, d2] => { results := [.lit (.bool true)], args := [d1, d2] }
  | _ => none }
def wheelTurnsRow : OpenClaim := { program := "ytndpmjanflahhaa", sum := "5104b56660460adf2b34b8e7cdaa7d30e75d8b5f1fbe839c8c7c17395cf12ca5", func := "reveille/reveillelaw15.WheelTurns", spec := "wheelTurns", inPlace := ["internal/abi.NoEscape"], unfollowed := true, recurses := true, apart := false }
def WheelTurnsSaid : Prop := wheelTurnsRow.holds Try.pinned (OpenSpec.ofChange wheelTurnsSpec)

/-- ITS FALSE NEIGHBOUR: 'it returns false'. Refute it at one input. -/
def wheelTurnsWrong : ChangeSpec := { name := "wheelTurns", fn := fun _ => fun
  | [d1, d2] => { results := [.lit (.bool false)], args := [d1, d2] }
  | _ => none }
def WheelTurnsWrongFalsely : Prop := wheelTurnsRow.holds Try.pinned (OpenSpec.ofChange wheelTurnsWrong)

/-- 'reveillelaw11.KeyxMost': WHATEVER THE INPUT: true; the input reads as it did. -/
def keyxMostSpec : ChangeSpec := { name := "keyxMost", fn := fun _ => fun
  | [d1, d2, d3] => { results := [.lit (.bool true)], args := [d1, d2, d3] }
  | _ => none }
def keyxMostRow : OpenClaim := { program := "ytndpmjanflahhaa", sum := "5104b56660460adf2b34b8e7cdaa7d30e75d8b5f1fbe839c8c7c17395cf12ca5", func := "reveille/reveillelaw11.KeyxMost", spec := "keyxMost", inPlace := ["internal/abi.NoEscape"], unfollowed := true, recurses := true, apart := false }
def KeyxMostSaid : Prop := keyxMostRow.holds Try.pinned (OpenSpec.ofChange keyxMostSpec)

/-- ITS FALSE NEIGHBOUR: 'it returns false'. Refute it at one input. -/
def keyxMostWrong : ChangeSpec := { name := "keyxMost", fn := fun _ => fun
  | [d1, d2, d3] => { results := [.lit (.bool false)], args := [d1, d2, d3] }
  | _ => none }
def KeyxMostWrongFalsely : Prop := keyxMostRow.holds Try.pinned (OpenSpec.ofChange keyxMostWrong)

/-- 'reveillelaw11.KeyxFinds': WHATEVER THE INPUT: true; the input reads as it did. -/
def keyxFindsSpec : ChangeSpec := { name := "keyxFinds", fn := fun _ => fun
  | [d1, d2, d3] => { results := [.lit (.bool true)], args := [d1, d2, d3] }
  | _ => none }
def keyxFindsRow : OpenClaim := { program := "ytndpmjanflahhaa", sum := "5104b56660460adf2b34b8e7cdaa7d30e75d8b5f1fbe839c8c7c17395cf12ca5", func := "reveille/reveillelaw11.KeyxFinds", spec := "keyxFinds", inPlace := ["internal/abi.NoEscape"], unfollowed := true, recurses := true, apart := false }
def KeyxFindsSaid : Prop := keyxFindsRow.holds Try.pinned (OpenSpec.ofChange keyxFindsSpec)

/-- ITS FALSE NEIGHBOUR: 'it returns false'. Refute it at one input. -/
def keyxFindsWrong : ChangeSpec := { name := "keyxFinds", fn := fun _ => fun
  | [d1, d2, d3] => { results := [.lit (.bool false)], args := [d1, d2, d3] }
  | _ => none }
def KeyxFindsWrongFalsely : Prop := keyxFindsRow.holds Try.pinned (OpenSpec.ofChange keyxFindsWrong)

/-- 'reveillelaw11.KeyxChains': WHATEVER THE INPUT: true; the input reads as it did. -/
def keyxChainsSpec : ChangeSpec := { name := "keyxChains", fn := fun _ => fun
  | [d] => { results := [.lit (.bool true)], args := [d] }
  | _ => none }
def keyxChainsRow : OpenClaim := { program := "ytndpmjanflahhaa", sum := "5104b56660460adf2b34b8e7cdaa7d30e75d8b5f1fbe839c8c7c17395cf12ca5", func := "reveille/reveillelaw11.KeyxChains", spec := "keyxChains", inPlace := ["internal/abi.NoEscape"], unfollowed := true, recurses := true, apart := false }
def KeyxChainsSaid : Prop := keyxChainsRow.holds Try.pinned (OpenSpec.ofChange keyxChainsSpec)

/-- ITS FALSE NEIGHBOUR: 'it returns false'. Refute it at one input. -/
def keyxChainsWrong : ChangeSpec := { name := "keyxChains", fn := fun _ => fun
  | [d] => { results := [.lit (.bool false)], args := [d] }
  | _ => none }
def KeyxChainsWrongFalsely : Prop := keyxChainsRow.holds Try.pinned (OpenSpec.ofChange keyxChainsWrong)

/-- 'reveillelaw16.TlogFar': WHATEVER THE INPUT: true; the input reads as it did. -/
def tlogFarSpec : ChangeSpec := { name := "tlogFar", fn := fun _ => fun
  | [d1, d2] => { results := [.lit (.bool true)], args := [d1, d2] }
  | _ => none }
def tlogFarRow : OpenClaim := { program := "ytndpmjanflahhaa", sum := "5104b56660460adf2b34b8e7cdaa7d30e75d8b5f1fbe839c8c7c17395cf12ca5", func := "reveille/reveillelaw16.TlogFar", spec := "tlogFar", inPlace := ["internal/abi.NoEscape"], unfollowed := true, recurses := true, apart := false }
def TlogFarSaid : Prop := tlogFarRow.holds Try.pinned (OpenSpec.ofChange tlogFarSpec)

/-- ITS FALSE NEIGHBOUR: 'it returns false'. Refute it at one input. -/
def tlogFarWrong : ChangeSpec := { name := "tlogFar", fn := fun _ => fun
  | [d1, d2] => { results := [.lit (.bool false)], args := [d1, d2] }
  | _ => none }
def TlogFarWrongFalsely : Prop := tlogFarRow.holds Try.pinned (OpenSpec.ofChange tlogFarWrong)

/-- 'reveillelaw16.TlogTells': WHATEVER THE INPUT: true; the input reads as it did. -/
def tlogTellsSpec : ChangeSpec := { name := "tlogTells", fn := fun _ => fun
  | [d1, d2] => { results := [.lit (.bool true)], args := [d1, d2] }
  | _ => none }
def tlogTellsRow : OpenClaim := { program := "ytndpmjanflahhaa", sum := "5104b56660460adf2b34b8e7cdaa7d30e75d8b5f1fbe839c8c7c17395cf12ca5", func := "reveille/reveillelaw16.TlogTells", spec := "tlogTells", inPlace := ["internal/abi.NoEscape"], unfollowed := true, recurses := true, apart := false }
def TlogTellsSaid : Prop := tlogTellsRow.holds Try.pinned (OpenSpec.ofChange tlogTellsSpec)

/-- ITS FALSE NEIGHBOUR: 'it returns false'. Refute it at one input. -/
def tlogTellsWrong : ChangeSpec := { name := "tlogTells", fn := fun _ => fun
  | [d1, d2] => { results := [.lit (.bool false)], args := [d1, d2] }
  | _ => none }
def TlogTellsWrongFalsely : Prop := tlogTellsRow.holds Try.pinned (OpenSpec.ofChange tlogTellsWrong)

/-- 'reveillelaw16.TlogOrder': WHATEVER THE INPUT: true; the input reads as it did. -/
def tlogOrderSpec : ChangeSpec := { name := "tlogOrder", fn := fun _ => fun
  | [d] => { results := [.lit (.bool true)], args := [d] }
  | _ => none }
def tlogOrderRow : OpenClaim := { program := "ytndpmjanflahhaa", sum := "5104b56660460adf2b34b8e7cdaa7d30e75d8b5f1fbe839c8c7c17395cf12ca5", func := "reveille/reveillelaw16.TlogOrder", spec := "tlogOrder", inPlace := ["internal/abi.NoEscape"], unfollowed := true, recurses := true, apart := false }
def TlogOrderSaid : Prop := tlogOrderRow.holds Try.pinned (OpenSpec.ofChange tlogOrderSpec)

/-- ITS FALSE NEIGHBOUR: 'it returns false'. Refute it at one input. -/
def tlogOrderWrong : ChangeSpec := { name := "tlogOrder", fn := fun _ => fun
  | [d] => { results := [.lit (.bool false)], args := [d] }
  | _ => none }
def TlogOrderWrongFalsely : Prop := tlogOrderRow.holds Try.pinned (OpenSpec.ofChange tlogOrderWrong)

/- THE SECOND FORM. 'bulk': how many values and letters a reading holds, each counted each time it is reached (what is shared counts as often as it is met; a slice's spare places count too). A statement '..UptoSaid' is the law's where the arguments, and the package variables that the reading takes, are together of bulk at most 1048576: NARROWER than '..Said'. Prove '..Said' where nothing that the law and all that it calls make is longer than what came in: it says more and counts as full. Else prove '..UptoSaid'. A law counts once. -/
mutual
def uptoBulk {H : Type} : DataW H → Nat
  | .lit (.string bytes) => bytes.length + 1
  | .lit _ => 1
  | .nil => 1
  | .ptr d => uptoBulk d + 1
  | .slice elems spare => uptoBulkAll elems + uptoBulkAll spare + 1
  | .agg parts => uptoBulkAll parts + 1
  | .iface _ d => uptoBulk d + 1
  | .map entries => uptoBulkEntries entries + 1
  | .held _ => 1
def uptoBulkAll {H : Type} : List (DataW H) → Nat
  | [] => 0
  | d :: r => uptoBulk d + uptoBulkAll r
def uptoBulkEntries {H : Type} : List (Lit × DataW H) → Nat
  | [] => 0
  | x :: r => uptoBulkEntry x + uptoBulkEntries r
def uptoBulkEntry {H : Type} : Lit × DataW H → Nat
  | (.string bytes, d) => bytes.length + uptoBulk d + 1
  | (_, d) => uptoBulk d + 1
 end
def uptoSmall : (H : Type) → List (DataW H) → Bool := fun _ ds => decide (uptoBulkAll ds ≤ 1048576)
def OpenSpec.upto (s : _root_.Go.ChangeSpec) : _root_.Go.OpenSpec := { _root_.Go.OpenSpec.ofChange s with cond := some uptoSmall }

/-- 'reveillelaw03.NameOwn', WHERE WHAT IT READS IS OF BULK AT MOST 1048576: true; the input reads as it did. -/
def nameOwnUptoRow : OpenClaim := { program := "ytndpmjanflahhaa", sum := "5104b56660460adf2b34b8e7cdaa7d30e75d8b5f1fbe839c8c7c17395cf12ca5", func := "reveille/reveillelaw03.NameOwn", spec := "nameOwn", unfollowed := true, recurses := true, apart := false, narrowed := true }
def NameOwnUptoSaid : Prop := nameOwnUptoRow.holds Try.pinned (OpenSpec.upto nameOwnSpec)

/-- 'reveillelaw03.NameParts', WHERE WHAT IT READS IS OF BULK AT MOST 1048576: true; the input reads as it did. -/
def namePartsUptoRow : OpenClaim := { program := "ytndpmjanflahhaa", sum := "5104b56660460adf2b34b8e7cdaa7d30e75d8b5f1fbe839c8c7c17395cf12ca5", func := "reveille/reveillelaw03.NameParts", spec := "nameParts", unfollowed := true, recurses := true, apart := false, narrowed := true }
def NamePartsUptoSaid : Prop := namePartsUptoRow.holds Try.pinned (OpenSpec.upto namePartsSpec)

/-- 'reveillelaw03.NameTells', WHERE WHAT IT READS IS OF BULK AT MOST 1048576: true; the input reads as it did. -/
def nameTellsUptoRow : OpenClaim := { program := "ytndpmjanflahhaa", sum := "5104b56660460adf2b34b8e7cdaa7d30e75d8b5f1fbe839c8c7c17395cf12ca5", func := "reveille/reveillelaw03.NameTells", spec := "nameTells", unfollowed := true, recurses := true, apart := false, narrowed := true }
def NameTellsUptoSaid : Prop := nameTellsUptoRow.holds Try.pinned (OpenSpec.upto nameTellsSpec)

/-- 'reveillelaw03.NameHashes', WHERE WHAT IT READS IS OF BULK AT MOST 1048576: true; the input reads as it did. -/
def nameHashesUptoRow : OpenClaim := { program := "ytndpmjanflahhaa", sum := "5104b56660460adf2b34b8e7cdaa7d30e75d8b5f1fbe839c8c7c17395cf12ca5", func := "reveille/reveillelaw03.NameHashes", spec := "nameHashes", unfollowed := true, recurses := true, apart := false, narrowed := true }
def NameHashesUptoSaid : Prop := nameHashesUptoRow.holds Try.pinned (OpenSpec.upto nameHashesSpec)

/-- 'reveillelaw04.DiskLasts', WHERE WHAT IT READS IS OF BULK AT MOST 1048576: true; the input reads as it did. -/
def diskLastsUptoRow : OpenClaim := { program := "ytndpmjanflahhaa", sum := "5104b56660460adf2b34b8e7cdaa7d30e75d8b5f1fbe839c8c7c17395cf12ca5", func := "reveille/reveillelaw04.DiskLasts", spec := "diskLasts", unfollowed := true, recurses := true, apart := false, narrowed := true }
def DiskLastsUptoSaid : Prop := diskLastsUptoRow.holds Try.pinned (OpenSpec.upto diskLastsSpec)

/-- 'reveillelaw15.WheelLaps', WHERE WHAT IT READS IS OF BULK AT MOST 1048576: true; the input reads as it did. -/
def wheelLapsUptoRow : OpenClaim := { program := "ytndpmjanflahhaa", sum := "5104b56660460adf2b34b8e7cdaa7d30e75d8b5f1fbe839c8c7c17395cf12ca5", func := "reveille/reveillelaw15.WheelLaps", spec := "wheelLaps", unfollowed := true, recurses := true, apart := false, narrowed := true }
def WheelLapsUptoSaid : Prop := wheelLapsUptoRow.holds Try.pinned (OpenSpec.upto wheelLapsSpec)

/-- 'reveillelaw04.DiskRoom', WHERE WHAT IT READS IS OF BULK AT MOST 1048576: true; the input reads as it did. -/
def diskRoomUptoRow : OpenClaim := { program := "ytndpmjanflahhaa", sum := "5104b56660460adf2b34b8e7cdaa7d30e75d8b5f1fbe839c8c7c17395cf12ca5", func := "reveille/reveillelaw04.DiskRoom", spec := "diskRoom", unfollowed := true, recurses := true, apart := false, narrowed := true }
def DiskRoomUptoSaid : Prop := diskRoomUptoRow.holds Try.pinned (OpenSpec.upto diskRoomSpec)

/-- 'reveillelaw04.DiskKeeps', WHERE WHAT IT READS IS OF BULK AT MOST 1048576: true; the input reads as it did. -/
def diskKeepsUptoRow : OpenClaim := { program := "ytndpmjanflahhaa", sum := "5104b56660460adf2b34b8e7cdaa7d30e75d8b5f1fbe839c8c7c17395cf12ca5", func := "reveille/reveillelaw04.DiskKeeps", spec := "diskKeeps", unfollowed := true, recurses := true, apart := false, narrowed := true }
def DiskKeepsUptoSaid : Prop := diskKeepsUptoRow.holds Try.pinned (OpenSpec.upto diskKeepsSpec)

/-- 'reveillelaw15.WheelSlots', WHERE WHAT IT READS IS OF BULK AT MOST 1048576: true; the input reads as it did. -/
def wheelSlotsUptoRow : OpenClaim := { program := "ytndpmjanflahhaa", sum := "5104b56660460adf2b34b8e7cdaa7d30e75d8b5f1fbe839c8c7c17395cf12ca5", func := "reveille/reveillelaw15.WheelSlots", spec := "wheelSlots", inPlace := ["internal/abi.NoEscape"], unfollowed := true, recurses := true, apart := false, narrowed := true }
def WheelSlotsUptoSaid : Prop := wheelSlotsUptoRow.holds Try.pinned (OpenSpec.upto wheelSlotsSpec)

/-- 'reveillelaw15.WheelApart', WHERE WHAT IT READS IS OF BULK AT MOST 1048576: true; the input reads as it did. -/
def wheelApartUptoRow : OpenClaim := { program := "ytndpmjanflahhaa", sum := "5104b56660460adf2b34b8e7cdaa7d30e75d8b5f1fbe839c8c7c17395cf12ca5", func := "reveille/reveillelaw15.WheelApart", spec := "wheelApart", inPlace := ["internal/abi.NoEscape"], unfollowed := true, recurses := true, apart := false, narrowed := true }
def WheelApartUptoSaid : Prop := wheelApartUptoRow.holds Try.pinned (OpenSpec.upto wheelApartSpec)

/-- 'reveillelaw15.WheelTurns', WHERE WHAT IT READS IS OF BULK AT MOST 1048576: true; the input reads as it did. -/
def wheelTurnsUptoRow : OpenClaim := { program := "ytndpmjanflahhaa", sum := "5104b56660460adf2b34b8e7cdaa7d30e75d8b5f1fbe839c8c7c17395cf12ca5", func := "reveille/reveillelaw15.WheelTurns", spec := "wheelTurns", inPlace := ["internal/abi.NoEscape"], unfollowed := true, recurses := true, apart := false, narrowed := true }
def WheelTurnsUptoSaid : Prop := wheelTurnsUptoRow.holds Try.pinned (OpenSpec.upto wheelTurnsSpec)

/-- 'reveillelaw11.KeyxMost', WHERE WHAT IT READS IS OF BULK AT MOST 1048576: true; the input reads as it did. -/
def keyxMostUptoRow : OpenClaim := { program := "ytndpmjanflahhaa", sum := "5104b56660460adf2b34b8e7cdaa7d30e75d8b5f1fbe839c8c7c17395cf12ca5", func := "reveille/reveillelaw11.KeyxMost", spec := "keyxMost", inPlace := ["internal/abi.NoEscape"], unfollowed := true, recurses := true, apart := false, narrowed := true }
def KeyxMostUptoSaid : Prop := keyxMostUptoRow.holds Try.pinned (OpenSpec.upto keyxMostSpec)

/-- 'reveillelaw11.KeyxFinds', WHERE WHAT IT READS IS OF BULK AT MOST 1048576: true; the input reads as it did. -/
def keyxFindsUptoRow : OpenClaim := { program := "ytndpmjanflahhaa", sum := "5104b56660460adf2b34b8e7cdaa7d30e75d8b5f1fbe839c8c7c17395cf12ca5", func := "reveille/reveillelaw11.KeyxFinds", spec := "keyxFinds", inPlace := ["internal/abi.NoEscape"], unfollowed := true, recurses := true, apart := false, narrowed := true }
def KeyxFindsUptoSaid : Prop := keyxFindsUptoRow.holds Try.pinned (OpenSpec.upto keyxFindsSpec)

/-- 'reveillelaw11.KeyxChains', WHERE WHAT IT READS IS OF BULK AT MOST 1048576: true; the input reads as it did. -/
def keyxChainsUptoRow : OpenClaim := { program := "ytndpmjanflahhaa", sum := "5104b56660460adf2b34b8e7cdaa7d30e75d8b5f1fbe839c8c7c17395cf12ca5", func := "reveille/reveillelaw11.KeyxChains", spec := "keyxChains", inPlace := ["internal/abi.NoEscape"], unfollowed := true, recurses := true, apart := false, narrowed := true }
def KeyxChainsUptoSaid : Prop := keyxChainsUptoRow.holds Try.pinned (OpenSpec.upto keyxChainsSpec)

/-- 'reveillelaw16.TlogFar', WHERE WHAT IT READS IS OF BULK AT MOST 1048576: true; the input reads as it did. -/
def tlogFarUptoRow : OpenClaim := { program := "ytndpmjanflahhaa", sum := "5104b56660460adf2b34b8e7cdaa7d30e75d8b5f1fbe839c8c7c17395cf12ca5", func := "reveille/reveillelaw16.TlogFar", spec := "tlogFar", inPlace := ["internal/abi.NoEscape"], unfollowed := true, recurses := true, apart := false, narrowed := true }
def TlogFarUptoSaid : Prop := tlogFarUptoRow.holds Try.pinned (OpenSpec.upto tlogFarSpec)

/-- 'reveillelaw16.TlogTells', WHERE WHAT IT READS IS OF BULK AT MOST 1048576: true; the input reads as it did. -/
def tlogTellsUptoRow : OpenClaim := { program := "ytndpmjanflahhaa", sum := "5104b56660460adf2b34b8e7cdaa7d30e75d8b5f1fbe839c8c7c17395cf12ca5", func := "reveille/reveillelaw16.TlogTells", spec := "tlogTells", inPlace := ["internal/abi.NoEscape"], unfollowed := true, recurses := true, apart := false, narrowed := true }
def TlogTellsUptoSaid : Prop := tlogTellsUptoRow.holds Try.pinned (OpenSpec.upto tlogTellsSpec)

/-- 'reveillelaw16.TlogOrder', WHERE WHAT IT READS IS OF BULK AT MOST 1048576: true; the input reads as it did. -/
def tlogOrderUptoRow : OpenClaim := { program := "ytndpmjanflahhaa", sum := "5104b56660460adf2b34b8e7cdaa7d30e75d8b5f1fbe839c8c7c17395cf12ca5", func := "reveille/reveillelaw16.TlogOrder", spec := "tlogOrder", inPlace := ["internal/abi.NoEscape"], unfollowed := true, recurses := true, apart := false, narrowed := true }
def TlogOrderUptoSaid : Prop := tlogOrderUptoRow.holds Try.pinned (OpenSpec.upto tlogOrderSpec)

end Rows
end Go.Proofs.Ytndpmjanflahhaa
