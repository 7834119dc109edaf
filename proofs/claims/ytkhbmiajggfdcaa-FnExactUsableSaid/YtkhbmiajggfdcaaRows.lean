/-
  No cell of these rows narrows 'for every input' (looked for: loops, veiled, ifaces, maps, wideKeys, modest, calm, conditions, laid).
  DERIVED. THE GIVEN ROWS OF THIS SEAT. 12 by the template 'for every input the law returns true; each argument reads behind the call as it read before'; 0 by the template 'total and deterministic' (their statements: YtkhbmiajggfdcaaTotals.lean).
  GIVEN WITH THE SEED: the statements are not yours to turn. If you find one false, say at which input.
  Laid BY PROGRAM, IN A SANDBOX (cutbox-rows.mjs): the forced cells as the released guide's own fill.sh prints them over the translation d019a3e630736968… (all of the seat's roots in one cut). By AI agents, Wed Nov 11 2026. No macro, syntax, notation, axiom, sorry.
-/
import Derived.Test.YtkhbmiajggfdcaaChecked
import GoSem.Claim
import GoSem.ClaimJoined
import GoSem.ClaimMapViews
import Derived.JoinedTies
import Derived.KernelRfl
namespace Go.Proofs.Ytkhbmiajggfdcaa
/- THE CELL 'sum', in the pinned program and in every row, IS THE sha256 OF THE DUMP (.gsa) THAT YtkhbmiajggfdcaaProg.lean LOADS. Nothing in Lean hashes anything: it is a label: what it is worth is what the hold of that sum in a sandbox is worth. -/
noncomputable def Try.pinned : Pinned := { name := "ytkhbmiajggfdcaa", sum := "d019a3e630736968c47e52ff36e1332e3b3088522fae3d94c96555348c8fc027", checked := Try.checked }
namespace Rows
def none {H : Type} : Left H := { results := [], args := [] }

/-- 'laws.FnExactSameNotes': WHATEVER THE INPUT: true; the input reads as it did. -/
def fnExactSameNotesSpec : ChangeSpec := { name := "fnExactSameNotes", fn := fun _ => fun
  | [d1, d2] => { results := [.lit (.bool true)], args := [d1, d2] }
  | _ => none }
def fnExactSameNotesRow : OpenClaim := { program := "ytkhbmiajggfdcaa", sum := "d019a3e630736968c47e52ff36e1332e3b3088522fae3d94c96555348c8fc027", func := "loop.example/g00486/laws.FnExactSameNotes", spec := "fnExactSameNotes", apart := false }
def FnExactSameNotesSaid : Prop := fnExactSameNotesRow.holds Try.pinned (OpenSpec.ofChange fnExactSameNotesSpec)

/-- ITS FALSE NEIGHBOUR: 'it returns false'. Refute it at one input. -/
def fnExactSameNotesWrong : ChangeSpec := { name := "fnExactSameNotes", fn := fun _ => fun
  | [d1, d2] => { results := [.lit (.bool false)], args := [d1, d2] }
  | _ => none }
def FnExactSameNotesWrongFalsely : Prop := fnExactSameNotesRow.holds Try.pinned (OpenSpec.ofChange fnExactSameNotesWrong)

/-- 'laws.FnExactDealt': WHATEVER THE INPUT: true; the input reads as it did. -/
def fnExactDealtSpec : ChangeSpec := { name := "fnExactDealt", fn := fun _ => fun
  | [d1, d2] => { results := [.lit (.bool true)], args := [d1, d2] }
  | _ => none }
def fnExactDealtRow : OpenClaim := { program := "ytkhbmiajggfdcaa", sum := "d019a3e630736968c47e52ff36e1332e3b3088522fae3d94c96555348c8fc027", func := "loop.example/g00486/laws.FnExactDealt", spec := "fnExactDealt", apart := false }
def FnExactDealtSaid : Prop := fnExactDealtRow.holds Try.pinned (OpenSpec.ofChange fnExactDealtSpec)

/-- ITS FALSE NEIGHBOUR: 'it returns false'. Refute it at one input. -/
def fnExactDealtWrong : ChangeSpec := { name := "fnExactDealt", fn := fun _ => fun
  | [d1, d2] => { results := [.lit (.bool false)], args := [d1, d2] }
  | _ => none }
def FnExactDealtWrongFalsely : Prop := fnExactDealtRow.holds Try.pinned (OpenSpec.ofChange fnExactDealtWrong)

/-- 'laws.FnExactHurtOf': WHATEVER THE INPUT: true; the input reads as it did. -/
def fnExactHurtOfSpec : ChangeSpec := { name := "fnExactHurtOf", fn := fun _ => fun
  | [d1, d2] => { results := [.lit (.bool true)], args := [d1, d2] }
  | _ => none }
def fnExactHurtOfRow : OpenClaim := { program := "ytkhbmiajggfdcaa", sum := "d019a3e630736968c47e52ff36e1332e3b3088522fae3d94c96555348c8fc027", func := "loop.example/g00486/laws.FnExactHurtOf", spec := "fnExactHurtOf", unfollowed := true, recurses := true, apart := false }
def FnExactHurtOfSaid : Prop := fnExactHurtOfRow.holds Try.pinned (OpenSpec.ofChange fnExactHurtOfSpec)

/-- ITS FALSE NEIGHBOUR: 'it returns false'. Refute it at one input. -/
def fnExactHurtOfWrong : ChangeSpec := { name := "fnExactHurtOf", fn := fun _ => fun
  | [d1, d2] => { results := [.lit (.bool false)], args := [d1, d2] }
  | _ => none }
def FnExactHurtOfWrongFalsely : Prop := fnExactHurtOfRow.holds Try.pinned (OpenSpec.ofChange fnExactHurtOfWrong)

/-- 'laws.FnExactLeaves': WHATEVER THE INPUT: true; the input reads as it did. -/
def fnExactLeavesSpec : ChangeSpec := { name := "fnExactLeaves", fn := fun _ => fun
  | [d1, d2] => { results := [.lit (.bool true)], args := [d1, d2] }
  | _ => none }
def fnExactLeavesRow : OpenClaim := { program := "ytkhbmiajggfdcaa", sum := "d019a3e630736968c47e52ff36e1332e3b3088522fae3d94c96555348c8fc027", func := "loop.example/g00486/laws.FnExactLeaves", spec := "fnExactLeaves", unfollowed := true, recurses := true, apart := false }
def FnExactLeavesSaid : Prop := fnExactLeavesRow.holds Try.pinned (OpenSpec.ofChange fnExactLeavesSpec)

/-- ITS FALSE NEIGHBOUR: 'it returns false'. Refute it at one input. -/
def fnExactLeavesWrong : ChangeSpec := { name := "fnExactLeaves", fn := fun _ => fun
  | [d1, d2] => { results := [.lit (.bool false)], args := [d1, d2] }
  | _ => none }
def FnExactLeavesWrongFalsely : Prop := fnExactLeavesRow.holds Try.pinned (OpenSpec.ofChange fnExactLeavesWrong)

/-- 'laws.FnExactUsable': WHATEVER THE INPUT: true; the input reads as it did. -/
def fnExactUsableSpec : ChangeSpec := { name := "fnExactUsable", fn := fun _ => fun
  | [d] => { results := [.lit (.bool true)], args := [d] }
  | _ => none }
def fnExactUsableRow : OpenClaim := { program := "ytkhbmiajggfdcaa", sum := "d019a3e630736968c47e52ff36e1332e3b3088522fae3d94c96555348c8fc027", func := "loop.example/g00486/laws.FnExactUsable", spec := "fnExactUsable", apart := false }
def FnExactUsableSaid : Prop := fnExactUsableRow.holds Try.pinned (OpenSpec.ofChange fnExactUsableSpec)

/-- ITS FALSE NEIGHBOUR: 'it returns false'. Refute it at one input. -/
def fnExactUsableWrong : ChangeSpec := { name := "fnExactUsable", fn := fun _ => fun
  | [d] => { results := [.lit (.bool false)], args := [d] }
  | _ => none }
def FnExactUsableWrongFalsely : Prop := fnExactUsableRow.holds Try.pinned (OpenSpec.ofChange fnExactUsableWrong)

/-- 'laws.FnExactLostOf': WHATEVER THE INPUT: true; the input reads as it did. -/
def fnExactLostOfSpec : ChangeSpec := { name := "fnExactLostOf", fn := fun _ => fun
  | [d] => { results := [.lit (.bool true)], args := [d] }
  | _ => none }
def fnExactLostOfRow : OpenClaim := { program := "ytkhbmiajggfdcaa", sum := "d019a3e630736968c47e52ff36e1332e3b3088522fae3d94c96555348c8fc027", func := "loop.example/g00486/laws.FnExactLostOf", spec := "fnExactLostOf", apart := false }
def FnExactLostOfSaid : Prop := fnExactLostOfRow.holds Try.pinned (OpenSpec.ofChange fnExactLostOfSpec)

/-- ITS FALSE NEIGHBOUR: 'it returns false'. Refute it at one input. -/
def fnExactLostOfWrong : ChangeSpec := { name := "fnExactLostOf", fn := fun _ => fun
  | [d] => { results := [.lit (.bool false)], args := [d] }
  | _ => none }
def FnExactLostOfWrongFalsely : Prop := fnExactLostOfRow.holds Try.pinned (OpenSpec.ofChange fnExactLostOfWrong)

/-- 'laws.FnExactZoned': WHATEVER THE INPUT: true; the input reads as it did. -/
def fnExactZonedSpec : ChangeSpec := { name := "fnExactZoned", fn := fun _ => fun
  | [d1, d2] => { results := [.lit (.bool true)], args := [d1, d2] }
  | _ => none }
def fnExactZonedRow : OpenClaim := { program := "ytkhbmiajggfdcaa", sum := "d019a3e630736968c47e52ff36e1332e3b3088522fae3d94c96555348c8fc027", func := "loop.example/g00486/laws.FnExactZoned", spec := "fnExactZoned", apart := false }
def FnExactZonedSaid : Prop := fnExactZonedRow.holds Try.pinned (OpenSpec.ofChange fnExactZonedSpec)

/-- ITS FALSE NEIGHBOUR: 'it returns false'. Refute it at one input. -/
def fnExactZonedWrong : ChangeSpec := { name := "fnExactZoned", fn := fun _ => fun
  | [d1, d2] => { results := [.lit (.bool false)], args := [d1, d2] }
  | _ => none }
def FnExactZonedWrongFalsely : Prop := fnExactZonedRow.holds Try.pinned (OpenSpec.ofChange fnExactZonedWrong)

/-- 'laws.FnExactTurnOrder': WHATEVER THE INPUT: true; the input reads as it did. -/
def fnExactTurnOrderSpec : ChangeSpec := { name := "fnExactTurnOrder", fn := fun _ => fun
  | [d] => { results := [.lit (.bool true)], args := [d] }
  | _ => none }
def fnExactTurnOrderRow : OpenClaim := { program := "ytkhbmiajggfdcaa", sum := "d019a3e630736968c47e52ff36e1332e3b3088522fae3d94c96555348c8fc027", func := "loop.example/g00486/laws.FnExactTurnOrder", spec := "fnExactTurnOrder", apart := false }
def FnExactTurnOrderSaid : Prop := fnExactTurnOrderRow.holds Try.pinned (OpenSpec.ofChange fnExactTurnOrderSpec)

/-- ITS FALSE NEIGHBOUR: 'it returns false'. Refute it at one input. -/
def fnExactTurnOrderWrong : ChangeSpec := { name := "fnExactTurnOrder", fn := fun _ => fun
  | [d] => { results := [.lit (.bool false)], args := [d] }
  | _ => none }
def FnExactTurnOrderWrongFalsely : Prop := fnExactTurnOrderRow.holds Try.pinned (OpenSpec.ofChange fnExactTurnOrderWrong)

/-- 'laws.FnExactTriggersOf': WHATEVER THE INPUT: true; the input reads as it did. -/
def fnExactTriggersOfSpec : ChangeSpec := { name := "fnExactTriggersOf", fn := fun _ => fun
  | [d1, d2] => { results := [.lit (.bool true)], args := [d1, d2] }
  | _ => none }
def fnExactTriggersOfRow : OpenClaim := { program := "ytkhbmiajggfdcaa", sum := "d019a3e630736968c47e52ff36e1332e3b3088522fae3d94c96555348c8fc027", func := "loop.example/g00486/laws.FnExactTriggersOf", spec := "fnExactTriggersOf", unfollowed := true, recurses := true, apart := false }
def FnExactTriggersOfSaid : Prop := fnExactTriggersOfRow.holds Try.pinned (OpenSpec.ofChange fnExactTriggersOfSpec)

/-- ITS FALSE NEIGHBOUR: 'it returns false'. Refute it at one input. -/
def fnExactTriggersOfWrong : ChangeSpec := { name := "fnExactTriggersOf", fn := fun _ => fun
  | [d1, d2] => { results := [.lit (.bool false)], args := [d1, d2] }
  | _ => none }
def FnExactTriggersOfWrongFalsely : Prop := fnExactTriggersOfRow.holds Try.pinned (OpenSpec.ofChange fnExactTriggersOfWrong)

/-- 'laws.FnExactLastKnown': WHATEVER THE INPUT: true; the input reads as it did. -/
def fnExactLastKnownSpec : ChangeSpec := { name := "fnExactLastKnown", fn := fun _ => fun
  | [d] => { results := [.lit (.bool true)], args := [d] }
  | _ => none }
def fnExactLastKnownRow : OpenClaim := { program := "ytkhbmiajggfdcaa", sum := "d019a3e630736968c47e52ff36e1332e3b3088522fae3d94c96555348c8fc027", func := "loop.example/g00486/laws.FnExactLastKnown", spec := "fnExactLastKnown", apart := false }
def FnExactLastKnownSaid : Prop := fnExactLastKnownRow.holds Try.pinned (OpenSpec.ofChange fnExactLastKnownSpec)

/-- ITS FALSE NEIGHBOUR: 'it returns false'. Refute it at one input. -/
def fnExactLastKnownWrong : ChangeSpec := { name := "fnExactLastKnown", fn := fun _ => fun
  | [d] => { results := [.lit (.bool false)], args := [d] }
  | _ => none }
def FnExactLastKnownWrongFalsely : Prop := fnExactLastKnownRow.holds Try.pinned (OpenSpec.ofChange fnExactLastKnownWrong)

/-- 'laws.FnExactSnaps': WHATEVER THE INPUT: true; the input reads as it did. -/
def fnExactSnapsSpec : ChangeSpec := { name := "fnExactSnaps", fn := fun _ => fun
  | [d1, d2] => { results := [.lit (.bool true)], args := [d1, d2] }
  | _ => none }
def fnExactSnapsRow : OpenClaim := { program := "ytkhbmiajggfdcaa", sum := "d019a3e630736968c47e52ff36e1332e3b3088522fae3d94c96555348c8fc027", func := "loop.example/g00486/laws.FnExactSnaps", spec := "fnExactSnaps", unfollowed := true, recurses := true, apart := false }
def FnExactSnapsSaid : Prop := fnExactSnapsRow.holds Try.pinned (OpenSpec.ofChange fnExactSnapsSpec)

/-- ITS FALSE NEIGHBOUR: 'it returns false'. Refute it at one input. -/
def fnExactSnapsWrong : ChangeSpec := { name := "fnExactSnaps", fn := fun _ => fun
  | [d1, d2] => { results := [.lit (.bool false)], args := [d1, d2] }
  | _ => none }
def FnExactSnapsWrongFalsely : Prop := fnExactSnapsRow.holds Try.pinned (OpenSpec.ofChange fnExactSnapsWrong)

/-- 'laws.FnExactNotesOf': WHATEVER THE INPUT: true; the input reads as it did. -/
def fnExactNotesOfSpec : ChangeSpec := { name := "fnExactNotesOf", fn := fun _ => fun
  | [d1, d2] => { results := [.lit (.bool true)], args := [d1, d2] }
  | _ => none }
def fnExactNotesOfRow : OpenClaim := { program := "ytkhbmiajggfdcaa", sum := "d019a3e630736968c47e52ff36e1332e3b3088522fae3d94c96555348c8fc027", func := "loop.example/g00486/laws.FnExactNotesOf", spec := "fnExactNotesOf", unfollowed := true, recurses := true, apart := false }
def FnExactNotesOfSaid : Prop := fnExactNotesOfRow.holds Try.pinned (OpenSpec.ofChange fnExactNotesOfSpec)

/-- ITS FALSE NEIGHBOUR: 'it returns false'. Refute it at one input. -/
def fnExactNotesOfWrong : ChangeSpec := { name := "fnExactNotesOf", fn := fun _ => fun
  | [d1, d2] => { results := [.lit (.bool false)], args := [d1, d2] }
  | _ => none }
def FnExactNotesOfWrongFalsely : Prop := fnExactNotesOfRow.holds Try.pinned (OpenSpec.ofChange fnExactNotesOfWrong)

/- THE SECOND FORM. 'bulk': how many values and letters a reading holds, each counted each time it is reached (what is shared counts as often as it is met; a slice's spare places count too). A statement '..UptoSaid' is the law's where the arguments, and the package variables that the reading takes, are together of bulk at most 1048576: NARROWER than '..Said'. Prove '..Said' where nothing that the law and all that it calls make is longer than what came in: it says more and counts as full. Else prove '..UptoSaid'. A law counts once. -/
mutual
def uptoBulk {H : Type} : DataW H → Nat
  | .lit (.string bytes) => bytes.length + 1
  | .lit _ => 1
  | .nil => 1
  | .ptr d => uptoBulk d + 1
  | .slice elems spare => uptoBulkAll elems + uptoBulkAll spare + 1
  | .agg parts => uptoBulkAll parts + 1
  | .iface _ d => uptoBulk d + 1
  | .map entries => uptoBulkEntries entries + 1
  | .held _ => 1
def uptoBulkAll {H : Type} : List (DataW H) → Nat
  | [] => 0
  | d :: r => uptoBulk d + uptoBulkAll r
def uptoBulkEntries {H : Type} : List (Lit × DataW H) → Nat
  | [] => 0
  | x :: r => uptoBulkEntry x + uptoBulkEntries r
def uptoBulkEntry {H : Type} : Lit × DataW H → Nat
  | (.string bytes, d) => bytes.length + uptoBulk d + 1
  | (_, d) => uptoBulk d + 1
 end
def uptoSmall : (H : Type) → List (DataW H) → Bool := fun _ ds => decide (uptoBulkAll ds ≤ 1048576)
def OpenSpec.upto (s : _root_.Go.ChangeSpec) : _root_.Go.OpenSpec := { _root_.Go.OpenSpec.ofChange s with cond := some uptoSmall }

/-- 'laws.FnExactSameNotes', WHERE WHAT IT READS IS OF BULK AT MOST 1048576: true; the input reads as it did. -/
def fnExactSameNotesUptoRow : OpenClaim := { program := "ytkhbmiajggfdcaa", sum := "d019a3e630736968c47e52ff36e1332e3b3088522fae3d94c96555348c8fc027", func := "loop.example/g00486/laws.FnExactSameNotes", spec := "fnExactSameNotes", apart := false, narrowed := true }
def FnExactSameNotesUptoSaid : Prop := fnExactSameNotesUptoRow.holds Try.pinned (OpenSpec.upto fnExactSameNotesSpec)

/-- 'laws.FnExactDealt', WHERE WHAT IT READS IS OF BULK AT MOST 1048576: true; the input reads as it did. -/
def fnExactDealtUptoRow : OpenClaim := { program := "ytkhbmiajggfdcaa", sum := "d019a3e630736968c47e52ff36e1332e3b3088522fae3d94c96555348c8fc027", func := "loop.example/g00486/laws.FnExactDealt", spec := "fnExactDealt", apart := false, narrowed := true }
def FnExactDealtUptoSaid : Prop := fnExactDealtUptoRow.holds Try.pinned (OpenSpec.upto fnExactDealtSpec)

/-- 'laws.FnExactHurtOf', WHERE WHAT IT READS IS OF BULK AT MOST 1048576: true; the input reads as it did. -/
def fnExactHurtOfUptoRow : OpenClaim := { program := "ytkhbmiajggfdcaa", sum := "d019a3e630736968c47e52ff36e1332e3b3088522fae3d94c96555348c8fc027", func := "loop.example/g00486/laws.FnExactHurtOf", spec := "fnExactHurtOf", unfollowed := true, recurses := true, apart := false, narrowed := true }
def FnExactHurtOfUptoSaid : Prop := fnExactHurtOfUptoRow.holds Try.pinned (OpenSpec.upto fnExactHurtOfSpec)

/-- 'laws.FnExactLeaves', WHERE WHAT IT READS IS OF BULK AT MOST 1048576: true; the input reads as it did. -/
def fnExactLeavesUptoRow : OpenClaim := { program := "ytkhbmiajggfdcaa", sum := "d019a3e630736968c47e52ff36e1332e3b3088522fae3d94c96555348c8fc027", func := "loop.example/g00486/laws.FnExactLeaves", spec := "fnExactLeaves", unfollowed := true, recurses := true, apart := false, narrowed := true }
def FnExactLeavesUptoSaid : Prop := fnExactLeavesUptoRow.holds Try.pinned (OpenSpec.upto fnExactLeavesSpec)

/-- 'laws.FnExactUsable', WHERE WHAT IT READS IS OF BULK AT MOST 1048576: true; the input reads as it did. -/
def fnExactUsableUptoRow : OpenClaim := { program := "ytkhbmiajggfdcaa", sum := "d019a3e630736968c47e52ff36e1332e3b3088522fae3d94c96555348c8fc027", func := "loop.example/g00486/laws.FnExactUsable", spec := "fnExactUsable", apart := false, narrowed := true }
def FnExactUsableUptoSaid : Prop := fnExactUsableUptoRow.holds Try.pinned (OpenSpec.upto fnExactUsableSpec)

/-- 'laws.FnExactLostOf', WHERE WHAT IT READS IS OF BULK AT MOST 1048576: true; the input reads as it did. -/
def fnExactLostOfUptoRow : OpenClaim := { program := "ytkhbmiajggfdcaa", sum := "d019a3e630736968c47e52ff36e1332e3b3088522fae3d94c96555348c8fc027", func := "loop.example/g00486/laws.FnExactLostOf", spec := "fnExactLostOf", apart := false, narrowed := true }
def FnExactLostOfUptoSaid : Prop := fnExactLostOfUptoRow.holds Try.pinned (OpenSpec.upto fnExactLostOfSpec)

/-- 'laws.FnExactZoned', WHERE WHAT IT READS IS OF BULK AT MOST 1048576: true; the input reads as it did. -/
def fnExactZonedUptoRow : OpenClaim := { program := "ytkhbmiajggfdcaa", sum := "d019a3e630736968c47e52ff36e1332e3b3088522fae3d94c96555348c8fc027", func := "loop.example/g00486/laws.FnExactZoned", spec := "fnExactZoned", apart := false, narrowed := true }
def FnExactZonedUptoSaid : Prop := fnExactZonedUptoRow.holds Try.pinned (OpenSpec.upto fnExactZonedSpec)

/-- 'laws.FnExactTurnOrder', WHERE WHAT IT READS IS OF BULK AT MOST 1048576: true; the input reads as it did. -/
def fnExactTurnOrderUptoRow : OpenClaim := { program := "ytkhbmiajggfdcaa", sum := "d019a3e630736968c47e52ff36e1332e3b3088522fae3d94c96555348c8fc027", func := "loop.example/g00486/laws.FnExactTurnOrder", spec := "fnExactTurnOrder", apart := false, narrowed := true }
def FnExactTurnOrderUptoSaid : Prop := fnExactTurnOrderUptoRow.holds Try.pinned (OpenSpec.upto fnExactTurnOrderSpec)

/-- 'laws.FnExactTriggersOf', WHERE WHAT IT READS IS OF BULK AT MOST 1048576: true; the input reads as it did. -/
def fnExactTriggersOfUptoRow : OpenClaim := { program := "ytkhbmiajggfdcaa", sum := "d019a3e630736968c47e52ff36e1332e3b3088522fae3d94c96555348c8fc027", func := "loop.example/g00486/laws.FnExactTriggersOf", spec := "fnExactTriggersOf", unfollowed := true, recurses := true, apart := false, narrowed := true }
def FnExactTriggersOfUptoSaid : Prop := fnExactTriggersOfUptoRow.holds Try.pinned (OpenSpec.upto fnExactTriggersOfSpec)

/-- 'laws.FnExactLastKnown', WHERE WHAT IT READS IS OF BULK AT MOST 1048576: true; the input reads as it did. -/
def fnExactLastKnownUptoRow : OpenClaim := { program := "ytkhbmiajggfdcaa", sum := "d019a3e630736968c47e52ff36e1332e3b3088522fae3d94c96555348c8fc027", func := "loop.example/g00486/laws.FnExactLastKnown", spec := "fnExactLastKnown", apart := false, narrowed := true }
def FnExactLastKnownUptoSaid : Prop := fnExactLastKnownUptoRow.holds Try.pinned (OpenSpec.upto fnExactLastKnownSpec)

/-- 'laws.FnExactSnaps', WHERE WHAT IT READS IS OF BULK AT MOST 1048576: true; the input reads as it did. -/
def fnExactSnapsUptoRow : OpenClaim := { program := "ytkhbmiajggfdcaa", sum := "d019a3e630736968c47e52ff36e1332e3b3088522fae3d94c96555348c8fc027", func := "loop.example/g00486/laws.FnExactSnaps", spec := "fnExactSnaps", unfollowed := true, recurses := true, apart := false, narrowed := true }
def FnExactSnapsUptoSaid : Prop := fnExactSnapsUptoRow.holds Try.pinned (OpenSpec.upto fnExactSnapsSpec)

/-- 'laws.FnExactNotesOf', WHERE WHAT IT READS IS OF BULK AT MOST 1048576: true; the input reads as it did. -/
def fnExactNotesOfUptoRow : OpenClaim := { program := "ytkhbmiajggfdcaa", sum := "d019a3e630736968c47e52ff36e1332e3b3088522fae3d94c96555348c8fc027", func := "loop.example/g00486/laws.FnExactNotesOf", spec := "fnExactNotesOf", unfollowed := true, recurses := true, apart := false, narrowed := true }
def FnExactNotesOfUptoSaid : Prop := fnExactNotesOfUptoRow.holds Try.pinned (OpenSpec.upto fnExactNotesOfSpec)

end Rows
end Go.Proofs.Ytkhbmiajggfdcaa
