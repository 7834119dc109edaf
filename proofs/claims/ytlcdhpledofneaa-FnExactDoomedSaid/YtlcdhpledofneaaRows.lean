/-
  No cell of these rows narrows 'for every input' (looked for: loops, veiled, ifaces, maps, wideKeys, modest, calm, conditions, laid).
  DERIVED. THE GIVEN ROWS OF THIS SEAT. 6 by the template 'for every input the law returns true; each argument reads behind the call as it read before'; 0 by the template 'total and deterministic' (their statements: YtlcdhpledofneaaTotals.lean).
  GIVEN WITH THE SEED: the statements are not yours to turn. If you find one false, say at which input.
  Laid BY PROGRAM, IN A SANDBOX (cutbox-rows.mjs): the forced cells as the released guide's own fill.sh prints them over the translation 23d85f899ff8e887… (all of the seat's roots in one cut). By AI agents, Wed Nov 11 2026. No macro, syntax, notation, axiom, sorry.
-/
import Derived.Test.YtlcdhpledofneaaChecked
import GoSem.Claim
import GoSem.ClaimJoined
import GoSem.ClaimMapViews
import Derived.JoinedTies
import Derived.KernelRfl
namespace Go.Proofs.Ytlcdhpledofneaa
/- THE CELL 'sum', in the pinned program and in every row, IS THE sha256 OF THE DUMP (.gsa) THAT YtlcdhpledofneaaProg.lean LOADS. Nothing in Lean hashes anything: it is a label: what it is worth is what the hold of that sum in a sandbox is worth. -/
noncomputable def Try.pinned : Pinned := { name := "ytlcdhpledofneaa", sum := "23d85f899ff8e88733718ea66dc9a7b5690d25b7b43f5dd23852ed510c668927", checked := Try.checked }
namespace Rows
def none {H : Type} : Left H := { results := [], args := [] }

/-- 'laws.FnExactOver': WHATEVER THE INPUT: true; the input reads as it did. -/
def fnExactOverSpec : ChangeSpec := { name := "fnExactOver", fn := fun _ => fun
  | [d1, d2] => { results := [.lit (.bool true)], args := [d1, d2] }
  | _ => none }
def fnExactOverRow : OpenClaim := { program := "ytlcdhpledofneaa", sum := "23d85f899ff8e88733718ea66dc9a7b5690d25b7b43f5dd23852ed510c668927", func := "loop.example/g00486/laws.FnExactOver", spec := "fnExactOver", apart := false }
def FnExactOverSaid : Prop := fnExactOverRow.holds Try.pinned (OpenSpec.ofChange fnExactOverSpec)

/-- ITS FALSE NEIGHBOUR: 'it returns false'. Refute it at one input. -/
def fnExactOverWrong : ChangeSpec := { name := "fnExactOver", fn := fun _ => fun
  | [d1, d2] => { results := [.lit (.bool false)], args := [d1, d2] }
  | _ => none }
def FnExactOverWrongFalsely : Prop := fnExactOverRow.holds Try.pinned (OpenSpec.ofChange fnExactOverWrong)

/-- 'laws.FnExactDoomed': WHATEVER THE INPUT: true; the input reads as it did. -/
def fnExactDoomedSpec : ChangeSpec := { name := "fnExactDoomed", fn := fun _ => fun
  | [d] => { results := [.lit (.bool true)], args := [d] }
  | _ => none }
def fnExactDoomedRow : OpenClaim := { program := "ytlcdhpledofneaa", sum := "23d85f899ff8e88733718ea66dc9a7b5690d25b7b43f5dd23852ed510c668927", func := "loop.example/g00486/laws.FnExactDoomed", spec := "fnExactDoomed", apart := false }
def FnExactDoomedSaid : Prop := fnExactDoomedRow.holds Try.pinned (OpenSpec.ofChange fnExactDoomedSpec)

/-- ITS FALSE NEIGHBOUR: 'it returns false'. Refute it at one input. -/
def fnExactDoomedWrong : ChangeSpec := { name := "fnExactDoomed", fn := fun _ => fun
  | [d] => { results := [.lit (.bool false)], args := [d] }
  | _ => none }
def FnExactDoomedWrongFalsely : Prop := fnExactDoomedRow.holds Try.pinned (OpenSpec.ofChange fnExactDoomedWrong)

/-- 'laws.FnExactSameEvents': WHATEVER THE INPUT: true; the input reads as it did. -/
def fnExactSameEventsSpec : ChangeSpec := { name := "fnExactSameEvents", fn := fun _ => fun
  | [d1, d2] => { results := [.lit (.bool true)], args := [d1, d2] }
  | _ => none }
def fnExactSameEventsRow : OpenClaim := { program := "ytlcdhpledofneaa", sum := "23d85f899ff8e88733718ea66dc9a7b5690d25b7b43f5dd23852ed510c668927", func := "loop.example/g00486/laws.FnExactSameEvents", spec := "fnExactSameEvents", apart := false }
def FnExactSameEventsSaid : Prop := fnExactSameEventsRow.holds Try.pinned (OpenSpec.ofChange fnExactSameEventsSpec)

/-- ITS FALSE NEIGHBOUR: 'it returns false'. Refute it at one input. -/
def fnExactSameEventsWrong : ChangeSpec := { name := "fnExactSameEvents", fn := fun _ => fun
  | [d1, d2] => { results := [.lit (.bool false)], args := [d1, d2] }
  | _ => none }
def FnExactSameEventsWrongFalsely : Prop := fnExactSameEventsRow.holds Try.pinned (OpenSpec.ofChange fnExactSameEventsWrong)

/-- 'laws.FnExactBatchOk': WHATEVER THE INPUT: true; the input reads as it did. -/
def fnExactBatchOkSpec : ChangeSpec := { name := "fnExactBatchOk", fn := fun _ => fun
  | [d] => { results := [.lit (.bool true)], args := [d] }
  | _ => none }
def fnExactBatchOkRow : OpenClaim := { program := "ytlcdhpledofneaa", sum := "23d85f899ff8e88733718ea66dc9a7b5690d25b7b43f5dd23852ed510c668927", func := "loop.example/g00486/laws.FnExactBatchOk", spec := "fnExactBatchOk", unfollowed := true, recurses := true, apart := false }
def FnExactBatchOkSaid : Prop := fnExactBatchOkRow.holds Try.pinned (OpenSpec.ofChange fnExactBatchOkSpec)

/-- ITS FALSE NEIGHBOUR: 'it returns false'. Refute it at one input. -/
def fnExactBatchOkWrong : ChangeSpec := { name := "fnExactBatchOk", fn := fun _ => fun
  | [d] => { results := [.lit (.bool false)], args := [d] }
  | _ => none }
def FnExactBatchOkWrongFalsely : Prop := fnExactBatchOkRow.holds Try.pinned (OpenSpec.ofChange fnExactBatchOkWrong)

/-- 'laws.FnExactSameTriggers': WHATEVER THE INPUT: true; the input reads as it did. -/
def fnExactSameTriggersSpec : ChangeSpec := { name := "fnExactSameTriggers", fn := fun _ => fun
  | [d1, d2] => { results := [.lit (.bool true)], args := [d1, d2] }
  | _ => none }
def fnExactSameTriggersRow : OpenClaim := { program := "ytlcdhpledofneaa", sum := "23d85f899ff8e88733718ea66dc9a7b5690d25b7b43f5dd23852ed510c668927", func := "loop.example/g00486/laws.FnExactSameTriggers", spec := "fnExactSameTriggers", apart := false }
def FnExactSameTriggersSaid : Prop := fnExactSameTriggersRow.holds Try.pinned (OpenSpec.ofChange fnExactSameTriggersSpec)

/-- ITS FALSE NEIGHBOUR: 'it returns false'. Refute it at one input. -/
def fnExactSameTriggersWrong : ChangeSpec := { name := "fnExactSameTriggers", fn := fun _ => fun
  | [d1, d2] => { results := [.lit (.bool false)], args := [d1, d2] }
  | _ => none }
def FnExactSameTriggersWrongFalsely : Prop := fnExactSameTriggersRow.holds Try.pinned (OpenSpec.ofChange fnExactSameTriggersWrong)

/-- 'laws.FnExactRoundsMost': WHATEVER THE INPUT: true; the input reads as it did. -/
def fnExactRoundsMostSpec : ChangeSpec := { name := "fnExactRoundsMost", fn := fun _ => fun
  | [d] => { results := [.lit (.bool true)], args := [d] }
  | _ => none }
def fnExactRoundsMostRow : OpenClaim := { program := "ytlcdhpledofneaa", sum := "23d85f899ff8e88733718ea66dc9a7b5690d25b7b43f5dd23852ed510c668927", func := "loop.example/g00486/laws.FnExactRoundsMost", spec := "fnExactRoundsMost", apart := false }
def FnExactRoundsMostSaid : Prop := fnExactRoundsMostRow.holds Try.pinned (OpenSpec.ofChange fnExactRoundsMostSpec)

/-- ITS FALSE NEIGHBOUR: 'it returns false'. Refute it at one input. -/
def fnExactRoundsMostWrong : ChangeSpec := { name := "fnExactRoundsMost", fn := fun _ => fun
  | [d] => { results := [.lit (.bool false)], args := [d] }
  | _ => none }
def FnExactRoundsMostWrongFalsely : Prop := fnExactRoundsMostRow.holds Try.pinned (OpenSpec.ofChange fnExactRoundsMostWrong)

/- THE SECOND FORM. 'bulk': how many values and letters a reading holds, each counted each time it is reached (what is shared counts as often as it is met; a slice's spare places count too). A statement '..UptoSaid' is the law's where the arguments, and the package variables that the reading takes, are together of bulk at most 1048576: NARROWER than '..Said'. Prove '..Said' where nothing that the law and all that it calls make is longer than what came in: it says more and counts as full. Else prove '..UptoSaid'. A law counts once. -/
mutual
def uptoBulk {H : Type} : DataW H → Nat
  | .lit (.string bytes) => bytes.length + 1
  | .lit _ => 1
  | .nil => 1
  | .ptr d => uptoBulk d + 1
  | .slice elems spare => uptoBulkAll elems + uptoBulkAll spare + 1
  | .agg parts => uptoBulkAll parts + 1
  | .iface _ d => uptoBulk d + 1
  | .map entries => uptoBulkEntries entries + 1
  | .held _ => 1
def uptoBulkAll {H : Type} : List (DataW H) → Nat
  | [] => 0
  | d :: r => uptoBulk d + uptoBulkAll r
def uptoBulkEntries {H : Type} : List (Lit × DataW H) → Nat
  | [] => 0
  | x :: r => uptoBulkEntry x + uptoBulkEntries r
def uptoBulkEntry {H : Type} : Lit × DataW H → Nat
  | (.string bytes, d) => bytes.length + uptoBulk d + 1
  | (_, d) => uptoBulk d + 1
 end
def uptoSmall : (H : Type) → List (DataW H) → Bool := fun _ ds => decide (uptoBulkAll ds ≤ 1048576)
def OpenSpec.upto (s : _root_.Go.ChangeSpec) : _root_.Go.OpenSpec := { _root_.Go.OpenSpec.ofChange s with cond := some uptoSmall }

/-- 'laws.FnExactOver', WHERE WHAT IT READS IS OF BULK AT MOST 1048576: true; the input reads as it did. -/
def fnExactOverUptoRow : OpenClaim := { program := "ytlcdhpledofneaa", sum := "23d85f899ff8e88733718ea66dc9a7b5690d25b7b43f5dd23852ed510c668927", func := "loop.example/g00486/laws.FnExactOver", spec := "fnExactOver", apart := false, narrowed := true }
def FnExactOverUptoSaid : Prop := fnExactOverUptoRow.holds Try.pinned (OpenSpec.upto fnExactOverSpec)

/-- 'laws.FnExactDoomed', WHERE WHAT IT READS IS OF BULK AT MOST 1048576: true; the input reads as it did. -/
def fnExactDoomedUptoRow : OpenClaim := { program := "ytlcdhpledofneaa", sum := "23d85f899ff8e88733718ea66dc9a7b5690d25b7b43f5dd23852ed510c668927", func := "loop.example/g00486/laws.FnExactDoomed", spec := "fnExactDoomed", apart := false, narrowed := true }
def FnExactDoomedUptoSaid : Prop := fnExactDoomedUptoRow.holds Try.pinned (OpenSpec.upto fnExactDoomedSpec)

/-- 'laws.FnExactSameEvents', WHERE WHAT IT READS IS OF BULK AT MOST 1048576: true; the input reads as it did. -/
def fnExactSameEventsUptoRow : OpenClaim := { program := "ytlcdhpledofneaa", sum := "23d85f899ff8e88733718ea66dc9a7b5690d25b7b43f5dd23852ed510c668927", func := "loop.example/g00486/laws.FnExactSameEvents", spec := "fnExactSameEvents", apart := false, narrowed := true }
def FnExactSameEventsUptoSaid : Prop := fnExactSameEventsUptoRow.holds Try.pinned (OpenSpec.upto fnExactSameEventsSpec)

/-- 'laws.FnExactBatchOk', WHERE WHAT IT READS IS OF BULK AT MOST 1048576: true; the input reads as it did. -/
def fnExactBatchOkUptoRow : OpenClaim := { program := "ytlcdhpledofneaa", sum := "23d85f899ff8e88733718ea66dc9a7b5690d25b7b43f5dd23852ed510c668927", func := "loop.example/g00486/laws.FnExactBatchOk", spec := "fnExactBatchOk", unfollowed := true, recurses := true, apart := false, narrowed := true }
def FnExactBatchOkUptoSaid : Prop := fnExactBatchOkUptoRow.holds Try.pinned (OpenSpec.upto fnExactBatchOkSpec)

/-- 'laws.FnExactSameTriggers', WHERE WHAT IT READS IS OF BULK AT MOST 1048576: true; the input reads as it did. -/
def fnExactSameTriggersUptoRow : OpenClaim := { program := "ytlcdhpledofneaa", sum := "23d85f899ff8e88733718ea66dc9a7b5690d25b7b43f5dd23852ed510c668927", func := "loop.example/g00486/laws.FnExactSameTriggers", spec := "fnExactSameTriggers", apart := false, narrowed := true }
def FnExactSameTriggersUptoSaid : Prop := fnExactSameTriggersUptoRow.holds Try.pinned (OpenSpec.upto fnExactSameTriggersSpec)

/-- 'laws.FnExactRoundsMost', WHERE WHAT IT READS IS OF BULK AT MOST 1048576: true; the input reads as it did. -/
def fnExactRoundsMostUptoRow : OpenClaim := { program := "ytlcdhpledofneaa", sum := "23d85f899ff8e88733718ea66dc9a7b5690d25b7b43f5dd23852ed510c668927", func := "loop.example/g00486/laws.FnExactRoundsMost", spec := "fnExactRoundsMost", apart := false, narrowed := true }
def FnExactRoundsMostUptoSaid : Prop := fnExactRoundsMostUptoRow.holds Try.pinned (OpenSpec.upto fnExactRoundsMostSpec)

end Rows
end Go.Proofs.Ytlcdhpledofneaa
