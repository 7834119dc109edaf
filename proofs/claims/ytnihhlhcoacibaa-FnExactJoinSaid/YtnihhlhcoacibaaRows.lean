/-
  No cell of these rows narrows 'for every input' (looked for: loops, veiled, ifaces, maps, wideKeys, modest, calm, conditions, laid).
  DERIVED. THE GIVEN ROWS OF THIS SEAT. 11 by the template 'for every input the law returns true; each argument reads behind the call as it read before'; 0 by the template 'total and deterministic' (their statements: YtnihhlhcoacibaaTotals.lean).
  GIVEN WITH THE SEED: the statements are not yours to turn. If you find one false, say at which input.
  Laid BY PROGRAM, IN A SANDBOX (cutbox-rows.mjs): the forced cells as the released guide's own fill.sh prints them over the translation 76a8ce2ecc2513c9… (all of the seat's roots in one cut). By AI agents, Wed Nov 11 2026. No macro, syntax, notation, axiom, sorry.
-/
import Derived.Test.YtnihhlhcoacibaaChecked
import GoSem.Claim
import GoSem.ClaimJoined
import GoSem.ClaimMapViews
import Derived.JoinedTies
import Derived.KernelRfl
namespace Go.Proofs.Ytnihhlhcoacibaa
/- THE CELL 'sum', in the pinned program and in every row, IS THE sha256 OF THE DUMP (.gsa) THAT YtnihhlhcoacibaaProg.lean LOADS. Nothing in Lean hashes anything: it is a label: what it is worth is what the hold of that sum in a sandbox is worth. -/
noncomputable def Try.pinned : Pinned := { name := "ytnihhlhcoacibaa", sum := "76a8ce2ecc2513c998df725429e429dfcd2b9f5ae69883119d0160ca9f28d2e2", checked := Try.checked }
namespace Rows
def none {H : Type} : Left H := { results := [], args := [] }

/-- 'laws.FnSeens': WHATEVER THE INPUT: true; the input reads as it did. -/
def fnSeensSpec : ChangeSpec := { name := "fnSeens", fn := fun _ => fun
  | [d] => { results := [.lit (.bool true)], args := [d] }
  | _ => none }
def fnSeensRow : OpenClaim := { program := "ytnihhlhcoacibaa", sum := "76a8ce2ecc2513c998df725429e429dfcd2b9f5ae69883119d0160ca9f28d2e2", func := "loop.example/g00486/laws.FnSeens", spec := "fnSeens", unfollowed := true, recurses := true, apart := false }
def FnSeensSaid : Prop := fnSeensRow.holds Try.pinned (OpenSpec.ofChange fnSeensSpec)

/-- ITS FALSE NEIGHBOUR: 'it returns false'. Refute it at one input. -/
def fnSeensWrong : ChangeSpec := { name := "fnSeens", fn := fun _ => fun
  | [d] => { results := [.lit (.bool false)], args := [d] }
  | _ => none }
def FnSeensWrongFalsely : Prop := fnSeensRow.holds Try.pinned (OpenSpec.ofChange fnSeensWrong)

/-- 'laws.FnArranges': WHATEVER THE INPUT: true; the input reads as it did. -/
def fnArrangesSpec : ChangeSpec := { name := "fnArranges", fn := fun _ => fun
  | [d] => { results := [.lit (.bool true)], args := [d] }
  | _ => none }
def fnArrangesRow : OpenClaim := { program := "ytnihhlhcoacibaa", sum := "76a8ce2ecc2513c998df725429e429dfcd2b9f5ae69883119d0160ca9f28d2e2", func := "loop.example/g00486/laws.FnArranges", spec := "fnArranges", unfollowed := true, recurses := true, apart := false }
def FnArrangesSaid : Prop := fnArrangesRow.holds Try.pinned (OpenSpec.ofChange fnArrangesSpec)

/-- ITS FALSE NEIGHBOUR: 'it returns false'. Refute it at one input. -/
def fnArrangesWrong : ChangeSpec := { name := "fnArranges", fn := fun _ => fun
  | [d] => { results := [.lit (.bool false)], args := [d] }
  | _ => none }
def FnArrangesWrongFalsely : Prop := fnArrangesRow.holds Try.pinned (OpenSpec.ofChange fnArrangesWrong)

/-- 'laws.FnExactArrange': WHATEVER THE INPUT: true; the input reads as it did. -/
def fnExactArrangeSpec : ChangeSpec := { name := "fnExactArrange", fn := fun _ => fun
  | [d1, d2, d3] => { results := [.lit (.bool true)], args := [d1, d2, d3] }
  | _ => none }
def fnExactArrangeRow : OpenClaim := { program := "ytnihhlhcoacibaa", sum := "76a8ce2ecc2513c998df725429e429dfcd2b9f5ae69883119d0160ca9f28d2e2", func := "loop.example/g00486/laws.FnExactArrange", spec := "fnExactArrange", unfollowed := true, recurses := true, apart := false }
def FnExactArrangeSaid : Prop := fnExactArrangeRow.holds Try.pinned (OpenSpec.ofChange fnExactArrangeSpec)

/-- ITS FALSE NEIGHBOUR: 'it returns false'. Refute it at one input. -/
def fnExactArrangeWrong : ChangeSpec := { name := "fnExactArrange", fn := fun _ => fun
  | [d1, d2, d3] => { results := [.lit (.bool false)], args := [d1, d2, d3] }
  | _ => none }
def FnExactArrangeWrongFalsely : Prop := fnExactArrangeRow.holds Try.pinned (OpenSpec.ofChange fnExactArrangeWrong)

/-- 'laws.FnExactCommit': WHATEVER THE INPUT: true; the input reads as it did. -/
def fnExactCommitSpec : ChangeSpec := { name := "fnExactCommit", fn := fun _ => fun
  | [d1, d2] => { results := [.lit (.bool true)], args := [d1, d2] }
  | _ => none }
def fnExactCommitRow : OpenClaim := { program := "ytnihhlhcoacibaa", sum := "76a8ce2ecc2513c998df725429e429dfcd2b9f5ae69883119d0160ca9f28d2e2", func := "loop.example/g00486/laws.FnExactCommit", spec := "fnExactCommit", unfollowed := true, recurses := true, apart := false }
def FnExactCommitSaid : Prop := fnExactCommitRow.holds Try.pinned (OpenSpec.ofChange fnExactCommitSpec)

/-- ITS FALSE NEIGHBOUR: 'it returns false'. Refute it at one input. -/
def fnExactCommitWrong : ChangeSpec := { name := "fnExactCommit", fn := fun _ => fun
  | [d1, d2] => { results := [.lit (.bool false)], args := [d1, d2] }
  | _ => none }
def FnExactCommitWrongFalsely : Prop := fnExactCommitRow.holds Try.pinned (OpenSpec.ofChange fnExactCommitWrong)

/-- 'laws.FnCommits': WHATEVER THE INPUT: true; the input reads as it did. -/
def fnCommitsSpec : ChangeSpec := { name := "fnCommits", fn := fun _ => fun
  | [d] => { results := [.lit (.bool true)], args := [d] }
  | _ => none }
def fnCommitsRow : OpenClaim := { program := "ytnihhlhcoacibaa", sum := "76a8ce2ecc2513c998df725429e429dfcd2b9f5ae69883119d0160ca9f28d2e2", func := "loop.example/g00486/laws.FnCommits", spec := "fnCommits", unfollowed := true, recurses := true, apart := false }
def FnCommitsSaid : Prop := fnCommitsRow.holds Try.pinned (OpenSpec.ofChange fnCommitsSpec)

/-- ITS FALSE NEIGHBOUR: 'it returns false'. Refute it at one input. -/
def fnCommitsWrong : ChangeSpec := { name := "fnCommits", fn := fun _ => fun
  | [d] => { results := [.lit (.bool false)], args := [d] }
  | _ => none }
def FnCommitsWrongFalsely : Prop := fnCommitsRow.holds Try.pinned (OpenSpec.ofChange fnCommitsWrong)

/-- 'laws.FnLastKnown': WHATEVER THE INPUT: true; the input reads as it did. -/
def fnLastKnownSpec : ChangeSpec := { name := "fnLastKnown", fn := fun _ => fun
  | [d] => { results := [.lit (.bool true)], args := [d] }
  | _ => none }
def fnLastKnownRow : OpenClaim := { program := "ytnihhlhcoacibaa", sum := "76a8ce2ecc2513c998df725429e429dfcd2b9f5ae69883119d0160ca9f28d2e2", func := "loop.example/g00486/laws.FnLastKnown", spec := "fnLastKnown", unfollowed := true, recurses := true, apart := false }
def FnLastKnownSaid : Prop := fnLastKnownRow.holds Try.pinned (OpenSpec.ofChange fnLastKnownSpec)

/-- ITS FALSE NEIGHBOUR: 'it returns false'. Refute it at one input. -/
def fnLastKnownWrong : ChangeSpec := { name := "fnLastKnown", fn := fun _ => fun
  | [d] => { results := [.lit (.bool false)], args := [d] }
  | _ => none }
def FnLastKnownWrongFalsely : Prop := fnLastKnownRow.holds Try.pinned (OpenSpec.ofChange fnLastKnownWrong)

/-- 'laws.FnSettles': WHATEVER THE INPUT: true; the input reads as it did. -/
def fnSettlesSpec : ChangeSpec := { name := "fnSettles", fn := fun _ => fun
  | [d] => { results := [.lit (.bool true)], args := [d] }
  | _ => none }
def fnSettlesRow : OpenClaim := { program := "ytnihhlhcoacibaa", sum := "76a8ce2ecc2513c998df725429e429dfcd2b9f5ae69883119d0160ca9f28d2e2", func := "loop.example/g00486/laws.FnSettles", spec := "fnSettles", unfollowed := true, recurses := true, apart := false }
def FnSettlesSaid : Prop := fnSettlesRow.holds Try.pinned (OpenSpec.ofChange fnSettlesSpec)

/-- ITS FALSE NEIGHBOUR: 'it returns false'. Refute it at one input. -/
def fnSettlesWrong : ChangeSpec := { name := "fnSettles", fn := fun _ => fun
  | [d] => { results := [.lit (.bool false)], args := [d] }
  | _ => none }
def FnSettlesWrongFalsely : Prop := fnSettlesRow.holds Try.pinned (OpenSpec.ofChange fnSettlesWrong)

/-- 'laws.FnExactLeftOf': WHATEVER THE INPUT: true; the input reads as it did. -/
def fnExactLeftOfSpec : ChangeSpec := { name := "fnExactLeftOf", fn := fun _ => fun
  | [d1, d2] => { results := [.lit (.bool true)], args := [d1, d2] }
  | _ => none }
def fnExactLeftOfRow : OpenClaim := { program := "ytnihhlhcoacibaa", sum := "76a8ce2ecc2513c998df725429e429dfcd2b9f5ae69883119d0160ca9f28d2e2", func := "loop.example/g00486/laws.FnExactLeftOf", spec := "fnExactLeftOf", unfollowed := true, recurses := true, apart := false }
def FnExactLeftOfSaid : Prop := fnExactLeftOfRow.holds Try.pinned (OpenSpec.ofChange fnExactLeftOfSpec)

/-- ITS FALSE NEIGHBOUR: 'it returns false'. Refute it at one input. -/
def fnExactLeftOfWrong : ChangeSpec := { name := "fnExactLeftOf", fn := fun _ => fun
  | [d1, d2] => { results := [.lit (.bool false)], args := [d1, d2] }
  | _ => none }
def FnExactLeftOfWrongFalsely : Prop := fnExactLeftOfRow.holds Try.pinned (OpenSpec.ofChange fnExactLeftOfWrong)

/-- 'laws.FnExactJoin': WHATEVER THE INPUT: true; the input reads as it did. -/
def fnExactJoinSpec : ChangeSpec := { name := "fnExactJoin", fn := fun _ => fun
  | [d1, d2] => { results := [.lit (.bool true)], args := [d1, d2] }
  | _ => none }
def fnExactJoinRow : OpenClaim := { program := "ytnihhlhcoacibaa", sum := "76a8ce2ecc2513c998df725429e429dfcd2b9f5ae69883119d0160ca9f28d2e2", func := "loop.example/g00486/laws.FnExactJoin", spec := "fnExactJoin", apart := false }
def FnExactJoinSaid : Prop := fnExactJoinRow.holds Try.pinned (OpenSpec.ofChange fnExactJoinSpec)

/-- ITS FALSE NEIGHBOUR: 'it returns false'. Refute it at one input. -/
def fnExactJoinWrong : ChangeSpec := { name := "fnExactJoin", fn := fun _ => fun
  | [d1, d2] => { results := [.lit (.bool false)], args := [d1, d2] }
  | _ => none }
def FnExactJoinWrongFalsely : Prop := fnExactJoinRow.holds Try.pinned (OpenSpec.ofChange fnExactJoinWrong)

/-- 'laws.FnExactGameNew': WHATEVER THE INPUT: true; the input reads as it did. -/
def fnExactGameNewSpec : ChangeSpec := { name := "fnExactGameNew", fn := fun _ => fun
  | [d1, d2, d3] => { results := [.lit (.bool true)], args := [d1, d2, d3] }
  | _ => none }
def fnExactGameNewRow : OpenClaim := { program := "ytnihhlhcoacibaa", sum := "76a8ce2ecc2513c998df725429e429dfcd2b9f5ae69883119d0160ca9f28d2e2", func := "loop.example/g00486/laws.FnExactGameNew", spec := "fnExactGameNew", apart := false }
def FnExactGameNewSaid : Prop := fnExactGameNewRow.holds Try.pinned (OpenSpec.ofChange fnExactGameNewSpec)

/-- ITS FALSE NEIGHBOUR: 'it returns false'. Refute it at one input. -/
def fnExactGameNewWrong : ChangeSpec := { name := "fnExactGameNew", fn := fun _ => fun
  | [d1, d2, d3] => { results := [.lit (.bool false)], args := [d1, d2, d3] }
  | _ => none }
def FnExactGameNewWrongFalsely : Prop := fnExactGameNewRow.holds Try.pinned (OpenSpec.ofChange fnExactGameNewWrong)

/-- 'laws.FnActed': WHATEVER THE INPUT: true; the input reads as it did. -/
def fnActedSpec : ChangeSpec := { name := "fnActed", fn := fun _ => fun
  | [d] => { results := [.lit (.bool true)], args := [d] }
  | _ => none }
def fnActedRow : OpenClaim := { program := "ytnihhlhcoacibaa", sum := "76a8ce2ecc2513c998df725429e429dfcd2b9f5ae69883119d0160ca9f28d2e2", func := "loop.example/g00486/laws.FnActed", spec := "fnActed", unfollowed := true, recurses := true, apart := false }
def FnActedSaid : Prop := fnActedRow.holds Try.pinned (OpenSpec.ofChange fnActedSpec)

/-- ITS FALSE NEIGHBOUR: 'it returns false'. Refute it at one input. -/
def fnActedWrong : ChangeSpec := { name := "fnActed", fn := fun _ => fun
  | [d] => { results := [.lit (.bool false)], args := [d] }
  | _ => none }
def FnActedWrongFalsely : Prop := fnActedRow.holds Try.pinned (OpenSpec.ofChange fnActedWrong)

/- THE SECOND FORM. 'bulk': how many values and letters a reading holds, each counted each time it is reached (what is shared counts as often as it is met; a slice's spare places count too). A statement '..UptoSaid' is the law's where the arguments, and the package variables that the reading takes, are together of bulk at most 1048576: NARROWER than '..Said'. Prove '..Said' where nothing that the law and all that it calls make is longer than what came in: it says more and counts as full. Else prove '..UptoSaid'. A law counts once. -/
mutual
def uptoBulk {H : Type} : DataW H → Nat
  | .lit (.string bytes) => bytes.length + 1
  | .lit _ => 1
  | .nil => 1
  | .ptr d => uptoBulk d + 1
  | .slice elems spare => uptoBulkAll elems + uptoBulkAll spare + 1
  | .agg parts => uptoBulkAll parts + 1
  | .iface _ d => uptoBulk d + 1
  | .map entries => uptoBulkEntries entries + 1
  | .held _ => 1
def uptoBulkAll {H : Type} : List (DataW H) → Nat
  | [] => 0
  | d :: r => uptoBulk d + uptoBulkAll r
def uptoBulkEntries {H : Type} : List (Lit × DataW H) → Nat
  | [] => 0
  | x :: r => uptoBulkEntry x + uptoBulkEntries r
def uptoBulkEntry {H : Type} : Lit × DataW H → Nat
  | (.string bytes, d) => bytes.length + uptoBulk d + 1
  | (_, d) => uptoBulk d + 1
 end
def uptoSmall : (H : Type) → List (DataW H) → Bool := fun _ ds => decide (uptoBulkAll ds ≤ 1048576)
def OpenSpec.upto (s : _root_.Go.ChangeSpec) : _root_.Go.OpenSpec := { _root_.Go.OpenSpec.ofChange s with cond := some uptoSmall }

/-- 'laws.FnSeens', WHERE WHAT IT READS IS OF BULK AT MOST 1048576: true; the input reads as it did. -/
def fnSeensUptoRow : OpenClaim := { program := "ytnihhlhcoacibaa", sum := "76a8ce2ecc2513c998df725429e429dfcd2b9f5ae69883119d0160ca9f28d2e2", func := "loop.example/g00486/laws.FnSeens", spec := "fnSeens", unfollowed := true, recurses := true, apart := false, narrowed := true }
def FnSeensUptoSaid : Prop := fnSeensUptoRow.holds Try.pinned (OpenSpec.upto fnSeensSpec)

/-- 'laws.FnArranges', WHERE WHAT IT READS IS OF BULK AT MOST 1048576: true; the input reads as it did. -/
def fnArrangesUptoRow : OpenClaim := { program := "ytnihhlhcoacibaa", sum := "76a8ce2ecc2513c998df725429e429dfcd2b9f5ae69883119d0160ca9f28d2e2", func := "loop.example/g00486/laws.FnArranges", spec := "fnArranges", unfollowed := true, recurses := true, apart := false, narrowed := true }
def FnArrangesUptoSaid : Prop := fnArrangesUptoRow.holds Try.pinned (OpenSpec.upto fnArrangesSpec)

/-- 'laws.FnExactArrange', WHERE WHAT IT READS IS OF BULK AT MOST 1048576: true; the input reads as it did. -/
def fnExactArrangeUptoRow : OpenClaim := { program := "ytnihhlhcoacibaa", sum := "76a8ce2ecc2513c998df725429e429dfcd2b9f5ae69883119d0160ca9f28d2e2", func := "loop.example/g00486/laws.FnExactArrange", spec := "fnExactArrange", unfollowed := true, recurses := true, apart := false, narrowed := true }
def FnExactArrangeUptoSaid : Prop := fnExactArrangeUptoRow.holds Try.pinned (OpenSpec.upto fnExactArrangeSpec)

/-- 'laws.FnExactCommit', WHERE WHAT IT READS IS OF BULK AT MOST 1048576: true; the input reads as it did. -/
def fnExactCommitUptoRow : OpenClaim := { program := "ytnihhlhcoacibaa", sum := "76a8ce2ecc2513c998df725429e429dfcd2b9f5ae69883119d0160ca9f28d2e2", func := "loop.example/g00486/laws.FnExactCommit", spec := "fnExactCommit", unfollowed := true, recurses := true, apart := false, narrowed := true }
def FnExactCommitUptoSaid : Prop := fnExactCommitUptoRow.holds Try.pinned (OpenSpec.upto fnExactCommitSpec)

/-- 'laws.FnCommits', WHERE WHAT IT READS IS OF BULK AT MOST 1048576: true; the input reads as it did. -/
def fnCommitsUptoRow : OpenClaim := { program := "ytnihhlhcoacibaa", sum := "76a8ce2ecc2513c998df725429e429dfcd2b9f5ae69883119d0160ca9f28d2e2", func := "loop.example/g00486/laws.FnCommits", spec := "fnCommits", unfollowed := true, recurses := true, apart := false, narrowed := true }
def FnCommitsUptoSaid : Prop := fnCommitsUptoRow.holds Try.pinned (OpenSpec.upto fnCommitsSpec)

/-- 'laws.FnLastKnown', WHERE WHAT IT READS IS OF BULK AT MOST 1048576: true; the input reads as it did. -/
def fnLastKnownUptoRow : OpenClaim := { program := "ytnihhlhcoacibaa", sum := "76a8ce2ecc2513c998df725429e429dfcd2b9f5ae69883119d0160ca9f28d2e2", func := "loop.example/g00486/laws.FnLastKnown", spec := "fnLastKnown", unfollowed := true, recurses := true, apart := false, narrowed := true }
def FnLastKnownUptoSaid : Prop := fnLastKnownUptoRow.holds Try.pinned (OpenSpec.upto fnLastKnownSpec)

/-- 'laws.FnSettles', WHERE WHAT IT READS IS OF BULK AT MOST 1048576: true; the input reads as it did. -/
def fnSettlesUptoRow : OpenClaim := { program := "ytnihhlhcoacibaa", sum := "76a8ce2ecc2513c998df725429e429dfcd2b9f5ae69883119d0160ca9f28d2e2", func := "loop.example/g00486/laws.FnSettles", spec := "fnSettles", unfollowed := true, recurses := true, apart := false, narrowed := true }
def FnSettlesUptoSaid : Prop := fnSettlesUptoRow.holds Try.pinned (OpenSpec.upto fnSettlesSpec)

/-- 'laws.FnExactLeftOf', WHERE WHAT IT READS IS OF BULK AT MOST 1048576: true; the input reads as it did. -/
def fnExactLeftOfUptoRow : OpenClaim := { program := "ytnihhlhcoacibaa", sum := "76a8ce2ecc2513c998df725429e429dfcd2b9f5ae69883119d0160ca9f28d2e2", func := "loop.example/g00486/laws.FnExactLeftOf", spec := "fnExactLeftOf", unfollowed := true, recurses := true, apart := false, narrowed := true }
def FnExactLeftOfUptoSaid : Prop := fnExactLeftOfUptoRow.holds Try.pinned (OpenSpec.upto fnExactLeftOfSpec)

/-- 'laws.FnExactJoin', WHERE WHAT IT READS IS OF BULK AT MOST 1048576: true; the input reads as it did. -/
def fnExactJoinUptoRow : OpenClaim := { program := "ytnihhlhcoacibaa", sum := "76a8ce2ecc2513c998df725429e429dfcd2b9f5ae69883119d0160ca9f28d2e2", func := "loop.example/g00486/laws.FnExactJoin", spec := "fnExactJoin", apart := false, narrowed := true }
def FnExactJoinUptoSaid : Prop := fnExactJoinUptoRow.holds Try.pinned (OpenSpec.upto fnExactJoinSpec)

/-- 'laws.FnExactGameNew', WHERE WHAT IT READS IS OF BULK AT MOST 1048576: true; the input reads as it did. -/
def fnExactGameNewUptoRow : OpenClaim := { program := "ytnihhlhcoacibaa", sum := "76a8ce2ecc2513c998df725429e429dfcd2b9f5ae69883119d0160ca9f28d2e2", func := "loop.example/g00486/laws.FnExactGameNew", spec := "fnExactGameNew", apart := false, narrowed := true }
def FnExactGameNewUptoSaid : Prop := fnExactGameNewUptoRow.holds Try.pinned (OpenSpec.upto fnExactGameNewSpec)

/-- 'laws.FnActed', WHERE WHAT IT READS IS OF BULK AT MOST 1048576: true; the input reads as it did. -/
def fnActedUptoRow : OpenClaim := { program := "ytnihhlhcoacibaa", sum := "76a8ce2ecc2513c998df725429e429dfcd2b9f5ae69883119d0160ca9f28d2e2", func := "loop.example/g00486/laws.FnActed", spec := "fnActed", unfollowed := true, recurses := true, apart := false, narrowed := true }
def FnActedUptoSaid : Prop := fnActedUptoRow.holds Try.pinned (OpenSpec.upto fnActedSpec)

end Rows
end Go.Proofs.Ytnihhlhcoacibaa
