/-
  No cell of these rows narrows 'for every input' (looked for: loops, veiled, ifaces, maps, wideKeys, modest, calm, conditions, laid).
  DERIVED. THE GIVEN ROWS OF THIS SEAT. 7 by the template 'for every input the law returns true; each argument reads behind the call as it read before'; 0 by the template 'total and deterministic' (their statements: YtgccfenlidjfkaaTotals.lean).
  GIVEN WITH THE SEED: the statements are not yours to turn. If you find one false, say at which input.
  Laid BY PROGRAM, IN A SANDBOX (cutbox-rows.mjs): the forced cells as the released guide's own fill.sh prints them over the translation c150cbf802fe1d89… (all of the seat's roots in one cut). By AI agents, Wed Nov 11 2026. No macro, syntax, notation, axiom, sorry.
-/
import Derived.Test.YtgccfenlidjfkaaChecked
import GoSem.Claim
import GoSem.ClaimJoined
import GoSem.ClaimMapViews
import Derived.JoinedTies
import Derived.KernelRfl
namespace Go.Proofs.Ytgccfenlidjfkaa
/- THE CELL 'sum', in the pinned program and in every row, IS THE sha256 OF THE DUMP (.gsa) THAT YtgccfenlidjfkaaProg.lean LOADS. Nothing in Lean hashes anything: it is a label: what it is worth is what the hold of that sum in a sandbox is worth. -/
noncomputable def Try.pinned : Pinned := { name := "ytgccfenlidjfkaa", sum := "c150cbf802fe1d89fff6885ab0d3eda0151c5a5340ad5b4f754579dbea798b1b", checked := Try.checked }
namespace Rows
def none {H : Type} : Left H := { results := [], args := [] }

/-- 'laws.FnDooms': WHATEVER THE INPUT: true; the input reads as it did. -/
def fnDoomsSpec : ChangeSpec := { name := "fnDooms", fn := fun _ => fun
  | [d] => { results := [.lit (.bool true)], args := [d] }
  | _ => none }
def fnDoomsRow : OpenClaim := { program := "ytgccfenlidjfkaa", sum := "c150cbf802fe1d89fff6885ab0d3eda0151c5a5340ad5b4f754579dbea798b1b", func := "loop.example/g00486/laws.FnDooms", spec := "fnDooms", unfollowed := true, recurses := true, apart := false }
def FnDoomsSaid : Prop := fnDoomsRow.holds Try.pinned (OpenSpec.ofChange fnDoomsSpec)

/-- ITS FALSE NEIGHBOUR: 'it returns false'. Refute it at one input. -/
def fnDoomsWrong : ChangeSpec := { name := "fnDooms", fn := fun _ => fun
  | [d] => { results := [.lit (.bool false)], args := [d] }
  | _ => none }
def FnDoomsWrongFalsely : Prop := fnDoomsRow.holds Try.pinned (OpenSpec.ofChange fnDoomsWrong)

/-- 'laws.FnRounds': WHATEVER THE INPUT: true; the input reads as it did. -/
def fnRoundsSpec : ChangeSpec := { name := "fnRounds", fn := fun _ => fun
  | [d] => { results := [.lit (.bool true)], args := [d] }
  | _ => none }
def fnRoundsRow : OpenClaim := { program := "ytgccfenlidjfkaa", sum := "c150cbf802fe1d89fff6885ab0d3eda0151c5a5340ad5b4f754579dbea798b1b", func := "loop.example/g00486/laws.FnRounds", spec := "fnRounds", unfollowed := true, recurses := true, apart := false }
def FnRoundsSaid : Prop := fnRoundsRow.holds Try.pinned (OpenSpec.ofChange fnRoundsSpec)

/-- ITS FALSE NEIGHBOUR: 'it returns false'. Refute it at one input. -/
def fnRoundsWrong : ChangeSpec := { name := "fnRounds", fn := fun _ => fun
  | [d] => { results := [.lit (.bool false)], args := [d] }
  | _ => none }
def FnRoundsWrongFalsely : Prop := fnRoundsRow.holds Try.pinned (OpenSpec.ofChange fnRoundsWrong)

/-- 'laws.FnStrikes': WHATEVER THE INPUT: true; the input reads as it did. -/
def fnStrikesSpec : ChangeSpec := { name := "fnStrikes", fn := fun _ => fun
  | [d] => { results := [.lit (.bool true)], args := [d] }
  | _ => none }
def fnStrikesRow : OpenClaim := { program := "ytgccfenlidjfkaa", sum := "c150cbf802fe1d89fff6885ab0d3eda0151c5a5340ad5b4f754579dbea798b1b", func := "loop.example/g00486/laws.FnStrikes", spec := "fnStrikes", unfollowed := true, recurses := true, apart := false }
def FnStrikesSaid : Prop := fnStrikesRow.holds Try.pinned (OpenSpec.ofChange fnStrikesSpec)

/-- ITS FALSE NEIGHBOUR: 'it returns false'. Refute it at one input. -/
def fnStrikesWrong : ChangeSpec := { name := "fnStrikes", fn := fun _ => fun
  | [d] => { results := [.lit (.bool false)], args := [d] }
  | _ => none }
def FnStrikesWrongFalsely : Prop := fnStrikesRow.holds Try.pinned (OpenSpec.ofChange fnStrikesWrong)

/-- 'laws.FnCarries': WHATEVER THE INPUT: true; the input reads as it did. -/
def fnCarriesSpec : ChangeSpec := { name := "fnCarries", fn := fun _ => fun
  | [d] => { results := [.lit (.bool true)], args := [d] }
  | _ => none }
def fnCarriesRow : OpenClaim := { program := "ytgccfenlidjfkaa", sum := "c150cbf802fe1d89fff6885ab0d3eda0151c5a5340ad5b4f754579dbea798b1b", func := "loop.example/g00486/laws.FnCarries", spec := "fnCarries", unfollowed := true, recurses := true, apart := false }
def FnCarriesSaid : Prop := fnCarriesRow.holds Try.pinned (OpenSpec.ofChange fnCarriesSpec)

/-- ITS FALSE NEIGHBOUR: 'it returns false'. Refute it at one input. -/
def fnCarriesWrong : ChangeSpec := { name := "fnCarries", fn := fun _ => fun
  | [d] => { results := [.lit (.bool false)], args := [d] }
  | _ => none }
def FnCarriesWrongFalsely : Prop := fnCarriesRow.holds Try.pinned (OpenSpec.ofChange fnCarriesWrong)

/-- 'laws.FnSeens': WHATEVER THE INPUT: true; the input reads as it did. -/
def fnSeensSpec : ChangeSpec := { name := "fnSeens", fn := fun _ => fun
  | [d] => { results := [.lit (.bool true)], args := [d] }
  | _ => none }
def fnSeensRow : OpenClaim := { program := "ytgccfenlidjfkaa", sum := "c150cbf802fe1d89fff6885ab0d3eda0151c5a5340ad5b4f754579dbea798b1b", func := "loop.example/g00486/laws.FnSeens", spec := "fnSeens", unfollowed := true, recurses := true, apart := false }
def FnSeensSaid : Prop := fnSeensRow.holds Try.pinned (OpenSpec.ofChange fnSeensSpec)

/-- ITS FALSE NEIGHBOUR: 'it returns false'. Refute it at one input. -/
def fnSeensWrong : ChangeSpec := { name := "fnSeens", fn := fun _ => fun
  | [d] => { results := [.lit (.bool false)], args := [d] }
  | _ => none }
def FnSeensWrongFalsely : Prop := fnSeensRow.holds Try.pinned (OpenSpec.ofChange fnSeensWrong)

/-- 'laws.FnBears': WHATEVER THE INPUT: true; the input reads as it did. -/
def fnBearsSpec : ChangeSpec := { name := "fnBears", fn := fun _ => fun
  | [d] => { results := [.lit (.bool true)], args := [d] }
  | _ => none }
def fnBearsRow : OpenClaim := { program := "ytgccfenlidjfkaa", sum := "c150cbf802fe1d89fff6885ab0d3eda0151c5a5340ad5b4f754579dbea798b1b", func := "loop.example/g00486/laws.FnBears", spec := "fnBears", inPlace := ["slices.overlaps[loop.example/g00486/impl.Piece]"], unfollowed := true, recurses := true, apart := false }
def FnBearsSaid : Prop := fnBearsRow.holds Try.pinned (OpenSpec.ofChange fnBearsSpec)

/-- ITS FALSE NEIGHBOUR: 'it returns false'. Refute it at one input. -/
def fnBearsWrong : ChangeSpec := { name := "fnBears", fn := fun _ => fun
  | [d] => { results := [.lit (.bool false)], args := [d] }
  | _ => none }
def FnBearsWrongFalsely : Prop := fnBearsRow.holds Try.pinned (OpenSpec.ofChange fnBearsWrong)

/-- 'laws.FnSettles': WHATEVER THE INPUT: true; the input reads as it did. -/
def fnSettlesSpec : ChangeSpec := { name := "fnSettles", fn := fun _ => fun
  | [d] => { results := [.lit (.bool true)], args := [d] }
  | _ => none }
def fnSettlesRow : OpenClaim := { program := "ytgccfenlidjfkaa", sum := "c150cbf802fe1d89fff6885ab0d3eda0151c5a5340ad5b4f754579dbea798b1b", func := "loop.example/g00486/laws.FnSettles", spec := "fnSettles", unfollowed := true, recurses := true, apart := false }
def FnSettlesSaid : Prop := fnSettlesRow.holds Try.pinned (OpenSpec.ofChange fnSettlesSpec)

/-- ITS FALSE NEIGHBOUR: 'it returns false'. Refute it at one input. -/
def fnSettlesWrong : ChangeSpec := { name := "fnSettles", fn := fun _ => fun
  | [d] => { results := [.lit (.bool false)], args := [d] }
  | _ => none }
def FnSettlesWrongFalsely : Prop := fnSettlesRow.holds Try.pinned (OpenSpec.ofChange fnSettlesWrong)

/- THE SECOND FORM. 'bulk': how many values and letters a reading holds, each counted each time it is reached (what is shared counts as often as it is met; a slice's spare places count too). A statement '..UptoSaid' is the law's where the arguments, and the package variables that the reading takes, are together of bulk at most 1048576: NARROWER than '..Said'. Prove '..Said' where nothing that the law and all that it calls make is longer than what came in: it says more and counts as full. Else prove '..UptoSaid'. A law counts once. -/
mutual
def uptoBulk {H : Type} : DataW H → Nat
  | .lit (.string bytes) => bytes.length + 1
  | .lit _ => 1
  | .nil => 1
  | .ptr d => uptoBulk d + 1
  | .slice elems spare => uptoBulkAll elems + uptoBulkAll spare + 1
  | .agg parts => uptoBulkAll parts + 1
  | .iface _ d => uptoBulk d + 1
  | .map entries => uptoBulkEntries entries + 1
  | .held _ => 1
def uptoBulkAll {H : Type} : List (DataW H) → Nat
  | [] => 0
  | d :: r => uptoBulk d + uptoBulkAll r
def uptoBulkEntries {H : Type} : List (Lit × DataW H) → Nat
  | [] => 0
  | x :: r => uptoBulkEntry x + uptoBulkEntries r
def uptoBulkEntry {H : Type} : Lit × DataW H → Nat
  | (.string bytes, d) => bytes.length + uptoBulk d + 1
  | (_, d) => uptoBulk d + 1
 end
def uptoSmall : (H : Type) → List (DataW H) → Bool := fun _ ds => decide (uptoBulkAll ds ≤ 1048576)
def OpenSpec.upto (s : _root_.Go.ChangeSpec) : _root_.Go.OpenSpec := { _root_.Go.OpenSpec.ofChange s with cond := some uptoSmall }

/-- 'laws.FnDooms', WHERE WHAT IT READS IS OF BULK AT MOST 1048576: true; the input reads as it did. -/
def fnDoomsUptoRow : OpenClaim := { program := "ytgccfenlidjfkaa", sum := "c150cbf802fe1d89fff6885ab0d3eda0151c5a5340ad5b4f754579dbea798b1b", func := "loop.example/g00486/laws.FnDooms", spec := "fnDooms", unfollowed := true, recurses := true, apart := false, narrowed := true }
def FnDoomsUptoSaid : Prop := fnDoomsUptoRow.holds Try.pinned (OpenSpec.upto fnDoomsSpec)

/-- 'laws.FnRounds', WHERE WHAT IT READS IS OF BULK AT MOST 1048576: true; the input reads as it did. -/
def fnRoundsUptoRow : OpenClaim := { program := "ytgccfenlidjfkaa", sum := "c150cbf802fe1d89fff6885ab0d3eda0151c5a5340ad5b4f754579dbea798b1b", func := "loop.example/g00486/laws.FnRounds", spec := "fnRounds", unfollowed := true, recurses := true, apart := false, narrowed := true }
def FnRoundsUptoSaid : Prop := fnRoundsUptoRow.holds Try.pinned (OpenSpec.upto fnRoundsSpec)

/-- 'laws.FnStrikes', WHERE WHAT IT READS IS OF BULK AT MOST 1048576: true; the input reads as it did. -/
def fnStrikesUptoRow : OpenClaim := { program := "ytgccfenlidjfkaa", sum := "c150cbf802fe1d89fff6885ab0d3eda0151c5a5340ad5b4f754579dbea798b1b", func := "loop.example/g00486/laws.FnStrikes", spec := "fnStrikes", unfollowed := true, recurses := true, apart := false, narrowed := true }
def FnStrikesUptoSaid : Prop := fnStrikesUptoRow.holds Try.pinned (OpenSpec.upto fnStrikesSpec)

/-- 'laws.FnCarries', WHERE WHAT IT READS IS OF BULK AT MOST 1048576: true; the input reads as it did. -/
def fnCarriesUptoRow : OpenClaim := { program := "ytgccfenlidjfkaa", sum := "c150cbf802fe1d89fff6885ab0d3eda0151c5a5340ad5b4f754579dbea798b1b", func := "loop.example/g00486/laws.FnCarries", spec := "fnCarries", unfollowed := true, recurses := true, apart := false, narrowed := true }
def FnCarriesUptoSaid : Prop := fnCarriesUptoRow.holds Try.pinned (OpenSpec.upto fnCarriesSpec)

/-- 'laws.FnSeens', WHERE WHAT IT READS IS OF BULK AT MOST 1048576: true; the input reads as it did. -/
def fnSeensUptoRow : OpenClaim := { program := "ytgccfenlidjfkaa", sum := "c150cbf802fe1d89fff6885ab0d3eda0151c5a5340ad5b4f754579dbea798b1b", func := "loop.example/g00486/laws.FnSeens", spec := "fnSeens", unfollowed := true, recurses := true, apart := false, narrowed := true }
def FnSeensUptoSaid : Prop := fnSeensUptoRow.holds Try.pinned (OpenSpec.upto fnSeensSpec)

/-- 'laws.FnBears', WHERE WHAT IT READS IS OF BULK AT MOST 1048576: true; the input reads as it did. -/
def fnBearsUptoRow : OpenClaim := { program := "ytgccfenlidjfkaa", sum := "c150cbf802fe1d89fff6885ab0d3eda0151c5a5340ad5b4f754579dbea798b1b", func := "loop.example/g00486/laws.FnBears", spec := "fnBears", inPlace := ["slices.overlaps[loop.example/g00486/impl.Piece]"], unfollowed := true, recurses := true, apart := false, narrowed := true }
def FnBearsUptoSaid : Prop := fnBearsUptoRow.holds Try.pinned (OpenSpec.upto fnBearsSpec)

/-- 'laws.FnSettles', WHERE WHAT IT READS IS OF BULK AT MOST 1048576: true; the input reads as it did. -/
def fnSettlesUptoRow : OpenClaim := { program := "ytgccfenlidjfkaa", sum := "c150cbf802fe1d89fff6885ab0d3eda0151c5a5340ad5b4f754579dbea798b1b", func := "loop.example/g00486/laws.FnSettles", spec := "fnSettles", unfollowed := true, recurses := true, apart := false, narrowed := true }
def FnSettlesUptoSaid : Prop := fnSettlesUptoRow.holds Try.pinned (OpenSpec.upto fnSettlesSpec)

end Rows
end Go.Proofs.Ytgccfenlidjfkaa
