/-
  No cell of these rows narrows 'for every input' (looked for: loops, veiled, ifaces, maps, wideKeys, modest, calm, conditions, laid).
  DERIVED. THE GIVEN ROWS OF THIS SEAT. 7 by the template 'for every input the law returns true; each argument reads behind the call as it read before'; 0 by the template 'total and deterministic' (their statements: YtenadnbpibhmiaaGreatTotals.lean).
  GIVEN WITH THE SEED: the statements are not yours to turn. If you find one false, say at which input.
  Laid BY PROGRAM, IN A SANDBOX (cutbox-rows.mjs): the forced cells as the released guide's own fill.sh prints them over the translation c852bd740877f9f3… (all of the seat's roots in one cut). By AI agents, Wed Nov 11 2026. No macro, syntax, notation, axiom, sorry.
-/
import Derived.Test.YtenadnbpibhmiaaGreatChecked
import GoSem.Claim
import GoSem.ClaimJoined
import GoSem.ClaimMapViews
import Derived.JoinedTies
import Derived.KernelRfl
namespace Go.Proofs.YtenadnbpibhmiaaGreat
/- THE CELL 'sum', in the pinned program and in every row, IS THE sha256 OF THE DUMP (.gsa) THAT YtenadnbpibhmiaaGreatProg.lean LOADS. Nothing in Lean hashes anything: it is a label: what it is worth is what the hold of that sum in a sandbox is worth. -/
noncomputable def Tryz.pinned : Pinned := { name := "ytenadnbpibhmiaagreat", sum := "c852bd740877f9f3b00595a9ba4dcc0d9d499aaa3d3646f1e2c5e65cedc3c3f4", checked := Tryz.checked }
namespace Rows
def none {H : Type} : Left H := { results := [], args := [] }

/-- 'laws.FnOrders': WHATEVER THE INPUT: true; the input reads as it did. -/
def fnOrdersSpec : ChangeSpec := { name := "fnOrders", fn := fun _ => fun
  | [d] => { results := [.lit (.bool true)], args := [d] }
  | _ => none }
def fnOrdersRow : OpenClaim := { program := "ytenadnbpibhmiaagreat", sum := "c852bd740877f9f3b00595a9ba4dcc0d9d499aaa3d3646f1e2c5e65cedc3c3f4", func := "loop.example/g00486/laws.FnOrders", spec := "fnOrders", inPlace := ["slices.overlaps[loop.example/g00486/impl.Effect]"], unfollowed := true, recurses := true, apart := false }
def FnOrdersSaid : Prop := fnOrdersRow.holds Tryz.pinned (OpenSpec.ofChange fnOrdersSpec)

/-- ITS FALSE NEIGHBOUR: 'it returns false'. Refute it at one input. -/
def fnOrdersWrong : ChangeSpec := { name := "fnOrders", fn := fun _ => fun
  | [d] => { results := [.lit (.bool false)], args := [d] }
  | _ => none }
def FnOrdersWrongFalsely : Prop := fnOrdersRow.holds Tryz.pinned (OpenSpec.ofChange fnOrdersWrong)

/-- 'laws.FnExactDoOrder': WHATEVER THE INPUT: true; the input reads as it did. -/
def fnExactDoOrderSpec : ChangeSpec := { name := "fnExactDoOrder", fn := fun _ => fun
  | [d1, d2] => { results := [.lit (.bool true)], args := [d1, d2] }
  | _ => none }
def fnExactDoOrderRow : OpenClaim := { program := "ytenadnbpibhmiaagreat", sum := "c852bd740877f9f3b00595a9ba4dcc0d9d499aaa3d3646f1e2c5e65cedc3c3f4", func := "loop.example/g00486/laws.FnExactDoOrder", spec := "fnExactDoOrder", inPlace := ["slices.overlaps[loop.example/g00486/impl.Effect]"], unfollowed := true, recurses := true, apart := false }
def FnExactDoOrderSaid : Prop := fnExactDoOrderRow.holds Tryz.pinned (OpenSpec.ofChange fnExactDoOrderSpec)

/-- ITS FALSE NEIGHBOUR: 'it returns false'. Refute it at one input. -/
def fnExactDoOrderWrong : ChangeSpec := { name := "fnExactDoOrder", fn := fun _ => fun
  | [d1, d2] => { results := [.lit (.bool false)], args := [d1, d2] }
  | _ => none }
def FnExactDoOrderWrongFalsely : Prop := fnExactDoOrderRow.holds Tryz.pinned (OpenSpec.ofChange fnExactDoOrderWrong)

/-- 'laws.FnExactPlay': WHATEVER THE INPUT: true; the input reads as it did. -/
def fnExactPlaySpec : ChangeSpec := { name := "fnExactPlay", fn := fun _ => fun
  | [d1, d2] => { results := [.lit (.bool true)], args := [d1, d2] }
  | _ => none }
def fnExactPlayRow : OpenClaim := { program := "ytenadnbpibhmiaagreat", sum := "c852bd740877f9f3b00595a9ba4dcc0d9d499aaa3d3646f1e2c5e65cedc3c3f4", func := "loop.example/g00486/laws.FnExactPlay", spec := "fnExactPlay", inPlace := ["slices.overlaps[loop.example/g00486/impl.Effect]"], unfollowed := true, recurses := true, apart := false }
def FnExactPlaySaid : Prop := fnExactPlayRow.holds Tryz.pinned (OpenSpec.ofChange fnExactPlaySpec)

/-- ITS FALSE NEIGHBOUR: 'it returns false'. Refute it at one input. -/
def fnExactPlayWrong : ChangeSpec := { name := "fnExactPlay", fn := fun _ => fun
  | [d1, d2] => { results := [.lit (.bool false)], args := [d1, d2] }
  | _ => none }
def FnExactPlayWrongFalsely : Prop := fnExactPlayRow.holds Tryz.pinned (OpenSpec.ofChange fnExactPlayWrong)

/-- 'laws.FnGames': WHATEVER THE INPUT: true; the input reads as it did. -/
def fnGamesSpec : ChangeSpec := { name := "fnGames", fn := fun _ => fun
  | [d] => { results := [.lit (.bool true)], args := [d] }
  | _ => none }
def fnGamesRow : OpenClaim := { program := "ytenadnbpibhmiaagreat", sum := "c852bd740877f9f3b00595a9ba4dcc0d9d499aaa3d3646f1e2c5e65cedc3c3f4", func := "loop.example/g00486/laws.FnGames", spec := "fnGames", inPlace := ["slices.overlaps[loop.example/g00486/impl.Effect]"], unfollowed := true, recurses := true, apart := false }
def FnGamesSaid : Prop := fnGamesRow.holds Tryz.pinned (OpenSpec.ofChange fnGamesSpec)

/-- ITS FALSE NEIGHBOUR: 'it returns false'. Refute it at one input. -/
def fnGamesWrong : ChangeSpec := { name := "fnGames", fn := fun _ => fun
  | [d] => { results := [.lit (.bool false)], args := [d] }
  | _ => none }
def FnGamesWrongFalsely : Prop := fnGamesRow.holds Tryz.pinned (OpenSpec.ofChange fnGamesWrong)

/-- 'laws.FnExactRewrite': WHATEVER THE INPUT: true; the input reads as it did. -/
def fnExactRewriteSpec : ChangeSpec := { name := "fnExactRewrite", fn := fun _ => fun
  | [d1, d2, d3, d4] => { results := [.lit (.bool true)], args := [d1, d2, d3, d4] }
  | _ => none }
def fnExactRewriteRow : OpenClaim := { program := "ytenadnbpibhmiaagreat", sum := "c852bd740877f9f3b00595a9ba4dcc0d9d499aaa3d3646f1e2c5e65cedc3c3f4", func := "loop.example/g00486/laws.FnExactRewrite", spec := "fnExactRewrite", unfollowed := true, recurses := true, apart := false }
def FnExactRewriteSaid : Prop := fnExactRewriteRow.holds Tryz.pinned (OpenSpec.ofChange fnExactRewriteSpec)

/-- ITS FALSE NEIGHBOUR: 'it returns false'. Refute it at one input. -/
def fnExactRewriteWrong : ChangeSpec := { name := "fnExactRewrite", fn := fun _ => fun
  | [d1, d2, d3, d4] => { results := [.lit (.bool false)], args := [d1, d2, d3, d4] }
  | _ => none }
def FnExactRewriteWrongFalsely : Prop := fnExactRewriteRow.holds Tryz.pinned (OpenSpec.ofChange fnExactRewriteWrong)

/-- 'laws.FnExactRewriteAll': WHATEVER THE INPUT: true; the input reads as it did. -/
def fnExactRewriteAllSpec : ChangeSpec := { name := "fnExactRewriteAll", fn := fun _ => fun
  | [d1, d2, d3, d4] => { results := [.lit (.bool true)], args := [d1, d2, d3, d4] }
  | _ => none }
def fnExactRewriteAllRow : OpenClaim := { program := "ytenadnbpibhmiaagreat", sum := "c852bd740877f9f3b00595a9ba4dcc0d9d499aaa3d3646f1e2c5e65cedc3c3f4", func := "loop.example/g00486/laws.FnExactRewriteAll", spec := "fnExactRewriteAll", unfollowed := true, recurses := true, apart := false }
def FnExactRewriteAllSaid : Prop := fnExactRewriteAllRow.holds Tryz.pinned (OpenSpec.ofChange fnExactRewriteAllSpec)

/-- ITS FALSE NEIGHBOUR: 'it returns false'. Refute it at one input. -/
def fnExactRewriteAllWrong : ChangeSpec := { name := "fnExactRewriteAll", fn := fun _ => fun
  | [d1, d2, d3, d4] => { results := [.lit (.bool false)], args := [d1, d2, d3, d4] }
  | _ => none }
def FnExactRewriteAllWrongFalsely : Prop := fnExactRewriteAllRow.holds Tryz.pinned (OpenSpec.ofChange fnExactRewriteAllWrong)

/-- 'laws.FnBatches': WHATEVER THE INPUT: true; the input reads as it did. -/
def fnBatchesSpec : ChangeSpec := { name := "fnBatches", fn := fun _ => fun
  | [d] => { results := [.lit (.bool true)], args := [d] }
  | _ => none }
def fnBatchesRow : OpenClaim := { program := "ytenadnbpibhmiaagreat", sum := "c852bd740877f9f3b00595a9ba4dcc0d9d499aaa3d3646f1e2c5e65cedc3c3f4", func := "loop.example/g00486/laws.FnBatches", spec := "fnBatches", unfollowed := true, recurses := true, apart := false }
def FnBatchesSaid : Prop := fnBatchesRow.holds Tryz.pinned (OpenSpec.ofChange fnBatchesSpec)

/-- ITS FALSE NEIGHBOUR: 'it returns false'. Refute it at one input. -/
def fnBatchesWrong : ChangeSpec := { name := "fnBatches", fn := fun _ => fun
  | [d] => { results := [.lit (.bool false)], args := [d] }
  | _ => none }
def FnBatchesWrongFalsely : Prop := fnBatchesRow.holds Tryz.pinned (OpenSpec.ofChange fnBatchesWrong)

/- THE SECOND FORM. 'bulk': how many values and letters a reading holds, each counted each time it is reached (what is shared counts as often as it is met; a slice's spare places count too). A statement '..UptoSaid' is the law's where the arguments, and the package variables that the reading takes, are together of bulk at most 1048576: NARROWER than '..Said'. Prove '..Said' where nothing that the law and all that it calls make is longer than what came in: it says more and counts as full. Else prove '..UptoSaid'. A law counts once. -/
mutual
def uptoBulk {H : Type} : DataW H → Nat
  | .lit (.string bytes) => bytes.length + 1
  | .lit _ => 1
  | .nil => 1
  | .ptr d => uptoBulk d + 1
  | .slice elems spare => uptoBulkAll elems + uptoBulkAll spare + 1
  | .agg parts => uptoBulkAll parts + 1
  | .iface _ d => uptoBulk d + 1
  | .map entries => uptoBulkEntries entries + 1
  | .held _ => 1
def uptoBulkAll {H : Type} : List (DataW H) → Nat
  | [] => 0
  | d :: r => uptoBulk d + uptoBulkAll r
def uptoBulkEntries {H : Type} : List (Lit × DataW H) → Nat
  | [] => 0
  | x :: r => uptoBulkEntry x + uptoBulkEntries r
def uptoBulkEntry {H : Type} : Lit × DataW H → Nat
  | (.string bytes, d) => bytes.length + uptoBulk d + 1
  | (_, d) => uptoBulk d + 1
 end
def uptoSmall : (H : Type) → List (DataW H) → Bool := fun _ ds => decide (uptoBulkAll ds ≤ 1048576)
def OpenSpec.upto (s : _root_.Go.ChangeSpec) : _root_.Go.OpenSpec := { _root_.Go.OpenSpec.ofChange s with cond := some uptoSmall }

/-- 'laws.FnOrders', WHERE WHAT IT READS IS OF BULK AT MOST 1048576: true; the input reads as it did. -/
def fnOrdersUptoRow : OpenClaim := { program := "ytenadnbpibhmiaagreat", sum := "c852bd740877f9f3b00595a9ba4dcc0d9d499aaa3d3646f1e2c5e65cedc3c3f4", func := "loop.example/g00486/laws.FnOrders", spec := "fnOrders", inPlace := ["slices.overlaps[loop.example/g00486/impl.Effect]"], unfollowed := true, recurses := true, apart := false, narrowed := true }
def FnOrdersUptoSaid : Prop := fnOrdersUptoRow.holds Tryz.pinned (OpenSpec.upto fnOrdersSpec)

/-- 'laws.FnExactDoOrder', WHERE WHAT IT READS IS OF BULK AT MOST 1048576: true; the input reads as it did. -/
def fnExactDoOrderUptoRow : OpenClaim := { program := "ytenadnbpibhmiaagreat", sum := "c852bd740877f9f3b00595a9ba4dcc0d9d499aaa3d3646f1e2c5e65cedc3c3f4", func := "loop.example/g00486/laws.FnExactDoOrder", spec := "fnExactDoOrder", inPlace := ["slices.overlaps[loop.example/g00486/impl.Effect]"], unfollowed := true, recurses := true, apart := false, narrowed := true }
def FnExactDoOrderUptoSaid : Prop := fnExactDoOrderUptoRow.holds Tryz.pinned (OpenSpec.upto fnExactDoOrderSpec)

/-- 'laws.FnExactPlay', WHERE WHAT IT READS IS OF BULK AT MOST 1048576: true; the input reads as it did. -/
def fnExactPlayUptoRow : OpenClaim := { program := "ytenadnbpibhmiaagreat", sum := "c852bd740877f9f3b00595a9ba4dcc0d9d499aaa3d3646f1e2c5e65cedc3c3f4", func := "loop.example/g00486/laws.FnExactPlay", spec := "fnExactPlay", inPlace := ["slices.overlaps[loop.example/g00486/impl.Effect]"], unfollowed := true, recurses := true, apart := false, narrowed := true }
def FnExactPlayUptoSaid : Prop := fnExactPlayUptoRow.holds Tryz.pinned (OpenSpec.upto fnExactPlaySpec)

/-- 'laws.FnGames', WHERE WHAT IT READS IS OF BULK AT MOST 1048576: true; the input reads as it did. -/
def fnGamesUptoRow : OpenClaim := { program := "ytenadnbpibhmiaagreat", sum := "c852bd740877f9f3b00595a9ba4dcc0d9d499aaa3d3646f1e2c5e65cedc3c3f4", func := "loop.example/g00486/laws.FnGames", spec := "fnGames", inPlace := ["slices.overlaps[loop.example/g00486/impl.Effect]"], unfollowed := true, recurses := true, apart := false, narrowed := true }
def FnGamesUptoSaid : Prop := fnGamesUptoRow.holds Tryz.pinned (OpenSpec.upto fnGamesSpec)

/-- 'laws.FnExactRewrite', WHERE WHAT IT READS IS OF BULK AT MOST 1048576: true; the input reads as it did. -/
def fnExactRewriteUptoRow : OpenClaim := { program := "ytenadnbpibhmiaagreat", sum := "c852bd740877f9f3b00595a9ba4dcc0d9d499aaa3d3646f1e2c5e65cedc3c3f4", func := "loop.example/g00486/laws.FnExactRewrite", spec := "fnExactRewrite", unfollowed := true, recurses := true, apart := false, narrowed := true }
def FnExactRewriteUptoSaid : Prop := fnExactRewriteUptoRow.holds Tryz.pinned (OpenSpec.upto fnExactRewriteSpec)

/-- 'laws.FnExactRewriteAll', WHERE WHAT IT READS IS OF BULK AT MOST 1048576: true; the input reads as it did. -/
def fnExactRewriteAllUptoRow : OpenClaim := { program := "ytenadnbpibhmiaagreat", sum := "c852bd740877f9f3b00595a9ba4dcc0d9d499aaa3d3646f1e2c5e65cedc3c3f4", func := "loop.example/g00486/laws.FnExactRewriteAll", spec := "fnExactRewriteAll", unfollowed := true, recurses := true, apart := false, narrowed := true }
def FnExactRewriteAllUptoSaid : Prop := fnExactRewriteAllUptoRow.holds Tryz.pinned (OpenSpec.upto fnExactRewriteAllSpec)

/-- 'laws.FnBatches', WHERE WHAT IT READS IS OF BULK AT MOST 1048576: true; the input reads as it did. -/
def fnBatchesUptoRow : OpenClaim := { program := "ytenadnbpibhmiaagreat", sum := "c852bd740877f9f3b00595a9ba4dcc0d9d499aaa3d3646f1e2c5e65cedc3c3f4", func := "loop.example/g00486/laws.FnBatches", spec := "fnBatches", unfollowed := true, recurses := true, apart := false, narrowed := true }
def FnBatchesUptoSaid : Prop := fnBatchesUptoRow.holds Tryz.pinned (OpenSpec.upto fnBatchesSpec)

end Rows
end Go.Proofs.YtenadnbpibhmiaaGreat
