/-
  No cell of these rows narrows 'for every input' (looked for: loops, veiled, ifaces, maps, wideKeys, modest, calm, conditions, laid).
  DERIVED. THE GIVEN ROWS OF THIS SEAT. 11 by the template 'for every input the law returns true; each argument reads behind the call as it read before'; 0 by the template 'total and deterministic' (their statements: YtocdfakhhnbagaaTotals.lean).
  GIVEN WITH THE SEED: the statements are not yours to turn. If you find one false, say at which input.
  Laid BY PROGRAM, IN A SANDBOX (cutbox-rows.mjs): the forced cells as the released guide's own fill.sh prints them over the translation dc8e827378480b45… (all of the seat's roots in one cut). By AI agents, Wed Nov 11 2026. No macro, syntax, notation, axiom, sorry.
-/
import Derived.Test.YtocdfakhhnbagaaChecked
import GoSem.Claim
import GoSem.ClaimJoined
import GoSem.ClaimMapViews
import Derived.JoinedTies
import Derived.KernelRfl
namespace Go.Proofs.Ytocdfakhhnbagaa
/- THE CELL 'sum', in the pinned program and in every row, IS THE sha256 OF THE DUMP (.gsa) THAT YtocdfakhhnbagaaProg.lean LOADS. Nothing in Lean hashes anything: it is a label: what it is worth is what the hold of that sum in a sandbox is worth. -/
noncomputable def Try.pinned : Pinned := { name := "ytocdfakhhnbagaa", sum := "dc8e827378480b45f38158b5c0a00ec361d8df9a1653ff1feee06b8605a8d730", checked := Try.checked }
namespace Rows
def none {H : Type} : Left H := { results := [], args := [] }

/-- 'laws.FnExactQuiet': WHATEVER THE INPUT: true; the input reads as it did. -/
def fnExactQuietSpec : ChangeSpec := { name := "fnExactQuiet", fn := fun _ => fun
  | [d] => { results := [.lit (.bool true)], args := [d] }
  | _ => none }
def fnExactQuietRow : OpenClaim := { program := "ytocdfakhhnbagaa", sum := "dc8e827378480b45f38158b5c0a00ec361d8df9a1653ff1feee06b8605a8d730", func := "loop.example/g00486/laws.FnExactQuiet", spec := "fnExactQuiet", unfollowed := true, recurses := true, apart := false }
def FnExactQuietSaid : Prop := fnExactQuietRow.holds Try.pinned (OpenSpec.ofChange fnExactQuietSpec)

/-- ITS FALSE NEIGHBOUR: 'it returns false'. Refute it at one input. -/
def fnExactQuietWrong : ChangeSpec := { name := "fnExactQuiet", fn := fun _ => fun
  | [d] => { results := [.lit (.bool false)], args := [d] }
  | _ => none }
def FnExactQuietWrongFalsely : Prop := fnExactQuietRow.holds Try.pinned (OpenSpec.ofChange fnExactQuietWrong)

/-- 'laws.FnExactChain': WHATEVER THE INPUT: true; the input reads as it did. -/
def fnExactChainSpec : ChangeSpec := { name := "fnExactChain", fn := fun _ => fun
  | [d] => { results := [.lit (.bool true)], args := [d] }
  | _ => none }
def fnExactChainRow : OpenClaim := { program := "ytocdfakhhnbagaa", sum := "dc8e827378480b45f38158b5c0a00ec361d8df9a1653ff1feee06b8605a8d730", func := "loop.example/g00486/laws.FnExactChain", spec := "fnExactChain", apart := false }
def FnExactChainSaid : Prop := fnExactChainRow.holds Try.pinned (OpenSpec.ofChange fnExactChainSpec)

/-- ITS FALSE NEIGHBOUR: 'it returns false'. Refute it at one input. -/
def fnExactChainWrong : ChangeSpec := { name := "fnExactChain", fn := fun _ => fun
  | [d] => { results := [.lit (.bool false)], args := [d] }
  | _ => none }
def FnExactChainWrongFalsely : Prop := fnExactChainRow.holds Try.pinned (OpenSpec.ofChange fnExactChainWrong)

/-- 'laws.FnExactSameFate': WHATEVER THE INPUT: true; the input reads as it did. -/
def fnExactSameFateSpec : ChangeSpec := { name := "fnExactSameFate", fn := fun _ => fun
  | [d1, d2] => { results := [.lit (.bool true)], args := [d1, d2] }
  | _ => none }
def fnExactSameFateRow : OpenClaim := { program := "ytocdfakhhnbagaa", sum := "dc8e827378480b45f38158b5c0a00ec361d8df9a1653ff1feee06b8605a8d730", func := "loop.example/g00486/laws.FnExactSameFate", spec := "fnExactSameFate", unfollowed := true, recurses := true, apart := false }
def FnExactSameFateSaid : Prop := fnExactSameFateRow.holds Try.pinned (OpenSpec.ofChange fnExactSameFateSpec)

/-- ITS FALSE NEIGHBOUR: 'it returns false'. Refute it at one input. -/
def fnExactSameFateWrong : ChangeSpec := { name := "fnExactSameFate", fn := fun _ => fun
  | [d1, d2] => { results := [.lit (.bool false)], args := [d1, d2] }
  | _ => none }
def FnExactSameFateWrongFalsely : Prop := fnExactSameFateRow.holds Try.pinned (OpenSpec.ofChange fnExactSameFateWrong)

/-- 'laws.FnExactSameGame': WHATEVER THE INPUT: true; the input reads as it did. -/
def fnExactSameGameSpec : ChangeSpec := { name := "fnExactSameGame", fn := fun _ => fun
  | [d1, d2] => { results := [.lit (.bool true)], args := [d1, d2] }
  | _ => none }
def fnExactSameGameRow : OpenClaim := { program := "ytocdfakhhnbagaa", sum := "dc8e827378480b45f38158b5c0a00ec361d8df9a1653ff1feee06b8605a8d730", func := "loop.example/g00486/laws.FnExactSameGame", spec := "fnExactSameGame", unfollowed := true, recurses := true, apart := false }
def FnExactSameGameSaid : Prop := fnExactSameGameRow.holds Try.pinned (OpenSpec.ofChange fnExactSameGameSpec)

/-- ITS FALSE NEIGHBOUR: 'it returns false'. Refute it at one input. -/
def fnExactSameGameWrong : ChangeSpec := { name := "fnExactSameGame", fn := fun _ => fun
  | [d1, d2] => { results := [.lit (.bool false)], args := [d1, d2] }
  | _ => none }
def FnExactSameGameWrongFalsely : Prop := fnExactSameGameRow.holds Try.pinned (OpenSpec.ofChange fnExactSameGameWrong)

/-- 'laws.FnExactCarry': WHATEVER THE INPUT: true; the input reads as it did. -/
def fnExactCarrySpec : ChangeSpec := { name := "fnExactCarry", fn := fun _ => fun
  | [d1, d2] => { results := [.lit (.bool true)], args := [d1, d2] }
  | _ => none }
def fnExactCarryRow : OpenClaim := { program := "ytocdfakhhnbagaa", sum := "dc8e827378480b45f38158b5c0a00ec361d8df9a1653ff1feee06b8605a8d730", func := "loop.example/g00486/laws.FnExactCarry", spec := "fnExactCarry", unfollowed := true, recurses := true, apart := false }
def FnExactCarrySaid : Prop := fnExactCarryRow.holds Try.pinned (OpenSpec.ofChange fnExactCarrySpec)

/-- ITS FALSE NEIGHBOUR: 'it returns false'. Refute it at one input. -/
def fnExactCarryWrong : ChangeSpec := { name := "fnExactCarry", fn := fun _ => fun
  | [d1, d2] => { results := [.lit (.bool false)], args := [d1, d2] }
  | _ => none }
def FnExactCarryWrongFalsely : Prop := fnExactCarryRow.holds Try.pinned (OpenSpec.ofChange fnExactCarryWrong)

/-- 'laws.FnExactBear': WHATEVER THE INPUT: true; the input reads as it did. -/
def fnExactBearSpec : ChangeSpec := { name := "fnExactBear", fn := fun _ => fun
  | [d1, d2] => { results := [.lit (.bool true)], args := [d1, d2] }
  | _ => none }
def fnExactBearRow : OpenClaim := { program := "ytocdfakhhnbagaa", sum := "dc8e827378480b45f38158b5c0a00ec361d8df9a1653ff1feee06b8605a8d730", func := "loop.example/g00486/laws.FnExactBear", spec := "fnExactBear", unfollowed := true, recurses := true, apart := false }
def FnExactBearSaid : Prop := fnExactBearRow.holds Try.pinned (OpenSpec.ofChange fnExactBearSpec)

/-- ITS FALSE NEIGHBOUR: 'it returns false'. Refute it at one input. -/
def fnExactBearWrong : ChangeSpec := { name := "fnExactBear", fn := fun _ => fun
  | [d1, d2] => { results := [.lit (.bool false)], args := [d1, d2] }
  | _ => none }
def FnExactBearWrongFalsely : Prop := fnExactBearRow.holds Try.pinned (OpenSpec.ofChange fnExactBearWrong)

/-- 'laws.FnExactStrike': WHATEVER THE INPUT: true; the input reads as it did. -/
def fnExactStrikeSpec : ChangeSpec := { name := "fnExactStrike", fn := fun _ => fun
  | [d1, d2, d3] => { results := [.lit (.bool true)], args := [d1, d2, d3] }
  | _ => none }
def fnExactStrikeRow : OpenClaim := { program := "ytocdfakhhnbagaa", sum := "dc8e827378480b45f38158b5c0a00ec361d8df9a1653ff1feee06b8605a8d730", func := "loop.example/g00486/laws.FnExactStrike", spec := "fnExactStrike", unfollowed := true, recurses := true, apart := false }
def FnExactStrikeSaid : Prop := fnExactStrikeRow.holds Try.pinned (OpenSpec.ofChange fnExactStrikeSpec)

/-- ITS FALSE NEIGHBOUR: 'it returns false'. Refute it at one input. -/
def fnExactStrikeWrong : ChangeSpec := { name := "fnExactStrike", fn := fun _ => fun
  | [d1, d2, d3] => { results := [.lit (.bool false)], args := [d1, d2, d3] }
  | _ => none }
def FnExactStrikeWrongFalsely : Prop := fnExactStrikeRow.holds Try.pinned (OpenSpec.ofChange fnExactStrikeWrong)

/-- 'laws.FnExactArrange': WHATEVER THE INPUT: true; the input reads as it did. -/
def fnExactArrangeSpec : ChangeSpec := { name := "fnExactArrange", fn := fun _ => fun
  | [d1, d2, d3] => { results := [.lit (.bool true)], args := [d1, d2, d3] }
  | _ => none }
def fnExactArrangeRow : OpenClaim := { program := "ytocdfakhhnbagaa", sum := "dc8e827378480b45f38158b5c0a00ec361d8df9a1653ff1feee06b8605a8d730", func := "loop.example/g00486/laws.FnExactArrange", spec := "fnExactArrange", unfollowed := true, recurses := true, apart := false }
def FnExactArrangeSaid : Prop := fnExactArrangeRow.holds Try.pinned (OpenSpec.ofChange fnExactArrangeSpec)

/-- ITS FALSE NEIGHBOUR: 'it returns false'. Refute it at one input. -/
def fnExactArrangeWrong : ChangeSpec := { name := "fnExactArrange", fn := fun _ => fun
  | [d1, d2, d3] => { results := [.lit (.bool false)], args := [d1, d2, d3] }
  | _ => none }
def FnExactArrangeWrongFalsely : Prop := fnExactArrangeRow.holds Try.pinned (OpenSpec.ofChange fnExactArrangeWrong)

/-- 'laws.FnExactSeen': WHATEVER THE INPUT: true; the input reads as it did. -/
def fnExactSeenSpec : ChangeSpec := { name := "fnExactSeen", fn := fun _ => fun
  | [d1, d2] => { results := [.lit (.bool true)], args := [d1, d2] }
  | _ => none }
def fnExactSeenRow : OpenClaim := { program := "ytocdfakhhnbagaa", sum := "dc8e827378480b45f38158b5c0a00ec361d8df9a1653ff1feee06b8605a8d730", func := "loop.example/g00486/laws.FnExactSeen", spec := "fnExactSeen", unfollowed := true, recurses := true, apart := false }
def FnExactSeenSaid : Prop := fnExactSeenRow.holds Try.pinned (OpenSpec.ofChange fnExactSeenSpec)

/-- ITS FALSE NEIGHBOUR: 'it returns false'. Refute it at one input. -/
def fnExactSeenWrong : ChangeSpec := { name := "fnExactSeen", fn := fun _ => fun
  | [d1, d2] => { results := [.lit (.bool false)], args := [d1, d2] }
  | _ => none }
def FnExactSeenWrongFalsely : Prop := fnExactSeenRow.holds Try.pinned (OpenSpec.ofChange fnExactSeenWrong)

/-- 'laws.FnExactRound': WHATEVER THE INPUT: true; the input reads as it did. -/
def fnExactRoundSpec : ChangeSpec := { name := "fnExactRound", fn := fun _ => fun
  | [d] => { results := [.lit (.bool true)], args := [d] }
  | _ => none }
def fnExactRoundRow : OpenClaim := { program := "ytocdfakhhnbagaa", sum := "dc8e827378480b45f38158b5c0a00ec361d8df9a1653ff1feee06b8605a8d730", func := "loop.example/g00486/laws.FnExactRound", spec := "fnExactRound", unfollowed := true, recurses := true, apart := false }
def FnExactRoundSaid : Prop := fnExactRoundRow.holds Try.pinned (OpenSpec.ofChange fnExactRoundSpec)

/-- ITS FALSE NEIGHBOUR: 'it returns false'. Refute it at one input. -/
def fnExactRoundWrong : ChangeSpec := { name := "fnExactRound", fn := fun _ => fun
  | [d] => { results := [.lit (.bool false)], args := [d] }
  | _ => none }
def FnExactRoundWrongFalsely : Prop := fnExactRoundRow.holds Try.pinned (OpenSpec.ofChange fnExactRoundWrong)

/-- 'laws.FnExactSettle': WHATEVER THE INPUT: true; the input reads as it did. -/
def fnExactSettleSpec : ChangeSpec := { name := "fnExactSettle", fn := fun _ => fun
  | [d] => { results := [.lit (.bool true)], args := [d] }
  | _ => none }
def fnExactSettleRow : OpenClaim := { program := "ytocdfakhhnbagaa", sum := "dc8e827378480b45f38158b5c0a00ec361d8df9a1653ff1feee06b8605a8d730", func := "loop.example/g00486/laws.FnExactSettle", spec := "fnExactSettle", unfollowed := true, recurses := true, apart := false }
def FnExactSettleSaid : Prop := fnExactSettleRow.holds Try.pinned (OpenSpec.ofChange fnExactSettleSpec)

/-- ITS FALSE NEIGHBOUR: 'it returns false'. Refute it at one input. -/
def fnExactSettleWrong : ChangeSpec := { name := "fnExactSettle", fn := fun _ => fun
  | [d] => { results := [.lit (.bool false)], args := [d] }
  | _ => none }
def FnExactSettleWrongFalsely : Prop := fnExactSettleRow.holds Try.pinned (OpenSpec.ofChange fnExactSettleWrong)

/- THE SECOND FORM. 'bulk': how many values and letters a reading holds, each counted each time it is reached (what is shared counts as often as it is met; a slice's spare places count too). A statement '..UptoSaid' is the law's where the arguments, and the package variables that the reading takes, are together of bulk at most 1048576: NARROWER than '..Said'. Prove '..Said' where nothing that the law and all that it calls make is longer than what came in: it says more and counts as full. Else prove '..UptoSaid'. A law counts once. -/
mutual
def uptoBulk {H : Type} : DataW H → Nat
  | .lit (.string bytes) => bytes.length + 1
  | .lit _ => 1
  | .nil => 1
  | .ptr d => uptoBulk d + 1
  | .slice elems spare => uptoBulkAll elems + uptoBulkAll spare + 1
  | .agg parts => uptoBulkAll parts + 1
  | .iface _ d => uptoBulk d + 1
  | .map entries => uptoBulkEntries entries + 1
  | .held _ => 1
def uptoBulkAll {H : Type} : List (DataW H) → Nat
  | [] => 0
  | d :: r => uptoBulk d + uptoBulkAll r
def uptoBulkEntries {H : Type} : List (Lit × DataW H) → Nat
  | [] => 0
  | x :: r => uptoBulkEntry x + uptoBulkEntries r
def uptoBulkEntry {H : Type} : Lit × DataW H → Nat
  | (.string bytes, d) => bytes.length + uptoBulk d + 1
  | (_, d) => uptoBulk d + 1
 end
def uptoSmall : (H : Type) → List (DataW H) → Bool := fun _ ds => decide (uptoBulkAll ds ≤ 1048576)
def OpenSpec.upto (s : _root_.Go.ChangeSpec) : _root_.Go.OpenSpec := { _root_.Go.OpenSpec.ofChange s with cond := some uptoSmall }

/-- 'laws.FnExactQuiet', WHERE WHAT IT READS IS OF BULK AT MOST 1048576: true; the input reads as it did. -/
def fnExactQuietUptoRow : OpenClaim := { program := "ytocdfakhhnbagaa", sum := "dc8e827378480b45f38158b5c0a00ec361d8df9a1653ff1feee06b8605a8d730", func := "loop.example/g00486/laws.FnExactQuiet", spec := "fnExactQuiet", unfollowed := true, recurses := true, apart := false, narrowed := true }
def FnExactQuietUptoSaid : Prop := fnExactQuietUptoRow.holds Try.pinned (OpenSpec.upto fnExactQuietSpec)

/-- 'laws.FnExactChain', WHERE WHAT IT READS IS OF BULK AT MOST 1048576: true; the input reads as it did. -/
def fnExactChainUptoRow : OpenClaim := { program := "ytocdfakhhnbagaa", sum := "dc8e827378480b45f38158b5c0a00ec361d8df9a1653ff1feee06b8605a8d730", func := "loop.example/g00486/laws.FnExactChain", spec := "fnExactChain", apart := false, narrowed := true }
def FnExactChainUptoSaid : Prop := fnExactChainUptoRow.holds Try.pinned (OpenSpec.upto fnExactChainSpec)

/-- 'laws.FnExactSameFate', WHERE WHAT IT READS IS OF BULK AT MOST 1048576: true; the input reads as it did. -/
def fnExactSameFateUptoRow : OpenClaim := { program := "ytocdfakhhnbagaa", sum := "dc8e827378480b45f38158b5c0a00ec361d8df9a1653ff1feee06b8605a8d730", func := "loop.example/g00486/laws.FnExactSameFate", spec := "fnExactSameFate", unfollowed := true, recurses := true, apart := false, narrowed := true }
def FnExactSameFateUptoSaid : Prop := fnExactSameFateUptoRow.holds Try.pinned (OpenSpec.upto fnExactSameFateSpec)

/-- 'laws.FnExactSameGame', WHERE WHAT IT READS IS OF BULK AT MOST 1048576: true; the input reads as it did. -/
def fnExactSameGameUptoRow : OpenClaim := { program := "ytocdfakhhnbagaa", sum := "dc8e827378480b45f38158b5c0a00ec361d8df9a1653ff1feee06b8605a8d730", func := "loop.example/g00486/laws.FnExactSameGame", spec := "fnExactSameGame", unfollowed := true, recurses := true, apart := false, narrowed := true }
def FnExactSameGameUptoSaid : Prop := fnExactSameGameUptoRow.holds Try.pinned (OpenSpec.upto fnExactSameGameSpec)

/-- 'laws.FnExactCarry', WHERE WHAT IT READS IS OF BULK AT MOST 1048576: true; the input reads as it did. -/
def fnExactCarryUptoRow : OpenClaim := { program := "ytocdfakhhnbagaa", sum := "dc8e827378480b45f38158b5c0a00ec361d8df9a1653ff1feee06b8605a8d730", func := "loop.example/g00486/laws.FnExactCarry", spec := "fnExactCarry", unfollowed := true, recurses := true, apart := false, narrowed := true }
def FnExactCarryUptoSaid : Prop := fnExactCarryUptoRow.holds Try.pinned (OpenSpec.upto fnExactCarrySpec)

/-- 'laws.FnExactBear', WHERE WHAT IT READS IS OF BULK AT MOST 1048576: true; the input reads as it did. -/
def fnExactBearUptoRow : OpenClaim := { program := "ytocdfakhhnbagaa", sum := "dc8e827378480b45f38158b5c0a00ec361d8df9a1653ff1feee06b8605a8d730", func := "loop.example/g00486/laws.FnExactBear", spec := "fnExactBear", unfollowed := true, recurses := true, apart := false, narrowed := true }
def FnExactBearUptoSaid : Prop := fnExactBearUptoRow.holds Try.pinned (OpenSpec.upto fnExactBearSpec)

/-- 'laws.FnExactStrike', WHERE WHAT IT READS IS OF BULK AT MOST 1048576: true; the input reads as it did. -/
def fnExactStrikeUptoRow : OpenClaim := { program := "ytocdfakhhnbagaa", sum := "dc8e827378480b45f38158b5c0a00ec361d8df9a1653ff1feee06b8605a8d730", func := "loop.example/g00486/laws.FnExactStrike", spec := "fnExactStrike", unfollowed := true, recurses := true, apart := false, narrowed := true }
def FnExactStrikeUptoSaid : Prop := fnExactStrikeUptoRow.holds Try.pinned (OpenSpec.upto fnExactStrikeSpec)

/-- 'laws.FnExactArrange', WHERE WHAT IT READS IS OF BULK AT MOST 1048576: true; the input reads as it did. -/
def fnExactArrangeUptoRow : OpenClaim := { program := "ytocdfakhhnbagaa", sum := "dc8e827378480b45f38158b5c0a00ec361d8df9a1653ff1feee06b8605a8d730", func := "loop.example/g00486/laws.FnExactArrange", spec := "fnExactArrange", unfollowed := true, recurses := true, apart := false, narrowed := true }
def FnExactArrangeUptoSaid : Prop := fnExactArrangeUptoRow.holds Try.pinned (OpenSpec.upto fnExactArrangeSpec)

/-- 'laws.FnExactSeen', WHERE WHAT IT READS IS OF BULK AT MOST 1048576: true; the input reads as it did. -/
def fnExactSeenUptoRow : OpenClaim := { program := "ytocdfakhhnbagaa", sum := "dc8e827378480b45f38158b5c0a00ec361d8df9a1653ff1feee06b8605a8d730", func := "loop.example/g00486/laws.FnExactSeen", spec := "fnExactSeen", unfollowed := true, recurses := true, apart := false, narrowed := true }
def FnExactSeenUptoSaid : Prop := fnExactSeenUptoRow.holds Try.pinned (OpenSpec.upto fnExactSeenSpec)

/-- 'laws.FnExactRound', WHERE WHAT IT READS IS OF BULK AT MOST 1048576: true; the input reads as it did. -/
def fnExactRoundUptoRow : OpenClaim := { program := "ytocdfakhhnbagaa", sum := "dc8e827378480b45f38158b5c0a00ec361d8df9a1653ff1feee06b8605a8d730", func := "loop.example/g00486/laws.FnExactRound", spec := "fnExactRound", unfollowed := true, recurses := true, apart := false, narrowed := true }
def FnExactRoundUptoSaid : Prop := fnExactRoundUptoRow.holds Try.pinned (OpenSpec.upto fnExactRoundSpec)

/-- 'laws.FnExactSettle', WHERE WHAT IT READS IS OF BULK AT MOST 1048576: true; the input reads as it did. -/
def fnExactSettleUptoRow : OpenClaim := { program := "ytocdfakhhnbagaa", sum := "dc8e827378480b45f38158b5c0a00ec361d8df9a1653ff1feee06b8605a8d730", func := "loop.example/g00486/laws.FnExactSettle", spec := "fnExactSettle", unfollowed := true, recurses := true, apart := false, narrowed := true }
def FnExactSettleUptoSaid : Prop := fnExactSettleUptoRow.holds Try.pinned (OpenSpec.upto fnExactSettleSpec)

end Rows
end Go.Proofs.Ytocdfakhhnbagaa
