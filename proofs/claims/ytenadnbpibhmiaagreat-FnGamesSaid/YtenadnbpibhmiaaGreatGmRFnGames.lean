/- The statement FnGames of the given program: proved from the plain law and the contract of its function. -/
import Derived.Test.YtenadnbpibhmiaaGreatRows
import Derived.Test.YtenadnbpibhmiaaGreatGmPureGM
import Derived.Test.YtenadnbpibhmiaaGreatGmAbsRow
import Derived.Below
set_option linter.unusedVariables false
set_option linter.unusedSimpArgs false
namespace Go.Proofs.YtenadnbpibhmiaaGreat.fnGames
open Go.ChangeShapes Go.WideShapes Go.ChangeAt Go.RowKit Go.Abs
theorem own : ownKnob Tryz.prog.godebug = none := by kernel_rfl
theorem laidOut : laidOutB Tryz.prog = true := by kernel_rfl
theorem mayEnter : Tryz.prog.mayEnter = true := by kernel_rfl
theorem k1 : mapsRowed Tryz.prog = true := by kernel_rfl
theorem k4 : Tryz.prog.stops = [] := by kernel_rfl
theorem k5 : Tryz.prog.stopKnobs = [] := by kernel_rfl
theorem k6 : Tryz.prog.inPlace 6 = Rows.fnGamesRow.inPlace := by kernel_rfl
theorem k7 : Tryz.prog.unfollowed 6 = Rows.fnGamesRow.unfollowed := by kernel_rfl
theorem k8 : Tryz.prog.recurses 6 = Rows.fnGamesRow.recurses := by kernel_rfl
theorem k9 : Tryz.prog.varsNamed 6 = Rows.fnGamesRow.named := by kernel_rfl
theorem k10 : Tryz.prog.plainKeys = Rows.fnGamesRow.plainKeys := by kernel_rfl
theorem k11 : Tryz.prog.stopsHeard = true := by kernel_rfl
theorem k12 : Tryz.prog.liftsFinal = Rows.fnGamesRow.lifted := by kernel_rfl
theorem closed : joinedFacts Tryz.prog 6 Tryz.f6 Rows.fnGamesSpec Rows.fnGamesRow = true := by
  unfold joinedFacts
  rw [laidOut, mayEnter, k1, k4, k5, k6, k7, k8, k9, k10, k11, k12]
  kernel_rfl
set_option maxRecDepth 100000 in
theorem lifted (os : Os) (started : os.Started) (H : Type) (enc : TypeId × Value → H) :
    ReturnsInHanded {} Tryz.checked os 6 .any (Rows.fnGamesSpec.pre6 enc Tryz.prog Tryz.f6 Rows.fnGamesRow.domain false) (Rows.fnGamesSpec.post enc Tryz.prog Tryz.f6 false true false false) := by
  refine returnsInHanded_of_change_sized (C := Tryz.checked) own started (by kernel_rfl) Tryz.func6
    (ChangeSpec.witness6 (enc := enc) (C := Tryz.checked) false ⟨#[], #[.slice none 0 0], []⟩ 8 (by kernel_rfl) (by kernel_rfl) (by kernel_rfl) (by kernel_rfl)) ?_
  intro W base args ds gs before hval0 hW hcnd hsz0 _
  have hval : ∀ (j : Nat) t v, Tryz.f6.params[j]? = some t → args[j]? = some v → Value.okWide Tryz.prog W .any base t v := hval0
  have hW' := hW
  obtain ⟨p, q, hA0, hV, rfl, hfz, hnd⟩ := hW
  have hA : DataW.TrodAll enc Tryz.prog W 0 (fun _ => true) true Tryz.f6.params.toList args.toList ds p := hA0
  rw [Tryz.params6] at hA hval
  obtain ⟨v0, vs0, d0, ds0, p0, q0, hargs, rfl, rfl, h0, r0⟩ := trodAll_cons hA
  obtain ⟨rfl, rfl, rfl⟩ := trodAll_nil r0
  obtain rfl : args = #[v0] := by cases args; simp_all
  obtain ⟨rfl, rfl⟩ := trodVars_none hV
  have lt0 : ∀ x ∈ p0, x.block < W.heap.size := by obtain ⟨m, hm⟩ := h0; exact DataW.trod_lt m _ _ _ hm
  obtain ⟨c0, x0, e0, f0, rfl⟩ := arg_rd (ty := (.slice (.int .u8))) (by kernel_rfl) h0 (hval 0 22 v0 rfl rfl)
  have ea : (Go.Abs.argsOf (.pair (.slice (.int .u8)) .unit) (c0 ++ [])).toArray = #[Go.Abs.valOf (.slice (.int .u8)) c0] := by
    rw [argsOf_pair e0.length]
    rfl
  rw [← ea]
  refine (law_run laws_FnGames_ct (cs := (c0 ++ [])) (x := (x0, ())) ⟨c0, [], rfl, e0.length, e0, rfl⟩ (law_FnGames x0 f0)).mono fun e W' ⟨he, bel⟩ => ?_
  subst he
  rw [ea]
  exact ⟨_, rfl, _, _, _, [], _, [], hW', trodAll_mk1 (shut_bool Tryz.underlying4 _), (trodAll_cons_mk (Below.trod laidOut (by kernel_rfl) (of_decide_eq_true (by kernel_rfl)) h0 bel lt0) trodAll_mk0), rfl, bel.frame _, fun h => by cases h⟩
theorem over : Rows.fnGamesRow.holds Tryz.pinned (OpenSpec.ofChange Rows.fnGamesSpec) :=
  OpenClaim.holds_of_wide 6 Tryz.f6 rfl rfl rfl rfl rfl rfl rfl ⟨rfl, rfl, rfl, rfl, rfl⟩ rfl rfl rfl rfl rfl (by kernel_rfl) Tryz.func6 closed
    (of_decide_eq_true (by kernel_rfl)) (by unfold Func.isWrapper; first | (rw [if_pos (by decide +kernel)]; kernel_rfl) | (rw [if_neg (by decide +kernel)]; exact ⟨rfl, rfl⟩))
    (fun os started H enc _ => lifted os started H enc)
end Go.Proofs.YtenadnbpibhmiaaGreat.fnGames
namespace Go.Proofs.YtenadnbpibhmiaaGreat
theorem fnGames_holds : Rows.FnGamesSaid := fnGames.over
end Go.Proofs.YtenadnbpibhmiaaGreat
