/- The statement FnExactJoin of the given program: proved from the plain law and the contract of its function. -/
import Derived.Test.YtnihhlhcoacibaaRows
import Derived.Test.YtnihhlhcoacibaaPureJ
import Derived.Test.YtnihhlhcoacibaaAbsRow
import Derived.Below
set_option linter.unusedVariables false
set_option linter.unusedSimpArgs false
namespace Go.Proofs.Ytnihhlhcoacibaa.fnExactJoin
open Go.ChangeShapes Go.WideShapes Go.ChangeAt Go.RowKit Go.Abs
theorem own : ownKnob Try.prog.godebug = none := by kernel_rfl
theorem laidOut : laidOutB Try.prog = true := by kernel_rfl
theorem mayEnter : Try.prog.mayEnter = true := by kernel_rfl
theorem closed : joinedFacts Try.prog 11 Try.f11 Rows.fnExactJoinSpec Rows.fnExactJoinRow = true := by
  unfold joinedFacts
  rw [laidOut, mayEnter]
  kernel_rfl
set_option maxRecDepth 100000 in
theorem lifted (os : Os) (started : os.Started) (H : Type) (enc : TypeId × Value → H) :
    ReturnsInHanded {} Try.checked os 11 .any (Rows.fnExactJoinSpec.pre6 enc Try.prog Try.f11 Rows.fnExactJoinRow.domain false) (Rows.fnExactJoinSpec.post enc Try.prog Try.f11 false true false false) := by
  refine returnsInHanded_of_change_sized (C := Try.checked) own started (by kernel_rfl) Try.func11
    (ChangeSpec.witness6 (enc := enc) (C := Try.checked) false ⟨#[], #[.agg #[.slice none 0 0, .slice none 0 0, .slice none 0 0, .slice none 0 0], .agg #[.slice none 0 0, .slice none 0 0, .slice none 0 0, .slice none 0 0]], []⟩ 8 (by kernel_rfl) (by kernel_rfl) (by kernel_rfl) (by kernel_rfl)) ?_
  intro W base args ds gs before hval0 hW hcnd hsz0 _
  have hval : ∀ (j : Nat) t v, Try.f11.params[j]? = some t → args[j]? = some v → Value.okWide Try.prog W .any base t v := hval0
  have hW' := hW
  obtain ⟨p, q, hA0, hV, rfl, hfz, hnd⟩ := hW
  have hA : DataW.TrodAll enc Try.prog W 0 (fun _ => true) true Try.f11.params.toList args.toList ds p := hA0
  rw [Try.params11] at hA hval
  obtain ⟨v0, vs0, d0, ds0, p0, q0, hargs, rfl, rfl, h0, r0⟩ := trodAll_cons hA
  obtain ⟨v1, vs1, d1, ds1, p1, q1, rfl, rfl, rfl, h1, r1⟩ := trodAll_cons r0
  obtain ⟨rfl, rfl, rfl⟩ := trodAll_nil r1
  obtain rfl : args = #[v0, v1] := by cases args; simp_all
  obtain ⟨rfl, rfl⟩ := trodVars_none hV
  have lt0 : ∀ x ∈ p0, x.block < W.heap.size := by obtain ⟨m, hm⟩ := h0; exact DataW.trod_lt m _ _ _ hm
  obtain ⟨c0, x0, e0, f0, rfl⟩ := arg_rd (ty := T_Fate) (by kernel_rfl) h0 (hval 0 106 v0 rfl rfl)
  have lt1 : ∀ x ∈ p1, x.block < W.heap.size := by obtain ⟨m, hm⟩ := h1; exact DataW.trod_lt m _ _ _ hm
  obtain ⟨c1, x1, e1, f1, rfl⟩ := arg_rd (ty := T_Fate) (by kernel_rfl) h1 (hval 1 106 v1 rfl rfl)
  have ea : (Go.Abs.argsOf (.pair T_Fate (.pair T_Fate .unit)) (c0 ++ (c1 ++ []))).toArray = #[Go.Abs.valOf T_Fate c0, Go.Abs.valOf T_Fate c1] := by
    rw [argsOf_pair e0.length, argsOf_pair e1.length]
    rfl
  rw [← ea]
  refine (law_run laws_FnExactJoin_ct (cs := (c0 ++ (c1 ++ []))) (x := (x0, (x1, ()))) ⟨c0, (c1 ++ []), rfl, e0.length, e0, ⟨c1, [], rfl, e1.length, e1, rfl⟩⟩ (law_Join x0 x1 f0 f1)).mono fun e W' ⟨he, bel⟩ => ?_
  subst he
  rw [ea]
  exact ⟨_, rfl, _, _, _, [], _, [], hW', trodAll_mk1 (shut_bool Try.underlying4 _), (trodAll_cons_mk (Below.trod laidOut (by kernel_rfl) (of_decide_eq_true (by kernel_rfl)) h0 bel lt0) (trodAll_cons_mk (Below.trod laidOut (by kernel_rfl) (of_decide_eq_true (by kernel_rfl)) h1 bel lt1) trodAll_mk0)), rfl, bel.frame _, fun h => by cases h⟩
theorem over : Rows.fnExactJoinRow.holds Try.pinned (OpenSpec.ofChange Rows.fnExactJoinSpec) :=
  OpenClaim.holds_of_wide 11 Try.f11 rfl rfl rfl rfl rfl rfl rfl ⟨rfl, rfl, rfl, rfl, rfl⟩ rfl rfl rfl rfl rfl (by kernel_rfl) Try.func11 closed
    (of_decide_eq_true (by kernel_rfl)) (by unfold Func.isWrapper; first | (rw [if_pos (by decide +kernel)]; kernel_rfl) | (rw [if_neg (by decide +kernel)]; exact ⟨rfl, rfl⟩))
    (fun os started H enc _ => lifted os started H enc)
end Go.Proofs.Ytnihhlhcoacibaa.fnExactJoin
namespace Go.Proofs.Ytnihhlhcoacibaa
theorem fnExactJoin_holds : Rows.FnExactJoinSaid := fnExactJoin.over
end Go.Proofs.Ytnihhlhcoacibaa
