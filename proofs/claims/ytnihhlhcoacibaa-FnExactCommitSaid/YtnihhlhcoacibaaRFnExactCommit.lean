/- The statement FnExactCommit of the given program: proved from the plain law and the contract of its function. -/
import Derived.Test.YtnihhlhcoacibaaRows
import Derived.Test.YtnihhlhcoacibaaPureR
import Derived.Test.YtnihhlhcoacibaaAbsRow
import Derived.Below
set_option linter.unusedVariables false
set_option linter.unusedSimpArgs false
namespace Go.Proofs.Ytnihhlhcoacibaa.fnExactCommit
open Go.ChangeShapes Go.WideShapes Go.ChangeAt Go.RowKit Go.Abs
theorem own : ownKnob Try.prog.godebug = none := by kernel_rfl
theorem laidOut : laidOutB Try.prog = true := by kernel_rfl
theorem mayEnter : Try.prog.mayEnter = true := by kernel_rfl
theorem closed : joinedFacts Try.prog 6 Try.f6 Rows.fnExactCommitSpec Rows.fnExactCommitRow = true := by
  unfold joinedFacts
  rw [laidOut, mayEnter]
  kernel_rfl
set_option maxRecDepth 100000 in
theorem lifted (os : Os) (started : os.Started) (H : Type) (enc : TypeId × Value → H) :
    ReturnsInHanded {} Try.checked os 6 .any (Rows.fnExactCommitSpec.pre6 enc Try.prog Try.f6 Rows.fnExactCommitRow.domain false) (Rows.fnExactCommitSpec.post enc Try.prog Try.f6 false true false false) := by
  refine returnsInHanded_of_change_sized (C := Try.checked) own started (by kernel_rfl) Try.func6
    (ChangeSpec.witness6 (enc := enc) (C := Try.checked) false ⟨#[], #[.agg #[.slice none 0 0, .slice none 0 0, .int .i64 0, .int .i64 0], .slice none 0 0], []⟩ 8 (by kernel_rfl) (by kernel_rfl) (by kernel_rfl) (by kernel_rfl)) ?_
  intro W base args ds gs before hval0 hW hcnd hsz0 _
  have hval : ∀ (j : Nat) t v, Try.f6.params[j]? = some t → args[j]? = some v → Value.okWide Try.prog W .any base t v := hval0
  have hW' := hW
  obtain ⟨p, q, hA0, hV, rfl, hfz, hnd⟩ := hW
  have hA : DataW.TrodAll enc Try.prog W 0 (fun _ => true) true Try.f6.params.toList args.toList ds p := hA0
  rw [Try.params6] at hA hval
  obtain ⟨v0, vs0, d0, ds0, p0, q0, hargs, rfl, rfl, h0, r0⟩ := trodAll_cons hA
  obtain ⟨v1, vs1, d1, ds1, p1, q1, rfl, rfl, rfl, h1, r1⟩ := trodAll_cons r0
  obtain ⟨rfl, rfl, rfl⟩ := trodAll_nil r1
  obtain rfl : args = #[v0, v1] := by cases args; simp_all
  obtain ⟨rfl, rfl⟩ := trodVars_none hV
  have lt0 : ∀ x ∈ p0, x.block < W.heap.size := by obtain ⟨m, hm⟩ := h0; exact DataW.trod_lt m _ _ _ hm
  obtain ⟨c0, x0, e0, f0, rfl⟩ := arg_rd (ty := T_State) (by kernel_rfl) h0 (hval 0 55 v0 rfl rfl)
  have lt1 : ∀ x ∈ p1, x.block < W.heap.size := by obtain ⟨m, hm⟩ := h1; exact DataW.trod_lt m _ _ _ hm
  obtain ⟨c1, x1, e1, f1, rfl⟩ := arg_rd (ty := (.slice T_Event)) (by kernel_rfl) h1 (hval 1 67 v1 rfl rfl)
  have ea : (Go.Abs.argsOf (.pair T_State (.pair (.slice T_Event) .unit)) (c0 ++ (c1 ++ []))).toArray = #[Go.Abs.valOf T_State c0, Go.Abs.valOf (.slice T_Event) c1] := by
    rw [argsOf_pair e0.length, argsOf_pair e1.length]
    rfl
  rw [← ea]
  refine (law_run laws_FnExactCommit_ct (cs := (c0 ++ (c1 ++ []))) (x := (x0, (x1, ()))) ⟨c0, (c1 ++ []), rfl, e0.length, e0, ⟨c1, [], rfl, e1.length, e1, rfl⟩⟩ (law_Commit x0 x1 f0.1.1 f0.2.1.1 f1.1)).mono fun e W' ⟨he, bel⟩ => ?_
  subst he
  rw [ea]
  exact ⟨_, rfl, _, _, _, [], _, [], hW', trodAll_mk1 (shut_bool Try.underlying4 _), (trodAll_cons_mk (Below.trod laidOut (by kernel_rfl) (of_decide_eq_true (by kernel_rfl)) h0 bel lt0) (trodAll_cons_mk (Below.trod laidOut (by kernel_rfl) (of_decide_eq_true (by kernel_rfl)) h1 bel lt1) trodAll_mk0)), rfl, bel.frame _, fun h => by cases h⟩
theorem over : Rows.fnExactCommitRow.holds Try.pinned (OpenSpec.ofChange Rows.fnExactCommitSpec) :=
  OpenClaim.holds_of_wide 6 Try.f6 rfl rfl rfl rfl rfl rfl rfl ⟨rfl, rfl, rfl, rfl, rfl⟩ rfl rfl rfl rfl rfl (by kernel_rfl) Try.func6 closed
    (of_decide_eq_true (by kernel_rfl)) (by unfold Func.isWrapper; first | (rw [if_pos (by decide +kernel)]; kernel_rfl) | (rw [if_neg (by decide +kernel)]; exact ⟨rfl, rfl⟩))
    (fun os started H enc _ => lifted os started H enc)
end Go.Proofs.Ytnihhlhcoacibaa.fnExactCommit
namespace Go.Proofs.Ytnihhlhcoacibaa
theorem fnExactCommit_holds : Rows.FnExactCommitSaid := fnExactCommit.over
end Go.Proofs.Ytnihhlhcoacibaa
