/- The statement FnActed of the given program: proved from the plain law and the contract of its function. -/
import Derived.Test.YtpcbcmnijmeoaaaRows
import Derived.Test.YtpcbcmnijmeoaaaPureAC
import Derived.Test.YtpcbcmnijmeoaaaAbsRow
import Derived.Below
set_option linter.unusedVariables false
set_option linter.unusedSimpArgs false
namespace Go.Proofs.Ytpcbcmnijmeoaaa.fnActed
open Go.ChangeShapes Go.WideShapes Go.ChangeAt Go.RowKit Go.Abs
theorem own : ownKnob Try.prog.godebug = none := by kernel_rfl
theorem laidOut : laidOutB Try.prog = true := by kernel_rfl
theorem mayEnter : Try.prog.mayEnter = true := by kernel_rfl
theorem closed : joinedFacts Try.prog 3 Try.f3 Rows.fnActedSpec Rows.fnActedRow = true := by
  unfold joinedFacts
  rw [laidOut, mayEnter]
  kernel_rfl
set_option maxRecDepth 100000 in
theorem lifted (os : Os) (started : os.Started) (H : Type) (enc : TypeId × Value → H) :
    ReturnsInHanded {} Try.checked os 3 .any (Rows.fnActedSpec.pre6 enc Try.prog Try.f3 Rows.fnActedRow.domain false) (Rows.fnActedSpec.post enc Try.prog Try.f3 false true false false) := by
  refine returnsInHanded_of_change_sized (C := Try.checked) own started (by kernel_rfl) Try.func3
    (ChangeSpec.witness6 (enc := enc) (C := Try.checked) false ⟨#[], #[.slice none 0 0], []⟩ 8 (by kernel_rfl) (by kernel_rfl) (by kernel_rfl) (by kernel_rfl)) ?_
  intro W base args ds gs before hval0 hW hcnd hsz0 _
  have hval : ∀ (j : Nat) t v, Try.f3.params[j]? = some t → args[j]? = some v → Value.okWide Try.prog W .any base t v := hval0
  have hW' := hW
  obtain ⟨p, q, hA0, hV, rfl, hfz, hnd⟩ := hW
  have hA : DataW.TrodAll enc Try.prog W 0 (fun _ => true) true Try.f3.params.toList args.toList ds p := hA0
  rw [Try.params3] at hA hval
  obtain ⟨v0, vs0, d0, ds0, p0, q0, hargs, rfl, rfl, h0, r0⟩ := trodAll_cons hA
  obtain ⟨rfl, rfl, rfl⟩ := trodAll_nil r0
  obtain rfl : args = #[v0] := by cases args; simp_all
  obtain ⟨rfl, rfl⟩ := trodVars_none hV
  have lt0 : ∀ x ∈ p0, x.block < W.heap.size := by obtain ⟨m, hm⟩ := h0; exact DataW.trod_lt m _ _ _ hm
  obtain ⟨c0, x0, e0, f0, rfl⟩ := arg_rd (ty := (.slice (.int .u8))) (by kernel_rfl) h0 (hval 0 22 v0 rfl rfl)
  have ea : (Go.Abs.argsOf (.pair (.slice (.int .u8)) .unit) (c0 ++ [])).toArray = #[Go.Abs.valOf (.slice (.int .u8)) c0] := by
    rw [argsOf_pair e0.length]
    rfl
  rw [← ea]
  refine (law_run laws_FnActed_ct (cs := (c0 ++ [])) (x := (x0, ())) ⟨c0, [], rfl, e0.length, e0, rfl⟩ (law_FnActed x0 f0.1)).mono fun e W' ⟨he, bel⟩ => ?_
  subst he
  rw [ea]
  exact ⟨_, rfl, _, _, _, [], _, [], hW', trodAll_mk1 (shut_bool Try.underlying4 _), (trodAll_cons_mk (Below.trod laidOut (by kernel_rfl) (of_decide_eq_true (by kernel_rfl)) h0 bel lt0) trodAll_mk0), rfl, bel.frame _, fun h => by cases h⟩
theorem over : Rows.fnActedRow.holds Try.pinned (OpenSpec.ofChange Rows.fnActedSpec) :=
  OpenClaim.holds_of_wide 3 Try.f3 rfl rfl rfl rfl rfl rfl rfl ⟨rfl, rfl, rfl, rfl, rfl⟩ rfl rfl rfl rfl rfl (by kernel_rfl) Try.func3 closed
    (of_decide_eq_true (by kernel_rfl)) (by unfold Func.isWrapper; first | (rw [if_pos (by decide +kernel)]; kernel_rfl) | (rw [if_neg (by decide +kernel)]; exact ⟨rfl, rfl⟩))
    (fun os started H enc _ => lifted os started H enc)
end Go.Proofs.Ytpcbcmnijmeoaaa.fnActed
namespace Go.Proofs.Ytpcbcmnijmeoaaa
theorem fnActed_holds : Rows.FnActedSaid := fnActed.over
end Go.Proofs.Ytpcbcmnijmeoaaa
