/- The statement FnExactGameNew of the given program: proved from the plain law and the contract of its function. -/
import Derived.Test.YtnihhlhcoacibaaRows
import Derived.Test.YtnihhlhcoacibaaPureLO
import Derived.Test.YtnihhlhcoacibaaAbsRow
import Derived.Below
set_option linter.unusedVariables false
set_option linter.unusedSimpArgs false
namespace Go.Proofs.Ytnihhlhcoacibaa.fnExactGameNew
open Go.ChangeShapes Go.WideShapes Go.ChangeAt Go.RowKit Go.Abs
theorem own : ownKnob Try.prog.godebug = none := by kernel_rfl
theorem laidOut : laidOutB Try.prog = true := by kernel_rfl
theorem mayEnter : Try.prog.mayEnter = true := by kernel_rfl
theorem closed : joinedFacts Try.prog 12 Try.f12 Rows.fnExactGameNewSpec Rows.fnExactGameNewRow = true := by
  unfold joinedFacts
  rw [laidOut, mayEnter]
  kernel_rfl
set_option maxRecDepth 100000 in
theorem lifted (os : Os) (started : os.Started) (H : Type) (enc : TypeId × Value → H) :
    ReturnsInHanded {} Try.checked os 12 .any (Rows.fnExactGameNewSpec.pre6 enc Try.prog Try.f12 Rows.fnExactGameNewRow.domain false) (Rows.fnExactGameNewSpec.post enc Try.prog Try.f12 false true false false) := by
  refine returnsInHanded_of_change_sized (C := Try.checked) own started (by kernel_rfl) Try.func12
    (ChangeSpec.witness6 (enc := enc) (C := Try.checked) false ⟨#[], #[.agg #[.slice none 0 0, .slice none 0 0, .int .i64 0, .int .i64 0], .slice none 0 0, .slice none 0 0], []⟩ 8 (by kernel_rfl) (by kernel_rfl) (by kernel_rfl) (by kernel_rfl)) ?_
  intro W base args ds gs before hval0 hW hcnd hsz0 _
  have hval : ∀ (j : Nat) t v, Try.f12.params[j]? = some t → args[j]? = some v → Value.okWide Try.prog W .any base t v := hval0
  have hW' := hW
  obtain ⟨p, q, hA0, hV, rfl, hfz, hnd⟩ := hW
  have hA : DataW.TrodAll enc Try.prog W 0 (fun _ => true) true Try.f12.params.toList args.toList ds p := hA0
  rw [Try.params12] at hA hval
  obtain ⟨v0, vs0, d0, ds0, p0, q0, hargs, rfl, rfl, h0, r0⟩ := trodAll_cons hA
  obtain ⟨v1, vs1, d1, ds1, p1, q1, rfl, rfl, rfl, h1, r1⟩ := trodAll_cons r0
  obtain ⟨v2, vs2, d2, ds2, p2, q2, rfl, rfl, rfl, h2, r2⟩ := trodAll_cons r1
  obtain ⟨rfl, rfl, rfl⟩ := trodAll_nil r2
  obtain rfl : args = #[v0, v1, v2] := by cases args; simp_all
  obtain ⟨rfl, rfl⟩ := trodVars_none hV
  have lt0 : ∀ x ∈ p0, x.block < W.heap.size := by obtain ⟨m, hm⟩ := h0; exact DataW.trod_lt m _ _ _ hm
  obtain ⟨c0, x0, e0, f0, rfl⟩ := arg_rd (ty := T_State) (by kernel_rfl) h0 (hval 0 55 v0 rfl rfl)
  have lt1 : ∀ x ∈ p1, x.block < W.heap.size := by obtain ⟨m, hm⟩ := h1; exact DataW.trod_lt m _ _ _ hm
  obtain ⟨c1, x1, e1, f1, rfl⟩ := arg_rd (ty := (.slice T_Effect)) (by kernel_rfl) h1 (hval 1 103 v1 rfl rfl)
  have lt2 : ∀ x ∈ p2, x.block < W.heap.size := by obtain ⟨m, hm⟩ := h2; exact DataW.trod_lt m _ _ _ hm
  obtain ⟨c2, x2, e2, f2, rfl⟩ := arg_rd (ty := (.slice (.int .i64))) (by kernel_rfl) h2 (hval 2 40 v2 rfl rfl)
  have ea : (Go.Abs.argsOf (.pair T_State (.pair (.slice T_Effect) (.pair (.slice (.int .i64)) .unit))) (c0 ++ (c1 ++ (c2 ++ [])))).toArray = #[Go.Abs.valOf T_State c0, Go.Abs.valOf (.slice T_Effect) c1, Go.Abs.valOf (.slice (.int .i64)) c2] := by
    rw [argsOf_pair e0.length, argsOf_pair e1.length, argsOf_pair e2.length]
    rfl
  rw [← ea]
  refine (law_run laws_FnExactGameNew_ct (cs := (c0 ++ (c1 ++ (c2 ++ [])))) (x := (x0, (x1, (x2, ())))) ⟨c0, (c1 ++ (c2 ++ [])), rfl, e0.length, e0, ⟨c1, (c2 ++ []), rfl, e1.length, e1, ⟨c2, [], rfl, e2.length, e2, rfl⟩⟩⟩ (law_GameNew x0 x1 x2 f0.1.1 f0.2.1.1 f1)).mono fun e W' ⟨he, bel⟩ => ?_
  subst he
  rw [ea]
  exact ⟨_, rfl, _, _, _, [], _, [], hW', trodAll_mk1 (shut_bool Try.underlying4 _), (trodAll_cons_mk (Below.trod laidOut (by kernel_rfl) (of_decide_eq_true (by kernel_rfl)) h0 bel lt0) (trodAll_cons_mk (Below.trod laidOut (by kernel_rfl) (of_decide_eq_true (by kernel_rfl)) h1 bel lt1) (trodAll_cons_mk (Below.trod laidOut (by kernel_rfl) (of_decide_eq_true (by kernel_rfl)) h2 bel lt2) trodAll_mk0))), rfl, bel.frame _, fun h => by cases h⟩
theorem over : Rows.fnExactGameNewRow.holds Try.pinned (OpenSpec.ofChange Rows.fnExactGameNewSpec) :=
  OpenClaim.holds_of_wide 12 Try.f12 rfl rfl rfl rfl rfl rfl rfl ⟨rfl, rfl, rfl, rfl, rfl⟩ rfl rfl rfl rfl rfl (by kernel_rfl) Try.func12 closed
    (of_decide_eq_true (by kernel_rfl)) (by unfold Func.isWrapper; first | (rw [if_pos (by decide +kernel)]; kernel_rfl) | (rw [if_neg (by decide +kernel)]; exact ⟨rfl, rfl⟩))
    (fun os started H enc _ => lifted os started H enc)
end Go.Proofs.Ytnihhlhcoacibaa.fnExactGameNew
namespace Go.Proofs.Ytnihhlhcoacibaa
theorem fnExactGameNew_holds : Rows.FnExactGameNewSaid := fnExactGameNew.over
end Go.Proofs.Ytnihhlhcoacibaa
