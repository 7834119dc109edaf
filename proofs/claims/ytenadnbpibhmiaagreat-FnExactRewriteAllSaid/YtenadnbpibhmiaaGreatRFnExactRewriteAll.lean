/- The statement FnExactRewriteAll of the given program: proved from the plain law and the contract of its function. -/
import Derived.Test.YtenadnbpibhmiaaGreatRows
import Derived.Test.YtenadnbpibhmiaaGreatPureRA
import Derived.Test.YtenadnbpibhmiaaGreatAbsRow
import Derived.Below
set_option linter.unusedVariables false
set_option linter.unusedSimpArgs false
namespace Go.Proofs.YtenadnbpibhmiaaGreat.fnExactRewriteAll
open Go.ChangeShapes Go.WideShapes Go.ChangeAt Go.RowKit Go.Abs
theorem own : ownKnob Tryz.prog.godebug = none := by kernel_rfl
theorem laidOut : laidOutB Tryz.prog = true := by kernel_rfl
theorem mayEnter : Tryz.prog.mayEnter = true := by kernel_rfl
theorem k1 : mapsRowed Tryz.prog = true := by kernel_rfl
theorem k4 : Tryz.prog.stops = [] := by kernel_rfl
theorem k5 : Tryz.prog.stopKnobs = [] := by kernel_rfl
theorem k6 : Tryz.prog.inPlace 8 = Rows.fnExactRewriteAllRow.inPlace := by kernel_rfl
theorem k7 : Tryz.prog.unfollowed 8 = Rows.fnExactRewriteAllRow.unfollowed := by kernel_rfl
theorem k8 : Tryz.prog.recurses 8 = Rows.fnExactRewriteAllRow.recurses := by kernel_rfl
theorem k9 : Tryz.prog.varsNamed 8 = Rows.fnExactRewriteAllRow.named := by kernel_rfl
theorem k10 : Tryz.prog.plainKeys = Rows.fnExactRewriteAllRow.plainKeys := by kernel_rfl
theorem k11 : Tryz.prog.stopsHeard = true := by kernel_rfl
theorem k12 : Tryz.prog.liftsFinal = Rows.fnExactRewriteAllRow.lifted := by kernel_rfl
theorem closed : joinedFacts Tryz.prog 8 Tryz.f8 Rows.fnExactRewriteAllSpec Rows.fnExactRewriteAllRow = true := by
  unfold joinedFacts
  rw [laidOut, mayEnter, k1, k4, k5, k6, k7, k8, k9, k10, k11, k12]
  kernel_rfl
set_option maxRecDepth 100000 in
theorem lifted (os : Os) (started : os.Started) (H : Type) (enc : TypeId × Value → H) :
    ReturnsInHanded {} Tryz.checked os 8 .any (Rows.fnExactRewriteAllSpec.pre6 enc Tryz.prog Tryz.f8 Rows.fnExactRewriteAllRow.domain false) (Rows.fnExactRewriteAllSpec.post enc Tryz.prog Tryz.f8 false true false false) := by
  refine returnsInHanded_of_change_sized (C := Tryz.checked) own started (by kernel_rfl) Tryz.func8
    (ChangeSpec.witness6 (enc := enc) (C := Tryz.checked) false ⟨#[], #[.agg #[.slice none 0 0, .slice none 0 0, .int .i64 0, .int .i64 0], .slice none 0 0, .slice none 0 0, .slice none 0 0], []⟩ 8 (by kernel_rfl) (by kernel_rfl) (by kernel_rfl) (by kernel_rfl)) ?_
  intro W base args ds gs before hval0 hW hcnd hsz0 _
  have hval : ∀ (j : Nat) t v, Tryz.f8.params[j]? = some t → args[j]? = some v → Value.okWide Tryz.prog W .any base t v := hval0
  have hW' := hW
  obtain ⟨p, q, hA0, hV, rfl, hfz, hnd⟩ := hW
  have hA : DataW.TrodAll enc Tryz.prog W 0 (fun _ => true) true Tryz.f8.params.toList args.toList ds p := hA0
  rw [Tryz.params8] at hA hval
  obtain ⟨v0, vs0, d0, ds0, p0, q0, hargs, rfl, rfl, h0, r0⟩ := trodAll_cons hA
  obtain ⟨v1, vs1, d1, ds1, p1, q1, rfl, rfl, rfl, h1, r1⟩ := trodAll_cons r0
  obtain ⟨v2, vs2, d2, ds2, p2, q2, rfl, rfl, rfl, h2, r2⟩ := trodAll_cons r1
  obtain ⟨v3, vs3, d3, ds3, p3, q3, rfl, rfl, rfl, h3, r3⟩ := trodAll_cons r2
  obtain ⟨rfl, rfl, rfl⟩ := trodAll_nil r3
  obtain rfl : args = #[v0, v1, v2, v3] := by cases args; simp_all
  obtain ⟨rfl, rfl⟩ := trodVars_none hV
  have lt0 : ∀ x ∈ p0, x.block < W.heap.size := by obtain ⟨m, hm⟩ := h0; exact DataW.trod_lt m _ _ _ hm
  obtain ⟨c0, x0, e0, f0, rfl⟩ := arg_rd (ty := T_State) (by kernel_rfl) h0 (hval 0 61 v0 rfl rfl)
  have lt1 : ∀ x ∈ p1, x.block < W.heap.size := by obtain ⟨m, hm⟩ := h1; exact DataW.trod_lt m _ _ _ hm
  obtain ⟨c1, x1, e1, f1, rfl⟩ := arg_rd (ty := (.slice T_Effect)) (by kernel_rfl) h1 (hval 1 62 v1 rfl rfl)
  have lt2 : ∀ x ∈ p2, x.block < W.heap.size := by obtain ⟨m, hm⟩ := h2; exact DataW.trod_lt m _ _ _ hm
  obtain ⟨c2, x2, e2, f2, rfl⟩ := arg_rd (ty := (.slice T_Event)) (by kernel_rfl) h2 (hval 2 70 v2 rfl rfl)
  have lt3 : ∀ x ∈ p3, x.block < W.heap.size := by obtain ⟨m, hm⟩ := h3; exact DataW.trod_lt m _ _ _ hm
  obtain ⟨c3, x3, e3, f3, rfl⟩ := arg_rd (ty := (.slice (.int .i64))) (by kernel_rfl) h3 (hval 3 29 v3 rfl rfl)
  have ea : (Go.Abs.argsOf (.pair T_State (.pair (.slice T_Effect) (.pair (.slice T_Event) (.pair (.slice (.int .i64)) .unit)))) (c0 ++ (c1 ++ (c2 ++ (c3 ++ []))))).toArray = #[Go.Abs.valOf T_State c0, Go.Abs.valOf (.slice T_Effect) c1, Go.Abs.valOf (.slice T_Event) c2, Go.Abs.valOf (.slice (.int .i64)) c3] := by
    rw [argsOf_pair e0.length, argsOf_pair e1.length, argsOf_pair e2.length, argsOf_pair e3.length]
    rfl
  rw [← ea]
  refine (law_run laws_FnExactRewriteAll_ct (cs := (c0 ++ (c1 ++ (c2 ++ (c3 ++ []))))) (x := (x0, (x1, (x2, (x3, ()))))) ⟨c0, (c1 ++ (c2 ++ (c3 ++ []))), rfl, e0.length, e0, ⟨c1, (c2 ++ (c3 ++ [])), rfl, e1.length, e1, ⟨c2, (c3 ++ []), rfl, e2.length, e2, ⟨c3, [], rfl, e3.length, e3, rfl⟩⟩⟩⟩ (law_RewriteAll x0 x1 x2 x3 f0.1.1 f0.2.1.1 f1 f2.1)).mono fun e W' ⟨he, bel⟩ => ?_
  subst he
  rw [ea]
  exact ⟨_, rfl, _, _, _, [], _, [], hW', trodAll_mk1 (shut_bool Tryz.underlying4 _), (trodAll_cons_mk (Below.trod laidOut (by kernel_rfl) (of_decide_eq_true (by kernel_rfl)) h0 bel lt0) (trodAll_cons_mk (Below.trod laidOut (by kernel_rfl) (of_decide_eq_true (by kernel_rfl)) h1 bel lt1) (trodAll_cons_mk (Below.trod laidOut (by kernel_rfl) (of_decide_eq_true (by kernel_rfl)) h2 bel lt2) (trodAll_cons_mk (Below.trod laidOut (by kernel_rfl) (of_decide_eq_true (by kernel_rfl)) h3 bel lt3) trodAll_mk0)))), rfl, bel.frame _, fun h => by cases h⟩
theorem over : Rows.fnExactRewriteAllRow.holds Tryz.pinned (OpenSpec.ofChange Rows.fnExactRewriteAllSpec) :=
  OpenClaim.holds_of_wide 8 Tryz.f8 rfl rfl rfl rfl rfl rfl rfl ⟨rfl, rfl, rfl, rfl, rfl⟩ rfl rfl rfl rfl rfl (by kernel_rfl) Tryz.func8 closed
    (of_decide_eq_true (by kernel_rfl)) (by unfold Func.isWrapper; first | (rw [if_pos (by decide +kernel)]; kernel_rfl) | (rw [if_neg (by decide +kernel)]; exact ⟨rfl, rfl⟩))
    (fun os started H enc _ => lifted os started H enc)
end Go.Proofs.YtenadnbpibhmiaaGreat.fnExactRewriteAll
namespace Go.Proofs.YtenadnbpibhmiaaGreat
theorem fnExactRewriteAll_holds : Rows.FnExactRewriteAllSaid := fnExactRewriteAll.over
end Go.Proofs.YtenadnbpibhmiaaGreat
