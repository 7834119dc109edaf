/- The statement FnExactPlay of the given program: proved from the plain law and the contract of its function. -/
import Derived.Test.YtenadnbpibhmiaaGreatRows
import Derived.Test.YtenadnbpibhmiaaGreatPlPurePL
import Derived.Test.YtenadnbpibhmiaaGreatPlAbsRow
import Derived.Below
set_option linter.unusedVariables false
set_option linter.unusedSimpArgs false
namespace Go.Proofs.YtenadnbpibhmiaaGreat.fnExactPlay
open Go.ChangeShapes Go.WideShapes Go.ChangeAt Go.RowKit Go.Abs
theorem own : ownKnob Tryz.prog.godebug = none := by kernel_rfl
theorem laidOut : laidOutB Tryz.prog = true := by kernel_rfl
theorem mayEnter : Tryz.prog.mayEnter = true := by kernel_rfl
theorem k1 : mapsRowed Tryz.prog = true := by kernel_rfl
theorem k4 : Tryz.prog.stops = [] := by kernel_rfl
theorem k5 : Tryz.prog.stopKnobs = [] := by kernel_rfl
theorem k6 : Tryz.prog.inPlace 5 = Rows.fnExactPlayRow.inPlace := by kernel_rfl
theorem k7 : Tryz.prog.unfollowed 5 = Rows.fnExactPlayRow.unfollowed := by kernel_rfl
theorem k8 : Tryz.prog.recurses 5 = Rows.fnExactPlayRow.recurses := by kernel_rfl
theorem k9 : Tryz.prog.varsNamed 5 = Rows.fnExactPlayRow.named := by kernel_rfl
theorem k10 : Tryz.prog.plainKeys = Rows.fnExactPlayRow.plainKeys := by kernel_rfl
theorem k11 : Tryz.prog.stopsHeard = true := by kernel_rfl
theorem k12 : Tryz.prog.liftsFinal = Rows.fnExactPlayRow.lifted := by kernel_rfl
theorem closed : joinedFacts Tryz.prog 5 Tryz.f5 Rows.fnExactPlaySpec Rows.fnExactPlayRow = true := by
  unfold joinedFacts
  rw [laidOut, mayEnter, k1, k4, k5, k6, k7, k8, k9, k10, k11, k12]
  kernel_rfl
set_option maxRecDepth 100000 in
theorem lifted (os : Os) (started : os.Started) (H : Type) (enc : TypeId × Value → H) :
    ReturnsInHanded {} Tryz.checked os 5 .any (Rows.fnExactPlaySpec.pre6 enc Tryz.prog Tryz.f5 Rows.fnExactPlayRow.domain false) (Rows.fnExactPlaySpec.post enc Tryz.prog Tryz.f5 false true false false) := by
  refine returnsInHanded_of_change_sized (C := Tryz.checked) own started (by kernel_rfl) Tryz.func5
    (ChangeSpec.witness6 (enc := enc) (C := Tryz.checked) false ⟨#[], #[.agg #[.slice none 0 0, .slice none 0 0, .int .i64 0, .int .i64 0, .slice none 0 0, .slice none 0 0, .slice none 0 0, .slice none 0 0, .slice none 0 0], .slice none 0 0], []⟩ 8 (by kernel_rfl) (by kernel_rfl) (by kernel_rfl) (by kernel_rfl)) ?_
  intro W base args ds gs before hval0 hW hcnd hsz0 _
  have hval : ∀ (j : Nat) t v, Tryz.f5.params[j]? = some t → args[j]? = some v → Value.okWide Tryz.prog W .any base t v := hval0
  have hW' := hW
  obtain ⟨p, q, hA0, hV, rfl, hfz, hnd⟩ := hW
  have hA : DataW.TrodAll enc Tryz.prog W 0 (fun _ => true) true Tryz.f5.params.toList args.toList ds p := hA0
  rw [Tryz.params5] at hA hval
  obtain ⟨v0, vs0, d0, ds0, p0, q0, hargs, rfl, rfl, h0, r0⟩ := trodAll_cons hA
  obtain ⟨v1, vs1, d1, ds1, p1, q1, rfl, rfl, rfl, h1, r1⟩ := trodAll_cons r0
  obtain ⟨rfl, rfl, rfl⟩ := trodAll_nil r1
  obtain rfl : args = #[v0, v1] := by cases args; simp_all
  obtain ⟨rfl, rfl⟩ := trodVars_none hV
  have lt0 : ∀ x ∈ p0, x.block < W.heap.size := by obtain ⟨m, hm⟩ := h0; exact DataW.trod_lt m _ _ _ hm
  obtain ⟨c0, x0, e0, f0, rfl⟩ := arg_rd (ty := T_Game) (by kernel_rfl) h0 (hval 0 67 v0 rfl rfl)
  have lt1 : ∀ x ∈ p1, x.block < W.heap.size := by obtain ⟨m, hm⟩ := h1; exact DataW.trod_lt m _ _ _ hm
  obtain ⟨c1, x1, e1, f1, rfl⟩ := arg_rd (ty := (.slice T_Order)) (by kernel_rfl) h1 (hval 1 85 v1 rfl rfl)
  have ea : (Go.Abs.argsOf (.pair T_Game (.pair (.slice T_Order) .unit)) (c0 ++ (c1 ++ []))).toArray = #[Go.Abs.valOf T_Game c0, Go.Abs.valOf (.slice T_Order) c1] := by
    rw [argsOf_pair e0.length, argsOf_pair e1.length]
    rfl
  rw [← ea]
  refine (law_run laws_FnExactPlay_ct (cs := (c0 ++ (c1 ++ []))) (x := (x0, (x1, ()))) ⟨c0, (c1 ++ []), rfl, e0.length, e0, ⟨c1, [], rfl, e1.length, e1, rfl⟩⟩ (law_Play x0 x1 f0 f1)).mono fun e W' ⟨he, bel⟩ => ?_
  subst he
  rw [ea]
  exact ⟨_, rfl, _, _, _, [], _, [], hW', trodAll_mk1 (shut_bool Tryz.underlying4 _), (trodAll_cons_mk (Below.trod laidOut (by kernel_rfl) (of_decide_eq_true (by kernel_rfl)) h0 bel lt0) (trodAll_cons_mk (Below.trod laidOut (by kernel_rfl) (of_decide_eq_true (by kernel_rfl)) h1 bel lt1) trodAll_mk0)), rfl, bel.frame _, fun h => by cases h⟩
theorem over : Rows.fnExactPlayRow.holds Tryz.pinned (OpenSpec.ofChange Rows.fnExactPlaySpec) :=
  OpenClaim.holds_of_wide 5 Tryz.f5 rfl rfl rfl rfl rfl rfl rfl ⟨rfl, rfl, rfl, rfl, rfl⟩ rfl rfl rfl rfl rfl (by kernel_rfl) Tryz.func5 closed
    (of_decide_eq_true (by kernel_rfl)) (by unfold Func.isWrapper; first | (rw [if_pos (by decide +kernel)]; kernel_rfl) | (rw [if_neg (by decide +kernel)]; exact ⟨rfl, rfl⟩))
    (fun os started H enc _ => lifted os started H enc)
end Go.Proofs.YtenadnbpibhmiaaGreat.fnExactPlay
namespace Go.Proofs.YtenadnbpibhmiaaGreat
theorem fnExactPlay_holds : Rows.FnExactPlaySaid := fnExactPlay.over
end Go.Proofs.YtenadnbpibhmiaaGreat
