import Derived.Test.YtenadnbpibhmiaaGreatGenBA1
set_option linter.unusedVariables false
set_option linter.unusedSimpArgs false
namespace Go.Abs
open Go.Proofs
set_option maxRecDepth 100000
noncomputable section
/-! loop.example/g00486/spec.Plus -/
def spec_Plus (a0 : Int) (a1 : Int) : Option Int :=
(spec_Bound a0).bind fun y1 =>
(spec_Bound a1).bind fun y2 =>
(spec_Bound (IntKind.wrap .i64 (y1 + y2))).bind fun y3 =>
 some y3
def spec_Plus_c : Ct := .pure true false T_Guard (.int .i64) (fun x => spec_Plus x.1 x.2.1)
theorem spec_Plus_ct : CtOk Tryz.prog 383 spec_Plus_c := pure_ct (E := { T := tab, G := [(391, spec_Bound_c)] }) (EnvOk.cons spec_Bound_ct (EnvOk.nil tabOk)) mixed (fn := Tryz.f383) _ _ _ _ _ .none Tryz.func383 (by kernel_rfl) (fun x => by kernel_rfl)
/-! loop.example/g00486/spec.Twice -/
def spec_Twice (a0 : Int) : Option Int :=
(spec_Bound a0).bind fun y1 =>
(spec_Bound (IntKind.wrap .i64 (2 * y1))).bind fun y2 =>
 some y2
def spec_Twice_c : Ct := .pure true false (.pair (.int .i64) .unit) (.int .i64) (fun x => spec_Twice x.1)
theorem spec_Twice_ct : CtOk Tryz.prog 389 spec_Twice_c := pure_ct (E := { T := tab, G := [(391, spec_Bound_c)] }) (EnvOk.cons spec_Bound_ct (EnvOk.nil tabOk)) mixed (fn := Tryz.f389) _ _ _ _ _ .none Tryz.func389 (by kernel_rfl) (fun x => by kernel_rfl)
/-! loop.example/g00486/spec.Half -/
def spec_Half (a0 : Int) : Option Int :=
(spec_Bound a0).bind fun y1 =>
 if 2 = 0 then none else (
 some (IntKind.wrap .i64 (y1.tdiv 2)))
def spec_Half_c : Ct := .pure true false (.pair (.int .i64) .unit) (.int .i64) (fun x => spec_Half x.1)
theorem spec_Half_ct : CtOk Tryz.prog 390 spec_Half_c := pure_ct (E := { T := tab, G := [(391, spec_Bound_c)] }) (EnvOk.cons spec_Bound_ct (EnvOk.nil tabOk)) mixed (fn := Tryz.f390) _ _ _ _ _ .none Tryz.func390 (by kernel_rfl) (fun x => by kernel_rfl)
/-! loop.example/g00486/spec.Amount -/
def spec_Amount (a0 : T_Act.D) (a1 : Int) : Option Int :=
(spec_Upto a1 2147483647).bind fun y1 =>
 bif (a0.1 == 1) then (
 some 0)
else (
 bif (a0.1 == 3) then (
(spec_Plus y1 a0.2.1).bind fun y2 =>
 some y2)
else (
 bif (a0.1 == 4) then (
(spec_Twice y1).bind fun y3 =>
 some y3)
else (
 bif (a0.1 == 5) then (
(spec_Half y1).bind fun y4 =>
 some y4)
else (
 some y1))))
def spec_Amount_c : Ct := .pure true false (.pair T_Act (.pair (.int .i64) .unit)) (.int .i64) (fun x => spec_Amount x.1 x.2.1)
theorem spec_Amount_ct : CtOk Tryz.prog 368 spec_Amount_c := pure_ct (E := { T := tab, G := [(334, spec_Upto_c), (383, spec_Plus_c), (389, spec_Twice_c), (390, spec_Half_c)] }) (EnvOk.cons spec_Upto_ct (EnvOk.cons spec_Plus_ct (EnvOk.cons spec_Twice_ct (EnvOk.cons spec_Half_ct (EnvOk.nil tabOk))))) mixed (fn := Tryz.f368) _ _ _ _ _ .none Tryz.func368 (by kernel_rfl) (fun x => by kernel_rfl)
/-! loop.example/g00486/spec.l13One -/
def spec_l13One (a0 : T_Act.D) (a1 : T_Event.D) : Option T_Event.D :=
((bif (a0.1 == 3) then (
 some (a0.1 == 3))
else (
((bif (a0.1 == 4) then (
 some (a0.1 == 4))
else (
 some (a0.1 == 5))) : Option Bool).bind fun o1 =>
 some o1)) : Option Bool).bind fun o2 =>
 bif o2 then (
(spec_Amount a0 a1.2.2.2.2.1).bind fun y3 =>
(spec_WithN a1 y3).bind fun y4 =>
 some y4)
else (
 bif (a0.1 == 6) then (
 some (a1.1, a1.2.1, a0.2.2.1, a0.2.2.2.1, a1.2.2.2.2))
else (
 bif (a0.1 == 7) then (
 bif (a0.2.2.2.2.1 != 2) then (
 some (a1.1, a1.2.1, a1.2.2.1, a1.2.2.2.1, 0, a0.2.2.2.2.1, false, ()))
else (
 some (a1.1, a1.2.1, a1.2.2.1, a1.2.2.2.1, a1.2.2.2.2.1, a0.2.2.2.2.1, a1.2.2.2.2.2.2)))
else (
 bif (a0.1 == 8) then (
 bif (a1.2.2.2.2.2.1 == 2) then (
(spec_Upto (IntKind.wrap .i64 (a1.2.2.2.2.1 + a0.2.1)) 99).bind fun y5 =>
 bif a1.2.2.2.2.2.2.1 then (
 some (a1.1, a1.2.1, a1.2.2.1, a1.2.2.2.1, y5, a1.2.2.2.2.2.1, true, ()))
else (
 some (a1.1, a1.2.1, a1.2.2.1, a1.2.2.2.1, y5, a1.2.2.2.2.2.1, a0.2.2.2.2.2.1, ())))
else (
 some a1))
else (
 some a1))))
def spec_l13One_h : Hints := (.node none none .none (.node none none (.node none none .none (.node none none (.node none none (.node none none .none (.node (some ⟨[.tmp 7 .bool], [none], none, []⟩) none .none (.node none none .none (.node (some ⟨[.tmp 7 .bool], [none], none, []⟩) none .none .none)))) .none) .none)) .none))
def spec_l13One_c : Ct := .pure true false (.pair T_Act (.pair T_Event .unit)) T_Event (fun x => spec_l13One x.1 x.2.1)
theorem spec_l13One_ct : CtOk Tryz.prog 337 spec_l13One_c := pure_ct (E := { T := tab, G := [(334, spec_Upto_c), (335, spec_WithN_c), (368, spec_Amount_c)] }) (EnvOk.cons spec_Upto_ct (EnvOk.cons spec_WithN_ct (EnvOk.cons spec_Amount_ct (EnvOk.nil tabOk)))) mixed (fn := Tryz.f337) _ _ _ _ _ spec_l13One_h Tryz.func337 (by kernel_rfl) (fun x => by kernel_rfl)
/-! loop.example/g00486/spec.Less -/
def spec_Less (a0 : Int) (a1 : Int) : Option Int :=
(spec_Bound a0).bind fun y1 =>
(spec_Bound a1).bind fun y2 =>
(spec_Bound (IntKind.wrap .i64 (y1 - y2))).bind fun y3 =>
 some y3
def spec_Less_c : Ct := .pure true false T_Guard (.int .i64) (fun x => spec_Less x.1 x.2.1)
theorem spec_Less_ct : CtOk Tryz.prog 369 spec_Less_c := pure_ct (E := { T := tab, G := [(391, spec_Bound_c)] }) (EnvOk.cons spec_Bound_ct (EnvOk.nil tabOk)) mixed (fn := Tryz.f369) _ _ _ _ _ .none Tryz.func369 (by kernel_rfl) (fun x => by kernel_rfl)
/-! loop.example/g00486/spec.Spent -/
def spec_Spent (a0 : T_Effect.D) (a1 : Int) : Option T_Effect.D :=
(spec_l10Copy a0).bind fun y1 =>
 bif (a0.2.2.2.2.2.2.1.1 == 2) then (
(spec_Less a0.2.2.2.2.2.2.2.2.1 a1).bind fun y2 =>
(spec_Upto y2 2147483647).bind fun y3 =>
 some (y1.1, y1.2.1, y1.2.2.1, y1.2.2.2.1, y1.2.2.2.2.1, y1.2.2.2.2.2.1, y1.2.2.2.2.2.2.1, y1.2.2.2.2.2.2.2.1, y3, ()))
else (
 bif decide (a0.2.2.2.2.2.2.2.2.1 > 0) then (
 some (y1.1, y1.2.1, y1.2.2.1, y1.2.2.2.1, y1.2.2.2.2.1, y1.2.2.2.2.2.1, y1.2.2.2.2.2.2.1, y1.2.2.2.2.2.2.2.1, IntKind.wrap .i64 (a0.2.2.2.2.2.2.2.2.1 - 1), ()))
else (
 some y1))
def spec_Spent_c : Ct := .pure true false (.pair T_Effect (.pair (.int .i64) .unit)) T_Effect (fun x => spec_Spent x.1 x.2.1)
theorem spec_Spent_ct : CtOk Tryz.prog 338 spec_Spent_c := pure_ct (E := { T := tab, G := [(223, spec_l10Copy_fresh_c), (334, spec_Upto_c), (369, spec_Less_c)] }) (EnvOk.cons spec_l10Copy_fresh_ct (EnvOk.cons spec_Upto_ct (EnvOk.cons spec_Less_ct (EnvOk.nil tabOk)))) mixed (fn := Tryz.f338) _ _ _ _ _ .none Tryz.func338 (by kernel_rfl) (fun x => by kernel_rfl)
def spec_Spent_fresh_c : Ct := .pure true true (.pair T_Effect (.pair (.int .i64) .unit)) T_Effect (fun x => spec_Spent x.1 x.2.1)
theorem spec_Spent_fresh_ct : CtOk Tryz.prog 338 spec_Spent_fresh_c := pure_ct (E := { T := tab, G := [(223, spec_l10Copy_fresh_c), (334, spec_Upto_c), (369, spec_Less_c)] }) (EnvOk.cons spec_l10Copy_fresh_ct (EnvOk.cons spec_Upto_ct (EnvOk.cons spec_Less_ct (EnvOk.nil tabOk)))) mixed (fn := Tryz.f338) _ _ _ _ _ .none Tryz.func338 (by kernel_rfl) (fun x => by kernel_rfl)
/-! loop.example/g00486/spec.DoAct -/
def spec_DoAct_l1 (o13 : ((List T_Event.D) × Int)) : ((List T_Event.D) × Int) → Option (((List T_Event.D) × Int) ⊕ ((List T_Event.D) × Int)) := fun s14 =>
 bif decide (s14.2 < (o13.1.length : Int)) then (
((idx o13.1 s14.2 fun _ =>
(o13.1[(s14.2 : Int).toNat]?).bind fun x15 =>
(spec_EventOk x15).bind fun y16 =>
 bif y16 then (
 idx o13.1 s14.2 fun _ =>
(o13.1[(s14.2 : Int).toNat]?).bind fun x17 =>
(spec_Gone x17).bind fun y18 =>
 some (!y18))
else (
 some false)) : Option Bool).bind fun o19 =>
((bif o19 then (
 idx o13.1 s14.2 fun _ =>
(o13.1[(s14.2 : Int).toNat]?).bind fun x20 =>
 if (s14.1.length + [x20].length) * (24 * 7) ≤ room then (
 some (s14.1 ++ [x20])) else none)
else (
 some s14.1)) : Option (List T_Event.D)).bind fun o21 =>
 some (.inl (o21, IntKind.wrap .i64 (s14.2 + 1))))
else (
 some (.inr s14))
def spec_DoAct (a0 : T_Effect.D) (a1 : T_Event.D) : Option ((List T_Event.D) × (Int × (T_Effect.D × Unit))) :=
(((spec_EffectOk a0).bind fun y1 =>
 bif (!y1) then (
 some true)
else (
(spec_EventOk a1).bind fun y2 =>
 bif (!y2) then (
 some true)
else (
(spec_ActFits a0.2.2.2.2.2.2.1 a1.1).bind fun y3 =>
 some (!y3)))) : Option Bool).bind fun o4 =>
 bif o4 then (
(spec_l10Copy a0).bind fun y5 =>
 some ([a1], 0, y5, ()))
else (
((bif (a0.2.2.2.2.2.2.1.1 == 1) then (
((bif (a1.1 == 1) then (
 some a1.2.2.2.2.1)
else (
 some 0)) : Option Int).bind fun o6 =>
 some ([], o6))
else (
((bif (a0.2.2.2.2.2.2.1.1 == 2) then (
(spec_Upto a1.2.2.2.2.1 a0.2.2.2.2.2.2.2.2.1).bind fun y7 =>
(spec_WithN a1 (IntKind.wrap .i64 (a1.2.2.2.2.1 - y7))).bind fun y8 =>
 if (([] : List T_Event.D).length + [y8].length) * (24 * 7) ≤ room then (
 some (([] ++ [y8]), y7)) else none)
else (
((bif (a0.2.2.2.2.2.2.1.1 == 9) then (
(spec_Parts a0.2.2.2.2.2.2.1 a1).bind fun y9 =>
 some y9)
else (
(spec_l13One a0.2.2.2.2.2.2.1 a1).bind fun y10 =>
 if (([] : List T_Event.D).length + [y10].length) * (24 * 7) ≤ room then (
 some ([] ++ [y10])) else none)) : Option (List T_Event.D)).bind fun o11 =>
 some (o11, 0))) : Option ((List T_Event.D) × Int)).bind fun o12 =>
 some o12)) : Option ((List T_Event.D) × Int)).bind fun o13 =>
(while_ (spec_DoAct_l1 o13) ([], 0)).bind fun o22 =>
(spec_Spent a0 o13.2).bind fun y23 =>
 some (o22.1, o13.2, y23, ()))
def spec_DoAct_h : Hints := (.node none none .none (.node none none (.node none none (.node (some ⟨[.tmp 26 .bool], [none], none, []⟩) none .none .none) .none) (.node none none .none (.node none none .none (.node none none (.node none none .none (.node none none (.node none none .none (.node (some ⟨[.tmpO 7 0 (.slice T_Event), .tmp 8 (.int .i64)], [none], none, [(31, 0)]⟩) none (.node none none .none (.node (some ⟨[.tmp 8 (.int .i64)], [none], none, []⟩) none .none .none)) (.node none none .none (.node (some ⟨[.tmpO 7 0 (.slice T_Event), .tmp 8 (.int .i64)], [none], none, [(31, 0)]⟩) none .none (.node none none .none (.node (some ⟨[.tmpO 7 0 (.slice T_Event)], [none], none, [(31, 0)]⟩) none .none .none)))))) .none)) (.node none none .none (.node none none (.node none none .none (.node none none (.node none (some ⟨[.tmpO 9 0 (.slice T_Event), .tmp 10 (.int .i64)], [some 1], none, []⟩) (.node none none .none (.node none none (.node none none (.node none none (.node (some ⟨[.tmp 90 .bool], [none], none, []⟩) none .none .none) (.node (some ⟨[.tmpO 9 1 (.slice T_Event)], [none], none, [(9, 0)]⟩) none .none .none)) .none) .none)) .none) .none)) .none)))))))
def spec_DoAct_c : Ct := .pure false false (.pair T_Effect (.pair T_Event .unit)) (.pair (.slice T_Event) (.pair (.int .i64) (.pair T_Effect .unit))) (fun x => spec_DoAct x.1 x.2.1)
theorem spec_DoAct_ct : CtOk Tryz.prog 268 spec_DoAct_c := pure_ct (E := { T := tab, G := [(158, spec_EventOk_c), (223, spec_l10Copy_fresh_c), (241, spec_EffectOk_c), (266, spec_Gone_c), (331, spec_ActFits_c), (334, spec_Upto_c), (335, spec_WithN_c), (336, spec_Parts_fresh_c), (337, spec_l13One_c), (338, spec_Spent_fresh_c)] }) (EnvOk.cons spec_EventOk_ct (EnvOk.cons spec_l10Copy_fresh_ct (EnvOk.cons spec_EffectOk_ct (EnvOk.cons spec_Gone_ct (EnvOk.cons spec_ActFits_ct (EnvOk.cons spec_Upto_ct (EnvOk.cons spec_WithN_ct (EnvOk.cons spec_Parts_fresh_ct (EnvOk.cons spec_l13One_ct (EnvOk.cons spec_Spent_fresh_ct (EnvOk.nil tabOk))))))))))) mixed (fn := Tryz.f268) _ _ _ _ _ spec_DoAct_h Tryz.func268 (by kernel_rfl) (fun x => by kernel_rfl)
def spec_DoAct_fresh_c : Ct := .pure false true (.pair T_Effect (.pair T_Event .unit)) (.pair (.slice T_Event) (.pair (.int .i64) (.pair T_Effect .unit))) (fun x => spec_DoAct x.1 x.2.1)
theorem spec_DoAct_fresh_ct : CtOk Tryz.prog 268 spec_DoAct_fresh_c := pure_ct (E := { T := tab, G := [(158, spec_EventOk_c), (223, spec_l10Copy_fresh_c), (241, spec_EffectOk_c), (266, spec_Gone_c), (331, spec_ActFits_c), (334, spec_Upto_c), (335, spec_WithN_c), (336, spec_Parts_fresh_c), (337, spec_l13One_c), (338, spec_Spent_fresh_c)] }) (EnvOk.cons spec_EventOk_ct (EnvOk.cons spec_l10Copy_fresh_ct (EnvOk.cons spec_EffectOk_ct (EnvOk.cons spec_Gone_ct (EnvOk.cons spec_ActFits_ct (EnvOk.cons spec_Upto_ct (EnvOk.cons spec_WithN_ct (EnvOk.cons spec_Parts_fresh_ct (EnvOk.cons spec_l13One_ct (EnvOk.cons spec_Spent_fresh_ct (EnvOk.nil tabOk))))))))))) mixed (fn := Tryz.f268) _ _ _ _ _ spec_DoAct_h Tryz.func268 (by kernel_rfl) (fun x => by kernel_rfl)
/-! loop.example/g00486/spec.Update -/
def spec_Update (a0 : (List T_Effect.D)) (a1 : T_Effect.D) : Option (List T_Effect.D) :=
(spec_l11Copy a0).bind fun y1 =>
(spec_EffectAt a0 a1.1).bind fun y2 =>
 bif decide (y2 ≥ 0) then (
(spec_l10Copy a1).bind fun y3 =>
 idx y1 y2 fun _ =>
(y1[(y2 : Int).toNat]?).bind fun x4 =>
 let u5 : (List T_Effect.D) := y1.set (y2 : Int).toNat y3
 some u5)
else (
 some y1)
def spec_Update_c : Ct := .pure true false (.pair (.slice T_Effect) (.pair T_Effect .unit)) (.slice T_Effect) (fun x => spec_Update x.1 x.2.1)
theorem spec_Update_ct : CtOk Tryz.prog 269 spec_Update_c := pure_ct (E := { T := tab, G := [(155, spec_l11Copy_fresh_c), (223, spec_l10Copy_fresh_c), (224, spec_EffectAt_c)] }) (EnvOk.cons spec_l11Copy_fresh_ct (EnvOk.cons spec_l10Copy_fresh_ct (EnvOk.cons spec_EffectAt_ct (EnvOk.nil tabOk)))) mixed (fn := Tryz.f269) _ _ _ _ _ .none Tryz.func269 (by kernel_rfl) (fun x => by kernel_rfl)
def spec_Update_fresh_c : Ct := .pure true true (.pair (.slice T_Effect) (.pair T_Effect .unit)) (.slice T_Effect) (fun x => spec_Update x.1 x.2.1)
theorem spec_Update_fresh_ct : CtOk Tryz.prog 269 spec_Update_fresh_c := pure_ct (E := { T := tab, G := [(155, spec_l11Copy_fresh_c), (223, spec_l10Copy_fresh_c), (224, spec_EffectAt_c)] }) (EnvOk.cons spec_l11Copy_fresh_ct (EnvOk.cons spec_l10Copy_fresh_ct (EnvOk.cons spec_EffectAt_ct (EnvOk.nil tabOk)))) mixed (fn := Tryz.f269) _ _ _ _ _ .none Tryz.func269 (by kernel_rfl) (fun x => by kernel_rfl)
/-! loop.example/g00486/spec.Chooser -/
def spec_Chooser (a0 : T_State.D) (a1 : T_Event.D) : Option Int :=
(spec_Target a0 a1).bind fun y1 =>
 bif (y1 == (-1)) then (
 some a0.2.2.1)
else (
 some y1)
def spec_Chooser_c : Ct := .pure true false (.pair T_State (.pair T_Event .unit)) (.int .i64) (fun x => spec_Chooser x.1 x.2.1)
theorem spec_Chooser_ct : CtOk Tryz.prog 270 spec_Chooser_c := pure_ct (E := { T := tab, G := [(339, spec_Target_c)] }) (EnvOk.cons spec_Target_ct (EnvOk.nil tabOk)) mixed (fn := Tryz.f270) _ _ _ _ _ .none Tryz.func270 (by kernel_rfl) (fun x => by kernel_rfl)
/-! loop.example/g00486/spec.SetOf -/
def spec_SetOf_l1 (a0 : (List Int)) (s1 : ((List Int) × Int)) : Int → Option (Int ⊕ Int) := fun s4 =>
((bif decide (s4 > 0) then (
 idx s1.1 (IntKind.wrap .i64 (s4 - 1)) fun _ =>
(s1.1[(IntKind.wrap .i64 (s4 - 1) : Int).toNat]?).bind fun x5 =>
 idx a0 s1.2 fun x6 =>
 some (decide (x5 > x6)))
else (
 some false)) : Option Bool).bind fun o7 =>
 bif o7 then (
 some (.inl (IntKind.wrap .i64 (s4 - 1))))
else (
 some (.inr s4))
def spec_SetOf_l2 (a0 : (List Int)) : ((List Int) × Int) → Option (((List Int) × Int) ⊕ ((List Int) × Int)) := fun s1 =>
 bif decide (s1.2 < (a0.length : Int)) then (
((idx a0 s1.2 fun x2 =>
(spec_Has s1.1 x2).bind fun y3 =>
 bif y3 then (
 some s1.1)
else (
(while_ (spec_SetOf_l1 a0 s1) (s1.1.length : Int)).bind fun o8 =>
 if 0 ≤ (0 : Int) then (if (0 : Int) ≤ o8 then (if o8 ≤ (s1.1.length : Int) then (
 if (([] : List Int).length + ((s1.1.take (o8.toNat)).drop ((0 : Int).toNat)).length) * (24 * 1) ≤ room then (
 idx a0 s1.2 fun x9 =>
 if (([] ++ ((s1.1.take (o8.toNat)).drop ((0 : Int).toNat))).length + [x9].length) * (24 * 1) ≤ room then (
 if 0 ≤ o8 then (if o8 ≤ (s1.1.length : Int) then (if (s1.1.length : Int) ≤ (s1.1.length : Int) then (
 if ((([] ++ ((s1.1.take (o8.toNat)).drop ((0 : Int).toNat))) ++ [x9]).length + ((s1.1.take ((s1.1.length : Int).toNat)).drop (o8.toNat)).length) * (24 * 1) ≤ room then (
 some ((([] ++ ((s1.1.take (o8.toNat)).drop ((0 : Int).toNat))) ++ [x9]) ++ ((s1.1.take ((s1.1.length : Int).toNat)).drop (o8.toNat)))) else none) else none) else none) else none) else none) else none) else none) else none) else none)) : Option (List Int)).bind fun o10 =>
 some (.inl (o10, IntKind.wrap .i64 (s1.2 + 1))))
else (
 some (.inr s1))
def spec_SetOf (a0 : (List Int)) : Option (List Int) :=
(while_ (spec_SetOf_l2 a0) ([], 0)).bind fun o11 =>
 some o11.1
def spec_SetOf_h : Hints := (.node none none .none (.node none none .none (.node none none (.node none none .none (.node none none (.node none (some ⟨[.tmpO 3 0 (.slice (.int .i64)), .tmp 4 (.int .i64)], [some 0], none, []⟩) (.node none none .none (.node none none (.node (some ⟨[.tmpO 3 1 (.slice (.int .i64))], [none], none, [(3, 0)]⟩) none (.node none none .none (.node none none .none (.node none none (.node none none (.node none (some ⟨[.tmp 5 (.int .i64)], [some 2], none, []⟩) (.node none none (.node none none (.node (some ⟨[.tmp 34 .bool], [none], none, []⟩) none .none .none) .none) .none) .none) .none) .none))) .none) .none)) .none) .none)) .none)))
def spec_SetOf_c : Ct := .pure true false (.pair (.slice (.int .i64)) .unit) (.slice (.int .i64)) (fun x => spec_SetOf x.1)
theorem spec_SetOf_ct : CtOk Tryz.prog 340 spec_SetOf_c := pure_ct (E := { T := tab, G := [(324, spec_Has_c)] }) (EnvOk.cons spec_Has_ct (EnvOk.nil tabOk)) mixed (fn := Tryz.f340) _ _ _ _ _ spec_SetOf_h Tryz.func340 (by kernel_rfl) (fun x => by kernel_rfl)
def spec_SetOf_fresh_c : Ct := .pure true true (.pair (.slice (.int .i64)) .unit) (.slice (.int .i64)) (fun x => spec_SetOf x.1)
theorem spec_SetOf_fresh_ct : CtOk Tryz.prog 340 spec_SetOf_fresh_c := pure_ct (E := { T := tab, G := [(324, spec_Has_c)] }) (EnvOk.cons spec_Has_ct (EnvOk.nil tabOk)) mixed (fn := Tryz.f340) _ _ _ _ _ spec_SetOf_h Tryz.func340 (by kernel_rfl) (fun x => by kernel_rfl)
/-! loop.example/g00486/spec.With -/
def spec_With (a0 : (List Int)) (a1 : Int) : Option (List Int) :=
 if (([] : List Int).length + a0.length) * (24 * 1) ≤ room then (
 if (([] ++ a0).length + [a1].length) * (24 * 1) ≤ room then (
(spec_SetOf (([] ++ a0) ++ [a1])).bind fun y1 =>
 some y1) else none) else none
def spec_With_c : Ct := .pure true false (.pair (.slice (.int .i64)) (.pair (.int .i64) .unit)) (.slice (.int .i64)) (fun x => spec_With x.1 x.2.1)
theorem spec_With_ct : CtOk Tryz.prog 271 spec_With_c := pure_ct (E := { T := tab, G := [(340, spec_SetOf_fresh_c)] }) (EnvOk.cons spec_SetOf_fresh_ct (EnvOk.nil tabOk)) mixed (fn := Tryz.f271) _ _ _ _ _ .none Tryz.func271 (by kernel_rfl) (fun x => by kernel_rfl)
def spec_With_fresh_c : Ct := .pure true true (.pair (.slice (.int .i64)) (.pair (.int .i64) .unit)) (.slice (.int .i64)) (fun x => spec_With x.1 x.2.1)
theorem spec_With_fresh_ct : CtOk Tryz.prog 271 spec_With_fresh_c := pure_ct (E := { T := tab, G := [(340, spec_SetOf_fresh_c)] }) (EnvOk.cons spec_SetOf_fresh_ct (EnvOk.nil tabOk)) mixed (fn := Tryz.f271) _ _ _ _ _ .none Tryz.func271 (by kernel_rfl) (fun x => by kernel_rfl)
/-! loop.example/g00486/spec.l14Go -/
def spec_l14Go_l1 (rec : (T_Run.D → T_Event.D → (List Int) → Option (Unit × T_Run.D))) (y8 : ((List T_Event.D) × (Int × (T_Effect.D × Unit)))) (y11 : (List Int)) : (Int × (T_StateV.D × ((List T_Effect.D) × ((List Int) × ((List T_Event.D) × ((List T_Turn.D) × Unit)))))) → Option ((Int × (T_StateV.D × ((List T_Effect.D) × ((List Int) × ((List T_Event.D) × ((List T_Turn.D) × Unit)))))) ⊕ (Int × (T_StateV.D × ((List T_Effect.D) × ((List Int) × ((List T_Event.D) × ((List T_Turn.D) × Unit))))))) := fun s13 =>
 bif decide (s13.1 < (y8.1.length : Int)) then (
 idx y8.1 s13.1 fun _ =>
(y8.1[(s13.1 : Int).toNat]?).bind fun x14 =>
(rec s13.2 x14 y11).bind fun y15 =>
 some (.inl (IntKind.wrap .i64 (s13.1 + 1), y15.2)))
else (
 some (.inr s13))
def spec_l14Go_step (rec : (T_Run.D → T_Event.D → (List Int) → Option (Unit × T_Run.D))) (x : T_Run.D) (a0 : T_Event.D) (a1 : (List Int)) : Option (Unit × T_Run.D) :=
(spec_Options x.1 x.2.1 a0 a1).bind fun y1 =>
 bif ((y1.length : Int) == 0) then (
(spec_Gone a0).bind fun y2 =>
((bif (!y2) then (
 if (x.2.2.2.1.length + [a0].length) * (24 * 7) ≤ room then (
 some (x.1, x.2.1, x.2.2.1, (x.2.2.2.1 ++ [a0]), x.2.2.2.2)) else none)
else (
 some x)) : Option T_Run.D).bind fun o3 =>
 some ((), o3))
else (
(spec_Pick x.2.2.1 (y1.length : Int)).bind fun y4 =>
 idx y1 y4.1 fun _ =>
(y1[(y4.1 : Int).toNat]?).bind fun x5 =>
(spec_EffectAt x.2.1 x5).bind fun y6 =>
 idx x.2.1 y6 fun x7 =>
(spec_DoAct x7 a0).bind fun y8 =>
(spec_Update x.2.1 y8.2.2.1).bind fun y9 =>
(spec_Chooser x.1 a0).bind fun y10 =>
 if (([] : List T_Event.D).length + y8.1.length) * (24 * 7) ≤ room then (
 if (x.2.2.2.2.1.length + ([(x7.1, y10, y4.1, (y1.length : Int), a0, ([] ++ y8.1), y8.2.1, (a1.length : Int), ())]).length) * (24 * 14) ≤ room then (
(spec_With a1 x7.1).bind fun y11 =>
(while_ (spec_l14Go_l1 rec y8 y11) (0, x.1, y9, y4.2.1, x.2.2.2.1, (x.2.2.2.2.1 ++ ([(x7.1, y10, y4.1, (y1.length : Int), a0, ([] ++ y8.1), y8.2.1, (a1.length : Int), ())])), ())).bind fun o16 =>
 some ((), o16.2)) else none) else none)
def spec_l14Go (n : Nat) : T_Run.D → T_Event.D → (List Int) → Option (Unit × T_Run.D) := Nat.rec (motive := fun _ => (T_Run.D → T_Event.D → (List Int) → Option (Unit × T_Run.D))) (fun _ _ _ => none) (fun _ g => spec_l14Go_step g) n
def spec_l14Go_h : Hints := (.node none none .none (.node none none .none (.node none none (.node none none .none (.node none none (.node none none (.node none none .none (.node (some ⟨[.boxO 0 0 6 T_Run], [none], none, [(0, 4), (0, 0), (0, 2), (0, 3), (0, 5)]⟩) none .none .none)) .none) .none)) (.node none none .none (.node none none .none (.node none none (.node none none (.node (some ⟨[], [], none, [(0, 2)]⟩) none .none .none) .none) (.node none none .none (.node none none .none (.node none none .none (.node none none .none (.node none none (.node none none (.node (some ⟨[], [], none, [(118, 0)]⟩) none .none .none) .none) (.node none none (.node none (some ⟨[.tmp 14 (.int .i64), .boxO 0 0 6 T_Run], [some 0], none, []⟩) (.node none none .none (.node none none (.node none none (.node none (some ⟨[], [some 6], none, []⟩) .none .none) .none) .none)) .none) .none))))))))))))
def spec_l14Go_c (g : (T_Run.D → T_Event.D → (List Int) → Option (Unit × T_Run.D))) : Ct := .run T_Run [] false false false (.pair T_Event (.pair (.slice (.int .i64)) .unit)) .unit (fun x y => g x y.1 y.2.1)
theorem spec_l14Go_ct (n : Nat) : CtOk Tryz.prog 159 (spec_l14Go_c (spec_l14Go n)) := by
  induction n with
  | zero => exact run_none (fn := Tryz.f159) T_Run [] false false false (.pair T_Event (.pair (.slice (.int .i64)) .unit)) .unit Tryz.func159 (by kernel_rfl)
  | succ n ih => exact run_ct (E := { T := tab, G := [(159, spec_l14Go_c (spec_l14Go n)), (224, spec_EffectAt_c), (265, spec_Options_fresh_c), (266, spec_Gone_c), (267, spec_Pick_fresh_c), (268, spec_DoAct_fresh_c), (269, spec_Update_fresh_c), (270, spec_Chooser_c), (271, spec_With_fresh_c)], Z := true }) (EnvOk.frz (EnvOk.cons (ih) (EnvOk.cons spec_EffectAt_ct (EnvOk.cons spec_Options_fresh_ct (EnvOk.cons spec_Gone_ct (EnvOk.cons spec_Pick_fresh_ct (EnvOk.cons spec_DoAct_fresh_ct (EnvOk.cons spec_Update_fresh_ct (EnvOk.cons spec_Chooser_ct (EnvOk.cons spec_With_fresh_ct (EnvOk.nil tabOk))))))))))) mixed (fn := Tryz.f159) T_Run [] false false false (.pair T_Event (.pair (.slice (.int .i64)) .unit)) .unit (fun x y => spec_l14Go_step (spec_l14Go n) x y.1 y.2.1) spec_l14Go_h Tryz.func159 (by kernel_rfl) (fun x y => by kernel_rfl)
/-! loop.example/g00486/spec.Rewrite -/
def spec_Rewrite (a0 : T_State.D) (a1 : (List T_Effect.D)) (a2 : T_Event.D) (a3 : (List Int)) : Option T_Fate.D :=
(spec_l11Copy a1).bind fun y1 =>
 if (([] : List Int).length + a3.length) * (24 * 1) ≤ room then (
(spec_StateOk a0).bind fun y2 =>
 bif y2 then (
(spec_TableOk a1).bind fun y3 =>
 bif y3 then (
(spec_EventOk a2).bind fun y4 =>
 bif y4 then (
(spec_l14Go 8 (a0, y1, ([] ++ a3), [], [], ()) a2 []).bind fun y5 =>
 some (y5.2.2.2.2.1, y5.2.2.1, y5.2.2.2.1, y5.2.2.2.2.2))
else (
 some ([], y1, ([] ++ a3), [], ())))
else (
 some ([], y1, ([] ++ a3), [], ())))
else (
 some ([], y1, ([] ++ a3), [], ()))) else none
def spec_Rewrite_h : Hints := (.node none none .none (.node none none .none (.node none none (.node none none .none (.node none none (.node none (some ⟨[], [some 3], none, []⟩) .none .none) .none)) .none)))
def spec_Rewrite_c : Ct := .pure true false (.pair T_State (.pair (.slice T_Effect) (.pair T_Event (.pair (.slice (.int .i64)) .unit)))) T_Fate (fun x => spec_Rewrite x.1 x.2.1 x.2.2.1 x.2.2.2.1)
theorem spec_Rewrite_ct : CtOk Tryz.prog 47 spec_Rewrite_c := pure_ct (E := { T := tab, G := [(159, spec_l14Go_c (spec_l14Go 8)), (118, spec_StateOk_c), (119, spec_TableOk_c), (155, spec_l11Copy_fresh_c), (158, spec_EventOk_c)], V := [32], Z := true }) (EnvOk.frz (EnvOk.views (EnvOk.cons (spec_l14Go_ct 8) (EnvOk.cons spec_StateOk_ct (EnvOk.cons spec_TableOk_ct (EnvOk.cons spec_l11Copy_fresh_ct (EnvOk.cons spec_EventOk_ct (EnvOk.nil tabOk)))))))) mixed (fn := Tryz.f47) _ _ _ _ _ spec_Rewrite_h Tryz.func47 (by kernel_rfl) (fun x => by kernel_rfl)
def spec_Rewrite_fresh_c : Ct := .pure true true (.pair T_State (.pair (.slice T_Effect) (.pair T_Event (.pair (.slice (.int .i64)) .unit)))) T_Fate (fun x => spec_Rewrite x.1 x.2.1 x.2.2.1 x.2.2.2.1)
theorem spec_Rewrite_fresh_ct : CtOk Tryz.prog 47 spec_Rewrite_fresh_c := pure_ct (E := { T := tab, G := [(159, spec_l14Go_c (spec_l14Go 8)), (118, spec_StateOk_c), (119, spec_TableOk_c), (155, spec_l11Copy_fresh_c), (158, spec_EventOk_c)], V := [32], Z := true }) (EnvOk.frz (EnvOk.views (EnvOk.cons (spec_l14Go_ct 8) (EnvOk.cons spec_StateOk_ct (EnvOk.cons spec_TableOk_ct (EnvOk.cons spec_l11Copy_fresh_ct (EnvOk.cons spec_EventOk_ct (EnvOk.nil tabOk)))))))) mixed (fn := Tryz.f47) _ _ _ _ _ spec_Rewrite_h Tryz.func47 (by kernel_rfl) (fun x => by kernel_rfl)
/-! loop.example/g00486/spec.l13Copy -/
def spec_l13Copy (a0 : T_Turn.D) : Option T_Turn.D :=
 if (([] : List T_Event.D).length + a0.2.2.2.2.2.1.length) * (24 * 7) ≤ room then (
 some (a0.1, a0.2.1, a0.2.2.1, a0.2.2.2.1, a0.2.2.2.2.1, ([] ++ a0.2.2.2.2.2.1), a0.2.2.2.2.2.2)) else none
def spec_l13Copy_c : Ct := .pure true false (.pair T_Turn .unit) T_Turn (fun x => spec_l13Copy x.1)
theorem spec_l13Copy_ct : CtOk Tryz.prog 317 spec_l13Copy_c := pure_ct (E := { T := tab, G := [] }) (EnvOk.nil tabOk) mixed (fn := Tryz.f317) _ _ _ _ _ .none Tryz.func317 (by kernel_rfl) (fun x => by kernel_rfl)
def spec_l13Copy_fresh_c : Ct := .pure true true (.pair T_Turn .unit) T_Turn (fun x => spec_l13Copy x.1)
theorem spec_l13Copy_fresh_ct : CtOk Tryz.prog 317 spec_l13Copy_fresh_c := pure_ct (E := { T := tab, G := [] }) (EnvOk.nil tabOk) mixed (fn := Tryz.f317) _ _ _ _ _ .none Tryz.func317 (by kernel_rfl) (fun x => by kernel_rfl)
/-! loop.example/g00486/spec.l15Turns -/
def spec_l15Turns_l1 (a0 : (List T_Turn.D)) : ((List T_Turn.D) × Int) → Option (((List T_Turn.D) × Int) ⊕ ((List T_Turn.D) × Int)) := fun s1 =>
 bif decide (s1.2 < (a0.length : Int)) then (
 idx a0 s1.2 fun x2 =>
(spec_l13Copy x2).bind fun y3 =>
 if (s1.1.length + [y3].length) * (24 * 14) ≤ room then (
 some (.inl ((s1.1 ++ [y3]), IntKind.wrap .i64 (s1.2 + 1)))) else none)
else (
 some (.inr s1))
def spec_l15Turns (a0 : (List T_Turn.D)) : Option (List T_Turn.D) :=
(while_ (spec_l15Turns_l1 a0) ([], 0)).bind fun o4 =>
 some o4.1
def spec_l15Turns_h : Hints := (.node none none .none (.node none none .none (.node none none (.node none none .none (.node none none (.node none (some ⟨[.tmpO 3 0 (.slice T_Turn), .tmp 4 (.int .i64)], [some 0], none, []⟩) .none .none) .none)) .none)))
def spec_l15Turns_c : Ct := .pure true false (.pair (.slice T_Turn) .unit) (.slice T_Turn) (fun x => spec_l15Turns x.1)
theorem spec_l15Turns_ct : CtOk Tryz.prog 222 spec_l15Turns_c := pure_ct (E := { T := tab, G := [(317, spec_l13Copy_fresh_c)] }) (EnvOk.cons spec_l13Copy_fresh_ct (EnvOk.nil tabOk)) mixed (fn := Tryz.f222) _ _ _ _ _ spec_l15Turns_h Tryz.func222 (by kernel_rfl) (fun x => by kernel_rfl)
def spec_l15Turns_fresh_c : Ct := .pure true true (.pair (.slice T_Turn) .unit) (.slice T_Turn) (fun x => spec_l15Turns x.1)
theorem spec_l15Turns_fresh_ct : CtOk Tryz.prog 222 spec_l15Turns_fresh_c := pure_ct (E := { T := tab, G := [(317, spec_l13Copy_fresh_c)] }) (EnvOk.cons spec_l13Copy_fresh_ct (EnvOk.nil tabOk)) mixed (fn := Tryz.f222) _ _ _ _ _ spec_l15Turns_h Tryz.func222 (by kernel_rfl) (fun x => by kernel_rfl)
/-! loop.example/g00486/spec.l15Copy -/
def spec_l15Copy (a0 : T_Fate.D) : Option T_Fate.D :=
 if (([] : List T_Event.D).length + a0.1.length) * (24 * 7) ≤ room then (
(spec_l11Copy a0.2.1).bind fun y1 =>
 if (([] : List Int).length + a0.2.2.1.length) * (24 * 1) ≤ room then (
(spec_l15Turns a0.2.2.2.1).bind fun y2 =>
 some (([] ++ a0.1), y1, ([] ++ a0.2.2.1), y2, ())) else none) else none
def spec_l15Copy_c : Ct := .pure true false (.pair T_Fate .unit) T_Fate (fun x => spec_l15Copy x.1)
theorem spec_l15Copy_ct : CtOk Tryz.prog 173 spec_l15Copy_c := pure_ct (E := { T := tab, G := [(155, spec_l11Copy_fresh_c), (222, spec_l15Turns_fresh_c)] }) (EnvOk.cons spec_l11Copy_fresh_ct (EnvOk.cons spec_l15Turns_fresh_ct (EnvOk.nil tabOk))) mixed (fn := Tryz.f173) _ _ _ _ _ .none Tryz.func173 (by kernel_rfl) (fun x => by kernel_rfl)
def spec_l15Copy_fresh_c : Ct := .pure true true (.pair T_Fate .unit) T_Fate (fun x => spec_l15Copy x.1)
theorem spec_l15Copy_fresh_ct : CtOk Tryz.prog 173 spec_l15Copy_fresh_c := pure_ct (E := { T := tab, G := [(155, spec_l11Copy_fresh_c), (222, spec_l15Turns_fresh_c)] }) (EnvOk.cons spec_l11Copy_fresh_ct (EnvOk.cons spec_l15Turns_fresh_ct (EnvOk.nil tabOk))) mixed (fn := Tryz.f173) _ _ _ _ _ .none Tryz.func173 (by kernel_rfl) (fun x => by kernel_rfl)
/-! loop.example/g00486/spec.DrawSameFate -/
def spec_DrawSameFate (a0 : (List Int)) : Option (T_Fate.D × (T_Fate.D × Unit)) :=
(spec_l1New a0).bind fun y1 =>
(spec_l14Draw y1).bind fun y2 =>
(spec_Rewrite y2.1.1 y2.1.2.1 y2.1.2.2.1 y2.1.2.2.2.1).bind fun y3 =>
(spec_l1Below y2.2.1 4).bind fun y4 =>
 bif (y4.1 == 0) then (
(spec_l12Choices y4.2.1).bind fun y5 =>
(spec_Rewrite y2.1.1 y2.1.2.1 y2.1.2.2.1 y5.1).bind fun y6 =>
 some (y3, y6, ()))
else (
 bif (y4.1 == 1) then (
(spec_l15Copy y3).bind fun y7 =>
 if (y7.2.2.1.length + ([1] : List Int).length) * (24 * 1) ≤ room then (
 some (y3, (y7.1, y7.2.1, (y7.2.2.1 ++ ([1] : List Int)), y7.2.2.2), ())) else none)
else (
(spec_l15Copy y3).bind fun y8 =>
 some (y3, y8, ())))
def spec_DrawSameFate_c : Ct := .pure false false (.pair (.slice (.int .u8)) .unit) (.pair T_Fate (.pair T_Fate .unit)) (fun x => spec_DrawSameFate x.1)
theorem spec_DrawSameFate_ct : CtOk Tryz.prog 69 spec_DrawSameFate_c := pure_ct (E := { T := tab, G := [(47, spec_Rewrite_fresh_c), (85, spec_l1New_c), (88, spec_l1Below_c), (150, spec_l12Choices_fresh_c), (173, spec_l15Copy_fresh_c), (179, spec_l14Draw_c)] }) (EnvOk.cons spec_Rewrite_fresh_ct (EnvOk.cons spec_l1New_ct (EnvOk.cons spec_l1Below_ct (EnvOk.cons spec_l12Choices_fresh_ct (EnvOk.cons spec_l15Copy_fresh_ct (EnvOk.cons spec_l14Draw_ct (EnvOk.nil tabOk))))))) mixed (fn := Tryz.f69) _ _ _ _ _ .none Tryz.func69 (by kernel_rfl) (fun x => by kernel_rfl)
def spec_DrawSameFate_fresh_c : Ct := .pure false true (.pair (.slice (.int .u8)) .unit) (.pair T_Fate (.pair T_Fate .unit)) (fun x => spec_DrawSameFate x.1)
theorem spec_DrawSameFate_fresh_ct : CtOk Tryz.prog 69 spec_DrawSameFate_fresh_c := pure_ct (E := { T := tab, G := [(47, spec_Rewrite_fresh_c), (85, spec_l1New_c), (88, spec_l1Below_c), (150, spec_l12Choices_fresh_c), (173, spec_l15Copy_fresh_c), (179, spec_l14Draw_c)] }) (EnvOk.cons spec_Rewrite_fresh_ct (EnvOk.cons spec_l1New_ct (EnvOk.cons spec_l1Below_ct (EnvOk.cons spec_l12Choices_fresh_ct (EnvOk.cons spec_l15Copy_fresh_ct (EnvOk.cons spec_l14Draw_ct (EnvOk.nil tabOk))))))) mixed (fn := Tryz.f69) _ _ _ _ _ .none Tryz.func69 (by kernel_rfl) (fun x => by kernel_rfl)
/-! loop.example/g00486/spec.l14Fate -/
def spec_l14Fate (a0 : T_l1Cur.D) : Option (T_Fate.D × (T_l1Cur.D × Unit)) :=
(spec_l14Draw a0).bind fun y1 =>
(spec_Rewrite y1.1.1 y1.1.2.1 y1.1.2.2.1 y1.1.2.2.2.1).bind fun y2 =>
((bif decide ((y2.2.2.2.1.length : Int) > 0) then (
(spec_l1Once y1.2.1 4).bind fun y3 =>
 some (y3.1, (y2.1, y2.2.1, y2.2.2.1, y2.2.2.2.1, ()), y3.2.1))
else (
 some (false, (y2.1, y2.2.1, y2.2.2.1, y2.2.2.2.1, ()), y1.2.1))) : Option (Bool × (T_FateV.D × ((List Int) × (Int × (Int × Unit)))))).bind fun o4 =>
 bif o4.1 then (
(spec_l1Below o4.2.2 (o4.2.1.2.2.2.1.length : Int)).bind fun y5 =>
 idx o4.2.1.2.2.2.1 y5.1 fun _ =>
(o4.2.1.2.2.2.1[(y5.1 : Int).toNat]?).bind fun x6 =>
 if (o4.2.1.2.2.2.1.length + [x6].length) * (24 * 14) ≤ room then (
 some ((o4.2.1.1, o4.2.1.2.1, o4.2.1.2.2.1, (o4.2.1.2.2.2.1 ++ [x6]), ()), y5.2)) else none)
else (
 some ((o4.2.1.1, o4.2.1.2.1, o4.2.1.2.2.1, o4.2.1.2.2.2.1, ()), (o4.2.2, ())))
def spec_l14Fate_h : Hints := (.node none none .none (.node none none .none (.node none none .none (.node none none (.node none none (.node (some ⟨[.tmp 27 .bool, .boxO 7 0 1 T_FateV, .box 0 0 T_l1Cur], [none], none, [(19, 3), (7, 0), (0, 0), (19, 0), (19, 1), (19, 2)]⟩) none (.node (some ⟨[.boxO 19 3 0 T_TurnV], [], none, []⟩) none .none .none) .none) .none) .none))))
def spec_l14Fate_c : Ct := .mut [.ptr] true false (.pair T_l1Cur .unit) T_Fate (fun x => spec_l14Fate x.1)
theorem spec_l14Fate_ct : CtOk Tryz.prog 180 spec_l14Fate_c := mut_ct (E := { T := tabV, G := [(47, spec_Rewrite_fresh_c), (88, spec_l1Below_c), (103, spec_l1Once_c), (179, spec_l14Draw_c)], V := [39], Z := true }) (EnvOk.frz (EnvOk.views (EnvOk.cons spec_Rewrite_fresh_ct (EnvOk.cons spec_l1Below_ct (EnvOk.cons spec_l1Once_ct (EnvOk.cons spec_l14Draw_ct (EnvOk.nil tabVOk))))))) mixed (fn := Tryz.f180) _ _ _ _ _ _ spec_l14Fate_h Tryz.func180 (by kernel_rfl) (fun x => by kernel_rfl)
/-! loop.example/g00486/spec.DrawJoin -/
def spec_DrawJoin (a0 : (List Int)) : Option (T_Fate.D × (T_Fate.D × Unit)) :=
(spec_l1New a0).bind fun y1 =>
(spec_l14Fate y1).bind fun y2 =>
(spec_l14Fate y2.2.1).bind fun y3 =>
 some (y2.1, y3.1, ())
def spec_DrawJoin_c : Ct := .pure false false (.pair (.slice (.int .u8)) .unit) (.pair T_Fate (.pair T_Fate .unit)) (fun x => spec_DrawJoin x.1)
theorem spec_DrawJoin_ct : CtOk Tryz.prog 70 spec_DrawJoin_c := pure_ct (E := { T := tab, G := [(85, spec_l1New_c), (180, spec_l14Fate_c)] }) (EnvOk.cons spec_l1New_ct (EnvOk.cons spec_l14Fate_ct (EnvOk.nil tabOk))) mixed (fn := Tryz.f70) _ _ _ _ _ .none Tryz.func70 (by kernel_rfl) (fun x => by kernel_rfl)
/-! loop.example/g00486/spec.DrawBatchOk -/
def spec_DrawBatchOk (a0 : (List Int)) : Option (List T_Event.D) :=
(spec_l1New a0).bind fun y1 =>
(spec_l5Draw y1).bind fun y2 =>
(spec_l15Batch y2.2.1 y2.1 []).bind fun y3 =>
(spec_l1Once y3.2.1 3).bind fun y4 =>
 bif y4.1 then (
(spec_l6Any y4.2.1 y2.1).bind fun y5 =>
(spec_l6Draw y5.2.1 y2.1).bind fun y6 =>
 if (y3.1.length + [y5.1, y6.1].length) * (24 * 7) ≤ room then (
 some (y3.1 ++ [y5.1, y6.1])) else none)
else (
 some y3.1)
def spec_DrawBatchOk_c : Ct := .pure true false (.pair (.slice (.int .u8)) .unit) (.slice T_Event) (fun x => spec_DrawBatchOk x.1)
theorem spec_DrawBatchOk_ct : CtOk Tryz.prog 71 spec_DrawBatchOk_c := pure_ct (E := { T := tab, G := [(85, spec_l1New_c), (89, spec_l6Any_c), (103, spec_l1Once_c), (175, spec_l5Draw_c), (177, spec_l15Batch_fresh_c), (178, spec_l6Draw_c)], V := [12] }) (EnvOk.views (EnvOk.cons spec_l1New_ct (EnvOk.cons spec_l6Any_ct (EnvOk.cons spec_l1Once_ct (EnvOk.cons spec_l5Draw_ct (EnvOk.cons spec_l15Batch_fresh_ct (EnvOk.cons spec_l6Draw_ct (EnvOk.nil tabOk)))))))) mixed (fn := Tryz.f71) _ _ _ _ _ .none Tryz.func71 (by kernel_rfl) (fun x => by kernel_rfl)
def spec_DrawBatchOk_fresh_c : Ct := .pure true true (.pair (.slice (.int .u8)) .unit) (.slice T_Event) (fun x => spec_DrawBatchOk x.1)
theorem spec_DrawBatchOk_fresh_ct : CtOk Tryz.prog 71 spec_DrawBatchOk_fresh_c := pure_ct (E := { T := tab, G := [(85, spec_l1New_c), (89, spec_l6Any_c), (103, spec_l1Once_c), (175, spec_l5Draw_c), (177, spec_l15Batch_fresh_c), (178, spec_l6Draw_c)], V := [12] }) (EnvOk.views (EnvOk.cons spec_l1New_ct (EnvOk.cons spec_l6Any_ct (EnvOk.cons spec_l1Once_ct (EnvOk.cons spec_l5Draw_ct (EnvOk.cons spec_l15Batch_fresh_ct (EnvOk.cons spec_l6Draw_ct (EnvOk.nil tabOk)))))))) mixed (fn := Tryz.f71) _ _ _ _ _ .none Tryz.func71 (by kernel_rfl) (fun x => by kernel_rfl)
/-! loop.example/g00486/spec.DrawSameEvents -/
def spec_DrawSameEvents (a0 : (List Int)) : Option ((List T_Event.D) × ((List T_Event.D) × Unit)) :=
(spec_l1New a0).bind fun y1 =>
(spec_l5Draw y1).bind fun y2 =>
(spec_l15Batch y2.2.1 y2.1 []).bind fun y3 =>
(spec_l1Once y3.2.1 2).bind fun y4 =>
 bif y4.1 then (
 if (([] : List T_Event.D).length + y3.1.length) * (24 * 7) ≤ room then (
 some (y3.1, ([] ++ y3.1), ())) else none)
else (
(spec_l15Batch y4.2.1 y2.1 []).bind fun y5 =>
 some (y3.1, y5.1, ()))
def spec_DrawSameEvents_c : Ct := .pure false false (.pair (.slice (.int .u8)) .unit) (.pair (.slice T_Event) (.pair (.slice T_Event) .unit)) (fun x => spec_DrawSameEvents x.1)
theorem spec_DrawSameEvents_ct : CtOk Tryz.prog 72 spec_DrawSameEvents_c := pure_ct (E := { T := tab, G := [(85, spec_l1New_c), (103, spec_l1Once_c), (175, spec_l5Draw_c), (177, spec_l15Batch_fresh_c)], V := [13, 24] }) (EnvOk.views (EnvOk.cons spec_l1New_ct (EnvOk.cons spec_l1Once_ct (EnvOk.cons spec_l5Draw_ct (EnvOk.cons spec_l15Batch_fresh_ct (EnvOk.nil tabOk)))))) mixed (fn := Tryz.f72) _ _ _ _ _ .none Tryz.func72 (by kernel_rfl) (fun x => by kernel_rfl)
def spec_DrawSameEvents_fresh_c : Ct := .pure false true (.pair (.slice (.int .u8)) .unit) (.pair (.slice T_Event) (.pair (.slice T_Event) .unit)) (fun x => spec_DrawSameEvents x.1)
theorem spec_DrawSameEvents_fresh_ct : CtOk Tryz.prog 72 spec_DrawSameEvents_fresh_c := pure_ct (E := { T := tab, G := [(85, spec_l1New_c), (103, spec_l1Once_c), (175, spec_l5Draw_c), (177, spec_l15Batch_fresh_c)], V := [13, 24] }) (EnvOk.views (EnvOk.cons spec_l1New_ct (EnvOk.cons spec_l1Once_ct (EnvOk.cons spec_l5Draw_ct (EnvOk.cons spec_l15Batch_fresh_ct (EnvOk.nil tabOk)))))) mixed (fn := Tryz.f72) _ _ _ _ _ .none Tryz.func72 (by kernel_rfl) (fun x => by kernel_rfl)
/-! loop.example/g00486/spec.BatchOk -/
def spec_BatchOk_l1 (a0 : (List T_Event.D)) : Int → Option (Int ⊕ (Int ⊕ Bool)) := fun s1 =>
 bif decide (s1 < (a0.length : Int)) then (
 idx a0 s1 fun x2 =>
(spec_EventOk x2).bind fun y3 =>
 bif (!y3) then (
 some (.inr (.inr false)))
else (
 some (.inl (IntKind.wrap .i64 (s1 + 1)))))
else (
 some (.inr (.inl s1)))
def spec_BatchOk (a0 : (List T_Event.D)) : Option Bool :=
(while_ (spec_BatchOk_l1 a0) 0).bind fun o4 =>
 match o4 with
| .inl s5 => (
 some (decide ((a0.length : Int) ≤ 4)))
| .inr o6 => (
 some o6)
def spec_BatchOk_h : Hints := (.node none none .none (.node none none (.node none none .none (.node none none (.node none (some ⟨[.tmp 3 (.int .i64)], [some 0], some [.tmp 2 .bool], []⟩) .none .none) .none)) .none))
def spec_BatchOk_c : Ct := .pure true false (.pair (.slice T_Event) .unit) .bool (fun x => spec_BatchOk x.1)
theorem spec_BatchOk_ct : CtOk Tryz.prog 78 spec_BatchOk_c := pure_ct (E := { T := tab, G := [(158, spec_EventOk_c)] }) (EnvOk.cons spec_EventOk_ct (EnvOk.nil tabOk)) mixed (fn := Tryz.f78) _ _ _ _ _ spec_BatchOk_h Tryz.func78 (by kernel_rfl) (fun x => by kernel_rfl)
/-! loop.example/g00486/spec.Join -/
def spec_Join (a0 : T_Fate.D) (a1 : T_Fate.D) : Option T_Fate.D :=
(spec_l15Copy a0).bind fun y1 =>
(spec_l15Copy a1).bind fun y2 =>
 if (y1.1.length + y2.1.length) * (24 * 7) ≤ room then (
 if (y1.2.2.2.1.length + y2.2.2.2.1.length) * (24 * 14) ≤ room then (
 some ((y1.1 ++ y2.1), y2.2.1, y2.2.2.1, (y1.2.2.2.1 ++ y2.2.2.2.1), ())) else none) else none
def spec_Join_c : Ct := .pure true false (.pair T_Fate (.pair T_Fate .unit)) T_Fate (fun x => spec_Join x.1 x.2.1)
theorem spec_Join_ct : CtOk Tryz.prog 76 spec_Join_c := pure_ct (E := { T := tab, G := [(173, spec_l15Copy_fresh_c)] }) (EnvOk.cons spec_l15Copy_fresh_ct (EnvOk.nil tabOk)) mixed (fn := Tryz.f76) _ _ _ _ _ .none Tryz.func76 (by kernel_rfl) (fun x => by kernel_rfl)
def spec_Join_fresh_c : Ct := .pure true true (.pair T_Fate (.pair T_Fate .unit)) T_Fate (fun x => spec_Join x.1 x.2.1)
theorem spec_Join_fresh_ct : CtOk Tryz.prog 76 spec_Join_fresh_c := pure_ct (E := { T := tab, G := [(173, spec_l15Copy_fresh_c)] }) (EnvOk.cons spec_l15Copy_fresh_ct (EnvOk.nil tabOk)) mixed (fn := Tryz.f76) _ _ _ _ _ .none Tryz.func76 (by kernel_rfl) (fun x => by kernel_rfl)
/-! loop.example/g00486/spec.RewriteAll -/
def spec_RewriteAll_l1 (a0 : T_State.D) (a2 : (List T_Event.D)) : (Int × ((List T_Event.D) × ((List T_Effect.D) × ((List Int) × ((List T_Turn.D) × Unit))))) → Option ((Int × ((List T_Event.D) × ((List T_Effect.D) × ((List Int) × ((List T_Turn.D) × Unit))))) ⊕ (Int × ((List T_Event.D) × ((List T_Effect.D) × ((List Int) × ((List T_Turn.D) × Unit)))))) := fun s7 =>
 bif decide (s7.1 < (a2.length : Int)) then (
 idx a2 s7.1 fun x8 =>
(spec_Rewrite a0 s7.2.2.1 x8 s7.2.2.2.1).bind fun y9 =>
(spec_Join s7.2 y9).bind fun y10 =>
 some (.inl (IntKind.wrap .i64 (s7.1 + 1), y10)))
else (
 some (.inr s7))
def spec_RewriteAll (a0 : T_State.D) (a1 : (List T_Effect.D)) (a2 : (List T_Event.D)) (a3 : (List Int)) : Option T_Fate.D :=
(spec_l15Copy ([], a1, a3, [], ())).bind fun y1 =>
(((spec_BatchOk a2).bind fun y2 =>
 bif (!y2) then (
 some true)
else (
(spec_StateOk a0).bind fun y3 =>
 bif (!y3) then (
 some true)
else (
(spec_TableOk a1).bind fun y4 =>
 some (!y4)))) : Option Bool).bind fun o5 =>
 bif o5 then (
 some y1)
else (
(while_ (spec_RewriteAll_l1 a0 a2) (0, y1)).bind fun o11 =>
 some o11.2)
def spec_RewriteAll_h : Hints := (.node none none .none (.node none none .none (.node none none (.node none none (.node (some ⟨[.tmp 28 .bool], [none], none, []⟩) none .none .none) .none) (.node none none (.node none none .none (.node none none (.node none (some ⟨[.tmp 10 (.int .i64), .boxO 9 0 1 T_Fate], [some 0], none, []⟩) .none .none) .none)) .none))))
def spec_RewriteAll_c : Ct := .pure true false (.pair T_State (.pair (.slice T_Effect) (.pair (.slice T_Event) (.pair (.slice (.int .i64)) .unit)))) T_Fate (fun x => spec_RewriteAll x.1 x.2.1 x.2.2.1 x.2.2.2.1)
theorem spec_RewriteAll_ct : CtOk Tryz.prog 63 spec_RewriteAll_c := pure_ct (E := { T := tab, G := [(47, spec_Rewrite_fresh_c), (76, spec_Join_fresh_c), (78, spec_BatchOk_c), (118, spec_StateOk_c), (119, spec_TableOk_c), (173, spec_l15Copy_fresh_c)] }) (EnvOk.cons spec_Rewrite_fresh_ct (EnvOk.cons spec_Join_fresh_ct (EnvOk.cons spec_BatchOk_ct (EnvOk.cons spec_StateOk_ct (EnvOk.cons spec_TableOk_ct (EnvOk.cons spec_l15Copy_fresh_ct (EnvOk.nil tabOk))))))) mixed (fn := Tryz.f63) _ _ _ _ _ spec_RewriteAll_h Tryz.func63 (by kernel_rfl) (fun x => by kernel_rfl)
def spec_RewriteAll_fresh_c : Ct := .pure true true (.pair T_State (.pair (.slice T_Effect) (.pair (.slice T_Event) (.pair (.slice (.int .i64)) .unit)))) T_Fate (fun x => spec_RewriteAll x.1 x.2.1 x.2.2.1 x.2.2.2.1)
theorem spec_RewriteAll_fresh_ct : CtOk Tryz.prog 63 spec_RewriteAll_fresh_c := pure_ct (E := { T := tab, G := [(47, spec_Rewrite_fresh_c), (76, spec_Join_fresh_c), (78, spec_BatchOk_c), (118, spec_StateOk_c), (119, spec_TableOk_c), (173, spec_l15Copy_fresh_c)] }) (EnvOk.cons spec_Rewrite_fresh_ct (EnvOk.cons spec_Join_fresh_ct (EnvOk.cons spec_BatchOk_ct (EnvOk.cons spec_StateOk_ct (EnvOk.cons spec_TableOk_ct (EnvOk.cons spec_l15Copy_fresh_ct (EnvOk.nil tabOk))))))) mixed (fn := Tryz.f63) _ _ _ _ _ spec_RewriteAll_h Tryz.func63 (by kernel_rfl) (fun x => by kernel_rfl)
/-! slices.Equal[[]loop.example/g00486/impl.Event,loop.example/g00486/impl.Event] -/
def slices_Equal_impl_Event_l1 (a0 : (List T_Event.D)) (a1 : (List T_Event.D)) : Int → Option (Int ⊕ (Int ⊕ Bool)) := fun s1 =>
 bif decide (s1 < (a0.length : Int)) then (
 idx a0 s1 fun x2 =>
 idx a1 s1 fun x3 =>
 bif (!((x2.1 == x3.1) && ((x2.2.1 == x3.2.1) && ((x2.2.2.1 == x3.2.2.1) && ((x2.2.2.2.1 == x3.2.2.2.1) && ((x2.2.2.2.2.1 == x3.2.2.2.2.1) && ((x2.2.2.2.2.2.1 == x3.2.2.2.2.2.1) && ((x2.2.2.2.2.2.2.1 == x3.2.2.2.2.2.2.1) && true)))))))) then (
 some (.inr (.inr false)))
else (
 some (.inl (IntKind.wrap .i64 (s1 + 1)))))
else (
 some (.inr (.inl s1)))
def slices_Equal_impl_Event (a0 : (List T_Event.D)) (a1 : (List T_Event.D)) : Option Bool :=
 bif ((a0.length : Int) != (a1.length : Int)) then (
 some false)
else (
(while_ (slices_Equal_impl_Event_l1 a0 a1) 0).bind fun o4 =>
 match o4 with
| .inl s5 => (
 some true)
| .inr o6 => (
 some o6))
def slices_Equal_impl_Event_h : Hints := (.node none none .none (.node none none .none (.node none none (.node none none .none (.node none none (.node none (some ⟨[.tmp 13 (.int .i64)], [some 0], some [.tmp 4 .bool], []⟩) .none .none) .none)) .none)))
def slices_Equal_impl_Event_c : Ct := .pure true false (.pair (.slice T_Event) (.pair (.slice T_Event) .unit)) .bool (fun x => slices_Equal_impl_Event x.1 x.2.1)
theorem slices_Equal_impl_Event_ct : CtOk Tryz.prog 185 slices_Equal_impl_Event_c := pure_ct (E := { T := tab, G := [] }) (EnvOk.nil tabOk) mixed (fn := Tryz.f185) _ _ _ _ _ slices_Equal_impl_Event_h Tryz.func185 (by kernel_rfl) (fun x => by kernel_rfl)
/-! loop.example/g00486/impl.SameEvents -/
def impl_SameEvents (a0 : (List T_Event.D)) (a1 : (List T_Event.D)) : Option Bool :=
(slices_Equal_impl_Event a0 a1).bind fun y1 =>
 some y1
def impl_SameEvents_c : Ct := .pure true false (.pair (.slice T_Event) (.pair (.slice T_Event) .unit)) .bool (fun x => impl_SameEvents x.1 x.2.1)
theorem impl_SameEvents_ct : CtOk Tryz.prog 79 impl_SameEvents_c := pure_ct (E := { T := tab, G := [(185, slices_Equal_impl_Event_c)] }) (EnvOk.cons slices_Equal_impl_Event_ct (EnvOk.nil tabOk)) mixed (fn := Tryz.f79) _ _ _ _ _ .none Tryz.func79 (by kernel_rfl) (fun x => by kernel_rfl)
/-! slices.EqualFunc[[]loop.example/g00486/impl.Effect,[]loop.example/g00486/impl.Effect,loop.example/g00486/impl.Effect,loop.example/g00486/impl.Effect] -/
def slices_EqualFunc_impl_Effect_l1 (a0 : (List T_Effect.D)) (a1 : (List T_Effect.D)) (a2 : ((T_Effect.D × (T_Effect.D × Unit)) → Option Bool)) : Int → Option (Int ⊕ (Int ⊕ Bool)) := fun s1 =>
 bif decide (s1 < (a0.length : Int)) then (
 idx a0 s1 fun x2 =>
 idx a1 s1 fun x3 =>
(a2 (x2, x3, ())).bind fun y4 =>
 bif (!y4) then (
 some (.inr (.inr false)))
else (
 some (.inl (IntKind.wrap .i64 (s1 + 1)))))
else (
 some (.inr (.inl s1)))
def slices_EqualFunc_impl_Effect (a0 : (List T_Effect.D)) (a1 : (List T_Effect.D)) (a2 : ((T_Effect.D × (T_Effect.D × Unit)) → Option Bool)) : Option Bool :=
 bif ((a0.length : Int) != (a1.length : Int)) then (
 some false)
else (
(while_ (slices_EqualFunc_impl_Effect_l1 a0 a1 a2) 0).bind fun o5 =>
 match o5 with
| .inl s6 => (
 some true)
| .inr o7 => (
 some o7))
def slices_EqualFunc_impl_Effect_h : Hints := (.node none none .none (.node none none .none (.node none none (.node none none .none (.node none none (.node none (some ⟨[.tmp 17 (.int .i64)], [some 0], some [.tmp 6 .bool], []⟩) .none .none) .none)) .none)))
def slices_EqualFunc_impl_Effect_c : Ct := .pure true false (.pair (.slice T_Effect) (.pair (.slice T_Effect) (.pair (.fn (.pair T_Effect (.pair T_Effect .unit)) .bool) .unit))) .bool (fun x => slices_EqualFunc_impl_Effect x.1 x.2.1 x.2.2.1)
theorem slices_EqualFunc_impl_Effect_ct : CtOk Tryz.prog 195 slices_EqualFunc_impl_Effect_c := pure_ct (E := { T := tab, G := [] }) (EnvOk.nil tabOk) mixed (fn := Tryz.f195) _ _ _ _ _ slices_EqualFunc_impl_Effect_h Tryz.func195 (by kernel_rfl) (fun x => by kernel_rfl)
/-! loop.example/g00486/impl.sameAct -/
def impl_sameAct (a0 : T_Act.D) (a1 : T_Act.D) : Option Bool :=
 bif (a0.1 == a1.1) then (
 bif (a0.2.1 == a1.2.1) then (
 bif (a0.2.2.1 == a1.2.2.1) then (
 bif (a0.2.2.2.1 == a1.2.2.2.1) then (
 bif (a0.2.2.2.2.1 == a1.2.2.2.2.1) then (
 bif (a0.2.2.2.2.2.1 == a1.2.2.2.2.2.1) then (
(slices_Equal_impl_Event a0.2.2.2.2.2.2.1 a1.2.2.2.2.2.2.1).bind fun y1 =>
 some y1)
else (
 some false))
else (
 some false))
else (
 some false))
else (
 some false))
else (
 some false))
else (
 some false)
def impl_sameAct_c : Ct := .pure true false (.pair T_Act (.pair T_Act .unit)) .bool (fun x => impl_sameAct x.1 x.2.1)
theorem impl_sameAct_ct : CtOk Tryz.prog 297 impl_sameAct_c := pure_ct (E := { T := tab, G := [(185, slices_Equal_impl_Event_c)] }) (EnvOk.cons slices_Equal_impl_Event_ct (EnvOk.nil tabOk)) mixed (fn := Tryz.f297) _ _ _ _ _ .none Tryz.func297 (by kernel_rfl) (fun x => by kernel_rfl)
/-! loop.example/g00486/impl.SameEffect -/
def impl_SameEffect (a0 : T_Effect.D) (a1 : T_Effect.D) : Option Bool :=
 bif (a0.1 == a1.1) then (
 bif (a0.2.1 == a1.2.1) then (
 bif (a0.2.2.1 == a1.2.2.1) then (
 bif (a0.2.2.2.1 == a1.2.2.2.1) then (
 bif ((a0.2.2.2.2.1.1 == a1.2.2.2.2.1.1) && ((a0.2.2.2.2.1.2.1 == a1.2.2.2.2.1.2.1) && ((a0.2.2.2.2.1.2.2.1 == a1.2.2.2.2.1.2.2.1) && ((a0.2.2.2.2.1.2.2.2.1 == a1.2.2.2.2.1.2.2.2.1) && ((a0.2.2.2.2.1.2.2.2.2.1 == a1.2.2.2.2.1.2.2.2.2.1) && ((a0.2.2.2.2.1.2.2.2.2.2.1 == a1.2.2.2.2.1.2.2.2.2.2.1) && ((a0.2.2.2.2.1.2.2.2.2.2.2.1 == a1.2.2.2.2.1.2.2.2.2.2.2.1) && true))))))) then (
 bif ((a0.2.2.2.2.2.1.1 == a1.2.2.2.2.2.1.1) && ((a0.2.2.2.2.2.1.2.1 == a1.2.2.2.2.2.1.2.1) && true)) then (
(impl_sameAct a0.2.2.2.2.2.2.1 a1.2.2.2.2.2.2.1).bind fun y1 =>
 bif y1 then (
 bif (a0.2.2.2.2.2.2.2.1 == a1.2.2.2.2.2.2.2.1) then (
 some (a0.2.2.2.2.2.2.2.2.1 == a1.2.2.2.2.2.2.2.2.1))
else (
 some false))
else (
 some false))
else (
 some false))
else (
 some false))
else (
 some false))
else (
 some false))
else (
 some false))
else (
 some false)
def impl_SameEffect_c : Ct := .pure true false (.pair T_Effect (.pair T_Effect .unit)) .bool (fun x => impl_SameEffect x.1 x.2.1)
theorem impl_SameEffect_ct : CtOk Tryz.prog 196 impl_SameEffect_c := pure_ct (E := { T := tab, G := [(297, impl_sameAct_c)] }) (EnvOk.cons impl_sameAct_ct (EnvOk.nil tabOk)) mixed (fn := Tryz.f196) _ _ _ _ _ .none Tryz.func196 (by kernel_rfl) (fun x => by kernel_rfl)
/-! loop.example/g00486/impl.SameTable -/
def impl_SameTable (a0 : (List T_Effect.D)) (a1 : (List T_Effect.D)) : Option Bool :=
(slices_EqualFunc_impl_Effect a0 a1 (fun q => impl_SameEffect q.1 q.2.1)).bind fun y1 =>
 some y1
def impl_SameTable_c : Ct := .pure true false (.pair (.slice T_Effect) (.pair (.slice T_Effect) .unit)) .bool (fun x => impl_SameTable x.1 x.2.1)
theorem impl_SameTable_ct : CtOk Tryz.prog 83 impl_SameTable_c := pure_ct (E := { T := tab, G := [(195, slices_EqualFunc_impl_Effect_c), (196, impl_SameEffect_c)] }) (EnvOk.cons slices_EqualFunc_impl_Effect_ct (EnvOk.cons impl_SameEffect_ct (EnvOk.nil tabOk))) mixed (fn := Tryz.f83) _ _ _ _ _ .none Tryz.func83 (by kernel_rfl) (fun x => by kernel_rfl)
/-! slices.Equal[[]int,int] -/
def slices_Equal_int_l1 (a0 : (List Int)) (a1 : (List Int)) : Int → Option (Int ⊕ (Int ⊕ Bool)) := fun s1 =>
 bif decide (s1 < (a0.length : Int)) then (
 idx a0 s1 fun x2 =>
 idx a1 s1 fun x3 =>
 bif (x2 != x3) then (
 some (.inr (.inr false)))
else (
 some (.inl (IntKind.wrap .i64 (s1 + 1)))))
else (
 some (.inr (.inl s1)))
def slices_Equal_int (a0 : (List Int)) (a1 : (List Int)) : Option Bool :=
 bif ((a0.length : Int) != (a1.length : Int)) then (
 some false)
else (
(while_ (slices_Equal_int_l1 a0 a1) 0).bind fun o4 =>
 match o4 with
| .inl s5 => (
 some true)
| .inr o6 => (
 some o6))
def slices_Equal_int_h : Hints := (.node none none .none (.node none none .none (.node none none (.node none none .none (.node none none (.node none (some ⟨[.tmp 13 (.int .i64)], [some 0], some [.tmp 4 .bool], []⟩) .none .none) .none)) .none)))
def slices_Equal_int_c : Ct := .pure true false (.pair (.slice (.int .i64)) (.pair (.slice (.int .i64)) .unit)) .bool (fun x => slices_Equal_int x.1 x.2.1)
theorem slices_Equal_int_ct : CtOk Tryz.prog 105 slices_Equal_int_c := pure_ct (E := { T := tab, G := [] }) (EnvOk.nil tabOk) mixed (fn := Tryz.f105) _ _ _ _ _ slices_Equal_int_h Tryz.func105 (by kernel_rfl) (fun x => by kernel_rfl)
/-! slices.EqualFunc[[]loop.example/g00486/impl.Turn,[]loop.example/g00486/impl.Turn,loop.example/g00486/impl.Turn,loop.example/g00486/impl.Turn] -/
def slices_EqualFunc_impl_Turn_l1 (a0 : (List T_Turn.D)) (a1 : (List T_Turn.D)) (a2 : ((T_Turn.D × (T_Turn.D × Unit)) → Option Bool)) : Int → Option (Int ⊕ (Int ⊕ Bool)) := fun s1 =>
 bif decide (s1 < (a0.length : Int)) then (
 idx a0 s1 fun x2 =>
 idx a1 s1 fun x3 =>
(a2 (x2, x3, ())).bind fun y4 =>
 bif (!y4) then (
 some (.inr (.inr false)))
else (
 some (.inl (IntKind.wrap .i64 (s1 + 1)))))
else (
 some (.inr (.inl s1)))
def slices_EqualFunc_impl_Turn (a0 : (List T_Turn.D)) (a1 : (List T_Turn.D)) (a2 : ((T_Turn.D × (T_Turn.D × Unit)) → Option Bool)) : Option Bool :=
 bif ((a0.length : Int) != (a1.length : Int)) then (
 some false)
else (
(while_ (slices_EqualFunc_impl_Turn_l1 a0 a1 a2) 0).bind fun o5 =>
 match o5 with
| .inl s6 => (
 some true)
| .inr o7 => (
 some o7))
def slices_EqualFunc_impl_Turn_h : Hints := (.node none none .none (.node none none .none (.node none none (.node none none .none (.node none none (.node none (some ⟨[.tmp 17 (.int .i64)], [some 0], some [.tmp 6 .bool], []⟩) .none .none) .none)) .none)))
def slices_EqualFunc_impl_Turn_c : Ct := .pure true false (.pair (.slice T_Turn) (.pair (.slice T_Turn) (.pair (.fn (.pair T_Turn (.pair T_Turn .unit)) .bool) .unit))) .bool (fun x => slices_EqualFunc_impl_Turn x.1 x.2.1 x.2.2.1)
theorem slices_EqualFunc_impl_Turn_ct : CtOk Tryz.prog 106 slices_EqualFunc_impl_Turn_c := pure_ct (E := { T := tab, G := [] }) (EnvOk.nil tabOk) mixed (fn := Tryz.f106) _ _ _ _ _ slices_EqualFunc_impl_Turn_h Tryz.func106 (by kernel_rfl) (fun x => by kernel_rfl)
/-! loop.example/g00486/impl.SameTurn -/
def impl_SameTurn (a0 : T_Turn.D) (a1 : T_Turn.D) : Option Bool :=
 bif (a0.1 == a1.1) then (
 bif (a0.2.1 == a1.2.1) then (
 bif (a0.2.2.1 == a1.2.2.1) then (
 bif (a0.2.2.2.1 == a1.2.2.2.1) then (
 bif ((a0.2.2.2.2.1.1 == a1.2.2.2.2.1.1) && ((a0.2.2.2.2.1.2.1 == a1.2.2.2.2.1.2.1) && ((a0.2.2.2.2.1.2.2.1 == a1.2.2.2.2.1.2.2.1) && ((a0.2.2.2.2.1.2.2.2.1 == a1.2.2.2.2.1.2.2.2.1) && ((a0.2.2.2.2.1.2.2.2.2.1 == a1.2.2.2.2.1.2.2.2.2.1) && ((a0.2.2.2.2.1.2.2.2.2.2.1 == a1.2.2.2.2.1.2.2.2.2.2.1) && ((a0.2.2.2.2.1.2.2.2.2.2.2.1 == a1.2.2.2.2.1.2.2.2.2.2.2.1) && true))))))) then (
(slices_Equal_impl_Event a0.2.2.2.2.2.1 a1.2.2.2.2.2.1).bind fun y1 =>
 bif y1 then (
 bif (a0.2.2.2.2.2.2.1 == a1.2.2.2.2.2.2.1) then (
 some (a0.2.2.2.2.2.2.2.1 == a1.2.2.2.2.2.2.2.1))
else (
 some false))
else (
 some false))
else (
 some false))
else (
 some false))
else (
 some false))
else (
 some false))
else (
 some false)
def impl_SameTurn_c : Ct := .pure true false (.pair T_Turn (.pair T_Turn .unit)) .bool (fun x => impl_SameTurn x.1 x.2.1)
theorem impl_SameTurn_ct : CtOk Tryz.prog 107 impl_SameTurn_c := pure_ct (E := { T := tab, G := [(185, slices_Equal_impl_Event_c)] }) (EnvOk.cons slices_Equal_impl_Event_ct (EnvOk.nil tabOk)) mixed (fn := Tryz.f107) _ _ _ _ _ .none Tryz.func107 (by kernel_rfl) (fun x => by kernel_rfl)
/-! loop.example/g00486/impl.SameFate -/
def impl_SameFate (a0 : T_Fate.D) (a1 : T_Fate.D) : Option Bool :=
(impl_SameEvents a0.1 a1.1).bind fun y1 =>
 bif y1 then (
(impl_SameTable a0.2.1 a1.2.1).bind fun y2 =>
 bif y2 then (
(slices_Equal_int a0.2.2.1 a1.2.2.1).bind fun y3 =>
 bif y3 then (
(slices_EqualFunc_impl_Turn a0.2.2.2.1 a1.2.2.2.1 (fun q => impl_SameTurn q.1 q.2.1)).bind fun y4 =>
 some y4)
else (
 some false))
else (
 some false))
else (
 some false)
def impl_SameFate_c : Ct := .pure true false (.pair T_Fate (.pair T_Fate .unit)) .bool (fun x => impl_SameFate x.1 x.2.1)
theorem impl_SameFate_ct : CtOk Tryz.prog 73 impl_SameFate_c := pure_ct (E := { T := tab, G := [(79, impl_SameEvents_c), (83, impl_SameTable_c), (105, slices_Equal_int_c), (106, slices_EqualFunc_impl_Turn_c), (107, impl_SameTurn_c)] }) (EnvOk.cons impl_SameEvents_ct (EnvOk.cons impl_SameTable_ct (EnvOk.cons slices_Equal_int_ct (EnvOk.cons slices_EqualFunc_impl_Turn_ct (EnvOk.cons impl_SameTurn_ct (EnvOk.nil tabOk)))))) mixed (fn := Tryz.f73) _ _ _ _ _ .none Tryz.func73 (by kernel_rfl) (fun x => by kernel_rfl)
/-! loop.example/g00486/spec.SameEvents -/
def spec_SameEvents_l1 (a0 : (List T_Event.D)) (a1 : (List T_Event.D)) : Int → Option (Int ⊕ (Int ⊕ Bool)) := fun s1 =>
 bif decide (s1 < (a0.length : Int)) then (
 idx a0 s1 fun x2 =>
 idx a1 s1 fun x3 =>
 bif (!((x2.1 == x3.1) && ((x2.2.1 == x3.2.1) && ((x2.2.2.1 == x3.2.2.1) && ((x2.2.2.2.1 == x3.2.2.2.1) && ((x2.2.2.2.2.1 == x3.2.2.2.2.1) && ((x2.2.2.2.2.2.1 == x3.2.2.2.2.2.1) && ((x2.2.2.2.2.2.2.1 == x3.2.2.2.2.2.2.1) && true)))))))) then (
 some (.inr (.inr false)))
else (
 some (.inl (IntKind.wrap .i64 (s1 + 1)))))
else (
 some (.inr (.inl s1)))
def spec_SameEvents (a0 : (List T_Event.D)) (a1 : (List T_Event.D)) : Option Bool :=
 bif ((a0.length : Int) != (a1.length : Int)) then (
 some false)
else (
(while_ (spec_SameEvents_l1 a0 a1) 0).bind fun o4 =>
 match o4 with
| .inl s5 => (
 some true)
| .inr o6 => (
 some o6))
def spec_SameEvents_h : Hints := (.node none none .none (.node none none .none (.node none none (.node none none .none (.node none none (.node none (some ⟨[.tmp 5 (.int .i64)], [some 0], some [.tmp 4 .bool], []⟩) .none .none) .none)) .none)))
def spec_SameEvents_c : Ct := .pure true false (.pair (.slice T_Event) (.pair (.slice T_Event) .unit)) .bool (fun x => spec_SameEvents x.1 x.2.1)
theorem spec_SameEvents_ct : CtOk Tryz.prog 80 spec_SameEvents_c := pure_ct (E := { T := tab, G := [] }) (EnvOk.nil tabOk) mixed (fn := Tryz.f80) _ _ _ _ _ spec_SameEvents_h Tryz.func80 (by kernel_rfl) (fun x => by kernel_rfl)
/-! loop.example/g00486/spec.SameEffect -/
def spec_SameEffect_l1 (a0 : T_Effect.D) (a1 : T_Effect.D) : Int → Option (Int ⊕ (Int ⊕ Bool)) := fun s3 =>
 bif decide (s3 < (a0.2.2.2.2.2.2.1.2.2.2.2.2.2.1.length : Int)) then (
 idx a0.2.2.2.2.2.2.1.2.2.2.2.2.2.1 s3 fun x4 =>
 idx a1.2.2.2.2.2.2.1.2.2.2.2.2.2.1 s3 fun x5 =>
 bif (!((x4.1 == x5.1) && ((x4.2.1 == x5.2.1) && ((x4.2.2.1 == x5.2.2.1) && ((x4.2.2.2.1 == x5.2.2.2.1) && ((x4.2.2.2.2.1 == x5.2.2.2.2.1) && ((x4.2.2.2.2.2.1 == x5.2.2.2.2.2.1) && ((x4.2.2.2.2.2.2.1 == x5.2.2.2.2.2.2.1) && true)))))))) then (
 some (.inr (.inr false)))
else (
 some (.inl (IntKind.wrap .i64 (s3 + 1)))))
else (
 some (.inr (.inl s3)))
def spec_SameEffect (a0 : T_Effect.D) (a1 : T_Effect.D) : Option Bool :=
((bif (a0.1 != a1.1) then (
 some true)
else (
 bif (a0.2.1 != a1.2.1) then (
 some true)
else (
 bif (a0.2.2.1 != a1.2.2.1) then (
 some true)
else (
 bif (a0.2.2.2.1 != a1.2.2.2.1) then (
 some true)
else (
 bif (!((a0.2.2.2.2.1.1 == a1.2.2.2.2.1.1) && ((a0.2.2.2.2.1.2.1 == a1.2.2.2.2.1.2.1) && ((a0.2.2.2.2.1.2.2.1 == a1.2.2.2.2.1.2.2.1) && ((a0.2.2.2.2.1.2.2.2.1 == a1.2.2.2.2.1.2.2.2.1) && ((a0.2.2.2.2.1.2.2.2.2.1 == a1.2.2.2.2.1.2.2.2.2.1) && ((a0.2.2.2.2.1.2.2.2.2.2.1 == a1.2.2.2.2.1.2.2.2.2.2.1) && ((a0.2.2.2.2.1.2.2.2.2.2.2.1 == a1.2.2.2.2.1.2.2.2.2.2.2.1) && true)))))))) then (
 some true)
else (
 bif (!((a0.2.2.2.2.2.1.1 == a1.2.2.2.2.2.1.1) && ((a0.2.2.2.2.2.1.2.1 == a1.2.2.2.2.2.1.2.1) && true))) then (
 some true)
else (
 bif (a0.2.2.2.2.2.2.2.1 != a1.2.2.2.2.2.2.2.1) then (
 some true)
else (
 some (a0.2.2.2.2.2.2.2.2.1 != a1.2.2.2.2.2.2.2.2.1))))))))) : Option Bool).bind fun o1 =>
 bif o1 then (
 some false)
else (
((bif (a0.2.2.2.2.2.2.1.1 != a1.2.2.2.2.2.2.1.1) then (
 some true)
else (
 bif (a0.2.2.2.2.2.2.1.2.1 != a1.2.2.2.2.2.2.1.2.1) then (
 some true)
else (
 bif (a0.2.2.2.2.2.2.1.2.2.1 != a1.2.2.2.2.2.2.1.2.2.1) then (
 some true)
else (
 bif (a0.2.2.2.2.2.2.1.2.2.2.1 != a1.2.2.2.2.2.2.1.2.2.2.1) then (
 some true)
else (
 bif (a0.2.2.2.2.2.2.1.2.2.2.2.1 != a1.2.2.2.2.2.2.1.2.2.2.2.1) then (
 some true)
else (
 bif (a0.2.2.2.2.2.2.1.2.2.2.2.2.1 != a1.2.2.2.2.2.2.1.2.2.2.2.2.1) then (
 some true)
else (
 some ((a0.2.2.2.2.2.2.1.2.2.2.2.2.2.1.length : Int) != (a1.2.2.2.2.2.2.1.2.2.2.2.2.2.1.length : Int))))))))) : Option Bool).bind fun o2 =>
 bif o2 then (
 some false)
else (
(while_ (spec_SameEffect_l1 a0 a1) 0).bind fun o6 =>
 match o6 with
| .inl s7 => (
 some true)
| .inr o8 => (
 some o8)))
def spec_SameEffect_h : Hints := (.node none none .none (.node none none (.node none none (.node (some ⟨[.tmp 61 .bool], [none], none, []⟩) none .none .none) .none) (.node none none .none (.node none none .none (.node none none (.node none none (.node (some ⟨[.tmp 114 .bool], [none], none, []⟩) none .none .none) .none) (.node none none (.node none none .none (.node none none (.node none (some ⟨[.tmp 7 (.int .i64)], [some 0], some [.tmp 4 .bool], []⟩) .none .none) .none)) .none))))))
def spec_SameEffect_c : Ct := .pure true false (.pair T_Effect (.pair T_Effect .unit)) .bool (fun x => spec_SameEffect x.1 x.2.1)
theorem spec_SameEffect_ct : CtOk Tryz.prog 233 spec_SameEffect_c := pure_ct (E := { T := tab, G := [] }) (EnvOk.nil tabOk) mixed (fn := Tryz.f233) _ _ _ _ _ spec_SameEffect_h Tryz.func233 (by kernel_rfl) (fun x => by kernel_rfl)
/-! loop.example/g00486/spec.SameTable -/
def spec_SameTable_l1 (a0 : (List T_Effect.D)) (a1 : (List T_Effect.D)) : Int → Option (Int ⊕ (Int ⊕ Bool)) := fun s1 =>
 bif decide (s1 < (a0.length : Int)) then (
 idx a0 s1 fun x2 =>
 idx a1 s1 fun x3 =>
(spec_SameEffect x2 x3).bind fun y4 =>
 bif (!y4) then (
 some (.inr (.inr false)))
else (
 some (.inl (IntKind.wrap .i64 (s1 + 1)))))
else (
 some (.inr (.inl s1)))
def spec_SameTable (a0 : (List T_Effect.D)) (a1 : (List T_Effect.D)) : Option Bool :=
 bif ((a0.length : Int) != (a1.length : Int)) then (
 some false)
else (
(while_ (spec_SameTable_l1 a0 a1) 0).bind fun o5 =>
 match o5 with
| .inl s6 => (
 some true)
| .inr o7 => (
 some o7))
def spec_SameTable_h : Hints := (.node none none .none (.node none none .none (.node none none (.node none none .none (.node none none (.node none (some ⟨[.tmp 5 (.int .i64)], [some 0], some [.tmp 4 .bool], []⟩) .none .none) .none)) .none)))
def spec_SameTable_c : Ct := .pure true false (.pair (.slice T_Effect) (.pair (.slice T_Effect) .unit)) .bool (fun x => spec_SameTable x.1 x.2.1)
theorem spec_SameTable_ct : CtOk Tryz.prog 109 spec_SameTable_c := pure_ct (E := { T := tab, G := [(233, spec_SameEffect_c)] }) (EnvOk.cons spec_SameEffect_ct (EnvOk.nil tabOk)) mixed (fn := Tryz.f109) _ _ _ _ _ spec_SameTable_h Tryz.func109 (by kernel_rfl) (fun x => by kernel_rfl)
/-! loop.example/g00486/spec.l15SameInts -/
def spec_l15SameInts_l1 (a0 : (List Int)) (a1 : (List Int)) : Int → Option (Int ⊕ (Int ⊕ Bool)) := fun s1 =>
 bif decide (s1 < (a0.length : Int)) then (
 idx a0 s1 fun x2 =>
 idx a1 s1 fun x3 =>
 bif (x2 != x3) then (
 some (.inr (.inr false)))
else (
 some (.inl (IntKind.wrap .i64 (s1 + 1)))))
else (
 some (.inr (.inl s1)))
def spec_l15SameInts (a0 : (List Int)) (a1 : (List Int)) : Option Bool :=
 bif ((a0.length : Int) != (a1.length : Int)) then (
 some false)
else (
(while_ (spec_l15SameInts_l1 a0 a1) 0).bind fun o4 =>
 match o4 with
| .inl s5 => (
 some true)
| .inr o6 => (
 some o6))
def spec_l15SameInts_h : Hints := (.node none none .none (.node none none .none (.node none none (.node none none .none (.node none none (.node none (some ⟨[.tmp 5 (.int .i64)], [some 0], some [.tmp 4 .bool], []⟩) .none .none) .none)) .none)))
def spec_l15SameInts_c : Ct := .pure true false (.pair (.slice (.int .i64)) (.pair (.slice (.int .i64)) .unit)) .bool (fun x => spec_l15SameInts x.1 x.2.1)
theorem spec_l15SameInts_ct : CtOk Tryz.prog 110 spec_l15SameInts_c := pure_ct (E := { T := tab, G := [] }) (EnvOk.nil tabOk) mixed (fn := Tryz.f110) _ _ _ _ _ spec_l15SameInts_h Tryz.func110 (by kernel_rfl) (fun x => by kernel_rfl)
/-! loop.example/g00486/spec.SameTurn -/
def spec_SameTurn_l1 (a0 : T_Turn.D) (a1 : T_Turn.D) : Int → Option (Int ⊕ (Int ⊕ Bool)) := fun s2 =>
 bif decide (s2 < (a0.2.2.2.2.2.1.length : Int)) then (
 idx a0.2.2.2.2.2.1 s2 fun x3 =>
 idx a1.2.2.2.2.2.1 s2 fun x4 =>
 bif (!((x3.1 == x4.1) && ((x3.2.1 == x4.2.1) && ((x3.2.2.1 == x4.2.2.1) && ((x3.2.2.2.1 == x4.2.2.2.1) && ((x3.2.2.2.2.1 == x4.2.2.2.2.1) && ((x3.2.2.2.2.2.1 == x4.2.2.2.2.2.1) && ((x3.2.2.2.2.2.2.1 == x4.2.2.2.2.2.2.1) && true)))))))) then (
 some (.inr (.inr false)))
else (
 some (.inl (IntKind.wrap .i64 (s2 + 1)))))
else (
 some (.inr (.inl s2)))
def spec_SameTurn (a0 : T_Turn.D) (a1 : T_Turn.D) : Option Bool :=
((bif (a0.1 != a1.1) then (
 some true)
else (
 bif (a0.2.1 != a1.2.1) then (
 some true)
else (
 bif (a0.2.2.1 != a1.2.2.1) then (
 some true)
else (
 bif (a0.2.2.2.1 != a1.2.2.2.1) then (
 some true)
else (
 bif (!((a0.2.2.2.2.1.1 == a1.2.2.2.2.1.1) && ((a0.2.2.2.2.1.2.1 == a1.2.2.2.2.1.2.1) && ((a0.2.2.2.2.1.2.2.1 == a1.2.2.2.2.1.2.2.1) && ((a0.2.2.2.2.1.2.2.2.1 == a1.2.2.2.2.1.2.2.2.1) && ((a0.2.2.2.2.1.2.2.2.2.1 == a1.2.2.2.2.1.2.2.2.2.1) && ((a0.2.2.2.2.1.2.2.2.2.2.1 == a1.2.2.2.2.1.2.2.2.2.2.1) && ((a0.2.2.2.2.1.2.2.2.2.2.2.1 == a1.2.2.2.2.1.2.2.2.2.2.2.1) && true)))))))) then (
 some true)
else (
 bif (a0.2.2.2.2.2.2.1 != a1.2.2.2.2.2.2.1) then (
 some true)
else (
 bif (a0.2.2.2.2.2.2.2.1 != a1.2.2.2.2.2.2.2.1) then (
 some true)
else (
 some ((a0.2.2.2.2.2.1.length : Int) != (a1.2.2.2.2.2.1.length : Int)))))))))) : Option Bool).bind fun o1 =>
 bif o1 then (
 some false)
else (
(while_ (spec_SameTurn_l1 a0 a1) 0).bind fun o5 =>
 match o5 with
| .inl s6 => (
 some true)
| .inr o7 => (
 some o7))
def spec_SameTurn_h : Hints := (.node none none .none (.node none none (.node none none (.node (some ⟨[.tmp 61 .bool], [none], none, []⟩) none .none .none) .none) (.node none none (.node none none .none (.node none none (.node none (some ⟨[.tmp 5 (.int .i64)], [some 0], some [.tmp 4 .bool], []⟩) .none .none) .none)) .none)))
def spec_SameTurn_c : Ct := .pure true false (.pair T_Turn (.pair T_Turn .unit)) .bool (fun x => spec_SameTurn x.1 x.2.1)
theorem spec_SameTurn_ct : CtOk Tryz.prog 234 spec_SameTurn_c := pure_ct (E := { T := tab, G := [] }) (EnvOk.nil tabOk) mixed (fn := Tryz.f234) _ _ _ _ _ spec_SameTurn_h Tryz.func234 (by kernel_rfl) (fun x => by kernel_rfl)
/-! loop.example/g00486/spec.l15SameTurns -/
def spec_l15SameTurns_l1 (a0 : (List T_Turn.D)) (a1 : (List T_Turn.D)) : Int → Option (Int ⊕ (Int ⊕ Bool)) := fun s1 =>
 bif decide (s1 < (a0.length : Int)) then (
 idx a0 s1 fun x2 =>
 idx a1 s1 fun x3 =>
(spec_SameTurn x2 x3).bind fun y4 =>
 bif (!y4) then (
 some (.inr (.inr false)))
else (
 some (.inl (IntKind.wrap .i64 (s1 + 1)))))
else (
 some (.inr (.inl s1)))
def spec_l15SameTurns (a0 : (List T_Turn.D)) (a1 : (List T_Turn.D)) : Option Bool :=
 bif ((a0.length : Int) != (a1.length : Int)) then (
 some false)
else (
(while_ (spec_l15SameTurns_l1 a0 a1) 0).bind fun o5 =>
 match o5 with
| .inl s6 => (
 some true)
| .inr o7 => (
 some o7))
def spec_l15SameTurns_h : Hints := (.node none none .none (.node none none .none (.node none none (.node none none .none (.node none none (.node none (some ⟨[.tmp 5 (.int .i64)], [some 0], some [.tmp 4 .bool], []⟩) .none .none) .none)) .none)))
def spec_l15SameTurns_c : Ct := .pure true false (.pair (.slice T_Turn) (.pair (.slice T_Turn) .unit)) .bool (fun x => spec_l15SameTurns x.1 x.2.1)
theorem spec_l15SameTurns_ct : CtOk Tryz.prog 113 spec_l15SameTurns_c := pure_ct (E := { T := tab, G := [(234, spec_SameTurn_c)] }) (EnvOk.cons spec_SameTurn_ct (EnvOk.nil tabOk)) mixed (fn := Tryz.f113) _ _ _ _ _ spec_l15SameTurns_h Tryz.func113 (by kernel_rfl) (fun x => by kernel_rfl)
/-! loop.example/g00486/spec.SameFate -/
def spec_SameFate (a0 : T_Fate.D) (a1 : T_Fate.D) : Option Bool :=
(spec_SameEvents a0.1 a1.1).bind fun y1 =>
 bif y1 then (
(spec_SameTable a0.2.1 a1.2.1).bind fun y2 =>
 bif y2 then (
(spec_l15SameInts a0.2.2.1 a1.2.2.1).bind fun y3 =>
 bif y3 then (
(spec_l15SameTurns a0.2.2.2.1 a1.2.2.2.1).bind fun y4 =>
 some y4)
else (
 some false))
else (
 some false))
else (
 some false)
def spec_SameFate_c : Ct := .pure true false (.pair T_Fate (.pair T_Fate .unit)) .bool (fun x => spec_SameFate x.1 x.2.1)
theorem spec_SameFate_ct : CtOk Tryz.prog 74 spec_SameFate_c := pure_ct (E := { T := tab, G := [(80, spec_SameEvents_c), (109, spec_SameTable_c), (110, spec_l15SameInts_c), (113, spec_l15SameTurns_c)] }) (EnvOk.cons spec_SameEvents_ct (EnvOk.cons spec_SameTable_ct (EnvOk.cons spec_l15SameInts_ct (EnvOk.cons spec_l15SameTurns_ct (EnvOk.nil tabOk))))) mixed (fn := Tryz.f74) _ _ _ _ _ .none Tryz.func74 (by kernel_rfl) (fun x => by kernel_rfl)
/-! loop.example/g00486/laws.sameInts -/
def laws_sameInts_l1 (a0 : (List Int)) (a1 : (List Int)) : Int → Option (Int ⊕ (Int ⊕ Bool)) := fun s1 =>
 bif decide (s1 < (a0.length : Int)) then (
 idx a0 s1 fun x2 =>
 idx a1 s1 fun x3 =>
 bif (x2 != x3) then (
 some (.inr (.inr false)))
else (
 some (.inl (IntKind.wrap .i64 (s1 + 1)))))
else (
 some (.inr (.inl s1)))
def laws_sameInts (a0 : (List Int)) (a1 : (List Int)) : Option Bool :=
 bif ((a0.length : Int) != (a1.length : Int)) then (
 some false)
else (
(while_ (laws_sameInts_l1 a0 a1) 0).bind fun o4 =>
 match o4 with
| .inl s5 => (
 some true)
| .inr o6 => (
 some o6))
def laws_sameInts_h : Hints := (.node none none .none (.node none none .none (.node none none (.node none none .none (.node none none (.node none (some ⟨[.tmp 5 (.int .i64)], [some 0], some [.tmp 4 .bool], []⟩) .none .none) .none)) .none)))
def laws_sameInts_c : Ct := .pure true false (.pair (.slice (.int .i64)) (.pair (.slice (.int .i64)) .unit)) .bool (fun x => laws_sameInts x.1 x.2.1)
theorem laws_sameInts_ct : CtOk Tryz.prog 84 laws_sameInts_c := pure_ct (E := { T := tab, G := [] }) (EnvOk.nil tabOk) mixed (fn := Tryz.f84) _ _ _ _ _ laws_sameInts_h Tryz.func84 (by kernel_rfl) (fun x => by kernel_rfl)
/-! loop.example/g00486/laws.at -/
def laws_at (a0 : (List Int)) (a1 : Int) : Option Int :=
 bif decide (a1 < (a0.length : Int)) then (
 idx a0 a1 fun x1 =>
 some (IntKind.wrap .i64 x1))
else (
 let k2 : Int := IntKind.wrap .i64 ((IntKind.wrap .i64 (a1 * 31)) + (IntKind.wrap .i64 ((a0.length : Int) * 7)))
 if 256 = 0 then none else (
 some (k2.tmod 256)))
def laws_at_c : Ct := .pure true false (.pair (.slice (.int .u8)) (.pair (.int .i64) .unit)) (.int .i64) (fun x => laws_at x.1 x.2.1)
theorem laws_at_ct : CtOk Tryz.prog 41 laws_at_c := pure_ct (E := { T := tab, G := [] }) (EnvOk.nil tabOk) mixed (fn := Tryz.f41) _ _ _ _ _ .none Tryz.func41 (by kernel_rfl) (fun x => by kernel_rfl)
/-! loop.example/g00486/laws.FnBatches -/
def laws_FnBatches (a0 : (List Int)) : Option Bool :=
(laws_big a0).bind fun y1 =>
 bif y1 then (
 some true)
else (
(spec_DrawRewriteAll a0).bind fun y2 =>
(impl_RewriteAll y2.1 y2.2.1 y2.2.2.1 y2.2.2.2.1).bind fun y3 =>
(spec_DrawSameFate a0).bind fun y4 =>
(spec_DrawJoin a0).bind fun y5 =>
(spec_DrawBatchOk a0).bind fun y6 =>
(spec_DrawSameEvents a0).bind fun y7 =>
(((spec_RewriteAll y2.1 y2.2.1 y2.2.2.1 y2.2.2.2.1).bind fun y8 =>
(impl_SameFate y3 y8).bind fun y9 =>
 bif (!y9) then (
 some true)
else (
(impl_SameFate y4.1 y4.2.1).bind fun y10 =>
(spec_SameFate y4.1 y4.2.1).bind fun y11 =>
 bif (y10 != y11) then (
 some true)
else (
(impl_Join y5.1 y5.2.1).bind fun y12 =>
(spec_Join y5.1 y5.2.1).bind fun y13 =>
(impl_SameFate y12 y13).bind fun y14 =>
 bif (!y14) then (
 some true)
else (
(impl_BatchOk y6).bind fun y15 =>
(spec_BatchOk y6).bind fun y16 =>
 bif (y15 != y16) then (
 some true)
else (
(impl_SameEvents y7.1 y7.2.1).bind fun y17 =>
(spec_SameEvents y7.1 y7.2.1).bind fun y18 =>
 some (y17 != y18)))))) : Option Bool).bind fun o19 =>
 bif o19 then (
 some false)
else (
(((impl_BatchOk y2.2.2.1).bind fun y20 =>
 bif (!y20) then (
 some true)
else (
(impl_StateOk y2.1).bind fun y21 =>
 bif (!y21) then (
 some true)
else (
(impl_TableOk y2.2.1).bind fun y22 =>
 some (!y22)))) : Option Bool).bind fun o23 =>
 bif o23 then (
((bif ((y3.1.length : Int) == 0) then (
 bif ((y3.2.2.2.1.length : Int) == 0) then (
(impl_SameTable y3.2.1 y2.2.1).bind fun y24 =>
 bif y24 then (
(laws_sameInts y3.2.2.1 y2.2.2.2.1).bind fun y25 =>
 some y25)
else (
 some false))
else (
 some false))
else (
 some false)) : Option Bool).bind fun o26 =>
 some o26)
else (
((bif decide ((y2.2.2.1.length : Int) > 0) then (
(laws_at a0 2).bind fun y27 =>
 if (IntKind.wrap .i64 ((y2.2.2.1.length : Int) + 1)) = 0 then none else (
 some (y27.tmod (IntKind.wrap .i64 ((y2.2.2.1.length : Int) + 1)))))
else (
 some 0)) : Option Int).bind fun o28 =>
 if 0 ≤ (0 : Int) then (if (0 : Int) ≤ o28 then (if o28 ≤ (y2.2.2.1.length : Int) then (
(impl_RewriteAll y2.1 y2.2.1 ((y2.2.2.1.take o28.toNat).drop (0 : Int).toNat) y2.2.2.2.1).bind fun y29 =>
 if 0 ≤ o28 then (if o28 ≤ (y2.2.2.1.length : Int) then (if (y2.2.2.1.length : Int) ≤ (y2.2.2.1.length : Int) then (
(impl_RewriteAll y2.1 y29.2.1 ((y2.2.2.1.take (y2.2.2.1.length : Int).toNat).drop o28.toNat) y29.2.2.1).bind fun y30 =>
(impl_Join y29 y30).bind fun y31 =>
(impl_SameFate y3 y31).bind fun y32 =>
 some y32) else none) else none) else none) else none) else none) else none)))
def laws_FnBatches_h : Hints := (.node none none .none (.node none none .none (.node none none .none (.node none none .none (.node none none .none (.node none none .none (.node none none .none (.node none none .none (.node none none (.node none none (.node (some ⟨[.tmp 91 .bool], [none], none, []⟩) none .none .none) .none) (.node none none (.node none none (.node (some ⟨[.tmp 104 .bool], [none], none, []⟩) none .none .none) (.node none none (.node none none (.node (some ⟨[.tmp 2 .bool], [none], none, []⟩) none .none .none) .none) .none)) (.node none none .none (.node none none (.node none none .none (.node (some ⟨[.tmp 15 (.int .i64)], [none], none, []⟩) none .none .none)) .none))))))))))))
def laws_FnBatches_c : Ct := .pure true false (.pair (.slice (.int .u8)) .unit) .bool (fun x => laws_FnBatches x.1)
theorem laws_FnBatches_ct : CtOk Tryz.prog 9 laws_FnBatches_c := pure_ct (E := { T := tab, G := [(10, laws_big_c), (41, laws_at_c), (63, spec_RewriteAll_fresh_c), (65, impl_RewriteAll_fresh_c), (68, spec_DrawRewriteAll_c), (69, spec_DrawSameFate_fresh_c), (70, spec_DrawJoin_c), (71, spec_DrawBatchOk_fresh_c), (72, spec_DrawSameEvents_fresh_c), (73, impl_SameFate_c), (74, spec_SameFate_c), (75, impl_Join_fresh_c), (76, spec_Join_fresh_c), (77, impl_BatchOk_c), (78, spec_BatchOk_c), (79, impl_SameEvents_c), (80, spec_SameEvents_c), (81, impl_StateOk_c), (82, impl_TableOk_c), (83, impl_SameTable_c), (84, laws_sameInts_c)] }) (EnvOk.cons laws_big_ct (EnvOk.cons laws_at_ct (EnvOk.cons spec_RewriteAll_fresh_ct (EnvOk.cons impl_RewriteAll_fresh_ct (EnvOk.cons spec_DrawRewriteAll_ct (EnvOk.cons spec_DrawSameFate_fresh_ct (EnvOk.cons spec_DrawJoin_ct (EnvOk.cons spec_DrawBatchOk_fresh_ct (EnvOk.cons spec_DrawSameEvents_fresh_ct (EnvOk.cons impl_SameFate_ct (EnvOk.cons spec_SameFate_ct (EnvOk.cons impl_Join_fresh_ct (EnvOk.cons spec_Join_fresh_ct (EnvOk.cons impl_BatchOk_ct (EnvOk.cons spec_BatchOk_ct (EnvOk.cons impl_SameEvents_ct (EnvOk.cons spec_SameEvents_ct (EnvOk.cons impl_StateOk_ct (EnvOk.cons impl_TableOk_ct (EnvOk.cons impl_SameTable_ct (EnvOk.cons laws_sameInts_ct (EnvOk.nil tabOk)))))))))))))))))))))) mixed (fn := Tryz.f9) _ _ _ _ _ laws_FnBatches_h Tryz.func9 (by kernel_rfl) (fun x => by kernel_rfl)
end
end Go.Abs
