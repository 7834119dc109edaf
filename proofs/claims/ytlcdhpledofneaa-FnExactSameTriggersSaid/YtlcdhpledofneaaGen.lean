import Derived.Test.YtlcdhpledofneaaProg
import Derived.Test.YtlcdhpledofneaaAbsTab
set_option linter.unusedVariables false
set_option linter.unusedSimpArgs false
namespace Go.Abs
open Go.Proofs
set_option maxRecDepth 100000
noncomputable section
@[reducible] def T_Piece : Ty := (.pair (.int .i64) (.pair (.int .i64) (.pair (.int .i64) (.pair (.int .i64) (.pair (.int .i64) (.pair (.int .i64) (.pair (.int .i64) (.pair (.int .i64) (.pair (.int .i64) (.pair (.int .i64) (.pair (.int .i64) (.pair .bool (.pair .bool .unit)))))))))))))
@[reducible] def T_Event : Ty := (.pair (.int .i64) (.pair (.int .i64) (.pair (.int .i64) (.pair (.int .i64) (.pair (.int .i64) (.pair (.int .i64) (.pair .bool .unit)))))))
@[reducible] def T_Trigger : Ty := (.pair (.int .i64) (.pair (.int .i64) (.pair (.int .i64) (.pair T_Piece .unit))))
@[reducible] def T_Side : Ty := (.pair (.int .i64) (.pair (.int .i64) (.pair .bool .unit)))
@[reducible] def T_State : Ty := (.pair (.slice T_Piece) (.pair (.slice T_Side) (.pair (.int .i64) (.pair (.int .i64) .unit))))
@[reducible] def T_S7 : Ty := (.pair (.int .i64) (.pair (.int .i64) (.pair .bool (.pair (.int .u8) .unit))))
def tab : Tab := [
  (1, ⟨.other, 1, 0, .unit, [.undef]⟩),
  (2, ⟨.int .i64, 1, 0, (.int .i64), [.int .i64 0]⟩),
  (3, ⟨.int .i64, 1, 0, (.int .i64), [.int .i64 0]⟩),
  (4, ⟨.bool, 1, 0, .bool, [.bool false]⟩),
  (5, ⟨.int .u8, 1, 0, (.int .u8), [.int .u8 0]⟩),
  (6, ⟨.int .u8, 1, 0, (.int .u8), [.int .u8 0]⟩),
  (7, ⟨.struct [(0, 2), (1, 3), (2, 4), (3, 6)], 4, 0, T_S7, [.int .i64 0, .int .i64 0, .bool false, .int .u8 0]⟩),
  (8, ⟨.struct [(0, 2), (1, 3), (2, 4), (3, 6)], 4, 0, T_S7, [.int .i64 0, .int .i64 0, .bool false, .int .u8 0]⟩),
  (12, ⟨.int .u64, 1, 0, (.int .u64), [.int .u64 0]⟩),
  (15, ⟨.other, 1, 0, .unit, [.undef]⟩),
  (16, ⟨.other, 1, 0, .unit, [.undef]⟩),
  (17, ⟨.other, 1, 0, .unit, [.undef]⟩),
  (21, ⟨.int .i32, 1, 0, (.int .i32), [.int .i32 0]⟩),
  (22, ⟨.struct [(0, 3), (1, 3), (2, 3), (3, 3), (4, 3), (5, 3), (6, 3), (7, 3), (8, 3), (9, 3), (10, 3), (11, 4), (12, 4)], 13, 0, T_Piece, [.int .i64 0, .int .i64 0, .int .i64 0, .int .i64 0, .int .i64 0, .int .i64 0, .int .i64 0, .int .i64 0, .int .i64 0, .int .i64 0, .int .i64 0, .bool false, .bool false]⟩),
  (23, ⟨.struct [(0, 3), (1, 3), (2, 3), (3, 3), (4, 3), (5, 3), (6, 3), (7, 3), (8, 3), (9, 3), (10, 3), (11, 4), (12, 4)], 13, 0, T_Piece, [.int .i64 0, .int .i64 0, .int .i64 0, .int .i64 0, .int .i64 0, .int .i64 0, .int .i64 0, .int .i64 0, .int .i64 0, .int .i64 0, .int .i64 0, .bool false, .bool false]⟩),
  (24, ⟨.other, 1, 0, .unit, [.undef]⟩),
  (25, ⟨.struct [(0, 3), (1, 3), (2, 3), (3, 3), (4, 3), (5, 3), (6, 3), (7, 3), (8, 3), (9, 3), (10, 3), (11, 4), (12, 4)], 13, 0, T_Piece, [.int .i64 0, .int .i64 0, .int .i64 0, .int .i64 0, .int .i64 0, .int .i64 0, .int .i64 0, .int .i64 0, .int .i64 0, .int .i64 0, .int .i64 0, .bool false, .bool false]⟩),
  (26, ⟨.other, 1, 0, .unit, [.undef]⟩),
  (27, ⟨.other, 1, 0, .unit, [.undef]⟩),
  (28, ⟨.other, 1, 0, .unit, [.undef]⟩),
  (29, ⟨.other, 1, 0, .unit, [.undef]⟩),
  (30, ⟨.slice 63, 1, 0, (.slice T_Event), [.nil]⟩),
  (31, ⟨.other, 1, 0, .unit, [.undef]⟩),
  (32, ⟨.other, 1, 0, .unit, [.undef]⟩),
  (33, ⟨.slice 61, 1, 0, (.slice T_Event), [.nil]⟩),
  (34, ⟨.other, 1, 0, .unit, [.undef]⟩),
  (35, ⟨.other, 1, 0, .unit, [.undef]⟩),
  (36, ⟨.other, 1, 0, .unit, [.undef]⟩),
  (37, ⟨.other, 1, 0, .unit, [.undef]⟩),
  (38, ⟨.slice 71, 1, 0, (.slice T_Trigger), [.nil]⟩),
  (39, ⟨.other, 1, 0, .unit, [.undef]⟩),
  (40, ⟨.other, 1, 0, .unit, [.undef]⟩),
  (41, ⟨.slice 68, 1, 0, (.slice T_Trigger), [.nil]⟩),
  (42, ⟨.other, 1, 0, .unit, [.undef]⟩),
  (43, ⟨.other, 1, 0, .unit, [.undef]⟩),
  (44, ⟨.slice 23, 1, 0, (.slice T_Piece), [.nil]⟩),
  (45, ⟨.slice 87, 1, 0, (.slice T_Side), [.nil]⟩),
  (46, ⟨.struct [(0, 44), (1, 45), (2, 3), (3, 3)], 4, 0, T_State, [.nil, .nil, .int .i64 0, .int .i64 0]⟩),
  (47, ⟨.struct [(0, 44), (1, 45), (2, 3), (3, 3)], 4, 0, T_State, [.nil, .nil, .int .i64 0, .int .i64 0]⟩),
  (48, ⟨.other, 1, 0, .unit, [.undef]⟩),
  (49, ⟨.other, 1, 0, .unit, [.undef]⟩),
  (50, ⟨.slice 25, 1, 0, (.slice T_Piece), [.nil]⟩),
  (51, ⟨.slice 85, 1, 0, (.slice T_Side), [.nil]⟩),
  (52, ⟨.struct [(0, 50), (1, 51), (2, 3), (3, 3)], 4, 0, T_State, [.nil, .nil, .int .i64 0, .int .i64 0]⟩),
  (53, ⟨.struct [(0, 50), (1, 51), (2, 3), (3, 3)], 4, 0, T_State, [.nil, .nil, .int .i64 0, .int .i64 0]⟩),
  (54, ⟨.other, 1, 0, .unit, [.undef]⟩),
  (55, ⟨.other, 1, 0, .unit, [.undef]⟩),
  (56, ⟨.other, 1, 0, .unit, [.undef]⟩),
  (57, ⟨.other, 1, 0, .unit, [.undef]⟩),
  (58, ⟨.other, 1, 0, .unit, [.undef]⟩),
  (59, ⟨.other, 1, 0, .unit, [.undef]⟩),
  (60, ⟨.struct [(0, 3), (1, 3), (2, 3), (3, 3), (4, 3), (5, 3), (6, 4)], 7, 0, T_Event, [.int .i64 0, .int .i64 0, .int .i64 0, .int .i64 0, .int .i64 0, .int .i64 0, .bool false]⟩),
  (61, ⟨.struct [(0, 3), (1, 3), (2, 3), (3, 3), (4, 3), (5, 3), (6, 4)], 7, 0, T_Event, [.int .i64 0, .int .i64 0, .int .i64 0, .int .i64 0, .int .i64 0, .int .i64 0, .bool false]⟩),
  (62, ⟨.other, 1, 0, .unit, [.undef]⟩),
  (63, ⟨.struct [(0, 3), (1, 3), (2, 3), (3, 3), (4, 3), (5, 3), (6, 4)], 7, 0, T_Event, [.int .i64 0, .int .i64 0, .int .i64 0, .int .i64 0, .int .i64 0, .int .i64 0, .bool false]⟩),
  (64, ⟨.other, 1, 0, .unit, [.undef]⟩),
  (65, ⟨.other, 1, 0, .unit, [.undef]⟩),
  (66, ⟨.other, 1, 0, .unit, [.undef]⟩),
  (67, ⟨.struct [(0, 3), (1, 3), (2, 3), (3, 25)], 16, 0, T_Trigger, [.int .i64 0, .int .i64 0, .int .i64 0, .int .i64 0, .int .i64 0, .int .i64 0, .int .i64 0, .int .i64 0, .int .i64 0, .int .i64 0, .int .i64 0, .int .i64 0, .int .i64 0, .int .i64 0, .bool false, .bool false]⟩),
  (68, ⟨.struct [(0, 3), (1, 3), (2, 3), (3, 25)], 16, 0, T_Trigger, [.int .i64 0, .int .i64 0, .int .i64 0, .int .i64 0, .int .i64 0, .int .i64 0, .int .i64 0, .int .i64 0, .int .i64 0, .int .i64 0, .int .i64 0, .int .i64 0, .int .i64 0, .int .i64 0, .bool false, .bool false]⟩),
  (69, ⟨.other, 1, 0, .unit, [.undef]⟩),
  (70, ⟨.struct [(0, 3), (1, 3), (2, 3), (3, 23)], 16, 0, T_Trigger, [.int .i64 0, .int .i64 0, .int .i64 0, .int .i64 0, .int .i64 0, .int .i64 0, .int .i64 0, .int .i64 0, .int .i64 0, .int .i64 0, .int .i64 0, .int .i64 0, .int .i64 0, .int .i64 0, .bool false, .bool false]⟩),
  (71, ⟨.struct [(0, 3), (1, 3), (2, 3), (3, 23)], 16, 0, T_Trigger, [.int .i64 0, .int .i64 0, .int .i64 0, .int .i64 0, .int .i64 0, .int .i64 0, .int .i64 0, .int .i64 0, .int .i64 0, .int .i64 0, .int .i64 0, .int .i64 0, .int .i64 0, .int .i64 0, .bool false, .bool false]⟩),
  (72, ⟨.other, 1, 0, .unit, [.undef]⟩),
  (73, ⟨.other, 1, 0, .unit, [.undef]⟩),
  (74, ⟨.other, 1, 0, .unit, [.undef]⟩),
  (75, ⟨.other, 1, 0, .unit, [.undef]⟩),
  (76, ⟨.other, 1, 0, .unit, [.undef]⟩),
  (77, ⟨.other, 1, 0, .unit, [.undef]⟩),
  (78, ⟨.other, 1, 0, .unit, [.undef]⟩),
  (79, ⟨.other, 1, 0, .unit, [.undef]⟩),
  (80, ⟨.other, 1, 0, .unit, [.undef]⟩),
  (81, ⟨.other, 1, 0, .unit, [.undef]⟩),
  (82, ⟨.other, 1, 0, .unit, [.undef]⟩),
  (83, ⟨.other, 1, 0, .unit, [.undef]⟩),
  (84, ⟨.struct [(0, 3), (1, 3), (2, 4)], 3, 0, T_Side, [.int .i64 0, .int .i64 0, .bool false]⟩),
  (85, ⟨.struct [(0, 3), (1, 3), (2, 4)], 3, 0, T_Side, [.int .i64 0, .int .i64 0, .bool false]⟩),
  (86, ⟨.other, 1, 0, .unit, [.undef]⟩),
  (87, ⟨.struct [(0, 3), (1, 3), (2, 4)], 3, 0, T_Side, [.int .i64 0, .int .i64 0, .bool false]⟩),
  (88, ⟨.other, 1, 0, .unit, [.undef]⟩),
  (89, ⟨.other, 1, 0, .unit, [.undef]⟩),
  (95, ⟨.other, 1, 0, .unit, [.undef]⟩),
  (96, ⟨.int .u32, 1, 0, (.int .u32), [.int .u32 0]⟩),
  (97, ⟨.int .u8, 1, 0, (.int .u8), [.int .u8 0]⟩),
  (98, ⟨.int .u8, 1, 0, (.int .u8), [.int .u8 0]⟩),
  (99, ⟨.other, 1, 0, .unit, [.undef]⟩),
  (100, ⟨.other, 1, 0, .unit, [.undef]⟩),
  (101, ⟨.int .i32, 1, 0, (.int .i32), [.int .i32 0]⟩),
  (102, ⟨.int .i32, 1, 0, (.int .i32), [.int .i32 0]⟩)]
theorem tabOk : TabOk Try.prog tab := tabB_ok (by kernel_rfl)
theorem mixed : Try.prog.follows .mixedOrders = true := by kernel_rfl
/-! loop.example/g00486/laws.toPiece -/
def laws_toPiece (a0 : T_Piece.D) : Option T_Piece.D :=
 some a0
def laws_toPiece_c : Ct := .pure true false (.pair T_Piece .unit) T_Piece (fun x => laws_toPiece x.1)
theorem laws_toPiece_ct : CtOk Try.prog 10 laws_toPiece_c := pure_ct (E := { T := tab, G := [] }) (EnvOk.nil tabOk) mixed (fn := Try.f10) _ _ _ _ _ .none Try.func10 (by kernel_rfl) (fun x => by kernel_rfl)
/-! loop.example/g00486/spec.Bound -/
def spec_Bound (a0 : Int) : Option Int :=
 bif decide (a0 > 2147483647) then (
 some 2147483647)
 else (
 bif decide (a0 < (-2147483647)) then (
 some (-2147483647))
 else (
 some a0))
def spec_Bound_c : Ct := .pure true false (.pair (.int .i64) .unit) (.int .i64) (fun x => spec_Bound x.1)
theorem spec_Bound_ct : CtOk Try.prog 55 spec_Bound_c := pure_ct (E := { T := tab, G := [] }) (EnvOk.nil tabOk) mixed (fn := Try.f55) _ _ _ _ _ .none Try.func55 (by kernel_rfl) (fun x => by kernel_rfl)
/-! loop.example/g00486/spec.Plus -/
def spec_Plus (a0 : Int) (a1 : Int) : Option Int :=
(spec_Bound a0).bind fun y1 =>
(spec_Bound a1).bind fun y2 =>
(spec_Bound (IntKind.wrap .i64 (y1 + y2))).bind fun y3 =>
 some y3
def spec_Plus_c : Ct := .pure true false (.pair (.int .i64) (.pair (.int .i64) .unit)) (.int .i64) (fun x => spec_Plus x.1 x.2.1)
theorem spec_Plus_ct : CtOk Try.prog 56 spec_Plus_c := pure_ct (E := { T := tab, G := [(55, spec_Bound_c)] }) (EnvOk.cons spec_Bound_ct (EnvOk.nil tabOk)) mixed (fn := Try.f56) _ _ _ _ _ .none Try.func56 (by kernel_rfl) (fun x => by kernel_rfl)
/-! loop.example/g00486/spec.Less -/
def spec_Less (a0 : Int) (a1 : Int) : Option Int :=
(spec_Bound a0).bind fun y1 =>
(spec_Bound a1).bind fun y2 =>
(spec_Bound (IntKind.wrap .i64 (y1 - y2))).bind fun y3 =>
 some y3
def spec_Less_c : Ct := .pure true false (.pair (.int .i64) (.pair (.int .i64) .unit)) (.int .i64) (fun x => spec_Less x.1 x.2.1)
theorem spec_Less_ct : CtOk Try.prog 32 spec_Less_c := pure_ct (E := { T := tab, G := [(55, spec_Bound_c)] }) (EnvOk.cons spec_Bound_ct (EnvOk.nil tabOk)) mixed (fn := Try.f32) _ _ _ _ _ .none Try.func32 (by kernel_rfl) (fun x => by kernel_rfl)
/-! loop.example/g00486/spec.ToughOf -/
def spec_ToughOf (a0 : T_Piece.D) : Option Int :=
(spec_Plus a0.2.2.2.2.2.2.1 a0.2.2.2.2.2.2.2.2.1).bind fun y1 =>
(spec_Less y1 a0.2.2.2.2.2.2.2.2.2.1).bind fun y2 =>
 some y2
def spec_ToughOf_c : Ct := .pure true false (.pair T_Piece .unit) (.int .i64) (fun x => spec_ToughOf x.1)
theorem spec_ToughOf_ct : CtOk Try.prog 33 spec_ToughOf_c := pure_ct (E := { T := tab, G := [(32, spec_Less_c), (56, spec_Plus_c)] }) (EnvOk.cons spec_Less_ct (EnvOk.cons spec_Plus_ct (EnvOk.nil tabOk))) mixed (fn := Try.f33) _ _ _ _ _ .none Try.func33 (by kernel_rfl) (fun x => by kernel_rfl)
/-! loop.example/g00486/spec.Upto -/
def spec_Upto (a0 : Int) (a1 : Int) : Option Int :=
((bif decide (a1 < a0) then (
 some a1)
 else (
 some a0)) : Option Int).bind fun o1 =>
 bif decide (o1 < 0) then (
 some 0)
 else (
 some o1)
def spec_Upto_h : Hints := (.node none none .none (.node none none .none (.node none none (.node none none .none (.node (some ⟨[.tmp 5 (.int .i64)], [none], none, []⟩) none .none .none)) .none)))
def spec_Upto_c : Ct := .pure true false (.pair (.int .i64) (.pair (.int .i64) .unit)) (.int .i64) (fun x => spec_Upto x.1 x.2.1)
theorem spec_Upto_ct : CtOk Try.prog 31 spec_Upto_c := pure_ct (E := { T := tab, G := [] }) (EnvOk.nil tabOk) mixed (fn := Try.f31) _ _ _ _ _ spec_Upto_h Try.func31 (by kernel_rfl) (fun x => by kernel_rfl)
/-! loop.example/g00486/spec.Over -/
def spec_Over (a0 : T_Piece.D) (a1 : Int) : Option Int :=
(spec_ToughOf a0).bind fun y1 =>
(spec_Less y1 a0.2.2.2.2.2.2.2.2.2.2.1).bind fun y2 =>
(spec_Upto y2 2147483647).bind fun y3 =>
(spec_Less a1 y3).bind fun y4 =>
(spec_Upto y4 2147483647).bind fun y5 =>
 some y5
def spec_Over_c : Ct := .pure true false (.pair T_Piece (.pair (.int .i64) .unit)) (.int .i64) (fun x => spec_Over x.1 x.2.1)
theorem spec_Over_ct : CtOk Try.prog 9 spec_Over_c := pure_ct (E := { T := tab, G := [(31, spec_Upto_c), (32, spec_Less_c), (33, spec_ToughOf_c)] }) (EnvOk.cons spec_Upto_ct (EnvOk.cons spec_Less_ct (EnvOk.cons spec_ToughOf_ct (EnvOk.nil tabOk)))) mixed (fn := Try.f9) _ _ _ _ _ .none Try.func9 (by kernel_rfl) (fun x => by kernel_rfl)
/-! loop.example/g00486/impl.Bound -/
def impl_Bound (a0 : Int) : Option Int :=
 some (if (if 2147483647 < a0 then 2147483647 else a0) > (-2147483647) then (if 2147483647 < a0 then 2147483647 else a0) else (-2147483647))
def impl_Bound_c : Ct := .pure true false (.pair (.int .i64) .unit) (.int .i64) (fun x => impl_Bound x.1)
theorem impl_Bound_ct : CtOk Try.prog 57 impl_Bound_c := pure_ct (E := { T := tab, G := [] }) (EnvOk.nil tabOk) mixed (fn := Try.f57) _ _ _ _ _ .none Try.func57 (by kernel_rfl) (fun x => by kernel_rfl)
/-! loop.example/g00486/impl.Plus -/
def impl_Plus (a0 : Int) (a1 : Int) : Option Int :=
(impl_Bound a0).bind fun y1 =>
(impl_Bound a1).bind fun y2 =>
(impl_Bound (IntKind.wrap .i64 (y1 + y2))).bind fun y3 =>
 some y3
def impl_Plus_c : Ct := .pure true false (.pair (.int .i64) (.pair (.int .i64) .unit)) (.int .i64) (fun x => impl_Plus x.1 x.2.1)
theorem impl_Plus_ct : CtOk Try.prog 58 impl_Plus_c := pure_ct (E := { T := tab, G := [(57, impl_Bound_c)] }) (EnvOk.cons impl_Bound_ct (EnvOk.nil tabOk)) mixed (fn := Try.f58) _ _ _ _ _ .none Try.func58 (by kernel_rfl) (fun x => by kernel_rfl)
/-! loop.example/g00486/impl.Less -/
def impl_Less (a0 : Int) (a1 : Int) : Option Int :=
(impl_Bound a0).bind fun y1 =>
(impl_Bound a1).bind fun y2 =>
(impl_Bound (IntKind.wrap .i64 (y1 - y2))).bind fun y3 =>
 some y3
def impl_Less_c : Ct := .pure true false (.pair (.int .i64) (.pair (.int .i64) .unit)) (.int .i64) (fun x => impl_Less x.1 x.2.1)
theorem impl_Less_ct : CtOk Try.prog 35 impl_Less_c := pure_ct (E := { T := tab, G := [(57, impl_Bound_c)] }) (EnvOk.cons impl_Bound_ct (EnvOk.nil tabOk)) mixed (fn := Try.f35) _ _ _ _ _ .none Try.func35 (by kernel_rfl) (fun x => by kernel_rfl)
/-! loop.example/g00486/impl.ToughOf -/
def impl_ToughOf (a0 : T_Piece.D) : Option Int :=
(impl_Plus a0.2.2.2.2.2.2.1 a0.2.2.2.2.2.2.2.2.1).bind fun y1 =>
(impl_Less y1 a0.2.2.2.2.2.2.2.2.2.1).bind fun y2 =>
 some y2
def impl_ToughOf_c : Ct := .pure true false (.pair T_Piece .unit) (.int .i64) (fun x => impl_ToughOf x.1)
theorem impl_ToughOf_ct : CtOk Try.prog 36 impl_ToughOf_c := pure_ct (E := { T := tab, G := [(35, impl_Less_c), (58, impl_Plus_c)] }) (EnvOk.cons impl_Less_ct (EnvOk.cons impl_Plus_ct (EnvOk.nil tabOk))) mixed (fn := Try.f36) _ _ _ _ _ .none Try.func36 (by kernel_rfl) (fun x => by kernel_rfl)
/-! loop.example/g00486/impl.Upto -/
def impl_Upto (a0 : Int) (a1 : Int) : Option Int :=
 some (if (if a1 < a0 then a1 else a0) > 0 then (if a1 < a0 then a1 else a0) else 0)
def impl_Upto_c : Ct := .pure true false (.pair (.int .i64) (.pair (.int .i64) .unit)) (.int .i64) (fun x => impl_Upto x.1 x.2.1)
theorem impl_Upto_ct : CtOk Try.prog 34 impl_Upto_c := pure_ct (E := { T := tab, G := [] }) (EnvOk.nil tabOk) mixed (fn := Try.f34) _ _ _ _ _ .none Try.func34 (by kernel_rfl) (fun x => by kernel_rfl)
/-! loop.example/g00486/impl.Over -/
def impl_Over (a0 : T_Piece.D) (a1 : Int) : Option Int :=
(impl_ToughOf a0).bind fun y1 =>
(impl_Less y1 a0.2.2.2.2.2.2.2.2.2.2.1).bind fun y2 =>
(impl_Upto y2 2147483647).bind fun y3 =>
(impl_Less a1 y3).bind fun y4 =>
(impl_Upto y4 2147483647).bind fun y5 =>
 some y5
def impl_Over_c : Ct := .pure true false (.pair T_Piece (.pair (.int .i64) .unit)) (.int .i64) (fun x => impl_Over x.1 x.2.1)
theorem impl_Over_ct : CtOk Try.prog 11 impl_Over_c := pure_ct (E := { T := tab, G := [(34, impl_Upto_c), (35, impl_Less_c), (36, impl_ToughOf_c)] }) (EnvOk.cons impl_Upto_ct (EnvOk.cons impl_Less_ct (EnvOk.cons impl_ToughOf_ct (EnvOk.nil tabOk)))) mixed (fn := Try.f11) _ _ _ _ _ .none Try.func11 (by kernel_rfl) (fun x => by kernel_rfl)
/-! loop.example/g00486/laws.FnExactOver -/
def laws_FnExactOver (a0 : T_Piece.D) (a1 : Int) : Option Bool :=
(laws_toPiece a0).bind fun y1 =>
(spec_Over y1 a1).bind fun y2 =>
(laws_toPiece a0).bind fun y3 =>
(impl_Over y3 a1).bind fun y4 =>
 bif (y4 != y2) then (
 some false)
 else (
 some true)
def laws_FnExactOver_c : Ct := .pure true false (.pair T_Piece (.pair (.int .i64) .unit)) .bool (fun x => laws_FnExactOver x.1 x.2.1)
theorem laws_FnExactOver_ct : CtOk Try.prog 3 laws_FnExactOver_c := pure_ct (E := { T := tab, G := [(9, spec_Over_c), (10, laws_toPiece_c), (11, impl_Over_c)] }) (EnvOk.cons spec_Over_ct (EnvOk.cons laws_toPiece_ct (EnvOk.cons impl_Over_ct (EnvOk.nil tabOk)))) mixed (fn := Try.f3) _ _ _ _ _ .none Try.func3 (by kernel_rfl) (fun x => by kernel_rfl)
/-! loop.example/g00486/spec.HasTrait -/
def spec_HasTrait (a0 : T_Piece.D) (a1 : Int) : Option Bool :=
 bif (a1 == 1) then (
 some ((IntKind.wrap .i64 (BitVec.ofInt (IntKind.bits .i64) a0.2.2.2.2.2.2.2.1 &&& BitVec.ofInt (IntKind.bits .i64) a1).toNat) != 0))
 else (
 bif (a1 == 2) then (
 some ((IntKind.wrap .i64 (BitVec.ofInt (IntKind.bits .i64) a0.2.2.2.2.2.2.2.1 &&& BitVec.ofInt (IntKind.bits .i64) a1).toNat) != 0))
 else (
 bif (a1 == 4) then (
 some ((IntKind.wrap .i64 (BitVec.ofInt (IntKind.bits .i64) a0.2.2.2.2.2.2.2.1 &&& BitVec.ofInt (IntKind.bits .i64) a1).toNat) != 0))
 else (
 bif (a1 == 8) then (
 some ((IntKind.wrap .i64 (BitVec.ofInt (IntKind.bits .i64) a0.2.2.2.2.2.2.2.1 &&& BitVec.ofInt (IntKind.bits .i64) a1).toNat) != 0))
 else (
 bif (a1 == 16) then (
 some ((IntKind.wrap .i64 (BitVec.ofInt (IntKind.bits .i64) a0.2.2.2.2.2.2.2.1 &&& BitVec.ofInt (IntKind.bits .i64) a1).toNat) != 0))
 else (
 bif (a1 == 32) then (
 some ((IntKind.wrap .i64 (BitVec.ofInt (IntKind.bits .i64) a0.2.2.2.2.2.2.2.1 &&& BitVec.ofInt (IntKind.bits .i64) a1).toNat) != 0))
 else (
 some false))))))
def spec_HasTrait_c : Ct := .pure true false (.pair T_Piece (.pair (.int .i64) .unit)) .bool (fun x => spec_HasTrait x.1 x.2.1)
theorem spec_HasTrait_ct : CtOk Try.prog 37 spec_HasTrait_c := pure_ct (E := { T := tab, G := [] }) (EnvOk.nil tabOk) mixed (fn := Try.f37) _ _ _ _ _ .none Try.func37 (by kernel_rfl) (fun x => by kernel_rfl)
/-! loop.example/g00486/spec.Doomed -/
def spec_Doomed (a0 : T_Piece.D) : Option Bool :=
 bif (a0.2.2.2.1 != 2) then (
 some false)
 else (
(spec_ToughOf a0).bind fun y1 =>
 bif decide (y1 ≤ 0) then (
 some true)
 else (
(spec_HasTrait a0 8).bind fun y2 =>
 bif (!y2) then (
 bif a0.2.2.2.2.2.2.2.2.2.2.2.1 then (
 some true)
 else (
 some (decide (a0.2.2.2.2.2.2.2.2.2.2.1 ≥ y1))))
 else (
 some false)))
def spec_Doomed_c : Ct := .pure true false (.pair T_Piece .unit) .bool (fun x => spec_Doomed x.1)
theorem spec_Doomed_ct : CtOk Try.prog 12 spec_Doomed_c := pure_ct (E := { T := tab, G := [(33, spec_ToughOf_c), (37, spec_HasTrait_c)] }) (EnvOk.cons spec_ToughOf_ct (EnvOk.cons spec_HasTrait_ct (EnvOk.nil tabOk))) mixed (fn := Try.f12) _ _ _ _ _ .none Try.func12 (by kernel_rfl) (fun x => by kernel_rfl)
/-! loop.example/g00486/impl.HasTrait -/
def impl_HasTrait (a0 : T_Piece.D) (a1 : Int) : Option Bool :=
((bif (a1 == 1) then (
 some (a1 == 1))
 else (
((bif (a1 == 2) then (
 some (a1 == 2))
 else (
((bif (a1 == 4) then (
 some (a1 == 4))
 else (
((bif (a1 == 8) then (
 some (a1 == 8))
 else (
((bif (a1 == 16) then (
 some (a1 == 16))
 else (
 some (a1 == 32))) : Option Bool).bind fun o1 =>
 some o1)) : Option Bool).bind fun o2 =>
 some o2)) : Option Bool).bind fun o3 =>
 some o3)) : Option Bool).bind fun o4 =>
 some o4)) : Option Bool).bind fun o5 =>
 bif o5 then (
 some ((IntKind.wrap .i64 (BitVec.ofInt (IntKind.bits .i64) a0.2.2.2.2.2.2.2.1 &&& BitVec.ofInt (IntKind.bits .i64) a1).toNat) != 0))
 else (
 some false)
def impl_HasTrait_h : Hints := (.node none none .none (.node none none (.node none none .none (.node none none (.node none none (.node none none .none (.node (some ⟨[.tmp 6 .bool], [none], none, []⟩) none .none (.node none none .none (.node (some ⟨[.tmp 6 .bool], [none], none, []⟩) none .none (.node none none .none (.node (some ⟨[.tmp 6 .bool], [none], none, []⟩) none .none (.node none none .none (.node (some ⟨[.tmp 6 .bool], [none], none, []⟩) none .none (.node none none .none (.node (some ⟨[.tmp 6 .bool], [none], none, []⟩) none .none .none)))))))))) .none) .none)) .none))
def impl_HasTrait_c : Ct := .pure true false (.pair T_Piece (.pair (.int .i64) .unit)) .bool (fun x => impl_HasTrait x.1 x.2.1)
theorem impl_HasTrait_ct : CtOk Try.prog 38 impl_HasTrait_c := pure_ct (E := { T := tab, G := [] }) (EnvOk.nil tabOk) mixed (fn := Try.f38) _ _ _ _ _ impl_HasTrait_h Try.func38 (by kernel_rfl) (fun x => by kernel_rfl)
/-! loop.example/g00486/impl.Doomed -/
def impl_Doomed (a0 : T_Piece.D) : Option Bool :=
 bif (a0.2.2.2.1 == 2) then (
(impl_ToughOf a0).bind fun y1 =>
 bif decide (y1 ≤ 0) then (
 some true)
 else (
(impl_HasTrait a0 8).bind fun y2 =>
 bif (!y2) then (
 bif a0.2.2.2.2.2.2.2.2.2.2.2.1 then (
 some true)
 else (
(impl_ToughOf a0).bind fun y3 =>
 some (decide (a0.2.2.2.2.2.2.2.2.2.2.1 ≥ y3))))
 else (
 some false)))
 else (
 some false)
def impl_Doomed_c : Ct := .pure true false (.pair T_Piece .unit) .bool (fun x => impl_Doomed x.1)
theorem impl_Doomed_ct : CtOk Try.prog 13 impl_Doomed_c := pure_ct (E := { T := tab, G := [(36, impl_ToughOf_c), (38, impl_HasTrait_c)] }) (EnvOk.cons impl_ToughOf_ct (EnvOk.cons impl_HasTrait_ct (EnvOk.nil tabOk))) mixed (fn := Try.f13) _ _ _ _ _ .none Try.func13 (by kernel_rfl) (fun x => by kernel_rfl)
/-! loop.example/g00486/laws.FnExactDoomed -/
def laws_FnExactDoomed (a0 : T_Piece.D) : Option Bool :=
(laws_toPiece a0).bind fun y1 =>
(spec_Doomed y1).bind fun y2 =>
(laws_toPiece a0).bind fun y3 =>
(impl_Doomed y3).bind fun y4 =>
 bif (y4 != y2) then (
 some false)
 else (
 some true)
def laws_FnExactDoomed_c : Ct := .pure true false (.pair T_Piece .unit) .bool (fun x => laws_FnExactDoomed x.1)
theorem laws_FnExactDoomed_ct : CtOk Try.prog 4 laws_FnExactDoomed_c := pure_ct (E := { T := tab, G := [(10, laws_toPiece_c), (12, spec_Doomed_c), (13, impl_Doomed_c)] }) (EnvOk.cons laws_toPiece_ct (EnvOk.cons spec_Doomed_ct (EnvOk.cons impl_Doomed_ct (EnvOk.nil tabOk)))) mixed (fn := Try.f4) _ _ _ _ _ .none Try.func4 (by kernel_rfl) (fun x => by kernel_rfl)
/-! loop.example/g00486/laws.szEventS -/
def laws_szEventS (a0 : (List T_Event.D)) (a1 : Int) : Option Int :=
 bif decide ((IntKind.wrap .i64 (a1 - (a0.length : Int))) < 0) then (
 some (-1))
 else (
 some (IntKind.wrap .i64 (a1 - (a0.length : Int))))
def laws_szEventS_c : Ct := .pure true false (.pair (.slice T_Event) (.pair (.int .i64) .unit)) (.int .i64) (fun x => laws_szEventS x.1 x.2.1)
theorem laws_szEventS_ct : CtOk Try.prog 14 laws_szEventS_c := pure_ct (E := { T := tab, G := [] }) (EnvOk.nil tabOk) mixed (fn := Try.f14) _ _ _ _ _ .none Try.func14 (by kernel_rfl) (fun x => by kernel_rfl)
/-! loop.example/g00486/laws.toEvent -/
def laws_toEvent (a0 : T_Event.D) : Option T_Event.D :=
 some a0
def laws_toEvent_c : Ct := .pure true false (.pair T_Event .unit) T_Event (fun x => laws_toEvent x.1)
theorem laws_toEvent_ct : CtOk Try.prog 39 laws_toEvent_c := pure_ct (E := { T := tab, G := [] }) (EnvOk.nil tabOk) mixed (fn := Try.f39) _ _ _ _ _ .none Try.func39 (by kernel_rfl) (fun x => by kernel_rfl)
/-! loop.example/g00486/laws.toEventS -/
def laws_toEventS_l1 (a0 : (List T_Event.D)) : ((List T_Event.D) × Int) → Option (((List T_Event.D) × Int) ⊕ ((List T_Event.D) × Int)) := fun s2 =>
 bif decide (s2.2 < (a0.length : Int)) then (
 idx a0 s2.2 fun x3 =>
(laws_toEvent x3).bind fun y4 =>
 idx s2.1 s2.2 fun _ =>
(s2.1[(s2.2).toNat]?).bind fun x5 =>
 some (.inl ((s2.1.set (s2.2).toNat y4), IntKind.wrap .i64 (s2.2 + 1))))
 else (
 some (.inr s2))
def laws_toEventS (a0 : (List T_Event.D)) : Option (List T_Event.D) :=
 if 0 ≤ (a0.length : Int) then (if ((a0.length : Int)).toNat * (24 * 7) ≤ room then (
(while_ (laws_toEventS_l1 a0) ((List.replicate ((a0.length : Int)).toNat (0, 0, 0, 0, 0, 0, false, ())), 0)).bind fun o6 =>
 some o6.1) else none) else none
def laws_toEventS_h : Hints := (.node none none .none (.node none none .none (.node none none (.node none none .none (.node none none (.node none (some ⟨[.tmpO 3 0 (.slice T_Event), .tmp 4 (.int .i64)], [some 0], none, []⟩) .none .none) .none)) .none)))
def laws_toEventS_c : Ct := .pure true false (.pair (.slice T_Event) .unit) (.slice T_Event) (fun x => laws_toEventS x.1)
theorem laws_toEventS_ct : CtOk Try.prog 16 laws_toEventS_c := pure_ct (E := { T := tab, G := [(39, laws_toEvent_c)] }) (EnvOk.cons laws_toEvent_ct (EnvOk.nil tabOk)) mixed (fn := Try.f16) _ _ _ _ _ laws_toEventS_h Try.func16 (by kernel_rfl) (fun x => by kernel_rfl)
def laws_toEventS_fresh_c : Ct := .pure true true (.pair (.slice T_Event) .unit) (.slice T_Event) (fun x => laws_toEventS x.1)
theorem laws_toEventS_fresh_ct : CtOk Try.prog 16 laws_toEventS_fresh_c := pure_ct (E := { T := tab, G := [(39, laws_toEvent_c)] }) (EnvOk.cons laws_toEvent_ct (EnvOk.nil tabOk)) mixed (fn := Try.f16) _ _ _ _ _ laws_toEventS_h Try.func16 (by kernel_rfl) (fun x => by kernel_rfl)
/-! loop.example/g00486/spec.SameEvents -/
def spec_SameEvents_l1 (a0 : (List T_Event.D)) (a1 : (List T_Event.D)) : Int → Option (Int ⊕ (Int ⊕ Bool)) := fun s1 =>
 bif decide (s1 < (a0.length : Int)) then (
 idx a0 s1 fun x2 =>
 idx a1 s1 fun x3 =>
 bif (!((x2.1 == x3.1) && ((x2.2.1 == x3.2.1) && ((x2.2.2.1 == x3.2.2.1) && ((x2.2.2.2.1 == x3.2.2.2.1) && ((x2.2.2.2.2.1 == x3.2.2.2.2.1) && ((x2.2.2.2.2.2.1 == x3.2.2.2.2.2.1) && ((x2.2.2.2.2.2.2.1 == x3.2.2.2.2.2.2.1) && true)))))))) then (
 some (.inr (.inr false)))
 else (
 some (.inl (IntKind.wrap .i64 (s1 + 1)))))
 else (
 some (.inr (.inl s1)))
def spec_SameEvents (a0 : (List T_Event.D)) (a1 : (List T_Event.D)) : Option Bool :=
 bif ((a0.length : Int) != (a1.length : Int)) then (
 some false)
 else (
(while_ (spec_SameEvents_l1 a0 a1) 0).bind fun o4 =>
 match o4 with
| .inl s5 => (
 some true)
| .inr o6 => (
 some o6))
def spec_SameEvents_h : Hints := (.node none none .none (.node none none .none (.node none none (.node none none .none (.node none none (.node none (some ⟨[.tmp 5 (.int .i64)], [some 0], some [.tmp 4 .bool], []⟩) .none .none) .none)) .none)))
def spec_SameEvents_c : Ct := .pure true false (.pair (.slice T_Event) (.pair (.slice T_Event) .unit)) .bool (fun x => spec_SameEvents x.1 x.2.1)
theorem spec_SameEvents_ct : CtOk Try.prog 15 spec_SameEvents_c := pure_ct (E := { T := tab, G := [] }) (EnvOk.nil tabOk) mixed (fn := Try.f15) _ _ _ _ _ spec_SameEvents_h Try.func15 (by kernel_rfl) (fun x => by kernel_rfl)
/-! slices.Equal[[]loop.example/g00486/impl.Event,loop.example/g00486/impl.Event] -/
def slices_Equal_impl_Event_l1 (a0 : (List T_Event.D)) (a1 : (List T_Event.D)) : Int → Option (Int ⊕ (Int ⊕ Bool)) := fun s1 =>
 bif decide (s1 < (a0.length : Int)) then (
 idx a0 s1 fun x2 =>
 idx a1 s1 fun x3 =>
 bif (!((x2.1 == x3.1) && ((x2.2.1 == x3.2.1) && ((x2.2.2.1 == x3.2.2.1) && ((x2.2.2.2.1 == x3.2.2.2.1) && ((x2.2.2.2.2.1 == x3.2.2.2.2.1) && ((x2.2.2.2.2.2.1 == x3.2.2.2.2.2.1) && ((x2.2.2.2.2.2.2.1 == x3.2.2.2.2.2.2.1) && true)))))))) then (
 some (.inr (.inr false)))
 else (
 some (.inl (IntKind.wrap .i64 (s1 + 1)))))
 else (
 some (.inr (.inl s1)))
def slices_Equal_impl_Event (a0 : (List T_Event.D)) (a1 : (List T_Event.D)) : Option Bool :=
 bif ((a0.length : Int) != (a1.length : Int)) then (
 some false)
 else (
(while_ (slices_Equal_impl_Event_l1 a0 a1) 0).bind fun o4 =>
 match o4 with
| .inl s5 => (
 some true)
| .inr o6 => (
 some o6))
def slices_Equal_impl_Event_h : Hints := (.node none none .none (.node none none .none (.node none none (.node none none .none (.node none none (.node none (some ⟨[.tmp 13 (.int .i64)], [some 0], some [.tmp 4 .bool], []⟩) .none .none) .none)) .none)))
def slices_Equal_impl_Event_c : Ct := .pure true false (.pair (.slice T_Event) (.pair (.slice T_Event) .unit)) .bool (fun x => slices_Equal_impl_Event x.1 x.2.1)
theorem slices_Equal_impl_Event_ct : CtOk Try.prog 40 slices_Equal_impl_Event_c := pure_ct (E := { T := tab, G := [] }) (EnvOk.nil tabOk) mixed (fn := Try.f40) _ _ _ _ _ slices_Equal_impl_Event_h Try.func40 (by kernel_rfl) (fun x => by kernel_rfl)
/-! loop.example/g00486/impl.SameEvents -/
def impl_SameEvents (a0 : (List T_Event.D)) (a1 : (List T_Event.D)) : Option Bool :=
(slices_Equal_impl_Event a0 a1).bind fun y1 =>
 some y1
def impl_SameEvents_c : Ct := .pure true false (.pair (.slice T_Event) (.pair (.slice T_Event) .unit)) .bool (fun x => impl_SameEvents x.1 x.2.1)
theorem impl_SameEvents_ct : CtOk Try.prog 17 impl_SameEvents_c := pure_ct (E := { T := tab, G := [(40, slices_Equal_impl_Event_c)] }) (EnvOk.cons slices_Equal_impl_Event_ct (EnvOk.nil tabOk)) mixed (fn := Try.f17) _ _ _ _ _ .none Try.func17 (by kernel_rfl) (fun x => by kernel_rfl)
/-! loop.example/g00486/laws.eqEvent -/
def laws_eqEvent (a0 : T_Event.D) (a1 : T_Event.D) : Option Bool :=
 bif (a0.1 != a1.1) then (
 some false)
 else (
 bif (a0.2.1 != a1.2.1) then (
 some false)
 else (
 bif (a0.2.2.1 != a1.2.2.1) then (
 some false)
 else (
 bif (a0.2.2.2.1 != a1.2.2.2.1) then (
 some false)
 else (
 bif (a0.2.2.2.2.1 != a1.2.2.2.2.1) then (
 some false)
 else (
 bif (a0.2.2.2.2.2.1 != a1.2.2.2.2.2.1) then (
 some false)
 else (
 bif (a0.2.2.2.2.2.2.1 != a1.2.2.2.2.2.2.1) then (
 some false)
 else (
 some true)))))))
def laws_eqEvent_c : Ct := .pure true false (.pair T_Event (.pair T_Event .unit)) .bool (fun x => laws_eqEvent x.1 x.2.1)
theorem laws_eqEvent_ct : CtOk Try.prog 41 laws_eqEvent_c := pure_ct (E := { T := tab, G := [] }) (EnvOk.nil tabOk) mixed (fn := Try.f41) _ _ _ _ _ .none Try.func41 (by kernel_rfl) (fun x => by kernel_rfl)
/-! loop.example/g00486/laws.eqEventS -/
def laws_eqEventS_l1 (a0 : (List T_Event.D)) (a1 : (List T_Event.D)) : Int → Option (Int ⊕ (Int ⊕ Bool)) := fun s1 =>
 bif decide (s1 < (a0.length : Int)) then (
 idx a0 s1 fun x2 =>
 idx a1 s1 fun x3 =>
(laws_eqEvent x2 x3).bind fun y4 =>
 bif (!y4) then (
 some (.inr (.inr false)))
 else (
 some (.inl (IntKind.wrap .i64 (s1 + 1)))))
 else (
 some (.inr (.inl s1)))
def laws_eqEventS (a0 : (List T_Event.D)) (a1 : (List T_Event.D)) : Option Bool :=
 bif ((a0.length : Int) != (a1.length : Int)) then (
 some false)
 else (
(while_ (laws_eqEventS_l1 a0 a1) 0).bind fun o5 =>
 match o5 with
| .inl s6 => (
 some true)
| .inr o7 => (
 some o7))
def laws_eqEventS_h : Hints := (.node none none .none (.node none none .none (.node none none (.node none none .none (.node none none (.node none (some ⟨[.tmp 5 (.int .i64)], [some 0], some [.tmp 4 .bool], []⟩) .none .none) .none)) .none)))
def laws_eqEventS_c : Ct := .pure true false (.pair (.slice T_Event) (.pair (.slice T_Event) .unit)) .bool (fun x => laws_eqEventS x.1 x.2.1)
theorem laws_eqEventS_ct : CtOk Try.prog 18 laws_eqEventS_c := pure_ct (E := { T := tab, G := [(41, laws_eqEvent_c)] }) (EnvOk.cons laws_eqEvent_ct (EnvOk.nil tabOk)) mixed (fn := Try.f18) _ _ _ _ _ laws_eqEventS_h Try.func18 (by kernel_rfl) (fun x => by kernel_rfl)
/-! loop.example/g00486/laws.FnExactSameEvents -/
def laws_FnExactSameEvents (a0 : (List T_Event.D)) (a1 : (List T_Event.D)) : Option Bool :=
(laws_szEventS a0 1048576).bind fun y1 =>
 bif decide (y1 < 0) then (
 some true)
 else (
(laws_szEventS a1 y1).bind fun y2 =>
 bif decide (y2 < 0) then (
 some true)
 else (
(laws_toEventS a0).bind fun y3 =>
(laws_toEventS a1).bind fun y4 =>
(spec_SameEvents y3 y4).bind fun y5 =>
(laws_toEventS a0).bind fun y6 =>
(laws_toEventS a1).bind fun y7 =>
(impl_SameEvents y6 y7).bind fun y8 =>
 bif (y8 != y5) then (
 some false)
 else (
(laws_toEventS a0).bind fun y9 =>
(laws_eqEventS y6 y9).bind fun y10 =>
 bif (!y10) then (
 some false)
 else (
(laws_toEventS a1).bind fun y11 =>
(laws_eqEventS y7 y11).bind fun y12 =>
 bif (!y12) then (
 some false)
 else (
 some true)))))
def laws_FnExactSameEvents_c : Ct := .pure true false (.pair (.slice T_Event) (.pair (.slice T_Event) .unit)) .bool (fun x => laws_FnExactSameEvents x.1 x.2.1)
theorem laws_FnExactSameEvents_ct : CtOk Try.prog 5 laws_FnExactSameEvents_c := pure_ct (E := { T := tab, G := [(14, laws_szEventS_c), (15, spec_SameEvents_c), (16, laws_toEventS_fresh_c), (17, impl_SameEvents_c), (18, laws_eqEventS_c)] }) (EnvOk.cons laws_szEventS_ct (EnvOk.cons spec_SameEvents_ct (EnvOk.cons laws_toEventS_fresh_ct (EnvOk.cons impl_SameEvents_ct (EnvOk.cons laws_eqEventS_ct (EnvOk.nil tabOk)))))) mixed (fn := Try.f5) _ _ _ _ _ .none Try.func5 (by kernel_rfl) (fun x => by kernel_rfl)
/-! loop.example/g00486/spec.l1In -/
def spec_l1In (a0 : Int) (a1 : Int) (a2 : Int) : Option Bool :=
 bif decide (a0 ≥ a1) then (
 some (decide (a0 ≤ a2)))
 else (
 some false)
def spec_l1In_c : Ct := .pure true false (.pair (.int .i64) (.pair (.int .i64) (.pair (.int .i64) .unit))) .bool (fun x => spec_l1In x.1 x.2.1 x.2.2.1)
theorem spec_l1In_ct : CtOk Try.prog 59 spec_l1In_c := pure_ct (E := { T := tab, G := [] }) (EnvOk.nil tabOk) mixed (fn := Try.f59) _ _ _ _ _ .none Try.func59 (by kernel_rfl) (fun x => by kernel_rfl)
/-! loop.example/g00486/spec.EventOk -/
def spec_EventOk (a0 : T_Event.D) : Option Bool :=
(((spec_l1In a0.2.2.1 1 99).bind fun y1 =>
 bif y1 then (
 some (a0.2.2.2.1 == (-1)))
 else (
 some false)) : Option Bool).bind fun o2 =>
((bif (a0.2.2.1 == 0) then (
(spec_l1In a0.2.2.2.1 0 2).bind fun y3 =>
 some y3)
 else (
 some false)) : Option Bool).bind fun o4 =>
(spec_l1In a0.2.2.2.2.1 0 2147483647).bind fun y5 =>
 bif (!y5) then (
 some false)
 else (
 bif (a0.1 == 1) then (
(spec_l1In a0.2.1 1 99).bind fun y6 =>
 bif y6 then (
 bif o2 then (
 bif (a0.2.2.2.2.2.1 == 0) then (
 some (!a0.2.2.2.2.2.2.1))
 else (
 some false))
 else (
 bif o4 then (
 bif (a0.2.2.2.2.2.1 == 0) then (
 some (!a0.2.2.2.2.2.2.1))
 else (
 some false))
 else (
 some false)))
 else (
 some false))
 else (
 bif (a0.1 == 2) then (
 bif (a0.2.1 == 0) then (
 bif o2 then (
(spec_l1In a0.2.2.2.2.2.1 1 4).bind fun y7 =>
 bif y7 then (
 bif decide (a0.2.2.2.2.1 ≤ 99) then (
 bif (a0.2.2.2.2.2.1 == 2) then (
 some true)
 else (
 bif (a0.2.2.2.2.1 == 0) then (
 some (!a0.2.2.2.2.2.2.1))
 else (
 some false)))
 else (
 some false))
 else (
 some false))
 else (
 some false))
 else (
 some false))
 else (
((bif (a0.1 == 3) then (
 some (a0.1 == 3))
 else (
 some (a0.1 == 4))) : Option Bool).bind fun o8 =>
 bif o8 then (
 bif (a0.2.1 == 0) then (
 bif o4 then (
 bif (a0.2.2.2.2.2.1 == 0) then (
 some (!a0.2.2.2.2.2.2.1))
 else (
 some false))
 else (
 some false))
 else (
 some false))
 else (
((bif (a0.1 == 5) then (
 some (a0.1 == 5))
 else (
 some (a0.1 == 6))) : Option Bool).bind fun o9 =>
 bif o9 then (
 bif (a0.2.1 == 0) then (
 bif o2 then (
 bif (a0.2.2.2.2.2.1 == 0) then (
 some (!a0.2.2.2.2.2.2.1))
 else (
 some false))
 else (
 some false))
 else (
 some false))
 else (
 some false)))))
def spec_EventOk_h : Hints := (.node none none .none (.node none none (.node (some ⟨[.tmp 3 .bool], [none], none, []⟩) none .none .none) (.node none none (.node (some ⟨[.tmp 4 .bool], [none], none, []⟩) none .none .none) (.node none none .none (.node none none (.node none none .none (.node none none (.node none none .none (.node none none .none (.node none none .none (.node none none .none (.node none none (.node none none .none (.node (some ⟨[.tmp 81 .bool], [none], none, []⟩) none .none .none)) (.node none none .none (.node none none (.node none none .none (.node (some ⟨[.tmp 100 .bool], [none], none, []⟩) none .none .none)) .none))))))) .none)) .none)))))
def spec_EventOk_c : Ct := .pure true false (.pair T_Event .unit) .bool (fun x => spec_EventOk x.1)
theorem spec_EventOk_ct : CtOk Try.prog 42 spec_EventOk_c := pure_ct (E := { T := tab, G := [(59, spec_l1In_c)] }) (EnvOk.cons spec_l1In_ct (EnvOk.nil tabOk)) mixed (fn := Try.f42) _ _ _ _ _ spec_EventOk_h Try.func42 (by kernel_rfl) (fun x => by kernel_rfl)
/-! loop.example/g00486/spec.BatchOk -/
def spec_BatchOk_l1 (a0 : (List T_Event.D)) : Int → Option (Int ⊕ (Int ⊕ Bool)) := fun s1 =>
 bif decide (s1 < (a0.length : Int)) then (
 idx a0 s1 fun x2 =>
(spec_EventOk x2).bind fun y3 =>
 bif (!y3) then (
 some (.inr (.inr false)))
 else (
 some (.inl (IntKind.wrap .i64 (s1 + 1)))))
 else (
 some (.inr (.inl s1)))
def spec_BatchOk (a0 : (List T_Event.D)) : Option Bool :=
(while_ (spec_BatchOk_l1 a0) 0).bind fun o4 =>
 match o4 with
| .inl s5 => (
 some (decide ((a0.length : Int) ≤ 4)))
| .inr o6 => (
 some o6)
def spec_BatchOk_h : Hints := (.node none none .none (.node none none (.node none none .none (.node none none (.node none (some ⟨[.tmp 3 (.int .i64)], [some 0], some [.tmp 2 .bool], []⟩) .none .none) .none)) .none))
def spec_BatchOk_c : Ct := .pure true false (.pair (.slice T_Event) .unit) .bool (fun x => spec_BatchOk x.1)
theorem spec_BatchOk_ct : CtOk Try.prog 19 spec_BatchOk_c := pure_ct (E := { T := tab, G := [(42, spec_EventOk_c)] }) (EnvOk.cons spec_EventOk_ct (EnvOk.nil tabOk)) mixed (fn := Try.f19) _ _ _ _ _ spec_BatchOk_h Try.func19 (by kernel_rfl) (fun x => by kernel_rfl)
/-! slices.IndexFunc[[]loop.example/g00486/impl.Event,loop.example/g00486/impl.Event] -/
def slices_IndexFunc_impl_Event_l1 (a0 : (List T_Event.D)) (a1 : ((T_Event.D × Unit) → Option Bool)) : Int → Option (Int ⊕ (Int ⊕ Int)) := fun s1 =>
 bif decide (s1 < (a0.length : Int)) then (
 idx a0 s1 fun x2 =>
(a1 (x2, ())).bind fun y3 =>
 bif y3 then (
 some (.inr (.inr s1)))
 else (
 some (.inl (IntKind.wrap .i64 (s1 + 1)))))
 else (
 some (.inr (.inl s1)))
def slices_IndexFunc_impl_Event (a0 : (List T_Event.D)) (a1 : ((T_Event.D × Unit) → Option Bool)) : Option Int :=
(while_ (slices_IndexFunc_impl_Event_l1 a0 a1) 0).bind fun o4 =>
 match o4 with
| .inl s5 => (
 some (-1))
| .inr o6 => (
 some o6)
def slices_IndexFunc_impl_Event_h : Hints := (.node none none .none (.node none none (.node none none .none (.node none none (.node none (some ⟨[.tmp 8 (.int .i64)], [some 0], some [.tmp 4 (.int .i64)], []⟩) .none .none) .none)) .none))
def slices_IndexFunc_impl_Event_c : Ct := .pure true false (.pair (.slice T_Event) (.pair (.fn (.pair T_Event .unit) .bool) .unit)) (.int .i64) (fun x => slices_IndexFunc_impl_Event x.1 x.2.1)
theorem slices_IndexFunc_impl_Event_ct : CtOk Try.prog 60 slices_IndexFunc_impl_Event_c := pure_ct (E := { T := tab, G := [] }) (EnvOk.nil tabOk) mixed (fn := Try.f60) _ _ _ _ _ slices_IndexFunc_impl_Event_h Try.func60 (by kernel_rfl) (fun x => by kernel_rfl)
/-! slices.ContainsFunc[[]loop.example/g00486/impl.Event,loop.example/g00486/impl.Event] -/
def slices_ContainsFunc_impl_Event (a0 : (List T_Event.D)) (a1 : ((T_Event.D × Unit) → Option Bool)) : Option Bool :=
(slices_IndexFunc_impl_Event a0 a1).bind fun y1 =>
 some (decide (y1 ≥ 0))
def slices_ContainsFunc_impl_Event_c : Ct := .pure true false (.pair (.slice T_Event) (.pair (.fn (.pair T_Event .unit) .bool) .unit)) .bool (fun x => slices_ContainsFunc_impl_Event x.1 x.2.1)
theorem slices_ContainsFunc_impl_Event_ct : CtOk Try.prog 43 slices_ContainsFunc_impl_Event_c := pure_ct (E := { T := tab, G := [(60, slices_IndexFunc_impl_Event_c)] }) (EnvOk.cons slices_IndexFunc_impl_Event_ct (EnvOk.nil tabOk)) mixed (fn := Try.f43) _ _ _ _ _ .none Try.func43 (by kernel_rfl) (fun x => by kernel_rfl)
/-! loop.example/g00486/impl.from -/
def impl_from (a0 : Int) (a1 : Int) (a2 : Int) : Option Bool :=
 bif decide (a0 ≥ a1) then (
 some (decide (a0 ≤ a2)))
 else (
 some false)
def impl_from_c : Ct := .pure true false (.pair (.int .i64) (.pair (.int .i64) (.pair (.int .i64) .unit))) .bool (fun x => impl_from x.1 x.2.1 x.2.2.1)
theorem impl_from_ct : CtOk Try.prog 69 impl_from_c := pure_ct (E := { T := tab, G := [] }) (EnvOk.nil tabOk) mixed (fn := Try.f69) _ _ _ _ _ .none Try.func69 (by kernel_rfl) (fun x => by kernel_rfl)
/-! loop.example/g00486/impl.isAmount -/
def impl_isAmount (a0 : Int) : Option Bool :=
(impl_from a0 0 2147483647).bind fun y1 =>
 some y1
def impl_isAmount_c : Ct := .pure true false (.pair (.int .i64) .unit) .bool (fun x => impl_isAmount x.1)
theorem impl_isAmount_ct : CtOk Try.prog 61 impl_isAmount_c := pure_ct (E := { T := tab, G := [(69, impl_from_c)] }) (EnvOk.cons impl_from_ct (EnvOk.nil tabOk)) mixed (fn := Try.f61) _ _ _ _ _ .none Try.func61 (by kernel_rfl) (fun x => by kernel_rfl)
/-! loop.example/g00486/impl.isId -/
def impl_isId (a0 : Int) : Option Bool :=
(impl_from a0 1 99).bind fun y1 =>
 some y1
def impl_isId_c : Ct := .pure true false (.pair (.int .i64) .unit) .bool (fun x => impl_isId x.1)
theorem impl_isId_ct : CtOk Try.prog 62 impl_isId_c := pure_ct (E := { T := tab, G := [(69, impl_from_c)] }) (EnvOk.cons impl_from_ct (EnvOk.nil tabOk)) mixed (fn := Try.f62) _ _ _ _ _ .none Try.func62 (by kernel_rfl) (fun x => by kernel_rfl)
/-! loop.example/g00486/impl.onPiece -/
def impl_onPiece (a0 : T_Event.D) : Option Bool :=
(impl_isId a0.2.2.1).bind fun y1 =>
 bif y1 then (
 some (a0.2.2.2.1 == (-1)))
 else (
 some false)
def impl_onPiece_c : Ct := .pure true false (.pair T_Event .unit) .bool (fun x => impl_onPiece x.1)
theorem impl_onPiece_ct : CtOk Try.prog 63 impl_onPiece_c := pure_ct (E := { T := tab, G := [(62, impl_isId_c)] }) (EnvOk.cons impl_isId_ct (EnvOk.nil tabOk)) mixed (fn := Try.f63) _ _ _ _ _ .none Try.func63 (by kernel_rfl) (fun x => by kernel_rfl)
/-! loop.example/g00486/impl.isPlayer -/
def impl_isPlayer (a0 : Int) : Option Bool :=
(impl_from a0 0 2).bind fun y1 =>
 some y1
def impl_isPlayer_c : Ct := .pure true false (.pair (.int .i64) .unit) .bool (fun x => impl_isPlayer x.1)
theorem impl_isPlayer_ct : CtOk Try.prog 70 impl_isPlayer_c := pure_ct (E := { T := tab, G := [(69, impl_from_c)] }) (EnvOk.cons impl_from_ct (EnvOk.nil tabOk)) mixed (fn := Try.f70) _ _ _ _ _ .none Try.func70 (by kernel_rfl) (fun x => by kernel_rfl)
/-! loop.example/g00486/impl.onPlayer -/
def impl_onPlayer (a0 : T_Event.D) : Option Bool :=
 bif (a0.2.2.1 == 0) then (
(impl_isPlayer a0.2.2.2.1).bind fun y1 =>
 some y1)
 else (
 some false)
def impl_onPlayer_c : Ct := .pure true false (.pair T_Event .unit) .bool (fun x => impl_onPlayer x.1)
theorem impl_onPlayer_ct : CtOk Try.prog 64 impl_onPlayer_c := pure_ct (E := { T := tab, G := [(70, impl_isPlayer_c)] }) (EnvOk.cons impl_isPlayer_ct (EnvOk.nil tabOk)) mixed (fn := Try.f64) _ _ _ _ _ .none Try.func64 (by kernel_rfl) (fun x => by kernel_rfl)
/-! loop.example/g00486/impl.isZone -/
def impl_isZone (a0 : Int) : Option Bool :=
(impl_from a0 1 4).bind fun y1 =>
 some y1
def impl_isZone_c : Ct := .pure true false (.pair (.int .i64) .unit) .bool (fun x => impl_isZone x.1)
theorem impl_isZone_ct : CtOk Try.prog 65 impl_isZone_c := pure_ct (E := { T := tab, G := [(69, impl_from_c)] }) (EnvOk.cons impl_from_ct (EnvOk.nil tabOk)) mixed (fn := Try.f65) _ _ _ _ _ .none Try.func65 (by kernel_rfl) (fun x => by kernel_rfl)
/-! loop.example/g00486/impl.EventOk -/
def impl_EventOk (a0 : T_Event.D) : Option Bool :=
(((impl_isAmount a0.2.2.2.2.1).bind fun y1 =>
 bif (!y1) then (
 some true)
 else (
 bif (a0.1 != 1) then (
 bif (a0.2.1 != 0) then (
 some true)
 else (
 bif (a0.1 != 2) then (
 bif (a0.2.2.2.2.2.1 != 0) then (
 some true)
 else (
 some a0.2.2.2.2.2.2.1))
 else (
 some false)))
 else (
 bif (a0.1 != 2) then (
 bif (a0.2.2.2.2.2.1 != 0) then (
 some true)
 else (
 some a0.2.2.2.2.2.2.1))
 else (
 some false)))) : Option Bool).bind fun o2 =>
 bif o2 then (
 some false)
 else (
 bif (a0.1 == 1) then (
(impl_isId a0.2.1).bind fun y3 =>
 bif y3 then (
(impl_onPiece a0).bind fun y4 =>
 bif y4 then (
 some true)
 else (
(impl_onPlayer a0).bind fun y5 =>
 some y5))
 else (
 some false))
 else (
 bif (a0.1 == 2) then (
 bif (a0.2.2.2.2.2.1 == 2) then (
(((impl_onPiece a0).bind fun y6 =>
 bif y6 then (
 some (decide (a0.2.2.2.2.1 ≤ 99)))
 else (
 some false)) : Option Bool).bind fun o7 =>
 some o7)
 else (
(impl_onPiece a0).bind fun y8 =>
 bif y8 then (
(impl_isZone a0.2.2.2.2.2.1).bind fun y9 =>
 bif y9 then (
 bif (a0.2.2.2.2.1 == 0) then (
 some (!a0.2.2.2.2.2.2.1))
 else (
 some false))
 else (
 some false))
 else (
 some false)))
 else (
((bif (a0.1 == 3) then (
 some (a0.1 == 3))
 else (
 some (a0.1 == 4))) : Option Bool).bind fun o10 =>
 bif o10 then (
(impl_onPlayer a0).bind fun y11 =>
 some y11)
 else (
((bif (a0.1 == 5) then (
 some (a0.1 == 5))
 else (
 some (a0.1 == 6))) : Option Bool).bind fun o12 =>
 bif o12 then (
(impl_onPiece a0).bind fun y13 =>
 some y13)
 else (
 some false)))))
def impl_EventOk_h : Hints := (.node none none .none (.node none none (.node none none (.node (some ⟨[.tmp 30 .bool], [none], none, []⟩) none .none .none) .none) (.node none none (.node none none .none (.node none none (.node none none .none (.node none none .none (.node none none .none (.node none none (.node none none (.node none none .none (.node none none (.node none none (.node (some ⟨[.tmp 2 .bool], [none], none, []⟩) none .none .none) .none) .none)) .none) (.node none none (.node none none .none (.node (some ⟨[.tmp 75 .bool], [none], none, []⟩) none .none .none)) (.node none none .none (.node none none (.node none none .none (.node (some ⟨[.tmp 80 .bool], [none], none, []⟩) none .none .none)) .none))))))) .none)) .none)))
def impl_EventOk_c : Ct := .pure true false (.pair T_Event .unit) .bool (fun x => impl_EventOk x.1)
theorem impl_EventOk_ct : CtOk Try.prog 45 impl_EventOk_c := pure_ct (E := { T := tab, G := [(61, impl_isAmount_c), (62, impl_isId_c), (63, impl_onPiece_c), (64, impl_onPlayer_c), (65, impl_isZone_c)] }) (EnvOk.cons impl_isAmount_ct (EnvOk.cons impl_isId_ct (EnvOk.cons impl_onPiece_ct (EnvOk.cons impl_onPlayer_ct (EnvOk.cons impl_isZone_ct (EnvOk.nil tabOk)))))) mixed (fn := Try.f45) _ _ _ _ _ impl_EventOk_h Try.func45 (by kernel_rfl) (fun x => by kernel_rfl)
/-! loop.example/g00486/impl.BatchOk$1 -/
def impl_BatchOk_1 (a0 : T_Event.D) : Option Bool :=
(impl_EventOk a0).bind fun y1 =>
 some (!y1)
def impl_BatchOk_1_c : Ct := .pure true false (.pair T_Event .unit) .bool (fun x => impl_BatchOk_1 x.1)
theorem impl_BatchOk_1_ct : CtOk Try.prog 44 impl_BatchOk_1_c := pure_ct (E := { T := tab, G := [(45, impl_EventOk_c)] }) (EnvOk.cons impl_EventOk_ct (EnvOk.nil tabOk)) mixed (fn := Try.f44) _ _ _ _ _ .none Try.func44 (by kernel_rfl) (fun x => by kernel_rfl)
/-! loop.example/g00486/impl.BatchOk -/
def impl_BatchOk (a0 : (List T_Event.D)) : Option Bool :=
 bif decide ((a0.length : Int) ≤ 4) then (
(slices_ContainsFunc_impl_Event a0 (fun q => impl_BatchOk_1 q.1)).bind fun y1 =>
 some (!y1))
 else (
 some false)
def impl_BatchOk_c : Ct := .pure true false (.pair (.slice T_Event) .unit) .bool (fun x => impl_BatchOk x.1)
theorem impl_BatchOk_ct : CtOk Try.prog 20 impl_BatchOk_c := pure_ct (E := { T := tab, G := [(43, slices_ContainsFunc_impl_Event_c), (44, impl_BatchOk_1_c)] }) (EnvOk.cons slices_ContainsFunc_impl_Event_ct (EnvOk.cons impl_BatchOk_1_ct (EnvOk.nil tabOk))) mixed (fn := Try.f20) _ _ _ _ _ .none Try.func20 (by kernel_rfl) (fun x => by kernel_rfl)
/-! loop.example/g00486/laws.FnExactBatchOk -/
def laws_FnExactBatchOk (a0 : (List T_Event.D)) : Option Bool :=
(laws_szEventS a0 1048576).bind fun y1 =>
 bif decide (y1 < 0) then (
 some true)
 else (
(laws_toEventS a0).bind fun y2 =>
(spec_BatchOk y2).bind fun y3 =>
(laws_toEventS a0).bind fun y4 =>
(impl_BatchOk y4).bind fun y5 =>
 bif (y5 != y3) then (
 some false)
 else (
(laws_toEventS a0).bind fun y6 =>
(laws_eqEventS y4 y6).bind fun y7 =>
 bif (!y7) then (
 some false)
 else (
 some true)))
def laws_FnExactBatchOk_c : Ct := .pure true false (.pair (.slice T_Event) .unit) .bool (fun x => laws_FnExactBatchOk x.1)
theorem laws_FnExactBatchOk_ct : CtOk Try.prog 6 laws_FnExactBatchOk_c := pure_ct (E := { T := tab, G := [(14, laws_szEventS_c), (16, laws_toEventS_fresh_c), (18, laws_eqEventS_c), (19, spec_BatchOk_c), (20, impl_BatchOk_c)] }) (EnvOk.cons laws_szEventS_ct (EnvOk.cons laws_toEventS_fresh_ct (EnvOk.cons laws_eqEventS_ct (EnvOk.cons spec_BatchOk_ct (EnvOk.cons impl_BatchOk_ct (EnvOk.nil tabOk)))))) mixed (fn := Try.f6) _ _ _ _ _ .none Try.func6 (by kernel_rfl) (fun x => by kernel_rfl)
/-! loop.example/g00486/laws.szTriggerS -/
def laws_szTriggerS (a0 : (List T_Trigger.D)) (a1 : Int) : Option Int :=
 bif decide ((IntKind.wrap .i64 (a1 - (a0.length : Int))) < 0) then (
 some (-1))
 else (
 some (IntKind.wrap .i64 (a1 - (a0.length : Int))))
def laws_szTriggerS_c : Ct := .pure true false (.pair (.slice T_Trigger) (.pair (.int .i64) .unit)) (.int .i64) (fun x => laws_szTriggerS x.1 x.2.1)
theorem laws_szTriggerS_ct : CtOk Try.prog 21 laws_szTriggerS_c := pure_ct (E := { T := tab, G := [] }) (EnvOk.nil tabOk) mixed (fn := Try.f21) _ _ _ _ _ .none Try.func21 (by kernel_rfl) (fun x => by kernel_rfl)
/-! loop.example/g00486/laws.toTrigger -/
def laws_toTrigger (a0 : T_Trigger.D) : Option T_Trigger.D :=
(laws_toPiece a0.2.2.2.1).bind fun y1 =>
 some (a0.1, a0.2.1, a0.2.2.1, y1, ())
def laws_toTrigger_c : Ct := .pure true false (.pair T_Trigger .unit) T_Trigger (fun x => laws_toTrigger x.1)
theorem laws_toTrigger_ct : CtOk Try.prog 46 laws_toTrigger_c := pure_ct (E := { T := tab, G := [(10, laws_toPiece_c)] }) (EnvOk.cons laws_toPiece_ct (EnvOk.nil tabOk)) mixed (fn := Try.f46) _ _ _ _ _ .none Try.func46 (by kernel_rfl) (fun x => by kernel_rfl)
/-! loop.example/g00486/laws.toTriggerS -/
def laws_toTriggerS_l1 (a0 : (List T_Trigger.D)) : ((List T_Trigger.D) × Int) → Option (((List T_Trigger.D) × Int) ⊕ ((List T_Trigger.D) × Int)) := fun s2 =>
 bif decide (s2.2 < (a0.length : Int)) then (
 idx a0 s2.2 fun x3 =>
(laws_toTrigger x3).bind fun y4 =>
 idx s2.1 s2.2 fun _ =>
(s2.1[(s2.2).toNat]?).bind fun x5 =>
 some (.inl ((s2.1.set (s2.2).toNat y4), IntKind.wrap .i64 (s2.2 + 1))))
 else (
 some (.inr s2))
def laws_toTriggerS (a0 : (List T_Trigger.D)) : Option (List T_Trigger.D) :=
 if 0 ≤ (a0.length : Int) then (if ((a0.length : Int)).toNat * (24 * 16) ≤ room then (
(while_ (laws_toTriggerS_l1 a0) ((List.replicate ((a0.length : Int)).toNat (0, 0, 0, (0, 0, 0, 0, 0, 0, 0, 0, 0, 0, 0, false, false, ()), ())), 0)).bind fun o6 =>
 some o6.1) else none) else none
def laws_toTriggerS_h : Hints := (.node none none .none (.node none none .none (.node none none (.node none none .none (.node none none (.node none (some ⟨[.tmpO 3 0 (.slice T_Trigger), .tmp 4 (.int .i64)], [some 0], none, []⟩) .none .none) .none)) .none)))
def laws_toTriggerS_c : Ct := .pure true false (.pair (.slice T_Trigger) .unit) (.slice T_Trigger) (fun x => laws_toTriggerS x.1)
theorem laws_toTriggerS_ct : CtOk Try.prog 23 laws_toTriggerS_c := pure_ct (E := { T := tab, G := [(46, laws_toTrigger_c)] }) (EnvOk.cons laws_toTrigger_ct (EnvOk.nil tabOk)) mixed (fn := Try.f23) _ _ _ _ _ laws_toTriggerS_h Try.func23 (by kernel_rfl) (fun x => by kernel_rfl)
def laws_toTriggerS_fresh_c : Ct := .pure true true (.pair (.slice T_Trigger) .unit) (.slice T_Trigger) (fun x => laws_toTriggerS x.1)
theorem laws_toTriggerS_fresh_ct : CtOk Try.prog 23 laws_toTriggerS_fresh_c := pure_ct (E := { T := tab, G := [(46, laws_toTrigger_c)] }) (EnvOk.cons laws_toTrigger_ct (EnvOk.nil tabOk)) mixed (fn := Try.f23) _ _ _ _ _ laws_toTriggerS_h Try.func23 (by kernel_rfl) (fun x => by kernel_rfl)
/-! loop.example/g00486/spec.SameTriggers -/
def spec_SameTriggers_l1 (a0 : (List T_Trigger.D)) (a1 : (List T_Trigger.D)) : Int → Option (Int ⊕ (Int ⊕ Bool)) := fun s1 =>
 bif decide (s1 < (a0.length : Int)) then (
 idx a0 s1 fun x2 =>
 idx a1 s1 fun x3 =>
 bif (!((x2.1 == x3.1) && ((x2.2.1 == x3.2.1) && ((x2.2.2.1 == x3.2.2.1) && (((x2.2.2.2.1.1 == x3.2.2.2.1.1) && ((x2.2.2.2.1.2.1 == x3.2.2.2.1.2.1) && ((x2.2.2.2.1.2.2.1 == x3.2.2.2.1.2.2.1) && ((x2.2.2.2.1.2.2.2.1 == x3.2.2.2.1.2.2.2.1) && ((x2.2.2.2.1.2.2.2.2.1 == x3.2.2.2.1.2.2.2.2.1) && ((x2.2.2.2.1.2.2.2.2.2.1 == x3.2.2.2.1.2.2.2.2.2.1) && ((x2.2.2.2.1.2.2.2.2.2.2.1 == x3.2.2.2.1.2.2.2.2.2.2.1) && ((x2.2.2.2.1.2.2.2.2.2.2.2.1 == x3.2.2.2.1.2.2.2.2.2.2.2.1) && ((x2.2.2.2.1.2.2.2.2.2.2.2.2.1 == x3.2.2.2.1.2.2.2.2.2.2.2.2.1) && ((x2.2.2.2.1.2.2.2.2.2.2.2.2.2.1 == x3.2.2.2.1.2.2.2.2.2.2.2.2.2.1) && ((x2.2.2.2.1.2.2.2.2.2.2.2.2.2.2.1 == x3.2.2.2.1.2.2.2.2.2.2.2.2.2.2.1) && ((x2.2.2.2.1.2.2.2.2.2.2.2.2.2.2.2.1 == x3.2.2.2.1.2.2.2.2.2.2.2.2.2.2.2.1) && ((x2.2.2.2.1.2.2.2.2.2.2.2.2.2.2.2.2.1 == x3.2.2.2.1.2.2.2.2.2.2.2.2.2.2.2.2.1) && true))))))))))))) && true))))) then (
 some (.inr (.inr false)))
 else (
 some (.inl (IntKind.wrap .i64 (s1 + 1)))))
 else (
 some (.inr (.inl s1)))
def spec_SameTriggers (a0 : (List T_Trigger.D)) (a1 : (List T_Trigger.D)) : Option Bool :=
 bif ((a0.length : Int) != (a1.length : Int)) then (
 some false)
 else (
(while_ (spec_SameTriggers_l1 a0 a1) 0).bind fun o4 =>
 match o4 with
| .inl s5 => (
 some true)
| .inr o6 => (
 some o6))
def spec_SameTriggers_h : Hints := (.node none none .none (.node none none .none (.node none none (.node none none .none (.node none none (.node none (some ⟨[.tmp 5 (.int .i64)], [some 0], some [.tmp 4 .bool], []⟩) .none .none) .none)) .none)))
def spec_SameTriggers_c : Ct := .pure true false (.pair (.slice T_Trigger) (.pair (.slice T_Trigger) .unit)) .bool (fun x => spec_SameTriggers x.1 x.2.1)
theorem spec_SameTriggers_ct : CtOk Try.prog 22 spec_SameTriggers_c := pure_ct (E := { T := tab, G := [] }) (EnvOk.nil tabOk) mixed (fn := Try.f22) _ _ _ _ _ spec_SameTriggers_h Try.func22 (by kernel_rfl) (fun x => by kernel_rfl)
/-! slices.Equal[[]loop.example/g00486/impl.Trigger,loop.example/g00486/impl.Trigger] -/
def slices_Equal_impl_Trigger_l1 (a0 : (List T_Trigger.D)) (a1 : (List T_Trigger.D)) : Int → Option (Int ⊕ (Int ⊕ Bool)) := fun s1 =>
 bif decide (s1 < (a0.length : Int)) then (
 idx a0 s1 fun x2 =>
 idx a1 s1 fun x3 =>
 bif (!((x2.1 == x3.1) && ((x2.2.1 == x3.2.1) && ((x2.2.2.1 == x3.2.2.1) && (((x2.2.2.2.1.1 == x3.2.2.2.1.1) && ((x2.2.2.2.1.2.1 == x3.2.2.2.1.2.1) && ((x2.2.2.2.1.2.2.1 == x3.2.2.2.1.2.2.1) && ((x2.2.2.2.1.2.2.2.1 == x3.2.2.2.1.2.2.2.1) && ((x2.2.2.2.1.2.2.2.2.1 == x3.2.2.2.1.2.2.2.2.1) && ((x2.2.2.2.1.2.2.2.2.2.1 == x3.2.2.2.1.2.2.2.2.2.1) && ((x2.2.2.2.1.2.2.2.2.2.2.1 == x3.2.2.2.1.2.2.2.2.2.2.1) && ((x2.2.2.2.1.2.2.2.2.2.2.2.1 == x3.2.2.2.1.2.2.2.2.2.2.2.1) && ((x2.2.2.2.1.2.2.2.2.2.2.2.2.1 == x3.2.2.2.1.2.2.2.2.2.2.2.2.1) && ((x2.2.2.2.1.2.2.2.2.2.2.2.2.2.1 == x3.2.2.2.1.2.2.2.2.2.2.2.2.2.1) && ((x2.2.2.2.1.2.2.2.2.2.2.2.2.2.2.1 == x3.2.2.2.1.2.2.2.2.2.2.2.2.2.2.1) && ((x2.2.2.2.1.2.2.2.2.2.2.2.2.2.2.2.1 == x3.2.2.2.1.2.2.2.2.2.2.2.2.2.2.2.1) && ((x2.2.2.2.1.2.2.2.2.2.2.2.2.2.2.2.2.1 == x3.2.2.2.1.2.2.2.2.2.2.2.2.2.2.2.2.1) && true))))))))))))) && true))))) then (
 some (.inr (.inr false)))
 else (
 some (.inl (IntKind.wrap .i64 (s1 + 1)))))
 else (
 some (.inr (.inl s1)))
def slices_Equal_impl_Trigger (a0 : (List T_Trigger.D)) (a1 : (List T_Trigger.D)) : Option Bool :=
 bif ((a0.length : Int) != (a1.length : Int)) then (
 some false)
 else (
(while_ (slices_Equal_impl_Trigger_l1 a0 a1) 0).bind fun o4 =>
 match o4 with
| .inl s5 => (
 some true)
| .inr o6 => (
 some o6))
def slices_Equal_impl_Trigger_h : Hints := (.node none none .none (.node none none .none (.node none none (.node none none .none (.node none none (.node none (some ⟨[.tmp 13 (.int .i64)], [some 0], some [.tmp 4 .bool], []⟩) .none .none) .none)) .none)))
def slices_Equal_impl_Trigger_c : Ct := .pure true false (.pair (.slice T_Trigger) (.pair (.slice T_Trigger) .unit)) .bool (fun x => slices_Equal_impl_Trigger x.1 x.2.1)
theorem slices_Equal_impl_Trigger_ct : CtOk Try.prog 47 slices_Equal_impl_Trigger_c := pure_ct (E := { T := tab, G := [] }) (EnvOk.nil tabOk) mixed (fn := Try.f47) _ _ _ _ _ slices_Equal_impl_Trigger_h Try.func47 (by kernel_rfl) (fun x => by kernel_rfl)
/-! loop.example/g00486/impl.SameTriggers -/
def impl_SameTriggers (a0 : (List T_Trigger.D)) (a1 : (List T_Trigger.D)) : Option Bool :=
(slices_Equal_impl_Trigger a0 a1).bind fun y1 =>
 some y1
def impl_SameTriggers_c : Ct := .pure true false (.pair (.slice T_Trigger) (.pair (.slice T_Trigger) .unit)) .bool (fun x => impl_SameTriggers x.1 x.2.1)
theorem impl_SameTriggers_ct : CtOk Try.prog 24 impl_SameTriggers_c := pure_ct (E := { T := tab, G := [(47, slices_Equal_impl_Trigger_c)] }) (EnvOk.cons slices_Equal_impl_Trigger_ct (EnvOk.nil tabOk)) mixed (fn := Try.f24) _ _ _ _ _ .none Try.func24 (by kernel_rfl) (fun x => by kernel_rfl)
/-! loop.example/g00486/laws.eqPiece -/
def laws_eqPiece (a0 : T_Piece.D) (a1 : T_Piece.D) : Option Bool :=
 bif (a0.1 != a1.1) then (
 some false)
 else (
 bif (a0.2.1 != a1.2.1) then (
 some false)
 else (
 bif (a0.2.2.1 != a1.2.2.1) then (
 some false)
 else (
 bif (a0.2.2.2.1 != a1.2.2.2.1) then (
 some false)
 else (
 bif (a0.2.2.2.2.1 != a1.2.2.2.2.1) then (
 some false)
 else (
 bif (a0.2.2.2.2.2.1 != a1.2.2.2.2.2.1) then (
 some false)
 else (
 bif (a0.2.2.2.2.2.2.1 != a1.2.2.2.2.2.2.1) then (
 some false)
 else (
 bif (a0.2.2.2.2.2.2.2.1 != a1.2.2.2.2.2.2.2.1) then (
 some false)
 else (
 bif (a0.2.2.2.2.2.2.2.2.1 != a1.2.2.2.2.2.2.2.2.1) then (
 some false)
 else (
 bif (a0.2.2.2.2.2.2.2.2.2.1 != a1.2.2.2.2.2.2.2.2.2.1) then (
 some false)
 else (
 bif (a0.2.2.2.2.2.2.2.2.2.2.1 != a1.2.2.2.2.2.2.2.2.2.2.1) then (
 some false)
 else (
 bif (a0.2.2.2.2.2.2.2.2.2.2.2.1 != a1.2.2.2.2.2.2.2.2.2.2.2.1) then (
 some false)
 else (
 bif (a0.2.2.2.2.2.2.2.2.2.2.2.2.1 != a1.2.2.2.2.2.2.2.2.2.2.2.2.1) then (
 some false)
 else (
 some true)))))))))))))
def laws_eqPiece_c : Ct := .pure true false (.pair T_Piece (.pair T_Piece .unit)) .bool (fun x => laws_eqPiece x.1 x.2.1)
theorem laws_eqPiece_ct : CtOk Try.prog 66 laws_eqPiece_c := pure_ct (E := { T := tab, G := [] }) (EnvOk.nil tabOk) mixed (fn := Try.f66) _ _ _ _ _ .none Try.func66 (by kernel_rfl) (fun x => by kernel_rfl)
/-! loop.example/g00486/laws.eqTrigger -/
def laws_eqTrigger (a0 : T_Trigger.D) (a1 : T_Trigger.D) : Option Bool :=
 bif (a0.1 != a1.1) then (
 some false)
 else (
 bif (a0.2.1 != a1.2.1) then (
 some false)
 else (
 bif (a0.2.2.1 != a1.2.2.1) then (
 some false)
 else (
(laws_eqPiece a0.2.2.2.1 a1.2.2.2.1).bind fun y1 =>
 bif (!y1) then (
 some false)
 else (
 some true))))
def laws_eqTrigger_c : Ct := .pure true false (.pair T_Trigger (.pair T_Trigger .unit)) .bool (fun x => laws_eqTrigger x.1 x.2.1)
theorem laws_eqTrigger_ct : CtOk Try.prog 48 laws_eqTrigger_c := pure_ct (E := { T := tab, G := [(66, laws_eqPiece_c)] }) (EnvOk.cons laws_eqPiece_ct (EnvOk.nil tabOk)) mixed (fn := Try.f48) _ _ _ _ _ .none Try.func48 (by kernel_rfl) (fun x => by kernel_rfl)
/-! loop.example/g00486/laws.eqTriggerS -/
def laws_eqTriggerS_l1 (a0 : (List T_Trigger.D)) (a1 : (List T_Trigger.D)) : Int → Option (Int ⊕ (Int ⊕ Bool)) := fun s1 =>
 bif decide (s1 < (a0.length : Int)) then (
 idx a0 s1 fun x2 =>
 idx a1 s1 fun x3 =>
(laws_eqTrigger x2 x3).bind fun y4 =>
 bif (!y4) then (
 some (.inr (.inr false)))
 else (
 some (.inl (IntKind.wrap .i64 (s1 + 1)))))
 else (
 some (.inr (.inl s1)))
def laws_eqTriggerS (a0 : (List T_Trigger.D)) (a1 : (List T_Trigger.D)) : Option Bool :=
 bif ((a0.length : Int) != (a1.length : Int)) then (
 some false)
 else (
(while_ (laws_eqTriggerS_l1 a0 a1) 0).bind fun o5 =>
 match o5 with
| .inl s6 => (
 some true)
| .inr o7 => (
 some o7))
def laws_eqTriggerS_h : Hints := (.node none none .none (.node none none .none (.node none none (.node none none .none (.node none none (.node none (some ⟨[.tmp 5 (.int .i64)], [some 0], some [.tmp 4 .bool], []⟩) .none .none) .none)) .none)))
def laws_eqTriggerS_c : Ct := .pure true false (.pair (.slice T_Trigger) (.pair (.slice T_Trigger) .unit)) .bool (fun x => laws_eqTriggerS x.1 x.2.1)
theorem laws_eqTriggerS_ct : CtOk Try.prog 25 laws_eqTriggerS_c := pure_ct (E := { T := tab, G := [(48, laws_eqTrigger_c)] }) (EnvOk.cons laws_eqTrigger_ct (EnvOk.nil tabOk)) mixed (fn := Try.f25) _ _ _ _ _ laws_eqTriggerS_h Try.func25 (by kernel_rfl) (fun x => by kernel_rfl)
/-! loop.example/g00486/laws.FnExactSameTriggers -/
def laws_FnExactSameTriggers (a0 : (List T_Trigger.D)) (a1 : (List T_Trigger.D)) : Option Bool :=
(laws_szTriggerS a0 1048576).bind fun y1 =>
 bif decide (y1 < 0) then (
 some true)
 else (
(laws_szTriggerS a1 y1).bind fun y2 =>
 bif decide (y2 < 0) then (
 some true)
 else (
(laws_toTriggerS a0).bind fun y3 =>
(laws_toTriggerS a1).bind fun y4 =>
(spec_SameTriggers y3 y4).bind fun y5 =>
(laws_toTriggerS a0).bind fun y6 =>
(laws_toTriggerS a1).bind fun y7 =>
(impl_SameTriggers y6 y7).bind fun y8 =>
 bif (y8 != y5) then (
 some false)
 else (
(laws_toTriggerS a0).bind fun y9 =>
(laws_eqTriggerS y6 y9).bind fun y10 =>
 bif (!y10) then (
 some false)
 else (
(laws_toTriggerS a1).bind fun y11 =>
(laws_eqTriggerS y7 y11).bind fun y12 =>
 bif (!y12) then (
 some false)
 else (
 some true)))))
def laws_FnExactSameTriggers_c : Ct := .pure true false (.pair (.slice T_Trigger) (.pair (.slice T_Trigger) .unit)) .bool (fun x => laws_FnExactSameTriggers x.1 x.2.1)
theorem laws_FnExactSameTriggers_ct : CtOk Try.prog 7 laws_FnExactSameTriggers_c := pure_ct (E := { T := tab, G := [(21, laws_szTriggerS_c), (22, spec_SameTriggers_c), (23, laws_toTriggerS_fresh_c), (24, impl_SameTriggers_c), (25, laws_eqTriggerS_c)] }) (EnvOk.cons laws_szTriggerS_ct (EnvOk.cons spec_SameTriggers_ct (EnvOk.cons laws_toTriggerS_fresh_ct (EnvOk.cons impl_SameTriggers_ct (EnvOk.cons laws_eqTriggerS_ct (EnvOk.nil tabOk)))))) mixed (fn := Try.f7) _ _ _ _ _ .none Try.func7 (by kernel_rfl) (fun x => by kernel_rfl)
/-! loop.example/g00486/laws.szPieceS -/
def laws_szPieceS (a0 : (List T_Piece.D)) (a1 : Int) : Option Int :=
 bif decide ((IntKind.wrap .i64 (a1 - (a0.length : Int))) < 0) then (
 some (-1))
 else (
 some (IntKind.wrap .i64 (a1 - (a0.length : Int))))
def laws_szPieceS_c : Ct := .pure true false (.pair (.slice T_Piece) (.pair (.int .i64) .unit)) (.int .i64) (fun x => laws_szPieceS x.1 x.2.1)
theorem laws_szPieceS_ct : CtOk Try.prog 49 laws_szPieceS_c := pure_ct (E := { T := tab, G := [] }) (EnvOk.nil tabOk) mixed (fn := Try.f49) _ _ _ _ _ .none Try.func49 (by kernel_rfl) (fun x => by kernel_rfl)
/-! loop.example/g00486/laws.szSideS -/
def laws_szSideS (a0 : (List T_Side.D)) (a1 : Int) : Option Int :=
 bif decide ((IntKind.wrap .i64 (a1 - (a0.length : Int))) < 0) then (
 some (-1))
 else (
 some (IntKind.wrap .i64 (a1 - (a0.length : Int))))
def laws_szSideS_c : Ct := .pure true false (.pair (.slice T_Side) (.pair (.int .i64) .unit)) (.int .i64) (fun x => laws_szSideS x.1 x.2.1)
theorem laws_szSideS_ct : CtOk Try.prog 50 laws_szSideS_c := pure_ct (E := { T := tab, G := [] }) (EnvOk.nil tabOk) mixed (fn := Try.f50) _ _ _ _ _ .none Try.func50 (by kernel_rfl) (fun x => by kernel_rfl)
/-! loop.example/g00486/laws.szState -/
def laws_szState (a0 : T_State.D) (a1 : Int) : Option Int :=
(laws_szPieceS a0.1 a1).bind fun y1 =>
 bif decide (y1 < 0) then (
 some (-1))
 else (
(laws_szSideS a0.2.1 y1).bind fun y2 =>
 bif decide (y2 < 0) then (
 some (-1))
 else (
 some y2))
def laws_szState_c : Ct := .pure true false (.pair T_State (.pair (.int .i64) .unit)) (.int .i64) (fun x => laws_szState x.1 x.2.1)
theorem laws_szState_ct : CtOk Try.prog 26 laws_szState_c := pure_ct (E := { T := tab, G := [(49, laws_szPieceS_c), (50, laws_szSideS_c)] }) (EnvOk.cons laws_szPieceS_ct (EnvOk.cons laws_szSideS_ct (EnvOk.nil tabOk))) mixed (fn := Try.f26) _ _ _ _ _ .none Try.func26 (by kernel_rfl) (fun x => by kernel_rfl)
/-! loop.example/g00486/laws.toPieceS -/
def laws_toPieceS_l1 (a0 : (List T_Piece.D)) : ((List T_Piece.D) × Int) → Option (((List T_Piece.D) × Int) ⊕ ((List T_Piece.D) × Int)) := fun s2 =>
 bif decide (s2.2 < (a0.length : Int)) then (
 idx a0 s2.2 fun x3 =>
(laws_toPiece x3).bind fun y4 =>
 idx s2.1 s2.2 fun _ =>
(s2.1[(s2.2).toNat]?).bind fun x5 =>
 some (.inl ((s2.1.set (s2.2).toNat y4), IntKind.wrap .i64 (s2.2 + 1))))
 else (
 some (.inr s2))
def laws_toPieceS (a0 : (List T_Piece.D)) : Option (List T_Piece.D) :=
 if 0 ≤ (a0.length : Int) then (if ((a0.length : Int)).toNat * (24 * 13) ≤ room then (
(while_ (laws_toPieceS_l1 a0) ((List.replicate ((a0.length : Int)).toNat (0, 0, 0, 0, 0, 0, 0, 0, 0, 0, 0, false, false, ())), 0)).bind fun o6 =>
 some o6.1) else none) else none
def laws_toPieceS_h : Hints := (.node none none .none (.node none none .none (.node none none (.node none none .none (.node none none (.node none (some ⟨[.tmpO 3 0 (.slice T_Piece), .tmp 4 (.int .i64)], [some 0], none, []⟩) .none .none) .none)) .none)))
def laws_toPieceS_c : Ct := .pure true false (.pair (.slice T_Piece) .unit) (.slice T_Piece) (fun x => laws_toPieceS x.1)
theorem laws_toPieceS_ct : CtOk Try.prog 51 laws_toPieceS_c := pure_ct (E := { T := tab, G := [(10, laws_toPiece_c)] }) (EnvOk.cons laws_toPiece_ct (EnvOk.nil tabOk)) mixed (fn := Try.f51) _ _ _ _ _ laws_toPieceS_h Try.func51 (by kernel_rfl) (fun x => by kernel_rfl)
def laws_toPieceS_fresh_c : Ct := .pure true true (.pair (.slice T_Piece) .unit) (.slice T_Piece) (fun x => laws_toPieceS x.1)
theorem laws_toPieceS_fresh_ct : CtOk Try.prog 51 laws_toPieceS_fresh_c := pure_ct (E := { T := tab, G := [(10, laws_toPiece_c)] }) (EnvOk.cons laws_toPiece_ct (EnvOk.nil tabOk)) mixed (fn := Try.f51) _ _ _ _ _ laws_toPieceS_h Try.func51 (by kernel_rfl) (fun x => by kernel_rfl)
/-! loop.example/g00486/laws.toSide -/
def laws_toSide (a0 : T_Side.D) : Option T_Side.D :=
 some a0
def laws_toSide_c : Ct := .pure true false (.pair T_Side .unit) T_Side (fun x => laws_toSide x.1)
theorem laws_toSide_ct : CtOk Try.prog 67 laws_toSide_c := pure_ct (E := { T := tab, G := [] }) (EnvOk.nil tabOk) mixed (fn := Try.f67) _ _ _ _ _ .none Try.func67 (by kernel_rfl) (fun x => by kernel_rfl)
/-! loop.example/g00486/laws.toSideS -/
def laws_toSideS_l1 (a0 : (List T_Side.D)) : ((List T_Side.D) × Int) → Option (((List T_Side.D) × Int) ⊕ ((List T_Side.D) × Int)) := fun s2 =>
 bif decide (s2.2 < (a0.length : Int)) then (
 idx a0 s2.2 fun x3 =>
(laws_toSide x3).bind fun y4 =>
 idx s2.1 s2.2 fun _ =>
(s2.1[(s2.2).toNat]?).bind fun x5 =>
 some (.inl ((s2.1.set (s2.2).toNat y4), IntKind.wrap .i64 (s2.2 + 1))))
 else (
 some (.inr s2))
def laws_toSideS (a0 : (List T_Side.D)) : Option (List T_Side.D) :=
 if 0 ≤ (a0.length : Int) then (if ((a0.length : Int)).toNat * (24 * 3) ≤ room then (
(while_ (laws_toSideS_l1 a0) ((List.replicate ((a0.length : Int)).toNat (0, 0, false, ())), 0)).bind fun o6 =>
 some o6.1) else none) else none
def laws_toSideS_h : Hints := (.node none none .none (.node none none .none (.node none none (.node none none .none (.node none none (.node none (some ⟨[.tmpO 3 0 (.slice T_Side), .tmp 4 (.int .i64)], [some 0], none, []⟩) .none .none) .none)) .none)))
def laws_toSideS_c : Ct := .pure true false (.pair (.slice T_Side) .unit) (.slice T_Side) (fun x => laws_toSideS x.1)
theorem laws_toSideS_ct : CtOk Try.prog 52 laws_toSideS_c := pure_ct (E := { T := tab, G := [(67, laws_toSide_c)] }) (EnvOk.cons laws_toSide_ct (EnvOk.nil tabOk)) mixed (fn := Try.f52) _ _ _ _ _ laws_toSideS_h Try.func52 (by kernel_rfl) (fun x => by kernel_rfl)
def laws_toSideS_fresh_c : Ct := .pure true true (.pair (.slice T_Side) .unit) (.slice T_Side) (fun x => laws_toSideS x.1)
theorem laws_toSideS_fresh_ct : CtOk Try.prog 52 laws_toSideS_fresh_c := pure_ct (E := { T := tab, G := [(67, laws_toSide_c)] }) (EnvOk.cons laws_toSide_ct (EnvOk.nil tabOk)) mixed (fn := Try.f52) _ _ _ _ _ laws_toSideS_h Try.func52 (by kernel_rfl) (fun x => by kernel_rfl)
/-! loop.example/g00486/laws.toState -/
def laws_toState (a0 : T_State.D) : Option T_State.D :=
(laws_toPieceS a0.1).bind fun y1 =>
(laws_toSideS a0.2.1).bind fun y2 =>
 some (y1, y2, a0.2.2)
def laws_toState_c : Ct := .pure true false (.pair T_State .unit) T_State (fun x => laws_toState x.1)
theorem laws_toState_ct : CtOk Try.prog 28 laws_toState_c := pure_ct (E := { T := tab, G := [(51, laws_toPieceS_fresh_c), (52, laws_toSideS_fresh_c)] }) (EnvOk.cons laws_toPieceS_fresh_ct (EnvOk.cons laws_toSideS_fresh_ct (EnvOk.nil tabOk))) mixed (fn := Try.f28) _ _ _ _ _ .none Try.func28 (by kernel_rfl) (fun x => by kernel_rfl)
def laws_toState_fresh_c : Ct := .pure true true (.pair T_State .unit) T_State (fun x => laws_toState x.1)
theorem laws_toState_fresh_ct : CtOk Try.prog 28 laws_toState_fresh_c := pure_ct (E := { T := tab, G := [(51, laws_toPieceS_fresh_c), (52, laws_toSideS_fresh_c)] }) (EnvOk.cons laws_toPieceS_fresh_ct (EnvOk.cons laws_toSideS_fresh_ct (EnvOk.nil tabOk))) mixed (fn := Try.f28) _ _ _ _ _ .none Try.func28 (by kernel_rfl) (fun x => by kernel_rfl)
/-! loop.example/g00486/spec.RoundsMost -/
def spec_RoundsMost (a0 : T_State.D) : Option Int :=
 some (IntKind.wrap .i64 ((a0.2.1.length : Int) + (IntKind.wrap .i64 (2 * (a0.1.length : Int)))))
def spec_RoundsMost_c : Ct := .pure true false (.pair T_State .unit) (.int .i64) (fun x => spec_RoundsMost x.1)
theorem spec_RoundsMost_ct : CtOk Try.prog 27 spec_RoundsMost_c := pure_ct (E := { T := tab, G := [] }) (EnvOk.nil tabOk) mixed (fn := Try.f27) _ _ _ _ _ .none Try.func27 (by kernel_rfl) (fun x => by kernel_rfl)
/-! loop.example/g00486/impl.RoundsMost -/
def impl_RoundsMost (a0 : T_State.D) : Option Int :=
 some (IntKind.wrap .i64 ((a0.2.1.length : Int) + (IntKind.wrap .i64 (2 * (a0.1.length : Int)))))
def impl_RoundsMost_c : Ct := .pure true false (.pair T_State .unit) (.int .i64) (fun x => impl_RoundsMost x.1)
theorem impl_RoundsMost_ct : CtOk Try.prog 29 impl_RoundsMost_c := pure_ct (E := { T := tab, G := [] }) (EnvOk.nil tabOk) mixed (fn := Try.f29) _ _ _ _ _ .none Try.func29 (by kernel_rfl) (fun x => by kernel_rfl)
/-! loop.example/g00486/laws.eqPieceS -/
def laws_eqPieceS_l1 (a0 : (List T_Piece.D)) (a1 : (List T_Piece.D)) : Int → Option (Int ⊕ (Int ⊕ Bool)) := fun s1 =>
 bif decide (s1 < (a0.length : Int)) then (
 idx a0 s1 fun x2 =>
 idx a1 s1 fun x3 =>
(laws_eqPiece x2 x3).bind fun y4 =>
 bif (!y4) then (
 some (.inr (.inr false)))
 else (
 some (.inl (IntKind.wrap .i64 (s1 + 1)))))
 else (
 some (.inr (.inl s1)))
def laws_eqPieceS (a0 : (List T_Piece.D)) (a1 : (List T_Piece.D)) : Option Bool :=
 bif ((a0.length : Int) != (a1.length : Int)) then (
 some false)
 else (
(while_ (laws_eqPieceS_l1 a0 a1) 0).bind fun o5 =>
 match o5 with
| .inl s6 => (
 some true)
| .inr o7 => (
 some o7))
def laws_eqPieceS_h : Hints := (.node none none .none (.node none none .none (.node none none (.node none none .none (.node none none (.node none (some ⟨[.tmp 5 (.int .i64)], [some 0], some [.tmp 4 .bool], []⟩) .none .none) .none)) .none)))
def laws_eqPieceS_c : Ct := .pure true false (.pair (.slice T_Piece) (.pair (.slice T_Piece) .unit)) .bool (fun x => laws_eqPieceS x.1 x.2.1)
theorem laws_eqPieceS_ct : CtOk Try.prog 53 laws_eqPieceS_c := pure_ct (E := { T := tab, G := [(66, laws_eqPiece_c)] }) (EnvOk.cons laws_eqPiece_ct (EnvOk.nil tabOk)) mixed (fn := Try.f53) _ _ _ _ _ laws_eqPieceS_h Try.func53 (by kernel_rfl) (fun x => by kernel_rfl)
/-! loop.example/g00486/laws.eqSide -/
def laws_eqSide (a0 : T_Side.D) (a1 : T_Side.D) : Option Bool :=
 bif (a0.1 != a1.1) then (
 some false)
 else (
 bif (a0.2.1 != a1.2.1) then (
 some false)
 else (
 bif (a0.2.2.1 != a1.2.2.1) then (
 some false)
 else (
 some true)))
def laws_eqSide_c : Ct := .pure true false (.pair T_Side (.pair T_Side .unit)) .bool (fun x => laws_eqSide x.1 x.2.1)
theorem laws_eqSide_ct : CtOk Try.prog 68 laws_eqSide_c := pure_ct (E := { T := tab, G := [] }) (EnvOk.nil tabOk) mixed (fn := Try.f68) _ _ _ _ _ .none Try.func68 (by kernel_rfl) (fun x => by kernel_rfl)
/-! loop.example/g00486/laws.eqSideS -/
def laws_eqSideS_l1 (a0 : (List T_Side.D)) (a1 : (List T_Side.D)) : Int → Option (Int ⊕ (Int ⊕ Bool)) := fun s1 =>
 bif decide (s1 < (a0.length : Int)) then (
 idx a0 s1 fun x2 =>
 idx a1 s1 fun x3 =>
(laws_eqSide x2 x3).bind fun y4 =>
 bif (!y4) then (
 some (.inr (.inr false)))
 else (
 some (.inl (IntKind.wrap .i64 (s1 + 1)))))
 else (
 some (.inr (.inl s1)))
def laws_eqSideS (a0 : (List T_Side.D)) (a1 : (List T_Side.D)) : Option Bool :=
 bif ((a0.length : Int) != (a1.length : Int)) then (
 some false)
 else (
(while_ (laws_eqSideS_l1 a0 a1) 0).bind fun o5 =>
 match o5 with
| .inl s6 => (
 some true)
| .inr o7 => (
 some o7))
def laws_eqSideS_h : Hints := (.node none none .none (.node none none .none (.node none none (.node none none .none (.node none none (.node none (some ⟨[.tmp 5 (.int .i64)], [some 0], some [.tmp 4 .bool], []⟩) .none .none) .none)) .none)))
def laws_eqSideS_c : Ct := .pure true false (.pair (.slice T_Side) (.pair (.slice T_Side) .unit)) .bool (fun x => laws_eqSideS x.1 x.2.1)
theorem laws_eqSideS_ct : CtOk Try.prog 54 laws_eqSideS_c := pure_ct (E := { T := tab, G := [(68, laws_eqSide_c)] }) (EnvOk.cons laws_eqSide_ct (EnvOk.nil tabOk)) mixed (fn := Try.f54) _ _ _ _ _ laws_eqSideS_h Try.func54 (by kernel_rfl) (fun x => by kernel_rfl)
/-! loop.example/g00486/laws.eqState -/
def laws_eqState (a0 : T_State.D) (a1 : T_State.D) : Option Bool :=
(laws_eqPieceS a0.1 a1.1).bind fun y1 =>
 bif (!y1) then (
 some false)
 else (
(laws_eqSideS a0.2.1 a1.2.1).bind fun y2 =>
 bif (!y2) then (
 some false)
 else (
 bif (a0.2.2.1 != a1.2.2.1) then (
 some false)
 else (
 bif (a0.2.2.2.1 != a1.2.2.2.1) then (
 some false)
 else (
 some true))))
def laws_eqState_c : Ct := .pure true false (.pair T_State (.pair T_State .unit)) .bool (fun x => laws_eqState x.1 x.2.1)
theorem laws_eqState_ct : CtOk Try.prog 30 laws_eqState_c := pure_ct (E := { T := tab, G := [(53, laws_eqPieceS_c), (54, laws_eqSideS_c)] }) (EnvOk.cons laws_eqPieceS_ct (EnvOk.cons laws_eqSideS_ct (EnvOk.nil tabOk))) mixed (fn := Try.f30) _ _ _ _ _ .none Try.func30 (by kernel_rfl) (fun x => by kernel_rfl)
/-! loop.example/g00486/laws.FnExactRoundsMost -/
def laws_FnExactRoundsMost (a0 : T_State.D) : Option Bool :=
(laws_szState a0 1048576).bind fun y1 =>
 bif decide (y1 < 0) then (
 some true)
 else (
(laws_toState a0).bind fun y2 =>
(spec_RoundsMost y2).bind fun y3 =>
(laws_toState a0).bind fun y4 =>
(impl_RoundsMost y4).bind fun y5 =>
 bif (y5 != y3) then (
 some false)
 else (
(laws_toState a0).bind fun y6 =>
(laws_eqState y4 y6).bind fun y7 =>
 bif (!y7) then (
 some false)
 else (
 some true)))
def laws_FnExactRoundsMost_c : Ct := .pure true false (.pair T_State .unit) .bool (fun x => laws_FnExactRoundsMost x.1)
theorem laws_FnExactRoundsMost_ct : CtOk Try.prog 8 laws_FnExactRoundsMost_c := pure_ct (E := { T := tab, G := [(26, laws_szState_c), (27, spec_RoundsMost_c), (28, laws_toState_fresh_c), (29, impl_RoundsMost_c), (30, laws_eqState_c)] }) (EnvOk.cons laws_szState_ct (EnvOk.cons spec_RoundsMost_ct (EnvOk.cons laws_toState_fresh_ct (EnvOk.cons impl_RoundsMost_ct (EnvOk.cons laws_eqState_ct (EnvOk.nil tabOk)))))) mixed (fn := Try.f8) _ _ _ _ _ .none Try.func8 (by kernel_rfl) (fun x => by kernel_rfl)
end
end Go.Abs
