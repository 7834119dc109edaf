import Derived.Test.YtlcdhpledofneaaProg
import Derived.Test.YtlcdhpledofneaaAbsTab
namespace Go.Abs
open Go.Proofs
set_option maxRecDepth 100000
noncomputable section
@[reducible] def T_Piece : Ty := (.pair (.int .i64) (.pair (.int .i64) (.pair (.int .i64) (.pair (.int .i64) (.pair (.int .i64) (.pair (.int .i64) (.pair (.int .i64) (.pair (.int .i64) (.pair (.int .i64) (.pair (.int .i64) (.pair (.int .i64) (.pair .bool (.pair .bool .unit)))))))))))))
@[reducible] def T_Event : Ty := (.pair (.int .i64) (.pair (.int .i64) (.pair (.int .i64) (.pair (.int .i64) (.pair (.int .i64) (.pair (.int .i64) (.pair .bool .unit)))))))
@[reducible] def T_Trigger : Ty := (.pair (.int .i64) (.pair (.int .i64) (.pair (.int .i64) (.pair T_Piece .unit))))
@[reducible] def T_Side : Ty := (.pair (.int .i64) (.pair (.int .i64) (.pair .bool .unit)))
@[reducible] def T_State : Ty := (.pair (.slice T_Piece) (.pair (.slice T_Side) (.pair (.int .i64) (.pair (.int .i64) .unit))))
@[reducible] def T_S7 : Ty := (.pair (.int .i64) (.pair (.int .i64) (.pair .bool (.pair (.int .u8) .unit))))
def tab : Tab := [
  (2, ⟨.int .i64, 1, 0, (.int .i64), [.int .i64 0]⟩),
  (3, ⟨.int .i64, 1, 0, (.int .i64), [.int .i64 0]⟩),
  (4, ⟨.bool, 1, 0, .bool, [.bool false]⟩),
  (5, ⟨.int .u8, 1, 0, (.int .u8), [.int .u8 0]⟩),
  (6, ⟨.int .u8, 1, 0, (.int .u8), [.int .u8 0]⟩),
  (7, ⟨.struct [(0, 2), (1, 3), (2, 4), (3, 6)], 4, 0, T_S7, [.int .i64 0, .int .i64 0, .bool false, .int .u8 0]⟩),
  (8, ⟨.struct [(0, 2), (1, 3), (2, 4), (3, 6)], 4, 0, T_S7, [.int .i64 0, .int .i64 0, .bool false, .int .u8 0]⟩),
  (12, ⟨.int .u64, 1, 0, (.int .u64), [.int .u64 0]⟩),
  (21, ⟨.int .i32, 1, 0, (.int .i32), [.int .i32 0]⟩),
  (22, ⟨.struct [(0, 3), (1, 3), (2, 3), (3, 3), (4, 3), (5, 3), (6, 3), (7, 3), (8, 3), (9, 3), (10, 3), (11, 4), (12, 4)], 13, 0, T_Piece, [.int .i64 0, .int .i64 0, .int .i64 0, .int .i64 0, .int .i64 0, .int .i64 0, .int .i64 0, .int .i64 0, .int .i64 0, .int .i64 0, .int .i64 0, .bool false, .bool false]⟩),
  (23, ⟨.struct [(0, 3), (1, 3), (2, 3), (3, 3), (4, 3), (5, 3), (6, 3), (7, 3), (8, 3), (9, 3), (10, 3), (11, 4), (12, 4)], 13, 0, T_Piece, [.int .i64 0, .int .i64 0, .int .i64 0, .int .i64 0, .int .i64 0, .int .i64 0, .int .i64 0, .int .i64 0, .int .i64 0, .int .i64 0, .int .i64 0, .bool false, .bool false]⟩),
  (24, ⟨.other, 1, 0, .unit, [.undef]⟩),
  (25, ⟨.struct [(0, 3), (1, 3), (2, 3), (3, 3), (4, 3), (5, 3), (6, 3), (7, 3), (8, 3), (9, 3), (10, 3), (11, 4), (12, 4)], 13, 0, T_Piece, [.int .i64 0, .int .i64 0, .int .i64 0, .int .i64 0, .int .i64 0, .int .i64 0, .int .i64 0, .int .i64 0, .int .i64 0, .int .i64 0, .int .i64 0, .bool false, .bool false]⟩),
  (26, ⟨.other, 1, 0, .unit, [.undef]⟩),
  (27, ⟨.other, 1, 0, .unit, [.undef]⟩),
  (28, ⟨.other, 1, 0, .unit, [.undef]⟩),
  (29, ⟨.other, 1, 0, .unit, [.undef]⟩),
  (30, ⟨.slice 63, 1, 0, (.slice T_Event), [.nil]⟩),
  (31, ⟨.other, 1, 0, .unit, [.undef]⟩),
  (32, ⟨.other, 1, 0, .unit, [.undef]⟩),
  (33, ⟨.slice 61, 1, 0, (.slice T_Event), [.nil]⟩),
  (34, ⟨.other, 1, 0, .unit, [.undef]⟩),
  (35, ⟨.other, 1, 0, .unit, [.undef]⟩),
  (36, ⟨.other, 1, 0, .unit, [.undef]⟩),
  (37, ⟨.other, 1, 0, .unit, [.undef]⟩),
  (38, ⟨.slice 71, 1, 0, (.slice T_Trigger), [.nil]⟩),
  (39, ⟨.other, 1, 0, .unit, [.undef]⟩),
  (40, ⟨.other, 1, 0, .unit, [.undef]⟩),
  (41, ⟨.slice 68, 1, 0, (.slice T_Trigger), [.nil]⟩),
  (42, ⟨.other, 1, 0, .unit, [.undef]⟩),
  (43, ⟨.other, 1, 0, .unit, [.undef]⟩),
  (44, ⟨.slice 23, 1, 0, (.slice T_Piece), [.nil]⟩),
  (45, ⟨.slice 87, 1, 0, (.slice T_Side), [.nil]⟩),
  (46, ⟨.struct [(0, 44), (1, 45), (2, 3), (3, 3)], 4, 0, T_State, [.nil, .nil, .int .i64 0, .int .i64 0]⟩),
  (47, ⟨.struct [(0, 44), (1, 45), (2, 3), (3, 3)], 4, 0, T_State, [.nil, .nil, .int .i64 0, .int .i64 0]⟩),
  (48, ⟨.other, 1, 0, .unit, [.undef]⟩),
  (49, ⟨.other, 1, 0, .unit, [.undef]⟩),
  (50, ⟨.slice 25, 1, 0, (.slice T_Piece), [.nil]⟩),
  (51, ⟨.slice 85, 1, 0, (.slice T_Side), [.nil]⟩),
  (52, ⟨.struct [(0, 50), (1, 51), (2, 3), (3, 3)], 4, 0, T_State, [.nil, .nil, .int .i64 0, .int .i64 0]⟩),
  (53, ⟨.struct [(0, 50), (1, 51), (2, 3), (3, 3)], 4, 0, T_State, [.nil, .nil, .int .i64 0, .int .i64 0]⟩),
  (54, ⟨.other, 1, 0, .unit, [.undef]⟩),
  (55, ⟨.other, 1, 0, .unit, [.undef]⟩),
  (56, ⟨.other, 1, 0, .unit, [.undef]⟩),
  (57, ⟨.other, 1, 0, .unit, [.undef]⟩),
  (58, ⟨.other, 1, 0, .unit, [.undef]⟩),
  (59, ⟨.other, 1, 0, .unit, [.undef]⟩),
  (60, ⟨.struct [(0, 3), (1, 3), (2, 3), (3, 3), (4, 3), (5, 3), (6, 4)], 7, 0, T_Event, [.int .i64 0, .int .i64 0, .int .i64 0, .int .i64 0, .int .i64 0, .int .i64 0, .bool false]⟩),
  (61, ⟨.struct [(0, 3), (1, 3), (2, 3), (3, 3), (4, 3), (5, 3), (6, 4)], 7, 0, T_Event, [.int .i64 0, .int .i64 0, .int .i64 0, .int .i64 0, .int .i64 0, .int .i64 0, .bool false]⟩),
  (62, ⟨.other, 1, 0, .unit, [.undef]⟩),
  (63, ⟨.struct [(0, 3), (1, 3), (2, 3), (3, 3), (4, 3), (5, 3), (6, 4)], 7, 0, T_Event, [.int .i64 0, .int .i64 0, .int .i64 0, .int .i64 0, .int .i64 0, .int .i64 0, .bool false]⟩),
  (64, ⟨.other, 1, 0, .unit, [.undef]⟩),
  (65, ⟨.other, 1, 0, .unit, [.undef]⟩),
  (66, ⟨.other, 1, 0, .unit, [.undef]⟩),
  (67, ⟨.struct [(0, 3), (1, 3), (2, 3), (3, 25)], 16, 0, T_Trigger, [.int .i64 0, .int .i64 0, .int .i64 0, .int .i64 0, .int .i64 0, .int .i64 0, .int .i64 0, .int .i64 0, .int .i64 0, .int .i64 0, .int .i64 0, .int .i64 0, .int .i64 0, .int .i64 0, .bool false, .bool false]⟩),
  (68, ⟨.struct [(0, 3), (1, 3), (2, 3), (3, 25)], 16, 0, T_Trigger, [.int .i64 0, .int .i64 0, .int .i64 0, .int .i64 0, .int .i64 0, .int .i64 0, .int .i64 0, .int .i64 0, .int .i64 0, .int .i64 0, .int .i64 0, .int .i64 0, .int .i64 0, .int .i64 0, .bool false, .bool false]⟩),
  (69, ⟨.other, 1, 0, .unit, [.undef]⟩),
  (70, ⟨.struct [(0, 3), (1, 3), (2, 3), (3, 23)], 16, 0, T_Trigger, [.int .i64 0, .int .i64 0, .int .i64 0, .int .i64 0, .int .i64 0, .int .i64 0, .int .i64 0, .int .i64 0, .int .i64 0, .int .i64 0, .int .i64 0, .int .i64 0, .int .i64 0, .int .i64 0, .bool false, .bool false]⟩),
  (71, ⟨.struct [(0, 3), (1, 3), (2, 3), (3, 23)], 16, 0, T_Trigger, [.int .i64 0, .int .i64 0, .int .i64 0, .int .i64 0, .int .i64 0, .int .i64 0, .int .i64 0, .int .i64 0, .int .i64 0, .int .i64 0, .int .i64 0, .int .i64 0, .int .i64 0, .int .i64 0, .bool false, .bool false]⟩),
  (72, ⟨.other, 1, 0, .unit, [.undef]⟩),
  (73, ⟨.other, 1, 0, .unit, [.undef]⟩),
  (74, ⟨.other, 1, 0, .unit, [.undef]⟩),
  (75, ⟨.other, 1, 0, .unit, [.undef]⟩),
  (76, ⟨.other, 1, 0, .unit, [.undef]⟩),
  (77, ⟨.other, 1, 0, .unit, [.undef]⟩),
  (78, ⟨.other, 1, 0, .unit, [.undef]⟩),
  (79, ⟨.other, 1, 0, .unit, [.undef]⟩),
  (80, ⟨.other, 1, 0, .unit, [.undef]⟩),
  (81, ⟨.other, 1, 0, .unit, [.undef]⟩),
  (82, ⟨.other, 1, 0, .unit, [.undef]⟩),
  (83, ⟨.other, 1, 0, .unit, [.undef]⟩),
  (84, ⟨.struct [(0, 3), (1, 3), (2, 4)], 3, 0, T_Side, [.int .i64 0, .int .i64 0, .bool false]⟩),
  (85, ⟨.struct [(0, 3), (1, 3), (2, 4)], 3, 0, T_Side, [.int .i64 0, .int .i64 0, .bool false]⟩),
  (86, ⟨.other, 1, 0, .unit, [.undef]⟩),
  (87, ⟨.struct [(0, 3), (1, 3), (2, 4)], 3, 0, T_Side, [.int .i64 0, .int .i64 0, .bool false]⟩),
  (88, ⟨.other, 1, 0, .unit, [.undef]⟩),
  (95, ⟨.other, 1, 0, .unit, [.undef]⟩),
  (96, ⟨.int .u32, 1, 0, (.int .u32), [.int .u32 0]⟩),
  (97, ⟨.int .u8, 1, 0, (.int .u8), [.int .u8 0]⟩),
  (98, ⟨.int .u8, 1, 0, (.int .u8), [.int .u8 0]⟩),
  (101, ⟨.int .i32, 1, 0, (.int .i32), [.int .i32 0]⟩),
  (102, ⟨.int .i32, 1, 0, (.int .i32), [.int .i32 0]⟩)]
theorem tabOk : TabOk Try.prog tab := tabB_ok (by kernel_rfl)
theorem mixed : Try.prog.follows .mixedOrders = true := by kernel_rfl
/-! loop.example/g00486/laws.toPiece -/
def laws_toPiece (a0 : T_Piece.D) : Option T_Piece.D :=
some a0
def laws_toPiece_c : Ct := .pure true false (.pair T_Piece .unit) T_Piece (fun x => laws_toPiece x.1)
theorem laws_toPiece_ct : CtOk Try.prog 10 laws_toPiece_c := pure_ct (E := ⟨tab, []⟩) (EnvOk.nil tabOk) mixed (fn := Try.f10) _ _ _ _ _ .none Try.func10 (by kernel_rfl) (fun x => by kernel_rfl)
/-! loop.example/g00486/spec.Bound -/
def spec_Bound (a0 : Int) : Option Int :=
bif decide (a0 > 2147483647) then (
some 2147483647)
else (
bif decide (a0 < (-2147483647)) then (
some (-2147483647))
else (
some a0))
def spec_Bound_c : Ct := .pure true false (.pair (.int .i64) .unit) (.int .i64) (fun x => spec_Bound x.1)
theorem spec_Bound_ct : CtOk Try.prog 55 spec_Bound_c := pure_ct (E := ⟨tab, []⟩) (EnvOk.nil tabOk) mixed (fn := Try.f55) _ _ _ _ _ .none Try.func55 (by kernel_rfl) (fun x => by kernel_rfl)
/-! loop.example/g00486/spec.Plus -/
def spec_Plus (a0 : Int) (a1 : Int) : Option Int :=
(spec_Bound a0).bind fun y1 =>
(spec_Bound a1).bind fun y2 =>
(spec_Bound (IntKind.wrap .i64 (y1 + y2))).bind fun y3 =>
some y3
def spec_Plus_c : Ct := .pure true false (.pair (.int .i64) (.pair (.int .i64) .unit)) (.int .i64) (fun x => spec_Plus x.1 x.2.1)
theorem spec_Plus_ct : CtOk Try.prog 56 spec_Plus_c := pure_ct (E := ⟨tab, [(55, spec_Bound_c)]⟩) (EnvOk.cons spec_Bound_ct (EnvOk.nil tabOk)) mixed (fn := Try.f56) _ _ _ _ _ .none Try.func56 (by kernel_rfl) (fun x => by kernel_rfl)
/-! loop.example/g00486/spec.Less -/
def spec_Less (a0 : Int) (a1 : Int) : Option Int :=
(spec_Bound a0).bind fun y1 =>
(spec_Bound a1).bind fun y2 =>
(spec_Bound (IntKind.wrap .i64 (y1 - y2))).bind fun y3 =>
some y3
def spec_Less_c : Ct := .pure true false (.pair (.int .i64) (.pair (.int .i64) .unit)) (.int .i64) (fun x => spec_Less x.1 x.2.1)
theorem spec_Less_ct : CtOk Try.prog 32 spec_Less_c := pure_ct (E := ⟨tab, [(55, spec_Bound_c)]⟩) (EnvOk.cons spec_Bound_ct (EnvOk.nil tabOk)) mixed (fn := Try.f32) _ _ _ _ _ .none Try.func32 (by kernel_rfl) (fun x => by kernel_rfl)
/-! loop.example/g00486/spec.ToughOf -/
def spec_ToughOf (a0 : T_Piece.D) : Option Int :=
(spec_Plus a0.2.2.2.2.2.2.1 a0.2.2.2.2.2.2.2.2.1).bind fun y1 =>
(spec_Less y1 a0.2.2.2.2.2.2.2.2.2.1).bind fun y2 =>
some y2
def spec_ToughOf_c : Ct := .pure true false (.pair T_Piece .unit) (.int .i64) (fun x => spec_ToughOf x.1)
theorem spec_ToughOf_ct : CtOk Try.prog 33 spec_ToughOf_c := pure_ct (E := ⟨tab, [(32, spec_Less_c), (56, spec_Plus_c)]⟩) (EnvOk.cons spec_Less_ct (EnvOk.cons spec_Plus_ct (EnvOk.nil tabOk))) mixed (fn := Try.f33) _ _ _ _ _ .none Try.func33 (by kernel_rfl) (fun x => by kernel_rfl)
/-! loop.example/g00486/spec.Upto -/
def spec_Upto (a0 : Int) (a1 : Int) : Option Int :=
((bif decide (a1 < a0) then (
some a1)
else (
some a0)) : Option Int).bind fun o1 =>
bif decide (o1 < 0) then (
some 0)
else (
some o1)
def spec_Upto_h : Hints := (.node none none .none (.node none none .none (.node none none (.node none none .none (.node (some ⟨[.tmp 5 (.int .i64)], [none], none, []⟩) none .none .none)) .none)))
def spec_Upto_c : Ct := .pure true false (.pair (.int .i64) (.pair (.int .i64) .unit)) (.int .i64) (fun x => spec_Upto x.1 x.2.1)
theorem spec_Upto_ct : CtOk Try.prog 31 spec_Upto_c := pure_ct (E := ⟨tab, []⟩) (EnvOk.nil tabOk) mixed (fn := Try.f31) _ _ _ _ _ spec_Upto_h Try.func31 (by kernel_rfl) (fun x => by kernel_rfl)
/-! loop.example/g00486/spec.Over -/
def spec_Over (a0 : T_Piece.D) (a1 : Int) : Option Int :=
(spec_ToughOf a0).bind fun y1 =>
(spec_Less y1 a0.2.2.2.2.2.2.2.2.2.2.1).bind fun y2 =>
(spec_Upto y2 2147483647).bind fun y3 =>
(spec_Less a1 y3).bind fun y4 =>
(spec_Upto y4 2147483647).bind fun y5 =>
some y5
def spec_Over_c : Ct := .pure true false (.pair T_Piece (.pair (.int .i64) .unit)) (.int .i64) (fun x => spec_Over x.1 x.2.1)
theorem spec_Over_ct : CtOk Try.prog 9 spec_Over_c := pure_ct (E := ⟨tab, [(31, spec_Upto_c), (32, spec_Less_c), (33, spec_ToughOf_c)]⟩) (EnvOk.cons spec_Upto_ct (EnvOk.cons spec_Less_ct (EnvOk.cons spec_ToughOf_ct (EnvOk.nil tabOk)))) mixed (fn := Try.f9) _ _ _ _ _ .none Try.func9 (by kernel_rfl) (fun x => by kernel_rfl)
/-! loop.example/g00486/impl.Bound -/
def impl_Bound (a0 : Int) : Option Int :=
some (if (if 2147483647 < a0 then 2147483647 else a0) > (-2147483647) then (if 2147483647 < a0 then 2147483647 else a0) else (-2147483647))
def impl_Bound_c : Ct := .pure true false (.pair (.int .i64) .unit) (.int .i64) (fun x => impl_Bound x.1)
theorem impl_Bound_ct : CtOk Try.prog 57 impl_Bound_c := pure_ct (E := ⟨tab, []⟩) (EnvOk.nil tabOk) mixed (fn := Try.f57) _ _ _ _ _ .none Try.func57 (by kernel_rfl) (fun x => by kernel_rfl)
/-! loop.example/g00486/impl.Plus -/
def impl_Plus (a0 : Int) (a1 : Int) : Option Int :=
(impl_Bound a0).bind fun y1 =>
(impl_Bound a1).bind fun y2 =>
(impl_Bound (IntKind.wrap .i64 (y1 + y2))).bind fun y3 =>
some y3
def impl_Plus_c : Ct := .pure true false (.pair (.int .i64) (.pair (.int .i64) .unit)) (.int .i64) (fun x => impl_Plus x.1 x.2.1)
theorem impl_Plus_ct : CtOk Try.prog 58 impl_Plus_c := pure_ct (E := ⟨tab, [(57, impl_Bound_c)]⟩) (EnvOk.cons impl_Bound_ct (EnvOk.nil tabOk)) mixed (fn := Try.f58) _ _ _ _ _ .none Try.func58 (by kernel_rfl) (fun x => by kernel_rfl)
/-! loop.example/g00486/impl.Less -/
def impl_Less (a0 : Int) (a1 : Int) : Option Int :=
(impl_Bound a0).bind fun y1 =>
(impl_Bound a1).bind fun y2 =>
(impl_Bound (IntKind.wrap .i64 (y1 - y2))).bind fun y3 =>
some y3
def impl_Less_c : Ct := .pure true false (.pair (.int .i64) (.pair (.int .i64) .unit)) (.int .i64) (fun x => impl_Less x.1 x.2.1)
theorem impl_Less_ct : CtOk Try.prog 35 impl_Less_c := pure_ct (E := ⟨tab, [(57, impl_Bound_c)]⟩) (EnvOk.cons impl_Bound_ct (EnvOk.nil tabOk)) mixed (fn := Try.f35) _ _ _ _ _ .none Try.func35 (by kernel_rfl) (fun x => by kernel_rfl)
/-! loop.example/g00486/impl.ToughOf -/
def impl_ToughOf (a0 : T_Piece.D) : Option Int :=
(impl_Plus a0.2.2.2.2.2.2.1 a0.2.2.2.2.2.2.2.2.1).bind fun y1 =>
(impl_Less y1 a0.2.2.2.2.2.2.2.2.2.1).bind fun y2 =>
some y2
def impl_ToughOf_c : Ct := .pure true false (.pair T_Piece .unit) (.int .i64) (fun x => impl_ToughOf x.1)
theorem impl_ToughOf_ct : CtOk Try.prog 36 impl_ToughOf_c := pure_ct (E := ⟨tab, [(35, impl_Less_c), (58, impl_Plus_c)]⟩) (EnvOk.cons impl_Less_ct (EnvOk.cons impl_Plus_ct (EnvOk.nil tabOk))) mixed (fn := Try.f36) _ _ _ _ _ .none Try.func36 (by kernel_rfl) (fun x => by kernel_rfl)
/-! loop.example/g00486/impl.Upto -/
def impl_Upto (a0 : Int) (a1 : Int) : Option Int :=
some (if (if a1 < a0 then a1 else a0) > 0 then (if a1 < a0 then a1 else a0) else 0)
def impl_Upto_c : Ct := .pure true false (.pair (.int .i64) (.pair (.int .i64) .unit)) (.int .i64) (fun x => impl_Upto x.1 x.2.1)
theorem impl_Upto_ct : CtOk Try.prog 34 impl_Upto_c := pure_ct (E := ⟨tab, []⟩) (EnvOk.nil tabOk) mixed (fn := Try.f34) _ _ _ _ _ .none Try.func34 (by kernel_rfl) (fun x => by kernel_rfl)
/-! loop.example/g00486/impl.Over -/
def impl_Over (a0 : T_Piece.D) (a1 : Int) : Option Int :=
(impl_ToughOf a0).bind fun y1 =>
(impl_Less y1 a0.2.2.2.2.2.2.2.2.2.2.1).bind fun y2 =>
(impl_Upto y2 2147483647).bind fun y3 =>
(impl_Less a1 y3).bind fun y4 =>
(impl_Upto y4 2147483647).bind fun y5 =>
some y5
def impl_Over_c : Ct := .pure true false (.pair T_Piece (.pair (.int .i64) .unit)) (.int .i64) (fun x => impl_Over x.1 x.2.1)
theorem impl_Over_ct : CtOk Try.prog 11 impl_Over_c := pure_ct (E := ⟨tab, [(34, impl_Upto_c), (35, impl_Less_c), (36, impl_ToughOf_c)]⟩) (EnvOk.cons impl_Upto_ct (EnvOk.cons impl_Less_ct (EnvOk.cons impl_ToughOf_ct (EnvOk.nil tabOk)))) mixed (fn := Try.f11) _ _ _ _ _ .none Try.func11 (by kernel_rfl) (fun x => by kernel_rfl)
/-! loop.example/g00486/laws.FnExactOver -/
def laws_FnExactOver (a0 : T_Piece.D) (a1 : Int) : Option Bool :=
(laws_toPiece a0).bind fun y1 =>
(spec_Over y1 a1).bind fun y2 =>
(laws_toPiece a0).bind fun y3 =>
(impl_Over y3 a1).bind fun y4 =>
bif (y4 != y2) then (
some false)
else (
some true)
def laws_FnExactOver_c : Ct := .pure true false (.pair T_Piece (.pair (.int .i64) .unit)) .bool (fun x => laws_FnExactOver x.1 x.2.1)
theorem laws_FnExactOver_ct : CtOk Try.prog 3 laws_FnExactOver_c := pure_ct (E := ⟨tab, [(9, spec_Over_c), (10, laws_toPiece_c), (11, impl_Over_c)]⟩) (EnvOk.cons spec_Over_ct (EnvOk.cons laws_toPiece_ct (EnvOk.cons impl_Over_ct (EnvOk.nil tabOk)))) mixed (fn := Try.f3) _ _ _ _ _ .none Try.func3 (by kernel_rfl) (fun x => by kernel_rfl)
/-! loop.example/g00486/spec.HasTrait -/
def spec_HasTrait (a0 : T_Piece.D) (a1 : Int) : Option Bool :=
bif (a1 == 1) then (
some ((IntKind.wrap .i64 (BitVec.ofInt (IntKind.bits .i64) a0.2.2.2.2.2.2.2.1 &&& BitVec.ofInt (IntKind.bits .i64) a1).toNat) != 0))
else (
bif (a1 == 2) then (
some ((IntKind.wrap .i64 (BitVec.ofInt (IntKind.bits .i64) a0.2.2.2.2.2.2.2.1 &&& BitVec.ofInt (IntKind.bits .i64) a1).toNat) != 0))
else (
bif (a1 == 4) then (
some ((IntKind.wrap .i64 (BitVec.ofInt (IntKind.bits .i64) a0.2.2.2.2.2.2.2.1 &&& BitVec.ofInt (IntKind.bits .i64) a1).toNat) != 0))
else (
bif (a1 == 8) then (
some ((IntKind.wrap .i64 (BitVec.ofInt (IntKind.bits .i64) a0.2.2.2.2.2.2.2.1 &&& BitVec.ofInt (IntKind.bits .i64) a1).toNat) != 0))
else (
bif (a1 == 16) then (
some ((IntKind.wrap .i64 (BitVec.ofInt (IntKind.bits .i64) a0.2.2.2.2.2.2.2.1 &&& BitVec.ofInt (IntKind.bits .i64) a1).toNat) != 0))
else (
bif (a1 == 32) then (
some ((IntKind.wrap .i64 (BitVec.ofInt (IntKind.bits .i64) a0.2.2.2.2.2.2.2.1 &&& BitVec.ofInt (IntKind.bits .i64) a1).toNat) != 0))
else (
some false))))))
def spec_HasTrait_c : Ct := .pure true false (.pair T_Piece (.pair (.int .i64) .unit)) .bool (fun x => spec_HasTrait x.1 x.2.1)
theorem spec_HasTrait_ct : CtOk Try.prog 37 spec_HasTrait_c := pure_ct (E := ⟨tab, []⟩) (EnvOk.nil tabOk) mixed (fn := Try.f37) _ _ _ _ _ .none Try.func37 (by kernel_rfl) (fun x => by kernel_rfl)
/-! loop.example/g00486/spec.Doomed -/
def spec_Doomed (a0 : T_Piece.D) : Option Bool :=
bif (a0.2.2.2.1 != 2) then (
some false)
else (
(spec_ToughOf a0).bind fun y1 =>
bif decide (y1 ≤ 0) then (
some true)
else (
(spec_HasTrait a0 8).bind fun y2 =>
bif (!y2) then (
bif a0.2.2.2.2.2.2.2.2.2.2.2.1 then (
some true)
else (
some (decide (a0.2.2.2.2.2.2.2.2.2.2.1 ≥ y1))))
else (
some false)))
def spec_Doomed_c : Ct := .pure true false (.pair T_Piece .unit) .bool (fun x => spec_Doomed x.1)
theorem spec_Doomed_ct : CtOk Try.prog 12 spec_Doomed_c := pure_ct (E := ⟨tab, [(33, spec_ToughOf_c), (37, spec_HasTrait_c)]⟩) (EnvOk.cons spec_ToughOf_ct (EnvOk.cons spec_HasTrait_ct (EnvOk.nil tabOk))) mixed (fn := Try.f12) _ _ _ _ _ .none Try.func12 (by kernel_rfl) (fun x => by kernel_rfl)
/-! loop.example/g00486/impl.HasTrait -/
def impl_HasTrait (a0 : T_Piece.D) (a1 : Int) : Option Bool :=
((bif (a1 == 1) then (
some (a1 == 1))
else (
((bif (a1 == 2) then (
some (a1 == 2))
else (
((bif (a1 == 4) then (
some (a1 == 4))
else (
((bif (a1 == 8) then (
some (a1 == 8))
else (
((bif (a1 == 16) then (
some (a1 == 16))
else (
some (a1 == 32))) : Option Bool).bind fun o1 =>
some o1)) : Option Bool).bind fun o2 =>
some o2)) : Option Bool).bind fun o3 =>
some o3)) : Option Bool).bind fun o4 =>
some o4)) : Option Bool).bind fun o5 =>
bif o5 then (
some ((IntKind.wrap .i64 (BitVec.ofInt (IntKind.bits .i64) a0.2.2.2.2.2.2.2.1 &&& BitVec.ofInt (IntKind.bits .i64) a1).toNat) != 0))
else (
some false)
def impl_HasTrait_h : Hints := (.node none none .none (.node none none (.node none none .none (.node none none (.node none none (.node none none .none (.node (some ⟨[.tmp 6 .bool], [none], none, []⟩) none .none (.node none none .none (.node (some ⟨[.tmp 6 .bool], [none], none, []⟩) none .none (.node none none .none (.node (some ⟨[.tmp 6 .bool], [none], none, []⟩) none .none (.node none none .none (.node (some ⟨[.tmp 6 .bool], [none], none, []⟩) none .none (.node none none .none (.node (some ⟨[.tmp 6 .bool], [none], none, []⟩) none .none .none)))))))))) .none) .none)) .none))
def impl_HasTrait_c : Ct := .pure true false (.pair T_Piece (.pair (.int .i64) .unit)) .bool (fun x => impl_HasTrait x.1 x.2.1)
theorem impl_HasTrait_ct : CtOk Try.prog 38 impl_HasTrait_c := pure_ct (E := ⟨tab, []⟩) (EnvOk.nil tabOk) mixed (fn := Try.f38) _ _ _ _ _ impl_HasTrait_h Try.func38 (by kernel_rfl) (fun x => by kernel_rfl)
/-! loop.example/g00486/impl.Doomed -/
def impl_Doomed (a0 : T_Piece.D) : Option Bool :=
bif (a0.2.2.2.1 == 2) then (
(impl_ToughOf a0).bind fun y1 =>
bif decide (y1 ≤ 0) then (
some true)
else (
(impl_HasTrait a0 8).bind fun y2 =>
bif (!y2) then (
bif a0.2.2.2.2.2.2.2.2.2.2.2.1 then (
some true)
else (
(impl_ToughOf a0).bind fun y3 =>
some (decide (a0.2.2.2.2.2.2.2.2.2.2.1 ≥ y3))))
else (
some false)))
else (
some false)
def impl_Doomed_c : Ct := .pure true false (.pair T_Piece .unit) .bool (fun x => impl_Doomed x.1)
theorem impl_Doomed_ct : CtOk Try.prog 13 impl_Doomed_c := pure_ct (E := ⟨tab, [(36, impl_ToughOf_c), (38, impl_HasTrait_c)]⟩) (EnvOk.cons impl_ToughOf_ct (EnvOk.cons impl_HasTrait_ct (EnvOk.nil tabOk))) mixed (fn := Try.f13) _ _ _ _ _ .none Try.func13 (by kernel_rfl) (fun x => by kernel_rfl)
/-! loop.example/g00486/laws.FnExactDoomed -/
def laws_FnExactDoomed (a0 : T_Piece.D) : Option Bool :=
(laws_toPiece a0).bind fun y1 =>
(spec_Doomed y1).bind fun y2 =>
(laws_toPiece a0).bind fun y3 =>
(impl_Doomed y3).bind fun y4 =>
bif (y4 != y2) then (
some false)
else (
some true)
def laws_FnExactDoomed_c : Ct := .pure true false (.pair T_Piece .unit) .bool (fun x => laws_FnExactDoomed x.1)
theorem laws_FnExactDoomed_ct : CtOk Try.prog 4 laws_FnExactDoomed_c := pure_ct (E := ⟨tab, [(10, laws_toPiece_c), (12, spec_Doomed_c), (13, impl_Doomed_c)]⟩) (EnvOk.cons laws_toPiece_ct (EnvOk.cons spec_Doomed_ct (EnvOk.cons impl_Doomed_ct (EnvOk.nil tabOk)))) mixed (fn := Try.f4) _ _ _ _ _ .none Try.func4 (by kernel_rfl) (fun x => by kernel_rfl)
/-! loop.example/g00486/laws.szEventS -/
def laws_szEventS (a0 : (List T_Event.D)) (a1 : Int) : Option Int :=
bif decide ((IntKind.wrap .i64 (a1 - (a0.length : Int))) < 0) then (
some (-1))
else (
some (IntKind.wrap .i64 (a1 - (a0.length : Int))))
def laws_szEventS_c : Ct := .pure true false (.pair (.slice T_Event) (.pair (.int .i64) .unit)) (.int .i64) (fun x => laws_szEventS x.1 x.2.1)
theorem laws_szEventS_ct : CtOk Try.prog 14 laws_szEventS_c := pure_ct (E := ⟨tab, []⟩) (EnvOk.nil tabOk) mixed (fn := Try.f14) _ _ _ _ _ .none Try.func14 (by kernel_rfl) (fun x => by kernel_rfl)
/-! loop.example/g00486/laws.szTriggerS -/
def laws_szTriggerS (a0 : (List T_Trigger.D)) (a1 : Int) : Option Int :=
bif decide ((IntKind.wrap .i64 (a1 - (a0.length : Int))) < 0) then (
some (-1))
else (
some (IntKind.wrap .i64 (a1 - (a0.length : Int))))
def laws_szTriggerS_c : Ct := .pure true false (.pair (.slice T_Trigger) (.pair (.int .i64) .unit)) (.int .i64) (fun x => laws_szTriggerS x.1 x.2.1)
theorem laws_szTriggerS_ct : CtOk Try.prog 21 laws_szTriggerS_c := pure_ct (E := ⟨tab, []⟩) (EnvOk.nil tabOk) mixed (fn := Try.f21) _ _ _ _ _ .none Try.func21 (by kernel_rfl) (fun x => by kernel_rfl)
/-! loop.example/g00486/laws.szPieceS -/
def laws_szPieceS (a0 : (List T_Piece.D)) (a1 : Int) : Option Int :=
bif decide ((IntKind.wrap .i64 (a1 - (a0.length : Int))) < 0) then (
some (-1))
else (
some (IntKind.wrap .i64 (a1 - (a0.length : Int))))
def laws_szPieceS_c : Ct := .pure true false (.pair (.slice T_Piece) (.pair (.int .i64) .unit)) (.int .i64) (fun x => laws_szPieceS x.1 x.2.1)
theorem laws_szPieceS_ct : CtOk Try.prog 49 laws_szPieceS_c := pure_ct (E := ⟨tab, []⟩) (EnvOk.nil tabOk) mixed (fn := Try.f49) _ _ _ _ _ .none Try.func49 (by kernel_rfl) (fun x => by kernel_rfl)
/-! loop.example/g00486/laws.szSideS -/
def laws_szSideS (a0 : (List T_Side.D)) (a1 : Int) : Option Int :=
bif decide ((IntKind.wrap .i64 (a1 - (a0.length : Int))) < 0) then (
some (-1))
else (
some (IntKind.wrap .i64 (a1 - (a0.length : Int))))
def laws_szSideS_c : Ct := .pure true false (.pair (.slice T_Side) (.pair (.int .i64) .unit)) (.int .i64) (fun x => laws_szSideS x.1 x.2.1)
theorem laws_szSideS_ct : CtOk Try.prog 50 laws_szSideS_c := pure_ct (E := ⟨tab, []⟩) (EnvOk.nil tabOk) mixed (fn := Try.f50) _ _ _ _ _ .none Try.func50 (by kernel_rfl) (fun x => by kernel_rfl)
/-! loop.example/g00486/laws.szState -/
def laws_szState (a0 : T_State.D) (a1 : Int) : Option Int :=
(laws_szPieceS a0.1 a1).bind fun y1 =>
bif decide (y1 < 0) then (
some (-1))
else (
(laws_szSideS a0.2.1 y1).bind fun y2 =>
bif decide (y2 < 0) then (
some (-1))
else (
some y2))
def laws_szState_c : Ct := .pure true false (.pair T_State (.pair (.int .i64) .unit)) (.int .i64) (fun x => laws_szState x.1 x.2.1)
theorem laws_szState_ct : CtOk Try.prog 26 laws_szState_c := pure_ct (E := ⟨tab, [(49, laws_szPieceS_c), (50, laws_szSideS_c)]⟩) (EnvOk.cons laws_szPieceS_ct (EnvOk.cons laws_szSideS_ct (EnvOk.nil tabOk))) mixed (fn := Try.f26) _ _ _ _ _ .none Try.func26 (by kernel_rfl) (fun x => by kernel_rfl)
end
end Go.Abs
