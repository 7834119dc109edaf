import Derived.Test.YtgccfenlidjfkaaProg
import Derived.Test.YtgccfenlidjfkaaAbsTab
set_option linter.unusedVariables false
set_option linter.unusedSimpArgs false
namespace Go.Abs
open Go.Proofs
set_option maxRecDepth 100000
noncomputable section
@[reducible] def T_Piece : Ty := (.pair (.int .i64) (.pair (.int .i64) (.pair (.int .i64) (.pair (.int .i64) (.pair (.int .i64) (.pair (.int .i64) (.pair (.int .i64) (.pair (.int .i64) (.pair (.int .i64) (.pair (.int .i64) (.pair (.int .i64) (.pair .bool (.pair .bool .unit)))))))))))))
@[reducible] def T_Side : Ty := (.pair (.int .i64) (.pair (.int .i64) (.pair .bool .unit)))
@[reducible] def T_State : Ty := (.pair (.slice T_Piece) (.pair (.slice T_Side) (.pair (.int .i64) (.pair (.int .i64) .unit))))
@[reducible] def T_Event : Ty := (.pair (.int .i64) (.pair (.int .i64) (.pair (.int .i64) (.pair (.int .i64) (.pair (.int .i64) (.pair (.int .i64) (.pair .bool .unit)))))))
@[reducible] def T_l1Cur : Ty := (.pair (.slice (.int .u8)) (.pair (.int .i64) (.pair (.int .i64) .unit)))
@[reducible] def T_S7 : Ty := (.pair (.int .i64) (.pair (.int .i64) (.pair .bool (.pair (.int .u8) .unit))))
@[reducible] def T_Note : Ty := (.pair (.int .i64) (.pair T_Event (.pair (.int .i64) (.pair (.int .i64) (.pair T_Piece .unit)))))
@[reducible] def T_Trigger : Ty := (.pair (.int .i64) (.pair (.int .i64) (.pair (.int .i64) (.pair T_Piece .unit))))
def tab : Tab := [
  (1, ⟨.other, 1, 0, .unit, [.undef]⟩),
  (2, ⟨.int .i64, 1, 0, (.int .i64), [.int .i64 0]⟩),
  (3, ⟨.int .i64, 1, 0, (.int .i64), [.int .i64 0]⟩),
  (4, ⟨.bool, 1, 0, .bool, [.bool false]⟩),
  (5, ⟨.int .u8, 1, 0, (.int .u8), [.int .u8 0]⟩),
  (6, ⟨.int .u8, 1, 0, (.int .u8), [.int .u8 0]⟩),
  (7, ⟨.struct [(0, 2), (1, 3), (2, 4), (3, 6)], 4, 0, T_S7, [.int .i64 0, .int .i64 0, .bool false, .int .u8 0]⟩),
  (8, ⟨.struct [(0, 2), (1, 3), (2, 4), (3, 6)], 4, 0, T_S7, [.int .i64 0, .int .i64 0, .bool false, .int .u8 0]⟩),
  (12, ⟨.int .u64, 1, 0, (.int .u64), [.int .u64 0]⟩),
  (15, ⟨.other, 1, 0, .unit, [.undef]⟩),
  (16, ⟨.other, 1, 0, .unit, [.undef]⟩),
  (17, ⟨.other, 1, 0, .unit, [.undef]⟩),
  (21, ⟨.int .i32, 1, 0, (.int .i32), [.int .i32 0]⟩),
  (22, ⟨.slice 5, 1, 0, (.slice (.int .u8)), [.nil]⟩),
  (23, ⟨.other, 1, 0, .unit, [.undef]⟩),
  (24, ⟨.struct [(0, 3), (1, 3), (2, 3), (3, 3), (4, 3), (5, 3), (6, 3), (7, 3), (8, 3), (9, 3), (10, 3), (11, 4), (12, 4)], 13, 0, T_Piece, [.int .i64 0, .int .i64 0, .int .i64 0, .int .i64 0, .int .i64 0, .int .i64 0, .int .i64 0, .int .i64 0, .int .i64 0, .int .i64 0, .int .i64 0, .bool false, .bool false]⟩),
  (25, ⟨.struct [(0, 3), (1, 3), (2, 3), (3, 3), (4, 3), (5, 3), (6, 3), (7, 3), (8, 3), (9, 3), (10, 3), (11, 4), (12, 4)], 13, 0, T_Piece, [.int .i64 0, .int .i64 0, .int .i64 0, .int .i64 0, .int .i64 0, .int .i64 0, .int .i64 0, .int .i64 0, .int .i64 0, .int .i64 0, .int .i64 0, .bool false, .bool false]⟩),
  (26, ⟨.other, 1, 0, .unit, [.undef]⟩),
  (28, ⟨.other, 1, 0, .unit, [.undef]⟩),
  (29, ⟨.slice 25, 1, 0, (.slice T_Piece), [.nil]⟩),
  (30, ⟨.slice 62, 1, 0, (.slice T_Side), [.nil]⟩),
  (31, ⟨.struct [(0, 29), (1, 30), (2, 3), (3, 3)], 4, 0, T_State, [.nil, .nil, .int .i64 0, .int .i64 0]⟩),
  (32, ⟨.struct [(0, 29), (1, 30), (2, 3), (3, 3)], 4, 0, T_State, [.nil, .nil, .int .i64 0, .int .i64 0]⟩),
  (34, ⟨.other, 1, 0, .unit, [.undef]⟩),
  (35, ⟨.other, 1, 0, .unit, [.undef]⟩),
  (36, ⟨.other, 1, 0, .unit, [.undef]⟩),
  (37, ⟨.other, 1, 0, .unit, [.undef]⟩),
  (38, ⟨.other, 1, 0, .unit, [.undef]⟩),
  (39, ⟨.other, 1, 0, .unit, [.undef]⟩),
  (40, ⟨.other, 1, 0, .unit, [.undef]⟩),
  (41, ⟨.slice 93, 1, 0, (.slice T_Note), [.nil]⟩),
  (43, ⟨.other, 1, 0, .unit, [.undef]⟩),
  (44, ⟨.other, 1, 0, .unit, [.undef]⟩),
  (45, ⟨.other, 1, 0, .unit, [.undef]⟩),
  (46, ⟨.other, 1, 0, .unit, [.undef]⟩),
  (47, ⟨.slice 3, 1, 0, (.slice (.int .i64)), [.nil]⟩),
  (48, ⟨.other, 1, 0, .unit, [.undef]⟩),
  (49, ⟨.other, 1, 0, .unit, [.undef]⟩),
  (50, ⟨.other, 1, 0, .unit, [.undef]⟩),
  (51, ⟨.other, 1, 0, .unit, [.undef]⟩),
  (52, ⟨.other, 1, 0, .unit, [.undef]⟩),
  (53, ⟨.struct [(0, 3), (1, 3), (2, 3), (3, 3), (4, 3), (5, 3), (6, 4)], 7, 0, T_Event, [.int .i64 0, .int .i64 0, .int .i64 0, .int .i64 0, .int .i64 0, .int .i64 0, .bool false]⟩),
  (54, ⟨.struct [(0, 3), (1, 3), (2, 3), (3, 3), (4, 3), (5, 3), (6, 4)], 7, 0, T_Event, [.int .i64 0, .int .i64 0, .int .i64 0, .int .i64 0, .int .i64 0, .int .i64 0, .bool false]⟩),
  (56, ⟨.other, 1, 0, .unit, [.undef]⟩),
  (57, ⟨.other, 1, 0, .unit, [.undef]⟩),
  (58, ⟨.other, 1, 0, .unit, [.undef]⟩),
  (59, ⟨.other, 1, 0, .unit, [.undef]⟩),
  (60, ⟨.other, 1, 0, .unit, [.undef]⟩),
  (61, ⟨.struct [(0, 3), (1, 3), (2, 4)], 3, 0, T_Side, [.int .i64 0, .int .i64 0, .bool false]⟩),
  (62, ⟨.struct [(0, 3), (1, 3), (2, 4)], 3, 0, T_Side, [.int .i64 0, .int .i64 0, .bool false]⟩),
  (63, ⟨.other, 1, 0, .unit, [.undef]⟩),
  (65, ⟨.other, 1, 0, .unit, [.undef]⟩),
  (67, ⟨.other, 1, 0, .unit, [.undef]⟩),
  (69, ⟨.other, 1, 0, .unit, [.undef]⟩),
  (70, ⟨.other, 1, 0, .unit, [.undef]⟩),
  (71, ⟨.other, 1, 0, .unit, [.undef]⟩),
  (72, ⟨.other, 1, 0, .unit, [.undef]⟩),
  (73, ⟨.other, 1, 0, .unit, [.undef]⟩),
  (74, ⟨.slice 79, 1, 0, (.slice T_Trigger), [.nil]⟩),
  (75, ⟨.other, 1, 0, .unit, [.undef]⟩),
  (76, ⟨.other, 1, 0, .unit, [.undef]⟩),
  (77, ⟨.other, 1, 0, .unit, [.undef]⟩),
  (78, ⟨.struct [(0, 3), (1, 3), (2, 3), (3, 25)], 16, 0, T_Trigger, [.int .i64 0, .int .i64 0, .int .i64 0, .int .i64 0, .int .i64 0, .int .i64 0, .int .i64 0, .int .i64 0, .int .i64 0, .int .i64 0, .int .i64 0, .int .i64 0, .int .i64 0, .int .i64 0, .bool false, .bool false]⟩),
  (79, ⟨.struct [(0, 3), (1, 3), (2, 3), (3, 25)], 16, 0, T_Trigger, [.int .i64 0, .int .i64 0, .int .i64 0, .int .i64 0, .int .i64 0, .int .i64 0, .int .i64 0, .int .i64 0, .int .i64 0, .int .i64 0, .int .i64 0, .int .i64 0, .int .i64 0, .int .i64 0, .bool false, .bool false]⟩),
  (80, ⟨.other, 1, 0, .unit, [.undef]⟩),
  (82, ⟨.other, 1, 0, .unit, [.undef]⟩),
  (83, ⟨.other, 1, 0, .unit, [.undef]⟩),
  (84, ⟨.other, 1, 0, .unit, [.undef]⟩),
  (85, ⟨.other, 1, 0, .unit, [.undef]⟩),
  (86, ⟨.other, 1, 0, .unit, [.undef]⟩),
  (87, ⟨.other, 1, 0, .unit, [.undef]⟩),
  (88, ⟨.other, 1, 0, .unit, [.undef]⟩),
  (89, ⟨.other, 1, 0, .unit, [.undef]⟩),
  (90, ⟨.other, 1, 0, .unit, [.undef]⟩),
  (91, ⟨.other, 1, 0, .unit, [.undef]⟩),
  (92, ⟨.struct [(0, 3), (1, 54), (8, 3), (9, 3), (10, 25)], 23, 0, T_Note, [.int .i64 0, .int .i64 0, .int .i64 0, .int .i64 0, .int .i64 0, .int .i64 0, .int .i64 0, .bool false, .int .i64 0, .int .i64 0, .int .i64 0, .int .i64 0, .int .i64 0, .int .i64 0, .int .i64 0, .int .i64 0, .int .i64 0, .int .i64 0, .int .i64 0, .int .i64 0, .int .i64 0, .bool false, .bool false]⟩),
  (93, ⟨.struct [(0, 3), (1, 54), (8, 3), (9, 3), (10, 25)], 23, 0, T_Note, [.int .i64 0, .int .i64 0, .int .i64 0, .int .i64 0, .int .i64 0, .int .i64 0, .int .i64 0, .bool false, .int .i64 0, .int .i64 0, .int .i64 0, .int .i64 0, .int .i64 0, .int .i64 0, .int .i64 0, .int .i64 0, .int .i64 0, .int .i64 0, .int .i64 0, .int .i64 0, .int .i64 0, .bool false, .bool false]⟩),
  (94, ⟨.other, 1, 0, .unit, [.undef]⟩),
  (95, ⟨.other, 1, 0, .unit, [.undef]⟩),
  (96, ⟨.other, 1, 0, .unit, [.undef]⟩),
  (97, ⟨.other, 1, 0, .unit, [.undef]⟩),
  (98, ⟨.other, 1, 0, .unit, [.undef]⟩),
  (99, ⟨.other, 1, 0, .unit, [.undef]⟩),
  (100, ⟨.other, 1, 0, .unit, [.undef]⟩),
  (101, ⟨.other, 1, 0, .unit, [.undef]⟩),
  (102, ⟨.other, 1, 0, .unit, [.undef]⟩),
  (103, ⟨.other, 1, 0, .unit, [.undef]⟩),
  (104, ⟨.other, 1, 0, .unit, [.undef]⟩),
  (105, ⟨.other, 1, 0, .unit, [.undef]⟩),
  (106, ⟨.other, 1, 0, .unit, [.undef]⟩),
  (107, ⟨.other, 1, 0, .unit, [.undef]⟩),
  (108, ⟨.other, 1, 0, .unit, [.undef]⟩),
  (109, ⟨.other, 1, 0, .unit, [.undef]⟩),
  (110, ⟨.other, 1, 0, .unit, [.undef]⟩),
  (111, ⟨.slice 54, 1, 0, (.slice T_Event), [.nil]⟩),
  (112, ⟨.other, 1, 0, .unit, [.undef]⟩),
  (113, ⟨.other, 1, 0, .unit, [.undef]⟩),
  (114, ⟨.other, 1, 0, .unit, [.undef]⟩),
  (115, ⟨.other, 1, 0, .unit, [.undef]⟩),
  (116, ⟨.struct [(0, 22), (1, 3), (2, 3)], 3, 0, T_l1Cur, [.nil, .int .i64 0, .int .i64 0]⟩),
  (117, ⟨.struct [(0, 22), (1, 3), (2, 3)], 3, 0, T_l1Cur, [.nil, .int .i64 0, .int .i64 0]⟩),
  (118, ⟨.other, 1, 0, .unit, [.undef]⟩),
  (119, ⟨.other, 1, 0, .unit, [.undef]⟩),
  (120, ⟨.other, 1, 0, .unit, [.undef]⟩),
  (121, ⟨.other, 1, 0, .unit, [.undef]⟩),
  (122, ⟨.other, 1, 0, .unit, [.undef]⟩),
  (123, ⟨.other, 1, 0, .unit, [.undef]⟩),
  (124, ⟨.other, 1, 0, .unit, [.undef]⟩),
  (125, ⟨.other, 1, 0, .unit, [.undef]⟩),
  (127, ⟨.other, 1, 0, .unit, [.undef]⟩),
  (128, ⟨.other, 1, 0, .unit, [.undef]⟩),
  (129, ⟨.other, 1, 0, .unit, [.undef]⟩),
  (130, ⟨.int .u64, 1, 0, (.int .u64), [.int .u64 0]⟩),
  (131, ⟨.other, 1, 0, .unit, [.undef]⟩),
  (132, ⟨.other, 1, 0, .unit, [.undef]⟩),
  (133, ⟨.other, 1, 0, .unit, [.undef]⟩),
  (134, ⟨.other, 1, 0, .unit, [.undef]⟩),
  (135, ⟨.other, 1, 0, .unit, [.undef]⟩),
  (136, ⟨.other, 1, 0, .unit, [.undef]⟩),
  (137, ⟨.int .i64, 1, 0, (.int .i64), [.int .i64 0]⟩),
  (139, ⟨.other, 1, 0, .unit, [.undef]⟩),
  (140, ⟨.other, 1, 0, .unit, [.undef]⟩),
  (141, ⟨.other, 1, 0, .unit, [.undef]⟩),
  (142, ⟨.other, 1, 0, .unit, [.undef]⟩),
  (144, ⟨.other, 1, 0, .unit, [.undef]⟩),
  (145, ⟨.other, 1, 0, .unit, [.undef]⟩),
  (146, ⟨.int .u32, 1, 0, (.int .u32), [.int .u32 0]⟩),
  (147, ⟨.other, 1, 0, .unit, [.undef]⟩),
  (148, ⟨.int .u64, 1, 0, (.int .u64), [.int .u64 0]⟩),
  (149, ⟨.int .u64, 1, 0, (.int .u64), [.int .u64 0]⟩),
  (150, ⟨.other, 1, 0, .unit, [.undef]⟩),
  (151, ⟨.other, 1, 0, .unit, [.undef]⟩),
  (152, ⟨.other, 1, 0, .unit, [.undef]⟩),
  (153, ⟨.other, 1, 0, .unit, [.undef]⟩),
  (154, ⟨.other, 1, 0, .unit, [.undef]⟩),
  (155, ⟨.other, 1, 0, .unit, [.undef]⟩),
  (157, ⟨.other, 1, 0, .unit, [.undef]⟩),
  (158, ⟨.other, 1, 0, .unit, [.undef]⟩),
  (164, ⟨.other, 1, 0, .unit, [.undef]⟩),
  (165, ⟨.int .u8, 1, 0, (.int .u8), [.int .u8 0]⟩),
  (166, ⟨.int .u8, 1, 0, (.int .u8), [.int .u8 0]⟩),
  (167, ⟨.other, 1, 0, .unit, [.undef]⟩),
  (168, ⟨.other, 1, 0, .unit, [.undef]⟩),
  (169, ⟨.int .i32, 1, 0, (.int .i32), [.int .i32 0]⟩),
  (170, ⟨.int .i32, 1, 0, (.int .i32), [.int .i32 0]⟩)]
theorem tabOk : TabOk Try.prog tab := tabB_ok (by kernel_rfl)
theorem mixed : Try.prog.follows .mixedOrders = true := by kernel_rfl
/-! loop.example/g00486/laws.big -/
def laws_big (a0 : (List Int)) : Option Bool :=
 some (decide ((a0.length : Int) > 1048576))
def laws_big_c : Ct := .pure true false (.pair (.slice (.int .u8)) .unit) .bool (fun x => laws_big x.1)
theorem laws_big_ct : CtOk Try.prog 10 laws_big_c := pure_ct (E := { T := tab, G := [] }) (EnvOk.nil tabOk) mixed (fn := Try.f10) _ _ _ _ _ .none Try.func10 (by kernel_rfl) (fun x => by kernel_rfl)
/-! loop.example/g00486/spec.l1New -/
def spec_l1New_l1 (a0 : (List Int)) : (Int × Int) → Option ((Int × Int) ⊕ (Int × Int)) := fun s1 =>
((bif decide (s1.2 < (a0.length : Int)) then (
 some (decide (s1.2 < 4000)))
 else (
 some false)) : Option Bool).bind fun o2 =>
 bif o2 then (
 idx a0 s1.2 fun x3 =>
 let k4 : Int := IntKind.wrap .i64 ((IntKind.wrap .i64 (s1.1 * 137)) + (IntKind.wrap .i64 x3))
 let k5 : Int := IntKind.wrap .i64 (BitVec.ofInt (IntKind.bits .i64) (IntKind.wrap .i64 (k4 + 11)) &&& BitVec.ofInt (IntKind.bits .i64) 1073741823).toNat
 some (.inl (k5, IntKind.wrap .i64 (s1.2 + 1))))
 else (
 some (.inr s1))
def spec_l1New (a0 : (List Int)) : Option T_l1Cur.D :=
(while_ (spec_l1New_l1 a0) (IntKind.wrap .i64 (139871 + (a0.length : Int)), 0)).bind fun o6 =>
 some (a0, 0, o6.1, ())
def spec_l1New_h : Hints := (.node none none .none (.node none none .none (.node none none (.node none none .none (.node none none (.node none (some ⟨[.tmp 3 (.int .i64), .tmp 4 (.int .i64)], [some 0], none, []⟩) (.node none none (.node none none (.node (some ⟨[.tmp 15 .bool], [none], none, []⟩) none .none .none) .none) .none) .none) .none)) .none)))
def spec_l1New_c : Ct := .box (.pair (.slice (.int .u8)) .unit) T_l1Cur (fun x => spec_l1New x.1)
theorem spec_l1New_ct : CtOk Try.prog 71 spec_l1New_c := box_ct (E := { T := tab, G := [] }) (EnvOk.nil tabOk) mixed (fn := Try.f71) _ _ _ spec_l1New_h Try.func71 (by kernel_rfl) (fun x => by kernel_rfl)
/-! loop.example/g00486/spec.StateNew -/
def spec_StateNew (a0 : Int) : Option T_State.D :=
 bif (a0 == 3) then (
 if (([(20, 0, false, ()), (20, 0, false, ())] : List T_Side.D).length + ([(20, 0, false, ())] : List T_Side.D).length) * (24 * 3) ≤ room then (
 some ([], (([(20, 0, false, ()), (20, 0, false, ())] : List T_Side.D) ++ ([(20, 0, false, ())] : List T_Side.D)), 0, 0, ())) else none)
 else (
 some ([], ([(20, 0, false, ()), (20, 0, false, ())] : List T_Side.D), 0, 0, ()))
def spec_StateNew_c : Ct := .pure true false (.pair (.int .i64) .unit) T_State (fun x => spec_StateNew x.1)
theorem spec_StateNew_ct : CtOk Try.prog 147 spec_StateNew_c := pure_ct (E := { T := tab, G := [] }) (EnvOk.nil tabOk) mixed (fn := Try.f147) _ _ _ _ _ .none Try.func147 (by kernel_rfl) (fun x => by kernel_rfl)
def spec_StateNew_fresh_c : Ct := .pure true true (.pair (.int .i64) .unit) T_State (fun x => spec_StateNew x.1)
theorem spec_StateNew_fresh_ct : CtOk Try.prog 147 spec_StateNew_fresh_c := pure_ct (E := { T := tab, G := [] }) (EnvOk.nil tabOk) mixed (fn := Try.f147) _ _ _ _ _ .none Try.func147 (by kernel_rfl) (fun x => by kernel_rfl)
/-! loop.example/g00486/spec.l1Byte -/
def spec_l1Byte (a0 : T_l1Cur.D) : Option (Int × (T_l1Cur.D × Unit)) :=
 let k1 : Int := IntKind.wrap .i64 ((IntKind.wrap .i64 (a0.2.2.1 * 6364136223846793005)) + 1442695040888963407)
 if 0 ≤ 33 then (
 if 0 ≤ 47 then (
 let k2 : Int := IntKind.wrap .i64 (BitVec.ofInt (IntKind.bits .i64) (k1.fdiv (2 ^ min (33 : Int).toNat (IntKind.bits .i64))) ^^^ BitVec.ofInt (IntKind.bits .i64) (k1.fdiv (2 ^ min (47 : Int).toNat (IntKind.bits .i64)))).toNat
 let k3 : Int := IntKind.wrap .i64 (BitVec.ofInt (IntKind.bits .i64) k2 &&& BitVec.ofInt (IntKind.bits .i64) 255).toNat
 bif decide (a0.2.1 < (a0.1.length : Int)) then (
 idx a0.1 a0.2.1 fun x4 =>
 let k5 : Int := IntKind.wrap .i64 (BitVec.ofInt (IntKind.bits .i64) (IntKind.wrap .i64 (k3 + (IntKind.wrap .i64 x4))) &&& BitVec.ofInt (IntKind.bits .i64) 255).toNat
 some (k5, ((a0.1, IntKind.wrap .i64 (a0.2.1 + 1), k1, ()), ())))
 else (
 some (k3, ((a0.1, a0.2.1, k1, ()), ())))) else none) else none
def spec_l1Byte_c : Ct := .mut [.ptr] true true (.pair T_l1Cur .unit) (.int .i64) (fun x => spec_l1Byte x.1)
theorem spec_l1Byte_ct : CtOk Try.prog 136 spec_l1Byte_c := mut_ct (E := { T := tab, G := [] }) (EnvOk.nil tabOk) mixed (fn := Try.f136) _ _ _ _ _ _ .none Try.func136 (by kernel_rfl) (fun x => by kernel_rfl)
/-! loop.example/g00486/spec.l1Below -/
def spec_l1Below (a0 : T_l1Cur.D) (a1 : Int) : Option (Int × (T_l1Cur.D × Unit)) :=
 bif decide (a1 ≤ 0) then (
 some (0, (a0, ())))
 else (
 bif decide (a1 ≤ 256) then (
(spec_l1Byte a0).bind fun y1 =>
 if a1 = 0 then none else (
 some (y1.1.tmod a1, y1.2)))
 else (
(spec_l1Byte a0).bind fun y2 =>
(spec_l1Byte y2.2.1).bind fun y3 =>
(spec_l1Byte y3.2.1).bind fun y4 =>
 let k5 : Int := IntKind.wrap .i64 ((IntKind.wrap .i64 (y2.1 * 65536)) + (IntKind.wrap .i64 (y3.1 * 256)))
 if a1 = 0 then none else (
 some ((IntKind.wrap .i64 (k5 + y4.1)).tmod a1, y4.2))))
def spec_l1Below_c : Ct := .mut [.ptr, .rd] true true (.pair T_l1Cur (.pair (.int .i64) .unit)) (.int .i64) (fun x => spec_l1Below x.1 x.2.1)
theorem spec_l1Below_ct : CtOk Try.prog 73 spec_l1Below_c := mut_ct (E := { T := tab, G := [(136, spec_l1Byte_c)] }) (EnvOk.cons spec_l1Byte_ct (EnvOk.nil tabOk)) mixed (fn := Try.f73) _ _ _ _ _ _ .none Try.func73 (by kernel_rfl) (fun x => by kernel_rfl)
/-! loop.example/g00486/spec.l1Int -/
def spec_l1Int (a0 : T_l1Cur.D) (a1 : (List Int)) : Option (Int × (T_l1Cur.D × Unit)) :=
(spec_l1Below a0 (a1.length : Int)).bind fun y1 =>
 idx a1 y1.1 fun x2 =>
 some (x2, y1.2)
def spec_l1Int_c : Ct := .mut [.ptr, .rd] true true (.pair T_l1Cur (.pair (.slice (.int .i64)) .unit)) (.int .i64) (fun x => spec_l1Int x.1 x.2.1)
theorem spec_l1Int_ct : CtOk Try.prog 135 spec_l1Int_c := mut_ct (E := { T := tab, G := [(73, spec_l1Below_c)] }) (EnvOk.cons spec_l1Below_ct (EnvOk.nil tabOk)) mixed (fn := Try.f135) _ _ _ _ _ _ .none Try.func135 (by kernel_rfl) (fun x => by kernel_rfl)
/-! loop.example/g00486/spec.l1Once -/
def spec_l1Once (a0 : T_l1Cur.D) (a1 : Int) : Option (Bool × (T_l1Cur.D × Unit)) :=
(spec_l1Below a0 a1).bind fun y1 =>
 some ((y1.1 == 0), y1.2)
def spec_l1Once_c : Ct := .mut [.ptr, .rd] true true (.pair T_l1Cur (.pair (.int .i64) .unit)) .bool (fun x => spec_l1Once x.1 x.2.1)
theorem spec_l1Once_ct : CtOk Try.prog 76 spec_l1Once_c := mut_ct (E := { T := tab, G := [(73, spec_l1Below_c)] }) (EnvOk.cons spec_l1Below_ct (EnvOk.nil tabOk)) mixed (fn := Try.f76) _ _ _ _ _ _ .none Try.func76 (by kernel_rfl) (fun x => by kernel_rfl)
/-! loop.example/g00486/spec.l4Draw -/
def spec_l4Draw_l1 : (Int × (T_l1Cur.D × (Int × (Int × (Int × (Int × (Int × (Int × (Int × (Int × (Int × (Int × (Int × (Bool × (Bool × Unit))))))))))))))) → Option ((Int × (T_l1Cur.D × (Int × (Int × (Int × (Int × (Int × (Int × (Int × (Int × (Int × (Int × (Int × (Bool × (Bool × Unit))))))))))))))) ⊕ (Int × (T_l1Cur.D × (Int × (Int × (Int × (Int × (Int × (Int × (Int × (Int × (Int × (Int × (Int × (Bool × (Bool × Unit)))))))))))))))) := fun s8 =>
 bif decide (s8.1 < (([1, 2, 4, 8, 16, 32] : List Int).length : Int)) then (
 idx ([1, 2, 4, 8, 16, 32] : List Int) s8.1 fun _ =>
(([1, 2, 4, 8, 16, 32] : List Int)[(s8.1 : Int).toNat]?).bind fun x9 =>
(spec_l1Once s8.2.1 3).bind fun y10 =>
 bif y10.1 then (
 some (.inl (IntKind.wrap .i64 (s8.1 + 1), y10.2.1, s8.2.2.1, s8.2.2.2.1, s8.2.2.2.2.1, s8.2.2.2.2.2.1, s8.2.2.2.2.2.2.1, s8.2.2.2.2.2.2.2.1, s8.2.2.2.2.2.2.2.2.1, IntKind.wrap .i64 (s8.2.2.2.2.2.2.2.2.2.1 + x9), s8.2.2.2.2.2.2.2.2.2.2)))
 else (
 some (.inl (IntKind.wrap .i64 (s8.1 + 1), y10.2.1, s8.2.2))))
 else (
 some (.inr s8))
def spec_l4Draw (a0 : T_l1Cur.D) (a1 : Int) : Option (T_Piece.D × (T_l1Cur.D × Unit)) :=
(spec_l1Below a0 2).bind fun y1 =>
(spec_l1Int y1.2.1 ([2, 2, 2, 1, 3] : List Int)).bind fun y2 =>
(spec_l1Below y2.2.1 3).bind fun y3 =>
(spec_l1Below y3.2.1 5).bind fun y4 =>
(spec_l1Below y4.2.1 5).bind fun y5 =>
(while_ (spec_l4Draw_l1) (0, y5.2.1, a1, y1.1, y1.1, y2.1, y3.1, y4.1, IntKind.wrap .i64 (1 + y5.1), 0, 0, 0, 0, false, false, ())).bind fun o11 =>
 bif (o11.2.2.2.2.2.1 != 2) then (
 some (o11.2.2, (o11.2.1, ())))
 else (
(spec_l1Once o11.2.1 4).bind fun y12 =>
((bif y12.1 then (
 some (o11.2.2.1, o11.2.2.2.1, IntKind.wrap .i64 (1 - o11.2.2.2.1), o11.2.2.2.2.2))
 else (
 some o11.2.2)) : Option T_Piece.D).bind fun o13 =>
(spec_l1Int y12.2.1 ([0, 0, 1, 2] : List Int)).bind fun y14 =>
(spec_l1Int y14.2.1 ([0, 0, 0, 1] : List Int)).bind fun y15 =>
(spec_l1Int y15.2.1 ([0, 0, 1] : List Int)).bind fun y16 =>
(spec_l1Once y16.2.1 4).bind fun y17 =>
 some ((o13.1, o13.2.1, o13.2.2.1, o13.2.2.2.1, o13.2.2.2.2.1, o13.2.2.2.2.2.1, o13.2.2.2.2.2.2.1, o13.2.2.2.2.2.2.2.1, y14.1, y15.1, y16.1, o13.2.2.2.2.2.2.2.2.2.2.2.1, y17.1, ()), y17.2))
def spec_l4Draw_h : Hints := (.node none none .none (.node none none .none (.node none none .none (.node none none (.node none none .none (.node none none (.node none (some ⟨[.tmp 27 (.int .i64), .box 0 0 T_l1Cur, .box 5 0 T_Piece], [some 0], none, []⟩) .none .none) .none)) (.node none none .none (.node none none (.node none none .none (.node (some ⟨[.box 5 0 T_Piece], [none], none, [(5, 0)]⟩) none .none .none)) .none))))))
def spec_l4Draw_c : Ct := .mut [.ptr, .rd] true true (.pair T_l1Cur (.pair (.int .i64) .unit)) T_Piece (fun x => spec_l4Draw x.1 x.2.1)
theorem spec_l4Draw_ct : CtOk Try.prog 134 spec_l4Draw_c := mut_ct (E := { T := tab, G := [(73, spec_l1Below_c), (76, spec_l1Once_c), (135, spec_l1Int_c)], V := [12, 50, 54, 58] }) (EnvOk.views (EnvOk.cons spec_l1Below_ct (EnvOk.cons spec_l1Once_ct (EnvOk.cons spec_l1Int_ct (EnvOk.nil tabOk))))) mixed (fn := Try.f134) _ _ _ _ _ _ spec_l4Draw_h Try.func134 (by kernel_rfl) (fun x => by kernel_rfl)
/-! loop.example/g00486/spec.l5Draw -/
def spec_l5Draw_l1 : (Int × (T_l1Cur.D × ((List T_Piece.D) × ((List T_Side.D) × (Int × (Int × Unit)))))) → Option ((Int × (T_l1Cur.D × ((List T_Piece.D) × ((List T_Side.D) × (Int × (Int × Unit)))))) ⊕ (Int × (T_l1Cur.D × ((List T_Piece.D) × ((List T_Side.D) × (Int × (Int × Unit))))))) := fun s6 =>
 bif decide (s6.1 < 2) then (
(spec_l1Int s6.2.1 ([20, 20, 3, 1, 10] : List Int)).bind fun y7 =>
 idx s6.2.2.2.1 s6.1 fun _ =>
(s6.2.2.2.1[(s6.1 : Int).toNat]?).bind fun x8 =>
 let u9 : (List T_Side.D) := s6.2.2.2.1.set (s6.1 : Int).toNat (y7.1, x8.2)
(spec_l1Int y7.2.1 ([0, 0, 8, 1] : List Int)).bind fun y10 =>
 idx u9 s6.1 fun _ =>
(u9[(s6.1 : Int).toNat]?).bind fun x11 =>
 let u12 : (List T_Side.D) := u9.set (s6.1 : Int).toNat (x11.1, y10.1, x11.2.2)
 some (.inl (IntKind.wrap .i64 (s6.1 + 1), y10.2.1, s6.2.2.1, u12, s6.2.2.2.2)))
 else (
 some (.inr s6))
def spec_l5Draw_l2 : (Int × (Int × (T_l1Cur.D × ((List T_Piece.D) × ((List T_Side.D) × (Int × (Int × Unit))))))) → Option ((Int × (Int × (T_l1Cur.D × ((List T_Piece.D) × ((List T_Side.D) × (Int × (Int × Unit))))))) ⊕ (Int × (Int × (T_l1Cur.D × ((List T_Piece.D) × ((List T_Side.D) × (Int × (Int × Unit)))))))) := fun s17 =>
 bif decide (s17.2.1 > 0) then (
(spec_l1Below s17.2.2.1 2).bind fun y18 =>
(spec_l4Draw y18.2.1 (IntKind.wrap .i64 ((IntKind.wrap .i64 (s17.1 + 1)) + y18.1))).bind fun y19 =>
 if (s17.2.2.2.1.length + [y19.1].length) * (24 * 13) ≤ room then (
 some (.inl (IntKind.wrap .i64 ((IntKind.wrap .i64 (s17.1 + 1)) + y18.1), IntKind.wrap .i64 (s17.2.1 - 1), y19.2.1, (s17.2.2.2.1 ++ [y19.1]), s17.2.2.2.2))) else none)
 else (
 some (.inr s17))
def spec_l5Draw (a0 : T_l1Cur.D) : Option (T_State.D × (T_l1Cur.D × Unit)) :=
(spec_StateNew 2).bind fun y1 =>
(spec_l1Below a0 3).bind fun y2 =>
(spec_l1Below y2.2.1 2).bind fun y3 =>
(while_ (spec_l5Draw_l1) (0, y3.2.1, y1.1, y1.2.1, y3.1, IntKind.wrap .i64 (2 + y2.1), ())).bind fun o13 =>
(spec_l1Below o13.2.1 5).bind fun y14 =>
(while_ (spec_l5Draw_l2) (0, IntKind.wrap .i64 (1 + y14.1), y14.2.1, o13.2.2)).bind fun o20 =>
 some (o20.2.2.2, (o20.2.2.1, ()))
def spec_l5Draw_h : Hints := (.node none none .none (.node none none .none (.node none none .none (.node none none .none (.node none none (.node none none .none (.node none none (.node none (some ⟨[.tmp 4 (.int .i64), .box 0 0 T_l1Cur, .boxO 3 0 1 T_State], [some 0], none, []⟩) .none .none) .none)) (.node none none .none (.node none none (.node none none .none (.node none none (.node none (some ⟨[.tmp 5 (.int .i64), .tmp 6 (.int .i64), .box 0 0 T_l1Cur, .boxO 3 0 3 T_State], [some 2], none, []⟩) .none .none) .none)) .none)))))))
def spec_l5Draw_c : Ct := .mut [.ptr] true false (.pair T_l1Cur .unit) T_State (fun x => spec_l5Draw x.1)
theorem spec_l5Draw_ct : CtOk Try.prog 107 spec_l5Draw_c := mut_ct (E := { T := tab, G := [(73, spec_l1Below_c), (134, spec_l4Draw_c), (135, spec_l1Int_c), (147, spec_StateNew_fresh_c)], V := [24, 32] }) (EnvOk.views (EnvOk.cons spec_l1Below_ct (EnvOk.cons spec_l4Draw_ct (EnvOk.cons spec_l1Int_ct (EnvOk.cons spec_StateNew_fresh_ct (EnvOk.nil tabOk)))))) mixed (fn := Try.f107) _ _ _ _ _ _ spec_l5Draw_h Try.func107 (by kernel_rfl) (fun x => by kernel_rfl)
def spec_l5Draw_fresh_c : Ct := .mut [.ptr] true true (.pair T_l1Cur .unit) T_State (fun x => spec_l5Draw x.1)
theorem spec_l5Draw_fresh_ct : CtOk Try.prog 107 spec_l5Draw_fresh_c := mut_ct (E := { T := tab, G := [(73, spec_l1Below_c), (134, spec_l4Draw_c), (135, spec_l1Int_c), (147, spec_StateNew_fresh_c)], V := [24, 32] }) (EnvOk.views (EnvOk.cons spec_l1Below_ct (EnvOk.cons spec_l4Draw_ct (EnvOk.cons spec_l1Int_ct (EnvOk.cons spec_StateNew_fresh_ct (EnvOk.nil tabOk)))))) mixed (fn := Try.f107) _ _ _ _ _ _ spec_l5Draw_h Try.func107 (by kernel_rfl) (fun x => by kernel_rfl)
/-! loop.example/g00486/spec.l1Odd -/
def spec_l1Odd (a0 : T_l1Cur.D) : Option (Int × (T_l1Cur.D × Unit)) :=
(spec_l1Int a0 ([(-1), 0, 1, 2, 255, 256, 65535, 2147483647, 2147483648, 4294967295, 4294967296, (-2147483648), 9223372036854775807, (-9223372036854775808)] : List Int)).bind fun y1 =>
 some (y1.1, y1.2)
def spec_l1Odd_c : Ct := .mut [.ptr] true true (.pair T_l1Cur .unit) (.int .i64) (fun x => spec_l1Odd x.1)
theorem spec_l1Odd_ct : CtOk Try.prog 138 spec_l1Odd_c := mut_ct (E := { T := tab, G := [(135, spec_l1Int_c)], V := [4] }) (EnvOk.views (EnvOk.cons spec_l1Int_ct (EnvOk.nil tabOk))) mixed (fn := Try.f138) _ _ _ _ _ _ .none Try.func138 (by kernel_rfl) (fun x => by kernel_rfl)
/-! loop.example/g00486/spec.l1Raw -/
def spec_l1Raw (a0 : T_l1Cur.D) : Option (Int × (T_l1Cur.D × Unit)) :=
(spec_l1Once a0 2).bind fun y1 =>
 bif y1.1 then (
(spec_l1Odd y1.2.1).bind fun y2 =>
 some (y2.1, y2.2))
 else (
(spec_l1Int y1.2.1 ([(-2147483648), (-2147483647), (-3), (-1), 0, 1, 3, 7, 2147483647, 2147483648] : List Int)).bind fun y3 =>
 some (y3.1, y3.2))
def spec_l1Raw_c : Ct := .mut [.ptr] true true (.pair T_l1Cur .unit) (.int .i64) (fun x => spec_l1Raw x.1)
theorem spec_l1Raw_ct : CtOk Try.prog 77 spec_l1Raw_c := mut_ct (E := { T := tab, G := [(76, spec_l1Once_c), (135, spec_l1Int_c), (138, spec_l1Odd_c)], V := [8] }) (EnvOk.views (EnvOk.cons spec_l1Once_ct (EnvOk.cons spec_l1Int_ct (EnvOk.cons spec_l1Odd_ct (EnvOk.nil tabOk))))) mixed (fn := Try.f77) _ _ _ _ _ _ .none Try.func77 (by kernel_rfl) (fun x => by kernel_rfl)
/-! loop.example/g00486/spec.l4Any -/
def spec_l4Any (a0 : T_l1Cur.D) : Option (T_Piece.D × (T_l1Cur.D × Unit)) :=
(spec_l1Below a0 9).bind fun y1 =>
(spec_l4Draw y1.2.1 (IntKind.wrap .i64 (1 + y1.1))).bind fun y2 =>
(spec_l1Below y2.2.1 20).bind fun y3 =>
 bif (y3.1 == 0) then (
(spec_l1Int y3.2.1 ([0, 99, 100] : List Int)).bind fun y4 =>
 some ((y4.1, y2.1.2), y4.2))
 else (
 bif (y3.1 == 1) then (
(spec_l1Int y3.2.1 ([(-1), 2, 3] : List Int)).bind fun y5 =>
 some ((y2.1.1, y5.1, y2.1.2.2), y5.2))
 else (
 bif (y3.1 == 2) then (
(spec_l1Int y3.2.1 ([(-1), 2, 3] : List Int)).bind fun y6 =>
 some ((y2.1.1, y2.1.2.1, y6.1, y2.1.2.2.2), y6.2))
 else (
 bif (y3.1 == 3) then (
(spec_l1Int y3.2.1 ([0, 1, 4, 5] : List Int)).bind fun y7 =>
 some ((y2.1.1, y2.1.2.1, y2.1.2.2.1, y7.1, y2.1.2.2.2.2), y7.2))
 else (
 bif (y3.1 == 4) then (
(spec_l1Int y3.2.1 ([(-1), 9999, 10000] : List Int)).bind fun y8 =>
 some ((y2.1.1, y2.1.2.1, y2.1.2.2.1, y2.1.2.2.2.1, y8.1, y2.1.2.2.2.2.2), y8.2))
 else (
 bif (y3.1 == 5) then (
(spec_l1Int y3.2.1 ([(-1), 999, 1000] : List Int)).bind fun y9 =>
 some ((y2.1.1, y2.1.2.1, y2.1.2.2.1, y2.1.2.2.2.1, y2.1.2.2.2.2.1, y9.1, y2.1.2.2.2.2.2.2), y9.2))
 else (
 bif (y3.1 == 6) then (
(spec_l1Int y3.2.1 ([(-1), 999, 1000] : List Int)).bind fun y10 =>
 some ((y2.1.1, y2.1.2.1, y2.1.2.2.1, y2.1.2.2.2.1, y2.1.2.2.2.2.1, y2.1.2.2.2.2.2.1, y10.1, y2.1.2.2.2.2.2.2.2), y10.2))
 else (
 bif (y3.1 == 7) then (
(spec_l1Int y3.2.1 ([(-1), 63, 64] : List Int)).bind fun y11 =>
 some ((y2.1.1, y2.1.2.1, y2.1.2.2.1, y2.1.2.2.2.1, y2.1.2.2.2.2.1, y2.1.2.2.2.2.2.1, y2.1.2.2.2.2.2.2.1, y11.1, y2.1.2.2.2.2.2.2.2.2), y11.2))
 else (
 bif (y3.1 == 8) then (
(spec_l1Raw y3.2.1).bind fun y12 =>
 some ((y2.1.1, y2.1.2.1, y2.1.2.2.1, y2.1.2.2.2.1, y2.1.2.2.2.2.1, y2.1.2.2.2.2.2.1, y2.1.2.2.2.2.2.2.1, y2.1.2.2.2.2.2.2.2.1, y12.1, y2.1.2.2.2.2.2.2.2.2.2), y12.2))
 else (
 bif (y3.1 == 9) then (
(spec_l1Raw y3.2.1).bind fun y13 =>
 some ((y2.1.1, y2.1.2.1, y2.1.2.2.1, y2.1.2.2.2.1, y2.1.2.2.2.2.1, y2.1.2.2.2.2.2.1, y2.1.2.2.2.2.2.2.1, y2.1.2.2.2.2.2.2.2.1, y2.1.2.2.2.2.2.2.2.2.1, y13.1, y2.1.2.2.2.2.2.2.2.2.2.2), y13.2))
 else (
 bif (y3.1 == 10) then (
(spec_l1Raw y3.2.1).bind fun y14 =>
 some ((y2.1.1, y2.1.2.1, y2.1.2.2.1, y2.1.2.2.2.1, y2.1.2.2.2.2.1, y2.1.2.2.2.2.2.1, y2.1.2.2.2.2.2.2.1, y2.1.2.2.2.2.2.2.2.1, y2.1.2.2.2.2.2.2.2.2.1, y2.1.2.2.2.2.2.2.2.2.2.1, y14.1, y2.1.2.2.2.2.2.2.2.2.2.2.2), y14.2))
 else (
 bif (y3.1 == 11) then (
 some ((y2.1.1, y2.1.2.1, y2.1.2.2.1, y2.1.2.2.2.1, y2.1.2.2.2.2.1, y2.1.2.2.2.2.2.1, y2.1.2.2.2.2.2.2.1, y2.1.2.2.2.2.2.2.2.1, y2.1.2.2.2.2.2.2.2.2.1, y2.1.2.2.2.2.2.2.2.2.2.1, y2.1.2.2.2.2.2.2.2.2.2.2.1, true, y2.1.2.2.2.2.2.2.2.2.2.2.2.2), y3.2))
 else (
 some (y2.1, y3.2)))))))))))))
def spec_l4Any_c : Ct := .mut [.ptr] true true (.pair T_l1Cur .unit) T_Piece (fun x => spec_l4Any x.1)
theorem spec_l4Any_ct : CtOk Try.prog 72 spec_l4Any_c := mut_ct (E := { T := tab, G := [(73, spec_l1Below_c), (77, spec_l1Raw_c), (134, spec_l4Draw_c), (135, spec_l1Int_c)], V := [14, 20, 26, 32, 38, 44, 50, 56] }) (EnvOk.views (EnvOk.cons spec_l1Below_ct (EnvOk.cons spec_l1Raw_ct (EnvOk.cons spec_l4Draw_ct (EnvOk.cons spec_l1Int_ct (EnvOk.nil tabOk)))))) mixed (fn := Try.f72) _ _ _ _ _ _ .none Try.func72 (by kernel_rfl) (fun x => by kernel_rfl)
/-! loop.example/g00486/spec.l5Any -/
def spec_l5Any_l1 : (Int × (T_l1Cur.D × ((List T_Piece.D) × ((List T_Side.D) × (Int × (Int × Unit)))))) → Option ((Int × (T_l1Cur.D × ((List T_Piece.D) × ((List T_Side.D) × (Int × (Int × Unit)))))) ⊕ (Int × (T_l1Cur.D × ((List T_Piece.D) × ((List T_Side.D) × (Int × (Int × Unit))))))) := fun s15 =>
 bif decide (s15.1 < 46) then (
(spec_l4Draw s15.2.1 s15.1).bind fun y16 =>
 if (s15.2.2.1.length + [y16.1].length) * (24 * 13) ≤ room then (
 some (.inl (IntKind.wrap .i64 (s15.1 + 1), y16.2.1, (s15.2.2.1 ++ [y16.1]), s15.2.2.2))) else none)
 else (
 some (.inr s15))
def spec_l5Any (a0 : T_l1Cur.D) : Option (T_State.D × (T_l1Cur.D × Unit)) :=
(spec_l5Draw a0).bind fun y1 =>
(spec_l1Below y1.2.1 18).bind fun y2 =>
 bif (y2.1 == 0) then (
(spec_l1Int y2.2.1 ([(-1), 2, 3] : List Int)).bind fun y3 =>
 some ((y1.1.1, y1.1.2.1, y3.1, y1.1.2.2.2), y3.2))
 else (
 bif (y2.1 == 1) then (
(spec_l1Int y2.2.1 ([(-1), 0, 9999, 10000] : List Int)).bind fun y4 =>
 some ((y1.1.1, y1.1.2.1, y1.1.2.2.1, y4.1, ()), y4.2))
 else (
 bif (y2.1 == 2) then (
(spec_l1Raw y2.2.1).bind fun y5 =>
 if (y1.1.2.1.length + [(y5.1, 0, false, ())].length) * (24 * 3) ≤ room then (
 some ((y1.1.1, (y1.1.2.1 ++ [(y5.1, 0, false, ())]), y1.1.2.2), y5.2)) else none)
 else (
 bif (y2.1 == 3) then (
(spec_l1Raw y2.2.1).bind fun y6 =>
 idx y1.1.2.1 0 fun _ =>
(y1.1.2.1[(0 : Int).toNat]?).bind fun x7 =>
 let u8 : (List T_Side.D) := y1.1.2.1.set (0 : Int).toNat (x7.1, y6.1, x7.2.2)
 some ((y1.1.1, u8, y1.1.2.2), y6.2))
 else (
 bif (y2.1 == 4) then (
(spec_l4Any y2.2.1).bind fun y9 =>
 if (y1.1.1.length + [y9.1].length) * (24 * 13) ≤ room then (
 some (((y1.1.1 ++ [y9.1]), y1.1.2), y9.2)) else none)
 else (
 bif (y2.1 == 5) then (
 if 0 ≤ (0 : Int) then (if (0 : Int) ≤ (1 : Int) then (if (1 : Int) ≤ (y1.1.2.1.length : Int) then (
 some ((y1.1.1, ((y1.1.2.1.take ((1 : Int).toNat)).drop ((0 : Int).toNat)), y1.1.2.2), y2.2)) else none) else none) else none)
 else (
 bif (y2.1 == 6) then (
(spec_l4Any y2.2.1).bind fun y10 =>
 idx y1.1.1 0 fun _ =>
(y1.1.1[(0 : Int).toNat]?).bind fun x11 =>
 let u12 : (List T_Piece.D) := y1.1.1.set (0 : Int).toNat y10.1
 some ((u12, y1.1.2), y10.2))
 else (
 bif (y2.1 == 7) then (
(while_ (spec_l5Any_l1) (40, y2.2.1, y1.1)).bind fun o17 =>
 some (o17.2.2, (o17.2.1, ())))
 else (
 some (y1.1, y2.2)))))))))
def spec_l5Any_h : Hints := (.node none none .none (.node none none .none (.node none none (.node none none .none (.node none none (.node none none .none (.node none none .none (.node none none .none (.node none none .none (.node none none .none (.node none none .none (.node none none .none (.node none none .none (.node none none .none (.node none none .none (.node none none .none (.node none none .none (.node none none .none (.node none none .none (.node none none .none (.node none none (.node none none .none (.node none none (.node none (some ⟨[.tmp 4 (.int .i64), .box 0 0 T_l1Cur, .boxO 3 0 1 T_State], [some 1], none, []⟩) .none .none) .none)) .none)))))))))))))))) .none)) .none)))
def spec_l5Any_c : Ct := .mut [.ptr] true false (.pair T_l1Cur .unit) T_State (fun x => spec_l5Any x.1)
theorem spec_l5Any_ct : CtOk Try.prog 79 spec_l5Any_c := mut_ct (E := { T := tab, G := [(72, spec_l4Any_c), (73, spec_l1Below_c), (77, spec_l1Raw_c), (107, spec_l5Draw_fresh_c), (134, spec_l4Draw_c), (135, spec_l1Int_c)], V := [12, 18] }) (EnvOk.views (EnvOk.cons spec_l4Any_ct (EnvOk.cons spec_l1Below_ct (EnvOk.cons spec_l1Raw_ct (EnvOk.cons spec_l5Draw_fresh_ct (EnvOk.cons spec_l4Draw_ct (EnvOk.cons spec_l1Int_ct (EnvOk.nil tabOk)))))))) mixed (fn := Try.f79) _ _ _ _ _ _ spec_l5Any_h Try.func79 (by kernel_rfl) (fun x => by kernel_rfl)
def spec_l5Any_fresh_c : Ct := .mut [.ptr] true true (.pair T_l1Cur .unit) T_State (fun x => spec_l5Any x.1)
theorem spec_l5Any_fresh_ct : CtOk Try.prog 79 spec_l5Any_fresh_c := mut_ct (E := { T := tab, G := [(72, spec_l4Any_c), (73, spec_l1Below_c), (77, spec_l1Raw_c), (107, spec_l5Draw_fresh_c), (134, spec_l4Draw_c), (135, spec_l1Int_c)], V := [12, 18] }) (EnvOk.views (EnvOk.cons spec_l4Any_ct (EnvOk.cons spec_l1Below_ct (EnvOk.cons spec_l1Raw_ct (EnvOk.cons spec_l5Draw_fresh_ct (EnvOk.cons spec_l4Draw_ct (EnvOk.cons spec_l1Int_ct (EnvOk.nil tabOk)))))))) mixed (fn := Try.f79) _ _ _ _ _ _ spec_l5Any_h Try.func79 (by kernel_rfl) (fun x => by kernel_rfl)
/-! loop.example/g00486/spec.l6Id -/
def spec_l6Id (a0 : T_l1Cur.D) (a1 : T_State.D) : Option (Int × (T_l1Cur.D × Unit)) :=
((bif ((a1.1.length : Int) == 0) then (
 some (true, a0))
 else (
(spec_l1Once a0 8).bind fun y1 =>
 some (y1.1, y1.2.1))) : Option (Bool × ((List Int) × (Int × (Int × Unit))))).bind fun o2 =>
 bif o2.1 then (
(spec_l1Below o2.2 9).bind fun y3 =>
 some (IntKind.wrap .i64 (1 + y3.1), y3.2))
 else (
(spec_l1Below o2.2 (a1.1.length : Int)).bind fun y4 =>
 idx a1.1 y4.1 fun x5 =>
 some (x5.1, y4.2))
def spec_l6Id_h : Hints := (.node none none .none (.node none none (.node none none (.node (some ⟨[.tmp 12 .bool, .box 0 0 T_l1Cur], [none], none, [(0, 0)]⟩) none .none .none) .none) .none))
def spec_l6Id_c : Ct := .mut [.ptr, .rd] true true (.pair T_l1Cur (.pair T_State .unit)) (.int .i64) (fun x => spec_l6Id x.1 x.2.1)
theorem spec_l6Id_ct : CtOk Try.prog 80 spec_l6Id_c := mut_ct (E := { T := tab, G := [(73, spec_l1Below_c), (76, spec_l1Once_c)] }) (EnvOk.cons spec_l1Below_ct (EnvOk.cons spec_l1Once_ct (EnvOk.nil tabOk))) mixed (fn := Try.f80) _ _ _ _ _ _ spec_l6Id_h Try.func80 (by kernel_rfl) (fun x => by kernel_rfl)
/-! loop.example/g00486/spec.l6Draw -/
def spec_l6Draw (a0 : T_l1Cur.D) (a1 : T_State.D) : Option (T_Event.D × (T_l1Cur.D × Unit)) :=
(spec_l1Int a0 ([1, 1, 1, 2, 2, 3, 4, 5, 6] : List Int)).bind fun y1 =>
(spec_l1Int y1.2.1 ([1, 2, 3, 5, 0, 8, 2147483647] : List Int)).bind fun y2 =>
 bif (y1.1 == 1) then (
(spec_l6Id y2.2.1 a1).bind fun y3 =>
(spec_l1Once y3.2.1 2).bind fun y4 =>
 bif y4.1 then (
(spec_l1Below y4.2.1 2).bind fun y5 =>
 some ((y1.1, y3.1, 0, y5.1, y2.1, 0, false, ()), y5.2))
 else (
(spec_l6Id y4.2.1 a1).bind fun y6 =>
 some ((y1.1, y3.1, y6.1, (-1), y2.1, 0, false, ()), y6.2)))
 else (
 bif (y1.1 == 2) then (
(spec_l6Id y2.2.1 a1).bind fun y7 =>
(spec_l1Int y7.2.1 ([3, 3, 1, 2, 4] : List Int)).bind fun y8 =>
 bif (y8.1 == 2) then (
(spec_l1Int y8.2.1 ([0, 0, 1, 2] : List Int)).bind fun y9 =>
(spec_l1Once y9.2.1 3).bind fun y10 =>
 some ((y1.1, 0, y7.1, (-1), y9.1, y8.1, y10.1, ()), y10.2))
 else (
 some ((y1.1, 0, y7.1, (-1), 0, y8.1, false, ()), y8.2)))
 else (
((bif (y1.1 == 3) then (
 some (y1.1 == 3))
 else (
 some (y1.1 == 4))) : Option Bool).bind fun o11 =>
 bif o11 then (
(spec_l1Below y2.2.1 2).bind fun y12 =>
 some ((y1.1, 0, 0, y12.1, y2.1, 0, false, ()), y12.2))
 else (
(spec_l6Id y2.2.1 a1).bind fun y13 =>
 some ((y1.1, 0, y13.1, (-1), y2.1, 0, false, ()), y13.2))))
def spec_l6Draw_h : Hints := (.node none none .none (.node none none .none (.node none none .none (.node none none (.node none none .none (.node none none (.node none none .none (.node none none .none (.node none none .none (.node none none .none (.node none none (.node none none .none (.node (some ⟨[.tmp 56 .bool], [none], none, []⟩) none .none .none)) .none))))) .none)) .none))))
def spec_l6Draw_c : Ct := .mut [.ptr, .rd] true true (.pair T_l1Cur (.pair T_State .unit)) T_Event (fun x => spec_l6Draw x.1 x.2.1)
theorem spec_l6Draw_ct : CtOk Try.prog 108 spec_l6Draw_c := mut_ct (E := { T := tab, G := [(73, spec_l1Below_c), (76, spec_l1Once_c), (80, spec_l6Id_c), (135, spec_l1Int_c)], V := [7, 11, 43, 50] }) (EnvOk.views (EnvOk.cons spec_l1Below_ct (EnvOk.cons spec_l1Once_ct (EnvOk.cons spec_l6Id_ct (EnvOk.cons spec_l1Int_ct (EnvOk.nil tabOk)))))) mixed (fn := Try.f108) _ _ _ _ _ _ spec_l6Draw_h Try.func108 (by kernel_rfl) (fun x => by kernel_rfl)
/-! loop.example/g00486/spec.l6Any -/
def spec_l6Any (a0 : T_l1Cur.D) (a1 : T_State.D) : Option (T_Event.D × (T_l1Cur.D × Unit)) :=
(spec_l6Draw a0 a1).bind fun y1 =>
(spec_l1Below y1.2.1 16).bind fun y2 =>
 bif (y2.1 == 0) then (
(spec_l1Int y2.2.1 ([0, 1, 2, 3, 5, 7] : List Int)).bind fun y3 =>
 some ((y3.1, y1.1.2), y3.2))
 else (
 bif (y2.1 == 1) then (
(spec_l1Int y2.2.1 ([0, 1, 99, 100] : List Int)).bind fun y4 =>
 some ((y1.1.1, y4.1, y1.1.2.2), y4.2))
 else (
 bif (y2.1 == 2) then (
(spec_l1Int y2.2.1 ([0, 99, 100, (-1)] : List Int)).bind fun y5 =>
 some ((y1.1.1, y1.1.2.1, y5.1, y1.1.2.2.2), y5.2))
 else (
 bif (y2.1 == 3) then (
(spec_l1Int y2.2.1 ([(-2), (-1), 0, 2, 3] : List Int)).bind fun y6 =>
 some ((y1.1.1, y1.1.2.1, y1.1.2.2.1, y6.1, y1.1.2.2.2.2), y6.2))
 else (
 bif (y2.1 == 4) then (
(spec_l1Raw y2.2.1).bind fun y7 =>
 some ((y1.1.1, y1.1.2.1, y1.1.2.2.1, y1.1.2.2.2.1, y7.1, y1.1.2.2.2.2.2), y7.2))
 else (
 bif (y2.1 == 5) then (
(spec_l1Int y2.2.1 ([0, 2, 4, 5] : List Int)).bind fun y8 =>
 some ((y1.1.1, y1.1.2.1, y1.1.2.2.1, y1.1.2.2.2.1, y1.1.2.2.2.2.1, y8.1, y1.1.2.2.2.2.2.2), y8.2))
 else (
 bif (y2.1 == 6) then (
 some ((y1.1.1, y1.1.2.1, y1.1.2.2.1, y1.1.2.2.2.1, y1.1.2.2.2.2.1, y1.1.2.2.2.2.2.1, (!y1.1.2.2.2.2.2.2.1), ()), y2.2))
 else (
 some (y1.1, y2.2))))))))
def spec_l6Any_c : Ct := .mut [.ptr, .rd] true true (.pair T_l1Cur (.pair T_State .unit)) T_Event (fun x => spec_l6Any x.1 x.2.1)
theorem spec_l6Any_ct : CtOk Try.prog 109 spec_l6Any_c := mut_ct (E := { T := tab, G := [(73, spec_l1Below_c), (77, spec_l1Raw_c), (108, spec_l6Draw_c), (135, spec_l1Int_c)], V := [14, 20, 26, 32, 43] }) (EnvOk.views (EnvOk.cons spec_l1Below_ct (EnvOk.cons spec_l1Raw_ct (EnvOk.cons spec_l6Draw_ct (EnvOk.cons spec_l1Int_ct (EnvOk.nil tabOk)))))) mixed (fn := Try.f109) _ _ _ _ _ _ .none Try.func109 (by kernel_rfl) (fun x => by kernel_rfl)
/-! loop.example/g00486/spec.DrawStrike -/
def spec_DrawStrike_l1 (o5 : (T_l1Cur.D × ((List T_Piece.D) × ((List T_Side.D) × (Int × (Int × Unit)))))) : (Int × (T_l1Cur.D × (Int × (Int × (Int × (Int × (Int × (Int × (Bool × Unit))))))))) → Option ((Int × (T_l1Cur.D × (Int × (Int × (Int × (Int × (Int × (Int × (Bool × Unit))))))))) ⊕ (Int × (T_l1Cur.D × (Int × (Int × (Int × (Int × (Int × (Int × (Bool × Unit)))))))))) := fun s9 =>
((bif decide (s9.1 < 4) then (
 some (s9.2.2.1 != 1))
 else (
 some false)) : Option Bool).bind fun o10 =>
 bif o10 then (
(spec_l6Draw s9.2.1 o5.2).bind fun y11 =>
 some (.inl (IntKind.wrap .i64 (s9.1 + 1), y11.2.1, y11.1)))
 else (
 some (.inr s9))
def spec_DrawStrike (a0 : (List Int)) : Option (T_State.D × (T_Piece.D × (T_Event.D × Unit))) :=
(spec_l1New a0).bind fun y1 =>
(spec_l5Draw y1).bind fun y2 =>
(spec_l1Once y2.2.1 10).bind fun y3 =>
((bif y3.1 then (
(spec_l5Any y3.2.1).bind fun y4 =>
 some (y4.2.1, y4.1))
 else (
 some (y3.2.1, y2.1))) : Option (T_l1Cur.D × ((List T_Piece.D) × ((List T_Side.D) × (Int × (Int × Unit)))))).bind fun o5 =>
(spec_l6Draw o5.1 o5.2).bind fun y6 =>
(while_ (spec_DrawStrike_l1 o5) (0, y6.2.1, y6.1)).bind fun o12 =>
(spec_l1Once o12.2.1 10).bind fun y13 =>
((bif y13.1 then (
(spec_l6Any y13.2.1 o5.2).bind fun y14 =>
 some (y14.2.1, y14.1))
 else (
 some (y13.2.1, o12.2.2))) : Option (T_l1Cur.D × (Int × (Int × (Int × (Int × (Int × (Int × (Bool × Unit))))))))).bind fun o15 =>
(spec_l4Any o15.1).bind fun y16 =>
 some (o5.2, y16.1, o15.2, ())
def spec_DrawStrike_h : Hints := (.node none none .none (.node none none .none (.node none none .none (.node none none (.node none none .none (.node (some ⟨[.box 10 0 T_l1Cur, .box 6 0 T_State], [none], none, [(10, 0), (6, 0)]⟩) none .none .none)) (.node none none .none (.node none none (.node none none .none (.node none none (.node none (some ⟨[.tmp 8 (.int .i64), .box 10 0 T_l1Cur, .box 7 0 T_Event], [some 0], none, []⟩) (.node none none (.node none none (.node (some ⟨[.tmp 26 .bool], [none], none, []⟩) none .none .none) .none) .none) .none) .none)) (.node none none (.node none none .none (.node (some ⟨[.box 10 0 T_l1Cur, .box 7 0 T_Event], [none], none, [(10, 0), (7, 0)]⟩) none .none .none)) .none)))))))
def spec_DrawStrike_c : Ct := .pure false false (.pair (.slice (.int .u8)) .unit) (.pair T_State (.pair T_Piece (.pair T_Event .unit))) (fun x => spec_DrawStrike x.1)
theorem spec_DrawStrike_ct : CtOk Try.prog 37 spec_DrawStrike_c := pure_ct (E := { T := tab, G := [(71, spec_l1New_c), (72, spec_l4Any_c), (76, spec_l1Once_c), (79, spec_l5Any_c), (107, spec_l5Draw_c), (108, spec_l6Draw_c), (109, spec_l6Any_c)] }) (EnvOk.cons spec_l1New_ct (EnvOk.cons spec_l4Any_ct (EnvOk.cons spec_l1Once_ct (EnvOk.cons spec_l5Any_ct (EnvOk.cons spec_l5Draw_ct (EnvOk.cons spec_l6Draw_ct (EnvOk.cons spec_l6Any_ct (EnvOk.nil tabOk)))))))) mixed (fn := Try.f37) _ _ _ _ _ spec_DrawStrike_h Try.func37 (by kernel_rfl) (fun x => by kernel_rfl)
/-! slices.Clone[[]loop.example/g00486/impl.Piece,loop.example/g00486/impl.Piece] -/
def slices_Clone_impl_Piece (a0 : (List T_Piece.D)) : Option (List T_Piece.D) :=
 if (([] : List T_Piece.D).length + a0.length) * (24 * 13) ≤ room then (
 some ([] ++ a0)) else none
def slices_Clone_impl_Piece_c : Ct := .pure true false (.pair (.slice T_Piece) .unit) (.slice T_Piece) (fun x => slices_Clone_impl_Piece x.1)
theorem slices_Clone_impl_Piece_ct : CtOk Try.prog 139 slices_Clone_impl_Piece_c := nil_ct (E := { T := tab, G := [] }) (EnvOk.nil tabOk) mixed (fn := Try.f139) _ _ T_Piece _ _ .none .none Try.func139 (by kernel_rfl) (by kernel_rfl) (fun x => by kernel_rfl)
def slices_Clone_impl_Piece_fresh_c : Ct := .pure true true (.pair (.slice T_Piece) .unit) (.slice T_Piece) (fun x => slices_Clone_impl_Piece x.1)
theorem slices_Clone_impl_Piece_fresh_ct : CtOk Try.prog 139 slices_Clone_impl_Piece_fresh_c := nil_ct (E := { T := tab, G := [] }) (EnvOk.nil tabOk) mixed (fn := Try.f139) _ _ T_Piece _ _ .none .none Try.func139 (by kernel_rfl) (by kernel_rfl) (fun x => by kernel_rfl)
/-! slices.Clone[[]loop.example/g00486/impl.Side,loop.example/g00486/impl.Side] -/
def slices_Clone_impl_Side (a0 : (List T_Side.D)) : Option (List T_Side.D) :=
 if (([] : List T_Side.D).length + a0.length) * (24 * 3) ≤ room then (
 some ([] ++ a0)) else none
def slices_Clone_impl_Side_c : Ct := .pure true false (.pair (.slice T_Side) .unit) (.slice T_Side) (fun x => slices_Clone_impl_Side x.1)
theorem slices_Clone_impl_Side_ct : CtOk Try.prog 140 slices_Clone_impl_Side_c := nil_ct (E := { T := tab, G := [] }) (EnvOk.nil tabOk) mixed (fn := Try.f140) _ _ T_Side _ _ .none .none Try.func140 (by kernel_rfl) (by kernel_rfl) (fun x => by kernel_rfl)
def slices_Clone_impl_Side_fresh_c : Ct := .pure true true (.pair (.slice T_Side) .unit) (.slice T_Side) (fun x => slices_Clone_impl_Side x.1)
theorem slices_Clone_impl_Side_fresh_ct : CtOk Try.prog 140 slices_Clone_impl_Side_fresh_c := nil_ct (E := { T := tab, G := [] }) (EnvOk.nil tabOk) mixed (fn := Try.f140) _ _ T_Side _ _ .none .none Try.func140 (by kernel_rfl) (by kernel_rfl) (fun x => by kernel_rfl)
/-! loop.example/g00486/impl.copyState -/
def impl_copyState (a0 : T_State.D) : Option T_State.D :=
(slices_Clone_impl_Piece a0.1).bind fun y1 =>
(slices_Clone_impl_Side a0.2.1).bind fun y2 =>
 some (y1, y2, a0.2.2)
def impl_copyState_c : Ct := .pure true false (.pair T_State .unit) T_State (fun x => impl_copyState x.1)
theorem impl_copyState_ct : CtOk Try.prog 88 impl_copyState_c := pure_ct (E := { T := tab, G := [(139, slices_Clone_impl_Piece_fresh_c), (140, slices_Clone_impl_Side_fresh_c)] }) (EnvOk.cons slices_Clone_impl_Piece_fresh_ct (EnvOk.cons slices_Clone_impl_Side_fresh_ct (EnvOk.nil tabOk))) mixed (fn := Try.f88) _ _ _ _ _ .none Try.func88 (by kernel_rfl) (fun x => by kernel_rfl)
def impl_copyState_fresh_c : Ct := .pure true true (.pair T_State .unit) T_State (fun x => impl_copyState x.1)
theorem impl_copyState_fresh_ct : CtOk Try.prog 88 impl_copyState_fresh_c := pure_ct (E := { T := tab, G := [(139, slices_Clone_impl_Piece_fresh_c), (140, slices_Clone_impl_Side_fresh_c)] }) (EnvOk.cons slices_Clone_impl_Piece_fresh_ct (EnvOk.cons slices_Clone_impl_Side_fresh_ct (EnvOk.nil tabOk))) mixed (fn := Try.f88) _ _ _ _ _ .none Try.func88 (by kernel_rfl) (fun x => by kernel_rfl)
/-! loop.example/g00486/impl.from -/
def impl_from (a0 : Int) (a1 : Int) (a2 : Int) : Option Bool :=
 bif decide (a0 ≥ a1) then (
 some (decide (a0 ≤ a2)))
 else (
 some false)
def impl_from_c : Ct := .pure true false (.pair (.int .i64) (.pair (.int .i64) (.pair (.int .i64) .unit))) .bool (fun x => impl_from x.1 x.2.1 x.2.2.1)
theorem impl_from_ct : CtOk Try.prog 96 impl_from_c := pure_ct (E := { T := tab, G := [] }) (EnvOk.nil tabOk) mixed (fn := Try.f96) _ _ _ _ _ .none Try.func96 (by kernel_rfl) (fun x => by kernel_rfl)
/-! loop.example/g00486/impl.isSide -/
def impl_isSide (a0 : T_State.D) (a1 : Int) : Option Bool :=
(impl_from a1 0 (IntKind.wrap .i64 ((a0.2.1.length : Int) - 1))).bind fun y1 =>
 some y1
def impl_isSide_c : Ct := .pure true false (.pair T_State (.pair (.int .i64) .unit)) .bool (fun x => impl_isSide x.1 x.2.1)
theorem impl_isSide_ct : CtOk Try.prog 97 impl_isSide_c := pure_ct (E := { T := tab, G := [(96, impl_from_c)] }) (EnvOk.cons impl_from_ct (EnvOk.nil tabOk)) mixed (fn := Try.f97) _ _ _ _ _ .none Try.func97 (by kernel_rfl) (fun x => by kernel_rfl)
/-! loop.example/g00486/impl.isTime -/
def impl_isTime (a0 : Int) : Option Bool :=
(impl_from a0 0 9999).bind fun y1 =>
 some y1
def impl_isTime_c : Ct := .pure true false (.pair (.int .i64) .unit) .bool (fun x => impl_isTime x.1)
theorem impl_isTime_ct : CtOk Try.prog 98 impl_isTime_c := pure_ct (E := { T := tab, G := [(96, impl_from_c)] }) (EnvOk.cons impl_from_ct (EnvOk.nil tabOk)) mixed (fn := Try.f98) _ _ _ _ _ .none Try.func98 (by kernel_rfl) (fun x => by kernel_rfl)
/-! loop.example/g00486/impl.isId -/
def impl_isId (a0 : Int) : Option Bool :=
(impl_from a0 1 99).bind fun y1 =>
 some y1
def impl_isId_c : Ct := .pure true false (.pair (.int .i64) .unit) .bool (fun x => impl_isId x.1)
theorem impl_isId_ct : CtOk Try.prog 114 impl_isId_c := pure_ct (E := { T := tab, G := [(96, impl_from_c)] }) (EnvOk.cons impl_from_ct (EnvOk.nil tabOk)) mixed (fn := Try.f114) _ _ _ _ _ .none Try.func114 (by kernel_rfl) (fun x => by kernel_rfl)
/-! loop.example/g00486/impl.isPlayer -/
def impl_isPlayer (a0 : Int) : Option Bool :=
(impl_from a0 0 2).bind fun y1 =>
 some y1
def impl_isPlayer_c : Ct := .pure true false (.pair (.int .i64) .unit) .bool (fun x => impl_isPlayer x.1)
theorem impl_isPlayer_ct : CtOk Try.prog 143 impl_isPlayer_c := pure_ct (E := { T := tab, G := [(96, impl_from_c)] }) (EnvOk.cons impl_from_ct (EnvOk.nil tabOk)) mixed (fn := Try.f143) _ _ _ _ _ .none Try.func143 (by kernel_rfl) (fun x => by kernel_rfl)
/-! loop.example/g00486/impl.isZone -/
def impl_isZone (a0 : Int) : Option Bool :=
(impl_from a0 1 4).bind fun y1 =>
 some y1
def impl_isZone_c : Ct := .pure true false (.pair (.int .i64) .unit) .bool (fun x => impl_isZone x.1)
theorem impl_isZone_ct : CtOk Try.prog 117 impl_isZone_c := pure_ct (E := { T := tab, G := [(96, impl_from_c)] }) (EnvOk.cons impl_from_ct (EnvOk.nil tabOk)) mixed (fn := Try.f117) _ _ _ _ _ .none Try.func117 (by kernel_rfl) (fun x => by kernel_rfl)
/-! loop.example/g00486/impl.isTraits -/
def impl_isTraits (a0 : Int) : Option Bool :=
(impl_from a0 0 63).bind fun y1 =>
 some y1
def impl_isTraits_c : Ct := .pure true false (.pair (.int .i64) .unit) .bool (fun x => impl_isTraits x.1)
theorem impl_isTraits_ct : CtOk Try.prog 144 impl_isTraits_c := pure_ct (E := { T := tab, G := [(96, impl_from_c)] }) (EnvOk.cons impl_from_ct (EnvOk.nil tabOk)) mixed (fn := Try.f144) _ _ _ _ _ .none Try.func144 (by kernel_rfl) (fun x => by kernel_rfl)
/-! loop.example/g00486/impl.isAmount -/
def impl_isAmount (a0 : Int) : Option Bool :=
(impl_from a0 0 2147483647).bind fun y1 =>
 some y1
def impl_isAmount_c : Ct := .pure true false (.pair (.int .i64) .unit) .bool (fun x => impl_isAmount x.1)
theorem impl_isAmount_ct : CtOk Try.prog 103 impl_isAmount_c := pure_ct (E := { T := tab, G := [(96, impl_from_c)] }) (EnvOk.cons impl_from_ct (EnvOk.nil tabOk)) mixed (fn := Try.f103) _ _ _ _ _ .none Try.func103 (by kernel_rfl) (fun x => by kernel_rfl)
/-! loop.example/g00486/impl.PieceOk -/
def impl_PieceOk (a0 : T_Piece.D) : Option Bool :=
(((impl_isId a0.1).bind fun y1 =>
 bif (!y1) then (
 some true)
 else (
(impl_isPlayer a0.2.1).bind fun y2 =>
 bif (!y2) then (
 some true)
 else (
(impl_isPlayer a0.2.2.1).bind fun y3 =>
 bif (!y3) then (
 some true)
 else (
(impl_isZone a0.2.2.2.1).bind fun y4 =>
 bif (!y4) then (
 some true)
 else (
(impl_isTime a0.2.2.2.2.1).bind fun y5 =>
 bif (!y5) then (
 some true)
 else (
(impl_from a0.2.2.2.2.2.1 0 999).bind fun y6 =>
 bif (!y6) then (
 some true)
 else (
(impl_from a0.2.2.2.2.2.2.1 0 999).bind fun y7 =>
 bif (!y7) then (
 some true)
 else (
(impl_isTraits a0.2.2.2.2.2.2.2.1).bind fun y8 =>
 some (!y8))))))))) : Option Bool).bind fun o9 =>
 bif o9 then (
 some false)
 else (
 bif (a0.2.2.2.1 != 2) then (
((bif (a0.2.2.1 == a0.2.1) then (
 bif (a0.2.2.2.2.2.2.2.2.1 == 0) then (
 bif (a0.2.2.2.2.2.2.2.2.2.1 == 0) then (
 bif (a0.2.2.2.2.2.2.2.2.2.2.1 == 0) then (
 bif (!a0.2.2.2.2.2.2.2.2.2.2.2.1) then (
 some (!a0.2.2.2.2.2.2.2.2.2.2.2.2.1))
 else (
 some false))
 else (
 some false))
 else (
 some false))
 else (
 some false))
 else (
 some false)) : Option Bool).bind fun o10 =>
 some o10)
 else (
(impl_isAmount a0.2.2.2.2.2.2.2.2.1).bind fun y11 =>
 bif y11 then (
(impl_isAmount a0.2.2.2.2.2.2.2.2.2.1).bind fun y12 =>
 bif y12 then (
(impl_isAmount a0.2.2.2.2.2.2.2.2.2.2.1).bind fun y13 =>
 some y13)
 else (
 some false))
 else (
 some false)))
def impl_PieceOk_h : Hints := (.node none none .none (.node none none (.node none none (.node (some ⟨[.tmp 48 .bool], [none], none, []⟩) none .none .none) .none) (.node none none (.node none none .none (.node none none (.node none none (.node (some ⟨[.tmp 2 .bool], [none], none, []⟩) none .none .none) .none) .none)) .none)))
def impl_PieceOk_c : Ct := .pure true false (.pair T_Piece .unit) .bool (fun x => impl_PieceOk x.1)
theorem impl_PieceOk_ct : CtOk Try.prog 99 impl_PieceOk_c := pure_ct (E := { T := tab, G := [(96, impl_from_c), (98, impl_isTime_c), (103, impl_isAmount_c), (114, impl_isId_c), (117, impl_isZone_c), (143, impl_isPlayer_c), (144, impl_isTraits_c)] }) (EnvOk.cons impl_from_ct (EnvOk.cons impl_isTime_ct (EnvOk.cons impl_isAmount_ct (EnvOk.cons impl_isId_ct (EnvOk.cons impl_isZone_ct (EnvOk.cons impl_isPlayer_ct (EnvOk.cons impl_isTraits_ct (EnvOk.nil tabOk)))))))) mixed (fn := Try.f99) _ _ _ _ _ impl_PieceOk_h Try.func99 (by kernel_rfl) (fun x => by kernel_rfl)
/-! slices.IndexFunc[[]loop.example/g00486/impl.Side,loop.example/g00486/impl.Side] -/
def slices_IndexFunc_impl_Side_l1 (a0 : (List T_Side.D)) (a1 : ((T_Side.D × Unit) → Option Bool)) : Int → Option (Int ⊕ (Int ⊕ Int)) := fun s1 =>
 bif decide (s1 < (a0.length : Int)) then (
 idx a0 s1 fun x2 =>
(a1 (x2, ())).bind fun y3 =>
 bif y3 then (
 some (.inr (.inr s1)))
 else (
 some (.inl (IntKind.wrap .i64 (s1 + 1)))))
 else (
 some (.inr (.inl s1)))
def slices_IndexFunc_impl_Side (a0 : (List T_Side.D)) (a1 : ((T_Side.D × Unit) → Option Bool)) : Option Int :=
(while_ (slices_IndexFunc_impl_Side_l1 a0 a1) 0).bind fun o4 =>
 match o4 with
| .inl s5 => (
 some (-1))
| .inr o6 => (
 some o6)
def slices_IndexFunc_impl_Side_h : Hints := (.node none none .none (.node none none (.node none none .none (.node none none (.node none (some ⟨[.tmp 8 (.int .i64)], [some 0], some [.tmp 4 (.int .i64)], []⟩) .none .none) .none)) .none))
def slices_IndexFunc_impl_Side_c : Ct := .pure true false (.pair (.slice T_Side) (.pair (.fn (.pair T_Side .unit) .bool) .unit)) (.int .i64) (fun x => slices_IndexFunc_impl_Side x.1 x.2.1)
theorem slices_IndexFunc_impl_Side_ct : CtOk Try.prog 145 slices_IndexFunc_impl_Side_c := pure_ct (E := { T := tab, G := [] }) (EnvOk.nil tabOk) mixed (fn := Try.f145) _ _ _ _ _ slices_IndexFunc_impl_Side_h Try.func145 (by kernel_rfl) (fun x => by kernel_rfl)
/-! slices.ContainsFunc[[]loop.example/g00486/impl.Side,loop.example/g00486/impl.Side] -/
def slices_ContainsFunc_impl_Side (a0 : (List T_Side.D)) (a1 : ((T_Side.D × Unit) → Option Bool)) : Option Bool :=
(slices_IndexFunc_impl_Side a0 a1).bind fun y1 =>
 some (decide (y1 ≥ 0))
def slices_ContainsFunc_impl_Side_c : Ct := .pure true false (.pair (.slice T_Side) (.pair (.fn (.pair T_Side .unit) .bool) .unit)) .bool (fun x => slices_ContainsFunc_impl_Side x.1 x.2.1)
theorem slices_ContainsFunc_impl_Side_ct : CtOk Try.prog 100 slices_ContainsFunc_impl_Side_c := pure_ct (E := { T := tab, G := [(145, slices_IndexFunc_impl_Side_c)] }) (EnvOk.cons slices_IndexFunc_impl_Side_ct (EnvOk.nil tabOk)) mixed (fn := Try.f100) _ _ _ _ _ .none Try.func100 (by kernel_rfl) (fun x => by kernel_rfl)
/-! loop.example/g00486/impl.Bound -/
def impl_Bound (a0 : Int) : Option Int :=
 some (if (if 2147483647 < a0 then 2147483647 else a0) > (-2147483647) then (if 2147483647 < a0 then 2147483647 else a0) else (-2147483647))
def impl_Bound_c : Ct := .pure true false (.pair (.int .i64) .unit) (.int .i64) (fun x => impl_Bound x.1)
theorem impl_Bound_ct : CtOk Try.prog 102 impl_Bound_c := pure_ct (E := { T := tab, G := [] }) (EnvOk.nil tabOk) mixed (fn := Try.f102) _ _ _ _ _ .none Try.func102 (by kernel_rfl) (fun x => by kernel_rfl)
/-! loop.example/g00486/impl.StateOk$1 -/
def impl_StateOk_1 (a0 : T_Side.D) : Option Bool :=
(impl_Bound a0.1).bind fun y1 =>
 bif (y1 != a0.1) then (
 some true)
 else (
(impl_isAmount a0.2.1).bind fun y2 =>
 some (!y2))
def impl_StateOk_1_c : Ct := .pure true false (.pair T_Side .unit) .bool (fun x => impl_StateOk_1 x.1)
theorem impl_StateOk_1_ct : CtOk Try.prog 101 impl_StateOk_1_c := pure_ct (E := { T := tab, G := [(102, impl_Bound_c), (103, impl_isAmount_c)] }) (EnvOk.cons impl_Bound_ct (EnvOk.cons impl_isAmount_ct (EnvOk.nil tabOk))) mixed (fn := Try.f101) _ _ _ _ _ .none Try.func101 (by kernel_rfl) (fun x => by kernel_rfl)
/-! loop.example/g00486/impl.StateOk -/
def impl_StateOk_l1 (a0 : T_State.D) : Int → Option (Int ⊕ (Int ⊕ Bool)) := fun s5 =>
 bif decide (s5 < (a0.1.length : Int)) then (
 idx a0.1 s5 fun x6 =>
(((impl_PieceOk x6).bind fun y7 =>
 bif (!y7) then (
 some true)
 else (
(impl_isSide a0 x6.2.1).bind fun y8 =>
 bif (!y8) then (
 some true)
 else (
(impl_isSide a0 x6.2.2.1).bind fun y9 =>
 bif (!y9) then (
 some true)
 else (
 bif decide (x6.2.2.2.2.1 > a0.2.2.2.1) then (
 some true)
 else (
 bif decide (s5 > 0) then (
 idx a0.1 (IntKind.wrap .i64 (s5 - 1)) fun x10 =>
 some (decide (x10.1 ≥ x6.1)))
 else (
 some false)))))) : Option Bool).bind fun o11 =>
 bif o11 then (
 some (.inr (.inr false)))
 else (
 some (.inl (IntKind.wrap .i64 (s5 + 1)))))
 else (
 some (.inr (.inl s5)))
def impl_StateOk (a0 : T_State.D) : Option Bool :=
((bif decide ((a0.1.length : Int) > 8) then (
 some true)
 else (
(impl_from (a0.2.1.length : Int) 2 3).bind fun y1 =>
 bif (!y1) then (
 some true)
 else (
(impl_isSide a0 a0.2.2.1).bind fun y2 =>
 bif (!y2) then (
 some true)
 else (
(impl_isTime a0.2.2.2.1).bind fun y3 =>
 some (!y3))))) : Option Bool).bind fun o4 =>
 bif o4 then (
 some false)
 else (
(while_ (impl_StateOk_l1 a0) 0).bind fun o12 =>
 match o12 with
| .inl s13 => (
(slices_ContainsFunc_impl_Side a0.2.1 (fun q => impl_StateOk_1 q.1)).bind fun y15 =>
 some (!y15))
| .inr o14 => (
 some o14))
def impl_StateOk_h : Hints := (.node none none .none (.node none none (.node none none (.node (some ⟨[.tmp 28 .bool], [none], none, []⟩) none .none .none) .none) (.node none none (.node none none .none (.node none none (.node none (some ⟨[.tmp 32 (.int .i64)], [some 0], some [.tmp 2 .bool], []⟩) (.node none none .none (.node none none .none (.node none none (.node none none (.node none none .none (.node none none (.node (some ⟨[.tmp 76 .bool], [none], none, []⟩) none .none .none) .none)) .none) .none))) .none) .none)) .none)))
def impl_StateOk_c : Ct := .pure true false (.pair T_State .unit) .bool (fun x => impl_StateOk x.1)
theorem impl_StateOk_ct : CtOk Try.prog 34 impl_StateOk_c := pure_ct (E := { T := tab, G := [(96, impl_from_c), (97, impl_isSide_c), (98, impl_isTime_c), (99, impl_PieceOk_c), (100, slices_ContainsFunc_impl_Side_c), (101, impl_StateOk_1_c)] }) (EnvOk.cons impl_from_ct (EnvOk.cons impl_isSide_ct (EnvOk.cons impl_isTime_ct (EnvOk.cons impl_PieceOk_ct (EnvOk.cons slices_ContainsFunc_impl_Side_ct (EnvOk.cons impl_StateOk_1_ct (EnvOk.nil tabOk))))))) mixed (fn := Try.f34) _ _ _ _ _ impl_StateOk_h Try.func34 (by kernel_rfl) (fun x => by kernel_rfl)
/-! loop.example/g00486/impl.onPiece -/
def impl_onPiece (a0 : T_Event.D) : Option Bool :=
(impl_isId a0.2.2.1).bind fun y1 =>
 bif y1 then (
 some (a0.2.2.2.1 == (-1)))
 else (
 some false)
def impl_onPiece_c : Ct := .pure true false (.pair T_Event .unit) .bool (fun x => impl_onPiece x.1)
theorem impl_onPiece_ct : CtOk Try.prog 115 impl_onPiece_c := pure_ct (E := { T := tab, G := [(114, impl_isId_c)] }) (EnvOk.cons impl_isId_ct (EnvOk.nil tabOk)) mixed (fn := Try.f115) _ _ _ _ _ .none Try.func115 (by kernel_rfl) (fun x => by kernel_rfl)
/-! loop.example/g00486/impl.onPlayer -/
def impl_onPlayer (a0 : T_Event.D) : Option Bool :=
 bif (a0.2.2.1 == 0) then (
(impl_isPlayer a0.2.2.2.1).bind fun y1 =>
 some y1)
 else (
 some false)
def impl_onPlayer_c : Ct := .pure true false (.pair T_Event .unit) .bool (fun x => impl_onPlayer x.1)
theorem impl_onPlayer_ct : CtOk Try.prog 116 impl_onPlayer_c := pure_ct (E := { T := tab, G := [(143, impl_isPlayer_c)] }) (EnvOk.cons impl_isPlayer_ct (EnvOk.nil tabOk)) mixed (fn := Try.f116) _ _ _ _ _ .none Try.func116 (by kernel_rfl) (fun x => by kernel_rfl)
/-! loop.example/g00486/impl.EventOk -/
def impl_EventOk (a0 : T_Event.D) : Option Bool :=
(((impl_isAmount a0.2.2.2.2.1).bind fun y1 =>
 bif (!y1) then (
 some true)
 else (
 bif (a0.1 != 1) then (
 bif (a0.2.1 != 0) then (
 some true)
 else (
 bif (a0.1 != 2) then (
 bif (a0.2.2.2.2.2.1 != 0) then (
 some true)
 else (
 some a0.2.2.2.2.2.2.1))
 else (
 some false)))
 else (
 bif (a0.1 != 2) then (
 bif (a0.2.2.2.2.2.1 != 0) then (
 some true)
 else (
 some a0.2.2.2.2.2.2.1))
 else (
 some false)))) : Option Bool).bind fun o2 =>
 bif o2 then (
 some false)
 else (
 bif (a0.1 == 1) then (
(impl_isId a0.2.1).bind fun y3 =>
 bif y3 then (
(impl_onPiece a0).bind fun y4 =>
 bif y4 then (
 some true)
 else (
(impl_onPlayer a0).bind fun y5 =>
 some y5))
 else (
 some false))
 else (
 bif (a0.1 == 2) then (
 bif (a0.2.2.2.2.2.1 == 2) then (
(((impl_onPiece a0).bind fun y6 =>
 bif y6 then (
 some (decide (a0.2.2.2.2.1 ≤ 99)))
 else (
 some false)) : Option Bool).bind fun o7 =>
 some o7)
 else (
(impl_onPiece a0).bind fun y8 =>
 bif y8 then (
(impl_isZone a0.2.2.2.2.2.1).bind fun y9 =>
 bif y9 then (
 bif (a0.2.2.2.2.1 == 0) then (
 some (!a0.2.2.2.2.2.2.1))
 else (
 some false))
 else (
 some false))
 else (
 some false)))
 else (
((bif (a0.1 == 3) then (
 some (a0.1 == 3))
 else (
 some (a0.1 == 4))) : Option Bool).bind fun o10 =>
 bif o10 then (
(impl_onPlayer a0).bind fun y11 =>
 some y11)
 else (
((bif (a0.1 == 5) then (
 some (a0.1 == 5))
 else (
 some (a0.1 == 6))) : Option Bool).bind fun o12 =>
 bif o12 then (
(impl_onPiece a0).bind fun y13 =>
 some y13)
 else (
 some false)))))
def impl_EventOk_h : Hints := (.node none none .none (.node none none (.node none none (.node (some ⟨[.tmp 30 .bool], [none], none, []⟩) none .none .none) .none) (.node none none (.node none none .none (.node none none (.node none none .none (.node none none .none (.node none none .none (.node none none (.node none none (.node none none .none (.node none none (.node none none (.node (some ⟨[.tmp 2 .bool], [none], none, []⟩) none .none .none) .none) .none)) .none) (.node none none (.node none none .none (.node (some ⟨[.tmp 75 .bool], [none], none, []⟩) none .none .none)) (.node none none .none (.node none none (.node none none .none (.node (some ⟨[.tmp 80 .bool], [none], none, []⟩) none .none .none)) .none))))))) .none)) .none)))
def impl_EventOk_c : Ct := .pure true false (.pair T_Event .unit) .bool (fun x => impl_EventOk x.1)
theorem impl_EventOk_ct : CtOk Try.prog 40 impl_EventOk_c := pure_ct (E := { T := tab, G := [(103, impl_isAmount_c), (114, impl_isId_c), (115, impl_onPiece_c), (116, impl_onPlayer_c), (117, impl_isZone_c)] }) (EnvOk.cons impl_isAmount_ct (EnvOk.cons impl_isId_ct (EnvOk.cons impl_onPiece_ct (EnvOk.cons impl_onPlayer_ct (EnvOk.cons impl_isZone_ct (EnvOk.nil tabOk)))))) mixed (fn := Try.f40) _ _ _ _ _ impl_EventOk_h Try.func40 (by kernel_rfl) (fun x => by kernel_rfl)
/-! slices.IndexFunc[[]loop.example/g00486/impl.Piece,loop.example/g00486/impl.Piece] -/
def slices_IndexFunc_impl_Piece_l1 (a0 : (List T_Piece.D)) (a1 : ((T_Piece.D × Unit) → Option Bool)) : Int → Option (Int ⊕ (Int ⊕ Int)) := fun s1 =>
 bif decide (s1 < (a0.length : Int)) then (
 idx a0 s1 fun x2 =>
(a1 (x2, ())).bind fun y3 =>
 bif y3 then (
 some (.inr (.inr s1)))
 else (
 some (.inl (IntKind.wrap .i64 (s1 + 1)))))
 else (
 some (.inr (.inl s1)))
def slices_IndexFunc_impl_Piece (a0 : (List T_Piece.D)) (a1 : ((T_Piece.D × Unit) → Option Bool)) : Option Int :=
(while_ (slices_IndexFunc_impl_Piece_l1 a0 a1) 0).bind fun o4 =>
 match o4 with
| .inl s5 => (
 some (-1))
| .inr o6 => (
 some o6)
def slices_IndexFunc_impl_Piece_h : Hints := (.node none none .none (.node none none (.node none none .none (.node none none (.node none (some ⟨[.tmp 8 (.int .i64)], [some 0], some [.tmp 4 (.int .i64)], []⟩) .none .none) .none)) .none))
def slices_IndexFunc_impl_Piece_c : Ct := .pure true false (.pair (.slice T_Piece) (.pair (.fn (.pair T_Piece .unit) .bool) .unit)) (.int .i64) (fun x => slices_IndexFunc_impl_Piece x.1 x.2.1)
theorem slices_IndexFunc_impl_Piece_ct : CtOk Try.prog 119 slices_IndexFunc_impl_Piece_c := pure_ct (E := { T := tab, G := [] }) (EnvOk.nil tabOk) mixed (fn := Try.f119) _ _ _ _ _ slices_IndexFunc_impl_Piece_h Try.func119 (by kernel_rfl) (fun x => by kernel_rfl)
/-! loop.example/g00486/impl.PieceAt$1 -/
def impl_PieceAt_1 (z0 : Int) (a0 : T_Piece.D) : Option Bool :=
 some (a0.1 == z0)
def impl_PieceAt_1_c : Ct := .clo (.pair T_Piece .unit) (.pair (.int .i64) .unit) .bool (fun z x => impl_PieceAt_1 z.1 x.1)
theorem impl_PieceAt_1_ct : CtOk Try.prog 120 impl_PieceAt_1_c := clo_ct (E := { T := tab, G := [] }) (EnvOk.nil tabOk) mixed (fn := Try.f120) _ _ _ _ .none Try.func120 (by kernel_rfl) (fun z x => by kernel_rfl)
/-! loop.example/g00486/impl.PieceAt -/
def impl_PieceAt (a0 : T_State.D) (a1 : Int) : Option Int :=
(slices_IndexFunc_impl_Piece a0.1 (fun q => impl_PieceAt_1 a1 q.1)).bind fun y1 =>
 some y1
def impl_PieceAt_c : Ct := .pure true false (.pair T_State (.pair (.int .i64) .unit)) (.int .i64) (fun x => impl_PieceAt x.1 x.2.1)
theorem impl_PieceAt_ct : CtOk Try.prog 43 impl_PieceAt_c := pure_ct (E := { T := tab, G := [(119, slices_IndexFunc_impl_Piece_c), (120, impl_PieceAt_1_c)] }) (EnvOk.cons slices_IndexFunc_impl_Piece_ct (EnvOk.cons impl_PieceAt_1_ct (EnvOk.nil tabOk))) mixed (fn := Try.f43) _ _ _ _ _ .none Try.func43 (by kernel_rfl) (fun x => by kernel_rfl)
/-! loop.example/g00486/impl.fieldAt -/
def impl_fieldAt (a0 : T_State.D) (a1 : Int) : Option Int :=
(impl_PieceAt a0 a1).bind fun y1 =>
((bif decide (y1 < 0) then (
 some true)
 else (
 idx a0.1 y1 fun x2 =>
 some (x2.2.2.2.1 != 2))) : Option Bool).bind fun o3 =>
 bif o3 then (
 some (-1))
 else (
 some y1)
def impl_fieldAt_h : Hints := (.node none none .none (.node none none .none (.node none none (.node none none (.node (some ⟨[.tmp 19 .bool], [none], none, []⟩) none .none .none) .none) .none)))
def impl_fieldAt_c : Ct := .pure true false (.pair T_State (.pair (.int .i64) .unit)) (.int .i64) (fun x => impl_fieldAt x.1 x.2.1)
theorem impl_fieldAt_ct : CtOk Try.prog 111 impl_fieldAt_c := pure_ct (E := { T := tab, G := [(43, impl_PieceAt_c)] }) (EnvOk.cons impl_PieceAt_ct (EnvOk.nil tabOk)) mixed (fn := Try.f111) _ _ _ _ _ impl_fieldAt_h Try.func111 (by kernel_rfl) (fun x => by kernel_rfl)
/-! loop.example/g00486/impl.reaches -/
def impl_reaches (a0 : T_State.D) (a1 : T_Event.D) : Option Bool :=
 bif (a1.2.2.1 == 0) then (
(impl_isSide a0 a1.2.2.2.1).bind fun y1 =>
 some y1)
 else (
(impl_fieldAt a0 a1.2.2.1).bind fun y2 =>
 some (decide (y2 ≥ 0)))
def impl_reaches_c : Ct := .pure true false (.pair T_State (.pair T_Event .unit)) .bool (fun x => impl_reaches x.1 x.2.1)
theorem impl_reaches_ct : CtOk Try.prog 110 impl_reaches_c := pure_ct (E := { T := tab, G := [(97, impl_isSide_c), (111, impl_fieldAt_c)] }) (EnvOk.cons impl_isSide_ct (EnvOk.cons impl_fieldAt_ct (EnvOk.nil tabOk))) mixed (fn := Try.f110) _ _ _ _ _ .none Try.func110 (by kernel_rfl) (fun x => by kernel_rfl)
/-! loop.example/g00486/impl.HasTrait -/
def impl_HasTrait (a0 : T_Piece.D) (a1 : Int) : Option Bool :=
((bif (a1 == 1) then (
 some (a1 == 1))
 else (
((bif (a1 == 2) then (
 some (a1 == 2))
 else (
((bif (a1 == 4) then (
 some (a1 == 4))
 else (
((bif (a1 == 8) then (
 some (a1 == 8))
 else (
((bif (a1 == 16) then (
 some (a1 == 16))
 else (
 some (a1 == 32))) : Option Bool).bind fun o1 =>
 some o1)) : Option Bool).bind fun o2 =>
 some o2)) : Option Bool).bind fun o3 =>
 some o3)) : Option Bool).bind fun o4 =>
 some o4)) : Option Bool).bind fun o5 =>
 bif o5 then (
 let k6 : Int := IntKind.wrap .i64 (BitVec.ofInt (IntKind.bits .i64) a0.2.2.2.2.2.2.2.1 &&& BitVec.ofInt (IntKind.bits .i64) a1).toNat
 some (k6 != 0))
 else (
 some false)
def impl_HasTrait_h : Hints := (.node none none .none (.node none none (.node none none .none (.node none none (.node none none (.node none none .none (.node (some ⟨[.tmp 6 .bool], [none], none, []⟩) none .none (.node none none .none (.node (some ⟨[.tmp 6 .bool], [none], none, []⟩) none .none (.node none none .none (.node (some ⟨[.tmp 6 .bool], [none], none, []⟩) none .none (.node none none .none (.node (some ⟨[.tmp 6 .bool], [none], none, []⟩) none .none (.node none none .none (.node (some ⟨[.tmp 6 .bool], [none], none, []⟩) none .none .none)))))))))) .none) .none)) .none))
def impl_HasTrait_c : Ct := .pure true false (.pair T_Piece (.pair (.int .i64) .unit)) .bool (fun x => impl_HasTrait x.1 x.2.1)
theorem impl_HasTrait_ct : CtOk Try.prog 21 impl_HasTrait_c := pure_ct (E := { T := tab, G := [] }) (EnvOk.nil tabOk) mixed (fn := Try.f21) _ _ _ _ _ impl_HasTrait_h Try.func21 (by kernel_rfl) (fun x => by kernel_rfl)
/-! loop.example/g00486/impl.Plus -/
def impl_Plus (a0 : Int) (a1 : Int) : Option Int :=
(impl_Bound a0).bind fun y1 =>
(impl_Bound a1).bind fun y2 =>
(impl_Bound (IntKind.wrap .i64 (y1 + y2))).bind fun y3 =>
 some y3
def impl_Plus_c : Ct := .pure true false (.pair (.int .i64) (.pair (.int .i64) .unit)) (.int .i64) (fun x => impl_Plus x.1 x.2.1)
theorem impl_Plus_ct : CtOk Try.prog 44 impl_Plus_c := pure_ct (E := { T := tab, G := [(102, impl_Bound_c)] }) (EnvOk.cons impl_Bound_ct (EnvOk.nil tabOk)) mixed (fn := Try.f44) _ _ _ _ _ .none Try.func44 (by kernel_rfl) (fun x => by kernel_rfl)
/-! loop.example/g00486/impl.Less -/
def impl_Less (a0 : Int) (a1 : Int) : Option Int :=
(impl_Bound a0).bind fun y1 =>
(impl_Bound a1).bind fun y2 =>
(impl_Bound (IntKind.wrap .i64 (y1 - y2))).bind fun y3 =>
 some y3
def impl_Less_c : Ct := .pure true false (.pair (.int .i64) (.pair (.int .i64) .unit)) (.int .i64) (fun x => impl_Less x.1 x.2.1)
theorem impl_Less_ct : CtOk Try.prog 82 impl_Less_c := pure_ct (E := { T := tab, G := [(102, impl_Bound_c)] }) (EnvOk.cons impl_Bound_ct (EnvOk.nil tabOk)) mixed (fn := Try.f82) _ _ _ _ _ .none Try.func82 (by kernel_rfl) (fun x => by kernel_rfl)
/-! loop.example/g00486/impl.Strike -/
def impl_Strike (a0 : T_State.D) (a1 : T_Piece.D) (a2 : T_Event.D) : Option (T_State.D × (Int × Unit)) :=
(impl_copyState a0).bind fun y1 =>
(impl_StateOk y1).bind fun y2 =>
 bif (!y2) then (
 some (y1, 0, ()))
 else (
(impl_EventOk a2).bind fun y3 =>
 bif (!y3) then (
 some (y1, 0, ()))
 else (
 bif (a2.1 != 1) then (
 some (y1, 0, ()))
 else (
(impl_reaches y1 a2).bind fun y4 =>
 bif (!y4) then (
 some (y1, 0, ()))
 else (
(impl_HasTrait a1 2).bind fun y5 =>
 bif (a2.2.2.1 == 0) then (
 bif y5 then (
 idx y1.2.1 a2.2.2.2.1 fun _ =>
(y1.2.1[(a2.2.2.2.1 : Int).toNat]?).bind fun x6 =>
(impl_Plus x6.2.1 a2.2.2.2.2.1).bind fun y7 =>
 idx y1.2.1 a2.2.2.2.1 fun _ =>
(y1.2.1[(a2.2.2.2.1 : Int).toNat]?).bind fun x8 =>
 let u9 : (List T_Side.D) := y1.2.1.set (a2.2.2.2.1 : Int).toNat (x8.1, y7, x8.2.2)
(impl_HasTrait a1 1).bind fun y10 =>
 bif y10 then (
(impl_isSide (y1.1, u9, y1.2.2) a1.2.2.1).bind fun y11 =>
 bif y11 then (
 idx u9 a1.2.2.1 fun _ =>
(u9[(a1.2.2.1 : Int).toNat]?).bind fun x12 =>
(impl_Plus x12.1 a2.2.2.2.2.1).bind fun y13 =>
 idx u9 a1.2.2.1 fun _ =>
(u9[(a1.2.2.1 : Int).toNat]?).bind fun x14 =>
 let u15 : (List T_Side.D) := u9.set (a1.2.2.1 : Int).toNat (y13, x14.2)
 some ((y1.1, u15, y1.2.2), a2.2.2.2.2.1, ()))
 else (
 some ((y1.1, u9, y1.2.2), a2.2.2.2.2.1, ())))
 else (
 some ((y1.1, u9, y1.2.2), a2.2.2.2.2.1, ())))
 else (
 bif (a2.2.2.1 == 0) then (
 idx y1.2.1 a2.2.2.2.1 fun _ =>
(y1.2.1[(a2.2.2.2.1 : Int).toNat]?).bind fun x16 =>
(impl_Less x16.1 a2.2.2.2.2.1).bind fun y17 =>
 idx y1.2.1 a2.2.2.2.1 fun _ =>
(y1.2.1[(a2.2.2.2.1 : Int).toNat]?).bind fun x18 =>
 let u19 : (List T_Side.D) := y1.2.1.set (a2.2.2.2.1 : Int).toNat (y17, x18.2)
(impl_HasTrait a1 1).bind fun y20 =>
 bif y20 then (
(impl_isSide (y1.1, u19, y1.2.2) a1.2.2.1).bind fun y21 =>
 bif y21 then (
 idx u19 a1.2.2.1 fun _ =>
(u19[(a1.2.2.1 : Int).toNat]?).bind fun x22 =>
(impl_Plus x22.1 a2.2.2.2.2.1).bind fun y23 =>
 idx u19 a1.2.2.1 fun _ =>
(u19[(a1.2.2.1 : Int).toNat]?).bind fun x24 =>
 let u25 : (List T_Side.D) := u19.set (a1.2.2.1 : Int).toNat (y23, x24.2)
 some ((y1.1, u25, y1.2.2), a2.2.2.2.2.1, ()))
 else (
 some ((y1.1, u19, y1.2.2), a2.2.2.2.2.1, ())))
 else (
 some ((y1.1, u19, y1.2.2), a2.2.2.2.2.1, ())))
 else (
(impl_fieldAt y1 a2.2.2.1).bind fun y26 =>
 idx y1.1 y26 fun _ =>
 bif y5 then (
(y1.1[(y26 : Int).toNat]?).bind fun x27 =>
(impl_Plus x27.2.2.2.2.2.2.2.2.2.1 a2.2.2.2.2.1).bind fun y28 =>
(y1.1[(y26 : Int).toNat]?).bind fun x29 =>
 let u30 : (List T_Piece.D) := y1.1.set (y26 : Int).toNat (x29.1, x29.2.1, x29.2.2.1, x29.2.2.2.1, x29.2.2.2.2.1, x29.2.2.2.2.2.1, x29.2.2.2.2.2.2.1, x29.2.2.2.2.2.2.2.1, x29.2.2.2.2.2.2.2.2.1, y28, x29.2.2.2.2.2.2.2.2.2.2)
(u30[(y26 : Int).toNat]?).bind fun x31 =>
 bif x31.2.2.2.2.2.2.2.2.2.2.2.1 then (
(u30[(y26 : Int).toNat]?).bind fun x32 =>
 let u33 : (List T_Piece.D) := u30.set (y26 : Int).toNat (x32.1, x32.2.1, x32.2.2.1, x32.2.2.2.1, x32.2.2.2.2.1, x32.2.2.2.2.2.1, x32.2.2.2.2.2.2.1, x32.2.2.2.2.2.2.2.1, x32.2.2.2.2.2.2.2.2.1, x32.2.2.2.2.2.2.2.2.2.1, x32.2.2.2.2.2.2.2.2.2.2.1, true, x32.2.2.2.2.2.2.2.2.2.2.2.2)
(impl_HasTrait a1 1).bind fun y34 =>
 bif y34 then (
(impl_isSide (u33, y1.2) a1.2.2.1).bind fun y35 =>
 bif y35 then (
 idx y1.2.1 a1.2.2.1 fun _ =>
(y1.2.1[(a1.2.2.1 : Int).toNat]?).bind fun x36 =>
(impl_Plus x36.1 a2.2.2.2.2.1).bind fun y37 =>
 idx y1.2.1 a1.2.2.1 fun _ =>
(y1.2.1[(a1.2.2.1 : Int).toNat]?).bind fun x38 =>
 let u39 : (List T_Side.D) := y1.2.1.set (a1.2.2.1 : Int).toNat (y37, x38.2)
 some ((u33, u39, y1.2.2), a2.2.2.2.2.1, ()))
 else (
 some ((u33, y1.2), a2.2.2.2.2.1, ())))
 else (
 some ((u33, y1.2), a2.2.2.2.2.1, ())))
 else (
(impl_HasTrait a1 4).bind fun y40 =>
 bif y40 then (
(u30[(y26 : Int).toNat]?).bind fun x41 =>
 let u42 : (List T_Piece.D) := u30.set (y26 : Int).toNat (x41.1, x41.2.1, x41.2.2.1, x41.2.2.2.1, x41.2.2.2.2.1, x41.2.2.2.2.2.1, x41.2.2.2.2.2.2.1, x41.2.2.2.2.2.2.2.1, x41.2.2.2.2.2.2.2.2.1, x41.2.2.2.2.2.2.2.2.2.1, x41.2.2.2.2.2.2.2.2.2.2.1, decide (a2.2.2.2.2.1 ≥ 1), x41.2.2.2.2.2.2.2.2.2.2.2.2)
(impl_HasTrait a1 1).bind fun y43 =>
 bif y43 then (
(impl_isSide (u42, y1.2) a1.2.2.1).bind fun y44 =>
 bif y44 then (
 idx y1.2.1 a1.2.2.1 fun _ =>
(y1.2.1[(a1.2.2.1 : Int).toNat]?).bind fun x45 =>
(impl_Plus x45.1 a2.2.2.2.2.1).bind fun y46 =>
 idx y1.2.1 a1.2.2.1 fun _ =>
(y1.2.1[(a1.2.2.1 : Int).toNat]?).bind fun x47 =>
 let u48 : (List T_Side.D) := y1.2.1.set (a1.2.2.1 : Int).toNat (y46, x47.2)
 some ((u42, u48, y1.2.2), a2.2.2.2.2.1, ()))
 else (
 some ((u42, y1.2), a2.2.2.2.2.1, ())))
 else (
 some ((u42, y1.2), a2.2.2.2.2.1, ())))
 else (
(u30[(y26 : Int).toNat]?).bind fun x49 =>
 let u50 : (List T_Piece.D) := u30.set (y26 : Int).toNat (x49.1, x49.2.1, x49.2.2.1, x49.2.2.2.1, x49.2.2.2.2.1, x49.2.2.2.2.2.1, x49.2.2.2.2.2.2.1, x49.2.2.2.2.2.2.2.1, x49.2.2.2.2.2.2.2.2.1, x49.2.2.2.2.2.2.2.2.2.1, x49.2.2.2.2.2.2.2.2.2.2.1, false, x49.2.2.2.2.2.2.2.2.2.2.2.2)
(impl_HasTrait a1 1).bind fun y51 =>
 bif y51 then (
(impl_isSide (u50, y1.2) a1.2.2.1).bind fun y52 =>
 bif y52 then (
 idx y1.2.1 a1.2.2.1 fun _ =>
(y1.2.1[(a1.2.2.1 : Int).toNat]?).bind fun x53 =>
(impl_Plus x53.1 a2.2.2.2.2.1).bind fun y54 =>
 idx y1.2.1 a1.2.2.1 fun _ =>
(y1.2.1[(a1.2.2.1 : Int).toNat]?).bind fun x55 =>
 let u56 : (List T_Side.D) := y1.2.1.set (a1.2.2.1 : Int).toNat (y54, x55.2)
 some ((u50, u56, y1.2.2), a2.2.2.2.2.1, ()))
 else (
 some ((u50, y1.2), a2.2.2.2.2.1, ())))
 else (
 some ((u50, y1.2), a2.2.2.2.2.1, ())))))
 else (
(y1.1[(y26 : Int).toNat]?).bind fun x57 =>
(impl_Plus x57.2.2.2.2.2.2.2.2.2.2.1 a2.2.2.2.2.1).bind fun y58 =>
(y1.1[(y26 : Int).toNat]?).bind fun x59 =>
 let u60 : (List T_Piece.D) := y1.1.set (y26 : Int).toNat (x59.1, x59.2.1, x59.2.2.1, x59.2.2.2.1, x59.2.2.2.2.1, x59.2.2.2.2.2.1, x59.2.2.2.2.2.2.1, x59.2.2.2.2.2.2.2.1, x59.2.2.2.2.2.2.2.2.1, x59.2.2.2.2.2.2.2.2.2.1, y58, x59.2.2.2.2.2.2.2.2.2.2.2)
(u60[(y26 : Int).toNat]?).bind fun x61 =>
 bif x61.2.2.2.2.2.2.2.2.2.2.2.1 then (
(u60[(y26 : Int).toNat]?).bind fun x62 =>
 let u63 : (List T_Piece.D) := u60.set (y26 : Int).toNat (x62.1, x62.2.1, x62.2.2.1, x62.2.2.2.1, x62.2.2.2.2.1, x62.2.2.2.2.2.1, x62.2.2.2.2.2.2.1, x62.2.2.2.2.2.2.2.1, x62.2.2.2.2.2.2.2.2.1, x62.2.2.2.2.2.2.2.2.2.1, x62.2.2.2.2.2.2.2.2.2.2.1, true, x62.2.2.2.2.2.2.2.2.2.2.2.2)
(impl_HasTrait a1 1).bind fun y64 =>
 bif y64 then (
(impl_isSide (u63, y1.2) a1.2.2.1).bind fun y65 =>
 bif y65 then (
 idx y1.2.1 a1.2.2.1 fun _ =>
(y1.2.1[(a1.2.2.1 : Int).toNat]?).bind fun x66 =>
(impl_Plus x66.1 a2.2.2.2.2.1).bind fun y67 =>
 idx y1.2.1 a1.2.2.1 fun _ =>
(y1.2.1[(a1.2.2.1 : Int).toNat]?).bind fun x68 =>
 let u69 : (List T_Side.D) := y1.2.1.set (a1.2.2.1 : Int).toNat (y67, x68.2)
 some ((u63, u69, y1.2.2), a2.2.2.2.2.1, ()))
 else (
 some ((u63, y1.2), a2.2.2.2.2.1, ())))
 else (
 some ((u63, y1.2), a2.2.2.2.2.1, ())))
 else (
(impl_HasTrait a1 4).bind fun y70 =>
 bif y70 then (
(u60[(y26 : Int).toNat]?).bind fun x71 =>
 let u72 : (List T_Piece.D) := u60.set (y26 : Int).toNat (x71.1, x71.2.1, x71.2.2.1, x71.2.2.2.1, x71.2.2.2.2.1, x71.2.2.2.2.2.1, x71.2.2.2.2.2.2.1, x71.2.2.2.2.2.2.2.1, x71.2.2.2.2.2.2.2.2.1, x71.2.2.2.2.2.2.2.2.2.1, x71.2.2.2.2.2.2.2.2.2.2.1, decide (a2.2.2.2.2.1 ≥ 1), x71.2.2.2.2.2.2.2.2.2.2.2.2)
(impl_HasTrait a1 1).bind fun y73 =>
 bif y73 then (
(impl_isSide (u72, y1.2) a1.2.2.1).bind fun y74 =>
 bif y74 then (
 idx y1.2.1 a1.2.2.1 fun _ =>
(y1.2.1[(a1.2.2.1 : Int).toNat]?).bind fun x75 =>
(impl_Plus x75.1 a2.2.2.2.2.1).bind fun y76 =>
 idx y1.2.1 a1.2.2.1 fun _ =>
(y1.2.1[(a1.2.2.1 : Int).toNat]?).bind fun x77 =>
 let u78 : (List T_Side.D) := y1.2.1.set (a1.2.2.1 : Int).toNat (y76, x77.2)
 some ((u72, u78, y1.2.2), a2.2.2.2.2.1, ()))
 else (
 some ((u72, y1.2), a2.2.2.2.2.1, ())))
 else (
 some ((u72, y1.2), a2.2.2.2.2.1, ())))
 else (
(u60[(y26 : Int).toNat]?).bind fun x79 =>
 let u80 : (List T_Piece.D) := u60.set (y26 : Int).toNat (x79.1, x79.2.1, x79.2.2.1, x79.2.2.2.1, x79.2.2.2.2.1, x79.2.2.2.2.2.1, x79.2.2.2.2.2.2.1, x79.2.2.2.2.2.2.2.1, x79.2.2.2.2.2.2.2.2.1, x79.2.2.2.2.2.2.2.2.2.1, x79.2.2.2.2.2.2.2.2.2.2.1, false, x79.2.2.2.2.2.2.2.2.2.2.2.2)
(impl_HasTrait a1 1).bind fun y81 =>
 bif y81 then (
(impl_isSide (u80, y1.2) a1.2.2.1).bind fun y82 =>
 bif y82 then (
 idx y1.2.1 a1.2.2.1 fun _ =>
(y1.2.1[(a1.2.2.1 : Int).toNat]?).bind fun x83 =>
(impl_Plus x83.1 a2.2.2.2.2.1).bind fun y84 =>
 idx y1.2.1 a1.2.2.1 fun _ =>
(y1.2.1[(a1.2.2.1 : Int).toNat]?).bind fun x85 =>
 let u86 : (List T_Side.D) := y1.2.1.set (a1.2.2.1 : Int).toNat (y84, x85.2)
 some ((u80, u86, y1.2.2), a2.2.2.2.2.1, ()))
 else (
 some ((u80, y1.2), a2.2.2.2.2.1, ())))
 else (
 some ((u80, y1.2), a2.2.2.2.2.1, ()))))))))
 else (
 bif (a2.2.2.1 == 0) then (
 idx y1.2.1 a2.2.2.2.1 fun _ =>
(y1.2.1[(a2.2.2.2.1 : Int).toNat]?).bind fun x87 =>
(impl_Less x87.1 a2.2.2.2.2.1).bind fun y88 =>
 idx y1.2.1 a2.2.2.2.1 fun _ =>
(y1.2.1[(a2.2.2.2.1 : Int).toNat]?).bind fun x89 =>
 let u90 : (List T_Side.D) := y1.2.1.set (a2.2.2.2.1 : Int).toNat (y88, x89.2)
(impl_HasTrait a1 1).bind fun y91 =>
 bif y91 then (
(impl_isSide (y1.1, u90, y1.2.2) a1.2.2.1).bind fun y92 =>
 bif y92 then (
 idx u90 a1.2.2.1 fun _ =>
(u90[(a1.2.2.1 : Int).toNat]?).bind fun x93 =>
(impl_Plus x93.1 a2.2.2.2.2.1).bind fun y94 =>
 idx u90 a1.2.2.1 fun _ =>
(u90[(a1.2.2.1 : Int).toNat]?).bind fun x95 =>
 let u96 : (List T_Side.D) := u90.set (a1.2.2.1 : Int).toNat (y94, x95.2)
 some ((y1.1, u96, y1.2.2), a2.2.2.2.2.1, ()))
 else (
 some ((y1.1, u90, y1.2.2), a2.2.2.2.2.1, ())))
 else (
 some ((y1.1, u90, y1.2.2), a2.2.2.2.2.1, ())))
 else (
(impl_fieldAt y1 a2.2.2.1).bind fun y97 =>
 idx y1.1 y97 fun _ =>
 bif y5 then (
(y1.1[(y97 : Int).toNat]?).bind fun x98 =>
(impl_Plus x98.2.2.2.2.2.2.2.2.2.1 a2.2.2.2.2.1).bind fun y99 =>
(y1.1[(y97 : Int).toNat]?).bind fun x100 =>
 let u101 : (List T_Piece.D) := y1.1.set (y97 : Int).toNat (x100.1, x100.2.1, x100.2.2.1, x100.2.2.2.1, x100.2.2.2.2.1, x100.2.2.2.2.2.1, x100.2.2.2.2.2.2.1, x100.2.2.2.2.2.2.2.1, x100.2.2.2.2.2.2.2.2.1, y99, x100.2.2.2.2.2.2.2.2.2.2)
(u101[(y97 : Int).toNat]?).bind fun x102 =>
 bif x102.2.2.2.2.2.2.2.2.2.2.2.1 then (
(u101[(y97 : Int).toNat]?).bind fun x103 =>
 let u104 : (List T_Piece.D) := u101.set (y97 : Int).toNat (x103.1, x103.2.1, x103.2.2.1, x103.2.2.2.1, x103.2.2.2.2.1, x103.2.2.2.2.2.1, x103.2.2.2.2.2.2.1, x103.2.2.2.2.2.2.2.1, x103.2.2.2.2.2.2.2.2.1, x103.2.2.2.2.2.2.2.2.2.1, x103.2.2.2.2.2.2.2.2.2.2.1, true, x103.2.2.2.2.2.2.2.2.2.2.2.2)
(impl_HasTrait a1 1).bind fun y105 =>
 bif y105 then (
(impl_isSide (u104, y1.2) a1.2.2.1).bind fun y106 =>
 bif y106 then (
 idx y1.2.1 a1.2.2.1 fun _ =>
(y1.2.1[(a1.2.2.1 : Int).toNat]?).bind fun x107 =>
(impl_Plus x107.1 a2.2.2.2.2.1).bind fun y108 =>
 idx y1.2.1 a1.2.2.1 fun _ =>
(y1.2.1[(a1.2.2.1 : Int).toNat]?).bind fun x109 =>
 let u110 : (List T_Side.D) := y1.2.1.set (a1.2.2.1 : Int).toNat (y108, x109.2)
 some ((u104, u110, y1.2.2), a2.2.2.2.2.1, ()))
 else (
 some ((u104, y1.2), a2.2.2.2.2.1, ())))
 else (
 some ((u104, y1.2), a2.2.2.2.2.1, ())))
 else (
(impl_HasTrait a1 4).bind fun y111 =>
 bif y111 then (
(u101[(y97 : Int).toNat]?).bind fun x112 =>
 let u113 : (List T_Piece.D) := u101.set (y97 : Int).toNat (x112.1, x112.2.1, x112.2.2.1, x112.2.2.2.1, x112.2.2.2.2.1, x112.2.2.2.2.2.1, x112.2.2.2.2.2.2.1, x112.2.2.2.2.2.2.2.1, x112.2.2.2.2.2.2.2.2.1, x112.2.2.2.2.2.2.2.2.2.1, x112.2.2.2.2.2.2.2.2.2.2.1, decide (a2.2.2.2.2.1 ≥ 1), x112.2.2.2.2.2.2.2.2.2.2.2.2)
(impl_HasTrait a1 1).bind fun y114 =>
 bif y114 then (
(impl_isSide (u113, y1.2) a1.2.2.1).bind fun y115 =>
 bif y115 then (
 idx y1.2.1 a1.2.2.1 fun _ =>
(y1.2.1[(a1.2.2.1 : Int).toNat]?).bind fun x116 =>
(impl_Plus x116.1 a2.2.2.2.2.1).bind fun y117 =>
 idx y1.2.1 a1.2.2.1 fun _ =>
(y1.2.1[(a1.2.2.1 : Int).toNat]?).bind fun x118 =>
 let u119 : (List T_Side.D) := y1.2.1.set (a1.2.2.1 : Int).toNat (y117, x118.2)
 some ((u113, u119, y1.2.2), a2.2.2.2.2.1, ()))
 else (
 some ((u113, y1.2), a2.2.2.2.2.1, ())))
 else (
 some ((u113, y1.2), a2.2.2.2.2.1, ())))
 else (
(u101[(y97 : Int).toNat]?).bind fun x120 =>
 let u121 : (List T_Piece.D) := u101.set (y97 : Int).toNat (x120.1, x120.2.1, x120.2.2.1, x120.2.2.2.1, x120.2.2.2.2.1, x120.2.2.2.2.2.1, x120.2.2.2.2.2.2.1, x120.2.2.2.2.2.2.2.1, x120.2.2.2.2.2.2.2.2.1, x120.2.2.2.2.2.2.2.2.2.1, x120.2.2.2.2.2.2.2.2.2.2.1, false, x120.2.2.2.2.2.2.2.2.2.2.2.2)
(impl_HasTrait a1 1).bind fun y122 =>
 bif y122 then (
(impl_isSide (u121, y1.2) a1.2.2.1).bind fun y123 =>
 bif y123 then (
 idx y1.2.1 a1.2.2.1 fun _ =>
(y1.2.1[(a1.2.2.1 : Int).toNat]?).bind fun x124 =>
(impl_Plus x124.1 a2.2.2.2.2.1).bind fun y125 =>
 idx y1.2.1 a1.2.2.1 fun _ =>
(y1.2.1[(a1.2.2.1 : Int).toNat]?).bind fun x126 =>
 let u127 : (List T_Side.D) := y1.2.1.set (a1.2.2.1 : Int).toNat (y125, x126.2)
 some ((u121, u127, y1.2.2), a2.2.2.2.2.1, ()))
 else (
 some ((u121, y1.2), a2.2.2.2.2.1, ())))
 else (
 some ((u121, y1.2), a2.2.2.2.2.1, ())))))
 else (
(y1.1[(y97 : Int).toNat]?).bind fun x128 =>
(impl_Plus x128.2.2.2.2.2.2.2.2.2.2.1 a2.2.2.2.2.1).bind fun y129 =>
(y1.1[(y97 : Int).toNat]?).bind fun x130 =>
 let u131 : (List T_Piece.D) := y1.1.set (y97 : Int).toNat (x130.1, x130.2.1, x130.2.2.1, x130.2.2.2.1, x130.2.2.2.2.1, x130.2.2.2.2.2.1, x130.2.2.2.2.2.2.1, x130.2.2.2.2.2.2.2.1, x130.2.2.2.2.2.2.2.2.1, x130.2.2.2.2.2.2.2.2.2.1, y129, x130.2.2.2.2.2.2.2.2.2.2.2)
(u131[(y97 : Int).toNat]?).bind fun x132 =>
 bif x132.2.2.2.2.2.2.2.2.2.2.2.1 then (
(u131[(y97 : Int).toNat]?).bind fun x133 =>
 let u134 : (List T_Piece.D) := u131.set (y97 : Int).toNat (x133.1, x133.2.1, x133.2.2.1, x133.2.2.2.1, x133.2.2.2.2.1, x133.2.2.2.2.2.1, x133.2.2.2.2.2.2.1, x133.2.2.2.2.2.2.2.1, x133.2.2.2.2.2.2.2.2.1, x133.2.2.2.2.2.2.2.2.2.1, x133.2.2.2.2.2.2.2.2.2.2.1, true, x133.2.2.2.2.2.2.2.2.2.2.2.2)
(impl_HasTrait a1 1).bind fun y135 =>
 bif y135 then (
(impl_isSide (u134, y1.2) a1.2.2.1).bind fun y136 =>
 bif y136 then (
 idx y1.2.1 a1.2.2.1 fun _ =>
(y1.2.1[(a1.2.2.1 : Int).toNat]?).bind fun x137 =>
(impl_Plus x137.1 a2.2.2.2.2.1).bind fun y138 =>
 idx y1.2.1 a1.2.2.1 fun _ =>
(y1.2.1[(a1.2.2.1 : Int).toNat]?).bind fun x139 =>
 let u140 : (List T_Side.D) := y1.2.1.set (a1.2.2.1 : Int).toNat (y138, x139.2)
 some ((u134, u140, y1.2.2), a2.2.2.2.2.1, ()))
 else (
 some ((u134, y1.2), a2.2.2.2.2.1, ())))
 else (
 some ((u134, y1.2), a2.2.2.2.2.1, ())))
 else (
(impl_HasTrait a1 4).bind fun y141 =>
 bif y141 then (
(u131[(y97 : Int).toNat]?).bind fun x142 =>
 let u143 : (List T_Piece.D) := u131.set (y97 : Int).toNat (x142.1, x142.2.1, x142.2.2.1, x142.2.2.2.1, x142.2.2.2.2.1, x142.2.2.2.2.2.1, x142.2.2.2.2.2.2.1, x142.2.2.2.2.2.2.2.1, x142.2.2.2.2.2.2.2.2.1, x142.2.2.2.2.2.2.2.2.2.1, x142.2.2.2.2.2.2.2.2.2.2.1, decide (a2.2.2.2.2.1 ≥ 1), x142.2.2.2.2.2.2.2.2.2.2.2.2)
(impl_HasTrait a1 1).bind fun y144 =>
 bif y144 then (
(impl_isSide (u143, y1.2) a1.2.2.1).bind fun y145 =>
 bif y145 then (
 idx y1.2.1 a1.2.2.1 fun _ =>
(y1.2.1[(a1.2.2.1 : Int).toNat]?).bind fun x146 =>
(impl_Plus x146.1 a2.2.2.2.2.1).bind fun y147 =>
 idx y1.2.1 a1.2.2.1 fun _ =>
(y1.2.1[(a1.2.2.1 : Int).toNat]?).bind fun x148 =>
 let u149 : (List T_Side.D) := y1.2.1.set (a1.2.2.1 : Int).toNat (y147, x148.2)
 some ((u143, u149, y1.2.2), a2.2.2.2.2.1, ()))
 else (
 some ((u143, y1.2), a2.2.2.2.2.1, ())))
 else (
 some ((u143, y1.2), a2.2.2.2.2.1, ())))
 else (
(u131[(y97 : Int).toNat]?).bind fun x150 =>
 let u151 : (List T_Piece.D) := u131.set (y97 : Int).toNat (x150.1, x150.2.1, x150.2.2.1, x150.2.2.2.1, x150.2.2.2.2.1, x150.2.2.2.2.2.1, x150.2.2.2.2.2.2.1, x150.2.2.2.2.2.2.2.1, x150.2.2.2.2.2.2.2.2.1, x150.2.2.2.2.2.2.2.2.2.1, x150.2.2.2.2.2.2.2.2.2.2.1, false, x150.2.2.2.2.2.2.2.2.2.2.2.2)
(impl_HasTrait a1 1).bind fun y152 =>
 bif y152 then (
(impl_isSide (u151, y1.2) a1.2.2.1).bind fun y153 =>
 bif y153 then (
 idx y1.2.1 a1.2.2.1 fun _ =>
(y1.2.1[(a1.2.2.1 : Int).toNat]?).bind fun x154 =>
(impl_Plus x154.1 a2.2.2.2.2.1).bind fun y155 =>
 idx y1.2.1 a1.2.2.1 fun _ =>
(y1.2.1[(a1.2.2.1 : Int).toNat]?).bind fun x156 =>
 let u157 : (List T_Side.D) := y1.2.1.set (a1.2.2.1 : Int).toNat (y155, x156.2)
 some ((u151, u157, y1.2.2), a2.2.2.2.2.1, ()))
 else (
 some ((u151, y1.2), a2.2.2.2.2.1, ())))
 else (
 some ((u151, y1.2), a2.2.2.2.2.1, ())))))))))))
def impl_Strike_c : Ct := .pure false false (.pair T_State (.pair T_Piece (.pair T_Event .unit))) (.pair T_State (.pair (.int .i64) .unit)) (fun x => impl_Strike x.1 x.2.1 x.2.2.1)
theorem impl_Strike_ct : CtOk Try.prog 38 impl_Strike_c := pure_ct (E := { T := tab, G := [(21, impl_HasTrait_c), (34, impl_StateOk_c), (40, impl_EventOk_c), (44, impl_Plus_c), (82, impl_Less_c), (88, impl_copyState_fresh_c), (97, impl_isSide_c), (110, impl_reaches_c), (111, impl_fieldAt_c)] }) (EnvOk.cons impl_HasTrait_ct (EnvOk.cons impl_StateOk_ct (EnvOk.cons impl_EventOk_ct (EnvOk.cons impl_Plus_ct (EnvOk.cons impl_Less_ct (EnvOk.cons impl_copyState_fresh_ct (EnvOk.cons impl_isSide_ct (EnvOk.cons impl_reaches_ct (EnvOk.cons impl_fieldAt_ct (EnvOk.nil tabOk)))))))))) mixed (fn := Try.f38) _ _ _ _ _ .none Try.func38 (by kernel_rfl) (fun x => by kernel_rfl)
def impl_Strike_fresh_c : Ct := .pure false true (.pair T_State (.pair T_Piece (.pair T_Event .unit))) (.pair T_State (.pair (.int .i64) .unit)) (fun x => impl_Strike x.1 x.2.1 x.2.2.1)
theorem impl_Strike_fresh_ct : CtOk Try.prog 38 impl_Strike_fresh_c := pure_ct (E := { T := tab, G := [(21, impl_HasTrait_c), (34, impl_StateOk_c), (40, impl_EventOk_c), (44, impl_Plus_c), (82, impl_Less_c), (88, impl_copyState_fresh_c), (97, impl_isSide_c), (110, impl_reaches_c), (111, impl_fieldAt_c)] }) (EnvOk.cons impl_HasTrait_ct (EnvOk.cons impl_StateOk_ct (EnvOk.cons impl_EventOk_ct (EnvOk.cons impl_Plus_ct (EnvOk.cons impl_Less_ct (EnvOk.cons impl_copyState_fresh_ct (EnvOk.cons impl_isSide_ct (EnvOk.cons impl_reaches_ct (EnvOk.cons impl_fieldAt_ct (EnvOk.nil tabOk)))))))))) mixed (fn := Try.f38) _ _ _ _ _ .none Try.func38 (by kernel_rfl) (fun x => by kernel_rfl)
/-! loop.example/g00486/spec.l5Copy -/
def spec_l5Copy (a0 : T_State.D) : Option T_State.D :=
 if (([] : List T_Piece.D).length + a0.1.length) * (24 * 13) ≤ room then (
 if (([] : List T_Side.D).length + a0.2.1.length) * (24 * 3) ≤ room then (
 some (([] ++ a0.1), ([] ++ a0.2.1), a0.2.2)) else none) else none
def spec_l5Copy_c : Ct := .pure true false (.pair T_State .unit) T_State (fun x => spec_l5Copy x.1)
theorem spec_l5Copy_ct : CtOk Try.prog 90 spec_l5Copy_c := pure_ct (E := { T := tab, G := [] }) (EnvOk.nil tabOk) mixed (fn := Try.f90) _ _ _ _ _ .none Try.func90 (by kernel_rfl) (fun x => by kernel_rfl)
def spec_l5Copy_fresh_c : Ct := .pure true true (.pair T_State .unit) T_State (fun x => spec_l5Copy x.1)
theorem spec_l5Copy_fresh_ct : CtOk Try.prog 90 spec_l5Copy_fresh_c := pure_ct (E := { T := tab, G := [] }) (EnvOk.nil tabOk) mixed (fn := Try.f90) _ _ _ _ _ .none Try.func90 (by kernel_rfl) (fun x => by kernel_rfl)
/-! loop.example/g00486/spec.l1In -/
def spec_l1In (a0 : Int) (a1 : Int) (a2 : Int) : Option Bool :=
 bif decide (a0 ≥ a1) then (
 some (decide (a0 ≤ a2)))
 else (
 some false)
def spec_l1In_c : Ct := .pure true false (.pair (.int .i64) (.pair (.int .i64) (.pair (.int .i64) .unit))) .bool (fun x => spec_l1In x.1 x.2.1 x.2.2.1)
theorem spec_l1In_ct : CtOk Try.prog 113 spec_l1In_c := pure_ct (E := { T := tab, G := [] }) (EnvOk.nil tabOk) mixed (fn := Try.f113) _ _ _ _ _ .none Try.func113 (by kernel_rfl) (fun x => by kernel_rfl)
/-! loop.example/g00486/spec.PieceOk -/
def spec_PieceOk (a0 : T_Piece.D) : Option Bool :=
(((spec_l1In a0.1 1 99).bind fun y1 =>
 bif (!y1) then (
 some true)
 else (
(spec_l1In a0.2.1 0 2).bind fun y2 =>
 bif (!y2) then (
 some true)
 else (
(spec_l1In a0.2.2.1 0 2).bind fun y3 =>
 bif (!y3) then (
 some true)
 else (
(spec_l1In a0.2.2.2.1 1 4).bind fun y4 =>
 bif (!y4) then (
 some true)
 else (
(spec_l1In a0.2.2.2.2.1 0 9999).bind fun y5 =>
 bif (!y5) then (
 some true)
 else (
(spec_l1In a0.2.2.2.2.2.1 0 999).bind fun y6 =>
 bif (!y6) then (
 some true)
 else (
(spec_l1In a0.2.2.2.2.2.2.1 0 999).bind fun y7 =>
 bif (!y7) then (
 some true)
 else (
(spec_l1In a0.2.2.2.2.2.2.2.1 0 63).bind fun y8 =>
 some (!y8))))))))) : Option Bool).bind fun o9 =>
 bif o9 then (
 some false)
 else (
(((spec_l1In a0.2.2.2.2.2.2.2.2.1 0 2147483647).bind fun y10 =>
 bif (!y10) then (
 some true)
 else (
(spec_l1In a0.2.2.2.2.2.2.2.2.2.1 0 2147483647).bind fun y11 =>
 bif (!y11) then (
 some true)
 else (
(spec_l1In a0.2.2.2.2.2.2.2.2.2.2.1 0 2147483647).bind fun y12 =>
 some (!y12)))) : Option Bool).bind fun o13 =>
 bif o13 then (
 some false)
 else (
 bif (a0.2.2.2.1 == 2) then (
 some true)
 else (
 bif (a0.2.2.1 == a0.2.1) then (
 bif (a0.2.2.2.2.2.2.2.2.1 == 0) then (
 bif (a0.2.2.2.2.2.2.2.2.2.1 == 0) then (
 bif (a0.2.2.2.2.2.2.2.2.2.2.1 == 0) then (
 bif (!a0.2.2.2.2.2.2.2.2.2.2.2.1) then (
 some (!a0.2.2.2.2.2.2.2.2.2.2.2.2.1))
 else (
 some false))
 else (
 some false))
 else (
 some false))
 else (
 some false))
 else (
 some false))))
def spec_PieceOk_h : Hints := (.node none none .none (.node none none (.node none none (.node (some ⟨[.tmp 48 .bool], [none], none, []⟩) none .none .none) .none) (.node none none (.node none none (.node (some ⟨[.tmp 64 .bool], [none], none, []⟩) none .none .none) .none) .none)))
def spec_PieceOk_c : Ct := .pure true false (.pair T_Piece .unit) .bool (fun x => spec_PieceOk x.1)
theorem spec_PieceOk_ct : CtOk Try.prog 141 spec_PieceOk_c := pure_ct (E := { T := tab, G := [(113, spec_l1In_c)] }) (EnvOk.cons spec_l1In_ct (EnvOk.nil tabOk)) mixed (fn := Try.f141) _ _ _ _ _ spec_PieceOk_h Try.func141 (by kernel_rfl) (fun x => by kernel_rfl)
/-! loop.example/g00486/spec.l5Side -/
def spec_l5Side (a0 : T_Side.D) : Option Bool :=
(spec_l1In a0.1 (-2147483647) 2147483647).bind fun y1 =>
 bif y1 then (
(spec_l1In a0.2.1 0 2147483647).bind fun y2 =>
 some y2)
 else (
 some false)
def spec_l5Side_c : Ct := .pure true false (.pair T_Side .unit) .bool (fun x => spec_l5Side x.1)
theorem spec_l5Side_ct : CtOk Try.prog 142 spec_l5Side_c := pure_ct (E := { T := tab, G := [(113, spec_l1In_c)] }) (EnvOk.cons spec_l1In_ct (EnvOk.nil tabOk)) mixed (fn := Try.f142) _ _ _ _ _ .none Try.func142 (by kernel_rfl) (fun x => by kernel_rfl)
/-! loop.example/g00486/spec.StateOk -/
def spec_StateOk_l1 (a0 : T_State.D) : Int → Option (Int ⊕ (Int ⊕ Bool)) := fun s5 =>
 bif decide (s5 < (a0.1.length : Int)) then (
 idx a0.1 s5 fun x6 =>
(((spec_PieceOk x6).bind fun y7 =>
 bif (!y7) then (
 some true)
 else (
 bif decide (s5 > 0) then (
 idx a0.1 (IntKind.wrap .i64 (s5 - 1)) fun x8 =>
 bif decide (x8.1 ≥ x6.1) then (
 some true)
 else (
 bif decide (x6.2.1 ≥ (a0.2.1.length : Int)) then (
 some true)
 else (
 bif decide (x6.2.2.1 ≥ (a0.2.1.length : Int)) then (
 some true)
 else (
 some (decide (x6.2.2.2.2.1 > a0.2.2.2.1))))))
 else (
 bif decide (x6.2.1 ≥ (a0.2.1.length : Int)) then (
 some true)
 else (
 bif decide (x6.2.2.1 ≥ (a0.2.1.length : Int)) then (
 some true)
 else (
 some (decide (x6.2.2.2.2.1 > a0.2.2.2.1))))))) : Option Bool).bind fun o9 =>
 bif o9 then (
 some (.inr (.inr false)))
 else (
 some (.inl (IntKind.wrap .i64 (s5 + 1)))))
 else (
 some (.inr (.inl s5)))
def spec_StateOk_l2 (a0 : T_State.D) : Int → Option (Int ⊕ (Int ⊕ Bool)) := fun s13 =>
 bif decide (s13 < (a0.2.1.length : Int)) then (
 idx a0.2.1 s13 fun x14 =>
(spec_l5Side x14).bind fun y15 =>
 bif (!y15) then (
 some (.inr (.inr false)))
 else (
 some (.inl (IntKind.wrap .i64 (s13 + 1)))))
 else (
 some (.inr (.inl s13)))
def spec_StateOk (a0 : T_State.D) : Option Bool :=
((bif decide ((a0.1.length : Int) > 8) then (
 some true)
 else (
(spec_l1In (a0.2.1.length : Int) 2 3).bind fun y1 =>
 bif (!y1) then (
 some true)
 else (
(spec_l1In a0.2.2.1 0 (IntKind.wrap .i64 ((a0.2.1.length : Int) - 1))).bind fun y2 =>
 bif (!y2) then (
 some true)
 else (
(spec_l1In a0.2.2.2.1 0 9999).bind fun y3 =>
 some (!y3))))) : Option Bool).bind fun o4 =>
 bif o4 then (
 some false)
 else (
(while_ (spec_StateOk_l1 a0) 0).bind fun o10 =>
 match o10 with
| .inl s11 => (
(while_ (spec_StateOk_l2 a0) 0).bind fun o16 =>
 match o16 with
| .inl s17 => (
 some true)
| .inr o18 => (
 some o18))
| .inr o12 => (
 some o12))
def spec_StateOk_h : Hints := (.node none none .none (.node none none (.node none none (.node (some ⟨[.tmp 32 .bool], [none], none, []⟩) none .none .none) .none) (.node none none (.node none none .none (.node none none (.node none (some ⟨[.tmp 3 (.int .i64)], [some 0], some [.tmp 2 .bool], []⟩) (.node none none .none (.node none none (.node none none (.node none none .none (.node none none (.node (some ⟨[.tmp 86 .bool], [none], none, []⟩) none .none .none) .none)) .none) .none)) .none) .none)) (.node none none (.node none none .none (.node none none (.node none (some ⟨[.tmp 5 (.int .i64)], [some 2], some [.tmp 2 .bool], []⟩) .none .none) .none)) .none))))
def spec_StateOk_c : Ct := .pure true false (.pair T_State .unit) .bool (fun x => spec_StateOk x.1)
theorem spec_StateOk_ct : CtOk Try.prog 91 spec_StateOk_c := pure_ct (E := { T := tab, G := [(113, spec_l1In_c), (141, spec_PieceOk_c), (142, spec_l5Side_c)] }) (EnvOk.cons spec_l1In_ct (EnvOk.cons spec_PieceOk_ct (EnvOk.cons spec_l5Side_ct (EnvOk.nil tabOk)))) mixed (fn := Try.f91) _ _ _ _ _ spec_StateOk_h Try.func91 (by kernel_rfl) (fun x => by kernel_rfl)
/-! loop.example/g00486/spec.EventOk -/
def spec_EventOk (a0 : T_Event.D) : Option Bool :=
(((spec_l1In a0.2.2.1 1 99).bind fun y1 =>
 bif y1 then (
 some (a0.2.2.2.1 == (-1)))
 else (
 some false)) : Option Bool).bind fun o2 =>
((bif (a0.2.2.1 == 0) then (
(spec_l1In a0.2.2.2.1 0 2).bind fun y3 =>
 some y3)
 else (
 some false)) : Option Bool).bind fun o4 =>
(spec_l1In a0.2.2.2.2.1 0 2147483647).bind fun y5 =>
 bif (!y5) then (
 some false)
 else (
 bif (a0.1 == 1) then (
(spec_l1In a0.2.1 1 99).bind fun y6 =>
 bif y6 then (
 bif o2 then (
 bif (a0.2.2.2.2.2.1 == 0) then (
 some (!a0.2.2.2.2.2.2.1))
 else (
 some false))
 else (
 bif o4 then (
 bif (a0.2.2.2.2.2.1 == 0) then (
 some (!a0.2.2.2.2.2.2.1))
 else (
 some false))
 else (
 some false)))
 else (
 some false))
 else (
 bif (a0.1 == 2) then (
 bif (a0.2.1 == 0) then (
 bif o2 then (
(spec_l1In a0.2.2.2.2.2.1 1 4).bind fun y7 =>
 bif y7 then (
 bif decide (a0.2.2.2.2.1 ≤ 99) then (
 bif (a0.2.2.2.2.2.1 == 2) then (
 some true)
 else (
 bif (a0.2.2.2.2.1 == 0) then (
 some (!a0.2.2.2.2.2.2.1))
 else (
 some false)))
 else (
 some false))
 else (
 some false))
 else (
 some false))
 else (
 some false))
 else (
((bif (a0.1 == 3) then (
 some (a0.1 == 3))
 else (
 some (a0.1 == 4))) : Option Bool).bind fun o8 =>
 bif o8 then (
 bif (a0.2.1 == 0) then (
 bif o4 then (
 bif (a0.2.2.2.2.2.1 == 0) then (
 some (!a0.2.2.2.2.2.2.1))
 else (
 some false))
 else (
 some false))
 else (
 some false))
 else (
((bif (a0.1 == 5) then (
 some (a0.1 == 5))
 else (
 some (a0.1 == 6))) : Option Bool).bind fun o9 =>
 bif o9 then (
 bif (a0.2.1 == 0) then (
 bif o2 then (
 bif (a0.2.2.2.2.2.1 == 0) then (
 some (!a0.2.2.2.2.2.2.1))
 else (
 some false))
 else (
 some false))
 else (
 some false))
 else (
 some false)))))
def spec_EventOk_h : Hints := (.node none none .none (.node none none (.node (some ⟨[.tmp 3 .bool], [none], none, []⟩) none .none .none) (.node none none (.node (some ⟨[.tmp 4 .bool], [none], none, []⟩) none .none .none) (.node none none .none (.node none none (.node none none .none (.node none none (.node none none .none (.node none none .none (.node none none .none (.node none none .none (.node none none (.node none none .none (.node (some ⟨[.tmp 81 .bool], [none], none, []⟩) none .none .none)) (.node none none .none (.node none none (.node none none .none (.node (some ⟨[.tmp 100 .bool], [none], none, []⟩) none .none .none)) .none))))))) .none)) .none)))))
def spec_EventOk_c : Ct := .pure true false (.pair T_Event .unit) .bool (fun x => spec_EventOk x.1)
theorem spec_EventOk_ct : CtOk Try.prog 112 spec_EventOk_c := pure_ct (E := { T := tab, G := [(113, spec_l1In_c)] }) (EnvOk.cons spec_l1In_ct (EnvOk.nil tabOk)) mixed (fn := Try.f112) _ _ _ _ _ spec_EventOk_h Try.func112 (by kernel_rfl) (fun x => by kernel_rfl)
/-! loop.example/g00486/spec.HasTrait -/
def spec_HasTrait (a0 : T_Piece.D) (a1 : Int) : Option Bool :=
 bif (a1 == 1) then (
 let k1 : Int := IntKind.wrap .i64 (BitVec.ofInt (IntKind.bits .i64) a0.2.2.2.2.2.2.2.1 &&& BitVec.ofInt (IntKind.bits .i64) a1).toNat
 some (k1 != 0))
 else (
 bif (a1 == 2) then (
 let k2 : Int := IntKind.wrap .i64 (BitVec.ofInt (IntKind.bits .i64) a0.2.2.2.2.2.2.2.1 &&& BitVec.ofInt (IntKind.bits .i64) a1).toNat
 some (k2 != 0))
 else (
 bif (a1 == 4) then (
 let k3 : Int := IntKind.wrap .i64 (BitVec.ofInt (IntKind.bits .i64) a0.2.2.2.2.2.2.2.1 &&& BitVec.ofInt (IntKind.bits .i64) a1).toNat
 some (k3 != 0))
 else (
 bif (a1 == 8) then (
 let k4 : Int := IntKind.wrap .i64 (BitVec.ofInt (IntKind.bits .i64) a0.2.2.2.2.2.2.2.1 &&& BitVec.ofInt (IntKind.bits .i64) a1).toNat
 some (k4 != 0))
 else (
 bif (a1 == 16) then (
 let k5 : Int := IntKind.wrap .i64 (BitVec.ofInt (IntKind.bits .i64) a0.2.2.2.2.2.2.2.1 &&& BitVec.ofInt (IntKind.bits .i64) a1).toNat
 some (k5 != 0))
 else (
 bif (a1 == 32) then (
 let k6 : Int := IntKind.wrap .i64 (BitVec.ofInt (IntKind.bits .i64) a0.2.2.2.2.2.2.2.1 &&& BitVec.ofInt (IntKind.bits .i64) a1).toNat
 some (k6 != 0))
 else (
 some false))))))
def spec_HasTrait_c : Ct := .pure true false (.pair T_Piece (.pair (.int .i64) .unit)) .bool (fun x => spec_HasTrait x.1 x.2.1)
theorem spec_HasTrait_ct : CtOk Try.prog 83 spec_HasTrait_c := pure_ct (E := { T := tab, G := [] }) (EnvOk.nil tabOk) mixed (fn := Try.f83) _ _ _ _ _ .none Try.func83 (by kernel_rfl) (fun x => by kernel_rfl)
/-! loop.example/g00486/spec.Bound -/
def spec_Bound (a0 : Int) : Option Int :=
 bif decide (a0 > 2147483647) then (
 some 2147483647)
 else (
 bif decide (a0 < (-2147483647)) then (
 some (-2147483647))
 else (
 some a0))
def spec_Bound_c : Ct := .pure true false (.pair (.int .i64) .unit) (.int .i64) (fun x => spec_Bound x.1)
theorem spec_Bound_ct : CtOk Try.prog 137 spec_Bound_c := pure_ct (E := { T := tab, G := [] }) (EnvOk.nil tabOk) mixed (fn := Try.f137) _ _ _ _ _ .none Try.func137 (by kernel_rfl) (fun x => by kernel_rfl)
/-! loop.example/g00486/spec.Plus -/
def spec_Plus (a0 : Int) (a1 : Int) : Option Int :=
(spec_Bound a0).bind fun y1 =>
(spec_Bound a1).bind fun y2 =>
(spec_Bound (IntKind.wrap .i64 (y1 + y2))).bind fun y3 =>
 some y3
def spec_Plus_c : Ct := .pure true false (.pair (.int .i64) (.pair (.int .i64) .unit)) (.int .i64) (fun x => spec_Plus x.1 x.2.1)
theorem spec_Plus_ct : CtOk Try.prog 75 spec_Plus_c := pure_ct (E := { T := tab, G := [(137, spec_Bound_c)] }) (EnvOk.cons spec_Bound_ct (EnvOk.nil tabOk)) mixed (fn := Try.f75) _ _ _ _ _ .none Try.func75 (by kernel_rfl) (fun x => by kernel_rfl)
/-! loop.example/g00486/spec.Less -/
def spec_Less (a0 : Int) (a1 : Int) : Option Int :=
(spec_Bound a0).bind fun y1 =>
(spec_Bound a1).bind fun y2 =>
(spec_Bound (IntKind.wrap .i64 (y1 - y2))).bind fun y3 =>
 some y3
def spec_Less_c : Ct := .pure true false (.pair (.int .i64) (.pair (.int .i64) .unit)) (.int .i64) (fun x => spec_Less x.1 x.2.1)
theorem spec_Less_ct : CtOk Try.prog 85 spec_Less_c := pure_ct (E := { T := tab, G := [(137, spec_Bound_c)] }) (EnvOk.cons spec_Bound_ct (EnvOk.nil tabOk)) mixed (fn := Try.f85) _ _ _ _ _ .none Try.func85 (by kernel_rfl) (fun x => by kernel_rfl)
/-! loop.example/g00486/spec.PieceAt -/
def spec_PieceAt_l1 (a0 : T_State.D) (a1 : Int) : Int → Option (Int ⊕ (Int ⊕ Int)) := fun s1 =>
 bif decide (s1 < (a0.1.length : Int)) then (
 idx a0.1 s1 fun x2 =>
 bif (x2.1 == a1) then (
 some (.inr (.inr s1)))
 else (
 some (.inl (IntKind.wrap .i64 (s1 + 1)))))
 else (
 some (.inr (.inl s1)))
def spec_PieceAt (a0 : T_State.D) (a1 : Int) : Option Int :=
(while_ (spec_PieceAt_l1 a0 a1) 0).bind fun o3 =>
 match o3 with
| .inl s4 => (
 some (-1))
| .inr o5 => (
 some o5)
def spec_PieceAt_h : Hints := (.node none none .none (.node none none (.node none none .none (.node none none (.node none (some ⟨[.tmp 5 (.int .i64)], [some 0], some [.tmp 4 (.int .i64)], []⟩) .none .none) .none)) .none))
def spec_PieceAt_c : Ct := .pure true false (.pair T_State (.pair (.int .i64) .unit)) (.int .i64) (fun x => spec_PieceAt x.1 x.2.1)
theorem spec_PieceAt_ct : CtOk Try.prog 86 spec_PieceAt_c := pure_ct (E := { T := tab, G := [] }) (EnvOk.nil tabOk) mixed (fn := Try.f86) _ _ _ _ _ spec_PieceAt_h Try.func86 (by kernel_rfl) (fun x => by kernel_rfl)
/-! loop.example/g00486/spec.Strike -/
def spec_Strike (a0 : T_State.D) (a1 : T_Piece.D) (a2 : T_Event.D) : Option (T_State.D × (Int × Unit)) :=
(spec_l5Copy a0).bind fun y1 =>
(((spec_StateOk a0).bind fun y2 =>
 bif (!y2) then (
 some true)
 else (
(spec_EventOk a2).bind fun y3 =>
 bif (!y3) then (
 some true)
 else (
 some (a2.1 != 1)))) : Option Bool).bind fun o4 =>
 bif o4 then (
 some (y1, 0, ()))
 else (
(spec_HasTrait a1 2).bind fun y5 =>
((bif (a2.2.2.1 == 0) then (
 bif decide (a2.2.2.2.1 ≥ (a0.2.1.length : Int)) then (
 some (.inr ((0, y1))))
 else (
((bif y5 then (
 idx a0.2.1 a2.2.2.2.1 fun x6 =>
(spec_Plus x6.2.1 a2.2.2.2.2.1).bind fun y7 =>
 idx y1.2.1 a2.2.2.2.1 fun _ =>
(y1.2.1[(a2.2.2.2.1 : Int).toNat]?).bind fun x8 =>
 let u9 : (List T_Side.D) := y1.2.1.set (a2.2.2.2.1 : Int).toNat (x8.1, y7, x8.2.2)
 some (y1.1, u9, y1.2.2))
 else (
 idx a0.2.1 a2.2.2.2.1 fun x10 =>
(spec_Less x10.1 a2.2.2.2.2.1).bind fun y11 =>
 idx y1.2.1 a2.2.2.2.1 fun _ =>
(y1.2.1[(a2.2.2.2.1 : Int).toNat]?).bind fun x12 =>
 let u13 : (List T_Side.D) := y1.2.1.set (a2.2.2.2.1 : Int).toNat (y11, x12.2)
 some (y1.1, u13, y1.2.2))) : Option T_State.D).bind fun o14 =>
 some (.inl (([], [], 0, 0, ()), o14))))
 else (
(spec_PieceAt a0 a2.2.2.1).bind fun y15 =>
((bif decide (y15 < 0) then (
 some true)
 else (
 idx a0.1 y15 fun x16 =>
 some (x16.2.2.2.1 != 2))) : Option Bool).bind fun o17 =>
 bif o17 then (
 some (.inr ((0, y1))))
 else (
((bif y5 then (
 idx a0.1 y15 fun x18 =>
(spec_Plus x18.2.2.2.2.2.2.2.2.2.1 a2.2.2.2.2.1).bind fun y19 =>
 idx y1.1 y15 fun _ =>
(y1.1[(y15 : Int).toNat]?).bind fun x20 =>
 let u21 : (List T_Piece.D) := y1.1.set (y15 : Int).toNat (x20.1, x20.2.1, x20.2.2.1, x20.2.2.2.1, x20.2.2.2.2.1, x20.2.2.2.2.2.1, x20.2.2.2.2.2.2.1, x20.2.2.2.2.2.2.2.1, x20.2.2.2.2.2.2.2.2.1, y19, x20.2.2.2.2.2.2.2.2.2.2)
 some (u21, y1.2))
 else (
 idx a0.1 y15 fun x22 =>
(spec_Plus x22.2.2.2.2.2.2.2.2.2.2.1 a2.2.2.2.2.1).bind fun y23 =>
 idx y1.1 y15 fun _ =>
(y1.1[(y15 : Int).toNat]?).bind fun x24 =>
 let u25 : (List T_Piece.D) := y1.1.set (y15 : Int).toNat (x24.1, x24.2.1, x24.2.2.1, x24.2.2.2.1, x24.2.2.2.2.1, x24.2.2.2.2.2.1, x24.2.2.2.2.2.2.1, x24.2.2.2.2.2.2.2.1, x24.2.2.2.2.2.2.2.2.1, x24.2.2.2.2.2.2.2.2.2.1, y23, x24.2.2.2.2.2.2.2.2.2.2.2)
 some (u25, y1.2))) : Option T_State.D).bind fun o26 =>
(((spec_HasTrait a1 4).bind fun y27 =>
 bif y27 then (
 some (decide (a2.2.2.2.2.1 ≥ 1)))
 else (
 some false)) : Option Bool).bind fun o28 =>
((bif o28 then (
 idx o26.1 y15 fun _ =>
(o26.1[(y15 : Int).toNat]?).bind fun x29 =>
 let u30 : (List T_Piece.D) := o26.1.set (y15 : Int).toNat (x29.1, x29.2.1, x29.2.2.1, x29.2.2.2.1, x29.2.2.2.2.1, x29.2.2.2.2.2.1, x29.2.2.2.2.2.2.1, x29.2.2.2.2.2.2.2.1, x29.2.2.2.2.2.2.2.2.1, x29.2.2.2.2.2.2.2.2.2.1, x29.2.2.2.2.2.2.2.2.2.2.1, true, x29.2.2.2.2.2.2.2.2.2.2.2.2)
 some (u30, o26.2))
 else (
 some o26)) : Option T_State.D).bind fun o31 =>
 some (.inl (([], [], 0, 0, ()), o31))))) : Option ((T_State.D × ((List T_Piece.D) × ((List T_Side.D) × (Int × (Int × Unit))))) ⊕ (Int × ((List T_Piece.D) × ((List T_Side.D) × (Int × (Int × Unit))))))).bind fun o32 =>
 match o32 with
| .inl s33 => (
(((spec_HasTrait a1 1).bind fun y35 =>
 bif y35 then (
(spec_l1In a1.2.2.1 0 (IntKind.wrap .i64 ((a0.2.1.length : Int) - 1))).bind fun y36 =>
 some y36)
 else (
 some false)) : Option Bool).bind fun o37 =>
((bif o37 then (
 idx s33.2.2.1 a1.2.2.1 fun _ =>
(s33.2.2.1[(a1.2.2.1 : Int).toNat]?).bind fun x38 =>
(spec_Plus x38.1 a2.2.2.2.2.1).bind fun y39 =>
 idx s33.2.2.1 a1.2.2.1 fun _ =>
(s33.2.2.1[(a1.2.2.1 : Int).toNat]?).bind fun x40 =>
 let u41 : (List T_Side.D) := s33.2.2.1.set (a1.2.2.1 : Int).toNat (y39, x40.2)
 some (s33.2.1, u41, s33.2.2.2))
 else (
 some s33.2)) : Option T_State.D).bind fun o42 =>
 some (o42, a2.2.2.2.2.1, ()))
| .inr o34 => (
 some (o34.2, o34.1, ())))
def spec_Strike_h : Hints := (.node none none .none (.node none none .none (.node none none (.node none none (.node (some ⟨[.tmp 25 .bool], [none], none, []⟩) none .none .none) .none) (.node none none .none (.node none none (.node none none .none (.node (some ⟨[.boxO 6 0 1 T_State, .boxO 8 0 1 T_State], [none], some [.tmp 7 (.int .i64), .boxO 6 0 1 T_State], [(6, 0), (12, 1), (8, 0), (12, 0)]⟩) none (.node none none .none (.node none none .none (.node (some ⟨[.boxO 8 0 1 T_State], [none], none, [(12, 1), (8, 0), (12, 0)]⟩) none .none .none))) (.node none none .none (.node none none (.node none none (.node (some ⟨[.tmp 86 .bool], [none], none, []⟩) none .none .none) .none) (.node none none (.node none none .none (.node (some ⟨[.boxO 8 0 1 T_State], [none], none, [(12, 0), (8, 0), (12, 1)]⟩) none .none .none)) (.node none none (.node (some ⟨[.tmp 123 .bool], [none], none, []⟩) none .none .none) (.node (some ⟨[.boxO 8 0 3 T_State], [none], none, [(8, 1), (8, 0), (8, 2)]⟩) none .none .none))))))) (.node none none (.node none none (.node (some ⟨[.tmp 139 .bool], [none], none, []⟩) none .none .none) (.node (some ⟨[.boxO 8 0 3 T_State], [none], none, [(8, 2), (8, 0), (8, 1)]⟩) none .none .none)) .none))))))
def spec_Strike_c : Ct := .pure false false (.pair T_State (.pair T_Piece (.pair T_Event .unit))) (.pair T_State (.pair (.int .i64) .unit)) (fun x => spec_Strike x.1 x.2.1 x.2.2.1)
theorem spec_Strike_ct : CtOk Try.prog 39 spec_Strike_c := pure_ct (E := { T := tab, G := [(75, spec_Plus_c), (83, spec_HasTrait_c), (85, spec_Less_c), (86, spec_PieceAt_c), (90, spec_l5Copy_fresh_c), (91, spec_StateOk_c), (112, spec_EventOk_c), (113, spec_l1In_c)] }) (EnvOk.cons spec_Plus_ct (EnvOk.cons spec_HasTrait_ct (EnvOk.cons spec_Less_ct (EnvOk.cons spec_PieceAt_ct (EnvOk.cons spec_l5Copy_fresh_ct (EnvOk.cons spec_StateOk_ct (EnvOk.cons spec_EventOk_ct (EnvOk.cons spec_l1In_ct (EnvOk.nil tabOk))))))))) mixed (fn := Try.f39) _ _ _ _ _ spec_Strike_h Try.func39 (by kernel_rfl) (fun x => by kernel_rfl)
def spec_Strike_fresh_c : Ct := .pure false true (.pair T_State (.pair T_Piece (.pair T_Event .unit))) (.pair T_State (.pair (.int .i64) .unit)) (fun x => spec_Strike x.1 x.2.1 x.2.2.1)
theorem spec_Strike_fresh_ct : CtOk Try.prog 39 spec_Strike_fresh_c := pure_ct (E := { T := tab, G := [(75, spec_Plus_c), (83, spec_HasTrait_c), (85, spec_Less_c), (86, spec_PieceAt_c), (90, spec_l5Copy_fresh_c), (91, spec_StateOk_c), (112, spec_EventOk_c), (113, spec_l1In_c)] }) (EnvOk.cons spec_Plus_ct (EnvOk.cons spec_HasTrait_ct (EnvOk.cons spec_Less_ct (EnvOk.cons spec_PieceAt_ct (EnvOk.cons spec_l5Copy_fresh_ct (EnvOk.cons spec_StateOk_ct (EnvOk.cons spec_EventOk_ct (EnvOk.cons spec_l1In_ct (EnvOk.nil tabOk))))))))) mixed (fn := Try.f39) _ _ _ _ _ spec_Strike_h Try.func39 (by kernel_rfl) (fun x => by kernel_rfl)
/-! slices.Equal[[]loop.example/g00486/impl.Piece,loop.example/g00486/impl.Piece] -/
def slices_Equal_impl_Piece_l1 (a0 : (List T_Piece.D)) (a1 : (List T_Piece.D)) : Int → Option (Int ⊕ (Int ⊕ Bool)) := fun s1 =>
 bif decide (s1 < (a0.length : Int)) then (
 idx a0 s1 fun x2 =>
 idx a1 s1 fun x3 =>
 bif (!((x2.1 == x3.1) && ((x2.2.1 == x3.2.1) && ((x2.2.2.1 == x3.2.2.1) && ((x2.2.2.2.1 == x3.2.2.2.1) && ((x2.2.2.2.2.1 == x3.2.2.2.2.1) && ((x2.2.2.2.2.2.1 == x3.2.2.2.2.2.1) && ((x2.2.2.2.2.2.2.1 == x3.2.2.2.2.2.2.1) && ((x2.2.2.2.2.2.2.2.1 == x3.2.2.2.2.2.2.2.1) && ((x2.2.2.2.2.2.2.2.2.1 == x3.2.2.2.2.2.2.2.2.1) && ((x2.2.2.2.2.2.2.2.2.2.1 == x3.2.2.2.2.2.2.2.2.2.1) && ((x2.2.2.2.2.2.2.2.2.2.2.1 == x3.2.2.2.2.2.2.2.2.2.2.1) && ((x2.2.2.2.2.2.2.2.2.2.2.2.1 == x3.2.2.2.2.2.2.2.2.2.2.2.1) && ((x2.2.2.2.2.2.2.2.2.2.2.2.2.1 == x3.2.2.2.2.2.2.2.2.2.2.2.2.1) && true)))))))))))))) then (
 some (.inr (.inr false)))
 else (
 some (.inl (IntKind.wrap .i64 (s1 + 1)))))
 else (
 some (.inr (.inl s1)))
def slices_Equal_impl_Piece (a0 : (List T_Piece.D)) (a1 : (List T_Piece.D)) : Option Bool :=
 bif ((a0.length : Int) != (a1.length : Int)) then (
 some false)
 else (
(while_ (slices_Equal_impl_Piece_l1 a0 a1) 0).bind fun o4 =>
 match o4 with
| .inl s5 => (
 some true)
| .inr o6 => (
 some o6))
def slices_Equal_impl_Piece_h : Hints := (.node none none .none (.node none none .none (.node none none (.node none none .none (.node none none (.node none (some ⟨[.tmp 13 (.int .i64)], [some 0], some [.tmp 4 .bool], []⟩) .none .none) .none)) .none)))
def slices_Equal_impl_Piece_c : Ct := .pure true false (.pair (.slice T_Piece) (.pair (.slice T_Piece) .unit)) .bool (fun x => slices_Equal_impl_Piece x.1 x.2.1)
theorem slices_Equal_impl_Piece_ct : CtOk Try.prog 93 slices_Equal_impl_Piece_c := pure_ct (E := { T := tab, G := [] }) (EnvOk.nil tabOk) mixed (fn := Try.f93) _ _ _ _ _ slices_Equal_impl_Piece_h Try.func93 (by kernel_rfl) (fun x => by kernel_rfl)
/-! slices.Equal[[]loop.example/g00486/impl.Side,loop.example/g00486/impl.Side] -/
def slices_Equal_impl_Side_l1 (a0 : (List T_Side.D)) (a1 : (List T_Side.D)) : Int → Option (Int ⊕ (Int ⊕ Bool)) := fun s1 =>
 bif decide (s1 < (a0.length : Int)) then (
 idx a0 s1 fun x2 =>
 idx a1 s1 fun x3 =>
 bif (!((x2.1 == x3.1) && ((x2.2.1 == x3.2.1) && ((x2.2.2.1 == x3.2.2.1) && true)))) then (
 some (.inr (.inr false)))
 else (
 some (.inl (IntKind.wrap .i64 (s1 + 1)))))
 else (
 some (.inr (.inl s1)))
def slices_Equal_impl_Side (a0 : (List T_Side.D)) (a1 : (List T_Side.D)) : Option Bool :=
 bif ((a0.length : Int) != (a1.length : Int)) then (
 some false)
 else (
(while_ (slices_Equal_impl_Side_l1 a0 a1) 0).bind fun o4 =>
 match o4 with
| .inl s5 => (
 some true)
| .inr o6 => (
 some o6))
def slices_Equal_impl_Side_h : Hints := (.node none none .none (.node none none .none (.node none none (.node none none .none (.node none none (.node none (some ⟨[.tmp 13 (.int .i64)], [some 0], some [.tmp 4 .bool], []⟩) .none .none) .none)) .none)))
def slices_Equal_impl_Side_c : Ct := .pure true false (.pair (.slice T_Side) (.pair (.slice T_Side) .unit)) .bool (fun x => slices_Equal_impl_Side x.1 x.2.1)
theorem slices_Equal_impl_Side_ct : CtOk Try.prog 94 slices_Equal_impl_Side_c := pure_ct (E := { T := tab, G := [] }) (EnvOk.nil tabOk) mixed (fn := Try.f94) _ _ _ _ _ slices_Equal_impl_Side_h Try.func94 (by kernel_rfl) (fun x => by kernel_rfl)
/-! loop.example/g00486/impl.SameState -/
def impl_SameState (a0 : T_State.D) (a1 : T_State.D) : Option Bool :=
 bif (a0.2.2.1 == a1.2.2.1) then (
 bif (a0.2.2.2.1 == a1.2.2.2.1) then (
(slices_Equal_impl_Piece a0.1 a1.1).bind fun y1 =>
 bif y1 then (
(slices_Equal_impl_Side a0.2.1 a1.2.1).bind fun y2 =>
 some y2)
 else (
 some false))
 else (
 some false))
 else (
 some false)
def impl_SameState_c : Ct := .pure true false (.pair T_State (.pair T_State .unit)) .bool (fun x => impl_SameState x.1 x.2.1)
theorem impl_SameState_ct : CtOk Try.prog 26 impl_SameState_c := pure_ct (E := { T := tab, G := [(93, slices_Equal_impl_Piece_c), (94, slices_Equal_impl_Side_c)] }) (EnvOk.cons slices_Equal_impl_Piece_ct (EnvOk.cons slices_Equal_impl_Side_ct (EnvOk.nil tabOk))) mixed (fn := Try.f26) _ _ _ _ _ .none Try.func26 (by kernel_rfl) (fun x => by kernel_rfl)
/-! loop.example/g00486/impl.Target -/
def impl_Target (a0 : T_State.D) (a1 : T_Event.D) : Option Int :=
 bif (a1.2.2.1 == 0) then (
(impl_isSide a0 a1.2.2.2.1).bind fun y1 =>
 bif y1 then (
 some a1.2.2.2.1)
 else (
 some (-1)))
 else (
(impl_PieceAt a0 a1.2.2.1).bind fun y2 =>
 bif decide (y2 < 0) then (
 some (-1))
 else (
 idx a0.1 y2 fun x3 =>
 some x3.2.2.1))
def impl_Target_c : Ct := .pure true false (.pair T_State (.pair T_Event .unit)) (.int .i64) (fun x => impl_Target x.1 x.2.1)
theorem impl_Target_ct : CtOk Try.prog 41 impl_Target_c := pure_ct (E := { T := tab, G := [(43, impl_PieceAt_c), (97, impl_isSide_c)] }) (EnvOk.cons impl_PieceAt_ct (EnvOk.cons impl_isSide_ct (EnvOk.nil tabOk))) mixed (fn := Try.f41) _ _ _ _ _ .none Try.func41 (by kernel_rfl) (fun x => by kernel_rfl)
/-! loop.example/g00486/impl.OnField -/
def impl_OnField_l1 (a0 : T_State.D) (a1 : Int) : ((List Int) × Int) → Option (((List Int) × Int) ⊕ ((List Int) × Int)) := fun s1 =>
 bif decide (s1.2 < (a0.1.length : Int)) then (
 idx a0.1 s1.2 fun x2 =>
((bif (x2.2.2.2.1 == 2) then (
 bif (a1 == (-1)) then (
 some true)
 else (
 some (x2.2.2.1 == a1)))
 else (
 some false)) : Option Bool).bind fun o3 =>
 bif o3 then (
 if (s1.1.length + [x2.1].length) * (24 * 1) ≤ room then (
 some (.inl ((s1.1 ++ [x2.1]), IntKind.wrap .i64 (s1.2 + 1)))) else none)
 else (
 some (.inl (s1.1, IntKind.wrap .i64 (s1.2 + 1)))))
 else (
 some (.inr s1))
def impl_OnField (a0 : T_State.D) (a1 : Int) : Option (List Int) :=
(while_ (impl_OnField_l1 a0 a1) ([], 0)).bind fun o4 =>
 some o4.1
def impl_OnField_h : Hints := (.node none none .none (.node none none .none (.node none none (.node none none .none (.node none none (.node none (some ⟨[.tmpO 5 0 (.slice (.int .i64)), .tmp 12 (.int .i64)], [some 0], none, []⟩) (.node none none .none (.node none none .none (.node none none (.node none none (.node none none .none (.node none none (.node (some ⟨[.tmp 28 .bool], [none], none, []⟩) none .none .none) .none)) .none) .none))) .none) .none)) .none)))
def impl_OnField_c : Ct := .pure true false (.pair T_State (.pair (.int .i64) .unit)) (.slice (.int .i64)) (fun x => impl_OnField x.1 x.2.1)
theorem impl_OnField_ct : CtOk Try.prog 35 impl_OnField_c := pure_ct (E := { T := tab, G := [] }) (EnvOk.nil tabOk) mixed (fn := Try.f35) _ _ _ _ _ impl_OnField_h Try.func35 (by kernel_rfl) (fun x => by kernel_rfl)
def impl_OnField_fresh_c : Ct := .pure true true (.pair T_State (.pair (.int .i64) .unit)) (.slice (.int .i64)) (fun x => impl_OnField x.1 x.2.1)
theorem impl_OnField_fresh_ct : CtOk Try.prog 35 impl_OnField_fresh_c := pure_ct (E := { T := tab, G := [] }) (EnvOk.nil tabOk) mixed (fn := Try.f35) _ _ _ _ _ impl_OnField_h Try.func35 (by kernel_rfl) (fun x => by kernel_rfl)
/-! slices.Index[[]int,int] -/
def slices_Index_int_l1 (a0 : (List Int)) (a1 : Int) : Int → Option (Int ⊕ (Int ⊕ Int)) := fun s1 =>
 bif decide (s1 < (a0.length : Int)) then (
 idx a0 s1 fun x2 =>
 bif (a1 == x2) then (
 some (.inr (.inr s1)))
 else (
 some (.inl (IntKind.wrap .i64 (s1 + 1)))))
 else (
 some (.inr (.inl s1)))
def slices_Index_int (a0 : (List Int)) (a1 : Int) : Option Int :=
(while_ (slices_Index_int_l1 a0 a1) 0).bind fun o3 =>
 match o3 with
| .inl s4 => (
 some (-1))
| .inr o5 => (
 some o5)
def slices_Index_int_h : Hints := (.node none none .none (.node none none (.node none none .none (.node none none (.node none (some ⟨[.tmp 8 (.int .i64)], [some 0], some [.tmp 4 (.int .i64)], []⟩) .none .none) .none)) .none))
def slices_Index_int_c : Ct := .pure true false (.pair (.slice (.int .i64)) (.pair (.int .i64) .unit)) (.int .i64) (fun x => slices_Index_int x.1 x.2.1)
theorem slices_Index_int_ct : CtOk Try.prog 148 slices_Index_int_c := pure_ct (E := { T := tab, G := [] }) (EnvOk.nil tabOk) mixed (fn := Try.f148) _ _ _ _ _ slices_Index_int_h Try.func148 (by kernel_rfl) (fun x => by kernel_rfl)
/-! slices.Contains[[]int,int] -/
def slices_Contains_int (a0 : (List Int)) (a1 : Int) : Option Bool :=
(slices_Index_int a0 a1).bind fun y1 =>
 some (decide (y1 ≥ 0))
def slices_Contains_int_c : Ct := .pure true false (.pair (.slice (.int .i64)) (.pair (.int .i64) .unit)) .bool (fun x => slices_Contains_int x.1 x.2.1)
theorem slices_Contains_int_ct : CtOk Try.prog 118 slices_Contains_int_c := pure_ct (E := { T := tab, G := [(148, slices_Index_int_c)] }) (EnvOk.cons slices_Index_int_ct (EnvOk.nil tabOk)) mixed (fn := Try.f118) _ _ _ _ _ .none Try.func118 (by kernel_rfl) (fun x => by kernel_rfl)
/-! loop.example/g00486/impl.Has -/
def impl_Has (a0 : (List Int)) (a1 : Int) : Option Bool :=
(slices_Contains_int a0 a1).bind fun y1 =>
 some y1
def impl_Has_c : Ct := .pure true false (.pair (.slice (.int .i64)) (.pair (.int .i64) .unit)) .bool (fun x => impl_Has x.1 x.2.1)
theorem impl_Has_ct : CtOk Try.prog 42 impl_Has_c := pure_ct (E := { T := tab, G := [(118, slices_Contains_int_c)] }) (EnvOk.cons slices_Contains_int_ct (EnvOk.nil tabOk)) mixed (fn := Try.f42) _ _ _ _ _ .none Try.func42 (by kernel_rfl) (fun x => by kernel_rfl)
/-! loop.example/g00486/impl.HurtOf -/
def impl_HurtOf (a0 : T_State.D) (a1 : Int) : Option Int :=
(impl_PieceAt a0 a1).bind fun y1 =>
 bif decide (y1 < 0) then (
 some 0)
 else (
 idx a0.1 y1 fun x2 =>
 some x2.2.2.2.2.2.2.2.2.2.2.1)
def impl_HurtOf_c : Ct := .pure true false (.pair T_State (.pair (.int .i64) .unit)) (.int .i64) (fun x => impl_HurtOf x.1 x.2.1)
theorem impl_HurtOf_ct : CtOk Try.prog 18 impl_HurtOf_c := pure_ct (E := { T := tab, G := [(43, impl_PieceAt_c)] }) (EnvOk.cons impl_PieceAt_ct (EnvOk.nil tabOk)) mixed (fn := Try.f18) _ _ _ _ _ .none Try.func18 (by kernel_rfl) (fun x => by kernel_rfl)
/-! loop.example/g00486/laws.FnStrikes -/
def laws_FnStrikes (a0 : (List Int)) : Option Bool :=
(laws_big a0).bind fun y1 =>
 bif y1 then (
 some true)
 else (
(spec_DrawStrike a0).bind fun y2 =>
(impl_Strike y2.1 y2.2.1 y2.2.2.1).bind fun y3 =>
(spec_Strike y2.1 y2.2.1 y2.2.2.1).bind fun y4 =>
(((impl_SameState y3.1 y4.1).bind fun y5 =>
 bif (!y5) then (
 some true)
 else (
 some (y3.2.1 != y4.2.1))) : Option Bool).bind fun o6 =>
 bif o6 then (
 some false)
 else (
 bif (y3.2.1 == 0) then (
(((impl_StateOk y2.1).bind fun y7 =>
 bif (!y7) then (
 some true)
 else (
(impl_EventOk y2.2.2.1).bind fun y8 =>
 bif (!y8) then (
 some true)
 else (
 bif (y2.2.2.1.1 != 1) then (
 some true)
 else (
 bif (y2.2.2.1.2.2.2.2.1 == 0) then (
 some true)
 else (
(impl_Target y2.1 y2.2.2.1).bind fun y9 =>
 bif decide (y9 < 0) then (
 some true)
 else (
 bif (y2.2.2.1.2.2.1 != 0) then (
(impl_OnField y2.1 (-1)).bind fun y10 =>
(impl_Has y10 y2.2.2.1.2.2.1).bind fun y11 =>
 some (!y11))
 else (
 some false))))))) : Option Bool).bind fun o12 =>
 some o12)
 else (
(((impl_StateOk y3.1).bind fun y13 =>
 bif (!y13) then (
 some true)
 else (
 some (y3.2.1 != y2.2.2.1.2.2.2.2.1))) : Option Bool).bind fun o14 =>
 bif o14 then (
 some false)
 else (
(impl_PieceAt y2.1 y2.2.2.1.2.2.1).bind fun y15 =>
 bif (y2.2.2.1.2.2.1 == 0) then (
(((impl_HasTrait y2.2.1 2).bind fun y16 =>
 bif y16 then (
 idx y3.1.2.1 y2.2.2.1.2.2.2.1 fun _ =>
(y3.1.2.1[(y2.2.2.1.2.2.2.1 : Int).toNat]?).bind fun x17 =>
 idx y2.1.2.1 y2.2.2.1.2.2.2.1 fun x18 =>
(impl_Plus x18.2.1 y3.2.1).bind fun y19 =>
 bif (x17.2.1 == y19) then (
 some true)
 else (
(impl_HasTrait y2.2.1 2).bind fun y20 =>
 bif (!y20) then (
 idx y3.1.2.1 y2.2.2.1.2.2.2.1 fun _ =>
(y3.1.2.1[(y2.2.2.1.2.2.2.1 : Int).toNat]?).bind fun x21 =>
 idx y2.1.2.1 y2.2.2.1.2.2.2.1 fun x22 =>
 some (x21.2.1 == x22.2.1))
 else (
 some false)))
 else (
(impl_HasTrait y2.2.1 2).bind fun y23 =>
 bif (!y23) then (
 idx y3.1.2.1 y2.2.2.1.2.2.2.1 fun _ =>
(y3.1.2.1[(y2.2.2.1.2.2.2.1 : Int).toNat]?).bind fun x24 =>
 idx y2.1.2.1 y2.2.2.1.2.2.2.1 fun x25 =>
 some (x24.2.1 == x25.2.1))
 else (
 some false))) : Option Bool).bind fun o26 =>
 some o26)
 else (
(impl_HasTrait y2.2.1 4).bind fun y27 =>
 bif (!y27) then (
(impl_HasTrait y2.2.1 2).bind fun y28 =>
 bif y28 then (
 some true)
 else (
(impl_HurtOf y3.1 y2.2.2.1.2.2.1).bind fun y29 =>
(impl_HurtOf y2.1 y2.2.2.1.2.2.1).bind fun y30 =>
(impl_Plus y30 y3.2.1).bind fun y31 =>
 some (y29 == y31)))
 else (
 idx y3.1.1 y15 fun _ =>
(y3.1.1[(y15 : Int).toNat]?).bind fun x32 =>
 bif x32.2.2.2.2.2.2.2.2.2.2.2.1 then (
(impl_HasTrait y2.2.1 2).bind fun y33 =>
 bif y33 then (
 some true)
 else (
(impl_HurtOf y3.1 y2.2.2.1.2.2.1).bind fun y34 =>
(impl_HurtOf y2.1 y2.2.2.1.2.2.1).bind fun y35 =>
(impl_Plus y35 y3.2.1).bind fun y36 =>
 some (y34 == y36)))
 else (
 some false)))))))
def laws_FnStrikes_h : Hints := (.node none none .none (.node none none .none (.node none none .none (.node none none .none (.node none none .none (.node none none (.node none none (.node (some ⟨[.tmp 41 .bool], [none], none, []⟩) none .none .none) .none) (.node none none (.node none none .none (.node none none (.node none none (.node (some ⟨[.tmp 2 .bool], [none], none, []⟩) none .none .none) .none) .none)) (.node none none (.node none none (.node (some ⟨[.tmp 89 .bool], [none], none, []⟩) none .none .none) .none) (.node none none .none (.node none none (.node none none .none (.node none none (.node none none (.node (some ⟨[.tmp 2 .bool], [none], none, []⟩) none .none .none) .none) .none)) .none))))))))))
def laws_FnStrikes_c : Ct := .pure true false (.pair (.slice (.int .u8)) .unit) .bool (fun x => laws_FnStrikes x.1)
theorem laws_FnStrikes_ct : CtOk Try.prog 5 laws_FnStrikes_c := pure_ct (E := { T := tab, G := [(10, laws_big_c), (18, impl_HurtOf_c), (21, impl_HasTrait_c), (26, impl_SameState_c), (34, impl_StateOk_c), (35, impl_OnField_fresh_c), (37, spec_DrawStrike_c), (38, impl_Strike_fresh_c), (39, spec_Strike_fresh_c), (40, impl_EventOk_c), (41, impl_Target_c), (42, impl_Has_c), (43, impl_PieceAt_c), (44, impl_Plus_c)] }) (EnvOk.cons laws_big_ct (EnvOk.cons impl_HurtOf_ct (EnvOk.cons impl_HasTrait_ct (EnvOk.cons impl_SameState_ct (EnvOk.cons impl_StateOk_ct (EnvOk.cons impl_OnField_fresh_ct (EnvOk.cons spec_DrawStrike_ct (EnvOk.cons impl_Strike_fresh_ct (EnvOk.cons spec_Strike_fresh_ct (EnvOk.cons impl_EventOk_ct (EnvOk.cons impl_Target_ct (EnvOk.cons impl_Has_ct (EnvOk.cons impl_PieceAt_ct (EnvOk.cons impl_Plus_ct (EnvOk.nil tabOk))))))))))))))) mixed (fn := Try.f5) _ _ _ _ _ laws_FnStrikes_h Try.func5 (by kernel_rfl) (fun x => by kernel_rfl)
end
end Go.Abs
