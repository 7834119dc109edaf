import Derived.Test.YtgccfenlidjfkaaProg
import Derived.Test.YtgccfenlidjfkaaAbsTab
set_option linter.unusedVariables false
set_option linter.unusedSimpArgs false
namespace Go.Abs
open Go.Proofs
set_option maxRecDepth 100000
noncomputable section
@[reducible] def T_Piece : Ty := (.pair (.int .i64) (.pair (.int .i64) (.pair (.int .i64) (.pair (.int .i64) (.pair (.int .i64) (.pair (.int .i64) (.pair (.int .i64) (.pair (.int .i64) (.pair (.int .i64) (.pair (.int .i64) (.pair (.int .i64) (.pair .bool (.pair .bool .unit)))))))))))))
@[reducible] def T_Side : Ty := (.pair (.int .i64) (.pair (.int .i64) (.pair .bool .unit)))
@[reducible] def T_State : Ty := (.pair (.slice T_Piece) (.pair (.slice T_Side) (.pair (.int .i64) (.pair (.int .i64) .unit))))
@[reducible] def T_l1Cur : Ty := (.pair (.slice (.int .u8)) (.pair (.int .i64) (.pair (.int .i64) .unit)))
@[reducible] def T_S7 : Ty := (.pair (.int .i64) (.pair (.int .i64) (.pair .bool (.pair (.int .u8) .unit))))
@[reducible] def T_Event : Ty := (.pair (.int .i64) (.pair (.int .i64) (.pair (.int .i64) (.pair (.int .i64) (.pair (.int .i64) (.pair (.int .i64) (.pair .bool .unit)))))))
@[reducible] def T_Note : Ty := (.pair (.int .i64) (.pair T_Event (.pair (.int .i64) (.pair (.int .i64) (.pair T_Piece .unit)))))
@[reducible] def T_Trigger : Ty := (.pair (.int .i64) (.pair (.int .i64) (.pair (.int .i64) (.pair T_Piece .unit))))
def tab : Tab := [
  (1, ⟨.other, 1, 0, .unit, [.undef]⟩),
  (2, ⟨.int .i64, 1, 0, (.int .i64), [.int .i64 0]⟩),
  (3, ⟨.int .i64, 1, 0, (.int .i64), [.int .i64 0]⟩),
  (4, ⟨.bool, 1, 0, .bool, [.bool false]⟩),
  (5, ⟨.int .u8, 1, 0, (.int .u8), [.int .u8 0]⟩),
  (6, ⟨.int .u8, 1, 0, (.int .u8), [.int .u8 0]⟩),
  (7, ⟨.struct [(0, 2), (1, 3), (2, 4), (3, 6)], 4, 0, T_S7, [.int .i64 0, .int .i64 0, .bool false, .int .u8 0]⟩),
  (8, ⟨.struct [(0, 2), (1, 3), (2, 4), (3, 6)], 4, 0, T_S7, [.int .i64 0, .int .i64 0, .bool false, .int .u8 0]⟩),
  (12, ⟨.int .u64, 1, 0, (.int .u64), [.int .u64 0]⟩),
  (15, ⟨.other, 1, 0, .unit, [.undef]⟩),
  (16, ⟨.other, 1, 0, .unit, [.undef]⟩),
  (17, ⟨.other, 1, 0, .unit, [.undef]⟩),
  (21, ⟨.int .i32, 1, 0, (.int .i32), [.int .i32 0]⟩),
  (22, ⟨.slice 5, 1, 0, (.slice (.int .u8)), [.nil]⟩),
  (23, ⟨.other, 1, 0, .unit, [.undef]⟩),
  (24, ⟨.struct [(0, 3), (1, 3), (2, 3), (3, 3), (4, 3), (5, 3), (6, 3), (7, 3), (8, 3), (9, 3), (10, 3), (11, 4), (12, 4)], 13, 0, T_Piece, [.int .i64 0, .int .i64 0, .int .i64 0, .int .i64 0, .int .i64 0, .int .i64 0, .int .i64 0, .int .i64 0, .int .i64 0, .int .i64 0, .int .i64 0, .bool false, .bool false]⟩),
  (25, ⟨.struct [(0, 3), (1, 3), (2, 3), (3, 3), (4, 3), (5, 3), (6, 3), (7, 3), (8, 3), (9, 3), (10, 3), (11, 4), (12, 4)], 13, 0, T_Piece, [.int .i64 0, .int .i64 0, .int .i64 0, .int .i64 0, .int .i64 0, .int .i64 0, .int .i64 0, .int .i64 0, .int .i64 0, .int .i64 0, .int .i64 0, .bool false, .bool false]⟩),
  (26, ⟨.other, 1, 0, .unit, [.undef]⟩),
  (28, ⟨.other, 1, 0, .unit, [.undef]⟩),
  (29, ⟨.slice 25, 1, 0, (.slice T_Piece), [.nil]⟩),
  (30, ⟨.slice 62, 1, 0, (.slice T_Side), [.nil]⟩),
  (31, ⟨.struct [(0, 29), (1, 30), (2, 3), (3, 3)], 4, 0, T_State, [.nil, .nil, .int .i64 0, .int .i64 0]⟩),
  (32, ⟨.struct [(0, 29), (1, 30), (2, 3), (3, 3)], 4, 0, T_State, [.nil, .nil, .int .i64 0, .int .i64 0]⟩),
  (34, ⟨.other, 1, 0, .unit, [.undef]⟩),
  (35, ⟨.other, 1, 0, .unit, [.undef]⟩),
  (36, ⟨.other, 1, 0, .unit, [.undef]⟩),
  (37, ⟨.other, 1, 0, .unit, [.undef]⟩),
  (38, ⟨.other, 1, 0, .unit, [.undef]⟩),
  (39, ⟨.other, 1, 0, .unit, [.undef]⟩),
  (40, ⟨.other, 1, 0, .unit, [.undef]⟩),
  (41, ⟨.slice 93, 1, 0, (.slice T_Note), [.nil]⟩),
  (43, ⟨.other, 1, 0, .unit, [.undef]⟩),
  (44, ⟨.other, 1, 0, .unit, [.undef]⟩),
  (45, ⟨.other, 1, 0, .unit, [.undef]⟩),
  (46, ⟨.other, 1, 0, .unit, [.undef]⟩),
  (47, ⟨.slice 3, 1, 0, (.slice (.int .i64)), [.nil]⟩),
  (48, ⟨.other, 1, 0, .unit, [.undef]⟩),
  (49, ⟨.other, 1, 0, .unit, [.undef]⟩),
  (50, ⟨.other, 1, 0, .unit, [.undef]⟩),
  (51, ⟨.other, 1, 0, .unit, [.undef]⟩),
  (52, ⟨.other, 1, 0, .unit, [.undef]⟩),
  (53, ⟨.struct [(0, 3), (1, 3), (2, 3), (3, 3), (4, 3), (5, 3), (6, 4)], 7, 0, T_Event, [.int .i64 0, .int .i64 0, .int .i64 0, .int .i64 0, .int .i64 0, .int .i64 0, .bool false]⟩),
  (54, ⟨.struct [(0, 3), (1, 3), (2, 3), (3, 3), (4, 3), (5, 3), (6, 4)], 7, 0, T_Event, [.int .i64 0, .int .i64 0, .int .i64 0, .int .i64 0, .int .i64 0, .int .i64 0, .bool false]⟩),
  (56, ⟨.other, 1, 0, .unit, [.undef]⟩),
  (57, ⟨.other, 1, 0, .unit, [.undef]⟩),
  (58, ⟨.other, 1, 0, .unit, [.undef]⟩),
  (59, ⟨.other, 1, 0, .unit, [.undef]⟩),
  (60, ⟨.other, 1, 0, .unit, [.undef]⟩),
  (61, ⟨.struct [(0, 3), (1, 3), (2, 4)], 3, 0, T_Side, [.int .i64 0, .int .i64 0, .bool false]⟩),
  (62, ⟨.struct [(0, 3), (1, 3), (2, 4)], 3, 0, T_Side, [.int .i64 0, .int .i64 0, .bool false]⟩),
  (63, ⟨.other, 1, 0, .unit, [.undef]⟩),
  (65, ⟨.other, 1, 0, .unit, [.undef]⟩),
  (67, ⟨.other, 1, 0, .unit, [.undef]⟩),
  (69, ⟨.other, 1, 0, .unit, [.undef]⟩),
  (70, ⟨.other, 1, 0, .unit, [.undef]⟩),
  (71, ⟨.other, 1, 0, .unit, [.undef]⟩),
  (72, ⟨.other, 1, 0, .unit, [.undef]⟩),
  (73, ⟨.other, 1, 0, .unit, [.undef]⟩),
  (74, ⟨.slice 79, 1, 0, (.slice T_Trigger), [.nil]⟩),
  (75, ⟨.other, 1, 0, .unit, [.undef]⟩),
  (76, ⟨.other, 1, 0, .unit, [.undef]⟩),
  (77, ⟨.other, 1, 0, .unit, [.undef]⟩),
  (78, ⟨.struct [(0, 3), (1, 3), (2, 3), (3, 25)], 16, 0, T_Trigger, [.int .i64 0, .int .i64 0, .int .i64 0, .int .i64 0, .int .i64 0, .int .i64 0, .int .i64 0, .int .i64 0, .int .i64 0, .int .i64 0, .int .i64 0, .int .i64 0, .int .i64 0, .int .i64 0, .bool false, .bool false]⟩),
  (79, ⟨.struct [(0, 3), (1, 3), (2, 3), (3, 25)], 16, 0, T_Trigger, [.int .i64 0, .int .i64 0, .int .i64 0, .int .i64 0, .int .i64 0, .int .i64 0, .int .i64 0, .int .i64 0, .int .i64 0, .int .i64 0, .int .i64 0, .int .i64 0, .int .i64 0, .int .i64 0, .bool false, .bool false]⟩),
  (80, ⟨.other, 1, 0, .unit, [.undef]⟩),
  (82, ⟨.other, 1, 0, .unit, [.undef]⟩),
  (83, ⟨.other, 1, 0, .unit, [.undef]⟩),
  (84, ⟨.other, 1, 0, .unit, [.undef]⟩),
  (85, ⟨.other, 1, 0, .unit, [.undef]⟩),
  (86, ⟨.other, 1, 0, .unit, [.undef]⟩),
  (87, ⟨.other, 1, 0, .unit, [.undef]⟩),
  (88, ⟨.other, 1, 0, .unit, [.undef]⟩),
  (89, ⟨.other, 1, 0, .unit, [.undef]⟩),
  (90, ⟨.other, 1, 0, .unit, [.undef]⟩),
  (91, ⟨.other, 1, 0, .unit, [.undef]⟩),
  (92, ⟨.struct [(0, 3), (1, 54), (8, 3), (9, 3), (10, 25)], 23, 0, T_Note, [.int .i64 0, .int .i64 0, .int .i64 0, .int .i64 0, .int .i64 0, .int .i64 0, .int .i64 0, .bool false, .int .i64 0, .int .i64 0, .int .i64 0, .int .i64 0, .int .i64 0, .int .i64 0, .int .i64 0, .int .i64 0, .int .i64 0, .int .i64 0, .int .i64 0, .int .i64 0, .int .i64 0, .bool false, .bool false]⟩),
  (93, ⟨.struct [(0, 3), (1, 54), (8, 3), (9, 3), (10, 25)], 23, 0, T_Note, [.int .i64 0, .int .i64 0, .int .i64 0, .int .i64 0, .int .i64 0, .int .i64 0, .int .i64 0, .bool false, .int .i64 0, .int .i64 0, .int .i64 0, .int .i64 0, .int .i64 0, .int .i64 0, .int .i64 0, .int .i64 0, .int .i64 0, .int .i64 0, .int .i64 0, .int .i64 0, .int .i64 0, .bool false, .bool false]⟩),
  (94, ⟨.other, 1, 0, .unit, [.undef]⟩),
  (95, ⟨.other, 1, 0, .unit, [.undef]⟩),
  (96, ⟨.other, 1, 0, .unit, [.undef]⟩),
  (97, ⟨.other, 1, 0, .unit, [.undef]⟩),
  (98, ⟨.other, 1, 0, .unit, [.undef]⟩),
  (99, ⟨.other, 1, 0, .unit, [.undef]⟩),
  (100, ⟨.other, 1, 0, .unit, [.undef]⟩),
  (101, ⟨.other, 1, 0, .unit, [.undef]⟩),
  (102, ⟨.other, 1, 0, .unit, [.undef]⟩),
  (103, ⟨.other, 1, 0, .unit, [.undef]⟩),
  (104, ⟨.other, 1, 0, .unit, [.undef]⟩),
  (105, ⟨.other, 1, 0, .unit, [.undef]⟩),
  (106, ⟨.other, 1, 0, .unit, [.undef]⟩),
  (107, ⟨.other, 1, 0, .unit, [.undef]⟩),
  (108, ⟨.other, 1, 0, .unit, [.undef]⟩),
  (109, ⟨.other, 1, 0, .unit, [.undef]⟩),
  (110, ⟨.other, 1, 0, .unit, [.undef]⟩),
  (111, ⟨.slice 54, 1, 0, (.slice T_Event), [.nil]⟩),
  (112, ⟨.other, 1, 0, .unit, [.undef]⟩),
  (113, ⟨.other, 1, 0, .unit, [.undef]⟩),
  (114, ⟨.other, 1, 0, .unit, [.undef]⟩),
  (115, ⟨.other, 1, 0, .unit, [.undef]⟩),
  (116, ⟨.struct [(0, 22), (1, 3), (2, 3)], 3, 0, T_l1Cur, [.nil, .int .i64 0, .int .i64 0]⟩),
  (117, ⟨.struct [(0, 22), (1, 3), (2, 3)], 3, 0, T_l1Cur, [.nil, .int .i64 0, .int .i64 0]⟩),
  (118, ⟨.other, 1, 0, .unit, [.undef]⟩),
  (119, ⟨.other, 1, 0, .unit, [.undef]⟩),
  (120, ⟨.other, 1, 0, .unit, [.undef]⟩),
  (121, ⟨.other, 1, 0, .unit, [.undef]⟩),
  (122, ⟨.other, 1, 0, .unit, [.undef]⟩),
  (123, ⟨.other, 1, 0, .unit, [.undef]⟩),
  (124, ⟨.other, 1, 0, .unit, [.undef]⟩),
  (125, ⟨.other, 1, 0, .unit, [.undef]⟩),
  (127, ⟨.other, 1, 0, .unit, [.undef]⟩),
  (128, ⟨.other, 1, 0, .unit, [.undef]⟩),
  (129, ⟨.other, 1, 0, .unit, [.undef]⟩),
  (130, ⟨.int .u64, 1, 0, (.int .u64), [.int .u64 0]⟩),
  (131, ⟨.other, 1, 0, .unit, [.undef]⟩),
  (132, ⟨.other, 1, 0, .unit, [.undef]⟩),
  (133, ⟨.other, 1, 0, .unit, [.undef]⟩),
  (134, ⟨.other, 1, 0, .unit, [.undef]⟩),
  (135, ⟨.other, 1, 0, .unit, [.undef]⟩),
  (136, ⟨.other, 1, 0, .unit, [.undef]⟩),
  (137, ⟨.int .i64, 1, 0, (.int .i64), [.int .i64 0]⟩),
  (139, ⟨.other, 1, 0, .unit, [.undef]⟩),
  (140, ⟨.other, 1, 0, .unit, [.undef]⟩),
  (141, ⟨.other, 1, 0, .unit, [.undef]⟩),
  (142, ⟨.other, 1, 0, .unit, [.undef]⟩),
  (144, ⟨.other, 1, 0, .unit, [.undef]⟩),
  (145, ⟨.other, 1, 0, .unit, [.undef]⟩),
  (146, ⟨.int .u32, 1, 0, (.int .u32), [.int .u32 0]⟩),
  (147, ⟨.other, 1, 0, .unit, [.undef]⟩),
  (148, ⟨.int .u64, 1, 0, (.int .u64), [.int .u64 0]⟩),
  (149, ⟨.int .u64, 1, 0, (.int .u64), [.int .u64 0]⟩),
  (150, ⟨.other, 1, 0, .unit, [.undef]⟩),
  (151, ⟨.other, 1, 0, .unit, [.undef]⟩),
  (152, ⟨.other, 1, 0, .unit, [.undef]⟩),
  (153, ⟨.other, 1, 0, .unit, [.undef]⟩),
  (154, ⟨.other, 1, 0, .unit, [.undef]⟩),
  (155, ⟨.other, 1, 0, .unit, [.undef]⟩),
  (157, ⟨.other, 1, 0, .unit, [.undef]⟩),
  (158, ⟨.other, 1, 0, .unit, [.undef]⟩),
  (164, ⟨.other, 1, 0, .unit, [.undef]⟩),
  (165, ⟨.int .u8, 1, 0, (.int .u8), [.int .u8 0]⟩),
  (166, ⟨.int .u8, 1, 0, (.int .u8), [.int .u8 0]⟩),
  (167, ⟨.other, 1, 0, .unit, [.undef]⟩),
  (168, ⟨.other, 1, 0, .unit, [.undef]⟩),
  (169, ⟨.int .i32, 1, 0, (.int .i32), [.int .i32 0]⟩),
  (170, ⟨.int .i32, 1, 0, (.int .i32), [.int .i32 0]⟩)]
theorem tabOk : TabOk Try.prog tab := tabB_ok (by kernel_rfl)
theorem mixed : Try.prog.follows .mixedOrders = true := by kernel_rfl
/-! loop.example/g00486/laws.big -/
def laws_big (a0 : (List Int)) : Option Bool :=
 some (decide ((a0.length : Int) > 1048576))
def laws_big_c : Ct := .pure true false (.pair (.slice (.int .u8)) .unit) .bool (fun x => laws_big x.1)
theorem laws_big_ct : CtOk Try.prog 10 laws_big_c := pure_ct (E := { T := tab, G := [] }) (EnvOk.nil tabOk) mixed (fn := Try.f10) _ _ _ _ _ .none Try.func10 (by kernel_rfl) (fun x => by kernel_rfl)
/-! loop.example/g00486/spec.l1New -/
def spec_l1New_l1 (a0 : (List Int)) : (Int × Int) → Option ((Int × Int) ⊕ (Int × Int)) := fun s1 =>
((bif decide (s1.2 < (a0.length : Int)) then (
 some (decide (s1.2 < 4000)))
 else (
 some false)) : Option Bool).bind fun o2 =>
 bif o2 then (
 idx a0 s1.2 fun x3 =>
 let k4 : Int := IntKind.wrap .i64 ((IntKind.wrap .i64 (s1.1 * 137)) + (IntKind.wrap .i64 x3))
 let k5 : Int := IntKind.wrap .i64 (BitVec.ofInt (IntKind.bits .i64) (IntKind.wrap .i64 (k4 + 11)) &&& BitVec.ofInt (IntKind.bits .i64) 1073741823).toNat
 some (.inl (k5, IntKind.wrap .i64 (s1.2 + 1))))
 else (
 some (.inr s1))
def spec_l1New (a0 : (List Int)) : Option T_l1Cur.D :=
(while_ (spec_l1New_l1 a0) (IntKind.wrap .i64 (139871 + (a0.length : Int)), 0)).bind fun o6 =>
 some (a0, 0, o6.1, ())
def spec_l1New_h : Hints := (.node none none .none (.node none none .none (.node none none (.node none none .none (.node none none (.node none (some ⟨[.tmp 3 (.int .i64), .tmp 4 (.int .i64)], [some 0], none, []⟩) (.node none none (.node none none (.node (some ⟨[.tmp 15 .bool], [none], none, []⟩) none .none .none) .none) .none) .none) .none)) .none)))
def spec_l1New_c : Ct := .box (.pair (.slice (.int .u8)) .unit) T_l1Cur (fun x => spec_l1New x.1)
theorem spec_l1New_ct : CtOk Try.prog 71 spec_l1New_c := box_ct (E := { T := tab, G := [] }) (EnvOk.nil tabOk) mixed (fn := Try.f71) _ _ _ spec_l1New_h Try.func71 (by kernel_rfl) (fun x => by kernel_rfl)
/-! loop.example/g00486/spec.l1Byte -/
def spec_l1Byte (a0 : T_l1Cur.D) : Option (Int × (T_l1Cur.D × Unit)) :=
 let k1 : Int := IntKind.wrap .i64 ((IntKind.wrap .i64 (a0.2.2.1 * 6364136223846793005)) + 1442695040888963407)
 if 0 ≤ 33 then (
 if 0 ≤ 47 then (
 let k2 : Int := IntKind.wrap .i64 (BitVec.ofInt (IntKind.bits .i64) (k1.fdiv (2 ^ min (33 : Int).toNat (IntKind.bits .i64))) ^^^ BitVec.ofInt (IntKind.bits .i64) (k1.fdiv (2 ^ min (47 : Int).toNat (IntKind.bits .i64)))).toNat
 let k3 : Int := IntKind.wrap .i64 (BitVec.ofInt (IntKind.bits .i64) k2 &&& BitVec.ofInt (IntKind.bits .i64) 255).toNat
 bif decide (a0.2.1 < (a0.1.length : Int)) then (
 idx a0.1 a0.2.1 fun x4 =>
 let k5 : Int := IntKind.wrap .i64 (BitVec.ofInt (IntKind.bits .i64) (IntKind.wrap .i64 (k3 + (IntKind.wrap .i64 x4))) &&& BitVec.ofInt (IntKind.bits .i64) 255).toNat
 some (k5, ((a0.1, IntKind.wrap .i64 (a0.2.1 + 1), k1, ()), ())))
 else (
 some (k3, ((a0.1, a0.2.1, k1, ()), ())))) else none) else none
def spec_l1Byte_c : Ct := .mut [.ptr] true true (.pair T_l1Cur .unit) (.int .i64) (fun x => spec_l1Byte x.1)
theorem spec_l1Byte_ct : CtOk Try.prog 136 spec_l1Byte_c := mut_ct (E := { T := tab, G := [] }) (EnvOk.nil tabOk) mixed (fn := Try.f136) _ _ _ _ _ _ .none Try.func136 (by kernel_rfl) (fun x => by kernel_rfl)
/-! loop.example/g00486/spec.l1Below -/
def spec_l1Below (a0 : T_l1Cur.D) (a1 : Int) : Option (Int × (T_l1Cur.D × Unit)) :=
 bif decide (a1 ≤ 0) then (
 some (0, (a0, ())))
 else (
 bif decide (a1 ≤ 256) then (
(spec_l1Byte a0).bind fun y1 =>
 if a1 = 0 then none else (
 some (y1.1.tmod a1, y1.2)))
 else (
(spec_l1Byte a0).bind fun y2 =>
(spec_l1Byte y2.2.1).bind fun y3 =>
(spec_l1Byte y3.2.1).bind fun y4 =>
 let k5 : Int := IntKind.wrap .i64 ((IntKind.wrap .i64 (y2.1 * 65536)) + (IntKind.wrap .i64 (y3.1 * 256)))
 if a1 = 0 then none else (
 some ((IntKind.wrap .i64 (k5 + y4.1)).tmod a1, y4.2))))
def spec_l1Below_c : Ct := .mut [.ptr, .rd] true true (.pair T_l1Cur (.pair (.int .i64) .unit)) (.int .i64) (fun x => spec_l1Below x.1 x.2.1)
theorem spec_l1Below_ct : CtOk Try.prog 73 spec_l1Below_c := mut_ct (E := { T := tab, G := [(136, spec_l1Byte_c)] }) (EnvOk.cons spec_l1Byte_ct (EnvOk.nil tabOk)) mixed (fn := Try.f73) _ _ _ _ _ _ .none Try.func73 (by kernel_rfl) (fun x => by kernel_rfl)
/-! loop.example/g00486/spec.l1Int -/
def spec_l1Int (a0 : T_l1Cur.D) (a1 : (List Int)) : Option (Int × (T_l1Cur.D × Unit)) :=
(spec_l1Below a0 (a1.length : Int)).bind fun y1 =>
 idx a1 y1.1 fun x2 =>
 some (x2, y1.2)
def spec_l1Int_c : Ct := .mut [.ptr, .rd] true true (.pair T_l1Cur (.pair (.slice (.int .i64)) .unit)) (.int .i64) (fun x => spec_l1Int x.1 x.2.1)
theorem spec_l1Int_ct : CtOk Try.prog 135 spec_l1Int_c := mut_ct (E := { T := tab, G := [(73, spec_l1Below_c)] }) (EnvOk.cons spec_l1Below_ct (EnvOk.nil tabOk)) mixed (fn := Try.f135) _ _ _ _ _ _ .none Try.func135 (by kernel_rfl) (fun x => by kernel_rfl)
/-! loop.example/g00486/spec.l1Once -/
def spec_l1Once (a0 : T_l1Cur.D) (a1 : Int) : Option (Bool × (T_l1Cur.D × Unit)) :=
(spec_l1Below a0 a1).bind fun y1 =>
 some ((y1.1 == 0), y1.2)
def spec_l1Once_c : Ct := .mut [.ptr, .rd] true true (.pair T_l1Cur (.pair (.int .i64) .unit)) .bool (fun x => spec_l1Once x.1 x.2.1)
theorem spec_l1Once_ct : CtOk Try.prog 76 spec_l1Once_c := mut_ct (E := { T := tab, G := [(73, spec_l1Below_c)] }) (EnvOk.cons spec_l1Below_ct (EnvOk.nil tabOk)) mixed (fn := Try.f76) _ _ _ _ _ _ .none Try.func76 (by kernel_rfl) (fun x => by kernel_rfl)
/-! loop.example/g00486/spec.l4Draw -/
def spec_l4Draw_l1 : (Int × (T_l1Cur.D × (Int × (Int × (Int × (Int × (Int × (Int × (Int × (Int × (Int × (Int × (Int × (Bool × (Bool × Unit))))))))))))))) → Option ((Int × (T_l1Cur.D × (Int × (Int × (Int × (Int × (Int × (Int × (Int × (Int × (Int × (Int × (Int × (Bool × (Bool × Unit))))))))))))))) ⊕ (Int × (T_l1Cur.D × (Int × (Int × (Int × (Int × (Int × (Int × (Int × (Int × (Int × (Int × (Int × (Bool × (Bool × Unit)))))))))))))))) := fun s8 =>
 bif decide (s8.1 < (([1, 2, 4, 8, 16, 32] : List Int).length : Int)) then (
 idx ([1, 2, 4, 8, 16, 32] : List Int) s8.1 fun _ =>
(([1, 2, 4, 8, 16, 32] : List Int)[(s8.1 : Int).toNat]?).bind fun x9 =>
(spec_l1Once s8.2.1 3).bind fun y10 =>
 bif y10.1 then (
 some (.inl (IntKind.wrap .i64 (s8.1 + 1), y10.2.1, s8.2.2.1, s8.2.2.2.1, s8.2.2.2.2.1, s8.2.2.2.2.2.1, s8.2.2.2.2.2.2.1, s8.2.2.2.2.2.2.2.1, s8.2.2.2.2.2.2.2.2.1, IntKind.wrap .i64 (s8.2.2.2.2.2.2.2.2.2.1 + x9), s8.2.2.2.2.2.2.2.2.2.2)))
 else (
 some (.inl (IntKind.wrap .i64 (s8.1 + 1), y10.2.1, s8.2.2))))
 else (
 some (.inr s8))
def spec_l4Draw (a0 : T_l1Cur.D) (a1 : Int) : Option (T_Piece.D × (T_l1Cur.D × Unit)) :=
(spec_l1Below a0 2).bind fun y1 =>
(spec_l1Int y1.2.1 ([2, 2, 2, 1, 3] : List Int)).bind fun y2 =>
(spec_l1Below y2.2.1 3).bind fun y3 =>
(spec_l1Below y3.2.1 5).bind fun y4 =>
(spec_l1Below y4.2.1 5).bind fun y5 =>
(while_ (spec_l4Draw_l1) (0, y5.2.1, a1, y1.1, y1.1, y2.1, y3.1, y4.1, IntKind.wrap .i64 (1 + y5.1), 0, 0, 0, 0, false, false, ())).bind fun o11 =>
 bif (o11.2.2.2.2.2.1 != 2) then (
 some (o11.2.2, (o11.2.1, ())))
 else (
(spec_l1Once o11.2.1 4).bind fun y12 =>
((bif y12.1 then (
 some (o11.2.2.1, o11.2.2.2.1, IntKind.wrap .i64 (1 - o11.2.2.2.1), o11.2.2.2.2.2))
 else (
 some o11.2.2)) : Option T_Piece.D).bind fun o13 =>
(spec_l1Int y12.2.1 ([0, 0, 1, 2] : List Int)).bind fun y14 =>
(spec_l1Int y14.2.1 ([0, 0, 0, 1] : List Int)).bind fun y15 =>
(spec_l1Int y15.2.1 ([0, 0, 1] : List Int)).bind fun y16 =>
(spec_l1Once y16.2.1 4).bind fun y17 =>
 some ((o13.1, o13.2.1, o13.2.2.1, o13.2.2.2.1, o13.2.2.2.2.1, o13.2.2.2.2.2.1, o13.2.2.2.2.2.2.1, o13.2.2.2.2.2.2.2.1, y14.1, y15.1, y16.1, o13.2.2.2.2.2.2.2.2.2.2.2.1, y17.1, ()), y17.2))
def spec_l4Draw_h : Hints := (.node none none .none (.node none none .none (.node none none .none (.node none none (.node none none .none (.node none none (.node none (some ⟨[.tmp 27 (.int .i64), .box 0 0 T_l1Cur, .box 5 0 T_Piece], [some 0], none, []⟩) .none .none) .none)) (.node none none .none (.node none none (.node none none .none (.node (some ⟨[.box 5 0 T_Piece], [none], none, [(5, 0)]⟩) none .none .none)) .none))))))
def spec_l4Draw_c : Ct := .mut [.ptr, .rd] true true (.pair T_l1Cur (.pair (.int .i64) .unit)) T_Piece (fun x => spec_l4Draw x.1 x.2.1)
theorem spec_l4Draw_ct : CtOk Try.prog 134 spec_l4Draw_c := mut_ct (E := { T := tab, G := [(73, spec_l1Below_c), (76, spec_l1Once_c), (135, spec_l1Int_c)], V := [12, 50, 54, 58] }) (EnvOk.views (EnvOk.cons spec_l1Below_ct (EnvOk.cons spec_l1Once_ct (EnvOk.cons spec_l1Int_ct (EnvOk.nil tabOk))))) mixed (fn := Try.f134) _ _ _ _ _ _ spec_l4Draw_h Try.func134 (by kernel_rfl) (fun x => by kernel_rfl)
/-! loop.example/g00486/spec.l1Odd -/
def spec_l1Odd (a0 : T_l1Cur.D) : Option (Int × (T_l1Cur.D × Unit)) :=
(spec_l1Int a0 ([(-1), 0, 1, 2, 255, 256, 65535, 2147483647, 2147483648, 4294967295, 4294967296, (-2147483648), 9223372036854775807, (-9223372036854775808)] : List Int)).bind fun y1 =>
 some (y1.1, y1.2)
def spec_l1Odd_c : Ct := .mut [.ptr] true true (.pair T_l1Cur .unit) (.int .i64) (fun x => spec_l1Odd x.1)
theorem spec_l1Odd_ct : CtOk Try.prog 138 spec_l1Odd_c := mut_ct (E := { T := tab, G := [(135, spec_l1Int_c)], V := [4] }) (EnvOk.views (EnvOk.cons spec_l1Int_ct (EnvOk.nil tabOk))) mixed (fn := Try.f138) _ _ _ _ _ _ .none Try.func138 (by kernel_rfl) (fun x => by kernel_rfl)
/-! loop.example/g00486/spec.l1Raw -/
def spec_l1Raw (a0 : T_l1Cur.D) : Option (Int × (T_l1Cur.D × Unit)) :=
(spec_l1Once a0 2).bind fun y1 =>
 bif y1.1 then (
(spec_l1Odd y1.2.1).bind fun y2 =>
 some (y2.1, y2.2))
 else (
(spec_l1Int y1.2.1 ([(-2147483648), (-2147483647), (-3), (-1), 0, 1, 3, 7, 2147483647, 2147483648] : List Int)).bind fun y3 =>
 some (y3.1, y3.2))
def spec_l1Raw_c : Ct := .mut [.ptr] true true (.pair T_l1Cur .unit) (.int .i64) (fun x => spec_l1Raw x.1)
theorem spec_l1Raw_ct : CtOk Try.prog 77 spec_l1Raw_c := mut_ct (E := { T := tab, G := [(76, spec_l1Once_c), (135, spec_l1Int_c), (138, spec_l1Odd_c)], V := [8] }) (EnvOk.views (EnvOk.cons spec_l1Once_ct (EnvOk.cons spec_l1Int_ct (EnvOk.cons spec_l1Odd_ct (EnvOk.nil tabOk))))) mixed (fn := Try.f77) _ _ _ _ _ _ .none Try.func77 (by kernel_rfl) (fun x => by kernel_rfl)
/-! loop.example/g00486/spec.l4Any -/
def spec_l4Any (a0 : T_l1Cur.D) : Option (T_Piece.D × (T_l1Cur.D × Unit)) :=
(spec_l1Below a0 9).bind fun y1 =>
(spec_l4Draw y1.2.1 (IntKind.wrap .i64 (1 + y1.1))).bind fun y2 =>
(spec_l1Below y2.2.1 20).bind fun y3 =>
 bif (y3.1 == 0) then (
(spec_l1Int y3.2.1 ([0, 99, 100] : List Int)).bind fun y4 =>
 some ((y4.1, y2.1.2), y4.2))
 else (
 bif (y3.1 == 1) then (
(spec_l1Int y3.2.1 ([(-1), 2, 3] : List Int)).bind fun y5 =>
 some ((y2.1.1, y5.1, y2.1.2.2), y5.2))
 else (
 bif (y3.1 == 2) then (
(spec_l1Int y3.2.1 ([(-1), 2, 3] : List Int)).bind fun y6 =>
 some ((y2.1.1, y2.1.2.1, y6.1, y2.1.2.2.2), y6.2))
 else (
 bif (y3.1 == 3) then (
(spec_l1Int y3.2.1 ([0, 1, 4, 5] : List Int)).bind fun y7 =>
 some ((y2.1.1, y2.1.2.1, y2.1.2.2.1, y7.1, y2.1.2.2.2.2), y7.2))
 else (
 bif (y3.1 == 4) then (
(spec_l1Int y3.2.1 ([(-1), 9999, 10000] : List Int)).bind fun y8 =>
 some ((y2.1.1, y2.1.2.1, y2.1.2.2.1, y2.1.2.2.2.1, y8.1, y2.1.2.2.2.2.2), y8.2))
 else (
 bif (y3.1 == 5) then (
(spec_l1Int y3.2.1 ([(-1), 999, 1000] : List Int)).bind fun y9 =>
 some ((y2.1.1, y2.1.2.1, y2.1.2.2.1, y2.1.2.2.2.1, y2.1.2.2.2.2.1, y9.1, y2.1.2.2.2.2.2.2), y9.2))
 else (
 bif (y3.1 == 6) then (
(spec_l1Int y3.2.1 ([(-1), 999, 1000] : List Int)).bind fun y10 =>
 some ((y2.1.1, y2.1.2.1, y2.1.2.2.1, y2.1.2.2.2.1, y2.1.2.2.2.2.1, y2.1.2.2.2.2.2.1, y10.1, y2.1.2.2.2.2.2.2.2), y10.2))
 else (
 bif (y3.1 == 7) then (
(spec_l1Int y3.2.1 ([(-1), 63, 64] : List Int)).bind fun y11 =>
 some ((y2.1.1, y2.1.2.1, y2.1.2.2.1, y2.1.2.2.2.1, y2.1.2.2.2.2.1, y2.1.2.2.2.2.2.1, y2.1.2.2.2.2.2.2.1, y11.1, y2.1.2.2.2.2.2.2.2.2), y11.2))
 else (
 bif (y3.1 == 8) then (
(spec_l1Raw y3.2.1).bind fun y12 =>
 some ((y2.1.1, y2.1.2.1, y2.1.2.2.1, y2.1.2.2.2.1, y2.1.2.2.2.2.1, y2.1.2.2.2.2.2.1, y2.1.2.2.2.2.2.2.1, y2.1.2.2.2.2.2.2.2.1, y12.1, y2.1.2.2.2.2.2.2.2.2.2), y12.2))
 else (
 bif (y3.1 == 9) then (
(spec_l1Raw y3.2.1).bind fun y13 =>
 some ((y2.1.1, y2.1.2.1, y2.1.2.2.1, y2.1.2.2.2.1, y2.1.2.2.2.2.1, y2.1.2.2.2.2.2.1, y2.1.2.2.2.2.2.2.1, y2.1.2.2.2.2.2.2.2.1, y2.1.2.2.2.2.2.2.2.2.1, y13.1, y2.1.2.2.2.2.2.2.2.2.2.2), y13.2))
 else (
 bif (y3.1 == 10) then (
(spec_l1Raw y3.2.1).bind fun y14 =>
 some ((y2.1.1, y2.1.2.1, y2.1.2.2.1, y2.1.2.2.2.1, y2.1.2.2.2.2.1, y2.1.2.2.2.2.2.1, y2.1.2.2.2.2.2.2.1, y2.1.2.2.2.2.2.2.2.1, y2.1.2.2.2.2.2.2.2.2.1, y2.1.2.2.2.2.2.2.2.2.2.1, y14.1, y2.1.2.2.2.2.2.2.2.2.2.2.2), y14.2))
 else (
 bif (y3.1 == 11) then (
 some ((y2.1.1, y2.1.2.1, y2.1.2.2.1, y2.1.2.2.2.1, y2.1.2.2.2.2.1, y2.1.2.2.2.2.2.1, y2.1.2.2.2.2.2.2.1, y2.1.2.2.2.2.2.2.2.1, y2.1.2.2.2.2.2.2.2.2.1, y2.1.2.2.2.2.2.2.2.2.2.1, y2.1.2.2.2.2.2.2.2.2.2.2.1, true, y2.1.2.2.2.2.2.2.2.2.2.2.2.2), y3.2))
 else (
 some (y2.1, y3.2)))))))))))))
def spec_l4Any_c : Ct := .mut [.ptr] true true (.pair T_l1Cur .unit) T_Piece (fun x => spec_l4Any x.1)
theorem spec_l4Any_ct : CtOk Try.prog 72 spec_l4Any_c := mut_ct (E := { T := tab, G := [(73, spec_l1Below_c), (77, spec_l1Raw_c), (134, spec_l4Draw_c), (135, spec_l1Int_c)], V := [14, 20, 26, 32, 38, 44, 50, 56] }) (EnvOk.views (EnvOk.cons spec_l1Below_ct (EnvOk.cons spec_l1Raw_ct (EnvOk.cons spec_l4Draw_ct (EnvOk.cons spec_l1Int_ct (EnvOk.nil tabOk)))))) mixed (fn := Try.f72) _ _ _ _ _ _ .none Try.func72 (by kernel_rfl) (fun x => by kernel_rfl)
/-! loop.example/g00486/spec.Bound -/
def spec_Bound (a0 : Int) : Option Int :=
 bif decide (a0 > 2147483647) then (
 some 2147483647)
 else (
 bif decide (a0 < (-2147483647)) then (
 some (-2147483647))
 else (
 some a0))
def spec_Bound_c : Ct := .pure true false (.pair (.int .i64) .unit) (.int .i64) (fun x => spec_Bound x.1)
theorem spec_Bound_ct : CtOk Try.prog 137 spec_Bound_c := pure_ct (E := { T := tab, G := [] }) (EnvOk.nil tabOk) mixed (fn := Try.f137) _ _ _ _ _ .none Try.func137 (by kernel_rfl) (fun x => by kernel_rfl)
/-! loop.example/g00486/spec.Plus -/
def spec_Plus (a0 : Int) (a1 : Int) : Option Int :=
(spec_Bound a0).bind fun y1 =>
(spec_Bound a1).bind fun y2 =>
(spec_Bound (IntKind.wrap .i64 (y1 + y2))).bind fun y3 =>
 some y3
def spec_Plus_c : Ct := .pure true false (.pair (.int .i64) (.pair (.int .i64) .unit)) (.int .i64) (fun x => spec_Plus x.1 x.2.1)
theorem spec_Plus_ct : CtOk Try.prog 75 spec_Plus_c := pure_ct (E := { T := tab, G := [(137, spec_Bound_c)] }) (EnvOk.cons spec_Bound_ct (EnvOk.nil tabOk)) mixed (fn := Try.f75) _ _ _ _ _ .none Try.func75 (by kernel_rfl) (fun x => by kernel_rfl)
/-! loop.example/g00486/spec.Less -/
def spec_Less (a0 : Int) (a1 : Int) : Option Int :=
(spec_Bound a0).bind fun y1 =>
(spec_Bound a1).bind fun y2 =>
(spec_Bound (IntKind.wrap .i64 (y1 - y2))).bind fun y3 =>
 some y3
def spec_Less_c : Ct := .pure true false (.pair (.int .i64) (.pair (.int .i64) .unit)) (.int .i64) (fun x => spec_Less x.1 x.2.1)
theorem spec_Less_ct : CtOk Try.prog 85 spec_Less_c := pure_ct (E := { T := tab, G := [(137, spec_Bound_c)] }) (EnvOk.cons spec_Bound_ct (EnvOk.nil tabOk)) mixed (fn := Try.f85) _ _ _ _ _ .none Try.func85 (by kernel_rfl) (fun x => by kernel_rfl)
/-! loop.example/g00486/spec.ToughOf -/
def spec_ToughOf (a0 : T_Piece.D) : Option Int :=
(spec_Plus a0.2.2.2.2.2.2.1 a0.2.2.2.2.2.2.2.2.1).bind fun y1 =>
(spec_Less y1 a0.2.2.2.2.2.2.2.2.2.1).bind fun y2 =>
 some y2
def spec_ToughOf_c : Ct := .pure true false (.pair T_Piece .unit) (.int .i64) (fun x => spec_ToughOf x.1)
theorem spec_ToughOf_ct : CtOk Try.prog 74 spec_ToughOf_c := pure_ct (E := { T := tab, G := [(75, spec_Plus_c), (85, spec_Less_c)] }) (EnvOk.cons spec_Plus_ct (EnvOk.cons spec_Less_ct (EnvOk.nil tabOk))) mixed (fn := Try.f74) _ _ _ _ _ .none Try.func74 (by kernel_rfl) (fun x => by kernel_rfl)
/-! loop.example/g00486/spec.DrawDoomed -/
def spec_DrawDoomed (a0 : (List Int)) : Option T_Piece.D :=
(spec_l1New a0).bind fun y1 =>
(spec_l4Any y1).bind fun y2 =>
(spec_l1Below y2.2.1 4).bind fun y3 =>
 bif (y3.1 == 0) then (
(spec_ToughOf y2.1).bind fun y4 =>
 some (y2.1.1, y2.1.2.1, y2.1.2.2.1, y2.1.2.2.2.1, y2.1.2.2.2.2.1, y2.1.2.2.2.2.2.1, y2.1.2.2.2.2.2.2.1, y2.1.2.2.2.2.2.2.2.1, y2.1.2.2.2.2.2.2.2.2.1, y2.1.2.2.2.2.2.2.2.2.2.1, y4, y2.1.2.2.2.2.2.2.2.2.2.2.2))
 else (
 bif (y3.1 == 1) then (
(spec_Plus y2.1.2.2.2.2.2.2.1 y2.1.2.2.2.2.2.2.2.2.1).bind fun y5 =>
 some (y2.1.1, y2.1.2.1, y2.1.2.2.1, y2.1.2.2.2.1, y2.1.2.2.2.2.1, y2.1.2.2.2.2.2.1, y2.1.2.2.2.2.2.2.1, y2.1.2.2.2.2.2.2.2.1, y2.1.2.2.2.2.2.2.2.2.1, y5, y2.1.2.2.2.2.2.2.2.2.2.2))
 else (
 bif (y3.1 == 2) then (
 some (y2.1.1, y2.1.2.1, y2.1.2.2.1, y2.1.2.2.2.1, y2.1.2.2.2.2.1, y2.1.2.2.2.2.2.1, y2.1.2.2.2.2.2.2.1, y2.1.2.2.2.2.2.2.2.1, y2.1.2.2.2.2.2.2.2.2.1, y2.1.2.2.2.2.2.2.2.2.2.1, y2.1.2.2.2.2.2.2.2.2.2.2.1, true, y2.1.2.2.2.2.2.2.2.2.2.2.2.2))
 else (
 some y2.1)))
def spec_DrawDoomed_c : Ct := .pure true false (.pair (.slice (.int .u8)) .unit) T_Piece (fun x => spec_DrawDoomed x.1)
theorem spec_DrawDoomed_ct : CtOk Try.prog 11 spec_DrawDoomed_c := pure_ct (E := { T := tab, G := [(71, spec_l1New_c), (72, spec_l4Any_c), (73, spec_l1Below_c), (74, spec_ToughOf_c), (75, spec_Plus_c)] }) (EnvOk.cons spec_l1New_ct (EnvOk.cons spec_l4Any_ct (EnvOk.cons spec_l1Below_ct (EnvOk.cons spec_ToughOf_ct (EnvOk.cons spec_Plus_ct (EnvOk.nil tabOk)))))) mixed (fn := Try.f11) _ _ _ _ _ .none Try.func11 (by kernel_rfl) (fun x => by kernel_rfl)
/-! loop.example/g00486/spec.l1Amount -/
def spec_l1Amount (a0 : T_l1Cur.D) : Option (Int × (T_l1Cur.D × Unit)) :=
(spec_l1Int a0 ([0, 1, 2, 3, 5, 9, 10, 2147483646, 2147483647] : List Int)).bind fun y1 =>
 some (y1.1, y1.2)
def spec_l1Amount_c : Ct := .mut [.ptr] true true (.pair T_l1Cur .unit) (.int .i64) (fun x => spec_l1Amount x.1)
theorem spec_l1Amount_ct : CtOk Try.prog 78 spec_l1Amount_c := mut_ct (E := { T := tab, G := [(135, spec_l1Int_c)], V := [4] }) (EnvOk.views (EnvOk.cons spec_l1Int_ct (EnvOk.nil tabOk))) mixed (fn := Try.f78) _ _ _ _ _ _ .none Try.func78 (by kernel_rfl) (fun x => by kernel_rfl)
/-! loop.example/g00486/spec.DrawOver -/
def spec_DrawOver (a0 : (List Int)) : Option (T_Piece.D × (Int × Unit)) :=
(spec_l1New a0).bind fun y1 =>
(spec_l4Any y1).bind fun y2 =>
(spec_l1Once y2.2.1 3).bind fun y3 =>
 bif y3.1 then (
(spec_l1Raw y3.2.1).bind fun y4 =>
 some (y2.1, y4.1, ()))
 else (
(spec_l1Amount y3.2.1).bind fun y5 =>
 some (y2.1, y5.1, ()))
def spec_DrawOver_c : Ct := .pure false false (.pair (.slice (.int .u8)) .unit) (.pair T_Piece (.pair (.int .i64) .unit)) (fun x => spec_DrawOver x.1)
theorem spec_DrawOver_ct : CtOk Try.prog 12 spec_DrawOver_c := pure_ct (E := { T := tab, G := [(71, spec_l1New_c), (72, spec_l4Any_c), (76, spec_l1Once_c), (77, spec_l1Raw_c), (78, spec_l1Amount_c)] }) (EnvOk.cons spec_l1New_ct (EnvOk.cons spec_l4Any_ct (EnvOk.cons spec_l1Once_ct (EnvOk.cons spec_l1Raw_ct (EnvOk.cons spec_l1Amount_ct (EnvOk.nil tabOk)))))) mixed (fn := Try.f12) _ _ _ _ _ .none Try.func12 (by kernel_rfl) (fun x => by kernel_rfl)
/-! loop.example/g00486/spec.StateNew -/
def spec_StateNew (a0 : Int) : Option T_State.D :=
 bif (a0 == 3) then (
 if (([(20, 0, false, ()), (20, 0, false, ())] : List T_Side.D).length + ([(20, 0, false, ())] : List T_Side.D).length) * (24 * 3) ≤ room then (
 some ([], (([(20, 0, false, ()), (20, 0, false, ())] : List T_Side.D) ++ ([(20, 0, false, ())] : List T_Side.D)), 0, 0, ())) else none)
 else (
 some ([], ([(20, 0, false, ()), (20, 0, false, ())] : List T_Side.D), 0, 0, ()))
def spec_StateNew_c : Ct := .pure true false (.pair (.int .i64) .unit) T_State (fun x => spec_StateNew x.1)
theorem spec_StateNew_ct : CtOk Try.prog 147 spec_StateNew_c := pure_ct (E := { T := tab, G := [] }) (EnvOk.nil tabOk) mixed (fn := Try.f147) _ _ _ _ _ .none Try.func147 (by kernel_rfl) (fun x => by kernel_rfl)
def spec_StateNew_fresh_c : Ct := .pure true true (.pair (.int .i64) .unit) T_State (fun x => spec_StateNew x.1)
theorem spec_StateNew_fresh_ct : CtOk Try.prog 147 spec_StateNew_fresh_c := pure_ct (E := { T := tab, G := [] }) (EnvOk.nil tabOk) mixed (fn := Try.f147) _ _ _ _ _ .none Try.func147 (by kernel_rfl) (fun x => by kernel_rfl)
/-! loop.example/g00486/spec.l5Draw -/
def spec_l5Draw_l1 : (Int × (T_l1Cur.D × ((List T_Piece.D) × ((List T_Side.D) × (Int × (Int × Unit)))))) → Option ((Int × (T_l1Cur.D × ((List T_Piece.D) × ((List T_Side.D) × (Int × (Int × Unit)))))) ⊕ (Int × (T_l1Cur.D × ((List T_Piece.D) × ((List T_Side.D) × (Int × (Int × Unit))))))) := fun s6 =>
 bif decide (s6.1 < 2) then (
(spec_l1Int s6.2.1 ([20, 20, 3, 1, 10] : List Int)).bind fun y7 =>
 idx s6.2.2.2.1 s6.1 fun _ =>
(s6.2.2.2.1[(s6.1 : Int).toNat]?).bind fun x8 =>
 let u9 : (List T_Side.D) := s6.2.2.2.1.set (s6.1 : Int).toNat (y7.1, x8.2)
(spec_l1Int y7.2.1 ([0, 0, 8, 1] : List Int)).bind fun y10 =>
 idx u9 s6.1 fun _ =>
(u9[(s6.1 : Int).toNat]?).bind fun x11 =>
 let u12 : (List T_Side.D) := u9.set (s6.1 : Int).toNat (x11.1, y10.1, x11.2.2)
 some (.inl (IntKind.wrap .i64 (s6.1 + 1), y10.2.1, s6.2.2.1, u12, s6.2.2.2.2)))
 else (
 some (.inr s6))
def spec_l5Draw_l2 : (Int × (Int × (T_l1Cur.D × ((List T_Piece.D) × ((List T_Side.D) × (Int × (Int × Unit))))))) → Option ((Int × (Int × (T_l1Cur.D × ((List T_Piece.D) × ((List T_Side.D) × (Int × (Int × Unit))))))) ⊕ (Int × (Int × (T_l1Cur.D × ((List T_Piece.D) × ((List T_Side.D) × (Int × (Int × Unit)))))))) := fun s17 =>
 bif decide (s17.2.1 > 0) then (
(spec_l1Below s17.2.2.1 2).bind fun y18 =>
(spec_l4Draw y18.2.1 (IntKind.wrap .i64 ((IntKind.wrap .i64 (s17.1 + 1)) + y18.1))).bind fun y19 =>
 if (s17.2.2.2.1.length + [y19.1].length) * (24 * 13) ≤ room then (
 some (.inl (IntKind.wrap .i64 ((IntKind.wrap .i64 (s17.1 + 1)) + y18.1), IntKind.wrap .i64 (s17.2.1 - 1), y19.2.1, (s17.2.2.2.1 ++ [y19.1]), s17.2.2.2.2))) else none)
 else (
 some (.inr s17))
def spec_l5Draw (a0 : T_l1Cur.D) : Option (T_State.D × (T_l1Cur.D × Unit)) :=
(spec_StateNew 2).bind fun y1 =>
(spec_l1Below a0 3).bind fun y2 =>
(spec_l1Below y2.2.1 2).bind fun y3 =>
(while_ (spec_l5Draw_l1) (0, y3.2.1, y1.1, y1.2.1, y3.1, IntKind.wrap .i64 (2 + y2.1), ())).bind fun o13 =>
(spec_l1Below o13.2.1 5).bind fun y14 =>
(while_ (spec_l5Draw_l2) (0, IntKind.wrap .i64 (1 + y14.1), y14.2.1, o13.2.2)).bind fun o20 =>
 some (o20.2.2.2, (o20.2.2.1, ()))
def spec_l5Draw_h : Hints := (.node none none .none (.node none none .none (.node none none .none (.node none none .none (.node none none (.node none none .none (.node none none (.node none (some ⟨[.tmp 4 (.int .i64), .box 0 0 T_l1Cur, .boxO 3 0 1 T_State], [some 0], none, []⟩) .none .none) .none)) (.node none none .none (.node none none (.node none none .none (.node none none (.node none (some ⟨[.tmp 5 (.int .i64), .tmp 6 (.int .i64), .box 0 0 T_l1Cur, .boxO 3 0 3 T_State], [some 2], none, []⟩) .none .none) .none)) .none)))))))
def spec_l5Draw_c : Ct := .mut [.ptr] true false (.pair T_l1Cur .unit) T_State (fun x => spec_l5Draw x.1)
theorem spec_l5Draw_ct : CtOk Try.prog 107 spec_l5Draw_c := mut_ct (E := { T := tab, G := [(73, spec_l1Below_c), (134, spec_l4Draw_c), (135, spec_l1Int_c), (147, spec_StateNew_fresh_c)], V := [24, 32] }) (EnvOk.views (EnvOk.cons spec_l1Below_ct (EnvOk.cons spec_l4Draw_ct (EnvOk.cons spec_l1Int_ct (EnvOk.cons spec_StateNew_fresh_ct (EnvOk.nil tabOk)))))) mixed (fn := Try.f107) _ _ _ _ _ _ spec_l5Draw_h Try.func107 (by kernel_rfl) (fun x => by kernel_rfl)
def spec_l5Draw_fresh_c : Ct := .mut [.ptr] true true (.pair T_l1Cur .unit) T_State (fun x => spec_l5Draw x.1)
theorem spec_l5Draw_fresh_ct : CtOk Try.prog 107 spec_l5Draw_fresh_c := mut_ct (E := { T := tab, G := [(73, spec_l1Below_c), (134, spec_l4Draw_c), (135, spec_l1Int_c), (147, spec_StateNew_fresh_c)], V := [24, 32] }) (EnvOk.views (EnvOk.cons spec_l1Below_ct (EnvOk.cons spec_l4Draw_ct (EnvOk.cons spec_l1Int_ct (EnvOk.cons spec_StateNew_fresh_ct (EnvOk.nil tabOk)))))) mixed (fn := Try.f107) _ _ _ _ _ _ spec_l5Draw_h Try.func107 (by kernel_rfl) (fun x => by kernel_rfl)
/-! loop.example/g00486/spec.l5Any -/
def spec_l5Any_l1 : (Int × (T_l1Cur.D × ((List T_Piece.D) × ((List T_Side.D) × (Int × (Int × Unit)))))) → Option ((Int × (T_l1Cur.D × ((List T_Piece.D) × ((List T_Side.D) × (Int × (Int × Unit)))))) ⊕ (Int × (T_l1Cur.D × ((List T_Piece.D) × ((List T_Side.D) × (Int × (Int × Unit))))))) := fun s15 =>
 bif decide (s15.1 < 46) then (
(spec_l4Draw s15.2.1 s15.1).bind fun y16 =>
 if (s15.2.2.1.length + [y16.1].length) * (24 * 13) ≤ room then (
 some (.inl (IntKind.wrap .i64 (s15.1 + 1), y16.2.1, (s15.2.2.1 ++ [y16.1]), s15.2.2.2))) else none)
 else (
 some (.inr s15))
def spec_l5Any (a0 : T_l1Cur.D) : Option (T_State.D × (T_l1Cur.D × Unit)) :=
(spec_l5Draw a0).bind fun y1 =>
(spec_l1Below y1.2.1 18).bind fun y2 =>
 bif (y2.1 == 0) then (
(spec_l1Int y2.2.1 ([(-1), 2, 3] : List Int)).bind fun y3 =>
 some ((y1.1.1, y1.1.2.1, y3.1, y1.1.2.2.2), y3.2))
 else (
 bif (y2.1 == 1) then (
(spec_l1Int y2.2.1 ([(-1), 0, 9999, 10000] : List Int)).bind fun y4 =>
 some ((y1.1.1, y1.1.2.1, y1.1.2.2.1, y4.1, ()), y4.2))
 else (
 bif (y2.1 == 2) then (
(spec_l1Raw y2.2.1).bind fun y5 =>
 if (y1.1.2.1.length + [(y5.1, 0, false, ())].length) * (24 * 3) ≤ room then (
 some ((y1.1.1, (y1.1.2.1 ++ [(y5.1, 0, false, ())]), y1.1.2.2), y5.2)) else none)
 else (
 bif (y2.1 == 3) then (
(spec_l1Raw y2.2.1).bind fun y6 =>
 idx y1.1.2.1 0 fun _ =>
(y1.1.2.1[(0 : Int).toNat]?).bind fun x7 =>
 let u8 : (List T_Side.D) := y1.1.2.1.set (0 : Int).toNat (x7.1, y6.1, x7.2.2)
 some ((y1.1.1, u8, y1.1.2.2), y6.2))
 else (
 bif (y2.1 == 4) then (
(spec_l4Any y2.2.1).bind fun y9 =>
 if (y1.1.1.length + [y9.1].length) * (24 * 13) ≤ room then (
 some (((y1.1.1 ++ [y9.1]), y1.1.2), y9.2)) else none)
 else (
 bif (y2.1 == 5) then (
 if 0 ≤ (0 : Int) then (if (0 : Int) ≤ (1 : Int) then (if (1 : Int) ≤ (y1.1.2.1.length : Int) then (
 some ((y1.1.1, ((y1.1.2.1.take ((1 : Int).toNat)).drop ((0 : Int).toNat)), y1.1.2.2), y2.2)) else none) else none) else none)
 else (
 bif (y2.1 == 6) then (
(spec_l4Any y2.2.1).bind fun y10 =>
 idx y1.1.1 0 fun _ =>
(y1.1.1[(0 : Int).toNat]?).bind fun x11 =>
 let u12 : (List T_Piece.D) := y1.1.1.set (0 : Int).toNat y10.1
 some ((u12, y1.1.2), y10.2))
 else (
 bif (y2.1 == 7) then (
(while_ (spec_l5Any_l1) (40, y2.2.1, y1.1)).bind fun o17 =>
 some (o17.2.2, (o17.2.1, ())))
 else (
 some (y1.1, y2.2)))))))))
def spec_l5Any_h : Hints := (.node none none .none (.node none none .none (.node none none (.node none none .none (.node none none (.node none none .none (.node none none .none (.node none none .none (.node none none .none (.node none none .none (.node none none .none (.node none none .none (.node none none .none (.node none none .none (.node none none .none (.node none none .none (.node none none .none (.node none none .none (.node none none .none (.node none none .none (.node none none (.node none none .none (.node none none (.node none (some ⟨[.tmp 4 (.int .i64), .box 0 0 T_l1Cur, .boxO 3 0 1 T_State], [some 1], none, []⟩) .none .none) .none)) .none)))))))))))))))) .none)) .none)))
def spec_l5Any_c : Ct := .mut [.ptr] true false (.pair T_l1Cur .unit) T_State (fun x => spec_l5Any x.1)
theorem spec_l5Any_ct : CtOk Try.prog 79 spec_l5Any_c := mut_ct (E := { T := tab, G := [(72, spec_l4Any_c), (73, spec_l1Below_c), (77, spec_l1Raw_c), (107, spec_l5Draw_fresh_c), (134, spec_l4Draw_c), (135, spec_l1Int_c)], V := [12, 18] }) (EnvOk.views (EnvOk.cons spec_l4Any_ct (EnvOk.cons spec_l1Below_ct (EnvOk.cons spec_l1Raw_ct (EnvOk.cons spec_l5Draw_fresh_ct (EnvOk.cons spec_l4Draw_ct (EnvOk.cons spec_l1Int_ct (EnvOk.nil tabOk)))))))) mixed (fn := Try.f79) _ _ _ _ _ _ spec_l5Any_h Try.func79 (by kernel_rfl) (fun x => by kernel_rfl)
def spec_l5Any_fresh_c : Ct := .mut [.ptr] true true (.pair T_l1Cur .unit) T_State (fun x => spec_l5Any x.1)
theorem spec_l5Any_fresh_ct : CtOk Try.prog 79 spec_l5Any_fresh_c := mut_ct (E := { T := tab, G := [(72, spec_l4Any_c), (73, spec_l1Below_c), (77, spec_l1Raw_c), (107, spec_l5Draw_fresh_c), (134, spec_l4Draw_c), (135, spec_l1Int_c)], V := [12, 18] }) (EnvOk.views (EnvOk.cons spec_l4Any_ct (EnvOk.cons spec_l1Below_ct (EnvOk.cons spec_l1Raw_ct (EnvOk.cons spec_l5Draw_fresh_ct (EnvOk.cons spec_l4Draw_ct (EnvOk.cons spec_l1Int_ct (EnvOk.nil tabOk)))))))) mixed (fn := Try.f79) _ _ _ _ _ _ spec_l5Any_h Try.func79 (by kernel_rfl) (fun x => by kernel_rfl)
/-! loop.example/g00486/spec.l6Id -/
def spec_l6Id (a0 : T_l1Cur.D) (a1 : T_State.D) : Option (Int × (T_l1Cur.D × Unit)) :=
((bif ((a1.1.length : Int) == 0) then (
 some (true, a0))
 else (
(spec_l1Once a0 8).bind fun y1 =>
 some (y1.1, y1.2.1))) : Option (Bool × ((List Int) × (Int × (Int × Unit))))).bind fun o2 =>
 bif o2.1 then (
(spec_l1Below o2.2 9).bind fun y3 =>
 some (IntKind.wrap .i64 (1 + y3.1), y3.2))
 else (
(spec_l1Below o2.2 (a1.1.length : Int)).bind fun y4 =>
 idx a1.1 y4.1 fun x5 =>
 some (x5.1, y4.2))
def spec_l6Id_h : Hints := (.node none none .none (.node none none (.node none none (.node (some ⟨[.tmp 12 .bool, .box 0 0 T_l1Cur], [none], none, [(0, 0)]⟩) none .none .none) .none) .none))
def spec_l6Id_c : Ct := .mut [.ptr, .rd] true true (.pair T_l1Cur (.pair T_State .unit)) (.int .i64) (fun x => spec_l6Id x.1 x.2.1)
theorem spec_l6Id_ct : CtOk Try.prog 80 spec_l6Id_c := mut_ct (E := { T := tab, G := [(73, spec_l1Below_c), (76, spec_l1Once_c)] }) (EnvOk.cons spec_l1Below_ct (EnvOk.cons spec_l1Once_ct (EnvOk.nil tabOk))) mixed (fn := Try.f80) _ _ _ _ _ _ spec_l6Id_h Try.func80 (by kernel_rfl) (fun x => by kernel_rfl)
/-! loop.example/g00486/spec.DrawHurtOf -/
def spec_DrawHurtOf (a0 : (List Int)) : Option (T_State.D × (Int × Unit)) :=
(spec_l1New a0).bind fun y1 =>
(spec_l5Any y1).bind fun y2 =>
(spec_l6Id y2.2.1 y2.1).bind fun y3 =>
 some (y2.1, y3.1, ())
def spec_DrawHurtOf_c : Ct := .pure false false (.pair (.slice (.int .u8)) .unit) (.pair T_State (.pair (.int .i64) .unit)) (fun x => spec_DrawHurtOf x.1)
theorem spec_DrawHurtOf_ct : CtOk Try.prog 13 spec_DrawHurtOf_c := pure_ct (E := { T := tab, G := [(71, spec_l1New_c), (79, spec_l5Any_c), (80, spec_l6Id_c)] }) (EnvOk.cons spec_l1New_ct (EnvOk.cons spec_l5Any_ct (EnvOk.cons spec_l6Id_ct (EnvOk.nil tabOk)))) mixed (fn := Try.f13) _ _ _ _ _ .none Try.func13 (by kernel_rfl) (fun x => by kernel_rfl)
/-! loop.example/g00486/impl.Bound -/
def impl_Bound (a0 : Int) : Option Int :=
 some (if (if 2147483647 < a0 then 2147483647 else a0) > (-2147483647) then (if 2147483647 < a0 then 2147483647 else a0) else (-2147483647))
def impl_Bound_c : Ct := .pure true false (.pair (.int .i64) .unit) (.int .i64) (fun x => impl_Bound x.1)
theorem impl_Bound_ct : CtOk Try.prog 102 impl_Bound_c := pure_ct (E := { T := tab, G := [] }) (EnvOk.nil tabOk) mixed (fn := Try.f102) _ _ _ _ _ .none Try.func102 (by kernel_rfl) (fun x => by kernel_rfl)
/-! loop.example/g00486/impl.Plus -/
def impl_Plus (a0 : Int) (a1 : Int) : Option Int :=
(impl_Bound a0).bind fun y1 =>
(impl_Bound a1).bind fun y2 =>
(impl_Bound (IntKind.wrap .i64 (y1 + y2))).bind fun y3 =>
 some y3
def impl_Plus_c : Ct := .pure true false (.pair (.int .i64) (.pair (.int .i64) .unit)) (.int .i64) (fun x => impl_Plus x.1 x.2.1)
theorem impl_Plus_ct : CtOk Try.prog 44 impl_Plus_c := pure_ct (E := { T := tab, G := [(102, impl_Bound_c)] }) (EnvOk.cons impl_Bound_ct (EnvOk.nil tabOk)) mixed (fn := Try.f44) _ _ _ _ _ .none Try.func44 (by kernel_rfl) (fun x => by kernel_rfl)
/-! loop.example/g00486/impl.Less -/
def impl_Less (a0 : Int) (a1 : Int) : Option Int :=
(impl_Bound a0).bind fun y1 =>
(impl_Bound a1).bind fun y2 =>
(impl_Bound (IntKind.wrap .i64 (y1 - y2))).bind fun y3 =>
 some y3
def impl_Less_c : Ct := .pure true false (.pair (.int .i64) (.pair (.int .i64) .unit)) (.int .i64) (fun x => impl_Less x.1 x.2.1)
theorem impl_Less_ct : CtOk Try.prog 82 impl_Less_c := pure_ct (E := { T := tab, G := [(102, impl_Bound_c)] }) (EnvOk.cons impl_Bound_ct (EnvOk.nil tabOk)) mixed (fn := Try.f82) _ _ _ _ _ .none Try.func82 (by kernel_rfl) (fun x => by kernel_rfl)
/-! loop.example/g00486/impl.ToughOf -/
def impl_ToughOf (a0 : T_Piece.D) : Option Int :=
(impl_Plus a0.2.2.2.2.2.2.1 a0.2.2.2.2.2.2.2.2.1).bind fun y1 =>
(impl_Less y1 a0.2.2.2.2.2.2.2.2.2.1).bind fun y2 =>
 some y2
def impl_ToughOf_c : Ct := .pure true false (.pair T_Piece .unit) (.int .i64) (fun x => impl_ToughOf x.1)
theorem impl_ToughOf_ct : CtOk Try.prog 20 impl_ToughOf_c := pure_ct (E := { T := tab, G := [(44, impl_Plus_c), (82, impl_Less_c)] }) (EnvOk.cons impl_Plus_ct (EnvOk.cons impl_Less_ct (EnvOk.nil tabOk))) mixed (fn := Try.f20) _ _ _ _ _ .none Try.func20 (by kernel_rfl) (fun x => by kernel_rfl)
/-! loop.example/g00486/impl.HasTrait -/
def impl_HasTrait (a0 : T_Piece.D) (a1 : Int) : Option Bool :=
((bif (a1 == 1) then (
 some (a1 == 1))
 else (
((bif (a1 == 2) then (
 some (a1 == 2))
 else (
((bif (a1 == 4) then (
 some (a1 == 4))
 else (
((bif (a1 == 8) then (
 some (a1 == 8))
 else (
((bif (a1 == 16) then (
 some (a1 == 16))
 else (
 some (a1 == 32))) : Option Bool).bind fun o1 =>
 some o1)) : Option Bool).bind fun o2 =>
 some o2)) : Option Bool).bind fun o3 =>
 some o3)) : Option Bool).bind fun o4 =>
 some o4)) : Option Bool).bind fun o5 =>
 bif o5 then (
 let k6 : Int := IntKind.wrap .i64 (BitVec.ofInt (IntKind.bits .i64) a0.2.2.2.2.2.2.2.1 &&& BitVec.ofInt (IntKind.bits .i64) a1).toNat
 some (k6 != 0))
 else (
 some false)
def impl_HasTrait_h : Hints := (.node none none .none (.node none none (.node none none .none (.node none none (.node none none (.node none none .none (.node (some ⟨[.tmp 6 .bool], [none], none, []⟩) none .none (.node none none .none (.node (some ⟨[.tmp 6 .bool], [none], none, []⟩) none .none (.node none none .none (.node (some ⟨[.tmp 6 .bool], [none], none, []⟩) none .none (.node none none .none (.node (some ⟨[.tmp 6 .bool], [none], none, []⟩) none .none (.node none none .none (.node (some ⟨[.tmp 6 .bool], [none], none, []⟩) none .none .none)))))))))) .none) .none)) .none))
def impl_HasTrait_c : Ct := .pure true false (.pair T_Piece (.pair (.int .i64) .unit)) .bool (fun x => impl_HasTrait x.1 x.2.1)
theorem impl_HasTrait_ct : CtOk Try.prog 21 impl_HasTrait_c := pure_ct (E := { T := tab, G := [] }) (EnvOk.nil tabOk) mixed (fn := Try.f21) _ _ _ _ _ impl_HasTrait_h Try.func21 (by kernel_rfl) (fun x => by kernel_rfl)
/-! loop.example/g00486/impl.Doomed -/
def impl_Doomed (a0 : T_Piece.D) : Option Bool :=
 bif (a0.2.2.2.1 == 2) then (
(impl_ToughOf a0).bind fun y1 =>
 bif decide (y1 ≤ 0) then (
 some true)
 else (
(impl_HasTrait a0 8).bind fun y2 =>
 bif (!y2) then (
 bif a0.2.2.2.2.2.2.2.2.2.2.2.1 then (
 some true)
 else (
(impl_ToughOf a0).bind fun y3 =>
 some (decide (a0.2.2.2.2.2.2.2.2.2.2.1 ≥ y3))))
 else (
 some false)))
 else (
 some false)
def impl_Doomed_c : Ct := .pure true false (.pair T_Piece .unit) .bool (fun x => impl_Doomed x.1)
theorem impl_Doomed_ct : CtOk Try.prog 14 impl_Doomed_c := pure_ct (E := { T := tab, G := [(20, impl_ToughOf_c), (21, impl_HasTrait_c)] }) (EnvOk.cons impl_ToughOf_ct (EnvOk.cons impl_HasTrait_ct (EnvOk.nil tabOk))) mixed (fn := Try.f14) _ _ _ _ _ .none Try.func14 (by kernel_rfl) (fun x => by kernel_rfl)
/-! loop.example/g00486/impl.Upto -/
def impl_Upto (a0 : Int) (a1 : Int) : Option Int :=
 some (if (if a1 < a0 then a1 else a0) > 0 then (if a1 < a0 then a1 else a0) else 0)
def impl_Upto_c : Ct := .pure true false (.pair (.int .i64) (.pair (.int .i64) .unit)) (.int .i64) (fun x => impl_Upto x.1 x.2.1)
theorem impl_Upto_ct : CtOk Try.prog 81 impl_Upto_c := pure_ct (E := { T := tab, G := [] }) (EnvOk.nil tabOk) mixed (fn := Try.f81) _ _ _ _ _ .none Try.func81 (by kernel_rfl) (fun x => by kernel_rfl)
/-! loop.example/g00486/impl.Over -/
def impl_Over (a0 : T_Piece.D) (a1 : Int) : Option Int :=
(impl_ToughOf a0).bind fun y1 =>
(impl_Less y1 a0.2.2.2.2.2.2.2.2.2.2.1).bind fun y2 =>
(impl_Upto y2 2147483647).bind fun y3 =>
(impl_Less a1 y3).bind fun y4 =>
(impl_Upto y4 2147483647).bind fun y5 =>
 some y5
def impl_Over_c : Ct := .pure true false (.pair T_Piece (.pair (.int .i64) .unit)) (.int .i64) (fun x => impl_Over x.1 x.2.1)
theorem impl_Over_ct : CtOk Try.prog 15 impl_Over_c := pure_ct (E := { T := tab, G := [(20, impl_ToughOf_c), (81, impl_Upto_c), (82, impl_Less_c)] }) (EnvOk.cons impl_ToughOf_ct (EnvOk.cons impl_Upto_ct (EnvOk.cons impl_Less_ct (EnvOk.nil tabOk)))) mixed (fn := Try.f15) _ _ _ _ _ .none Try.func15 (by kernel_rfl) (fun x => by kernel_rfl)
/-! loop.example/g00486/spec.HasTrait -/
def spec_HasTrait (a0 : T_Piece.D) (a1 : Int) : Option Bool :=
 bif (a1 == 1) then (
 let k1 : Int := IntKind.wrap .i64 (BitVec.ofInt (IntKind.bits .i64) a0.2.2.2.2.2.2.2.1 &&& BitVec.ofInt (IntKind.bits .i64) a1).toNat
 some (k1 != 0))
 else (
 bif (a1 == 2) then (
 let k2 : Int := IntKind.wrap .i64 (BitVec.ofInt (IntKind.bits .i64) a0.2.2.2.2.2.2.2.1 &&& BitVec.ofInt (IntKind.bits .i64) a1).toNat
 some (k2 != 0))
 else (
 bif (a1 == 4) then (
 let k3 : Int := IntKind.wrap .i64 (BitVec.ofInt (IntKind.bits .i64) a0.2.2.2.2.2.2.2.1 &&& BitVec.ofInt (IntKind.bits .i64) a1).toNat
 some (k3 != 0))
 else (
 bif (a1 == 8) then (
 let k4 : Int := IntKind.wrap .i64 (BitVec.ofInt (IntKind.bits .i64) a0.2.2.2.2.2.2.2.1 &&& BitVec.ofInt (IntKind.bits .i64) a1).toNat
 some (k4 != 0))
 else (
 bif (a1 == 16) then (
 let k5 : Int := IntKind.wrap .i64 (BitVec.ofInt (IntKind.bits .i64) a0.2.2.2.2.2.2.2.1 &&& BitVec.ofInt (IntKind.bits .i64) a1).toNat
 some (k5 != 0))
 else (
 bif (a1 == 32) then (
 let k6 : Int := IntKind.wrap .i64 (BitVec.ofInt (IntKind.bits .i64) a0.2.2.2.2.2.2.2.1 &&& BitVec.ofInt (IntKind.bits .i64) a1).toNat
 some (k6 != 0))
 else (
 some false))))))
def spec_HasTrait_c : Ct := .pure true false (.pair T_Piece (.pair (.int .i64) .unit)) .bool (fun x => spec_HasTrait x.1 x.2.1)
theorem spec_HasTrait_ct : CtOk Try.prog 83 spec_HasTrait_c := pure_ct (E := { T := tab, G := [] }) (EnvOk.nil tabOk) mixed (fn := Try.f83) _ _ _ _ _ .none Try.func83 (by kernel_rfl) (fun x => by kernel_rfl)
/-! loop.example/g00486/spec.Doomed -/
def spec_Doomed (a0 : T_Piece.D) : Option Bool :=
 bif (a0.2.2.2.1 != 2) then (
 some false)
 else (
(spec_ToughOf a0).bind fun y1 =>
 bif decide (y1 ≤ 0) then (
 some true)
 else (
(spec_HasTrait a0 8).bind fun y2 =>
 bif (!y2) then (
 bif a0.2.2.2.2.2.2.2.2.2.2.2.1 then (
 some true)
 else (
 some (decide (a0.2.2.2.2.2.2.2.2.2.2.1 ≥ y1))))
 else (
 some false)))
def spec_Doomed_c : Ct := .pure true false (.pair T_Piece .unit) .bool (fun x => spec_Doomed x.1)
theorem spec_Doomed_ct : CtOk Try.prog 16 spec_Doomed_c := pure_ct (E := { T := tab, G := [(74, spec_ToughOf_c), (83, spec_HasTrait_c)] }) (EnvOk.cons spec_ToughOf_ct (EnvOk.cons spec_HasTrait_ct (EnvOk.nil tabOk))) mixed (fn := Try.f16) _ _ _ _ _ .none Try.func16 (by kernel_rfl) (fun x => by kernel_rfl)
/-! loop.example/g00486/spec.Upto -/
def spec_Upto (a0 : Int) (a1 : Int) : Option Int :=
((bif decide (a1 < a0) then (
 some a1)
 else (
 some a0)) : Option Int).bind fun o1 =>
 bif decide (o1 < 0) then (
 some 0)
 else (
 some o1)
def spec_Upto_h : Hints := (.node none none .none (.node none none .none (.node none none (.node none none .none (.node (some ⟨[.tmp 5 (.int .i64)], [none], none, []⟩) none .none .none)) .none)))
def spec_Upto_c : Ct := .pure true false (.pair (.int .i64) (.pair (.int .i64) .unit)) (.int .i64) (fun x => spec_Upto x.1 x.2.1)
theorem spec_Upto_ct : CtOk Try.prog 84 spec_Upto_c := pure_ct (E := { T := tab, G := [] }) (EnvOk.nil tabOk) mixed (fn := Try.f84) _ _ _ _ _ spec_Upto_h Try.func84 (by kernel_rfl) (fun x => by kernel_rfl)
/-! loop.example/g00486/spec.Over -/
def spec_Over (a0 : T_Piece.D) (a1 : Int) : Option Int :=
(spec_ToughOf a0).bind fun y1 =>
(spec_Less y1 a0.2.2.2.2.2.2.2.2.2.2.1).bind fun y2 =>
(spec_Upto y2 2147483647).bind fun y3 =>
(spec_Less a1 y3).bind fun y4 =>
(spec_Upto y4 2147483647).bind fun y5 =>
 some y5
def spec_Over_c : Ct := .pure true false (.pair T_Piece (.pair (.int .i64) .unit)) (.int .i64) (fun x => spec_Over x.1 x.2.1)
theorem spec_Over_ct : CtOk Try.prog 17 spec_Over_c := pure_ct (E := { T := tab, G := [(74, spec_ToughOf_c), (84, spec_Upto_c), (85, spec_Less_c)] }) (EnvOk.cons spec_ToughOf_ct (EnvOk.cons spec_Upto_ct (EnvOk.cons spec_Less_ct (EnvOk.nil tabOk)))) mixed (fn := Try.f17) _ _ _ _ _ .none Try.func17 (by kernel_rfl) (fun x => by kernel_rfl)
/-! slices.IndexFunc[[]loop.example/g00486/impl.Piece,loop.example/g00486/impl.Piece] -/
def slices_IndexFunc_impl_Piece_l1 (a0 : (List T_Piece.D)) (a1 : ((T_Piece.D × Unit) → Option Bool)) : Int → Option (Int ⊕ (Int ⊕ Int)) := fun s1 =>
 bif decide (s1 < (a0.length : Int)) then (
 idx a0 s1 fun x2 =>
(a1 (x2, ())).bind fun y3 =>
 bif y3 then (
 some (.inr (.inr s1)))
 else (
 some (.inl (IntKind.wrap .i64 (s1 + 1)))))
 else (
 some (.inr (.inl s1)))
def slices_IndexFunc_impl_Piece (a0 : (List T_Piece.D)) (a1 : ((T_Piece.D × Unit) → Option Bool)) : Option Int :=
(while_ (slices_IndexFunc_impl_Piece_l1 a0 a1) 0).bind fun o4 =>
 match o4 with
| .inl s5 => (
 some (-1))
| .inr o6 => (
 some o6)
def slices_IndexFunc_impl_Piece_h : Hints := (.node none none .none (.node none none (.node none none .none (.node none none (.node none (some ⟨[.tmp 8 (.int .i64)], [some 0], some [.tmp 4 (.int .i64)], []⟩) .none .none) .none)) .none))
def slices_IndexFunc_impl_Piece_c : Ct := .pure true false (.pair (.slice T_Piece) (.pair (.fn (.pair T_Piece .unit) .bool) .unit)) (.int .i64) (fun x => slices_IndexFunc_impl_Piece x.1 x.2.1)
theorem slices_IndexFunc_impl_Piece_ct : CtOk Try.prog 119 slices_IndexFunc_impl_Piece_c := pure_ct (E := { T := tab, G := [] }) (EnvOk.nil tabOk) mixed (fn := Try.f119) _ _ _ _ _ slices_IndexFunc_impl_Piece_h Try.func119 (by kernel_rfl) (fun x => by kernel_rfl)
/-! loop.example/g00486/impl.PieceAt$1 -/
def impl_PieceAt_1 (z0 : Int) (a0 : T_Piece.D) : Option Bool :=
 some (a0.1 == z0)
def impl_PieceAt_1_c : Ct := .clo (.pair T_Piece .unit) (.pair (.int .i64) .unit) .bool (fun z x => impl_PieceAt_1 z.1 x.1)
theorem impl_PieceAt_1_ct : CtOk Try.prog 120 impl_PieceAt_1_c := clo_ct (E := { T := tab, G := [] }) (EnvOk.nil tabOk) mixed (fn := Try.f120) _ _ _ _ .none Try.func120 (by kernel_rfl) (fun z x => by kernel_rfl)
/-! loop.example/g00486/impl.PieceAt -/
def impl_PieceAt (a0 : T_State.D) (a1 : Int) : Option Int :=
(slices_IndexFunc_impl_Piece a0.1 (fun q => impl_PieceAt_1 a1 q.1)).bind fun y1 =>
 some y1
def impl_PieceAt_c : Ct := .pure true false (.pair T_State (.pair (.int .i64) .unit)) (.int .i64) (fun x => impl_PieceAt x.1 x.2.1)
theorem impl_PieceAt_ct : CtOk Try.prog 43 impl_PieceAt_c := pure_ct (E := { T := tab, G := [(119, slices_IndexFunc_impl_Piece_c), (120, impl_PieceAt_1_c)] }) (EnvOk.cons slices_IndexFunc_impl_Piece_ct (EnvOk.cons impl_PieceAt_1_ct (EnvOk.nil tabOk))) mixed (fn := Try.f43) _ _ _ _ _ .none Try.func43 (by kernel_rfl) (fun x => by kernel_rfl)
/-! loop.example/g00486/impl.HurtOf -/
def impl_HurtOf (a0 : T_State.D) (a1 : Int) : Option Int :=
(impl_PieceAt a0 a1).bind fun y1 =>
 bif decide (y1 < 0) then (
 some 0)
 else (
 idx a0.1 y1 fun x2 =>
 some x2.2.2.2.2.2.2.2.2.2.2.1)
def impl_HurtOf_c : Ct := .pure true false (.pair T_State (.pair (.int .i64) .unit)) (.int .i64) (fun x => impl_HurtOf x.1 x.2.1)
theorem impl_HurtOf_ct : CtOk Try.prog 18 impl_HurtOf_c := pure_ct (E := { T := tab, G := [(43, impl_PieceAt_c)] }) (EnvOk.cons impl_PieceAt_ct (EnvOk.nil tabOk)) mixed (fn := Try.f18) _ _ _ _ _ .none Try.func18 (by kernel_rfl) (fun x => by kernel_rfl)
/-! loop.example/g00486/spec.PieceAt -/
def spec_PieceAt_l1 (a0 : T_State.D) (a1 : Int) : Int → Option (Int ⊕ (Int ⊕ Int)) := fun s1 =>
 bif decide (s1 < (a0.1.length : Int)) then (
 idx a0.1 s1 fun x2 =>
 bif (x2.1 == a1) then (
 some (.inr (.inr s1)))
 else (
 some (.inl (IntKind.wrap .i64 (s1 + 1)))))
 else (
 some (.inr (.inl s1)))
def spec_PieceAt (a0 : T_State.D) (a1 : Int) : Option Int :=
(while_ (spec_PieceAt_l1 a0 a1) 0).bind fun o3 =>
 match o3 with
| .inl s4 => (
 some (-1))
| .inr o5 => (
 some o5)
def spec_PieceAt_h : Hints := (.node none none .none (.node none none (.node none none .none (.node none none (.node none (some ⟨[.tmp 5 (.int .i64)], [some 0], some [.tmp 4 (.int .i64)], []⟩) .none .none) .none)) .none))
def spec_PieceAt_c : Ct := .pure true false (.pair T_State (.pair (.int .i64) .unit)) (.int .i64) (fun x => spec_PieceAt x.1 x.2.1)
theorem spec_PieceAt_ct : CtOk Try.prog 86 spec_PieceAt_c := pure_ct (E := { T := tab, G := [] }) (EnvOk.nil tabOk) mixed (fn := Try.f86) _ _ _ _ _ spec_PieceAt_h Try.func86 (by kernel_rfl) (fun x => by kernel_rfl)
/-! loop.example/g00486/spec.HurtOf -/
def spec_HurtOf (a0 : T_State.D) (a1 : Int) : Option Int :=
(spec_PieceAt a0 a1).bind fun y1 =>
 bif decide (y1 < 0) then (
 some 0)
 else (
 idx a0.1 y1 fun x2 =>
 some x2.2.2.2.2.2.2.2.2.2.2.1)
def spec_HurtOf_c : Ct := .pure true false (.pair T_State (.pair (.int .i64) .unit)) (.int .i64) (fun x => spec_HurtOf x.1 x.2.1)
theorem spec_HurtOf_ct : CtOk Try.prog 19 spec_HurtOf_c := pure_ct (E := { T := tab, G := [(86, spec_PieceAt_c)] }) (EnvOk.cons spec_PieceAt_ct (EnvOk.nil tabOk)) mixed (fn := Try.f19) _ _ _ _ _ .none Try.func19 (by kernel_rfl) (fun x => by kernel_rfl)
/-! loop.example/g00486/laws.FnDooms -/
def laws_FnDooms (a0 : (List Int)) : Option Bool :=
(laws_big a0).bind fun y1 =>
 bif y1 then (
 some true)
 else (
(spec_DrawDoomed a0).bind fun y2 =>
(spec_DrawOver a0).bind fun y3 =>
(spec_DrawHurtOf a0).bind fun y4 =>
(impl_Doomed y2).bind fun y5 =>
(impl_Over y3.1 y3.2.1).bind fun y6 =>
(((spec_Doomed y2).bind fun y7 =>
 bif (y5 != y7) then (
 some true)
 else (
(spec_Over y3.1 y3.2.1).bind fun y8 =>
 bif (y6 != y8) then (
 some true)
 else (
(impl_HurtOf y4.1 y4.2.1).bind fun y9 =>
(spec_HurtOf y4.1 y4.2.1).bind fun y10 =>
 bif (y9 != y10) then (
 some true)
 else (
 bif y5 then (
 some (y2.2.2.2.1 != 2))
 else (
 some false))))) : Option Bool).bind fun o11 =>
 bif o11 then (
 some false)
 else (
((bif (y2.2.2.2.1 == 2) then (
(impl_ToughOf y2).bind fun y12 =>
 bif decide (y12 ≤ 0) then (
 bif (!y5) then (
 some true)
 else (
(impl_HasTrait y2 8).bind fun y13 =>
 bif y13 then (
(impl_ToughOf y2).bind fun y14 =>
 bif decide (y14 > 0) then (
 some y5)
 else (
 some false))
 else (
 some false)))
 else (
(impl_HasTrait y2 8).bind fun y15 =>
 bif y15 then (
(impl_ToughOf y2).bind fun y16 =>
 bif decide (y16 > 0) then (
 some y5)
 else (
 some false))
 else (
 some false)))
 else (
(impl_HasTrait y2 8).bind fun y17 =>
 bif y17 then (
(impl_ToughOf y2).bind fun y18 =>
 bif decide (y18 > 0) then (
 some y5)
 else (
 some false))
 else (
 some false))) : Option Bool).bind fun o19 =>
 bif o19 then (
 some false)
 else (
 bif decide (y6 ≥ 0) then (
 bif decide (y3.2.1 < 0) then (
 bif y5 then (
 some true)
 else (
 bif (y2.2.2.2.1 != 2) then (
 some true)
 else (
(impl_HasTrait y2 8).bind fun y20 =>
 bif y20 then (
 some true)
 else (
(impl_ToughOf y2).bind fun y21 =>
 some (decide (y2.2.2.2.2.2.2.2.2.2.2.1 < y21))))))
 else (
 bif decide (y6 ≤ y3.2.1) then (
 bif y5 then (
 some true)
 else (
 bif (y2.2.2.2.1 != 2) then (
 some true)
 else (
(impl_HasTrait y2 8).bind fun y22 =>
 bif y22 then (
 some true)
 else (
(impl_ToughOf y2).bind fun y23 =>
 some (decide (y2.2.2.2.2.2.2.2.2.2.2.1 < y23))))))
 else (
 some false)))
 else (
 some false))))
def laws_FnDooms_h : Hints := (.node none none .none (.node none none .none (.node none none .none (.node none none .none (.node none none .none (.node none none .none (.node none none .none (.node none none (.node none none (.node (some ⟨[.tmp 56 .bool], [none], none, []⟩) none .none .none) .none) (.node none none (.node none none (.node (some ⟨[.tmp 80 .bool], [none], none, []⟩) none .none .none) .none) .none)))))))))
def laws_FnDooms_c : Ct := .pure true false (.pair (.slice (.int .u8)) .unit) .bool (fun x => laws_FnDooms x.1)
theorem laws_FnDooms_ct : CtOk Try.prog 3 laws_FnDooms_c := pure_ct (E := { T := tab, G := [(10, laws_big_c), (11, spec_DrawDoomed_c), (12, spec_DrawOver_c), (13, spec_DrawHurtOf_c), (14, impl_Doomed_c), (15, impl_Over_c), (16, spec_Doomed_c), (17, spec_Over_c), (18, impl_HurtOf_c), (19, spec_HurtOf_c), (20, impl_ToughOf_c), (21, impl_HasTrait_c)] }) (EnvOk.cons laws_big_ct (EnvOk.cons spec_DrawDoomed_ct (EnvOk.cons spec_DrawOver_ct (EnvOk.cons spec_DrawHurtOf_ct (EnvOk.cons impl_Doomed_ct (EnvOk.cons impl_Over_ct (EnvOk.cons spec_Doomed_ct (EnvOk.cons spec_Over_ct (EnvOk.cons impl_HurtOf_ct (EnvOk.cons spec_HurtOf_ct (EnvOk.cons impl_ToughOf_ct (EnvOk.cons impl_HasTrait_ct (EnvOk.nil tabOk))))))))))))) mixed (fn := Try.f3) _ _ _ _ _ laws_FnDooms_h Try.func3 (by kernel_rfl) (fun x => by kernel_rfl)
end
end Go.Abs
