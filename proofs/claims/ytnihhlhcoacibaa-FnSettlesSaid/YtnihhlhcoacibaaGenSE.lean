import Derived.Test.YtnihhlhcoacibaaProg
import Derived.Test.YtnihhlhcoacibaaAbsTab
import Derived.Lib.Walk
set_option linter.unusedVariables false
set_option linter.unusedSimpArgs false
namespace Go.Abs
open Go.Proofs
set_option maxRecDepth 100000
noncomputable section
@[reducible] def T_Piece : Ty := (.pair (.int .i64) (.pair (.int .i64) (.pair (.int .i64) (.pair (.int .i64) (.pair (.int .i64) (.pair (.int .i64) (.pair (.int .i64) (.pair (.int .i64) (.pair (.int .i64) (.pair (.int .i64) (.pair (.int .i64) (.pair .bool (.pair .bool .unit)))))))))))))
@[reducible] def T_Side : Ty := (.pair (.int .i64) (.pair (.int .i64) (.pair .bool .unit)))
@[reducible] def T_State : Ty := (.pair (.slice T_Piece) (.pair (.slice T_Side) (.pair (.int .i64) (.pair (.int .i64) .unit))))
@[reducible] def T_l1Cur : Ty := (.pair (.slice (.int .u8)) (.pair (.int .i64) (.pair (.int .i64) .unit)))
@[reducible] def T_Event : Ty := (.pair (.int .i64) (.pair (.int .i64) (.pair (.int .i64) (.pair (.int .i64) (.pair (.int .i64) (.pair (.int .i64) (.pair .bool .unit)))))))
@[reducible] def T_Note : Ty := (.pair (.int .i64) (.pair T_Event (.pair (.int .i64) (.pair (.int .i64) (.pair T_Piece .unit)))))
@[reducible] def T_S7 : Ty := (.pair (.int .i64) (.pair (.int .i64) (.pair .bool (.pair (.int .u8) .unit))))
@[reducible] def T_Trigger : Ty := (.pair (.int .i64) (.pair (.int .i64) (.pair (.int .i64) (.pair T_Piece .unit))))
@[reducible] def T_Pat : Ty := (.pair (.int .i64) (.pair (.int .i64) (.pair (.int .i64) (.pair (.int .i64) (.pair (.int .i64) (.pair (.int .i64) (.pair (.int .i64) .unit)))))))
@[reducible] def T_Guard : Ty := (.pair (.int .i64) (.pair (.int .i64) .unit))
@[reducible] def T_Act : Ty := (.pair (.int .i64) (.pair (.int .i64) (.pair (.int .i64) (.pair (.int .i64) (.pair (.int .i64) (.pair .bool (.pair (.slice T_Event) .unit)))))))
@[reducible] def T_Effect : Ty := (.pair (.int .i64) (.pair (.int .i64) (.pair (.int .i64) (.pair (.int .i64) (.pair T_Pat (.pair T_Guard (.pair T_Act (.pair (.int .i64) (.pair (.int .i64) .unit)))))))))
@[reducible] def T_Turn : Ty := (.pair (.int .i64) (.pair (.int .i64) (.pair (.int .i64) (.pair (.int .i64) (.pair T_Event (.pair (.slice T_Event) (.pair (.int .i64) (.pair (.int .i64) .unit))))))))
@[reducible] def T_S105 : Ty := (.pair (.slice T_Event) (.pair (.slice T_Effect) (.pair (.slice (.int .i64)) (.pair (.slice T_Turn) .unit))))
@[reducible] def T_S120 : Ty := (.pair T_State (.pair (.slice T_Effect) (.pair (.slice (.int .i64)) (.pair (.slice T_Trigger) (.pair (.slice T_Note) (.pair (.slice T_Turn) .unit))))))
def tab : Tab := [
  (1, ⟨.other, 1, 0, .unit, [.undef]⟩),
  (2, ⟨.int .i64, 1, 0, (.int .i64), [.int .i64 0]⟩),
  (3, ⟨.int .i64, 1, 0, (.int .i64), [.int .i64 0]⟩),
  (4, ⟨.bool, 1, 0, .bool, [.bool false]⟩),
  (5, ⟨.int .u8, 1, 0, (.int .u8), [.int .u8 0]⟩),
  (6, ⟨.int .u8, 1, 0, (.int .u8), [.int .u8 0]⟩),
  (7, ⟨.struct [(0, 2), (1, 3), (2, 4), (3, 6)], 4, 0, T_S7, [.int .i64 0, .int .i64 0, .bool false, .int .u8 0]⟩),
  (8, ⟨.struct [(0, 2), (1, 3), (2, 4), (3, 6)], 4, 0, T_S7, [.int .i64 0, .int .i64 0, .bool false, .int .u8 0]⟩),
  (12, ⟨.int .u64, 1, 0, (.int .u64), [.int .u64 0]⟩),
  (15, ⟨.other, 1, 0, .unit, [.undef]⟩),
  (16, ⟨.other, 1, 0, .unit, [.undef]⟩),
  (17, ⟨.other, 1, 0, .unit, [.undef]⟩),
  (21, ⟨.int .i32, 1, 0, (.int .i32), [.int .i32 0]⟩),
  (22, ⟨.slice 5, 1, 0, (.slice (.int .u8)), [.nil]⟩),
  (23, ⟨.other, 1, 0, .unit, [.undef]⟩),
  (24, ⟨.slice 37, 1, 0, (.slice T_Piece), [.nil]⟩),
  (25, ⟨.slice 101, 1, 0, (.slice T_Side), [.nil]⟩),
  (26, ⟨.struct [(0, 24), (1, 25), (2, 3), (3, 3)], 4, 0, T_State, [.nil, .nil, .int .i64 0, .int .i64 0]⟩),
  (27, ⟨.struct [(0, 24), (1, 25), (2, 3), (3, 3)], 4, 0, T_State, [.nil, .nil, .int .i64 0, .int .i64 0]⟩),
  (28, ⟨.slice 88, 1, 0, (.slice T_Note), [.nil]⟩),
  (30, ⟨.other, 1, 0, .unit, [.undef]⟩),
  (31, ⟨.slice 39, 1, 0, (.slice T_Trigger), [.nil]⟩),
  (32, ⟨.other, 1, 0, .unit, [.undef]⟩),
  (33, ⟨.other, 1, 0, .unit, [.undef]⟩),
  (34, ⟨.other, 1, 0, .unit, [.undef]⟩),
  (35, ⟨.other, 1, 0, .unit, [.undef]⟩),
  (36, ⟨.struct [(0, 3), (1, 3), (2, 3), (3, 3), (4, 3), (5, 3), (6, 3), (7, 3), (8, 3), (9, 3), (10, 3), (11, 4), (12, 4)], 13, 0, T_Piece, [.int .i64 0, .int .i64 0, .int .i64 0, .int .i64 0, .int .i64 0, .int .i64 0, .int .i64 0, .int .i64 0, .int .i64 0, .int .i64 0, .int .i64 0, .bool false, .bool false]⟩),
  (37, ⟨.struct [(0, 3), (1, 3), (2, 3), (3, 3), (4, 3), (5, 3), (6, 3), (7, 3), (8, 3), (9, 3), (10, 3), (11, 4), (12, 4)], 13, 0, T_Piece, [.int .i64 0, .int .i64 0, .int .i64 0, .int .i64 0, .int .i64 0, .int .i64 0, .int .i64 0, .int .i64 0, .int .i64 0, .int .i64 0, .int .i64 0, .bool false, .bool false]⟩),
  (38, ⟨.struct [(0, 3), (1, 3), (2, 3), (3, 37)], 16, 0, T_Trigger, [.int .i64 0, .int .i64 0, .int .i64 0, .int .i64 0, .int .i64 0, .int .i64 0, .int .i64 0, .int .i64 0, .int .i64 0, .int .i64 0, .int .i64 0, .int .i64 0, .int .i64 0, .int .i64 0, .bool false, .bool false]⟩),
  (39, ⟨.struct [(0, 3), (1, 3), (2, 3), (3, 37)], 16, 0, T_Trigger, [.int .i64 0, .int .i64 0, .int .i64 0, .int .i64 0, .int .i64 0, .int .i64 0, .int .i64 0, .int .i64 0, .int .i64 0, .int .i64 0, .int .i64 0, .int .i64 0, .int .i64 0, .int .i64 0, .bool false, .bool false]⟩),
  (40, ⟨.slice 3, 1, 0, (.slice (.int .i64)), [.nil]⟩),
  (42, ⟨.other, 1, 0, .unit, [.undef]⟩),
  (44, ⟨.other, 1, 0, .unit, [.undef]⟩),
  (45, ⟨.other, 1, 0, .unit, [.undef]⟩),
  (47, ⟨.other, 1, 0, .unit, [.undef]⟩),
  (49, ⟨.other, 1, 0, .unit, [.undef]⟩),
  (50, ⟨.other, 1, 0, .unit, [.undef]⟩),
  (51, ⟨.other, 1, 0, .unit, [.undef]⟩),
  (52, ⟨.slice 170, 1, 0, (.slice T_Piece), [.nil]⟩),
  (53, ⟨.slice 241, 1, 0, (.slice T_Side), [.nil]⟩),
  (54, ⟨.struct [(0, 52), (1, 53), (2, 3), (3, 3)], 4, 0, T_State, [.nil, .nil, .int .i64 0, .int .i64 0]⟩),
  (55, ⟨.struct [(0, 52), (1, 53), (2, 3), (3, 3)], 4, 0, T_State, [.nil, .nil, .int .i64 0, .int .i64 0]⟩),
  (56, ⟨.slice 172, 1, 0, (.slice T_Trigger), [.nil]⟩),
  (57, ⟨.other, 1, 0, .unit, [.undef]⟩),
  (58, ⟨.other, 1, 0, .unit, [.undef]⟩),
  (59, ⟨.other, 1, 0, .unit, [.undef]⟩),
  (60, ⟨.other, 1, 0, .unit, [.undef]⟩),
  (61, ⟨.other, 1, 0, .unit, [.undef]⟩),
  (62, ⟨.other, 1, 0, .unit, [.undef]⟩),
  (63, ⟨.other, 1, 0, .unit, [.undef]⟩),
  (64, ⟨.other, 1, 0, .unit, [.undef]⟩),
  (65, ⟨.other, 1, 0, .unit, [.undef]⟩),
  (66, ⟨.other, 1, 0, .unit, [.undef]⟩),
  (67, ⟨.slice 183, 1, 0, (.slice T_Event), [.nil]⟩),
  (68, ⟨.other, 1, 0, .unit, [.undef]⟩),
  (69, ⟨.other, 1, 0, .unit, [.undef]⟩),
  (70, ⟨.slice 86, 1, 0, (.slice T_Event), [.nil]⟩),
  (71, ⟨.other, 1, 0, .unit, [.undef]⟩),
  (72, ⟨.other, 1, 0, .unit, [.undef]⟩),
  (73, ⟨.other, 1, 0, .unit, [.undef]⟩),
  (74, ⟨.other, 1, 0, .unit, [.undef]⟩),
  (75, ⟨.other, 1, 0, .unit, [.undef]⟩),
  (76, ⟨.other, 1, 0, .unit, [.undef]⟩),
  (78, ⟨.other, 1, 0, .unit, [.undef]⟩),
  (80, ⟨.other, 1, 0, .unit, [.undef]⟩),
  (82, ⟨.other, 1, 0, .unit, [.undef]⟩),
  (83, ⟨.other, 1, 0, .unit, [.undef]⟩),
  (84, ⟨.other, 1, 0, .unit, [.undef]⟩),
  (85, ⟨.struct [(0, 3), (1, 3), (2, 3), (3, 3), (4, 3), (5, 3), (6, 4)], 7, 0, T_Event, [.int .i64 0, .int .i64 0, .int .i64 0, .int .i64 0, .int .i64 0, .int .i64 0, .bool false]⟩),
  (86, ⟨.struct [(0, 3), (1, 3), (2, 3), (3, 3), (4, 3), (5, 3), (6, 4)], 7, 0, T_Event, [.int .i64 0, .int .i64 0, .int .i64 0, .int .i64 0, .int .i64 0, .int .i64 0, .bool false]⟩),
  (87, ⟨.struct [(0, 3), (1, 86), (8, 3), (9, 3), (10, 37)], 23, 0, T_Note, [.int .i64 0, .int .i64 0, .int .i64 0, .int .i64 0, .int .i64 0, .int .i64 0, .int .i64 0, .bool false, .int .i64 0, .int .i64 0, .int .i64 0, .int .i64 0, .int .i64 0, .int .i64 0, .int .i64 0, .int .i64 0, .int .i64 0, .int .i64 0, .int .i64 0, .int .i64 0, .int .i64 0, .bool false, .bool false]⟩),
  (88, ⟨.struct [(0, 3), (1, 86), (8, 3), (9, 3), (10, 37)], 23, 0, T_Note, [.int .i64 0, .int .i64 0, .int .i64 0, .int .i64 0, .int .i64 0, .int .i64 0, .int .i64 0, .bool false, .int .i64 0, .int .i64 0, .int .i64 0, .int .i64 0, .int .i64 0, .int .i64 0, .int .i64 0, .int .i64 0, .int .i64 0, .int .i64 0, .int .i64 0, .int .i64 0, .int .i64 0, .bool false, .bool false]⟩),
  (89, ⟨.other, 1, 0, .unit, [.undef]⟩),
  (90, ⟨.other, 1, 0, .unit, [.undef]⟩),
  (91, ⟨.other, 1, 0, .unit, [.undef]⟩),
  (92, ⟨.other, 1, 0, .unit, [.undef]⟩),
  (93, ⟨.other, 1, 0, .unit, [.undef]⟩),
  (94, ⟨.other, 1, 0, .unit, [.undef]⟩),
  (95, ⟨.other, 1, 0, .unit, [.undef]⟩),
  (97, ⟨.other, 1, 0, .unit, [.undef]⟩),
  (98, ⟨.other, 1, 0, .unit, [.undef]⟩),
  (99, ⟨.other, 1, 0, .unit, [.undef]⟩),
  (100, ⟨.struct [(0, 3), (1, 3), (2, 4)], 3, 0, T_Side, [.int .i64 0, .int .i64 0, .bool false]⟩),
  (101, ⟨.struct [(0, 3), (1, 3), (2, 4)], 3, 0, T_Side, [.int .i64 0, .int .i64 0, .bool false]⟩),
  (102, ⟨.other, 1, 0, .unit, [.undef]⟩),
  (103, ⟨.slice 217, 1, 0, (.slice T_Effect), [.nil]⟩),
  (104, ⟨.slice 256, 1, 0, (.slice T_Turn), [.nil]⟩),
  (105, ⟨.struct [(0, 67), (1, 103), (2, 40), (3, 104)], 4, 0, T_S105, [.nil, .nil, .nil, .nil]⟩),
  (106, ⟨.struct [(0, 67), (1, 103), (2, 40), (3, 104)], 4, 0, T_S105, [.nil, .nil, .nil, .nil]⟩),
  (107, ⟨.other, 1, 0, .unit, [.undef]⟩),
  (108, ⟨.other, 1, 0, .unit, [.undef]⟩),
  (109, ⟨.slice 136, 1, 0, (.slice T_Effect), [.nil]⟩),
  (110, ⟨.slice 210, 1, 0, (.slice T_Turn), [.nil]⟩),
  (111, ⟨.struct [(0, 70), (1, 109), (2, 40), (3, 110)], 4, 0, T_S105, [.nil, .nil, .nil, .nil]⟩),
  (112, ⟨.struct [(0, 70), (1, 109), (2, 40), (3, 110)], 4, 0, T_S105, [.nil, .nil, .nil, .nil]⟩),
  (113, ⟨.other, 1, 0, .unit, [.undef]⟩),
  (114, ⟨.other, 1, 0, .unit, [.undef]⟩),
  (115, ⟨.other, 1, 0, .unit, [.undef]⟩),
  (116, ⟨.other, 1, 0, .unit, [.undef]⟩),
  (117, ⟨.other, 1, 0, .unit, [.undef]⟩),
  (118, ⟨.other, 1, 0, .unit, [.undef]⟩),
  (119, ⟨.other, 1, 0, .unit, [.undef]⟩),
  (120, ⟨.struct [(0, 27), (4, 109), (5, 40), (6, 31), (7, 28), (8, 110)], 9, 0, T_S120, [.nil, .nil, .int .i64 0, .int .i64 0, .nil, .nil, .nil, .nil, .nil]⟩),
  (121, ⟨.struct [(0, 27), (4, 109), (5, 40), (6, 31), (7, 28), (8, 110)], 9, 0, T_S120, [.nil, .nil, .int .i64 0, .int .i64 0, .nil, .nil, .nil, .nil, .nil]⟩),
  (122, ⟨.other, 1, 0, .unit, [.undef]⟩),
  (123, ⟨.other, 1, 0, .unit, [.undef]⟩),
  (124, ⟨.other, 1, 0, .unit, [.undef]⟩),
  (125, ⟨.other, 1, 0, .unit, [.undef]⟩),
  (126, ⟨.other, 1, 0, .unit, [.undef]⟩),
  (127, ⟨.other, 1, 0, .unit, [.undef]⟩),
  (128, ⟨.other, 1, 0, .unit, [.undef]⟩),
  (129, ⟨.struct [(0, 3), (1, 3), (2, 3), (3, 3), (4, 3), (5, 3), (6, 3)], 7, 0, T_Pat, [.int .i64 0, .int .i64 0, .int .i64 0, .int .i64 0, .int .i64 0, .int .i64 0, .int .i64 0]⟩),
  (130, ⟨.struct [(0, 3), (1, 3), (2, 3), (3, 3), (4, 3), (5, 3), (6, 3)], 7, 0, T_Pat, [.int .i64 0, .int .i64 0, .int .i64 0, .int .i64 0, .int .i64 0, .int .i64 0, .int .i64 0]⟩),
  (131, ⟨.struct [(0, 3), (1, 3)], 2, 0, T_Guard, [.int .i64 0, .int .i64 0]⟩),
  (132, ⟨.struct [(0, 3), (1, 3)], 2, 0, T_Guard, [.int .i64 0, .int .i64 0]⟩),
  (133, ⟨.struct [(0, 3), (1, 3), (2, 3), (3, 3), (4, 3), (5, 4), (6, 70)], 7, 0, T_Act, [.int .i64 0, .int .i64 0, .int .i64 0, .int .i64 0, .int .i64 0, .bool false, .nil]⟩),
  (134, ⟨.struct [(0, 3), (1, 3), (2, 3), (3, 3), (4, 3), (5, 4), (6, 70)], 7, 0, T_Act, [.int .i64 0, .int .i64 0, .int .i64 0, .int .i64 0, .int .i64 0, .bool false, .nil]⟩),
  (135, ⟨.struct [(0, 3), (1, 3), (2, 3), (3, 3), (4, 130), (11, 132), (13, 134), (20, 3), (21, 3)], 22, 0, T_Effect, [.int .i64 0, .int .i64 0, .int .i64 0, .int .i64 0, .int .i64 0, .int .i64 0, .int .i64 0, .int .i64 0, .int .i64 0, .int .i64 0, .int .i64 0, .int .i64 0, .int .i64 0, .int .i64 0, .int .i64 0, .int .i64 0, .int .i64 0, .int .i64 0, .bool false, .nil, .int .i64 0, .int .i64 0]⟩),
  (136, ⟨.struct [(0, 3), (1, 3), (2, 3), (3, 3), (4, 130), (11, 132), (13, 134), (20, 3), (21, 3)], 22, 0, T_Effect, [.int .i64 0, .int .i64 0, .int .i64 0, .int .i64 0, .int .i64 0, .int .i64 0, .int .i64 0, .int .i64 0, .int .i64 0, .int .i64 0, .int .i64 0, .int .i64 0, .int .i64 0, .int .i64 0, .int .i64 0, .int .i64 0, .int .i64 0, .int .i64 0, .bool false, .nil, .int .i64 0, .int .i64 0]⟩),
  (138, ⟨.other, 1, 0, .unit, [.undef]⟩),
  (140, ⟨.other, 1, 0, .unit, [.undef]⟩),
  (141, ⟨.other, 1, 0, .unit, [.undef]⟩),
  (142, ⟨.other, 1, 0, .unit, [.undef]⟩),
  (143, ⟨.other, 1, 0, .unit, [.undef]⟩),
  (144, ⟨.other, 1, 0, .unit, [.undef]⟩),
  (145, ⟨.other, 1, 0, .unit, [.undef]⟩),
  (146, ⟨.other, 1, 0, .unit, [.undef]⟩),
  (147, ⟨.other, 1, 0, .unit, [.undef]⟩),
  (148, ⟨.other, 1, 0, .unit, [.undef]⟩),
  (149, ⟨.other, 1, 0, .unit, [.undef]⟩),
  (150, ⟨.other, 1, 0, .unit, [.undef]⟩),
  (151, ⟨.other, 1, 0, .unit, [.undef]⟩),
  (152, ⟨.other, 1, 0, .unit, [.undef]⟩),
  (154, ⟨.other, 1, 0, .unit, [.undef]⟩),
  (155, ⟨.other, 1, 0, .unit, [.undef]⟩),
  (156, ⟨.other, 1, 0, .unit, [.undef]⟩),
  (157, ⟨.other, 1, 0, .unit, [.undef]⟩),
  (158, ⟨.other, 1, 0, .unit, [.undef]⟩),
  (160, ⟨.other, 1, 0, .unit, [.undef]⟩),
  (161, ⟨.other, 1, 0, .unit, [.undef]⟩),
  (162, ⟨.other, 1, 0, .unit, [.undef]⟩),
  (163, ⟨.other, 1, 0, .unit, [.undef]⟩),
  (164, ⟨.other, 1, 0, .unit, [.undef]⟩),
  (165, ⟨.other, 1, 0, .unit, [.undef]⟩),
  (166, ⟨.other, 1, 0, .unit, [.undef]⟩),
  (167, ⟨.other, 1, 0, .unit, [.undef]⟩),
  (168, ⟨.other, 1, 0, .unit, [.undef]⟩),
  (169, ⟨.other, 1, 0, .unit, [.undef]⟩),
  (170, ⟨.struct [(0, 3), (1, 3), (2, 3), (3, 3), (4, 3), (5, 3), (6, 3), (7, 3), (8, 3), (9, 3), (10, 3), (11, 4), (12, 4)], 13, 0, T_Piece, [.int .i64 0, .int .i64 0, .int .i64 0, .int .i64 0, .int .i64 0, .int .i64 0, .int .i64 0, .int .i64 0, .int .i64 0, .int .i64 0, .int .i64 0, .bool false, .bool false]⟩),
  (171, ⟨.struct [(0, 3), (1, 3), (2, 3), (3, 170)], 16, 0, T_Trigger, [.int .i64 0, .int .i64 0, .int .i64 0, .int .i64 0, .int .i64 0, .int .i64 0, .int .i64 0, .int .i64 0, .int .i64 0, .int .i64 0, .int .i64 0, .int .i64 0, .int .i64 0, .int .i64 0, .bool false, .bool false]⟩),
  (172, ⟨.struct [(0, 3), (1, 3), (2, 3), (3, 170)], 16, 0, T_Trigger, [.int .i64 0, .int .i64 0, .int .i64 0, .int .i64 0, .int .i64 0, .int .i64 0, .int .i64 0, .int .i64 0, .int .i64 0, .int .i64 0, .int .i64 0, .int .i64 0, .int .i64 0, .int .i64 0, .bool false, .bool false]⟩),
  (173, ⟨.other, 1, 0, .unit, [.undef]⟩),
  (174, ⟨.other, 1, 0, .unit, [.undef]⟩),
  (175, ⟨.other, 1, 0, .unit, [.undef]⟩),
  (176, ⟨.other, 1, 0, .unit, [.undef]⟩),
  (177, ⟨.other, 1, 0, .unit, [.undef]⟩),
  (179, ⟨.other, 1, 0, .unit, [.undef]⟩),
  (181, ⟨.other, 1, 0, .unit, [.undef]⟩),
  (182, ⟨.other, 1, 0, .unit, [.undef]⟩),
  (183, ⟨.struct [(0, 3), (1, 3), (2, 3), (3, 3), (4, 3), (5, 3), (6, 4)], 7, 0, T_Event, [.int .i64 0, .int .i64 0, .int .i64 0, .int .i64 0, .int .i64 0, .int .i64 0, .bool false]⟩),
  (184, ⟨.other, 1, 0, .unit, [.undef]⟩),
  (185, ⟨.other, 1, 0, .unit, [.undef]⟩),
  (186, ⟨.other, 1, 0, .unit, [.undef]⟩),
  (187, ⟨.other, 1, 0, .unit, [.undef]⟩),
  (188, ⟨.other, 1, 0, .unit, [.undef]⟩),
  (189, ⟨.other, 1, 0, .unit, [.undef]⟩),
  (190, ⟨.other, 1, 0, .unit, [.undef]⟩),
  (191, ⟨.other, 1, 0, .unit, [.undef]⟩),
  (192, ⟨.other, 1, 0, .unit, [.undef]⟩),
  (193, ⟨.other, 1, 0, .unit, [.undef]⟩),
  (194, ⟨.other, 1, 0, .unit, [.undef]⟩),
  (195, ⟨.other, 1, 0, .unit, [.undef]⟩),
  (196, ⟨.other, 1, 0, .unit, [.undef]⟩),
  (197, ⟨.other, 1, 0, .unit, [.undef]⟩),
  (198, ⟨.other, 1, 0, .unit, [.undef]⟩),
  (199, ⟨.other, 1, 0, .unit, [.undef]⟩),
  (200, ⟨.other, 1, 0, .unit, [.undef]⟩),
  (201, ⟨.other, 1, 0, .unit, [.undef]⟩),
  (202, ⟨.other, 1, 0, .unit, [.undef]⟩),
  (203, ⟨.other, 1, 0, .unit, [.undef]⟩),
  (204, ⟨.other, 1, 0, .unit, [.undef]⟩),
  (205, ⟨.other, 1, 0, .unit, [.undef]⟩),
  (206, ⟨.other, 1, 0, .unit, [.undef]⟩),
  (207, ⟨.other, 1, 0, .unit, [.undef]⟩),
  (208, ⟨.other, 1, 0, .unit, [.undef]⟩),
  (209, ⟨.struct [(0, 3), (1, 3), (2, 3), (3, 3), (4, 86), (11, 70), (12, 3), (13, 3)], 14, 0, T_Turn, [.int .i64 0, .int .i64 0, .int .i64 0, .int .i64 0, .int .i64 0, .int .i64 0, .int .i64 0, .int .i64 0, .int .i64 0, .int .i64 0, .bool false, .nil, .int .i64 0, .int .i64 0]⟩),
  (210, ⟨.struct [(0, 3), (1, 3), (2, 3), (3, 3), (4, 86), (11, 70), (12, 3), (13, 3)], 14, 0, T_Turn, [.int .i64 0, .int .i64 0, .int .i64 0, .int .i64 0, .int .i64 0, .int .i64 0, .int .i64 0, .int .i64 0, .int .i64 0, .int .i64 0, .bool false, .nil, .int .i64 0, .int .i64 0]⟩),
  (211, ⟨.other, 1, 0, .unit, [.undef]⟩),
  (212, ⟨.struct [(0, 3), (1, 3), (2, 3), (3, 3), (4, 3), (5, 3), (6, 3)], 7, 0, T_Pat, [.int .i64 0, .int .i64 0, .int .i64 0, .int .i64 0, .int .i64 0, .int .i64 0, .int .i64 0]⟩),
  (213, ⟨.struct [(0, 3), (1, 3)], 2, 0, T_Guard, [.int .i64 0, .int .i64 0]⟩),
  (214, ⟨.struct [(0, 3), (1, 3), (2, 3), (3, 3), (4, 3), (5, 4), (6, 67)], 7, 0, T_Act, [.int .i64 0, .int .i64 0, .int .i64 0, .int .i64 0, .int .i64 0, .bool false, .nil]⟩),
  (215, ⟨.struct [(0, 3), (1, 3), (2, 3), (3, 3), (4, 3), (5, 4), (6, 67)], 7, 0, T_Act, [.int .i64 0, .int .i64 0, .int .i64 0, .int .i64 0, .int .i64 0, .bool false, .nil]⟩),
  (216, ⟨.struct [(0, 3), (1, 3), (2, 3), (3, 3), (4, 212), (11, 213), (13, 215), (20, 3), (21, 3)], 22, 0, T_Effect, [.int .i64 0, .int .i64 0, .int .i64 0, .int .i64 0, .int .i64 0, .int .i64 0, .int .i64 0, .int .i64 0, .int .i64 0, .int .i64 0, .int .i64 0, .int .i64 0, .int .i64 0, .int .i64 0, .int .i64 0, .int .i64 0, .int .i64 0, .int .i64 0, .bool false, .nil, .int .i64 0, .int .i64 0]⟩),
  (217, ⟨.struct [(0, 3), (1, 3), (2, 3), (3, 3), (4, 212), (11, 213), (13, 215), (20, 3), (21, 3)], 22, 0, T_Effect, [.int .i64 0, .int .i64 0, .int .i64 0, .int .i64 0, .int .i64 0, .int .i64 0, .int .i64 0, .int .i64 0, .int .i64 0, .int .i64 0, .int .i64 0, .int .i64 0, .int .i64 0, .int .i64 0, .int .i64 0, .int .i64 0, .int .i64 0, .int .i64 0, .bool false, .nil, .int .i64 0, .int .i64 0]⟩),
  (218, ⟨.other, 1, 0, .unit, [.undef]⟩),
  (219, ⟨.other, 1, 0, .unit, [.undef]⟩),
  (220, ⟨.other, 1, 0, .unit, [.undef]⟩),
  (222, ⟨.other, 1, 0, .unit, [.undef]⟩),
  (223, ⟨.other, 1, 0, .unit, [.undef]⟩),
  (224, ⟨.other, 1, 0, .unit, [.undef]⟩),
  (225, ⟨.other, 1, 0, .unit, [.undef]⟩),
  (226, ⟨.other, 1, 0, .unit, [.undef]⟩),
  (227, ⟨.other, 1, 0, .unit, [.undef]⟩),
  (228, ⟨.other, 1, 0, .unit, [.undef]⟩),
  (229, ⟨.other, 1, 0, .unit, [.undef]⟩),
  (230, ⟨.other, 1, 0, .unit, [.undef]⟩),
  (231, ⟨.struct [(0, 22), (1, 3), (2, 3)], 3, 0, T_l1Cur, [.nil, .int .i64 0, .int .i64 0]⟩),
  (232, ⟨.struct [(0, 22), (1, 3), (2, 3)], 3, 0, T_l1Cur, [.nil, .int .i64 0, .int .i64 0]⟩),
  (233, ⟨.other, 1, 0, .unit, [.undef]⟩),
  (234, ⟨.other, 1, 0, .unit, [.undef]⟩),
  (235, ⟨.other, 1, 0, .unit, [.undef]⟩),
  (236, ⟨.other, 1, 0, .unit, [.undef]⟩),
  (237, ⟨.other, 1, 0, .unit, [.undef]⟩),
  (238, ⟨.other, 1, 0, .unit, [.undef]⟩),
  (239, ⟨.other, 1, 0, .unit, [.undef]⟩),
  (240, ⟨.other, 1, 0, .unit, [.undef]⟩),
  (241, ⟨.struct [(0, 3), (1, 3), (2, 4)], 3, 0, T_Side, [.int .i64 0, .int .i64 0, .bool false]⟩),
  (242, ⟨.other, 1, 0, .unit, [.undef]⟩),
  (243, ⟨.other, 1, 0, .unit, [.undef]⟩),
  (245, ⟨.other, 1, 0, .unit, [.undef]⟩),
  (246, ⟨.other, 1, 0, .unit, [.undef]⟩),
  (247, ⟨.other, 1, 0, .unit, [.undef]⟩),
  (248, ⟨.other, 1, 0, .unit, [.undef]⟩),
  (249, ⟨.other, 1, 0, .unit, [.undef]⟩),
  (250, ⟨.other, 1, 0, .unit, [.undef]⟩),
  (251, ⟨.other, 1, 0, .unit, [.undef]⟩),
  (252, ⟨.other, 1, 0, .unit, [.undef]⟩),
  (253, ⟨.other, 1, 0, .unit, [.undef]⟩),
  (254, ⟨.other, 1, 0, .unit, [.undef]⟩),
  (255, ⟨.struct [(0, 3), (1, 3), (2, 3), (3, 3), (4, 183), (11, 67), (12, 3), (13, 3)], 14, 0, T_Turn, [.int .i64 0, .int .i64 0, .int .i64 0, .int .i64 0, .int .i64 0, .int .i64 0, .int .i64 0, .int .i64 0, .int .i64 0, .int .i64 0, .bool false, .nil, .int .i64 0, .int .i64 0]⟩),
  (256, ⟨.struct [(0, 3), (1, 3), (2, 3), (3, 3), (4, 183), (11, 67), (12, 3), (13, 3)], 14, 0, T_Turn, [.int .i64 0, .int .i64 0, .int .i64 0, .int .i64 0, .int .i64 0, .int .i64 0, .int .i64 0, .int .i64 0, .int .i64 0, .int .i64 0, .bool false, .nil, .int .i64 0, .int .i64 0]⟩),
  (257, ⟨.other, 1, 0, .unit, [.undef]⟩),
  (258, ⟨.other, 1, 0, .unit, [.undef]⟩),
  (259, ⟨.slice 70, 1, 0, (.slice (.slice T_Event)), [.nil]⟩),
  (260, ⟨.other, 1, 0, .unit, [.undef]⟩),
  (261, ⟨.slice 110, 1, 0, (.slice (.slice T_Turn)), [.nil]⟩),
  (262, ⟨.other, 1, 0, .unit, [.undef]⟩),
  (263, ⟨.other, 1, 0, .unit, [.undef]⟩),
  (264, ⟨.other, 1, 0, .unit, [.undef]⟩),
  (265, ⟨.other, 1, 0, .unit, [.undef]⟩),
  (266, ⟨.other, 1, 0, .unit, [.undef]⟩),
  (267, ⟨.other, 1, 0, .unit, [.undef]⟩),
  (268, ⟨.other, 1, 0, .unit, [.undef]⟩),
  (269, ⟨.other, 1, 0, .unit, [.undef]⟩),
  (270, ⟨.other, 1, 0, .unit, [.undef]⟩),
  (271, ⟨.other, 1, 0, .unit, [.undef]⟩),
  (272, ⟨.other, 1, 0, .unit, [.undef]⟩),
  (273, ⟨.other, 1, 0, .unit, [.undef]⟩),
  (274, ⟨.other, 1, 0, .unit, [.undef]⟩),
  (275, ⟨.other, 1, 0, .unit, [.undef]⟩),
  (276, ⟨.int .u64, 1, 0, (.int .u64), [.int .u64 0]⟩),
  (277, ⟨.other, 1, 0, .unit, [.undef]⟩),
  (278, ⟨.other, 1, 0, .unit, [.undef]⟩),
  (279, ⟨.other, 1, 0, .unit, [.undef]⟩),
  (280, ⟨.other, 1, 0, .unit, [.undef]⟩),
  (281, ⟨.other, 1, 0, .unit, [.undef]⟩),
  (282, ⟨.other, 1, 0, .unit, [.undef]⟩),
  (283, ⟨.other, 1, 0, .unit, [.undef]⟩),
  (284, ⟨.int .i64, 1, 0, (.int .i64), [.int .i64 0]⟩),
  (286, ⟨.other, 1, 0, .unit, [.undef]⟩),
  (287, ⟨.other, 1, 0, .unit, [.undef]⟩),
  (288, ⟨.other, 1, 0, .unit, [.undef]⟩),
  (289, ⟨.other, 1, 0, .unit, [.undef]⟩),
  (291, ⟨.other, 1, 0, .unit, [.undef]⟩),
  (292, ⟨.other, 1, 0, .unit, [.undef]⟩),
  (293, ⟨.int .u32, 1, 0, (.int .u32), [.int .u32 0]⟩),
  (294, ⟨.other, 1, 0, .unit, [.undef]⟩),
  (295, ⟨.int .u64, 1, 0, (.int .u64), [.int .u64 0]⟩),
  (296, ⟨.int .u64, 1, 0, (.int .u64), [.int .u64 0]⟩),
  (297, ⟨.other, 1, 0, .unit, [.undef]⟩),
  (298, ⟨.other, 1, 0, .unit, [.undef]⟩),
  (299, ⟨.other, 1, 0, .unit, [.undef]⟩),
  (300, ⟨.other, 1, 0, .unit, [.undef]⟩),
  (301, ⟨.other, 1, 0, .unit, [.undef]⟩),
  (302, ⟨.other, 1, 0, .unit, [.undef]⟩),
  (304, ⟨.other, 1, 0, .unit, [.undef]⟩),
  (305, ⟨.other, 1, 0, .unit, [.undef]⟩),
  (311, ⟨.other, 1, 0, .unit, [.undef]⟩),
  (312, ⟨.int .u8, 1, 0, (.int .u8), [.int .u8 0]⟩),
  (313, ⟨.int .u8, 1, 0, (.int .u8), [.int .u8 0]⟩),
  (314, ⟨.other, 1, 0, .unit, [.undef]⟩),
  (315, ⟨.other, 1, 0, .unit, [.undef]⟩),
  (316, ⟨.int .i32, 1, 0, (.int .i32), [.int .i32 0]⟩),
  (317, ⟨.int .i32, 1, 0, (.int .i32), [.int .i32 0]⟩)]
theorem tabOk : TabOk Try.prog tab := tabB_ok (by kernel_rfl)
theorem mixed : Try.prog.follows .mixedOrders = true := by kernel_rfl
/-! loop.example/g00486/laws.big -/
def laws_big (a0 : (List Int)) : Option Bool :=
 some (decide ((a0.length : Int) > 1048576))
def laws_big_c : Ct := .pure true false (.pair (.slice (.int .u8)) .unit) .bool (fun x => laws_big x.1)
theorem laws_big_ct : CtOk Try.prog 14 laws_big_c := pure_ct (E := { T := tab, G := [] }) (EnvOk.nil tabOk) mixed (fn := Try.f14) _ _ _ _ _ .none Try.func14 (by kernel_rfl) (fun x => by kernel_rfl)
/-! loop.example/g00486/spec.l1New -/
def spec_l1New_l1 (a0 : (List Int)) : (Int × Int) → Option ((Int × Int) ⊕ (Int × Int)) := fun s1 =>
((bif decide (s1.2 < (a0.length : Int)) then (
 some (decide (s1.2 < 4000)))
 else (
 some false)) : Option Bool).bind fun o2 =>
 bif o2 then (
 idx a0 s1.2 fun x3 =>
 let k4 : Int := IntKind.wrap .i64 ((IntKind.wrap .i64 (s1.1 * 137)) + (IntKind.wrap .i64 x3))
 let k5 : Int := IntKind.wrap .i64 (BitVec.ofInt (IntKind.bits .i64) (IntKind.wrap .i64 (k4 + 11)) &&& BitVec.ofInt (IntKind.bits .i64) 1073741823).toNat
 some (.inl (k5, IntKind.wrap .i64 (s1.2 + 1))))
 else (
 some (.inr s1))
def spec_l1New (a0 : (List Int)) : Option T_l1Cur.D :=
(while_ (spec_l1New_l1 a0) (IntKind.wrap .i64 (139871 + (a0.length : Int)), 0)).bind fun o6 =>
 some (a0, 0, o6.1, ())
def spec_l1New_h : Hints := (.node none none .none (.node none none .none (.node none none (.node none none .none (.node none none (.node none (some ⟨[.tmp 3 (.int .i64), .tmp 4 (.int .i64)], [some 0], none, []⟩) (.node none none (.node none none (.node (some ⟨[.tmp 15 .bool], [none], none, []⟩) none .none .none) .none) .none) .none) .none)) .none)))
def spec_l1New_c : Ct := .box (.pair (.slice (.int .u8)) .unit) T_l1Cur (fun x => spec_l1New x.1)
theorem spec_l1New_ct : CtOk Try.prog 115 spec_l1New_c := box_ct (E := { T := tab, G := [] }) (EnvOk.nil tabOk) mixed (fn := Try.f115) _ _ _ spec_l1New_h Try.func115 (by kernel_rfl) (fun x => by kernel_rfl)
/-! loop.example/g00486/spec.StateNew -/
def spec_StateNew (a0 : Int) : Option T_State.D :=
 bif (a0 == 3) then (
 if (([(20, 0, false, ()), (20, 0, false, ())] : List T_Side.D).length + ([(20, 0, false, ())] : List T_Side.D).length) * (24 * 3) ≤ room then (
 some ([], (([(20, 0, false, ()), (20, 0, false, ())] : List T_Side.D) ++ ([(20, 0, false, ())] : List T_Side.D)), 0, 0, ())) else none)
 else (
 some ([], ([(20, 0, false, ()), (20, 0, false, ())] : List T_Side.D), 0, 0, ()))
def spec_StateNew_c : Ct := .pure true false (.pair (.int .i64) .unit) T_State (fun x => spec_StateNew x.1)
theorem spec_StateNew_ct : CtOk Try.prog 233 spec_StateNew_c := pure_ct (E := { T := tab, G := [] }) (EnvOk.nil tabOk) mixed (fn := Try.f233) _ _ _ _ _ .none Try.func233 (by kernel_rfl) (fun x => by kernel_rfl)
def spec_StateNew_fresh_c : Ct := .pure true true (.pair (.int .i64) .unit) T_State (fun x => spec_StateNew x.1)
theorem spec_StateNew_fresh_ct : CtOk Try.prog 233 spec_StateNew_fresh_c := pure_ct (E := { T := tab, G := [] }) (EnvOk.nil tabOk) mixed (fn := Try.f233) _ _ _ _ _ .none Try.func233 (by kernel_rfl) (fun x => by kernel_rfl)
/-! loop.example/g00486/spec.l1Byte -/
def spec_l1Byte (a0 : T_l1Cur.D) : Option (Int × (T_l1Cur.D × Unit)) :=
 let k1 : Int := IntKind.wrap .i64 ((IntKind.wrap .i64 (a0.2.2.1 * 6364136223846793005)) + 1442695040888963407)
 if 0 ≤ 33 then (
 if 0 ≤ 47 then (
 let k2 : Int := IntKind.wrap .i64 (BitVec.ofInt (IntKind.bits .i64) (k1.fdiv (2 ^ min (33 : Int).toNat (IntKind.bits .i64))) ^^^ BitVec.ofInt (IntKind.bits .i64) (k1.fdiv (2 ^ min (47 : Int).toNat (IntKind.bits .i64)))).toNat
 let k3 : Int := IntKind.wrap .i64 (BitVec.ofInt (IntKind.bits .i64) k2 &&& BitVec.ofInt (IntKind.bits .i64) 255).toNat
 bif decide (a0.2.1 < (a0.1.length : Int)) then (
 idx a0.1 a0.2.1 fun x4 =>
 let k5 : Int := IntKind.wrap .i64 (BitVec.ofInt (IntKind.bits .i64) (IntKind.wrap .i64 (k3 + (IntKind.wrap .i64 x4))) &&& BitVec.ofInt (IntKind.bits .i64) 255).toNat
 some (k5, ((a0.1, IntKind.wrap .i64 (a0.2.1 + 1), k1, ()), ())))
 else (
 some (k3, ((a0.1, a0.2.1, k1, ()), ())))) else none) else none
def spec_l1Byte_c : Ct := .mut [.ptr] true true (.pair T_l1Cur .unit) (.int .i64) (fun x => spec_l1Byte x.1)
theorem spec_l1Byte_ct : CtOk Try.prog 240 spec_l1Byte_c := mut_ct (E := { T := tab, G := [] }) (EnvOk.nil tabOk) mixed (fn := Try.f240) _ _ _ _ _ _ .none Try.func240 (by kernel_rfl) (fun x => by kernel_rfl)
/-! loop.example/g00486/spec.l1Below -/
def spec_l1Below (a0 : T_l1Cur.D) (a1 : Int) : Option (Int × (T_l1Cur.D × Unit)) :=
 bif decide (a1 ≤ 0) then (
 some (0, (a0, ())))
 else (
 bif decide (a1 ≤ 256) then (
(spec_l1Byte a0).bind fun y1 =>
 if a1 = 0 then none else (
 some (y1.1.tmod a1, y1.2)))
 else (
(spec_l1Byte a0).bind fun y2 =>
(spec_l1Byte y2.2.1).bind fun y3 =>
(spec_l1Byte y3.2.1).bind fun y4 =>
 let k5 : Int := IntKind.wrap .i64 ((IntKind.wrap .i64 (y2.1 * 65536)) + (IntKind.wrap .i64 (y3.1 * 256)))
 if a1 = 0 then none else (
 some ((IntKind.wrap .i64 (k5 + y4.1)).tmod a1, y4.2))))
def spec_l1Below_c : Ct := .mut [.ptr, .rd] true true (.pair T_l1Cur (.pair (.int .i64) .unit)) (.int .i64) (fun x => spec_l1Below x.1 x.2.1)
theorem spec_l1Below_ct : CtOk Try.prog 137 spec_l1Below_c := mut_ct (E := { T := tab, G := [(240, spec_l1Byte_c)] }) (EnvOk.cons spec_l1Byte_ct (EnvOk.nil tabOk)) mixed (fn := Try.f137) _ _ _ _ _ _ .none Try.func137 (by kernel_rfl) (fun x => by kernel_rfl)
/-! loop.example/g00486/spec.l1Int -/
def spec_l1Int (a0 : T_l1Cur.D) (a1 : (List Int)) : Option (Int × (T_l1Cur.D × Unit)) :=
(spec_l1Below a0 (a1.length : Int)).bind fun y1 =>
 idx a1 y1.1 fun x2 =>
 some (x2, y1.2)
def spec_l1Int_c : Ct := .mut [.ptr, .rd] true true (.pair T_l1Cur (.pair (.slice (.int .i64)) .unit)) (.int .i64) (fun x => spec_l1Int x.1 x.2.1)
theorem spec_l1Int_ct : CtOk Try.prog 234 spec_l1Int_c := mut_ct (E := { T := tab, G := [(137, spec_l1Below_c)] }) (EnvOk.cons spec_l1Below_ct (EnvOk.nil tabOk)) mixed (fn := Try.f234) _ _ _ _ _ _ .none Try.func234 (by kernel_rfl) (fun x => by kernel_rfl)
/-! loop.example/g00486/spec.l1Once -/
def spec_l1Once (a0 : T_l1Cur.D) (a1 : Int) : Option (Bool × (T_l1Cur.D × Unit)) :=
(spec_l1Below a0 a1).bind fun y1 =>
 some ((y1.1 == 0), y1.2)
def spec_l1Once_c : Ct := .mut [.ptr, .rd] true true (.pair T_l1Cur (.pair (.int .i64) .unit)) .bool (fun x => spec_l1Once x.1 x.2.1)
theorem spec_l1Once_ct : CtOk Try.prog 117 spec_l1Once_c := mut_ct (E := { T := tab, G := [(137, spec_l1Below_c)] }) (EnvOk.cons spec_l1Below_ct (EnvOk.nil tabOk)) mixed (fn := Try.f117) _ _ _ _ _ _ .none Try.func117 (by kernel_rfl) (fun x => by kernel_rfl)
/-! loop.example/g00486/spec.l4Draw -/
def spec_l4Draw_l1 : (Int × (T_l1Cur.D × (Int × (Int × (Int × (Int × (Int × (Int × (Int × (Int × (Int × (Int × (Int × (Bool × (Bool × Unit))))))))))))))) → Option ((Int × (T_l1Cur.D × (Int × (Int × (Int × (Int × (Int × (Int × (Int × (Int × (Int × (Int × (Int × (Bool × (Bool × Unit))))))))))))))) ⊕ (Int × (T_l1Cur.D × (Int × (Int × (Int × (Int × (Int × (Int × (Int × (Int × (Int × (Int × (Int × (Bool × (Bool × Unit)))))))))))))))) := fun s8 =>
 bif decide (s8.1 < (([1, 2, 4, 8, 16, 32] : List Int).length : Int)) then (
 idx ([1, 2, 4, 8, 16, 32] : List Int) s8.1 fun _ =>
(([1, 2, 4, 8, 16, 32] : List Int)[(s8.1 : Int).toNat]?).bind fun x9 =>
(spec_l1Once s8.2.1 3).bind fun y10 =>
 bif y10.1 then (
 some (.inl (IntKind.wrap .i64 (s8.1 + 1), y10.2.1, s8.2.2.1, s8.2.2.2.1, s8.2.2.2.2.1, s8.2.2.2.2.2.1, s8.2.2.2.2.2.2.1, s8.2.2.2.2.2.2.2.1, s8.2.2.2.2.2.2.2.2.1, IntKind.wrap .i64 (s8.2.2.2.2.2.2.2.2.2.1 + x9), s8.2.2.2.2.2.2.2.2.2.2)))
 else (
 some (.inl (IntKind.wrap .i64 (s8.1 + 1), y10.2.1, s8.2.2))))
 else (
 some (.inr s8))
def spec_l4Draw (a0 : T_l1Cur.D) (a1 : Int) : Option (T_Piece.D × (T_l1Cur.D × Unit)) :=
(spec_l1Below a0 2).bind fun y1 =>
(spec_l1Int y1.2.1 ([2, 2, 2, 1, 3] : List Int)).bind fun y2 =>
(spec_l1Below y2.2.1 3).bind fun y3 =>
(spec_l1Below y3.2.1 5).bind fun y4 =>
(spec_l1Below y4.2.1 5).bind fun y5 =>
(while_ (spec_l4Draw_l1) (0, y5.2.1, a1, y1.1, y1.1, y2.1, y3.1, y4.1, IntKind.wrap .i64 (1 + y5.1), 0, 0, 0, 0, false, false, ())).bind fun o11 =>
 bif (o11.2.2.2.2.2.1 != 2) then (
 some (o11.2.2, (o11.2.1, ())))
 else (
(spec_l1Once o11.2.1 4).bind fun y12 =>
((bif y12.1 then (
 some (o11.2.2.1, o11.2.2.2.1, IntKind.wrap .i64 (1 - o11.2.2.2.1), o11.2.2.2.2.2))
 else (
 some o11.2.2)) : Option T_Piece.D).bind fun o13 =>
(spec_l1Int y12.2.1 ([0, 0, 1, 2] : List Int)).bind fun y14 =>
(spec_l1Int y14.2.1 ([0, 0, 0, 1] : List Int)).bind fun y15 =>
(spec_l1Int y15.2.1 ([0, 0, 1] : List Int)).bind fun y16 =>
(spec_l1Once y16.2.1 4).bind fun y17 =>
 some ((o13.1, o13.2.1, o13.2.2.1, o13.2.2.2.1, o13.2.2.2.2.1, o13.2.2.2.2.2.1, o13.2.2.2.2.2.2.1, o13.2.2.2.2.2.2.2.1, y14.1, y15.1, y16.1, o13.2.2.2.2.2.2.2.2.2.2.2.1, y17.1, ()), y17.2))
def spec_l4Draw_h : Hints := (.node none none .none (.node none none .none (.node none none .none (.node none none (.node none none .none (.node none none (.node none (some ⟨[.tmp 27 (.int .i64), .box 0 0 T_l1Cur, .box 5 0 T_Piece], [some 0], none, []⟩) .none .none) .none)) (.node none none .none (.node none none (.node none none .none (.node (some ⟨[.box 5 0 T_Piece], [none], none, [(5, 0)]⟩) none .none .none)) .none))))))
def spec_l4Draw_c : Ct := .mut [.ptr, .rd] true true (.pair T_l1Cur (.pair (.int .i64) .unit)) T_Piece (fun x => spec_l4Draw x.1 x.2.1)
theorem spec_l4Draw_ct : CtOk Try.prog 235 spec_l4Draw_c := mut_ct (E := { T := tab, G := [(117, spec_l1Once_c), (137, spec_l1Below_c), (234, spec_l1Int_c)], V := [12, 50, 54, 58] }) (EnvOk.views (EnvOk.cons spec_l1Once_ct (EnvOk.cons spec_l1Below_ct (EnvOk.cons spec_l1Int_ct (EnvOk.nil tabOk))))) mixed (fn := Try.f235) _ _ _ _ _ _ spec_l4Draw_h Try.func235 (by kernel_rfl) (fun x => by kernel_rfl)
/-! loop.example/g00486/spec.l5Draw -/
def spec_l5Draw_l1 : (Int × (T_l1Cur.D × ((List T_Piece.D) × ((List T_Side.D) × (Int × (Int × Unit)))))) → Option ((Int × (T_l1Cur.D × ((List T_Piece.D) × ((List T_Side.D) × (Int × (Int × Unit)))))) ⊕ (Int × (T_l1Cur.D × ((List T_Piece.D) × ((List T_Side.D) × (Int × (Int × Unit))))))) := fun s6 =>
 bif decide (s6.1 < 2) then (
(spec_l1Int s6.2.1 ([20, 20, 3, 1, 10] : List Int)).bind fun y7 =>
 idx s6.2.2.2.1 s6.1 fun _ =>
(s6.2.2.2.1[(s6.1 : Int).toNat]?).bind fun x8 =>
 let u9 : (List T_Side.D) := s6.2.2.2.1.set (s6.1 : Int).toNat (y7.1, x8.2)
(spec_l1Int y7.2.1 ([0, 0, 8, 1] : List Int)).bind fun y10 =>
 idx u9 s6.1 fun _ =>
(u9[(s6.1 : Int).toNat]?).bind fun x11 =>
 let u12 : (List T_Side.D) := u9.set (s6.1 : Int).toNat (x11.1, y10.1, x11.2.2)
 some (.inl (IntKind.wrap .i64 (s6.1 + 1), y10.2.1, s6.2.2.1, u12, s6.2.2.2.2)))
 else (
 some (.inr s6))
def spec_l5Draw_l2 : (Int × (Int × (T_l1Cur.D × ((List T_Piece.D) × ((List T_Side.D) × (Int × (Int × Unit))))))) → Option ((Int × (Int × (T_l1Cur.D × ((List T_Piece.D) × ((List T_Side.D) × (Int × (Int × Unit))))))) ⊕ (Int × (Int × (T_l1Cur.D × ((List T_Piece.D) × ((List T_Side.D) × (Int × (Int × Unit)))))))) := fun s17 =>
 bif decide (s17.2.1 > 0) then (
(spec_l1Below s17.2.2.1 2).bind fun y18 =>
(spec_l4Draw y18.2.1 (IntKind.wrap .i64 ((IntKind.wrap .i64 (s17.1 + 1)) + y18.1))).bind fun y19 =>
 if (s17.2.2.2.1.length + [y19.1].length) * (24 * 13) ≤ room then (
 some (.inl (IntKind.wrap .i64 ((IntKind.wrap .i64 (s17.1 + 1)) + y18.1), IntKind.wrap .i64 (s17.2.1 - 1), y19.2.1, (s17.2.2.2.1 ++ [y19.1]), s17.2.2.2.2))) else none)
 else (
 some (.inr s17))
def spec_l5Draw (a0 : T_l1Cur.D) : Option (T_State.D × (T_l1Cur.D × Unit)) :=
(spec_StateNew 2).bind fun y1 =>
(spec_l1Below a0 3).bind fun y2 =>
(spec_l1Below y2.2.1 2).bind fun y3 =>
(while_ (spec_l5Draw_l1) (0, y3.2.1, y1.1, y1.2.1, y3.1, IntKind.wrap .i64 (2 + y2.1), ())).bind fun o13 =>
(spec_l1Below o13.2.1 5).bind fun y14 =>
(while_ (spec_l5Draw_l2) (0, IntKind.wrap .i64 (1 + y14.1), y14.2.1, o13.2.2)).bind fun o20 =>
 some (o20.2.2.2, (o20.2.2.1, ()))
def spec_l5Draw_h : Hints := (.node none none .none (.node none none .none (.node none none .none (.node none none .none (.node none none (.node none none .none (.node none none (.node none (some ⟨[.tmp 4 (.int .i64), .box 0 0 T_l1Cur, .boxO 3 0 1 T_State], [some 0], none, []⟩) .none .none) .none)) (.node none none .none (.node none none (.node none none .none (.node none none (.node none (some ⟨[.tmp 5 (.int .i64), .tmp 6 (.int .i64), .box 0 0 T_l1Cur, .boxO 3 0 3 T_State], [some 2], none, []⟩) .none .none) .none)) .none)))))))
def spec_l5Draw_c : Ct := .mut [.ptr] true false (.pair T_l1Cur .unit) T_State (fun x => spec_l5Draw x.1)
theorem spec_l5Draw_ct : CtOk Try.prog 116 spec_l5Draw_c := mut_ct (E := { T := tab, G := [(137, spec_l1Below_c), (233, spec_StateNew_fresh_c), (234, spec_l1Int_c), (235, spec_l4Draw_c)], V := [24, 32] }) (EnvOk.views (EnvOk.cons spec_l1Below_ct (EnvOk.cons spec_StateNew_fresh_ct (EnvOk.cons spec_l1Int_ct (EnvOk.cons spec_l4Draw_ct (EnvOk.nil tabOk)))))) mixed (fn := Try.f116) _ _ _ _ _ _ spec_l5Draw_h Try.func116 (by kernel_rfl) (fun x => by kernel_rfl)
def spec_l5Draw_fresh_c : Ct := .mut [.ptr] true true (.pair T_l1Cur .unit) T_State (fun x => spec_l5Draw x.1)
theorem spec_l5Draw_fresh_ct : CtOk Try.prog 116 spec_l5Draw_fresh_c := mut_ct (E := { T := tab, G := [(137, spec_l1Below_c), (233, spec_StateNew_fresh_c), (234, spec_l1Int_c), (235, spec_l4Draw_c)], V := [24, 32] }) (EnvOk.views (EnvOk.cons spec_l1Below_ct (EnvOk.cons spec_StateNew_fresh_ct (EnvOk.cons spec_l1Int_ct (EnvOk.cons spec_l4Draw_ct (EnvOk.nil tabOk)))))) mixed (fn := Try.f116) _ _ _ _ _ _ spec_l5Draw_h Try.func116 (by kernel_rfl) (fun x => by kernel_rfl)
/-! loop.example/g00486/spec.l1Odd -/
def spec_l1Odd (a0 : T_l1Cur.D) : Option (Int × (T_l1Cur.D × Unit)) :=
(spec_l1Int a0 ([(-1), 0, 1, 2, 255, 256, 65535, 2147483647, 2147483648, 4294967295, 4294967296, (-2147483648), 9223372036854775807, (-9223372036854775808)] : List Int)).bind fun y1 =>
 some (y1.1, y1.2)
def spec_l1Odd_c : Ct := .mut [.ptr] true true (.pair T_l1Cur .unit) (.int .i64) (fun x => spec_l1Odd x.1)
theorem spec_l1Odd_ct : CtOk Try.prog 296 spec_l1Odd_c := mut_ct (E := { T := tab, G := [(234, spec_l1Int_c)], V := [4] }) (EnvOk.views (EnvOk.cons spec_l1Int_ct (EnvOk.nil tabOk))) mixed (fn := Try.f296) _ _ _ _ _ _ .none Try.func296 (by kernel_rfl) (fun x => by kernel_rfl)
/-! loop.example/g00486/spec.l1Raw -/
def spec_l1Raw (a0 : T_l1Cur.D) : Option (Int × (T_l1Cur.D × Unit)) :=
(spec_l1Once a0 2).bind fun y1 =>
 bif y1.1 then (
(spec_l1Odd y1.2.1).bind fun y2 =>
 some (y2.1, y2.2))
 else (
(spec_l1Int y1.2.1 ([(-2147483648), (-2147483647), (-3), (-1), 0, 1, 3, 7, 2147483647, 2147483648] : List Int)).bind fun y3 =>
 some (y3.1, y3.2))
def spec_l1Raw_c : Ct := .mut [.ptr] true true (.pair T_l1Cur .unit) (.int .i64) (fun x => spec_l1Raw x.1)
theorem spec_l1Raw_ct : CtOk Try.prog 236 spec_l1Raw_c := mut_ct (E := { T := tab, G := [(117, spec_l1Once_c), (234, spec_l1Int_c), (296, spec_l1Odd_c)], V := [8] }) (EnvOk.views (EnvOk.cons spec_l1Once_ct (EnvOk.cons spec_l1Int_ct (EnvOk.cons spec_l1Odd_ct (EnvOk.nil tabOk))))) mixed (fn := Try.f236) _ _ _ _ _ _ .none Try.func236 (by kernel_rfl) (fun x => by kernel_rfl)
/-! loop.example/g00486/spec.l4Any -/
def spec_l4Any (a0 : T_l1Cur.D) : Option (T_Piece.D × (T_l1Cur.D × Unit)) :=
(spec_l1Below a0 9).bind fun y1 =>
(spec_l4Draw y1.2.1 (IntKind.wrap .i64 (1 + y1.1))).bind fun y2 =>
(spec_l1Below y2.2.1 20).bind fun y3 =>
 bif (y3.1 == 0) then (
(spec_l1Int y3.2.1 ([0, 99, 100] : List Int)).bind fun y4 =>
 some ((y4.1, y2.1.2), y4.2))
 else (
 bif (y3.1 == 1) then (
(spec_l1Int y3.2.1 ([(-1), 2, 3] : List Int)).bind fun y5 =>
 some ((y2.1.1, y5.1, y2.1.2.2), y5.2))
 else (
 bif (y3.1 == 2) then (
(spec_l1Int y3.2.1 ([(-1), 2, 3] : List Int)).bind fun y6 =>
 some ((y2.1.1, y2.1.2.1, y6.1, y2.1.2.2.2), y6.2))
 else (
 bif (y3.1 == 3) then (
(spec_l1Int y3.2.1 ([0, 1, 4, 5] : List Int)).bind fun y7 =>
 some ((y2.1.1, y2.1.2.1, y2.1.2.2.1, y7.1, y2.1.2.2.2.2), y7.2))
 else (
 bif (y3.1 == 4) then (
(spec_l1Int y3.2.1 ([(-1), 9999, 10000] : List Int)).bind fun y8 =>
 some ((y2.1.1, y2.1.2.1, y2.1.2.2.1, y2.1.2.2.2.1, y8.1, y2.1.2.2.2.2.2), y8.2))
 else (
 bif (y3.1 == 5) then (
(spec_l1Int y3.2.1 ([(-1), 999, 1000] : List Int)).bind fun y9 =>
 some ((y2.1.1, y2.1.2.1, y2.1.2.2.1, y2.1.2.2.2.1, y2.1.2.2.2.2.1, y9.1, y2.1.2.2.2.2.2.2), y9.2))
 else (
 bif (y3.1 == 6) then (
(spec_l1Int y3.2.1 ([(-1), 999, 1000] : List Int)).bind fun y10 =>
 some ((y2.1.1, y2.1.2.1, y2.1.2.2.1, y2.1.2.2.2.1, y2.1.2.2.2.2.1, y2.1.2.2.2.2.2.1, y10.1, y2.1.2.2.2.2.2.2.2), y10.2))
 else (
 bif (y3.1 == 7) then (
(spec_l1Int y3.2.1 ([(-1), 63, 64] : List Int)).bind fun y11 =>
 some ((y2.1.1, y2.1.2.1, y2.1.2.2.1, y2.1.2.2.2.1, y2.1.2.2.2.2.1, y2.1.2.2.2.2.2.1, y2.1.2.2.2.2.2.2.1, y11.1, y2.1.2.2.2.2.2.2.2.2), y11.2))
 else (
 bif (y3.1 == 8) then (
(spec_l1Raw y3.2.1).bind fun y12 =>
 some ((y2.1.1, y2.1.2.1, y2.1.2.2.1, y2.1.2.2.2.1, y2.1.2.2.2.2.1, y2.1.2.2.2.2.2.1, y2.1.2.2.2.2.2.2.1, y2.1.2.2.2.2.2.2.2.1, y12.1, y2.1.2.2.2.2.2.2.2.2.2), y12.2))
 else (
 bif (y3.1 == 9) then (
(spec_l1Raw y3.2.1).bind fun y13 =>
 some ((y2.1.1, y2.1.2.1, y2.1.2.2.1, y2.1.2.2.2.1, y2.1.2.2.2.2.1, y2.1.2.2.2.2.2.1, y2.1.2.2.2.2.2.2.1, y2.1.2.2.2.2.2.2.2.1, y2.1.2.2.2.2.2.2.2.2.1, y13.1, y2.1.2.2.2.2.2.2.2.2.2.2), y13.2))
 else (
 bif (y3.1 == 10) then (
(spec_l1Raw y3.2.1).bind fun y14 =>
 some ((y2.1.1, y2.1.2.1, y2.1.2.2.1, y2.1.2.2.2.1, y2.1.2.2.2.2.1, y2.1.2.2.2.2.2.1, y2.1.2.2.2.2.2.2.1, y2.1.2.2.2.2.2.2.2.1, y2.1.2.2.2.2.2.2.2.2.1, y2.1.2.2.2.2.2.2.2.2.2.1, y14.1, y2.1.2.2.2.2.2.2.2.2.2.2.2), y14.2))
 else (
 bif (y3.1 == 11) then (
 some ((y2.1.1, y2.1.2.1, y2.1.2.2.1, y2.1.2.2.2.1, y2.1.2.2.2.2.1, y2.1.2.2.2.2.2.1, y2.1.2.2.2.2.2.2.1, y2.1.2.2.2.2.2.2.2.1, y2.1.2.2.2.2.2.2.2.2.1, y2.1.2.2.2.2.2.2.2.2.2.1, y2.1.2.2.2.2.2.2.2.2.2.2.1, true, y2.1.2.2.2.2.2.2.2.2.2.2.2.2), y3.2))
 else (
 some (y2.1, y3.2)))))))))))))
def spec_l4Any_c : Ct := .mut [.ptr] true true (.pair T_l1Cur .unit) T_Piece (fun x => spec_l4Any x.1)
theorem spec_l4Any_ct : CtOk Try.prog 237 spec_l4Any_c := mut_ct (E := { T := tab, G := [(137, spec_l1Below_c), (234, spec_l1Int_c), (235, spec_l4Draw_c), (236, spec_l1Raw_c)], V := [14, 20, 26, 32, 38, 44, 50, 56] }) (EnvOk.views (EnvOk.cons spec_l1Below_ct (EnvOk.cons spec_l1Int_ct (EnvOk.cons spec_l4Draw_ct (EnvOk.cons spec_l1Raw_ct (EnvOk.nil tabOk)))))) mixed (fn := Try.f237) _ _ _ _ _ _ .none Try.func237 (by kernel_rfl) (fun x => by kernel_rfl)
/-! loop.example/g00486/spec.l5Any -/
def spec_l5Any_l1 : (Int × (T_l1Cur.D × ((List T_Piece.D) × ((List T_Side.D) × (Int × (Int × Unit)))))) → Option ((Int × (T_l1Cur.D × ((List T_Piece.D) × ((List T_Side.D) × (Int × (Int × Unit)))))) ⊕ (Int × (T_l1Cur.D × ((List T_Piece.D) × ((List T_Side.D) × (Int × (Int × Unit))))))) := fun s15 =>
 bif decide (s15.1 < 46) then (
(spec_l4Draw s15.2.1 s15.1).bind fun y16 =>
 if (s15.2.2.1.length + [y16.1].length) * (24 * 13) ≤ room then (
 some (.inl (IntKind.wrap .i64 (s15.1 + 1), y16.2.1, (s15.2.2.1 ++ [y16.1]), s15.2.2.2))) else none)
 else (
 some (.inr s15))
def spec_l5Any (a0 : T_l1Cur.D) : Option (T_State.D × (T_l1Cur.D × Unit)) :=
(spec_l5Draw a0).bind fun y1 =>
(spec_l1Below y1.2.1 18).bind fun y2 =>
 bif (y2.1 == 0) then (
(spec_l1Int y2.2.1 ([(-1), 2, 3] : List Int)).bind fun y3 =>
 some ((y1.1.1, y1.1.2.1, y3.1, y1.1.2.2.2), y3.2))
 else (
 bif (y2.1 == 1) then (
(spec_l1Int y2.2.1 ([(-1), 0, 9999, 10000] : List Int)).bind fun y4 =>
 some ((y1.1.1, y1.1.2.1, y1.1.2.2.1, y4.1, ()), y4.2))
 else (
 bif (y2.1 == 2) then (
(spec_l1Raw y2.2.1).bind fun y5 =>
 if (y1.1.2.1.length + [(y5.1, 0, false, ())].length) * (24 * 3) ≤ room then (
 some ((y1.1.1, (y1.1.2.1 ++ [(y5.1, 0, false, ())]), y1.1.2.2), y5.2)) else none)
 else (
 bif (y2.1 == 3) then (
(spec_l1Raw y2.2.1).bind fun y6 =>
 idx y1.1.2.1 0 fun _ =>
(y1.1.2.1[(0 : Int).toNat]?).bind fun x7 =>
 let u8 : (List T_Side.D) := y1.1.2.1.set (0 : Int).toNat (x7.1, y6.1, x7.2.2)
 some ((y1.1.1, u8, y1.1.2.2), y6.2))
 else (
 bif (y2.1 == 4) then (
(spec_l4Any y2.2.1).bind fun y9 =>
 if (y1.1.1.length + [y9.1].length) * (24 * 13) ≤ room then (
 some (((y1.1.1 ++ [y9.1]), y1.1.2), y9.2)) else none)
 else (
 bif (y2.1 == 5) then (
 if 0 ≤ (0 : Int) then (if (0 : Int) ≤ (1 : Int) then (if (1 : Int) ≤ (y1.1.2.1.length : Int) then (
 some ((y1.1.1, ((y1.1.2.1.take ((1 : Int).toNat)).drop ((0 : Int).toNat)), y1.1.2.2), y2.2)) else none) else none) else none)
 else (
 bif (y2.1 == 6) then (
(spec_l4Any y2.2.1).bind fun y10 =>
 idx y1.1.1 0 fun _ =>
(y1.1.1[(0 : Int).toNat]?).bind fun x11 =>
 let u12 : (List T_Piece.D) := y1.1.1.set (0 : Int).toNat y10.1
 some ((u12, y1.1.2), y10.2))
 else (
 bif (y2.1 == 7) then (
(while_ (spec_l5Any_l1) (40, y2.2.1, y1.1)).bind fun o17 =>
 some (o17.2.2, (o17.2.1, ())))
 else (
 some (y1.1, y2.2)))))))))
def spec_l5Any_h : Hints := (.node none none .none (.node none none .none (.node none none (.node none none .none (.node none none (.node none none .none (.node none none .none (.node none none .none (.node none none .none (.node none none .none (.node none none .none (.node none none .none (.node none none .none (.node none none .none (.node none none .none (.node none none .none (.node none none .none (.node none none .none (.node none none .none (.node none none .none (.node none none (.node none none .none (.node none none (.node none (some ⟨[.tmp 4 (.int .i64), .box 0 0 T_l1Cur, .boxO 3 0 1 T_State], [some 1], none, []⟩) .none .none) .none)) .none)))))))))))))))) .none)) .none)))
def spec_l5Any_c : Ct := .mut [.ptr] true false (.pair T_l1Cur .unit) T_State (fun x => spec_l5Any x.1)
theorem spec_l5Any_ct : CtOk Try.prog 238 spec_l5Any_c := mut_ct (E := { T := tab, G := [(116, spec_l5Draw_fresh_c), (137, spec_l1Below_c), (234, spec_l1Int_c), (235, spec_l4Draw_c), (236, spec_l1Raw_c), (237, spec_l4Any_c)], V := [12, 18] }) (EnvOk.views (EnvOk.cons spec_l5Draw_fresh_ct (EnvOk.cons spec_l1Below_ct (EnvOk.cons spec_l1Int_ct (EnvOk.cons spec_l4Draw_ct (EnvOk.cons spec_l1Raw_ct (EnvOk.cons spec_l4Any_ct (EnvOk.nil tabOk)))))))) mixed (fn := Try.f238) _ _ _ _ _ _ spec_l5Any_h Try.func238 (by kernel_rfl) (fun x => by kernel_rfl)
def spec_l5Any_fresh_c : Ct := .mut [.ptr] true true (.pair T_l1Cur .unit) T_State (fun x => spec_l5Any x.1)
theorem spec_l5Any_fresh_ct : CtOk Try.prog 238 spec_l5Any_fresh_c := mut_ct (E := { T := tab, G := [(116, spec_l5Draw_fresh_c), (137, spec_l1Below_c), (234, spec_l1Int_c), (235, spec_l4Draw_c), (236, spec_l1Raw_c), (237, spec_l4Any_c)], V := [12, 18] }) (EnvOk.views (EnvOk.cons spec_l5Draw_fresh_ct (EnvOk.cons spec_l1Below_ct (EnvOk.cons spec_l1Int_ct (EnvOk.cons spec_l4Draw_ct (EnvOk.cons spec_l1Raw_ct (EnvOk.cons spec_l4Any_ct (EnvOk.nil tabOk)))))))) mixed (fn := Try.f238) _ _ _ _ _ _ spec_l5Any_h Try.func238 (by kernel_rfl) (fun x => by kernel_rfl)
/-! loop.example/g00486/spec.l19State -/
def spec_l19State_l1 : (Int × (T_l1Cur.D × ((List T_Piece.D) × ((List T_Side.D) × (Int × (Int × Unit)))))) → Option ((Int × (T_l1Cur.D × ((List T_Piece.D) × ((List T_Side.D) × (Int × (Int × Unit)))))) ⊕ (Int × (T_l1Cur.D × ((List T_Piece.D) × ((List T_Side.D) × (Int × (Int × Unit))))))) := fun s4 =>
 bif decide (s4.1 < (s4.2.2.1.length : Int)) then (
((idx s4.2.2.1 s4.1 fun _ =>
(s4.2.2.1[(s4.1 : Int).toNat]?).bind fun x5 =>
 bif (x5.2.2.2.1 != 2) then (
 some s4.2)
 else (
(spec_l1Below s4.2.1 6).bind fun y6 =>
((bif (y6.1 == 0) then (
(spec_l1Below y6.2.1 9).bind fun y7 =>
 idx s4.2.2.1 s4.1 fun _ =>
(s4.2.2.1[(s4.1 : Int).toNat]?).bind fun x8 =>
 let u9 : (List T_Piece.D) := s4.2.2.1.set (s4.1 : Int).toNat (x8.1, x8.2.1, x8.2.2.1, x8.2.2.2.1, x8.2.2.2.2.1, x8.2.2.2.2.2.1, x8.2.2.2.2.2.2.1, x8.2.2.2.2.2.2.2.1, x8.2.2.2.2.2.2.2.2.1, x8.2.2.2.2.2.2.2.2.2.1, y7.1, x8.2.2.2.2.2.2.2.2.2.2.2)
 some (y7.2.1, u9, s4.2.2.2))
 else (
((bif (y6.1 == 1) then (
(spec_l1Below y6.2.1 9).bind fun y10 =>
 idx s4.2.2.1 s4.1 fun _ =>
(s4.2.2.1[(s4.1 : Int).toNat]?).bind fun x11 =>
 let u12 : (List T_Piece.D) := s4.2.2.1.set (s4.1 : Int).toNat (x11.1, x11.2.1, x11.2.2.1, x11.2.2.2.1, x11.2.2.2.2.1, x11.2.2.2.2.2.1, x11.2.2.2.2.2.2.1, x11.2.2.2.2.2.2.2.1, x11.2.2.2.2.2.2.2.2.1, y10.1, x11.2.2.2.2.2.2.2.2.2.2)
 some (y10.2.1, u12, s4.2.2.2))
 else (
((bif (y6.1 == 2) then (
 idx s4.2.2.1 s4.1 fun _ =>
(s4.2.2.1[(s4.1 : Int).toNat]?).bind fun x13 =>
 let u14 : (List T_Piece.D) := s4.2.2.1.set (s4.1 : Int).toNat (x13.1, x13.2.1, x13.2.2.1, x13.2.2.2.1, x13.2.2.2.2.1, x13.2.2.2.2.2.1, x13.2.2.2.2.2.2.1, x13.2.2.2.2.2.2.2.1, x13.2.2.2.2.2.2.2.2.1, x13.2.2.2.2.2.2.2.2.2.1, x13.2.2.2.2.2.2.2.2.2.2.1, true, x13.2.2.2.2.2.2.2.2.2.2.2.2)
 some (u14, s4.2.2.2))
 else (
 some s4.2.2)) : Option T_State.D).bind fun o15 =>
 some (y6.2.1, o15))) : Option (T_l1Cur.D × ((List T_Piece.D) × ((List T_Side.D) × (Int × (Int × Unit)))))).bind fun o16 =>
 some o16)) : Option (T_l1Cur.D × ((List T_Piece.D) × ((List T_Side.D) × (Int × (Int × Unit)))))).bind fun o17 =>
 some o17)) : Option (T_l1Cur.D × ((List T_Piece.D) × ((List T_Side.D) × (Int × (Int × Unit)))))).bind fun o18 =>
 some (.inl (IntKind.wrap .i64 (s4.1 + 1), o18)))
 else (
 some (.inr s4))
def spec_l19State (a0 : T_l1Cur.D) : Option (T_State.D × (T_l1Cur.D × Unit)) :=
(spec_l5Draw a0).bind fun y1 =>
(while_ (spec_l19State_l1) (0, y1.2.1, y1.1)).bind fun o19 =>
(spec_l1Below o19.2.1 8).bind fun y20 =>
((bif (y20.1 == 0) then (
(spec_l1Int y20.2.1 ([0, (-5), 1] : List Int)).bind fun y21 =>
 idx o19.2.2.2.1 0 fun _ =>
(o19.2.2.2.1[(0 : Int).toNat]?).bind fun x22 =>
 let u23 : (List T_Side.D) := o19.2.2.2.1.set (0 : Int).toNat (y21.1, x22.2)
 some (y21.2.1, o19.2.2.1, u23, o19.2.2.2.2))
 else (
((bif (y20.1 == 1) then (
(spec_l1Int y20.2.1 ([9, 10, 11] : List Int)).bind fun y24 =>
 idx o19.2.2.2.1 1 fun _ =>
(o19.2.2.2.1[(1 : Int).toNat]?).bind fun x25 =>
 let u26 : (List T_Side.D) := o19.2.2.2.1.set (1 : Int).toNat (x25.1, y24.1, x25.2.2)
 some (y24.2.1, o19.2.2.1, u26, o19.2.2.2.2))
 else (
((bif (y20.1 == 2) then (
 idx o19.2.2.2.1 0 fun _ =>
(o19.2.2.2.1[(0 : Int).toNat]?).bind fun x27 =>
 let u28 : (List T_Side.D) := o19.2.2.2.1.set (0 : Int).toNat (x27.1, x27.2.1, true, ())
 some (o19.2.2.1, u28, o19.2.2.2.2))
 else (
 some o19.2.2)) : Option T_State.D).bind fun o29 =>
 some (y20.2.1, o29))) : Option (T_l1Cur.D × ((List T_Piece.D) × ((List T_Side.D) × (Int × (Int × Unit)))))).bind fun o30 =>
 some o30)) : Option (T_l1Cur.D × ((List T_Piece.D) × ((List T_Side.D) × (Int × (Int × Unit)))))).bind fun o31 =>
(spec_l1Once o31.1 12).bind fun y32 =>
 bif y32.1 then (
(spec_l5Any y32.2.1).bind fun y33 =>
 some (y33.1, y33.2))
 else (
 some (o31.2, y32.2))
def spec_l19State_h : Hints := (.node none none .none (.node none none .none (.node none none (.node none none .none (.node none none (.node none (some ⟨[.tmp 4 (.int .i64), .box 0 0 T_l1Cur, .boxO 3 0 1 T_State], [some 0], none, []⟩) (.node none none .none (.node none none (.node (some ⟨[.box 0 0 T_l1Cur, .boxO 3 0 3 T_State], [none], none, [(0, 0), (3, 1), (3, 0), (3, 2)]⟩) none (.node none none .none (.node none none .none (.node none none (.node none none .none (.node (some ⟨[.box 0 0 T_l1Cur, .boxO 3 0 3 T_State], [none], none, [(0, 0), (3, 1), (3, 0), (3, 2)]⟩) none .none (.node none none .none (.node (some ⟨[.box 0 0 T_l1Cur, .boxO 3 0 3 T_State], [none], none, [(0, 0), (3, 1), (3, 0), (3, 2)]⟩) none .none (.node none none .none (.node (some ⟨[.boxO 3 0 3 T_State], [none], none, [(3, 1), (3, 0), (3, 2)]⟩) none .none .none)))))) .none))) .none) .none)) .none) .none)) (.node none none (.node none none .none (.node none none (.node none none .none (.node (some ⟨[.box 0 0 T_l1Cur, .boxO 3 0 3 T_State], [none], none, [(0, 0), (3, 2), (3, 0), (3, 1)]⟩) none .none (.node none none .none (.node (some ⟨[.box 0 0 T_l1Cur, .boxO 3 0 3 T_State], [none], none, [(0, 0), (3, 2), (3, 0), (3, 1)]⟩) none .none (.node none none .none (.node (some ⟨[.boxO 3 0 3 T_State], [none], none, [(3, 2), (3, 0), (3, 1)]⟩) none .none .none)))))) .none)) .none))))
def spec_l19State_c : Ct := .mut [.ptr] true false (.pair T_l1Cur .unit) T_State (fun x => spec_l19State x.1)
theorem spec_l19State_ct : CtOk Try.prog 191 spec_l19State_c := mut_ct (E := { T := tab, G := [(116, spec_l5Draw_fresh_c), (117, spec_l1Once_c), (137, spec_l1Below_c), (234, spec_l1Int_c), (238, spec_l5Any_fresh_c)], V := [55, 64] }) (EnvOk.views (EnvOk.cons spec_l5Draw_fresh_ct (EnvOk.cons spec_l1Once_ct (EnvOk.cons spec_l1Below_ct (EnvOk.cons spec_l1Int_ct (EnvOk.cons spec_l5Any_fresh_ct (EnvOk.nil tabOk))))))) mixed (fn := Try.f191) _ _ _ _ _ _ spec_l19State_h Try.func191 (by kernel_rfl) (fun x => by kernel_rfl)
def spec_l19State_fresh_c : Ct := .mut [.ptr] true true (.pair T_l1Cur .unit) T_State (fun x => spec_l19State x.1)
theorem spec_l19State_fresh_ct : CtOk Try.prog 191 spec_l19State_fresh_c := mut_ct (E := { T := tab, G := [(116, spec_l5Draw_fresh_c), (117, spec_l1Once_c), (137, spec_l1Below_c), (234, spec_l1Int_c), (238, spec_l5Any_fresh_c)], V := [55, 64] }) (EnvOk.views (EnvOk.cons spec_l5Draw_fresh_ct (EnvOk.cons spec_l1Once_ct (EnvOk.cons spec_l1Below_ct (EnvOk.cons spec_l1Int_ct (EnvOk.cons spec_l5Any_fresh_ct (EnvOk.nil tabOk))))))) mixed (fn := Try.f191) _ _ _ _ _ _ spec_l19State_h Try.func191 (by kernel_rfl) (fun x => by kernel_rfl)
/-! loop.example/g00486/spec.DrawSettle -/
def spec_DrawSettle (a0 : (List Int)) : Option T_State.D :=
(spec_l1New a0).bind fun y1 =>
(spec_l19State y1).bind fun y2 =>
 some y2.1
def spec_DrawSettle_c : Ct := .pure true false (.pair (.slice (.int .u8)) .unit) T_State (fun x => spec_DrawSettle x.1)
theorem spec_DrawSettle_ct : CtOk Try.prog 77 spec_DrawSettle_c := pure_ct (E := { T := tab, G := [(115, spec_l1New_c), (191, spec_l19State_fresh_c)] }) (EnvOk.cons spec_l1New_ct (EnvOk.cons spec_l19State_fresh_ct (EnvOk.nil tabOk))) mixed (fn := Try.f77) _ _ _ _ _ .none Try.func77 (by kernel_rfl) (fun x => by kernel_rfl)
def spec_DrawSettle_fresh_c : Ct := .pure true true (.pair (.slice (.int .u8)) .unit) T_State (fun x => spec_DrawSettle x.1)
theorem spec_DrawSettle_fresh_ct : CtOk Try.prog 77 spec_DrawSettle_fresh_c := pure_ct (E := { T := tab, G := [(115, spec_l1New_c), (191, spec_l19State_fresh_c)] }) (EnvOk.cons spec_l1New_ct (EnvOk.cons spec_l19State_fresh_ct (EnvOk.nil tabOk))) mixed (fn := Try.f77) _ _ _ _ _ .none Try.func77 (by kernel_rfl) (fun x => by kernel_rfl)
/-! slices.Clone[[]loop.example/g00486/impl.Piece,loop.example/g00486/impl.Piece] -/
def slices_Clone_impl_Piece (a0 : (List T_Piece.D)) : Option (List T_Piece.D) :=
 if (([] : List T_Piece.D).length + a0.length) * (24 * 13) ≤ room then (
 some ([] ++ a0)) else none
def slices_Clone_impl_Piece_c : Ct := .pure true false (.pair (.slice T_Piece) .unit) (.slice T_Piece) (fun x => slices_Clone_impl_Piece x.1)
theorem slices_Clone_impl_Piece_ct : CtOk Try.prog 250 slices_Clone_impl_Piece_c := nil_ct (E := { T := tab, G := [] }) (EnvOk.nil tabOk) mixed (fn := Try.f250) _ _ T_Piece _ _ .none .none Try.func250 (by kernel_rfl) (by kernel_rfl) (fun x => by kernel_rfl)
def slices_Clone_impl_Piece_fresh_c : Ct := .pure true true (.pair (.slice T_Piece) .unit) (.slice T_Piece) (fun x => slices_Clone_impl_Piece x.1)
theorem slices_Clone_impl_Piece_fresh_ct : CtOk Try.prog 250 slices_Clone_impl_Piece_fresh_c := nil_ct (E := { T := tab, G := [] }) (EnvOk.nil tabOk) mixed (fn := Try.f250) _ _ T_Piece _ _ .none .none Try.func250 (by kernel_rfl) (by kernel_rfl) (fun x => by kernel_rfl)
/-! slices.Clone[[]loop.example/g00486/impl.Side,loop.example/g00486/impl.Side] -/
def slices_Clone_impl_Side (a0 : (List T_Side.D)) : Option (List T_Side.D) :=
 if (([] : List T_Side.D).length + a0.length) * (24 * 3) ≤ room then (
 some ([] ++ a0)) else none
def slices_Clone_impl_Side_c : Ct := .pure true false (.pair (.slice T_Side) .unit) (.slice T_Side) (fun x => slices_Clone_impl_Side x.1)
theorem slices_Clone_impl_Side_ct : CtOk Try.prog 251 slices_Clone_impl_Side_c := nil_ct (E := { T := tab, G := [] }) (EnvOk.nil tabOk) mixed (fn := Try.f251) _ _ T_Side _ _ .none .none Try.func251 (by kernel_rfl) (by kernel_rfl) (fun x => by kernel_rfl)
def slices_Clone_impl_Side_fresh_c : Ct := .pure true true (.pair (.slice T_Side) .unit) (.slice T_Side) (fun x => slices_Clone_impl_Side x.1)
theorem slices_Clone_impl_Side_fresh_ct : CtOk Try.prog 251 slices_Clone_impl_Side_fresh_c := nil_ct (E := { T := tab, G := [] }) (EnvOk.nil tabOk) mixed (fn := Try.f251) _ _ T_Side _ _ .none .none Try.func251 (by kernel_rfl) (by kernel_rfl) (fun x => by kernel_rfl)
/-! loop.example/g00486/impl.copyState -/
def impl_copyState (a0 : T_State.D) : Option T_State.D :=
(slices_Clone_impl_Piece a0.1).bind fun y1 =>
(slices_Clone_impl_Side a0.2.1).bind fun y2 =>
 some (y1, y2, a0.2.2)
def impl_copyState_c : Ct := .pure true false (.pair T_State .unit) T_State (fun x => impl_copyState x.1)
theorem impl_copyState_ct : CtOk Try.prog 156 impl_copyState_c := pure_ct (E := { T := tab, G := [(250, slices_Clone_impl_Piece_fresh_c), (251, slices_Clone_impl_Side_fresh_c)] }) (EnvOk.cons slices_Clone_impl_Piece_fresh_ct (EnvOk.cons slices_Clone_impl_Side_fresh_ct (EnvOk.nil tabOk))) mixed (fn := Try.f156) _ _ _ _ _ .none Try.func156 (by kernel_rfl) (fun x => by kernel_rfl)
def impl_copyState_fresh_c : Ct := .pure true true (.pair T_State .unit) T_State (fun x => impl_copyState x.1)
theorem impl_copyState_fresh_ct : CtOk Try.prog 156 impl_copyState_fresh_c := pure_ct (E := { T := tab, G := [(250, slices_Clone_impl_Piece_fresh_c), (251, slices_Clone_impl_Side_fresh_c)] }) (EnvOk.cons slices_Clone_impl_Piece_fresh_ct (EnvOk.cons slices_Clone_impl_Side_fresh_ct (EnvOk.nil tabOk))) mixed (fn := Try.f156) _ _ _ _ _ .none Try.func156 (by kernel_rfl) (fun x => by kernel_rfl)
/-! loop.example/g00486/impl.from -/
def impl_from (a0 : Int) (a1 : Int) (a2 : Int) : Option Bool :=
 bif decide (a0 ≥ a1) then (
 some (decide (a0 ≤ a2)))
 else (
 some false)
def impl_from_c : Ct := .pure true false (.pair (.int .i64) (.pair (.int .i64) (.pair (.int .i64) .unit))) .bool (fun x => impl_from x.1 x.2.1 x.2.2.1)
theorem impl_from_ct : CtOk Try.prog 175 impl_from_c := pure_ct (E := { T := tab, G := [] }) (EnvOk.nil tabOk) mixed (fn := Try.f175) _ _ _ _ _ .none Try.func175 (by kernel_rfl) (fun x => by kernel_rfl)
/-! loop.example/g00486/impl.isSide -/
def impl_isSide (a0 : T_State.D) (a1 : Int) : Option Bool :=
(impl_from a1 0 (IntKind.wrap .i64 ((a0.2.1.length : Int) - 1))).bind fun y1 =>
 some y1
def impl_isSide_c : Ct := .pure true false (.pair T_State (.pair (.int .i64) .unit)) .bool (fun x => impl_isSide x.1 x.2.1)
theorem impl_isSide_ct : CtOk Try.prog 136 impl_isSide_c := pure_ct (E := { T := tab, G := [(175, impl_from_c)] }) (EnvOk.cons impl_from_ct (EnvOk.nil tabOk)) mixed (fn := Try.f136) _ _ _ _ _ .none Try.func136 (by kernel_rfl) (fun x => by kernel_rfl)
/-! loop.example/g00486/impl.isTime -/
def impl_isTime (a0 : Int) : Option Bool :=
(impl_from a0 0 9999).bind fun y1 =>
 some y1
def impl_isTime_c : Ct := .pure true false (.pair (.int .i64) .unit) .bool (fun x => impl_isTime x.1)
theorem impl_isTime_ct : CtOk Try.prog 176 impl_isTime_c := pure_ct (E := { T := tab, G := [(175, impl_from_c)] }) (EnvOk.cons impl_from_ct (EnvOk.nil tabOk)) mixed (fn := Try.f176) _ _ _ _ _ .none Try.func176 (by kernel_rfl) (fun x => by kernel_rfl)
/-! loop.example/g00486/impl.isId -/
def impl_isId (a0 : Int) : Option Bool :=
(impl_from a0 1 99).bind fun y1 =>
 some y1
def impl_isId_c : Ct := .pure true false (.pair (.int .i64) .unit) .bool (fun x => impl_isId x.1)
theorem impl_isId_ct : CtOk Try.prog 186 impl_isId_c := pure_ct (E := { T := tab, G := [(175, impl_from_c)] }) (EnvOk.cons impl_from_ct (EnvOk.nil tabOk)) mixed (fn := Try.f186) _ _ _ _ _ .none Try.func186 (by kernel_rfl) (fun x => by kernel_rfl)
/-! loop.example/g00486/impl.isPlayer -/
def impl_isPlayer (a0 : Int) : Option Bool :=
(impl_from a0 0 2).bind fun y1 =>
 some y1
def impl_isPlayer_c : Ct := .pure true false (.pair (.int .i64) .unit) .bool (fun x => impl_isPlayer x.1)
theorem impl_isPlayer_ct : CtOk Try.prog 228 impl_isPlayer_c := pure_ct (E := { T := tab, G := [(175, impl_from_c)] }) (EnvOk.cons impl_from_ct (EnvOk.nil tabOk)) mixed (fn := Try.f228) _ _ _ _ _ .none Try.func228 (by kernel_rfl) (fun x => by kernel_rfl)
/-! loop.example/g00486/impl.isZone -/
def impl_isZone (a0 : Int) : Option Bool :=
(impl_from a0 1 4).bind fun y1 =>
 some y1
def impl_isZone_c : Ct := .pure true false (.pair (.int .i64) .unit) .bool (fun x => impl_isZone x.1)
theorem impl_isZone_ct : CtOk Try.prog 189 impl_isZone_c := pure_ct (E := { T := tab, G := [(175, impl_from_c)] }) (EnvOk.cons impl_from_ct (EnvOk.nil tabOk)) mixed (fn := Try.f189) _ _ _ _ _ .none Try.func189 (by kernel_rfl) (fun x => by kernel_rfl)
/-! loop.example/g00486/impl.isTraits -/
def impl_isTraits (a0 : Int) : Option Bool :=
(impl_from a0 0 63).bind fun y1 =>
 some y1
def impl_isTraits_c : Ct := .pure true false (.pair (.int .i64) .unit) .bool (fun x => impl_isTraits x.1)
theorem impl_isTraits_ct : CtOk Try.prog 257 impl_isTraits_c := pure_ct (E := { T := tab, G := [(175, impl_from_c)] }) (EnvOk.cons impl_from_ct (EnvOk.nil tabOk)) mixed (fn := Try.f257) _ _ _ _ _ .none Try.func257 (by kernel_rfl) (fun x => by kernel_rfl)
/-! loop.example/g00486/impl.isAmount -/
def impl_isAmount (a0 : Int) : Option Bool :=
(impl_from a0 0 2147483647).bind fun y1 =>
 some y1
def impl_isAmount_c : Ct := .pure true false (.pair (.int .i64) .unit) .bool (fun x => impl_isAmount x.1)
theorem impl_isAmount_ct : CtOk Try.prog 181 impl_isAmount_c := pure_ct (E := { T := tab, G := [(175, impl_from_c)] }) (EnvOk.cons impl_from_ct (EnvOk.nil tabOk)) mixed (fn := Try.f181) _ _ _ _ _ .none Try.func181 (by kernel_rfl) (fun x => by kernel_rfl)
/-! loop.example/g00486/impl.PieceOk -/
def impl_PieceOk (a0 : T_Piece.D) : Option Bool :=
(((impl_isId a0.1).bind fun y1 =>
 bif (!y1) then (
 some true)
 else (
(impl_isPlayer a0.2.1).bind fun y2 =>
 bif (!y2) then (
 some true)
 else (
(impl_isPlayer a0.2.2.1).bind fun y3 =>
 bif (!y3) then (
 some true)
 else (
(impl_isZone a0.2.2.2.1).bind fun y4 =>
 bif (!y4) then (
 some true)
 else (
(impl_isTime a0.2.2.2.2.1).bind fun y5 =>
 bif (!y5) then (
 some true)
 else (
(impl_from a0.2.2.2.2.2.1 0 999).bind fun y6 =>
 bif (!y6) then (
 some true)
 else (
(impl_from a0.2.2.2.2.2.2.1 0 999).bind fun y7 =>
 bif (!y7) then (
 some true)
 else (
(impl_isTraits a0.2.2.2.2.2.2.2.1).bind fun y8 =>
 some (!y8))))))))) : Option Bool).bind fun o9 =>
 bif o9 then (
 some false)
 else (
 bif (a0.2.2.2.1 != 2) then (
((bif (a0.2.2.1 == a0.2.1) then (
 bif (a0.2.2.2.2.2.2.2.2.1 == 0) then (
 bif (a0.2.2.2.2.2.2.2.2.2.1 == 0) then (
 bif (a0.2.2.2.2.2.2.2.2.2.2.1 == 0) then (
 bif (!a0.2.2.2.2.2.2.2.2.2.2.2.1) then (
 some (!a0.2.2.2.2.2.2.2.2.2.2.2.2.1))
 else (
 some false))
 else (
 some false))
 else (
 some false))
 else (
 some false))
 else (
 some false)) : Option Bool).bind fun o10 =>
 some o10)
 else (
(impl_isAmount a0.2.2.2.2.2.2.2.2.1).bind fun y11 =>
 bif y11 then (
(impl_isAmount a0.2.2.2.2.2.2.2.2.2.1).bind fun y12 =>
 bif y12 then (
(impl_isAmount a0.2.2.2.2.2.2.2.2.2.2.1).bind fun y13 =>
 some y13)
 else (
 some false))
 else (
 some false)))
def impl_PieceOk_h : Hints := (.node none none .none (.node none none (.node none none (.node (some ⟨[.tmp 48 .bool], [none], none, []⟩) none .none .none) .none) (.node none none (.node none none .none (.node none none (.node none none (.node (some ⟨[.tmp 2 .bool], [none], none, []⟩) none .none .none) .none) .none)) .none)))
def impl_PieceOk_c : Ct := .pure true false (.pair T_Piece .unit) .bool (fun x => impl_PieceOk x.1)
theorem impl_PieceOk_ct : CtOk Try.prog 177 impl_PieceOk_c := pure_ct (E := { T := tab, G := [(175, impl_from_c), (176, impl_isTime_c), (181, impl_isAmount_c), (186, impl_isId_c), (189, impl_isZone_c), (228, impl_isPlayer_c), (257, impl_isTraits_c)] }) (EnvOk.cons impl_from_ct (EnvOk.cons impl_isTime_ct (EnvOk.cons impl_isAmount_ct (EnvOk.cons impl_isId_ct (EnvOk.cons impl_isZone_ct (EnvOk.cons impl_isPlayer_ct (EnvOk.cons impl_isTraits_ct (EnvOk.nil tabOk)))))))) mixed (fn := Try.f177) _ _ _ _ _ impl_PieceOk_h Try.func177 (by kernel_rfl) (fun x => by kernel_rfl)
/-! slices.IndexFunc[[]loop.example/g00486/impl.Side,loop.example/g00486/impl.Side] -/
def slices_IndexFunc_impl_Side_l1 (a0 : (List T_Side.D)) (a1 : ((T_Side.D × Unit) → Option Bool)) : Int → Option (Int ⊕ (Int ⊕ Int)) := fun s1 =>
 bif decide (s1 < (a0.length : Int)) then (
 idx a0 s1 fun x2 =>
(a1 (x2, ())).bind fun y3 =>
 bif y3 then (
 some (.inr (.inr s1)))
 else (
 some (.inl (IntKind.wrap .i64 (s1 + 1)))))
 else (
 some (.inr (.inl s1)))
def slices_IndexFunc_impl_Side (a0 : (List T_Side.D)) (a1 : ((T_Side.D × Unit) → Option Bool)) : Option Int :=
(while_ (slices_IndexFunc_impl_Side_l1 a0 a1) 0).bind fun o4 =>
 match o4 with
| .inl s5 => (
 some (-1))
| .inr o6 => (
 some o6)
def slices_IndexFunc_impl_Side_h : Hints := (.node none none .none (.node none none (.node none none .none (.node none none (.node none (some ⟨[.tmp 8 (.int .i64)], [some 0], some [.tmp 4 (.int .i64)], []⟩) .none .none) .none)) .none))
def slices_IndexFunc_impl_Side_c : Ct := .pure true false (.pair (.slice T_Side) (.pair (.fn (.pair T_Side .unit) .bool) .unit)) (.int .i64) (fun x => slices_IndexFunc_impl_Side x.1 x.2.1)
theorem slices_IndexFunc_impl_Side_ct : CtOk Try.prog 258 slices_IndexFunc_impl_Side_c := pure_ct (E := { T := tab, G := [] }) (EnvOk.nil tabOk) mixed (fn := Try.f258) _ _ _ _ _ slices_IndexFunc_impl_Side_h Try.func258 (by kernel_rfl) (fun x => by kernel_rfl)
/-! slices.ContainsFunc[[]loop.example/g00486/impl.Side,loop.example/g00486/impl.Side] -/
def slices_ContainsFunc_impl_Side (a0 : (List T_Side.D)) (a1 : ((T_Side.D × Unit) → Option Bool)) : Option Bool :=
(slices_IndexFunc_impl_Side a0 a1).bind fun y1 =>
 some (decide (y1 ≥ 0))
def slices_ContainsFunc_impl_Side_c : Ct := .pure true false (.pair (.slice T_Side) (.pair (.fn (.pair T_Side .unit) .bool) .unit)) .bool (fun x => slices_ContainsFunc_impl_Side x.1 x.2.1)
theorem slices_ContainsFunc_impl_Side_ct : CtOk Try.prog 178 slices_ContainsFunc_impl_Side_c := pure_ct (E := { T := tab, G := [(258, slices_IndexFunc_impl_Side_c)] }) (EnvOk.cons slices_IndexFunc_impl_Side_ct (EnvOk.nil tabOk)) mixed (fn := Try.f178) _ _ _ _ _ .none Try.func178 (by kernel_rfl) (fun x => by kernel_rfl)
/-! loop.example/g00486/impl.Bound -/
def impl_Bound (a0 : Int) : Option Int :=
 some (if (if 2147483647 < a0 then 2147483647 else a0) > (-2147483647) then (if 2147483647 < a0 then 2147483647 else a0) else (-2147483647))
def impl_Bound_c : Ct := .pure true false (.pair (.int .i64) .unit) (.int .i64) (fun x => impl_Bound x.1)
theorem impl_Bound_ct : CtOk Try.prog 180 impl_Bound_c := pure_ct (E := { T := tab, G := [] }) (EnvOk.nil tabOk) mixed (fn := Try.f180) _ _ _ _ _ .none Try.func180 (by kernel_rfl) (fun x => by kernel_rfl)
/-! loop.example/g00486/impl.StateOk$1 -/
def impl_StateOk_1 (a0 : T_Side.D) : Option Bool :=
(impl_Bound a0.1).bind fun y1 =>
 bif (y1 != a0.1) then (
 some true)
 else (
(impl_isAmount a0.2.1).bind fun y2 =>
 some (!y2))
def impl_StateOk_1_c : Ct := .pure true false (.pair T_Side .unit) .bool (fun x => impl_StateOk_1 x.1)
theorem impl_StateOk_1_ct : CtOk Try.prog 179 impl_StateOk_1_c := pure_ct (E := { T := tab, G := [(180, impl_Bound_c), (181, impl_isAmount_c)] }) (EnvOk.cons impl_Bound_ct (EnvOk.cons impl_isAmount_ct (EnvOk.nil tabOk))) mixed (fn := Try.f179) _ _ _ _ _ .none Try.func179 (by kernel_rfl) (fun x => by kernel_rfl)
/-! loop.example/g00486/impl.StateOk -/
def impl_StateOk_l1 (a0 : T_State.D) : Int → Option (Int ⊕ (Int ⊕ Bool)) := fun s5 =>
 bif decide (s5 < (a0.1.length : Int)) then (
 idx a0.1 s5 fun x6 =>
(((impl_PieceOk x6).bind fun y7 =>
 bif (!y7) then (
 some true)
 else (
(impl_isSide a0 x6.2.1).bind fun y8 =>
 bif (!y8) then (
 some true)
 else (
(impl_isSide a0 x6.2.2.1).bind fun y9 =>
 bif (!y9) then (
 some true)
 else (
 bif decide (x6.2.2.2.2.1 > a0.2.2.2.1) then (
 some true)
 else (
 bif decide (s5 > 0) then (
 idx a0.1 (IntKind.wrap .i64 (s5 - 1)) fun x10 =>
 some (decide (x10.1 ≥ x6.1)))
 else (
 some false)))))) : Option Bool).bind fun o11 =>
 bif o11 then (
 some (.inr (.inr false)))
 else (
 some (.inl (IntKind.wrap .i64 (s5 + 1)))))
 else (
 some (.inr (.inl s5)))
def impl_StateOk (a0 : T_State.D) : Option Bool :=
((bif decide ((a0.1.length : Int) > 8) then (
 some true)
 else (
(impl_from (a0.2.1.length : Int) 2 3).bind fun y1 =>
 bif (!y1) then (
 some true)
 else (
(impl_isSide a0 a0.2.2.1).bind fun y2 =>
 bif (!y2) then (
 some true)
 else (
(impl_isTime a0.2.2.2.1).bind fun y3 =>
 some (!y3))))) : Option Bool).bind fun o4 =>
 bif o4 then (
 some false)
 else (
(while_ (impl_StateOk_l1 a0) 0).bind fun o12 =>
 match o12 with
| .inl s13 => (
(slices_ContainsFunc_impl_Side a0.2.1 (fun q => impl_StateOk_1 q.1)).bind fun y15 =>
 some (!y15))
| .inr o14 => (
 some o14))
def impl_StateOk_h : Hints := (.node none none .none (.node none none (.node none none (.node (some ⟨[.tmp 28 .bool], [none], none, []⟩) none .none .none) .none) (.node none none (.node none none .none (.node none none (.node none (some ⟨[.tmp 32 (.int .i64)], [some 0], some [.tmp 2 .bool], []⟩) (.node none none .none (.node none none .none (.node none none (.node none none (.node none none .none (.node none none (.node (some ⟨[.tmp 76 .bool], [none], none, []⟩) none .none .none) .none)) .none) .none))) .none) .none)) .none)))
def impl_StateOk_c : Ct := .pure true false (.pair T_State .unit) .bool (fun x => impl_StateOk x.1)
theorem impl_StateOk_ct : CtOk Try.prog 67 impl_StateOk_c := pure_ct (E := { T := tab, G := [(136, impl_isSide_c), (175, impl_from_c), (176, impl_isTime_c), (177, impl_PieceOk_c), (178, slices_ContainsFunc_impl_Side_c), (179, impl_StateOk_1_c)] }) (EnvOk.cons impl_isSide_ct (EnvOk.cons impl_from_ct (EnvOk.cons impl_isTime_ct (EnvOk.cons impl_PieceOk_ct (EnvOk.cons slices_ContainsFunc_impl_Side_ct (EnvOk.cons impl_StateOk_1_ct (EnvOk.nil tabOk))))))) mixed (fn := Try.f67) _ _ _ _ _ impl_StateOk_h Try.func67 (by kernel_rfl) (fun x => by kernel_rfl)
/-! loop.example/g00486/impl.Plus -/
def impl_Plus (a0 : Int) (a1 : Int) : Option Int :=
(impl_Bound a0).bind fun y1 =>
(impl_Bound a1).bind fun y2 =>
(impl_Bound (IntKind.wrap .i64 (y1 + y2))).bind fun y3 =>
 some y3
def impl_Plus_c : Ct := .pure true false (.pair (.int .i64) (.pair (.int .i64) .unit)) (.int .i64) (fun x => impl_Plus x.1 x.2.1)
theorem impl_Plus_ct : CtOk Try.prog 264 impl_Plus_c := pure_ct (E := { T := tab, G := [(180, impl_Bound_c)] }) (EnvOk.cons impl_Bound_ct (EnvOk.nil tabOk)) mixed (fn := Try.f264) _ _ _ _ _ .none Try.func264 (by kernel_rfl) (fun x => by kernel_rfl)
/-! loop.example/g00486/impl.Less -/
def impl_Less (a0 : Int) (a1 : Int) : Option Int :=
(impl_Bound a0).bind fun y1 =>
(impl_Bound a1).bind fun y2 =>
(impl_Bound (IntKind.wrap .i64 (y1 - y2))).bind fun y3 =>
 some y3
def impl_Less_c : Ct := .pure true false (.pair (.int .i64) (.pair (.int .i64) .unit)) (.int .i64) (fun x => impl_Less x.1 x.2.1)
theorem impl_Less_ct : CtOk Try.prog 263 impl_Less_c := pure_ct (E := { T := tab, G := [(180, impl_Bound_c)] }) (EnvOk.cons impl_Bound_ct (EnvOk.nil tabOk)) mixed (fn := Try.f263) _ _ _ _ _ .none Try.func263 (by kernel_rfl) (fun x => by kernel_rfl)
/-! loop.example/g00486/impl.ToughOf -/
def impl_ToughOf (a0 : T_Piece.D) : Option Int :=
(impl_Plus a0.2.2.2.2.2.2.1 a0.2.2.2.2.2.2.2.2.1).bind fun y1 =>
(impl_Less y1 a0.2.2.2.2.2.2.2.2.2.1).bind fun y2 =>
 some y2
def impl_ToughOf_c : Ct := .pure true false (.pair T_Piece .unit) (.int .i64) (fun x => impl_ToughOf x.1)
theorem impl_ToughOf_ct : CtOk Try.prog 194 impl_ToughOf_c := pure_ct (E := { T := tab, G := [(263, impl_Less_c), (264, impl_Plus_c)] }) (EnvOk.cons impl_Less_ct (EnvOk.cons impl_Plus_ct (EnvOk.nil tabOk))) mixed (fn := Try.f194) _ _ _ _ _ .none Try.func194 (by kernel_rfl) (fun x => by kernel_rfl)
/-! loop.example/g00486/impl.HasTrait -/
def impl_HasTrait (a0 : T_Piece.D) (a1 : Int) : Option Bool :=
((bif (a1 == 1) then (
 some (a1 == 1))
 else (
((bif (a1 == 2) then (
 some (a1 == 2))
 else (
((bif (a1 == 4) then (
 some (a1 == 4))
 else (
((bif (a1 == 8) then (
 some (a1 == 8))
 else (
((bif (a1 == 16) then (
 some (a1 == 16))
 else (
 some (a1 == 32))) : Option Bool).bind fun o1 =>
 some o1)) : Option Bool).bind fun o2 =>
 some o2)) : Option Bool).bind fun o3 =>
 some o3)) : Option Bool).bind fun o4 =>
 some o4)) : Option Bool).bind fun o5 =>
 bif o5 then (
 let k6 : Int := IntKind.wrap .i64 (BitVec.ofInt (IntKind.bits .i64) a0.2.2.2.2.2.2.2.1 &&& BitVec.ofInt (IntKind.bits .i64) a1).toNat
 some (k6 != 0))
 else (
 some false)
def impl_HasTrait_h : Hints := (.node none none .none (.node none none (.node none none .none (.node none none (.node none none (.node none none .none (.node (some ⟨[.tmp 6 .bool], [none], none, []⟩) none .none (.node none none .none (.node (some ⟨[.tmp 6 .bool], [none], none, []⟩) none .none (.node none none .none (.node (some ⟨[.tmp 6 .bool], [none], none, []⟩) none .none (.node none none .none (.node (some ⟨[.tmp 6 .bool], [none], none, []⟩) none .none (.node none none .none (.node (some ⟨[.tmp 6 .bool], [none], none, []⟩) none .none .none)))))))))) .none) .none)) .none))
def impl_HasTrait_c : Ct := .pure true false (.pair T_Piece (.pair (.int .i64) .unit)) .bool (fun x => impl_HasTrait x.1 x.2.1)
theorem impl_HasTrait_ct : CtOk Try.prog 20 impl_HasTrait_c := pure_ct (E := { T := tab, G := [] }) (EnvOk.nil tabOk) mixed (fn := Try.f20) _ _ _ _ _ impl_HasTrait_h Try.func20 (by kernel_rfl) (fun x => by kernel_rfl)
/-! loop.example/g00486/impl.Doomed -/
def impl_Doomed (a0 : T_Piece.D) : Option Bool :=
 bif (a0.2.2.2.1 == 2) then (
(impl_ToughOf a0).bind fun y1 =>
 bif decide (y1 ≤ 0) then (
 some true)
 else (
(impl_HasTrait a0 8).bind fun y2 =>
 bif (!y2) then (
 bif a0.2.2.2.2.2.2.2.2.2.2.2.1 then (
 some true)
 else (
(impl_ToughOf a0).bind fun y3 =>
 some (decide (a0.2.2.2.2.2.2.2.2.2.2.1 ≥ y3))))
 else (
 some false)))
 else (
 some false)
def impl_Doomed_c : Ct := .pure true false (.pair T_Piece .unit) .bool (fun x => impl_Doomed x.1)
theorem impl_Doomed_ct : CtOk Try.prog 82 impl_Doomed_c := pure_ct (E := { T := tab, G := [(20, impl_HasTrait_c), (194, impl_ToughOf_c)] }) (EnvOk.cons impl_HasTrait_ct (EnvOk.cons impl_ToughOf_ct (EnvOk.nil tabOk))) mixed (fn := Try.f82) _ _ _ _ _ .none Try.func82 (by kernel_rfl) (fun x => by kernel_rfl)
/-! loop.example/g00486/impl.Moved -/
def impl_Moved (a0 : T_Piece.D) (a1 : Int) (a2 : Int) : Option T_Piece.D :=
 some (a0.1, a0.2.1, a0.2.1, a1, a2, a0.2.2.2.2.2.1, a0.2.2.2.2.2.2.1, a0.2.2.2.2.2.2.2.1, 0, 0, 0, false, false, ())
def impl_Moved_c : Ct := .pure true false (.pair T_Piece (.pair (.int .i64) (.pair (.int .i64) .unit))) T_Piece (fun x => impl_Moved x.1 x.2.1 x.2.2.1)
theorem impl_Moved_ct : CtOk Try.prog 261 impl_Moved_c := pure_ct (E := { T := tab, G := [] }) (EnvOk.nil tabOk) mixed (fn := Try.f261) _ _ _ _ _ .none Try.func261 (by kernel_rfl) (fun x => by kernel_rfl)
/-! loop.example/g00486/impl.Round -/
def impl_Round_l1 (a0 : T_State.D) : ((List T_Note.D) × (Int × ((List T_Piece.D) × ((List T_Side.D) × (Int × (Int × Unit)))))) → Option (((List T_Note.D) × (Int × ((List T_Piece.D) × ((List T_Side.D) × (Int × (Int × Unit)))))) ⊕ ((List T_Note.D) × (Int × ((List T_Piece.D) × ((List T_Side.D) × (Int × (Int × Unit))))))) := fun s4 =>
 bif decide (s4.2.1 < (a0.2.1.length : Int)) then (
 idx a0.2.1 s4.2.1 fun x5 =>
((bif (!x5.2.2.1) then (
 bif decide (x5.1 ≤ 0) then (
 some true)
 else (
 some (decide (x5.2.1 ≥ 10))))
 else (
 some false)) : Option Bool).bind fun o6 =>
 bif o6 then (
 idx s4.2.2.2.1 s4.2.1 fun _ =>
(s4.2.2.2.1[(s4.2.1 : Int).toNat]?).bind fun x7 =>
 let u8 : (List T_Side.D) := s4.2.2.2.1.set (s4.2.1 : Int).toNat (x7.1, x7.2.1, true, ())
 if (s4.1.length + ([(5, (0, 0, 0, 0, 0, 0, false, ()), 0, s4.2.1, (0, 0, 0, 0, 0, 0, 0, 0, 0, 0, 0, false, false, ()), ())] : List T_Note.D).length) * (24 * 23) ≤ room then (
 some (.inl ((s4.1 ++ ([(5, (0, 0, 0, 0, 0, 0, false, ()), 0, s4.2.1, (0, 0, 0, 0, 0, 0, 0, 0, 0, 0, 0, false, false, ()), ())] : List T_Note.D)), IntKind.wrap .i64 (s4.2.1 + 1), s4.2.2.1, u8, s4.2.2.2.2))) else none)
 else (
 some (.inl (s4.1, IntKind.wrap .i64 (s4.2.1 + 1), s4.2.2))))
 else (
 some (.inr s4))
def impl_Round_l2 (a0 : T_State.D) : ((List T_Note.D) × (Int × ((List T_Piece.D) × ((List T_Side.D) × (Int × (Int × Unit)))))) → Option (((List T_Note.D) × (Int × ((List T_Piece.D) × ((List T_Side.D) × (Int × (Int × Unit)))))) ⊕ ((List T_Note.D) × (Int × ((List T_Piece.D) × ((List T_Side.D) × (Int × (Int × Unit))))))) := fun s11 =>
 bif decide (s11.2.1 < (a0.1.length : Int)) then (
 idx a0.1 s11.2.1 fun x12 =>
(impl_Doomed x12).bind fun y13 =>
 bif y13 then (
(impl_Moved x12 3 a0.2.2.2.1).bind fun y14 =>
 idx s11.2.2.1 s11.2.1 fun _ =>
(s11.2.2.1[(s11.2.1 : Int).toNat]?).bind fun x15 =>
 let u16 : (List T_Piece.D) := s11.2.2.1.set (s11.2.1 : Int).toNat y14
 if (s11.1.length + ([(6, (0, 0, 0, 0, 0, 0, false, ()), 0, 0, x12, ())] : List T_Note.D).length) * (24 * 23) ≤ room then (
 some (.inl ((s11.1 ++ ([(6, (0, 0, 0, 0, 0, 0, false, ()), 0, 0, x12, ())] : List T_Note.D)), IntKind.wrap .i64 (s11.2.1 + 1), u16, s11.2.2.2))) else none)
 else (
((bif (x12.2.2.2.1 == 2) then (
 some (decide ((if x12.2.2.2.2.2.2.2.2.2.1 < x12.2.2.2.2.2.2.2.2.1 then x12.2.2.2.2.2.2.2.2.2.1 else x12.2.2.2.2.2.2.2.2.1) > 0)))
 else (
 some false)) : Option Bool).bind fun o17 =>
 bif o17 then (
 idx s11.2.2.1 s11.2.1 fun _ =>
(s11.2.2.1[(s11.2.1 : Int).toNat]?).bind fun x18 =>
 let k19 : Int := IntKind.wrap .i64 (x18.2.2.2.2.2.2.2.2.1 - (if x12.2.2.2.2.2.2.2.2.2.1 < x12.2.2.2.2.2.2.2.2.1 then x12.2.2.2.2.2.2.2.2.2.1 else x12.2.2.2.2.2.2.2.2.1))
 idx s11.2.2.1 s11.2.1 fun _ =>
(s11.2.2.1[(s11.2.1 : Int).toNat]?).bind fun x20 =>
 let u21 : (List T_Piece.D) := s11.2.2.1.set (s11.2.1 : Int).toNat (x20.1, x20.2.1, x20.2.2.1, x20.2.2.2.1, x20.2.2.2.2.1, x20.2.2.2.2.2.1, x20.2.2.2.2.2.2.1, x20.2.2.2.2.2.2.2.1, k19, x20.2.2.2.2.2.2.2.2.2)
 idx u21 s11.2.1 fun _ =>
(u21[(s11.2.1 : Int).toNat]?).bind fun x22 =>
 let k23 : Int := IntKind.wrap .i64 (x22.2.2.2.2.2.2.2.2.2.1 - (if x12.2.2.2.2.2.2.2.2.2.1 < x12.2.2.2.2.2.2.2.2.1 then x12.2.2.2.2.2.2.2.2.2.1 else x12.2.2.2.2.2.2.2.2.1))
 idx u21 s11.2.1 fun _ =>
(u21[(s11.2.1 : Int).toNat]?).bind fun x24 =>
 let u25 : (List T_Piece.D) := u21.set (s11.2.1 : Int).toNat (x24.1, x24.2.1, x24.2.2.1, x24.2.2.2.1, x24.2.2.2.2.1, x24.2.2.2.2.2.1, x24.2.2.2.2.2.2.1, x24.2.2.2.2.2.2.2.1, x24.2.2.2.2.2.2.2.2.1, k23, x24.2.2.2.2.2.2.2.2.2.2)
 if (s11.1.length + ([(7, (0, 0, 0, 0, 0, 0, false, ()), (if x12.2.2.2.2.2.2.2.2.2.1 < x12.2.2.2.2.2.2.2.2.1 then x12.2.2.2.2.2.2.2.2.2.1 else x12.2.2.2.2.2.2.2.2.1), 0, x12, ())] : List T_Note.D).length) * (24 * 23) ≤ room then (
 some (.inl ((s11.1 ++ ([(7, (0, 0, 0, 0, 0, 0, false, ()), (if x12.2.2.2.2.2.2.2.2.2.1 < x12.2.2.2.2.2.2.2.2.1 then x12.2.2.2.2.2.2.2.2.2.1 else x12.2.2.2.2.2.2.2.2.1), 0, x12, ())] : List T_Note.D)), IntKind.wrap .i64 (s11.2.1 + 1), u25, s11.2.2.2))) else none)
 else (
 some (.inl (s11.1, IntKind.wrap .i64 (s11.2.1 + 1), s11.2.2)))))
 else (
 some (.inr s11))
def impl_Round (a0 : T_State.D) : Option (T_State.D × ((List T_Note.D) × Unit)) :=
(impl_copyState a0).bind fun y1 =>
(impl_StateOk a0).bind fun y2 =>
 bif (!y2) then (
 some (y1, [], ()))
 else (
(while_ (impl_Round_l1 a0) ([], 0, y1)).bind fun o9 =>
(while_ (impl_Round_l2 a0) (o9.1, 0, o9.2.2)).bind fun o26 =>
 some (o26.2.2, o26.1, ()))
def impl_Round_h : Hints := (.node none none .none (.node none none .none (.node none none .none (.node none none .none (.node none none (.node none none .none (.node none none (.node none (some ⟨[.tmpO 5 0 (.slice T_Note), .tmp 22 (.int .i64), .boxO 4 0 1 T_State], [some 0], none, []⟩) (.node none none .none (.node none none .none (.node none none (.node none none (.node none none .none (.node none none (.node (some ⟨[.tmp 39 .bool], [none], none, []⟩) none .none .none) .none)) .none) .none))) .none) .none)) (.node none none (.node none none .none (.node none none (.node none (some ⟨[.tmpO 5 1 (.slice T_Note), .tmp 54 (.int .i64), .boxO 4 0 3 T_State], [some 2], none, []⟩) (.node none none .none (.node none none .none (.node none none (.node none none (.node none none .none (.node none none .none (.node none none (.node none none .none (.node none none .none (.node none none (.node (some ⟨[.tmp 80 .bool], [none], none, []⟩) none .none .none) .none))) .none))) .none) .none))) .none) .none)) .none))))))
def impl_Round_c : Ct := .pure false false (.pair T_State .unit) (.pair T_State (.pair (.slice T_Note) .unit)) (fun x => impl_Round x.1)
theorem impl_Round_ct : CtOk Try.prog 192 impl_Round_c := pure_ct (E := { T := tab, G := [(67, impl_StateOk_c), (82, impl_Doomed_c), (156, impl_copyState_fresh_c), (261, impl_Moved_c)] }) (EnvOk.cons impl_StateOk_ct (EnvOk.cons impl_Doomed_ct (EnvOk.cons impl_copyState_fresh_ct (EnvOk.cons impl_Moved_ct (EnvOk.nil tabOk))))) mixed (fn := Try.f192) _ _ _ _ _ impl_Round_h Try.func192 (by kernel_rfl) (fun x => by kernel_rfl)
def impl_Round_fresh_c : Ct := .pure false true (.pair T_State .unit) (.pair T_State (.pair (.slice T_Note) .unit)) (fun x => impl_Round x.1)
theorem impl_Round_fresh_ct : CtOk Try.prog 192 impl_Round_fresh_c := pure_ct (E := { T := tab, G := [(67, impl_StateOk_c), (82, impl_Doomed_c), (156, impl_copyState_fresh_c), (261, impl_Moved_c)] }) (EnvOk.cons impl_StateOk_ct (EnvOk.cons impl_Doomed_ct (EnvOk.cons impl_copyState_fresh_ct (EnvOk.cons impl_Moved_ct (EnvOk.nil tabOk))))) mixed (fn := Try.f192) _ _ _ _ _ impl_Round_h Try.func192 (by kernel_rfl) (fun x => by kernel_rfl)
/-! loop.example/g00486/impl.Settle -/
def impl_Settle_l1 : ((List T_Note.D) × (Int × (T_State.D × ((List T_Piece.D) × ((List T_Side.D) × (Int × (Int × Unit))))))) → Option (((List T_Note.D) × (Int × (T_State.D × ((List T_Piece.D) × ((List T_Side.D) × (Int × (Int × Unit))))))) ⊕ ((List T_Note.D) × (Int × ((List T_Piece.D) × ((List T_Side.D) × (Int × (Int × Unit))))))) := fun s4 =>
(impl_Round s4.2.2.2).bind fun y5 =>
 bif ((y5.2.1.length : Int) == 0) then (
 some (.inr (s4.1, s4.2.1, s4.2.2.2)))
 else (
 if (s4.1.length + y5.2.1.length) * (24 * 23) ≤ room then (
 some (.inl ((s4.1 ++ y5.2.1), IntKind.wrap .i64 (s4.2.1 + 1), s4.2.2.1, y5.1))) else none)
def impl_Settle (a0 : T_State.D) : Option (T_State.D × ((List T_Note.D) × (Int × Unit))) :=
(impl_copyState a0).bind fun y1 =>
(while_ (impl_Settle_l1) ([], 0, ([], [], 0, 0, ()), y1)).bind fun o6 =>
 some (o6.2.2, o6.1, o6.2.1, ())
def impl_Settle_h : Hints := (.node none none .none (.node none none .none (.node none none .none (.node none none .none (.node none none (.node none (some ⟨[.tmpO 5 0 (.slice T_Note), .tmp 6 (.int .i64), .boxO 2 0 1 T_State, .boxO 1 0 1 T_State], [], some [.tmpO 3 0 (.slice T_Note), .tmp 4 (.int .i64), .boxO 2 0 1 T_State], []⟩) .none .none) .none)))))
def impl_Settle_c : Ct := .pure false false (.pair T_State .unit) (.pair T_State (.pair (.slice T_Note) (.pair (.int .i64) .unit))) (fun x => impl_Settle x.1)
theorem impl_Settle_ct : CtOk Try.prog 78 impl_Settle_c := pure_ct (E := { T := tab, G := [(156, impl_copyState_fresh_c), (192, impl_Round_fresh_c)] }) (EnvOk.cons impl_copyState_fresh_ct (EnvOk.cons impl_Round_fresh_ct (EnvOk.nil tabOk))) mixed (fn := Try.f78) _ _ _ _ _ impl_Settle_h Try.func78 (by kernel_rfl) (fun x => by kernel_rfl)
def impl_Settle_fresh_c : Ct := .pure false true (.pair T_State .unit) (.pair T_State (.pair (.slice T_Note) (.pair (.int .i64) .unit))) (fun x => impl_Settle x.1)
theorem impl_Settle_fresh_ct : CtOk Try.prog 78 impl_Settle_fresh_c := pure_ct (E := { T := tab, G := [(156, impl_copyState_fresh_c), (192, impl_Round_fresh_c)] }) (EnvOk.cons impl_copyState_fresh_ct (EnvOk.cons impl_Round_fresh_ct (EnvOk.nil tabOk))) mixed (fn := Try.f78) _ _ _ _ _ impl_Settle_h Try.func78 (by kernel_rfl) (fun x => by kernel_rfl)
/-! loop.example/g00486/spec.l5Copy -/
def spec_l5Copy (a0 : T_State.D) : Option T_State.D :=
 if (([] : List T_Piece.D).length + a0.1.length) * (24 * 13) ≤ room then (
 if (([] : List T_Side.D).length + a0.2.1.length) * (24 * 3) ≤ room then (
 some (([] ++ a0.1), ([] ++ a0.2.1), a0.2.2)) else none) else none
def spec_l5Copy_c : Ct := .pure true false (.pair T_State .unit) T_State (fun x => spec_l5Copy x.1)
theorem spec_l5Copy_ct : CtOk Try.prog 150 spec_l5Copy_c := pure_ct (E := { T := tab, G := [] }) (EnvOk.nil tabOk) mixed (fn := Try.f150) _ _ _ _ _ .none Try.func150 (by kernel_rfl) (fun x => by kernel_rfl)
def spec_l5Copy_fresh_c : Ct := .pure true true (.pair T_State .unit) T_State (fun x => spec_l5Copy x.1)
theorem spec_l5Copy_fresh_ct : CtOk Try.prog 150 spec_l5Copy_fresh_c := pure_ct (E := { T := tab, G := [] }) (EnvOk.nil tabOk) mixed (fn := Try.f150) _ _ _ _ _ .none Try.func150 (by kernel_rfl) (fun x => by kernel_rfl)
/-! loop.example/g00486/spec.l1In -/
def spec_l1In (a0 : Int) (a1 : Int) (a2 : Int) : Option Bool :=
 bif decide (a0 ≥ a1) then (
 some (decide (a0 ≤ a2)))
 else (
 some false)
def spec_l1In_c : Ct := .pure true false (.pair (.int .i64) (.pair (.int .i64) (.pair (.int .i64) .unit))) .bool (fun x => spec_l1In x.1 x.2.1 x.2.2.1)
theorem spec_l1In_ct : CtOk Try.prog 138 spec_l1In_c := pure_ct (E := { T := tab, G := [] }) (EnvOk.nil tabOk) mixed (fn := Try.f138) _ _ _ _ _ .none Try.func138 (by kernel_rfl) (fun x => by kernel_rfl)
/-! loop.example/g00486/spec.PieceOk -/
def spec_PieceOk (a0 : T_Piece.D) : Option Bool :=
(((spec_l1In a0.1 1 99).bind fun y1 =>
 bif (!y1) then (
 some true)
 else (
(spec_l1In a0.2.1 0 2).bind fun y2 =>
 bif (!y2) then (
 some true)
 else (
(spec_l1In a0.2.2.1 0 2).bind fun y3 =>
 bif (!y3) then (
 some true)
 else (
(spec_l1In a0.2.2.2.1 1 4).bind fun y4 =>
 bif (!y4) then (
 some true)
 else (
(spec_l1In a0.2.2.2.2.1 0 9999).bind fun y5 =>
 bif (!y5) then (
 some true)
 else (
(spec_l1In a0.2.2.2.2.2.1 0 999).bind fun y6 =>
 bif (!y6) then (
 some true)
 else (
(spec_l1In a0.2.2.2.2.2.2.1 0 999).bind fun y7 =>
 bif (!y7) then (
 some true)
 else (
(spec_l1In a0.2.2.2.2.2.2.2.1 0 63).bind fun y8 =>
 some (!y8))))))))) : Option Bool).bind fun o9 =>
 bif o9 then (
 some false)
 else (
(((spec_l1In a0.2.2.2.2.2.2.2.2.1 0 2147483647).bind fun y10 =>
 bif (!y10) then (
 some true)
 else (
(spec_l1In a0.2.2.2.2.2.2.2.2.2.1 0 2147483647).bind fun y11 =>
 bif (!y11) then (
 some true)
 else (
(spec_l1In a0.2.2.2.2.2.2.2.2.2.2.1 0 2147483647).bind fun y12 =>
 some (!y12)))) : Option Bool).bind fun o13 =>
 bif o13 then (
 some false)
 else (
 bif (a0.2.2.2.1 == 2) then (
 some true)
 else (
 bif (a0.2.2.1 == a0.2.1) then (
 bif (a0.2.2.2.2.2.2.2.2.1 == 0) then (
 bif (a0.2.2.2.2.2.2.2.2.2.1 == 0) then (
 bif (a0.2.2.2.2.2.2.2.2.2.2.1 == 0) then (
 bif (!a0.2.2.2.2.2.2.2.2.2.2.2.1) then (
 some (!a0.2.2.2.2.2.2.2.2.2.2.2.2.1))
 else (
 some false))
 else (
 some false))
 else (
 some false))
 else (
 some false))
 else (
 some false))))
def spec_PieceOk_h : Hints := (.node none none .none (.node none none (.node none none (.node (some ⟨[.tmp 48 .bool], [none], none, []⟩) none .none .none) .none) (.node none none (.node none none (.node (some ⟨[.tmp 64 .bool], [none], none, []⟩) none .none .none) .none) .none)))
def spec_PieceOk_c : Ct := .pure true false (.pair T_Piece .unit) .bool (fun x => spec_PieceOk x.1)
theorem spec_PieceOk_ct : CtOk Try.prog 245 spec_PieceOk_c := pure_ct (E := { T := tab, G := [(138, spec_l1In_c)] }) (EnvOk.cons spec_l1In_ct (EnvOk.nil tabOk)) mixed (fn := Try.f245) _ _ _ _ _ spec_PieceOk_h Try.func245 (by kernel_rfl) (fun x => by kernel_rfl)
/-! loop.example/g00486/spec.l5Side -/
def spec_l5Side (a0 : T_Side.D) : Option Bool :=
(spec_l1In a0.1 (-2147483647) 2147483647).bind fun y1 =>
 bif y1 then (
(spec_l1In a0.2.1 0 2147483647).bind fun y2 =>
 some y2)
 else (
 some false)
def spec_l5Side_c : Ct := .pure true false (.pair T_Side .unit) .bool (fun x => spec_l5Side x.1)
theorem spec_l5Side_ct : CtOk Try.prog 246 spec_l5Side_c := pure_ct (E := { T := tab, G := [(138, spec_l1In_c)] }) (EnvOk.cons spec_l1In_ct (EnvOk.nil tabOk)) mixed (fn := Try.f246) _ _ _ _ _ .none Try.func246 (by kernel_rfl) (fun x => by kernel_rfl)
/-! loop.example/g00486/spec.StateOk -/
def spec_StateOk_l1 (a0 : T_State.D) : Int → Option (Int ⊕ (Int ⊕ Bool)) := fun s5 =>
 bif decide (s5 < (a0.1.length : Int)) then (
 idx a0.1 s5 fun x6 =>
(((spec_PieceOk x6).bind fun y7 =>
 bif (!y7) then (
 some true)
 else (
 bif decide (s5 > 0) then (
 idx a0.1 (IntKind.wrap .i64 (s5 - 1)) fun x8 =>
 bif decide (x8.1 ≥ x6.1) then (
 some true)
 else (
 bif decide (x6.2.1 ≥ (a0.2.1.length : Int)) then (
 some true)
 else (
 bif decide (x6.2.2.1 ≥ (a0.2.1.length : Int)) then (
 some true)
 else (
 some (decide (x6.2.2.2.2.1 > a0.2.2.2.1))))))
 else (
 bif decide (x6.2.1 ≥ (a0.2.1.length : Int)) then (
 some true)
 else (
 bif decide (x6.2.2.1 ≥ (a0.2.1.length : Int)) then (
 some true)
 else (
 some (decide (x6.2.2.2.2.1 > a0.2.2.2.1))))))) : Option Bool).bind fun o9 =>
 bif o9 then (
 some (.inr (.inr false)))
 else (
 some (.inl (IntKind.wrap .i64 (s5 + 1)))))
 else (
 some (.inr (.inl s5)))
def spec_StateOk_l2 (a0 : T_State.D) : Int → Option (Int ⊕ (Int ⊕ Bool)) := fun s13 =>
 bif decide (s13 < (a0.2.1.length : Int)) then (
 idx a0.2.1 s13 fun x14 =>
(spec_l5Side x14).bind fun y15 =>
 bif (!y15) then (
 some (.inr (.inr false)))
 else (
 some (.inl (IntKind.wrap .i64 (s13 + 1)))))
 else (
 some (.inr (.inl s13)))
def spec_StateOk (a0 : T_State.D) : Option Bool :=
((bif decide ((a0.1.length : Int) > 8) then (
 some true)
 else (
(spec_l1In (a0.2.1.length : Int) 2 3).bind fun y1 =>
 bif (!y1) then (
 some true)
 else (
(spec_l1In a0.2.2.1 0 (IntKind.wrap .i64 ((a0.2.1.length : Int) - 1))).bind fun y2 =>
 bif (!y2) then (
 some true)
 else (
(spec_l1In a0.2.2.2.1 0 9999).bind fun y3 =>
 some (!y3))))) : Option Bool).bind fun o4 =>
 bif o4 then (
 some false)
 else (
(while_ (spec_StateOk_l1 a0) 0).bind fun o10 =>
 match o10 with
| .inl s11 => (
(while_ (spec_StateOk_l2 a0) 0).bind fun o16 =>
 match o16 with
| .inl s17 => (
 some true)
| .inr o18 => (
 some o18))
| .inr o12 => (
 some o12))
def spec_StateOk_h : Hints := (.node none none .none (.node none none (.node none none (.node (some ⟨[.tmp 32 .bool], [none], none, []⟩) none .none .none) .none) (.node none none (.node none none .none (.node none none (.node none (some ⟨[.tmp 3 (.int .i64)], [some 0], some [.tmp 2 .bool], []⟩) (.node none none .none (.node none none (.node none none (.node none none .none (.node none none (.node (some ⟨[.tmp 86 .bool], [none], none, []⟩) none .none .none) .none)) .none) .none)) .none) .none)) (.node none none (.node none none .none (.node none none (.node none (some ⟨[.tmp 5 (.int .i64)], [some 2], some [.tmp 2 .bool], []⟩) .none .none) .none)) .none))))
def spec_StateOk_c : Ct := .pure true false (.pair T_State .unit) .bool (fun x => spec_StateOk x.1)
theorem spec_StateOk_ct : CtOk Try.prog 151 spec_StateOk_c := pure_ct (E := { T := tab, G := [(138, spec_l1In_c), (245, spec_PieceOk_c), (246, spec_l5Side_c)] }) (EnvOk.cons spec_l1In_ct (EnvOk.cons spec_PieceOk_ct (EnvOk.cons spec_l5Side_ct (EnvOk.nil tabOk)))) mixed (fn := Try.f151) _ _ _ _ _ spec_StateOk_h Try.func151 (by kernel_rfl) (fun x => by kernel_rfl)
/-! loop.example/g00486/spec.Bound -/
def spec_Bound (a0 : Int) : Option Int :=
 bif decide (a0 > 2147483647) then (
 some 2147483647)
 else (
 bif decide (a0 < (-2147483647)) then (
 some (-2147483647))
 else (
 some a0))
def spec_Bound_c : Ct := .pure true false (.pair (.int .i64) .unit) (.int .i64) (fun x => spec_Bound x.1)
theorem spec_Bound_ct : CtOk Try.prog 311 spec_Bound_c := pure_ct (E := { T := tab, G := [] }) (EnvOk.nil tabOk) mixed (fn := Try.f311) _ _ _ _ _ .none Try.func311 (by kernel_rfl) (fun x => by kernel_rfl)
/-! loop.example/g00486/spec.Plus -/
def spec_Plus (a0 : Int) (a1 : Int) : Option Int :=
(spec_Bound a0).bind fun y1 =>
(spec_Bound a1).bind fun y2 =>
(spec_Bound (IntKind.wrap .i64 (y1 + y2))).bind fun y3 =>
 some y3
def spec_Plus_c : Ct := .pure true false (.pair (.int .i64) (.pair (.int .i64) .unit)) (.int .i64) (fun x => spec_Plus x.1 x.2.1)
theorem spec_Plus_ct : CtOk Try.prog 297 spec_Plus_c := pure_ct (E := { T := tab, G := [(311, spec_Bound_c)] }) (EnvOk.cons spec_Bound_ct (EnvOk.nil tabOk)) mixed (fn := Try.f297) _ _ _ _ _ .none Try.func297 (by kernel_rfl) (fun x => by kernel_rfl)
/-! loop.example/g00486/spec.Less -/
def spec_Less (a0 : Int) (a1 : Int) : Option Int :=
(spec_Bound a0).bind fun y1 =>
(spec_Bound a1).bind fun y2 =>
(spec_Bound (IntKind.wrap .i64 (y1 - y2))).bind fun y3 =>
 some y3
def spec_Less_c : Ct := .pure true false (.pair (.int .i64) (.pair (.int .i64) .unit)) (.int .i64) (fun x => spec_Less x.1 x.2.1)
theorem spec_Less_ct : CtOk Try.prog 291 spec_Less_c := pure_ct (E := { T := tab, G := [(311, spec_Bound_c)] }) (EnvOk.cons spec_Bound_ct (EnvOk.nil tabOk)) mixed (fn := Try.f291) _ _ _ _ _ .none Try.func291 (by kernel_rfl) (fun x => by kernel_rfl)
/-! loop.example/g00486/spec.ToughOf -/
def spec_ToughOf (a0 : T_Piece.D) : Option Int :=
(spec_Plus a0.2.2.2.2.2.2.1 a0.2.2.2.2.2.2.2.2.1).bind fun y1 =>
(spec_Less y1 a0.2.2.2.2.2.2.2.2.2.1).bind fun y2 =>
 some y2
def spec_ToughOf_c : Ct := .pure true false (.pair T_Piece .unit) (.int .i64) (fun x => spec_ToughOf x.1)
theorem spec_ToughOf_ct : CtOk Try.prog 299 spec_ToughOf_c := pure_ct (E := { T := tab, G := [(291, spec_Less_c), (297, spec_Plus_c)] }) (EnvOk.cons spec_Less_ct (EnvOk.cons spec_Plus_ct (EnvOk.nil tabOk))) mixed (fn := Try.f299) _ _ _ _ _ .none Try.func299 (by kernel_rfl) (fun x => by kernel_rfl)
/-! loop.example/g00486/spec.HasTrait -/
def spec_HasTrait (a0 : T_Piece.D) (a1 : Int) : Option Bool :=
 bif (a1 == 1) then (
 let k1 : Int := IntKind.wrap .i64 (BitVec.ofInt (IntKind.bits .i64) a0.2.2.2.2.2.2.2.1 &&& BitVec.ofInt (IntKind.bits .i64) a1).toNat
 some (k1 != 0))
 else (
 bif (a1 == 2) then (
 let k2 : Int := IntKind.wrap .i64 (BitVec.ofInt (IntKind.bits .i64) a0.2.2.2.2.2.2.2.1 &&& BitVec.ofInt (IntKind.bits .i64) a1).toNat
 some (k2 != 0))
 else (
 bif (a1 == 4) then (
 let k3 : Int := IntKind.wrap .i64 (BitVec.ofInt (IntKind.bits .i64) a0.2.2.2.2.2.2.2.1 &&& BitVec.ofInt (IntKind.bits .i64) a1).toNat
 some (k3 != 0))
 else (
 bif (a1 == 8) then (
 let k4 : Int := IntKind.wrap .i64 (BitVec.ofInt (IntKind.bits .i64) a0.2.2.2.2.2.2.2.1 &&& BitVec.ofInt (IntKind.bits .i64) a1).toNat
 some (k4 != 0))
 else (
 bif (a1 == 16) then (
 let k5 : Int := IntKind.wrap .i64 (BitVec.ofInt (IntKind.bits .i64) a0.2.2.2.2.2.2.2.1 &&& BitVec.ofInt (IntKind.bits .i64) a1).toNat
 some (k5 != 0))
 else (
 bif (a1 == 32) then (
 let k6 : Int := IntKind.wrap .i64 (BitVec.ofInt (IntKind.bits .i64) a0.2.2.2.2.2.2.2.1 &&& BitVec.ofInt (IntKind.bits .i64) a1).toNat
 some (k6 != 0))
 else (
 some false))))))
def spec_HasTrait_c : Ct := .pure true false (.pair T_Piece (.pair (.int .i64) .unit)) .bool (fun x => spec_HasTrait x.1 x.2.1)
theorem spec_HasTrait_ct : CtOk Try.prog 124 spec_HasTrait_c := pure_ct (E := { T := tab, G := [] }) (EnvOk.nil tabOk) mixed (fn := Try.f124) _ _ _ _ _ .none Try.func124 (by kernel_rfl) (fun x => by kernel_rfl)
/-! loop.example/g00486/spec.Doomed -/
def spec_Doomed (a0 : T_Piece.D) : Option Bool :=
 bif (a0.2.2.2.1 != 2) then (
 some false)
 else (
(spec_ToughOf a0).bind fun y1 =>
 bif decide (y1 ≤ 0) then (
 some true)
 else (
(spec_HasTrait a0 8).bind fun y2 =>
 bif (!y2) then (
 bif a0.2.2.2.2.2.2.2.2.2.2.2.1 then (
 some true)
 else (
 some (decide (a0.2.2.2.2.2.2.2.2.2.2.1 ≥ y1))))
 else (
 some false)))
def spec_Doomed_c : Ct := .pure true false (.pair T_Piece .unit) .bool (fun x => spec_Doomed x.1)
theorem spec_Doomed_ct : CtOk Try.prog 262 spec_Doomed_c := pure_ct (E := { T := tab, G := [(124, spec_HasTrait_c), (299, spec_ToughOf_c)] }) (EnvOk.cons spec_HasTrait_ct (EnvOk.cons spec_ToughOf_ct (EnvOk.nil tabOk))) mixed (fn := Try.f262) _ _ _ _ _ .none Try.func262 (by kernel_rfl) (fun x => by kernel_rfl)
/-! loop.example/g00486/spec.Moved -/
def spec_Moved (a0 : T_Piece.D) (a1 : Int) (a2 : Int) : Option T_Piece.D :=
 some (a0.1, a0.2.1, a0.2.1, a1, a2, a0.2.2.2.2.2.1, a0.2.2.2.2.2.2.1, a0.2.2.2.2.2.2.2.1, 0, 0, 0, false, false, ())
def spec_Moved_c : Ct := .pure true false (.pair T_Piece (.pair (.int .i64) (.pair (.int .i64) .unit))) T_Piece (fun x => spec_Moved x.1 x.2.1 x.2.2.1)
theorem spec_Moved_ct : CtOk Try.prog 249 spec_Moved_c := pure_ct (E := { T := tab, G := [] }) (EnvOk.nil tabOk) mixed (fn := Try.f249) _ _ _ _ _ .none Try.func249 (by kernel_rfl) (fun x => by kernel_rfl)
/-! loop.example/g00486/spec.Upto -/
def spec_Upto (a0 : Int) (a1 : Int) : Option Int :=
((bif decide (a1 < a0) then (
 some a1)
 else (
 some a0)) : Option Int).bind fun o1 =>
 bif decide (o1 < 0) then (
 some 0)
 else (
 some o1)
def spec_Upto_h : Hints := (.node none none .none (.node none none .none (.node none none (.node none none .none (.node (some ⟨[.tmp 5 (.int .i64)], [none], none, []⟩) none .none .none)) .none)))
def spec_Upto_c : Ct := .pure true false (.pair (.int .i64) (.pair (.int .i64) .unit)) (.int .i64) (fun x => spec_Upto x.1 x.2.1)
theorem spec_Upto_ct : CtOk Try.prog 174 spec_Upto_c := pure_ct (E := { T := tab, G := [] }) (EnvOk.nil tabOk) mixed (fn := Try.f174) _ _ _ _ _ spec_Upto_h Try.func174 (by kernel_rfl) (fun x => by kernel_rfl)
/-! loop.example/g00486/spec.Round -/
def spec_Round_l1 (a0 : T_State.D) : ((List T_Note.D) × (Int × ((List T_Piece.D) × ((List T_Side.D) × (Int × (Int × Unit)))))) → Option (((List T_Note.D) × (Int × ((List T_Piece.D) × ((List T_Side.D) × (Int × (Int × Unit)))))) ⊕ ((List T_Note.D) × (Int × ((List T_Piece.D) × ((List T_Side.D) × (Int × (Int × Unit))))))) := fun s4 =>
 bif decide (s4.2.1 < (a0.2.1.length : Int)) then (
 idx a0.2.1 s4.2.1 fun x5 =>
((bif (!x5.2.2.1) then (
 bif decide (x5.1 ≤ 0) then (
 some true)
 else (
 some (decide (x5.2.1 ≥ 10))))
 else (
 some false)) : Option Bool).bind fun o6 =>
((bif o6 then (
 idx s4.2.2.2.1 s4.2.1 fun _ =>
(s4.2.2.2.1[(s4.2.1 : Int).toNat]?).bind fun x7 =>
 let u8 : (List T_Side.D) := s4.2.2.2.1.set (s4.2.1 : Int).toNat (x7.1, x7.2.1, true, ())
 if (s4.1.length + ([(5, (0, 0, 0, 0, 0, 0, false, ()), 0, s4.2.1, (0, 0, 0, 0, 0, 0, 0, 0, 0, 0, 0, false, false, ()), ())] : List T_Note.D).length) * (24 * 23) ≤ room then (
 some ((s4.1 ++ ([(5, (0, 0, 0, 0, 0, 0, false, ()), 0, s4.2.1, (0, 0, 0, 0, 0, 0, 0, 0, 0, 0, 0, false, false, ()), ())] : List T_Note.D)), s4.2.2.1, u8, s4.2.2.2.2)) else none)
 else (
 some (s4.1, s4.2.2))) : Option ((List T_Note.D) × ((List T_Piece.D) × ((List T_Side.D) × (Int × (Int × Unit)))))).bind fun o9 =>
 some (.inl (o9.1, IntKind.wrap .i64 (s4.2.1 + 1), o9.2)))
 else (
 some (.inr s4))
def spec_Round_l2 (a0 : T_State.D) : ((List T_Note.D) × (Int × ((List T_Piece.D) × ((List T_Side.D) × (Int × (Int × Unit)))))) → Option (((List T_Note.D) × (Int × ((List T_Piece.D) × ((List T_Side.D) × (Int × (Int × Unit)))))) ⊕ ((List T_Note.D) × (Int × ((List T_Piece.D) × ((List T_Side.D) × (Int × (Int × Unit))))))) := fun s12 =>
 bif decide (s12.2.1 < (a0.1.length : Int)) then (
((idx a0.1 s12.2.1 fun x13 =>
(spec_Doomed x13).bind fun y14 =>
 bif y14 then (
(spec_Moved x13 3 a0.2.2.2.1).bind fun y15 =>
 idx s12.2.2.1 s12.2.1 fun _ =>
(s12.2.2.1[(s12.2.1 : Int).toNat]?).bind fun x16 =>
 let u17 : (List T_Piece.D) := s12.2.2.1.set (s12.2.1 : Int).toNat y15
 if (s12.1.length + ([(6, (0, 0, 0, 0, 0, 0, false, ()), 0, 0, x13, ())] : List T_Note.D).length) * (24 * 23) ≤ room then (
 some ((s12.1 ++ ([(6, (0, 0, 0, 0, 0, 0, false, ()), 0, 0, x13, ())] : List T_Note.D)), u17, s12.2.2.2)) else none)
 else (
(spec_Upto x13.2.2.2.2.2.2.2.2.1 x13.2.2.2.2.2.2.2.2.2.1).bind fun y18 =>
((bif (x13.2.2.2.1 == 2) then (
 some (decide (y18 > 0)))
 else (
 some false)) : Option Bool).bind fun o19 =>
((bif o19 then (
 idx s12.2.2.1 s12.2.1 fun _ =>
(s12.2.2.1[(s12.2.1 : Int).toNat]?).bind fun x20 =>
 let u21 : (List T_Piece.D) := s12.2.2.1.set (s12.2.1 : Int).toNat (x20.1, x20.2.1, x20.2.2.1, x20.2.2.2.1, x20.2.2.2.2.1, x20.2.2.2.2.2.1, x20.2.2.2.2.2.2.1, x20.2.2.2.2.2.2.2.1, IntKind.wrap .i64 (x13.2.2.2.2.2.2.2.2.1 - y18), x20.2.2.2.2.2.2.2.2.2)
 idx u21 s12.2.1 fun _ =>
(u21[(s12.2.1 : Int).toNat]?).bind fun x22 =>
 let u23 : (List T_Piece.D) := u21.set (s12.2.1 : Int).toNat (x22.1, x22.2.1, x22.2.2.1, x22.2.2.2.1, x22.2.2.2.2.1, x22.2.2.2.2.2.1, x22.2.2.2.2.2.2.1, x22.2.2.2.2.2.2.2.1, x22.2.2.2.2.2.2.2.2.1, IntKind.wrap .i64 (x13.2.2.2.2.2.2.2.2.2.1 - y18), x22.2.2.2.2.2.2.2.2.2.2)
 if (s12.1.length + ([(7, (0, 0, 0, 0, 0, 0, false, ()), y18, 0, x13, ())] : List T_Note.D).length) * (24 * 23) ≤ room then (
 some ((s12.1 ++ ([(7, (0, 0, 0, 0, 0, 0, false, ()), y18, 0, x13, ())] : List T_Note.D)), u23, s12.2.2.2)) else none)
 else (
 some (s12.1, s12.2.2))) : Option ((List T_Note.D) × ((List T_Piece.D) × ((List T_Side.D) × (Int × (Int × Unit)))))).bind fun o24 =>
 some o24)) : Option ((List T_Note.D) × ((List T_Piece.D) × ((List T_Side.D) × (Int × (Int × Unit)))))).bind fun o25 =>
 some (.inl (o25.1, IntKind.wrap .i64 (s12.2.1 + 1), o25.2)))
 else (
 some (.inr s12))
def spec_Round (a0 : T_State.D) : Option (T_State.D × ((List T_Note.D) × Unit)) :=
(spec_l5Copy a0).bind fun y1 =>
(spec_StateOk a0).bind fun y2 =>
 bif (!y2) then (
 some (y1, [], ()))
 else (
(while_ (spec_Round_l1 a0) ([], 0, y1)).bind fun o10 =>
(while_ (spec_Round_l2 a0) (o10.1, 0, o10.2.2)).bind fun o26 =>
 some (o26.2.2, o26.1, ()))
def spec_Round_h : Hints := (.node none none .none (.node none none .none (.node none none .none (.node none none .none (.node none none (.node none none .none (.node none none (.node none (some ⟨[.tmpO 5 0 (.slice T_Note), .tmp 6 (.int .i64), .boxO 4 0 1 T_State], [some 0], none, []⟩) (.node none none .none (.node none none (.node none none (.node none none .none (.node none none (.node (some ⟨[.tmp 43 .bool], [none], none, []⟩) none .none .none) (.node (some ⟨[.tmpO 5 1 (.slice T_Note), .boxO 4 0 3 T_State], [none], none, [(4, 2), (4, 0), (5, 0), (4, 1)]⟩) none .none .none))) .none) .none)) .none) .none)) (.node none none (.node none none .none (.node none none (.node none (some ⟨[.tmpO 5 1 (.slice T_Note), .tmp 8 (.int .i64), .boxO 4 0 3 T_State], [some 2], none, []⟩) (.node none none .none (.node none none (.node (some ⟨[.tmpO 5 2 (.slice T_Note), .boxO 4 0 5 T_State], [none], none, [(4, 3), (4, 0), (5, 1), (4, 4)]⟩) none (.node none none .none (.node none none .none (.node none none .none (.node none none (.node (some ⟨[.tmp 92 .bool], [none], none, []⟩) none .none .none) (.node (some ⟨[.tmpO 5 2 (.slice T_Note), .boxO 4 0 5 T_State], [none], none, [(4, 3), (4, 0), (5, 1), (4, 4)]⟩) none .none .none))))) .none) .none)) .none) .none)) .none))))))
def spec_Round_c : Ct := .pure false false (.pair T_State .unit) (.pair T_State (.pair (.slice T_Note) .unit)) (fun x => spec_Round x.1)
theorem spec_Round_ct : CtOk Try.prog 193 spec_Round_c := pure_ct (E := { T := tab, G := [(150, spec_l5Copy_fresh_c), (151, spec_StateOk_c), (174, spec_Upto_c), (249, spec_Moved_c), (262, spec_Doomed_c)] }) (EnvOk.cons spec_l5Copy_fresh_ct (EnvOk.cons spec_StateOk_ct (EnvOk.cons spec_Upto_ct (EnvOk.cons spec_Moved_ct (EnvOk.cons spec_Doomed_ct (EnvOk.nil tabOk)))))) mixed (fn := Try.f193) _ _ _ _ _ spec_Round_h Try.func193 (by kernel_rfl) (fun x => by kernel_rfl)
def spec_Round_fresh_c : Ct := .pure false true (.pair T_State .unit) (.pair T_State (.pair (.slice T_Note) .unit)) (fun x => spec_Round x.1)
theorem spec_Round_fresh_ct : CtOk Try.prog 193 spec_Round_fresh_c := pure_ct (E := { T := tab, G := [(150, spec_l5Copy_fresh_c), (151, spec_StateOk_c), (174, spec_Upto_c), (249, spec_Moved_c), (262, spec_Doomed_c)] }) (EnvOk.cons spec_l5Copy_fresh_ct (EnvOk.cons spec_StateOk_ct (EnvOk.cons spec_Upto_ct (EnvOk.cons spec_Moved_ct (EnvOk.cons spec_Doomed_ct (EnvOk.nil tabOk)))))) mixed (fn := Try.f193) _ _ _ _ _ spec_Round_h Try.func193 (by kernel_rfl) (fun x => by kernel_rfl)
/-! loop.example/g00486/spec.Settle -/
def spec_Settle_l1 : ((List T_Note.D) × (Int × (T_State.D × ((List T_Piece.D) × ((List T_Side.D) × (Int × (Int × Unit))))))) → Option (((List T_Note.D) × (Int × (T_State.D × ((List T_Piece.D) × ((List T_Side.D) × (Int × (Int × Unit))))))) ⊕ ((List T_Note.D) × (Int × ((List T_Piece.D) × ((List T_Side.D) × (Int × (Int × Unit))))))) := fun s4 =>
(spec_Round s4.2.2.2).bind fun y5 =>
 bif ((y5.2.1.length : Int) == 0) then (
 some (.inr (s4.1, s4.2.1, s4.2.2.2)))
 else (
 if (s4.1.length + y5.2.1.length) * (24 * 23) ≤ room then (
 some (.inl ((s4.1 ++ y5.2.1), IntKind.wrap .i64 (s4.2.1 + 1), s4.2.2.1, y5.1))) else none)
def spec_Settle (a0 : T_State.D) : Option (T_State.D × ((List T_Note.D) × (Int × Unit))) :=
(spec_l5Copy a0).bind fun y1 =>
(while_ (spec_Settle_l1) ([], 0, ([], [], 0, 0, ()), y1)).bind fun o6 =>
 some (o6.2.2, o6.1, o6.2.1, ())
def spec_Settle_h : Hints := (.node none none .none (.node none none .none (.node none none .none (.node none none .none (.node none none (.node none (some ⟨[.tmpO 6 0 (.slice T_Note), .tmp 7 (.int .i64), .boxO 2 0 1 T_State, .boxO 5 0 1 T_State], [], some [.tmpO 3 0 (.slice T_Note), .tmp 4 (.int .i64), .boxO 2 0 1 T_State], []⟩) .none .none) .none)))))
def spec_Settle_c : Ct := .pure false false (.pair T_State .unit) (.pair T_State (.pair (.slice T_Note) (.pair (.int .i64) .unit))) (fun x => spec_Settle x.1)
theorem spec_Settle_ct : CtOk Try.prog 79 spec_Settle_c := pure_ct (E := { T := tab, G := [(150, spec_l5Copy_fresh_c), (193, spec_Round_fresh_c)] }) (EnvOk.cons spec_l5Copy_fresh_ct (EnvOk.cons spec_Round_fresh_ct (EnvOk.nil tabOk))) mixed (fn := Try.f79) _ _ _ _ _ spec_Settle_h Try.func79 (by kernel_rfl) (fun x => by kernel_rfl)
def spec_Settle_fresh_c : Ct := .pure false true (.pair T_State .unit) (.pair T_State (.pair (.slice T_Note) (.pair (.int .i64) .unit))) (fun x => spec_Settle x.1)
theorem spec_Settle_fresh_ct : CtOk Try.prog 79 spec_Settle_fresh_c := pure_ct (E := { T := tab, G := [(150, spec_l5Copy_fresh_c), (193, spec_Round_fresh_c)] }) (EnvOk.cons spec_l5Copy_fresh_ct (EnvOk.cons spec_Round_fresh_ct (EnvOk.nil tabOk))) mixed (fn := Try.f79) _ _ _ _ _ spec_Settle_h Try.func79 (by kernel_rfl) (fun x => by kernel_rfl)
/-! slices.Equal[[]loop.example/g00486/impl.Piece,loop.example/g00486/impl.Piece] -/
def slices_Equal_impl_Piece_l1 (a0 : (List T_Piece.D)) (a1 : (List T_Piece.D)) : Int → Option (Int ⊕ (Int ⊕ Bool)) := fun s1 =>
 bif decide (s1 < (a0.length : Int)) then (
 idx a0 s1 fun x2 =>
 idx a1 s1 fun x3 =>
 bif (!((x2.1 == x3.1) && ((x2.2.1 == x3.2.1) && ((x2.2.2.1 == x3.2.2.1) && ((x2.2.2.2.1 == x3.2.2.2.1) && ((x2.2.2.2.2.1 == x3.2.2.2.2.1) && ((x2.2.2.2.2.2.1 == x3.2.2.2.2.2.1) && ((x2.2.2.2.2.2.2.1 == x3.2.2.2.2.2.2.1) && ((x2.2.2.2.2.2.2.2.1 == x3.2.2.2.2.2.2.2.1) && ((x2.2.2.2.2.2.2.2.2.1 == x3.2.2.2.2.2.2.2.2.1) && ((x2.2.2.2.2.2.2.2.2.2.1 == x3.2.2.2.2.2.2.2.2.2.1) && ((x2.2.2.2.2.2.2.2.2.2.2.1 == x3.2.2.2.2.2.2.2.2.2.2.1) && ((x2.2.2.2.2.2.2.2.2.2.2.2.1 == x3.2.2.2.2.2.2.2.2.2.2.2.1) && ((x2.2.2.2.2.2.2.2.2.2.2.2.2.1 == x3.2.2.2.2.2.2.2.2.2.2.2.2.1) && true)))))))))))))) then (
 some (.inr (.inr false)))
 else (
 some (.inl (IntKind.wrap .i64 (s1 + 1)))))
 else (
 some (.inr (.inl s1)))
def slices_Equal_impl_Piece (a0 : (List T_Piece.D)) (a1 : (List T_Piece.D)) : Option Bool :=
 bif ((a0.length : Int) != (a1.length : Int)) then (
 some false)
 else (
(while_ (slices_Equal_impl_Piece_l1 a0 a1) 0).bind fun o4 =>
 match o4 with
| .inl s5 => (
 some true)
| .inr o6 => (
 some o6))
def slices_Equal_impl_Piece_h : Hints := (.node none none .none (.node none none .none (.node none none (.node none none .none (.node none none (.node none (some ⟨[.tmp 13 (.int .i64)], [some 0], some [.tmp 4 .bool], []⟩) .none .none) .none)) .none)))
def slices_Equal_impl_Piece_c : Ct := .pure true false (.pair (.slice T_Piece) (.pair (.slice T_Piece) .unit)) .bool (fun x => slices_Equal_impl_Piece x.1 x.2.1)
theorem slices_Equal_impl_Piece_ct : CtOk Try.prog 167 slices_Equal_impl_Piece_c := pure_ct (E := { T := tab, G := [] }) (EnvOk.nil tabOk) mixed (fn := Try.f167) _ _ _ _ _ slices_Equal_impl_Piece_h Try.func167 (by kernel_rfl) (fun x => by kernel_rfl)
/-! slices.Equal[[]loop.example/g00486/impl.Side,loop.example/g00486/impl.Side] -/
def slices_Equal_impl_Side_l1 (a0 : (List T_Side.D)) (a1 : (List T_Side.D)) : Int → Option (Int ⊕ (Int ⊕ Bool)) := fun s1 =>
 bif decide (s1 < (a0.length : Int)) then (
 idx a0 s1 fun x2 =>
 idx a1 s1 fun x3 =>
 bif (!((x2.1 == x3.1) && ((x2.2.1 == x3.2.1) && ((x2.2.2.1 == x3.2.2.1) && true)))) then (
 some (.inr (.inr false)))
 else (
 some (.inl (IntKind.wrap .i64 (s1 + 1)))))
 else (
 some (.inr (.inl s1)))
def slices_Equal_impl_Side (a0 : (List T_Side.D)) (a1 : (List T_Side.D)) : Option Bool :=
 bif ((a0.length : Int) != (a1.length : Int)) then (
 some false)
 else (
(while_ (slices_Equal_impl_Side_l1 a0 a1) 0).bind fun o4 =>
 match o4 with
| .inl s5 => (
 some true)
| .inr o6 => (
 some o6))
def slices_Equal_impl_Side_h : Hints := (.node none none .none (.node none none .none (.node none none (.node none none .none (.node none none (.node none (some ⟨[.tmp 13 (.int .i64)], [some 0], some [.tmp 4 .bool], []⟩) .none .none) .none)) .none)))
def slices_Equal_impl_Side_c : Ct := .pure true false (.pair (.slice T_Side) (.pair (.slice T_Side) .unit)) .bool (fun x => slices_Equal_impl_Side x.1 x.2.1)
theorem slices_Equal_impl_Side_ct : CtOk Try.prog 168 slices_Equal_impl_Side_c := pure_ct (E := { T := tab, G := [] }) (EnvOk.nil tabOk) mixed (fn := Try.f168) _ _ _ _ _ slices_Equal_impl_Side_h Try.func168 (by kernel_rfl) (fun x => by kernel_rfl)
/-! loop.example/g00486/impl.SameState -/
def impl_SameState (a0 : T_State.D) (a1 : T_State.D) : Option Bool :=
 bif (a0.2.2.1 == a1.2.2.1) then (
 bif (a0.2.2.2.1 == a1.2.2.2.1) then (
(slices_Equal_impl_Piece a0.1 a1.1).bind fun y1 =>
 bif y1 then (
(slices_Equal_impl_Side a0.2.1 a1.2.1).bind fun y2 =>
 some y2)
 else (
 some false))
 else (
 some false))
 else (
 some false)
def impl_SameState_c : Ct := .pure true false (.pair T_State (.pair T_State .unit)) .bool (fun x => impl_SameState x.1 x.2.1)
theorem impl_SameState_ct : CtOk Try.prog 60 impl_SameState_c := pure_ct (E := { T := tab, G := [(167, slices_Equal_impl_Piece_c), (168, slices_Equal_impl_Side_c)] }) (EnvOk.cons slices_Equal_impl_Piece_ct (EnvOk.cons slices_Equal_impl_Side_ct (EnvOk.nil tabOk))) mixed (fn := Try.f60) _ _ _ _ _ .none Try.func60 (by kernel_rfl) (fun x => by kernel_rfl)
/-! slices.Equal[[]loop.example/g00486/impl.Note,loop.example/g00486/impl.Note] -/
def slices_Equal_impl_Note_l1 (a0 : (List T_Note.D)) (a1 : (List T_Note.D)) : Int → Option (Int ⊕ (Int ⊕ Bool)) := fun s1 =>
 bif decide (s1 < (a0.length : Int)) then (
 idx a0 s1 fun x2 =>
 idx a1 s1 fun x3 =>
 bif (!((x2.1 == x3.1) && (((x2.2.1.1 == x3.2.1.1) && ((x2.2.1.2.1 == x3.2.1.2.1) && ((x2.2.1.2.2.1 == x3.2.1.2.2.1) && ((x2.2.1.2.2.2.1 == x3.2.1.2.2.2.1) && ((x2.2.1.2.2.2.2.1 == x3.2.1.2.2.2.2.1) && ((x2.2.1.2.2.2.2.2.1 == x3.2.1.2.2.2.2.2.1) && ((x2.2.1.2.2.2.2.2.2.1 == x3.2.1.2.2.2.2.2.2.1) && true))))))) && ((x2.2.2.1 == x3.2.2.1) && ((x2.2.2.2.1 == x3.2.2.2.1) && (((x2.2.2.2.2.1.1 == x3.2.2.2.2.1.1) && ((x2.2.2.2.2.1.2.1 == x3.2.2.2.2.1.2.1) && ((x2.2.2.2.2.1.2.2.1 == x3.2.2.2.2.1.2.2.1) && ((x2.2.2.2.2.1.2.2.2.1 == x3.2.2.2.2.1.2.2.2.1) && ((x2.2.2.2.2.1.2.2.2.2.1 == x3.2.2.2.2.1.2.2.2.2.1) && ((x2.2.2.2.2.1.2.2.2.2.2.1 == x3.2.2.2.2.1.2.2.2.2.2.1) && ((x2.2.2.2.2.1.2.2.2.2.2.2.1 == x3.2.2.2.2.1.2.2.2.2.2.2.1) && ((x2.2.2.2.2.1.2.2.2.2.2.2.2.1 == x3.2.2.2.2.1.2.2.2.2.2.2.2.1) && ((x2.2.2.2.2.1.2.2.2.2.2.2.2.2.1 == x3.2.2.2.2.1.2.2.2.2.2.2.2.2.1) && ((x2.2.2.2.2.1.2.2.2.2.2.2.2.2.2.1 == x3.2.2.2.2.1.2.2.2.2.2.2.2.2.2.1) && ((x2.2.2.2.2.1.2.2.2.2.2.2.2.2.2.2.1 == x3.2.2.2.2.1.2.2.2.2.2.2.2.2.2.2.1) && ((x2.2.2.2.2.1.2.2.2.2.2.2.2.2.2.2.2.1 == x3.2.2.2.2.1.2.2.2.2.2.2.2.2.2.2.2.1) && ((x2.2.2.2.2.1.2.2.2.2.2.2.2.2.2.2.2.2.1 == x3.2.2.2.2.1.2.2.2.2.2.2.2.2.2.2.2.2.1) && true))))))))))))) && true)))))) then (
 some (.inr (.inr false)))
 else (
 some (.inl (IntKind.wrap .i64 (s1 + 1)))))
 else (
 some (.inr (.inl s1)))
def slices_Equal_impl_Note (a0 : (List T_Note.D)) (a1 : (List T_Note.D)) : Option Bool :=
 bif ((a0.length : Int) != (a1.length : Int)) then (
 some false)
 else (
(while_ (slices_Equal_impl_Note_l1 a0 a1) 0).bind fun o4 =>
 match o4 with
| .inl s5 => (
 some true)
| .inr o6 => (
 some o6))
def slices_Equal_impl_Note_h : Hints := (.node none none .none (.node none none .none (.node none none (.node none none .none (.node none none (.node none (some ⟨[.tmp 13 (.int .i64)], [some 0], some [.tmp 4 .bool], []⟩) .none .none) .none)) .none)))
def slices_Equal_impl_Note_c : Ct := .pure true false (.pair (.slice T_Note) (.pair (.slice T_Note) .unit)) .bool (fun x => slices_Equal_impl_Note x.1 x.2.1)
theorem slices_Equal_impl_Note_ct : CtOk Try.prog 169 slices_Equal_impl_Note_c := pure_ct (E := { T := tab, G := [] }) (EnvOk.nil tabOk) mixed (fn := Try.f169) _ _ _ _ _ slices_Equal_impl_Note_h Try.func169 (by kernel_rfl) (fun x => by kernel_rfl)
/-! loop.example/g00486/impl.SameNotes -/
def impl_SameNotes (a0 : (List T_Note.D)) (a1 : (List T_Note.D)) : Option Bool :=
(slices_Equal_impl_Note a0 a1).bind fun y1 =>
 some y1
def impl_SameNotes_c : Ct := .pure true false (.pair (.slice T_Note) (.pair (.slice T_Note) .unit)) .bool (fun x => impl_SameNotes x.1 x.2.1)
theorem impl_SameNotes_ct : CtOk Try.prog 61 impl_SameNotes_c := pure_ct (E := { T := tab, G := [(169, slices_Equal_impl_Note_c)] }) (EnvOk.cons slices_Equal_impl_Note_ct (EnvOk.nil tabOk)) mixed (fn := Try.f61) _ _ _ _ _ .none Try.func61 (by kernel_rfl) (fun x => by kernel_rfl)
/-! loop.example/g00486/impl.RoundsMost -/
def impl_RoundsMost (a0 : T_State.D) : Option Int :=
 let k1 : Int := IntKind.wrap .i64 ((a0.2.1.length : Int) + (IntKind.wrap .i64 (2 * (a0.1.length : Int))))
 some k1
def impl_RoundsMost_c : Ct := .pure true false (.pair T_State .unit) (.int .i64) (fun x => impl_RoundsMost x.1)
theorem impl_RoundsMost_ct : CtOk Try.prog 80 impl_RoundsMost_c := pure_ct (E := { T := tab, G := [] }) (EnvOk.nil tabOk) mixed (fn := Try.f80) _ _ _ _ _ .none Try.func80 (by kernel_rfl) (fun x => by kernel_rfl)
/-! loop.example/g00486/impl.Quiet -/
def impl_Quiet (a0 : T_State.D) : Option Bool :=
(impl_Round a0).bind fun y1 =>
 some ((y1.2.1.length : Int) == 0)
def impl_Quiet_c : Ct := .pure true false (.pair T_State .unit) .bool (fun x => impl_Quiet x.1)
theorem impl_Quiet_ct : CtOk Try.prog 81 impl_Quiet_c := pure_ct (E := { T := tab, G := [(192, impl_Round_fresh_c)] }) (EnvOk.cons impl_Round_fresh_ct (EnvOk.nil tabOk)) mixed (fn := Try.f81) _ _ _ _ _ .none Try.func81 (by kernel_rfl) (fun x => by kernel_rfl)
/-! loop.example/g00486/impl.OnField -/
def impl_OnField_l1 (a0 : T_State.D) (a1 : Int) : ((List Int) × Int) → Option (((List Int) × Int) ⊕ ((List Int) × Int)) := fun s1 =>
 bif decide (s1.2 < (a0.1.length : Int)) then (
 idx a0.1 s1.2 fun x2 =>
((bif (x2.2.2.2.1 == 2) then (
 bif (a1 == (-1)) then (
 some true)
 else (
 some (x2.2.2.1 == a1)))
 else (
 some false)) : Option Bool).bind fun o3 =>
 bif o3 then (
 if (s1.1.length + [x2.1].length) * (24 * 1) ≤ room then (
 some (.inl ((s1.1 ++ [x2.1]), IntKind.wrap .i64 (s1.2 + 1)))) else none)
 else (
 some (.inl (s1.1, IntKind.wrap .i64 (s1.2 + 1)))))
 else (
 some (.inr s1))
def impl_OnField (a0 : T_State.D) (a1 : Int) : Option (List Int) :=
(while_ (impl_OnField_l1 a0 a1) ([], 0)).bind fun o4 =>
 some o4.1
def impl_OnField_h : Hints := (.node none none .none (.node none none .none (.node none none (.node none none .none (.node none none (.node none (some ⟨[.tmpO 5 0 (.slice (.int .i64)), .tmp 12 (.int .i64)], [some 0], none, []⟩) (.node none none .none (.node none none .none (.node none none (.node none none (.node none none .none (.node none none (.node (some ⟨[.tmp 28 .bool], [none], none, []⟩) none .none .none) .none)) .none) .none))) .none) .none)) .none)))
def impl_OnField_c : Ct := .pure true false (.pair T_State (.pair (.int .i64) .unit)) (.slice (.int .i64)) (fun x => impl_OnField x.1 x.2.1)
theorem impl_OnField_ct : CtOk Try.prog 84 impl_OnField_c := pure_ct (E := { T := tab, G := [] }) (EnvOk.nil tabOk) mixed (fn := Try.f84) _ _ _ _ _ impl_OnField_h Try.func84 (by kernel_rfl) (fun x => by kernel_rfl)
def impl_OnField_fresh_c : Ct := .pure true true (.pair T_State (.pair (.int .i64) .unit)) (.slice (.int .i64)) (fun x => impl_OnField x.1 x.2.1)
theorem impl_OnField_fresh_ct : CtOk Try.prog 84 impl_OnField_fresh_c := pure_ct (E := { T := tab, G := [] }) (EnvOk.nil tabOk) mixed (fn := Try.f84) _ _ _ _ _ impl_OnField_h Try.func84 (by kernel_rfl) (fun x => by kernel_rfl)
/-! slices.Index[[]int,int] -/
def slices_Index_int_l1 (a0 : (List Int)) (a1 : Int) : Int → Option (Int ⊕ (Int ⊕ Int)) := fun s1 =>
 bif decide (s1 < (a0.length : Int)) then (
 idx a0 s1 fun x2 =>
 bif (a1 == x2) then (
 some (.inr (.inr s1)))
 else (
 some (.inl (IntKind.wrap .i64 (s1 + 1)))))
 else (
 some (.inr (.inl s1)))
def slices_Index_int (a0 : (List Int)) (a1 : Int) : Option Int :=
(while_ (slices_Index_int_l1 a0 a1) 0).bind fun o3 =>
 match o3 with
| .inl s4 => (
 some (-1))
| .inr o5 => (
 some o5)
def slices_Index_int_h : Hints := (.node none none .none (.node none none (.node none none .none (.node none none (.node none (some ⟨[.tmp 8 (.int .i64)], [some 0], some [.tmp 4 (.int .i64)], []⟩) .none .none) .none)) .none))
def slices_Index_int_c : Ct := .pure true false (.pair (.slice (.int .i64)) (.pair (.int .i64) .unit)) (.int .i64) (fun x => slices_Index_int x.1 x.2.1)
theorem slices_Index_int_ct : CtOk Try.prog 260 slices_Index_int_c := pure_ct (E := { T := tab, G := [] }) (EnvOk.nil tabOk) mixed (fn := Try.f260) _ _ _ _ _ slices_Index_int_h Try.func260 (by kernel_rfl) (fun x => by kernel_rfl)
/-! slices.Contains[[]int,int] -/
def slices_Contains_int (a0 : (List Int)) (a1 : Int) : Option Bool :=
(slices_Index_int a0 a1).bind fun y1 =>
 some (decide (y1 ≥ 0))
def slices_Contains_int_c : Ct := .pure true false (.pair (.slice (.int .i64)) (.pair (.int .i64) .unit)) .bool (fun x => slices_Contains_int x.1 x.2.1)
theorem slices_Contains_int_ct : CtOk Try.prog 190 slices_Contains_int_c := pure_ct (E := { T := tab, G := [(260, slices_Index_int_c)] }) (EnvOk.cons slices_Index_int_ct (EnvOk.nil tabOk)) mixed (fn := Try.f190) _ _ _ _ _ .none Try.func190 (by kernel_rfl) (fun x => by kernel_rfl)
/-! loop.example/g00486/impl.Has -/
def impl_Has (a0 : (List Int)) (a1 : Int) : Option Bool :=
(slices_Contains_int a0 a1).bind fun y1 =>
 some y1
def impl_Has_c : Ct := .pure true false (.pair (.slice (.int .i64)) (.pair (.int .i64) .unit)) .bool (fun x => impl_Has x.1 x.2.1)
theorem impl_Has_ct : CtOk Try.prog 76 impl_Has_c := pure_ct (E := { T := tab, G := [(190, slices_Contains_int_c)] }) (EnvOk.cons slices_Contains_int_ct (EnvOk.nil tabOk)) mixed (fn := Try.f76) _ _ _ _ _ .none Try.func76 (by kernel_rfl) (fun x => by kernel_rfl)
/-! slices.Clone[[]int,int] -/
def slices_Clone_int (a0 : (List Int)) : Option (List Int) :=
 if (([] : List Int).length + a0.length) * (24 * 1) ≤ room then (
 some ([] ++ a0)) else none
def slices_Clone_int_c : Ct := .pure true false (.pair (.slice (.int .i64)) .unit) (.slice (.int .i64)) (fun x => slices_Clone_int x.1)
theorem slices_Clone_int_ct : CtOk Try.prog 129 slices_Clone_int_c := nil_ct (E := { T := tab, G := [] }) (EnvOk.nil tabOk) mixed (fn := Try.f129) _ _ (.int .i64) _ _ .none .none Try.func129 (by kernel_rfl) (by kernel_rfl) (fun x => by kernel_rfl)
def slices_Clone_int_fresh_c : Ct := .pure true true (.pair (.slice (.int .i64)) .unit) (.slice (.int .i64)) (fun x => slices_Clone_int x.1)
theorem slices_Clone_int_fresh_ct : CtOk Try.prog 129 slices_Clone_int_fresh_c := nil_ct (E := { T := tab, G := [] }) (EnvOk.nil tabOk) mixed (fn := Try.f129) _ _ (.int .i64) _ _ .none .none Try.func129 (by kernel_rfl) (by kernel_rfl) (fun x => by kernel_rfl)
/-! math/bits.Len64 -/
def math_bits_Len64 (a0 : Int) : Option Int :=
 if a0 = 0 then some 0 else none
theorem len64_zero (w : World) : Calls Try.prog 326 #[.int .u64 0] w fun e w' => e = .returned (.int .i64 0) ∧ w' = w := by
  go_enter Try.func326, Try.ntmps326
  go_wp2
  all_goals (go_ret; refine ⟨congrArg Ending.returned (congrArg (Value.int IntKind.i64) ?_), rfl⟩)
  all_goals kernel_rfl
def math_bits_Len64_c : Ct := .pure true false (.pair (.int .u64) .unit) (.int .i64) (fun x => math_bits_Len64 x.1)
theorem math_bits_Len64_ct : CtOk Try.prog 326 math_bits_Len64_c := by
  refine ⟨(fnOk_spec (P := Try.prog) (one := true) (k := 1) Try.func326 (body := bodyOf Try.f326) (by kernel_rfl) (by kernel_rfl)).1, fun Imm w cs x y hx hy => ?_⟩
  obtain ⟨v1, v2, rfl, _, h1, h2⟩ := hx
  have h1 : v1 = [.int .u64 x.1] := h1
  have h2 : v2 = [] := h2
  subst h1 h2
  have hy : (if x.1 = 0 then some 0 else none) = some y := hy
  split at hy
  · rename_i h0
    cases hy
    rw [h0]
    refine Calls.mono (len64_zero w) fun e w' h => ?_
    obtain ⟨rfl, rfl⟩ := h
    exact ⟨Keep.refl _ _, [.int .i64 0], rfl, rfl⟩
  · cases hy
/-! math/bits.Len -/
def math_bits_Len (a0 : Int) : Option Int :=
(math_bits_Len64 a0).bind fun y1 =>
 some y1
def math_bits_Len_c : Ct := .pure true false (.pair (.int .u64) .unit) (.int .i64) (fun x => math_bits_Len x.1)
theorem math_bits_Len_ct : CtOk Try.prog 315 math_bits_Len_c := pure_ct (E := { T := tab, G := [(326, math_bits_Len64_c)] }) (EnvOk.cons math_bits_Len64_ct (EnvOk.nil tabOk)) mixed (fn := Try.f315) _ _ _ _ _ .none Try.func315 (by kernel_rfl) (fun x => by kernel_rfl)
/-! cmp.isNaN[int] -/
def cmp_isNaN_int (a0 : Int) : Option Bool :=
 some (a0 != a0)
def cmp_isNaN_int_c : Ct := .pure true false (.pair (.int .i64) .unit) .bool (fun x => cmp_isNaN_int x.1)
theorem cmp_isNaN_int_ct : CtOk Try.prog 332 cmp_isNaN_int_c := pure_ct (E := { T := tab, G := [] }) (EnvOk.nil tabOk) mixed (fn := Try.f332) _ _ _ _ _ .none Try.func332 (by kernel_rfl) (fun x => by kernel_rfl)
/-! cmp.Less[int] -/
def cmp_Less_int (a0 : Int) (a1 : Int) : Option Bool :=
(cmp_isNaN_int a0).bind fun y1 =>
 bif y1 then (
(cmp_isNaN_int a1).bind fun y2 =>
 bif (!y2) then (
 some true)
 else (
 some (decide (a0 < a1))))
 else (
 some (decide (a0 < a1)))
def cmp_Less_int_c : Ct := .pure true false (.pair (.int .i64) (.pair (.int .i64) .unit)) .bool (fun x => cmp_Less_int x.1 x.2.1)
theorem cmp_Less_int_ct : CtOk Try.prog 322 cmp_Less_int_c := pure_ct (E := { T := tab, G := [(332, cmp_isNaN_int_c)] }) (EnvOk.cons cmp_isNaN_int_ct (EnvOk.nil tabOk)) mixed (fn := Try.f322) _ _ _ _ _ .none Try.func322 (by kernel_rfl) (fun x => by kernel_rfl)
/-! slices.insertionSortOrdered[int] -/
def slices_insertionSortOrdered_int_l1 (a0 : (List Int)) (a1 : Int) : Int → Option (Int ⊕ Int) := fun s2 =>
((bif decide (s2 > a1) then (
 idx a0 s2 fun x3 =>
 idx a0 (IntKind.wrap .i64 (s2 - 1)) fun x4 =>
(cmp_Less_int x3 x4).bind fun y5 =>
 some y5)
 else (
 some false)) : Option Bool).bind fun o6 =>
 bif o6 then (
 idx a0 (IntKind.wrap .i64 (s2 - 1)) fun x7 =>
 idx a0 s2 fun x8 =>
 idx a0 s2 fun x9 =>
 none)
 else (
 some (.inr s2))
def slices_insertionSortOrdered_int_l2 (a0 : (List Int)) (a1 : Int) (a2 : Int) : Int → Option (Int ⊕ Int) := fun s1 =>
 bif decide (s1 < a2) then (
(while_ (slices_insertionSortOrdered_int_l1 a0 a1) s1).bind fun o10 =>
 some (.inl (IntKind.wrap .i64 (s1 + 1))))
 else (
 some (.inr s1))
def slices_insertionSortOrdered_int (a0 : (List Int)) (a1 : Int) (a2 : Int) : Option Unit :=
(while_ (slices_insertionSortOrdered_int_l2 a0 a1 a2) (IntKind.wrap .i64 (a1 + 1))).bind fun o11 =>
 some ()
def slices_insertionSortOrdered_int_h : Hints := (.node none none .none (.node none none (.node none (some ⟨[.tmp 6 (.int .i64)], [some 0], none, []⟩) (.node none none .none (.node none none (.node none none (.node none none .none (.node none none (.node none (some ⟨[.tmp 7 (.int .i64)], [some 2], none, []⟩) (.node none none (.node none none (.node (some ⟨[.tmp 30 .bool], [none], none, []⟩) none .none .none) .none) .none) .none) .none)) .none) .none)) .none) .none))
def slices_insertionSortOrdered_int_c : Ct := .pure false false (.pair (.slice (.int .i64)) (.pair (.int .i64) (.pair (.int .i64) .unit))) .unit (fun x => slices_insertionSortOrdered_int x.1 x.2.1 x.2.2.1)
theorem slices_insertionSortOrdered_int_ct : CtOk Try.prog 316 slices_insertionSortOrdered_int_c := pure_ct (E := { T := tab, G := [(322, cmp_Less_int_c)] }) (EnvOk.cons cmp_Less_int_ct (EnvOk.nil tabOk)) mixed (fn := Try.f316) _ _ _ _ _ slices_insertionSortOrdered_int_h Try.func316 (by kernel_rfl) (fun x => by kernel_rfl)
/-! slices.order2Ordered[int] -/
def slices_order2Ordered_int (a0 : (List Int)) (a1 : Int) (a2 : Int) (a3 : Int) : Option ((Int × (Int × Unit)) × (Int × Unit)) :=
 idx a0 a2 fun x1 =>
 idx a0 a1 fun x2 =>
(cmp_Less_int x1 x2).bind fun y3 =>
 bif y3 then (
 some ((a2, a1, ()), (IntKind.wrap .i64 (a3 + 1), ())))
 else (
 some ((a1, a2, ()), (a3, ())))
def slices_order2Ordered_int_c : Ct := .mut [.rd, .rd, .rd, .ptr] false true (.pair (.slice (.int .i64)) (.pair (.int .i64) (.pair (.int .i64) (.pair (.int .i64) .unit)))) (.pair (.int .i64) (.pair (.int .i64) .unit)) (fun x => slices_order2Ordered_int x.1 x.2.1 x.2.2.1 x.2.2.2.1)
theorem slices_order2Ordered_int_ct : CtOk Try.prog 333 slices_order2Ordered_int_c := mut_ct (E := { T := tab, G := [(322, cmp_Less_int_c)] }) (EnvOk.cons cmp_Less_int_ct (EnvOk.nil tabOk)) mixed (fn := Try.f333) _ _ _ _ _ _ .none Try.func333 (by kernel_rfl) (fun x => by kernel_rfl)
/-! slices.medianOrdered[int] -/
def slices_medianOrdered_int (a0 : (List Int)) (a1 : Int) (a2 : Int) (a3 : Int) (a4 : Int) : Option (Int × (Int × Unit)) :=
(slices_order2Ordered_int a0 a1 a2 a4).bind fun y1 =>
(slices_order2Ordered_int a0 y1.1.2.1 a3 y1.2.1).bind fun y2 =>
(slices_order2Ordered_int a0 y1.1.1 y2.1.1 y2.2.1).bind fun y3 =>
 some (y3.1.2.1, y3.2)
def slices_medianOrdered_int_c : Ct := .mut [.rd, .rd, .rd, .rd, .ptr] true true (.pair (.slice (.int .i64)) (.pair (.int .i64) (.pair (.int .i64) (.pair (.int .i64) (.pair (.int .i64) .unit))))) (.int .i64) (fun x => slices_medianOrdered_int x.1 x.2.1 x.2.2.1 x.2.2.2.1 x.2.2.2.2.1)
theorem slices_medianOrdered_int_ct : CtOk Try.prog 331 slices_medianOrdered_int_c := mut_ct (E := { T := tab, G := [(333, slices_order2Ordered_int_c)] }) (EnvOk.cons slices_order2Ordered_int_ct (EnvOk.nil tabOk)) mixed (fn := Try.f331) _ _ _ _ _ _ .none Try.func331 (by kernel_rfl) (fun x => by kernel_rfl)
/-! slices.medianAdjacentOrdered[int] -/
def slices_medianAdjacentOrdered_int (a0 : (List Int)) (a1 : Int) (a2 : Int) : Option (Int × (Int × Unit)) :=
(slices_medianOrdered_int a0 (IntKind.wrap .i64 (a1 - 1)) a1 (IntKind.wrap .i64 (a1 + 1)) a2).bind fun y1 =>
 some (y1.1, y1.2)
def slices_medianAdjacentOrdered_int_c : Ct := .mut [.rd, .rd, .ptr] true true (.pair (.slice (.int .i64)) (.pair (.int .i64) (.pair (.int .i64) .unit))) (.int .i64) (fun x => slices_medianAdjacentOrdered_int x.1 x.2.1 x.2.2.1)
theorem slices_medianAdjacentOrdered_int_ct : CtOk Try.prog 330 slices_medianAdjacentOrdered_int_c := mut_ct (E := { T := tab, G := [(331, slices_medianOrdered_int_c)] }) (EnvOk.cons slices_medianOrdered_int_ct (EnvOk.nil tabOk)) mixed (fn := Try.f330) _ _ _ _ _ _ .none Try.func330 (by kernel_rfl) (fun x => by kernel_rfl)
/-! slices.choosePivotOrdered[int] -/
def slices_choosePivotOrdered_int (a0 : (List Int)) (a1 : Int) (a2 : Int) : Option (Int × (Int × Unit)) :=
 if 4 = 0 then none else (
 let k1 : Int := IntKind.wrap .i64 ((IntKind.wrap .i64 ((IntKind.wrap .i64 (a2 - a1)).tdiv 4)) * 1)
 if 4 = 0 then none else (
 let k2 : Int := IntKind.wrap .i64 ((IntKind.wrap .i64 ((IntKind.wrap .i64 (a2 - a1)).tdiv 4)) * 2)
 if 4 = 0 then none else (
 let k3 : Int := IntKind.wrap .i64 ((IntKind.wrap .i64 ((IntKind.wrap .i64 (a2 - a1)).tdiv 4)) * 3)
((bif decide ((IntKind.wrap .i64 (a2 - a1)) ≥ 8) then (
((bif decide ((IntKind.wrap .i64 (a2 - a1)) ≥ 50) then (
(slices_medianAdjacentOrdered_int a0 (IntKind.wrap .i64 (a1 + k1)) 0).bind fun y4 =>
(slices_medianAdjacentOrdered_int a0 (IntKind.wrap .i64 (a1 + k2)) y4.2.1).bind fun y5 =>
(slices_medianAdjacentOrdered_int a0 (IntKind.wrap .i64 (a1 + k3)) y5.2.1).bind fun y6 =>
 some (y4.1, y5.1, y6.1, y6.2.1))
 else (
 some (IntKind.wrap .i64 (a1 + k1), IntKind.wrap .i64 (a1 + k2), IntKind.wrap .i64 (a1 + k3), 0))) : Option (Int × (Int × (Int × Int)))).bind fun o7 =>
(slices_medianOrdered_int a0 o7.1 o7.2.1 o7.2.2.1 o7.2.2.2).bind fun y8 =>
 some (y8.1, y8.2.1))
 else (
 some (IntKind.wrap .i64 (a1 + k2), 0))) : Option (Int × Int)).bind fun o9 =>
 bif (o9.2 == 0) then (
 some (o9.1, 1, ()))
 else (
 bif (o9.2 == 12) then (
 some (o9.1, 2, ()))
 else (
 some (o9.1, 0, ()))))))
def slices_choosePivotOrdered_int_h : Hints := (.node none none .none (.node none none .none (.node none none .none (.node none none .none (.node none none .none (.node none none .none (.node none none (.node none none .none (.node (some ⟨[.tmp 11 (.int .i64), .box 9 0 (.int .i64)], [none], none, [(9, 0)]⟩) none (.node none none (.node none none .none (.node (some ⟨[.tmp 10 (.int .i64), .tmp 11 (.int .i64), .tmp 12 (.int .i64), .box 9 0 (.int .i64)], [none], none, [(9, 0)]⟩) none .none .none)) .none) .none)) .none)))))))
def slices_choosePivotOrdered_int_c : Ct := .pure false false (.pair (.slice (.int .i64)) (.pair (.int .i64) (.pair (.int .i64) .unit))) (.pair (.int .i64) (.pair (.int .i64) .unit)) (fun x => slices_choosePivotOrdered_int x.1 x.2.1 x.2.2.1)
theorem slices_choosePivotOrdered_int_ct : CtOk Try.prog 319 slices_choosePivotOrdered_int_c := pure_ct (E := { T := tab, G := [(330, slices_medianAdjacentOrdered_int_c), (331, slices_medianOrdered_int_c)] }) (EnvOk.cons slices_medianAdjacentOrdered_int_ct (EnvOk.cons slices_medianOrdered_int_ct (EnvOk.nil tabOk))) mixed (fn := Try.f319) _ _ _ _ _ slices_choosePivotOrdered_int_h Try.func319 (by kernel_rfl) (fun x => by kernel_rfl)
/-! slices.pdqsortOrdered[int] -/
def slices_pdqsortOrdered_int_l1 (a0 : (List Int)) : (Int × (Int × (Int × (Bool × Bool)))) → Option ((Int × (Int × (Int × (Bool × Bool)))) ⊕ Unit) := fun s1 =>
 bif decide ((IntKind.wrap .i64 (s1.2.1 - s1.1)) ≤ 12) then (
(slices_insertionSortOrdered_int a0 s1.1 s1.2.1).bind fun y2 =>
 some (.inr ()))
 else (
 bif (s1.2.2.1 == 0) then (
 none)
 else (
((bif (!s1.2.2.2.1) then (
 none)
 else (
 some s1.2.2.1)) : Option Int).bind fun o3 =>
(slices_choosePivotOrdered_int a0 s1.1 s1.2.1).bind fun y4 =>
((bif (y4.2.1 == 2) then (
 none)
 else (
 some (y4.1, y4.2.1))) : Option (Int × Int)).bind fun o5 =>
((bif s1.2.2.2.1 then (
 bif s1.2.2.2.2 then (
 some (o5.2 == 1))
 else (
 some false))
 else (
 some false)) : Option Bool).bind fun o6 =>
((bif o6 then (
 none)
 else (
 some ())) : Option Unit).bind fun o7 =>
((bif decide (s1.1 > 0) then (
 idx a0 (IntKind.wrap .i64 (s1.1 - 1)) fun x8 =>
 idx a0 o5.1 fun x9 =>
(cmp_Less_int x8 x9).bind fun y10 =>
 some (!y10))
 else (
 some false)) : Option Bool).bind fun o11 =>
 bif o11 then (
 none)
 else (
 none)))
def slices_pdqsortOrdered_int (a0 : (List Int)) (a1 : Int) (a2 : Int) (a3 : Int) : Option Unit :=
(while_ (slices_pdqsortOrdered_int_l1 a0) (a1, a2, a3, true, true)).bind fun o12 =>
 some ()
def slices_pdqsortOrdered_int_h : Hints := (.node none none .none (.node none none .none (.node none none (.node none (some ⟨[.tmp 1 (.int .i64), .tmp 2 (.int .i64), .tmp 3 (.int .i64), .tmp 8 .bool, .tmp 9 .bool], [], some [], []⟩) (.node none none (.node none none .none (.node none none .none (.node none none .none (.node none none (.node none none .none (.node (some ⟨[.tmp 3 (.int .i64)], [none], none, []⟩) none .none .none)) (.node none none .none (.node none none (.node none none .none (.node (some ⟨[.tmp 11 (.int .i64), .tmp 12 (.int .i64)], [none], none, []⟩) none .none .none)) (.node none none (.node none none (.node (some ⟨[.tmp 68 .bool], [none], none, []⟩) none .none .none) (.node (some ⟨[], [none], none, []⟩) none .none .none)) (.node none none (.node none none (.node (some ⟨[.tmp 87 .bool], [none], none, []⟩) none .none .none) .none) .none)))))))) .none) .none) .none)))
def slices_pdqsortOrdered_int_c : Ct := .pure false false (.pair (.slice (.int .i64)) (.pair (.int .i64) (.pair (.int .i64) (.pair (.int .i64) .unit)))) .unit (fun x => slices_pdqsortOrdered_int x.1 x.2.1 x.2.2.1 x.2.2.2.1)
theorem slices_pdqsortOrdered_int_ct : CtOk Try.prog 314 slices_pdqsortOrdered_int_c := pure_ct (E := { T := tab, G := [(316, slices_insertionSortOrdered_int_c), (319, slices_choosePivotOrdered_int_c), (322, cmp_Less_int_c)] }) (EnvOk.cons slices_insertionSortOrdered_int_ct (EnvOk.cons slices_choosePivotOrdered_int_ct (EnvOk.cons cmp_Less_int_ct (EnvOk.nil tabOk)))) mixed (fn := Try.f314) _ _ _ _ _ slices_pdqsortOrdered_int_h Try.func314 (by kernel_rfl) (fun x => by kernel_rfl)
/-! slices.Sort[[]int,int] -/
def slices_Sort_int (a0 : (List Int)) : Option Unit :=
(math_bits_Len (IntKind.wrap .u64 (a0.length : Int))).bind fun y1 =>
(slices_pdqsortOrdered_int a0 0 (a0.length : Int) y1).bind fun y2 =>
 some ()
def slices_Sort_int_c : Ct := .pure false false (.pair (.slice (.int .i64)) .unit) .unit (fun x => slices_Sort_int x.1)
theorem slices_Sort_int_ct : CtOk Try.prog 312 slices_Sort_int_c := pure_ct (E := { T := tab, G := [(314, slices_pdqsortOrdered_int_c), (315, math_bits_Len_c)] }) (EnvOk.cons slices_pdqsortOrdered_int_ct (EnvOk.cons math_bits_Len_ct (EnvOk.nil tabOk))) mixed (fn := Try.f312) _ _ _ _ _ .none Try.func312 (by kernel_rfl) (fun x => by kernel_rfl)
/-! slices.Compact[[]int,int] -/
def slices_Compact_int_l1 (s2 : ((List Int) × Int)) : (Int × Int) → Option ((Int × Int) ⊕ (Int × Int)) := fun s5 =>
 bif decide (s5.2 < (((s2.1.length : Int).toNat - s2.2.toNat : Nat) : Int)) then (
 none)
 else (
 some (.inr s5))
def slices_Compact_int_l2 : ((List Int) × Int) → Option (((List Int) × Int) ⊕ (((List Int) × Int) ⊕ (List Int))) := fun s2 =>
 bif decide (s2.2 < (s2.1.length : Int)) then (
 idx s2.1 s2.2 fun _ =>
(s2.1[(s2.2 : Int).toNat]?).bind fun x3 =>
 idx s2.1 (IntKind.wrap .i64 (s2.2 - 1)) fun _ =>
(s2.1[(IntKind.wrap .i64 (s2.2 - 1) : Int).toNat]?).bind fun x4 =>
 bif (x3 == x4) then (
 if 0 ≤ s2.2 then (if s2.2 ≤ (s2.1.length : Int) then (if (s2.1.length : Int) ≤ (s2.1.length : Int) then (
(while_ (slices_Compact_int_l1 s2) (s2.2, 1)).bind fun o6 =>
 if 0 ≤ o6.1 then (if o6.1 ≤ (s2.1.length : Int) then (if (s2.1.length : Int) ≤ (s2.1.length : Int) then (
 if 0 ≤ (0 : Int) then (if (0 : Int) ≤ o6.1 then (if o6.1 ≤ ((s2.1.take (o6.1.toNat) ++ List.replicate ((s2.1.length : Int).toNat - o6.1.toNat) 0 ++ s2.1.drop ((s2.1.length : Int).toNat)).length : Int) then (
 some (.inr (.inr (((s2.1.take (o6.1.toNat) ++ List.replicate ((s2.1.length : Int).toNat - o6.1.toNat) 0 ++ s2.1.drop ((s2.1.length : Int).toNat)).take (o6.1.toNat)))))) else none) else none) else none) else none) else none) else none) else none) else none) else none)
 else (
 some (.inl (s2.1, IntKind.wrap .i64 (s2.2 + 1)))))
 else (
 some (.inr (.inl s2)))
def slices_Compact_int (a0 : (List Int)) : Option ((List Int) × Unit) :=
 bif decide ((a0.length : Int) < 2) then (
 some (a0, ()))
 else (
(while_ (slices_Compact_int_l2) (a0, 1)).bind fun o7 =>
 match o7 with
| .inl s8 => (
 some (s8.1, ()))
| .inr o9 => (
 some (o9, ())))
def slices_Compact_int_h : Hints := (.node none none .none (.node none none .none (.node none none (.node none none .none (.node none none (.node none (some ⟨[.tmpO 0 1 (.slice (.int .i64)), .tmp 3 (.int .i64)], [some 0], some [.tmpO 2 0 (.slice (.int .i64))], []⟩) (.node none none .none (.node none none (.node none none (.node none none .none (.node none none (.node none none .none (.node none none (.node none none .none (.node none none (.node none (some ⟨[.tmp 3 (.int .i64), .tmp 5 (.int .i64)], [some 2], none, []⟩) .none .none) .none)) .none)) .none)) .none) .none)) .none) .none)) .none)))
def slices_Compact_int_fresh_c : Ct := .mut [.tk] true true (.pair (.slice (.int .i64)) .unit) (.slice (.int .i64)) (fun x => slices_Compact_int x.1)
theorem slices_Compact_int_fresh_ct : CtOk Try.prog 313 slices_Compact_int_fresh_c := mut_ct (E := { T := tab, G := [] }) (EnvOk.nil tabOk) mixed (fn := Try.f313) _ _ _ _ _ _ slices_Compact_int_h Try.func313 (by kernel_rfl) (fun x => by kernel_rfl)
/-! loop.example/g00486/impl.SetOf -/
def impl_SetOf (a0 : (List Int)) : Option (List Int) :=
(slices_Clone_int a0).bind fun y1 =>
(slices_Sort_int y1).bind fun y2 =>
(slices_Compact_int y1).bind fun y3 =>
 some y3.1
def impl_SetOf_c : Ct := .pure true false (.pair (.slice (.int .i64)) .unit) (.slice (.int .i64)) (fun x => impl_SetOf x.1)
theorem impl_SetOf_ct : CtOk Try.prog 300 impl_SetOf_c := pure_ct (E := { T := tab, G := [(129, slices_Clone_int_fresh_c), (312, slices_Sort_int_c), (313, slices_Compact_int_fresh_c)] }) (EnvOk.cons slices_Clone_int_fresh_ct (EnvOk.cons slices_Sort_int_ct (EnvOk.cons slices_Compact_int_fresh_ct (EnvOk.nil tabOk)))) mixed (fn := Try.f300) _ _ _ _ _ .none Try.func300 (by kernel_rfl) (fun x => by kernel_rfl)
def impl_SetOf_fresh_c : Ct := .pure true true (.pair (.slice (.int .i64)) .unit) (.slice (.int .i64)) (fun x => impl_SetOf x.1)
theorem impl_SetOf_fresh_ct : CtOk Try.prog 300 impl_SetOf_fresh_c := pure_ct (E := { T := tab, G := [(129, slices_Clone_int_fresh_c), (312, slices_Sort_int_c), (313, slices_Compact_int_fresh_c)] }) (EnvOk.cons slices_Clone_int_fresh_ct (EnvOk.cons slices_Sort_int_ct (EnvOk.cons slices_Compact_int_fresh_ct (EnvOk.nil tabOk)))) mixed (fn := Try.f300) _ _ _ _ _ .none Try.func300 (by kernel_rfl) (fun x => by kernel_rfl)
/-! loop.example/g00486/impl.chosen -/
def impl_chosen_l1 (a0 : (List Int)) (a1 : (List Int)) (a2 : Bool) : ((List Int) × Int) → Option (((List Int) × Int) ⊕ ((List Int) × Int)) := fun s1 =>
 bif decide (s1.2 < (a0.length : Int)) then (
 idx a0 s1.2 fun x2 =>
(impl_Has a1 x2).bind fun y3 =>
 bif (y3 == a2) then (
 if (s1.1.length + [x2].length) * (24 * 1) ≤ room then (
 some (.inl ((s1.1 ++ [x2]), IntKind.wrap .i64 (s1.2 + 1)))) else none)
 else (
 some (.inl (s1.1, IntKind.wrap .i64 (s1.2 + 1)))))
 else (
 some (.inr s1))
def impl_chosen (a0 : (List Int)) (a1 : (List Int)) (a2 : Bool) : Option (List Int) :=
(while_ (impl_chosen_l1 a0 a1 a2) ([], 0)).bind fun o4 =>
(impl_SetOf o4.1).bind fun y5 =>
 some y5
def impl_chosen_h : Hints := (.node none none .none (.node none none .none (.node none none (.node none none .none (.node none none (.node none (some ⟨[.tmpO 7 0 (.slice (.int .i64)), .tmp 13 (.int .i64)], [some 0], none, []⟩) .none .none) .none)) .none)))
def impl_chosen_c : Ct := .pure true false (.pair (.slice (.int .i64)) (.pair (.slice (.int .i64)) (.pair .bool .unit))) (.slice (.int .i64)) (fun x => impl_chosen x.1 x.2.1 x.2.2.1)
theorem impl_chosen_ct : CtOk Try.prog 265 impl_chosen_c := pure_ct (E := { T := tab, G := [(76, impl_Has_c), (300, impl_SetOf_fresh_c)] }) (EnvOk.cons impl_Has_ct (EnvOk.cons impl_SetOf_fresh_ct (EnvOk.nil tabOk))) mixed (fn := Try.f265) _ _ _ _ _ impl_chosen_h Try.func265 (by kernel_rfl) (fun x => by kernel_rfl)
def impl_chosen_fresh_c : Ct := .pure true true (.pair (.slice (.int .i64)) (.pair (.slice (.int .i64)) (.pair .bool .unit))) (.slice (.int .i64)) (fun x => impl_chosen x.1 x.2.1 x.2.2.1)
theorem impl_chosen_fresh_ct : CtOk Try.prog 265 impl_chosen_fresh_c := pure_ct (E := { T := tab, G := [(76, impl_Has_c), (300, impl_SetOf_fresh_c)] }) (EnvOk.cons impl_Has_ct (EnvOk.cons impl_SetOf_fresh_ct (EnvOk.nil tabOk))) mixed (fn := Try.f265) _ _ _ _ _ impl_chosen_h Try.func265 (by kernel_rfl) (fun x => by kernel_rfl)
/-! loop.example/g00486/impl.Rest -/
def impl_Rest (a0 : (List Int)) (a1 : (List Int)) : Option (List Int) :=
(impl_chosen a0 a1 false).bind fun y1 =>
 some y1
def impl_Rest_c : Ct := .pure true false (.pair (.slice (.int .i64)) (.pair (.slice (.int .i64)) .unit)) (.slice (.int .i64)) (fun x => impl_Rest x.1 x.2.1)
theorem impl_Rest_ct : CtOk Try.prog 195 impl_Rest_c := pure_ct (E := { T := tab, G := [(265, impl_chosen_fresh_c)] }) (EnvOk.cons impl_chosen_fresh_ct (EnvOk.nil tabOk)) mixed (fn := Try.f195) _ _ _ _ _ .none Try.func195 (by kernel_rfl) (fun x => by kernel_rfl)
def impl_Rest_fresh_c : Ct := .pure true true (.pair (.slice (.int .i64)) (.pair (.slice (.int .i64)) .unit)) (.slice (.int .i64)) (fun x => impl_Rest x.1 x.2.1)
theorem impl_Rest_fresh_ct : CtOk Try.prog 195 impl_Rest_fresh_c := pure_ct (E := { T := tab, G := [(265, impl_chosen_fresh_c)] }) (EnvOk.cons impl_chosen_fresh_ct (EnvOk.nil tabOk)) mixed (fn := Try.f195) _ _ _ _ _ .none Try.func195 (by kernel_rfl) (fun x => by kernel_rfl)
/-! loop.example/g00486/impl.Within -/
def impl_Within (a0 : (List Int)) (a1 : (List Int)) : Option Bool :=
(impl_Rest a0 a1).bind fun y1 =>
 some ((y1.length : Int) == 0)
def impl_Within_c : Ct := .pure true false (.pair (.slice (.int .i64)) (.pair (.slice (.int .i64)) .unit)) .bool (fun x => impl_Within x.1 x.2.1)
theorem impl_Within_ct : CtOk Try.prog 83 impl_Within_c := pure_ct (E := { T := tab, G := [(195, impl_Rest_fresh_c)] }) (EnvOk.cons impl_Rest_fresh_ct (EnvOk.nil tabOk)) mixed (fn := Try.f83) _ _ _ _ _ .none Try.func83 (by kernel_rfl) (fun x => by kernel_rfl)
/-! loop.example/g00486/impl.LostOf -/
def impl_LostOf_l1 (a0 : T_State.D) : ((List Int) × Int) → Option (((List Int) × Int) ⊕ ((List Int) × Int)) := fun s1 =>
 bif decide (s1.2 < (a0.2.1.length : Int)) then (
 idx a0.2.1 s1.2 fun x2 =>
 bif x2.2.2.1 then (
 if (s1.1.length + [s1.2].length) * (24 * 1) ≤ room then (
 some (.inl ((s1.1 ++ [s1.2]), IntKind.wrap .i64 (s1.2 + 1)))) else none)
 else (
 some (.inl (s1.1, IntKind.wrap .i64 (s1.2 + 1)))))
 else (
 some (.inr s1))
def impl_LostOf (a0 : T_State.D) : Option (List Int) :=
(while_ (impl_LostOf_l1 a0) ([], 0)).bind fun o3 =>
 some o3.1
def impl_LostOf_h : Hints := (.node none none .none (.node none none .none (.node none none (.node none none .none (.node none none (.node none (some ⟨[.tmpO 3 0 (.slice (.int .i64)), .tmp 10 (.int .i64)], [some 0], none, []⟩) .none .none) .none)) .none)))
def impl_LostOf_c : Ct := .pure true false (.pair T_State .unit) (.slice (.int .i64)) (fun x => impl_LostOf x.1)
theorem impl_LostOf_ct : CtOk Try.prog 85 impl_LostOf_c := pure_ct (E := { T := tab, G := [] }) (EnvOk.nil tabOk) mixed (fn := Try.f85) _ _ _ _ _ impl_LostOf_h Try.func85 (by kernel_rfl) (fun x => by kernel_rfl)
def impl_LostOf_fresh_c : Ct := .pure true true (.pair T_State .unit) (.slice (.int .i64)) (fun x => impl_LostOf x.1)
theorem impl_LostOf_fresh_ct : CtOk Try.prog 85 impl_LostOf_fresh_c := pure_ct (E := { T := tab, G := [] }) (EnvOk.nil tabOk) mixed (fn := Try.f85) _ _ _ _ _ impl_LostOf_h Try.func85 (by kernel_rfl) (fun x => by kernel_rfl)
/-! loop.example/g00486/laws.FnSettles -/
def laws_FnSettles_l1 (y3 : (T_State.D × ((List T_Note.D) × (Int × Unit)))) : Int → Option (Int ⊕ (Int ⊕ Bool)) := fun s13 =>
 bif decide (s13 < (y3.1.1.length : Int)) then (
 idx y3.1.1 s13 fun _ =>
(y3.1.1[(s13 : Int).toNat]?).bind fun x14 =>
(((impl_Doomed x14).bind fun y15 =>
 bif y15 then (
 some true)
 else (
 bif decide (x14.2.2.2.2.2.2.2.2.1 > 0) then (
 some (decide (x14.2.2.2.2.2.2.2.2.2.1 > 0)))
 else (
 some false))) : Option Bool).bind fun o16 =>
 bif o16 then (
 some (.inr (.inr false)))
 else (
 some (.inl (IntKind.wrap .i64 (s13 + 1)))))
 else (
 some (.inr (.inl s13)))
def laws_FnSettles_l2 (y3 : (T_State.D × ((List T_Note.D) × (Int × Unit)))) : Int → Option (Int ⊕ (Int ⊕ Bool)) := fun s20 =>
 bif decide (s20 < (y3.1.2.1.length : Int)) then (
((idx y3.1.2.1 s20 fun _ =>
(y3.1.2.1[(s20 : Int).toNat]?).bind fun x21 =>
 bif (!x21.2.2.1) then (
 idx y3.1.2.1 s20 fun _ =>
(y3.1.2.1[(s20 : Int).toNat]?).bind fun x22 =>
 bif decide (x22.1 ≤ 0) then (
 some true)
 else (
 idx y3.1.2.1 s20 fun _ =>
(y3.1.2.1[(s20 : Int).toNat]?).bind fun x23 =>
 some (decide (x23.2.1 ≥ 10))))
 else (
 some false)) : Option Bool).bind fun o24 =>
 bif o24 then (
 some (.inr (.inr false)))
 else (
 some (.inl (IntKind.wrap .i64 (s20 + 1)))))
 else (
 some (.inr (.inl s20)))
def laws_FnSettles (a0 : (List Int)) : Option Bool :=
(laws_big a0).bind fun y1 =>
 bif y1 then (
 some true)
 else (
(spec_DrawSettle a0).bind fun y2 =>
(impl_Settle y2).bind fun y3 =>
(spec_Settle y2).bind fun y4 =>
(((impl_SameState y3.1 y4.1).bind fun y5 =>
 bif (!y5) then (
 some true)
 else (
(impl_SameNotes y3.2.1 y4.2.1).bind fun y6 =>
 bif (!y6) then (
 some true)
 else (
 bif (y3.2.2.1 != y4.2.2.1) then (
 some true)
 else (
(impl_RoundsMost y2).bind fun y7 =>
 bif decide (y3.2.2.1 > y7) then (
 some true)
 else (
(impl_Quiet y3.1).bind fun y8 =>
 some (!y8)))))) : Option Bool).bind fun o9 =>
 bif o9 then (
 some false)
 else (
(impl_StateOk y2).bind fun y10 =>
 bif (!y10) then (
(((impl_SameState y3.1 y2).bind fun y11 =>
 bif y11 then (
 some (y3.2.2.1 == 0))
 else (
 some false)) : Option Bool).bind fun o12 =>
 some o12)
 else (
(while_ (laws_FnSettles_l1 y3) 0).bind fun o17 =>
 match o17 with
| .inl s18 => (
(while_ (laws_FnSettles_l2 y3) 0).bind fun o25 =>
 match o25 with
| .inl s26 => (
(impl_StateOk y3.1).bind fun y28 =>
 bif y28 then (
(impl_OnField y3.1 (-1)).bind fun y29 =>
(impl_OnField y2 (-1)).bind fun y30 =>
(impl_Within y29 y30).bind fun y31 =>
 bif y31 then (
(impl_LostOf y2).bind fun y32 =>
(impl_LostOf y3.1).bind fun y33 =>
(impl_Within y32 y33).bind fun y34 =>
 some y34)
 else (
 some false))
 else (
 some false))
| .inr o27 => (
 some o27))
| .inr o19 => (
 some o19))))
def laws_FnSettles_h : Hints := (.node none none .none (.node none none .none (.node none none .none (.node none none .none (.node none none .none (.node none none (.node none none (.node (some ⟨[.tmp 54 .bool], [none], none, []⟩) none .none .none) .none) (.node none none (.node none none .none (.node none none (.node none none (.node (some ⟨[.tmp 2 .bool], [none], none, []⟩) none .none .none) .none) .none)) (.node none none (.node none none .none (.node none none (.node none (some ⟨[.tmp 10 (.int .i64)], [some 0], some [.tmp 2 .bool], []⟩) (.node none none .none (.node none none (.node none none (.node none none .none (.node none none (.node (some ⟨[.tmp 88 .bool], [none], none, []⟩) none .none .none) .none)) .none) .none)) .none) .none)) (.node none none (.node none none .none (.node none none (.node none (some ⟨[.tmp 12 (.int .i64)], [some 2], some [.tmp 2 .bool], []⟩) (.node none none .none (.node none none (.node none none (.node none none (.node (some ⟨[.tmp 120 .bool], [none], none, []⟩) none .none .none) .none) .none) .none)) .none) .none)) .none)))))))))
def laws_FnSettles_c : Ct := .pure true false (.pair (.slice (.int .u8)) .unit) .bool (fun x => laws_FnSettles x.1)
theorem laws_FnSettles_ct : CtOk Try.prog 9 laws_FnSettles_c := pure_ct (E := { T := tab, G := [(14, laws_big_c), (60, impl_SameState_c), (61, impl_SameNotes_c), (67, impl_StateOk_c), (77, spec_DrawSettle_fresh_c), (78, impl_Settle_fresh_c), (79, spec_Settle_fresh_c), (80, impl_RoundsMost_c), (81, impl_Quiet_c), (82, impl_Doomed_c), (83, impl_Within_c), (84, impl_OnField_fresh_c), (85, impl_LostOf_fresh_c)] }) (EnvOk.cons laws_big_ct (EnvOk.cons impl_SameState_ct (EnvOk.cons impl_SameNotes_ct (EnvOk.cons impl_StateOk_ct (EnvOk.cons spec_DrawSettle_fresh_ct (EnvOk.cons impl_Settle_fresh_ct (EnvOk.cons spec_Settle_fresh_ct (EnvOk.cons impl_RoundsMost_ct (EnvOk.cons impl_Quiet_ct (EnvOk.cons impl_Doomed_ct (EnvOk.cons impl_Within_ct (EnvOk.cons impl_OnField_fresh_ct (EnvOk.cons impl_LostOf_fresh_ct (EnvOk.nil tabOk)))))))))))))) mixed (fn := Try.f9) _ _ _ _ _ laws_FnSettles_h Try.func9 (by kernel_rfl) (fun x => by kernel_rfl)
end
end Go.Abs
