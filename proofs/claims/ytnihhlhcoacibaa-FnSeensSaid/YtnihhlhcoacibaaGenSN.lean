import Derived.Test.YtnihhlhcoacibaaProg
import Derived.Test.YtnihhlhcoacibaaAbsTab
set_option linter.unusedVariables false
set_option linter.unusedSimpArgs false
namespace Go.Abs
open Go.Proofs
set_option maxRecDepth 100000
noncomputable section
@[reducible] def T_Piece : Ty := (.pair (.int .i64) (.pair (.int .i64) (.pair (.int .i64) (.pair (.int .i64) (.pair (.int .i64) (.pair (.int .i64) (.pair (.int .i64) (.pair (.int .i64) (.pair (.int .i64) (.pair (.int .i64) (.pair (.int .i64) (.pair .bool (.pair .bool .unit)))))))))))))
@[reducible] def T_Side : Ty := (.pair (.int .i64) (.pair (.int .i64) (.pair .bool .unit)))
@[reducible] def T_State : Ty := (.pair (.slice T_Piece) (.pair (.slice T_Side) (.pair (.int .i64) (.pair (.int .i64) .unit))))
@[reducible] def T_Event : Ty := (.pair (.int .i64) (.pair (.int .i64) (.pair (.int .i64) (.pair (.int .i64) (.pair (.int .i64) (.pair (.int .i64) (.pair .bool .unit)))))))
@[reducible] def T_Note : Ty := (.pair (.int .i64) (.pair T_Event (.pair (.int .i64) (.pair (.int .i64) (.pair T_Piece .unit)))))
@[reducible] def T_l1Cur : Ty := (.pair (.slice (.int .u8)) (.pair (.int .i64) (.pair (.int .i64) .unit)))
@[reducible] def T_Trigger : Ty := (.pair (.int .i64) (.pair (.int .i64) (.pair (.int .i64) (.pair T_Piece .unit))))
@[reducible] def T_S7 : Ty := (.pair (.int .i64) (.pair (.int .i64) (.pair .bool (.pair (.int .u8) .unit))))
@[reducible] def T_Pat : Ty := (.pair (.int .i64) (.pair (.int .i64) (.pair (.int .i64) (.pair (.int .i64) (.pair (.int .i64) (.pair (.int .i64) (.pair (.int .i64) .unit)))))))
@[reducible] def T_Guard : Ty := (.pair (.int .i64) (.pair (.int .i64) .unit))
@[reducible] def T_Act : Ty := (.pair (.int .i64) (.pair (.int .i64) (.pair (.int .i64) (.pair (.int .i64) (.pair (.int .i64) (.pair .bool (.pair (.slice T_Event) .unit)))))))
@[reducible] def T_Effect : Ty := (.pair (.int .i64) (.pair (.int .i64) (.pair (.int .i64) (.pair (.int .i64) (.pair T_Pat (.pair T_Guard (.pair T_Act (.pair (.int .i64) (.pair (.int .i64) .unit)))))))))
@[reducible] def T_Turn : Ty := (.pair (.int .i64) (.pair (.int .i64) (.pair (.int .i64) (.pair (.int .i64) (.pair T_Event (.pair (.slice T_Event) (.pair (.int .i64) (.pair (.int .i64) .unit))))))))
@[reducible] def T_S105 : Ty := (.pair (.slice T_Event) (.pair (.slice T_Effect) (.pair (.slice (.int .i64)) (.pair (.slice T_Turn) .unit))))
@[reducible] def T_S120 : Ty := (.pair T_State (.pair (.slice T_Effect) (.pair (.slice (.int .i64)) (.pair (.slice T_Trigger) (.pair (.slice T_Note) (.pair (.slice T_Turn) .unit))))))
def tab : Tab := [
  (1, ⟨.other, 1, 0, .unit, [.undef]⟩),
  (2, ⟨.int .i64, 1, 0, (.int .i64), [.int .i64 0]⟩),
  (3, ⟨.int .i64, 1, 0, (.int .i64), [.int .i64 0]⟩),
  (4, ⟨.bool, 1, 0, .bool, [.bool false]⟩),
  (5, ⟨.int .u8, 1, 0, (.int .u8), [.int .u8 0]⟩),
  (6, ⟨.int .u8, 1, 0, (.int .u8), [.int .u8 0]⟩),
  (7, ⟨.struct [(0, 2), (1, 3), (2, 4), (3, 6)], 4, 0, T_S7, [.int .i64 0, .int .i64 0, .bool false, .int .u8 0]⟩),
  (8, ⟨.struct [(0, 2), (1, 3), (2, 4), (3, 6)], 4, 0, T_S7, [.int .i64 0, .int .i64 0, .bool false, .int .u8 0]⟩),
  (12, ⟨.int .u64, 1, 0, (.int .u64), [.int .u64 0]⟩),
  (15, ⟨.other, 1, 0, .unit, [.undef]⟩),
  (16, ⟨.other, 1, 0, .unit, [.undef]⟩),
  (17, ⟨.other, 1, 0, .unit, [.undef]⟩),
  (21, ⟨.int .i32, 1, 0, (.int .i32), [.int .i32 0]⟩),
  (22, ⟨.slice 5, 1, 0, (.slice (.int .u8)), [.nil]⟩),
  (23, ⟨.other, 1, 0, .unit, [.undef]⟩),
  (24, ⟨.slice 37, 1, 0, (.slice T_Piece), [.nil]⟩),
  (25, ⟨.slice 101, 1, 0, (.slice T_Side), [.nil]⟩),
  (26, ⟨.struct [(0, 24), (1, 25), (2, 3), (3, 3)], 4, 0, T_State, [.nil, .nil, .int .i64 0, .int .i64 0]⟩),
  (27, ⟨.struct [(0, 24), (1, 25), (2, 3), (3, 3)], 4, 0, T_State, [.nil, .nil, .int .i64 0, .int .i64 0]⟩),
  (28, ⟨.slice 88, 1, 0, (.slice T_Note), [.nil]⟩),
  (30, ⟨.other, 1, 0, .unit, [.undef]⟩),
  (31, ⟨.slice 39, 1, 0, (.slice T_Trigger), [.nil]⟩),
  (32, ⟨.other, 1, 0, .unit, [.undef]⟩),
  (33, ⟨.other, 1, 0, .unit, [.undef]⟩),
  (34, ⟨.other, 1, 0, .unit, [.undef]⟩),
  (35, ⟨.other, 1, 0, .unit, [.undef]⟩),
  (36, ⟨.struct [(0, 3), (1, 3), (2, 3), (3, 3), (4, 3), (5, 3), (6, 3), (7, 3), (8, 3), (9, 3), (10, 3), (11, 4), (12, 4)], 13, 0, T_Piece, [.int .i64 0, .int .i64 0, .int .i64 0, .int .i64 0, .int .i64 0, .int .i64 0, .int .i64 0, .int .i64 0, .int .i64 0, .int .i64 0, .int .i64 0, .bool false, .bool false]⟩),
  (37, ⟨.struct [(0, 3), (1, 3), (2, 3), (3, 3), (4, 3), (5, 3), (6, 3), (7, 3), (8, 3), (9, 3), (10, 3), (11, 4), (12, 4)], 13, 0, T_Piece, [.int .i64 0, .int .i64 0, .int .i64 0, .int .i64 0, .int .i64 0, .int .i64 0, .int .i64 0, .int .i64 0, .int .i64 0, .int .i64 0, .int .i64 0, .bool false, .bool false]⟩),
  (38, ⟨.struct [(0, 3), (1, 3), (2, 3), (3, 37)], 16, 0, T_Trigger, [.int .i64 0, .int .i64 0, .int .i64 0, .int .i64 0, .int .i64 0, .int .i64 0, .int .i64 0, .int .i64 0, .int .i64 0, .int .i64 0, .int .i64 0, .int .i64 0, .int .i64 0, .int .i64 0, .bool false, .bool false]⟩),
  (39, ⟨.struct [(0, 3), (1, 3), (2, 3), (3, 37)], 16, 0, T_Trigger, [.int .i64 0, .int .i64 0, .int .i64 0, .int .i64 0, .int .i64 0, .int .i64 0, .int .i64 0, .int .i64 0, .int .i64 0, .int .i64 0, .int .i64 0, .int .i64 0, .int .i64 0, .int .i64 0, .bool false, .bool false]⟩),
  (40, ⟨.slice 3, 1, 0, (.slice (.int .i64)), [.nil]⟩),
  (42, ⟨.other, 1, 0, .unit, [.undef]⟩),
  (44, ⟨.other, 1, 0, .unit, [.undef]⟩),
  (45, ⟨.other, 1, 0, .unit, [.undef]⟩),
  (47, ⟨.other, 1, 0, .unit, [.undef]⟩),
  (49, ⟨.other, 1, 0, .unit, [.undef]⟩),
  (50, ⟨.other, 1, 0, .unit, [.undef]⟩),
  (51, ⟨.other, 1, 0, .unit, [.undef]⟩),
  (52, ⟨.slice 170, 1, 0, (.slice T_Piece), [.nil]⟩),
  (53, ⟨.slice 241, 1, 0, (.slice T_Side), [.nil]⟩),
  (54, ⟨.struct [(0, 52), (1, 53), (2, 3), (3, 3)], 4, 0, T_State, [.nil, .nil, .int .i64 0, .int .i64 0]⟩),
  (55, ⟨.struct [(0, 52), (1, 53), (2, 3), (3, 3)], 4, 0, T_State, [.nil, .nil, .int .i64 0, .int .i64 0]⟩),
  (56, ⟨.slice 172, 1, 0, (.slice T_Trigger), [.nil]⟩),
  (57, ⟨.other, 1, 0, .unit, [.undef]⟩),
  (58, ⟨.other, 1, 0, .unit, [.undef]⟩),
  (59, ⟨.other, 1, 0, .unit, [.undef]⟩),
  (60, ⟨.other, 1, 0, .unit, [.undef]⟩),
  (61, ⟨.other, 1, 0, .unit, [.undef]⟩),
  (62, ⟨.other, 1, 0, .unit, [.undef]⟩),
  (63, ⟨.other, 1, 0, .unit, [.undef]⟩),
  (64, ⟨.other, 1, 0, .unit, [.undef]⟩),
  (65, ⟨.other, 1, 0, .unit, [.undef]⟩),
  (66, ⟨.other, 1, 0, .unit, [.undef]⟩),
  (67, ⟨.slice 183, 1, 0, (.slice T_Event), [.nil]⟩),
  (68, ⟨.other, 1, 0, .unit, [.undef]⟩),
  (69, ⟨.other, 1, 0, .unit, [.undef]⟩),
  (70, ⟨.slice 86, 1, 0, (.slice T_Event), [.nil]⟩),
  (71, ⟨.other, 1, 0, .unit, [.undef]⟩),
  (72, ⟨.other, 1, 0, .unit, [.undef]⟩),
  (73, ⟨.other, 1, 0, .unit, [.undef]⟩),
  (74, ⟨.other, 1, 0, .unit, [.undef]⟩),
  (75, ⟨.other, 1, 0, .unit, [.undef]⟩),
  (76, ⟨.other, 1, 0, .unit, [.undef]⟩),
  (78, ⟨.other, 1, 0, .unit, [.undef]⟩),
  (80, ⟨.other, 1, 0, .unit, [.undef]⟩),
  (82, ⟨.other, 1, 0, .unit, [.undef]⟩),
  (83, ⟨.other, 1, 0, .unit, [.undef]⟩),
  (84, ⟨.other, 1, 0, .unit, [.undef]⟩),
  (85, ⟨.struct [(0, 3), (1, 3), (2, 3), (3, 3), (4, 3), (5, 3), (6, 4)], 7, 0, T_Event, [.int .i64 0, .int .i64 0, .int .i64 0, .int .i64 0, .int .i64 0, .int .i64 0, .bool false]⟩),
  (86, ⟨.struct [(0, 3), (1, 3), (2, 3), (3, 3), (4, 3), (5, 3), (6, 4)], 7, 0, T_Event, [.int .i64 0, .int .i64 0, .int .i64 0, .int .i64 0, .int .i64 0, .int .i64 0, .bool false]⟩),
  (87, ⟨.struct [(0, 3), (1, 86), (8, 3), (9, 3), (10, 37)], 23, 0, T_Note, [.int .i64 0, .int .i64 0, .int .i64 0, .int .i64 0, .int .i64 0, .int .i64 0, .int .i64 0, .bool false, .int .i64 0, .int .i64 0, .int .i64 0, .int .i64 0, .int .i64 0, .int .i64 0, .int .i64 0, .int .i64 0, .int .i64 0, .int .i64 0, .int .i64 0, .int .i64 0, .int .i64 0, .bool false, .bool false]⟩),
  (88, ⟨.struct [(0, 3), (1, 86), (8, 3), (9, 3), (10, 37)], 23, 0, T_Note, [.int .i64 0, .int .i64 0, .int .i64 0, .int .i64 0, .int .i64 0, .int .i64 0, .int .i64 0, .bool false, .int .i64 0, .int .i64 0, .int .i64 0, .int .i64 0, .int .i64 0, .int .i64 0, .int .i64 0, .int .i64 0, .int .i64 0, .int .i64 0, .int .i64 0, .int .i64 0, .int .i64 0, .bool false, .bool false]⟩),
  (89, ⟨.other, 1, 0, .unit, [.undef]⟩),
  (90, ⟨.other, 1, 0, .unit, [.undef]⟩),
  (91, ⟨.other, 1, 0, .unit, [.undef]⟩),
  (92, ⟨.other, 1, 0, .unit, [.undef]⟩),
  (93, ⟨.other, 1, 0, .unit, [.undef]⟩),
  (94, ⟨.other, 1, 0, .unit, [.undef]⟩),
  (95, ⟨.other, 1, 0, .unit, [.undef]⟩),
  (97, ⟨.other, 1, 0, .unit, [.undef]⟩),
  (98, ⟨.other, 1, 0, .unit, [.undef]⟩),
  (99, ⟨.other, 1, 0, .unit, [.undef]⟩),
  (100, ⟨.struct [(0, 3), (1, 3), (2, 4)], 3, 0, T_Side, [.int .i64 0, .int .i64 0, .bool false]⟩),
  (101, ⟨.struct [(0, 3), (1, 3), (2, 4)], 3, 0, T_Side, [.int .i64 0, .int .i64 0, .bool false]⟩),
  (102, ⟨.other, 1, 0, .unit, [.undef]⟩),
  (103, ⟨.slice 217, 1, 0, (.slice T_Effect), [.nil]⟩),
  (104, ⟨.slice 256, 1, 0, (.slice T_Turn), [.nil]⟩),
  (105, ⟨.struct [(0, 67), (1, 103), (2, 40), (3, 104)], 4, 0, T_S105, [.nil, .nil, .nil, .nil]⟩),
  (106, ⟨.struct [(0, 67), (1, 103), (2, 40), (3, 104)], 4, 0, T_S105, [.nil, .nil, .nil, .nil]⟩),
  (107, ⟨.other, 1, 0, .unit, [.undef]⟩),
  (108, ⟨.other, 1, 0, .unit, [.undef]⟩),
  (109, ⟨.slice 136, 1, 0, (.slice T_Effect), [.nil]⟩),
  (110, ⟨.slice 210, 1, 0, (.slice T_Turn), [.nil]⟩),
  (111, ⟨.struct [(0, 70), (1, 109), (2, 40), (3, 110)], 4, 0, T_S105, [.nil, .nil, .nil, .nil]⟩),
  (112, ⟨.struct [(0, 70), (1, 109), (2, 40), (3, 110)], 4, 0, T_S105, [.nil, .nil, .nil, .nil]⟩),
  (113, ⟨.other, 1, 0, .unit, [.undef]⟩),
  (114, ⟨.other, 1, 0, .unit, [.undef]⟩),
  (115, ⟨.other, 1, 0, .unit, [.undef]⟩),
  (116, ⟨.other, 1, 0, .unit, [.undef]⟩),
  (117, ⟨.other, 1, 0, .unit, [.undef]⟩),
  (118, ⟨.other, 1, 0, .unit, [.undef]⟩),
  (119, ⟨.other, 1, 0, .unit, [.undef]⟩),
  (120, ⟨.struct [(0, 27), (4, 109), (5, 40), (6, 31), (7, 28), (8, 110)], 9, 0, T_S120, [.nil, .nil, .int .i64 0, .int .i64 0, .nil, .nil, .nil, .nil, .nil]⟩),
  (121, ⟨.struct [(0, 27), (4, 109), (5, 40), (6, 31), (7, 28), (8, 110)], 9, 0, T_S120, [.nil, .nil, .int .i64 0, .int .i64 0, .nil, .nil, .nil, .nil, .nil]⟩),
  (122, ⟨.other, 1, 0, .unit, [.undef]⟩),
  (123, ⟨.other, 1, 0, .unit, [.undef]⟩),
  (124, ⟨.other, 1, 0, .unit, [.undef]⟩),
  (125, ⟨.other, 1, 0, .unit, [.undef]⟩),
  (126, ⟨.other, 1, 0, .unit, [.undef]⟩),
  (127, ⟨.other, 1, 0, .unit, [.undef]⟩),
  (128, ⟨.other, 1, 0, .unit, [.undef]⟩),
  (129, ⟨.struct [(0, 3), (1, 3), (2, 3), (3, 3), (4, 3), (5, 3), (6, 3)], 7, 0, T_Pat, [.int .i64 0, .int .i64 0, .int .i64 0, .int .i64 0, .int .i64 0, .int .i64 0, .int .i64 0]⟩),
  (130, ⟨.struct [(0, 3), (1, 3), (2, 3), (3, 3), (4, 3), (5, 3), (6, 3)], 7, 0, T_Pat, [.int .i64 0, .int .i64 0, .int .i64 0, .int .i64 0, .int .i64 0, .int .i64 0, .int .i64 0]⟩),
  (131, ⟨.struct [(0, 3), (1, 3)], 2, 0, T_Guard, [.int .i64 0, .int .i64 0]⟩),
  (132, ⟨.struct [(0, 3), (1, 3)], 2, 0, T_Guard, [.int .i64 0, .int .i64 0]⟩),
  (133, ⟨.struct [(0, 3), (1, 3), (2, 3), (3, 3), (4, 3), (5, 4), (6, 70)], 7, 0, T_Act, [.int .i64 0, .int .i64 0, .int .i64 0, .int .i64 0, .int .i64 0, .bool false, .nil]⟩),
  (134, ⟨.struct [(0, 3), (1, 3), (2, 3), (3, 3), (4, 3), (5, 4), (6, 70)], 7, 0, T_Act, [.int .i64 0, .int .i64 0, .int .i64 0, .int .i64 0, .int .i64 0, .bool false, .nil]⟩),
  (135, ⟨.struct [(0, 3), (1, 3), (2, 3), (3, 3), (4, 130), (11, 132), (13, 134), (20, 3), (21, 3)], 22, 0, T_Effect, [.int .i64 0, .int .i64 0, .int .i64 0, .int .i64 0, .int .i64 0, .int .i64 0, .int .i64 0, .int .i64 0, .int .i64 0, .int .i64 0, .int .i64 0, .int .i64 0, .int .i64 0, .int .i64 0, .int .i64 0, .int .i64 0, .int .i64 0, .int .i64 0, .bool false, .nil, .int .i64 0, .int .i64 0]⟩),
  (136, ⟨.struct [(0, 3), (1, 3), (2, 3), (3, 3), (4, 130), (11, 132), (13, 134), (20, 3), (21, 3)], 22, 0, T_Effect, [.int .i64 0, .int .i64 0, .int .i64 0, .int .i64 0, .int .i64 0, .int .i64 0, .int .i64 0, .int .i64 0, .int .i64 0, .int .i64 0, .int .i64 0, .int .i64 0, .int .i64 0, .int .i64 0, .int .i64 0, .int .i64 0, .int .i64 0, .int .i64 0, .bool false, .nil, .int .i64 0, .int .i64 0]⟩),
  (138, ⟨.other, 1, 0, .unit, [.undef]⟩),
  (140, ⟨.other, 1, 0, .unit, [.undef]⟩),
  (141, ⟨.other, 1, 0, .unit, [.undef]⟩),
  (142, ⟨.other, 1, 0, .unit, [.undef]⟩),
  (143, ⟨.other, 1, 0, .unit, [.undef]⟩),
  (144, ⟨.other, 1, 0, .unit, [.undef]⟩),
  (145, ⟨.other, 1, 0, .unit, [.undef]⟩),
  (146, ⟨.other, 1, 0, .unit, [.undef]⟩),
  (147, ⟨.other, 1, 0, .unit, [.undef]⟩),
  (148, ⟨.other, 1, 0, .unit, [.undef]⟩),
  (149, ⟨.other, 1, 0, .unit, [.undef]⟩),
  (150, ⟨.other, 1, 0, .unit, [.undef]⟩),
  (151, ⟨.other, 1, 0, .unit, [.undef]⟩),
  (152, ⟨.other, 1, 0, .unit, [.undef]⟩),
  (154, ⟨.other, 1, 0, .unit, [.undef]⟩),
  (155, ⟨.other, 1, 0, .unit, [.undef]⟩),
  (156, ⟨.other, 1, 0, .unit, [.undef]⟩),
  (157, ⟨.other, 1, 0, .unit, [.undef]⟩),
  (158, ⟨.other, 1, 0, .unit, [.undef]⟩),
  (160, ⟨.other, 1, 0, .unit, [.undef]⟩),
  (161, ⟨.other, 1, 0, .unit, [.undef]⟩),
  (162, ⟨.other, 1, 0, .unit, [.undef]⟩),
  (163, ⟨.other, 1, 0, .unit, [.undef]⟩),
  (164, ⟨.other, 1, 0, .unit, [.undef]⟩),
  (165, ⟨.other, 1, 0, .unit, [.undef]⟩),
  (166, ⟨.other, 1, 0, .unit, [.undef]⟩),
  (167, ⟨.other, 1, 0, .unit, [.undef]⟩),
  (168, ⟨.other, 1, 0, .unit, [.undef]⟩),
  (169, ⟨.other, 1, 0, .unit, [.undef]⟩),
  (170, ⟨.struct [(0, 3), (1, 3), (2, 3), (3, 3), (4, 3), (5, 3), (6, 3), (7, 3), (8, 3), (9, 3), (10, 3), (11, 4), (12, 4)], 13, 0, T_Piece, [.int .i64 0, .int .i64 0, .int .i64 0, .int .i64 0, .int .i64 0, .int .i64 0, .int .i64 0, .int .i64 0, .int .i64 0, .int .i64 0, .int .i64 0, .bool false, .bool false]⟩),
  (171, ⟨.struct [(0, 3), (1, 3), (2, 3), (3, 170)], 16, 0, T_Trigger, [.int .i64 0, .int .i64 0, .int .i64 0, .int .i64 0, .int .i64 0, .int .i64 0, .int .i64 0, .int .i64 0, .int .i64 0, .int .i64 0, .int .i64 0, .int .i64 0, .int .i64 0, .int .i64 0, .bool false, .bool false]⟩),
  (172, ⟨.struct [(0, 3), (1, 3), (2, 3), (3, 170)], 16, 0, T_Trigger, [.int .i64 0, .int .i64 0, .int .i64 0, .int .i64 0, .int .i64 0, .int .i64 0, .int .i64 0, .int .i64 0, .int .i64 0, .int .i64 0, .int .i64 0, .int .i64 0, .int .i64 0, .int .i64 0, .bool false, .bool false]⟩),
  (173, ⟨.other, 1, 0, .unit, [.undef]⟩),
  (174, ⟨.other, 1, 0, .unit, [.undef]⟩),
  (175, ⟨.other, 1, 0, .unit, [.undef]⟩),
  (176, ⟨.other, 1, 0, .unit, [.undef]⟩),
  (177, ⟨.other, 1, 0, .unit, [.undef]⟩),
  (179, ⟨.other, 1, 0, .unit, [.undef]⟩),
  (181, ⟨.other, 1, 0, .unit, [.undef]⟩),
  (182, ⟨.other, 1, 0, .unit, [.undef]⟩),
  (183, ⟨.struct [(0, 3), (1, 3), (2, 3), (3, 3), (4, 3), (5, 3), (6, 4)], 7, 0, T_Event, [.int .i64 0, .int .i64 0, .int .i64 0, .int .i64 0, .int .i64 0, .int .i64 0, .bool false]⟩),
  (184, ⟨.other, 1, 0, .unit, [.undef]⟩),
  (185, ⟨.other, 1, 0, .unit, [.undef]⟩),
  (186, ⟨.other, 1, 0, .unit, [.undef]⟩),
  (187, ⟨.other, 1, 0, .unit, [.undef]⟩),
  (188, ⟨.other, 1, 0, .unit, [.undef]⟩),
  (189, ⟨.other, 1, 0, .unit, [.undef]⟩),
  (190, ⟨.other, 1, 0, .unit, [.undef]⟩),
  (191, ⟨.other, 1, 0, .unit, [.undef]⟩),
  (192, ⟨.other, 1, 0, .unit, [.undef]⟩),
  (193, ⟨.other, 1, 0, .unit, [.undef]⟩),
  (194, ⟨.other, 1, 0, .unit, [.undef]⟩),
  (195, ⟨.other, 1, 0, .unit, [.undef]⟩),
  (196, ⟨.other, 1, 0, .unit, [.undef]⟩),
  (197, ⟨.other, 1, 0, .unit, [.undef]⟩),
  (198, ⟨.other, 1, 0, .unit, [.undef]⟩),
  (199, ⟨.other, 1, 0, .unit, [.undef]⟩),
  (200, ⟨.other, 1, 0, .unit, [.undef]⟩),
  (201, ⟨.other, 1, 0, .unit, [.undef]⟩),
  (202, ⟨.other, 1, 0, .unit, [.undef]⟩),
  (203, ⟨.other, 1, 0, .unit, [.undef]⟩),
  (204, ⟨.other, 1, 0, .unit, [.undef]⟩),
  (205, ⟨.other, 1, 0, .unit, [.undef]⟩),
  (206, ⟨.other, 1, 0, .unit, [.undef]⟩),
  (207, ⟨.other, 1, 0, .unit, [.undef]⟩),
  (208, ⟨.other, 1, 0, .unit, [.undef]⟩),
  (209, ⟨.struct [(0, 3), (1, 3), (2, 3), (3, 3), (4, 86), (11, 70), (12, 3), (13, 3)], 14, 0, T_Turn, [.int .i64 0, .int .i64 0, .int .i64 0, .int .i64 0, .int .i64 0, .int .i64 0, .int .i64 0, .int .i64 0, .int .i64 0, .int .i64 0, .bool false, .nil, .int .i64 0, .int .i64 0]⟩),
  (210, ⟨.struct [(0, 3), (1, 3), (2, 3), (3, 3), (4, 86), (11, 70), (12, 3), (13, 3)], 14, 0, T_Turn, [.int .i64 0, .int .i64 0, .int .i64 0, .int .i64 0, .int .i64 0, .int .i64 0, .int .i64 0, .int .i64 0, .int .i64 0, .int .i64 0, .bool false, .nil, .int .i64 0, .int .i64 0]⟩),
  (211, ⟨.other, 1, 0, .unit, [.undef]⟩),
  (212, ⟨.struct [(0, 3), (1, 3), (2, 3), (3, 3), (4, 3), (5, 3), (6, 3)], 7, 0, T_Pat, [.int .i64 0, .int .i64 0, .int .i64 0, .int .i64 0, .int .i64 0, .int .i64 0, .int .i64 0]⟩),
  (213, ⟨.struct [(0, 3), (1, 3)], 2, 0, T_Guard, [.int .i64 0, .int .i64 0]⟩),
  (214, ⟨.struct [(0, 3), (1, 3), (2, 3), (3, 3), (4, 3), (5, 4), (6, 67)], 7, 0, T_Act, [.int .i64 0, .int .i64 0, .int .i64 0, .int .i64 0, .int .i64 0, .bool false, .nil]⟩),
  (215, ⟨.struct [(0, 3), (1, 3), (2, 3), (3, 3), (4, 3), (5, 4), (6, 67)], 7, 0, T_Act, [.int .i64 0, .int .i64 0, .int .i64 0, .int .i64 0, .int .i64 0, .bool false, .nil]⟩),
  (216, ⟨.struct [(0, 3), (1, 3), (2, 3), (3, 3), (4, 212), (11, 213), (13, 215), (20, 3), (21, 3)], 22, 0, T_Effect, [.int .i64 0, .int .i64 0, .int .i64 0, .int .i64 0, .int .i64 0, .int .i64 0, .int .i64 0, .int .i64 0, .int .i64 0, .int .i64 0, .int .i64 0, .int .i64 0, .int .i64 0, .int .i64 0, .int .i64 0, .int .i64 0, .int .i64 0, .int .i64 0, .bool false, .nil, .int .i64 0, .int .i64 0]⟩),
  (217, ⟨.struct [(0, 3), (1, 3), (2, 3), (3, 3), (4, 212), (11, 213), (13, 215), (20, 3), (21, 3)], 22, 0, T_Effect, [.int .i64 0, .int .i64 0, .int .i64 0, .int .i64 0, .int .i64 0, .int .i64 0, .int .i64 0, .int .i64 0, .int .i64 0, .int .i64 0, .int .i64 0, .int .i64 0, .int .i64 0, .int .i64 0, .int .i64 0, .int .i64 0, .int .i64 0, .int .i64 0, .bool false, .nil, .int .i64 0, .int .i64 0]⟩),
  (218, ⟨.other, 1, 0, .unit, [.undef]⟩),
  (219, ⟨.other, 1, 0, .unit, [.undef]⟩),
  (220, ⟨.other, 1, 0, .unit, [.undef]⟩),
  (222, ⟨.other, 1, 0, .unit, [.undef]⟩),
  (223, ⟨.other, 1, 0, .unit, [.undef]⟩),
  (224, ⟨.other, 1, 0, .unit, [.undef]⟩),
  (225, ⟨.other, 1, 0, .unit, [.undef]⟩),
  (226, ⟨.other, 1, 0, .unit, [.undef]⟩),
  (227, ⟨.other, 1, 0, .unit, [.undef]⟩),
  (228, ⟨.other, 1, 0, .unit, [.undef]⟩),
  (229, ⟨.other, 1, 0, .unit, [.undef]⟩),
  (230, ⟨.other, 1, 0, .unit, [.undef]⟩),
  (231, ⟨.struct [(0, 22), (1, 3), (2, 3)], 3, 0, T_l1Cur, [.nil, .int .i64 0, .int .i64 0]⟩),
  (232, ⟨.struct [(0, 22), (1, 3), (2, 3)], 3, 0, T_l1Cur, [.nil, .int .i64 0, .int .i64 0]⟩),
  (233, ⟨.other, 1, 0, .unit, [.undef]⟩),
  (234, ⟨.other, 1, 0, .unit, [.undef]⟩),
  (235, ⟨.other, 1, 0, .unit, [.undef]⟩),
  (236, ⟨.other, 1, 0, .unit, [.undef]⟩),
  (237, ⟨.other, 1, 0, .unit, [.undef]⟩),
  (238, ⟨.other, 1, 0, .unit, [.undef]⟩),
  (239, ⟨.other, 1, 0, .unit, [.undef]⟩),
  (240, ⟨.other, 1, 0, .unit, [.undef]⟩),
  (241, ⟨.struct [(0, 3), (1, 3), (2, 4)], 3, 0, T_Side, [.int .i64 0, .int .i64 0, .bool false]⟩),
  (242, ⟨.other, 1, 0, .unit, [.undef]⟩),
  (243, ⟨.other, 1, 0, .unit, [.undef]⟩),
  (245, ⟨.other, 1, 0, .unit, [.undef]⟩),
  (246, ⟨.other, 1, 0, .unit, [.undef]⟩),
  (247, ⟨.other, 1, 0, .unit, [.undef]⟩),
  (248, ⟨.other, 1, 0, .unit, [.undef]⟩),
  (249, ⟨.other, 1, 0, .unit, [.undef]⟩),
  (250, ⟨.other, 1, 0, .unit, [.undef]⟩),
  (251, ⟨.other, 1, 0, .unit, [.undef]⟩),
  (252, ⟨.other, 1, 0, .unit, [.undef]⟩),
  (253, ⟨.other, 1, 0, .unit, [.undef]⟩),
  (254, ⟨.other, 1, 0, .unit, [.undef]⟩),
  (255, ⟨.struct [(0, 3), (1, 3), (2, 3), (3, 3), (4, 183), (11, 67), (12, 3), (13, 3)], 14, 0, T_Turn, [.int .i64 0, .int .i64 0, .int .i64 0, .int .i64 0, .int .i64 0, .int .i64 0, .int .i64 0, .int .i64 0, .int .i64 0, .int .i64 0, .bool false, .nil, .int .i64 0, .int .i64 0]⟩),
  (256, ⟨.struct [(0, 3), (1, 3), (2, 3), (3, 3), (4, 183), (11, 67), (12, 3), (13, 3)], 14, 0, T_Turn, [.int .i64 0, .int .i64 0, .int .i64 0, .int .i64 0, .int .i64 0, .int .i64 0, .int .i64 0, .int .i64 0, .int .i64 0, .int .i64 0, .bool false, .nil, .int .i64 0, .int .i64 0]⟩),
  (257, ⟨.other, 1, 0, .unit, [.undef]⟩),
  (258, ⟨.other, 1, 0, .unit, [.undef]⟩),
  (259, ⟨.slice 70, 1, 0, (.slice (.slice T_Event)), [.nil]⟩),
  (260, ⟨.other, 1, 0, .unit, [.undef]⟩),
  (261, ⟨.slice 110, 1, 0, (.slice (.slice T_Turn)), [.nil]⟩),
  (262, ⟨.other, 1, 0, .unit, [.undef]⟩),
  (263, ⟨.other, 1, 0, .unit, [.undef]⟩),
  (264, ⟨.other, 1, 0, .unit, [.undef]⟩),
  (265, ⟨.other, 1, 0, .unit, [.undef]⟩),
  (266, ⟨.other, 1, 0, .unit, [.undef]⟩),
  (267, ⟨.other, 1, 0, .unit, [.undef]⟩),
  (268, ⟨.other, 1, 0, .unit, [.undef]⟩),
  (269, ⟨.other, 1, 0, .unit, [.undef]⟩),
  (270, ⟨.other, 1, 0, .unit, [.undef]⟩),
  (271, ⟨.other, 1, 0, .unit, [.undef]⟩),
  (272, ⟨.other, 1, 0, .unit, [.undef]⟩),
  (273, ⟨.other, 1, 0, .unit, [.undef]⟩),
  (274, ⟨.other, 1, 0, .unit, [.undef]⟩),
  (275, ⟨.other, 1, 0, .unit, [.undef]⟩),
  (276, ⟨.int .u64, 1, 0, (.int .u64), [.int .u64 0]⟩),
  (277, ⟨.other, 1, 0, .unit, [.undef]⟩),
  (278, ⟨.other, 1, 0, .unit, [.undef]⟩),
  (279, ⟨.other, 1, 0, .unit, [.undef]⟩),
  (280, ⟨.other, 1, 0, .unit, [.undef]⟩),
  (281, ⟨.other, 1, 0, .unit, [.undef]⟩),
  (282, ⟨.other, 1, 0, .unit, [.undef]⟩),
  (283, ⟨.other, 1, 0, .unit, [.undef]⟩),
  (284, ⟨.int .i64, 1, 0, (.int .i64), [.int .i64 0]⟩),
  (286, ⟨.other, 1, 0, .unit, [.undef]⟩),
  (287, ⟨.other, 1, 0, .unit, [.undef]⟩),
  (288, ⟨.other, 1, 0, .unit, [.undef]⟩),
  (289, ⟨.other, 1, 0, .unit, [.undef]⟩),
  (291, ⟨.other, 1, 0, .unit, [.undef]⟩),
  (292, ⟨.other, 1, 0, .unit, [.undef]⟩),
  (293, ⟨.int .u32, 1, 0, (.int .u32), [.int .u32 0]⟩),
  (294, ⟨.other, 1, 0, .unit, [.undef]⟩),
  (295, ⟨.int .u64, 1, 0, (.int .u64), [.int .u64 0]⟩),
  (296, ⟨.int .u64, 1, 0, (.int .u64), [.int .u64 0]⟩),
  (297, ⟨.other, 1, 0, .unit, [.undef]⟩),
  (298, ⟨.other, 1, 0, .unit, [.undef]⟩),
  (299, ⟨.other, 1, 0, .unit, [.undef]⟩),
  (300, ⟨.other, 1, 0, .unit, [.undef]⟩),
  (301, ⟨.other, 1, 0, .unit, [.undef]⟩),
  (302, ⟨.other, 1, 0, .unit, [.undef]⟩),
  (304, ⟨.other, 1, 0, .unit, [.undef]⟩),
  (305, ⟨.other, 1, 0, .unit, [.undef]⟩),
  (311, ⟨.other, 1, 0, .unit, [.undef]⟩),
  (312, ⟨.int .u8, 1, 0, (.int .u8), [.int .u8 0]⟩),
  (313, ⟨.int .u8, 1, 0, (.int .u8), [.int .u8 0]⟩),
  (314, ⟨.other, 1, 0, .unit, [.undef]⟩),
  (315, ⟨.other, 1, 0, .unit, [.undef]⟩),
  (316, ⟨.int .i32, 1, 0, (.int .i32), [.int .i32 0]⟩),
  (317, ⟨.int .i32, 1, 0, (.int .i32), [.int .i32 0]⟩)]
theorem tabOk : TabOk Try.prog tab := tabB_ok (by kernel_rfl)
theorem mixed : Try.prog.follows .mixedOrders = true := by kernel_rfl
/-! loop.example/g00486/laws.big -/
def laws_big (a0 : (List Int)) : Option Bool :=
 some (decide ((a0.length : Int) > 1048576))
def laws_big_c : Ct := .pure true false (.pair (.slice (.int .u8)) .unit) .bool (fun x => laws_big x.1)
theorem laws_big_ct : CtOk Try.prog 14 laws_big_c := pure_ct (E := { T := tab, G := [] }) (EnvOk.nil tabOk) mixed (fn := Try.f14) _ _ _ _ _ .none Try.func14 (by kernel_rfl) (fun x => by kernel_rfl)
/-! loop.example/g00486/spec.l1New -/
def spec_l1New_l1 (a0 : (List Int)) : (Int × Int) → Option ((Int × Int) ⊕ (Int × Int)) := fun s1 =>
((bif decide (s1.2 < (a0.length : Int)) then (
 some (decide (s1.2 < 4000)))
 else (
 some false)) : Option Bool).bind fun o2 =>
 bif o2 then (
 idx a0 s1.2 fun x3 =>
 let k4 : Int := IntKind.wrap .i64 ((IntKind.wrap .i64 (s1.1 * 137)) + (IntKind.wrap .i64 x3))
 let k5 : Int := IntKind.wrap .i64 (BitVec.ofInt (IntKind.bits .i64) (IntKind.wrap .i64 (k4 + 11)) &&& BitVec.ofInt (IntKind.bits .i64) 1073741823).toNat
 some (.inl (k5, IntKind.wrap .i64 (s1.2 + 1))))
 else (
 some (.inr s1))
def spec_l1New (a0 : (List Int)) : Option T_l1Cur.D :=
(while_ (spec_l1New_l1 a0) (IntKind.wrap .i64 (139871 + (a0.length : Int)), 0)).bind fun o6 =>
 some (a0, 0, o6.1, ())
def spec_l1New_h : Hints := (.node none none .none (.node none none .none (.node none none (.node none none .none (.node none none (.node none (some ⟨[.tmp 3 (.int .i64), .tmp 4 (.int .i64)], [some 0], none, []⟩) (.node none none (.node none none (.node (some ⟨[.tmp 15 .bool], [none], none, []⟩) none .none .none) .none) .none) .none) .none)) .none)))
def spec_l1New_c : Ct := .box (.pair (.slice (.int .u8)) .unit) T_l1Cur (fun x => spec_l1New x.1)
theorem spec_l1New_ct : CtOk Try.prog 115 spec_l1New_c := box_ct (E := { T := tab, G := [] }) (EnvOk.nil tabOk) mixed (fn := Try.f115) _ _ _ spec_l1New_h Try.func115 (by kernel_rfl) (fun x => by kernel_rfl)
/-! loop.example/g00486/spec.StateNew -/
def spec_StateNew (a0 : Int) : Option T_State.D :=
 bif (a0 == 3) then (
 if (([(20, 0, false, ()), (20, 0, false, ())] : List T_Side.D).length + ([(20, 0, false, ())] : List T_Side.D).length) * (24 * 3) ≤ room then (
 some ([], (([(20, 0, false, ()), (20, 0, false, ())] : List T_Side.D) ++ ([(20, 0, false, ())] : List T_Side.D)), 0, 0, ())) else none)
 else (
 some ([], ([(20, 0, false, ()), (20, 0, false, ())] : List T_Side.D), 0, 0, ()))
def spec_StateNew_c : Ct := .pure true false (.pair (.int .i64) .unit) T_State (fun x => spec_StateNew x.1)
theorem spec_StateNew_ct : CtOk Try.prog 233 spec_StateNew_c := pure_ct (E := { T := tab, G := [] }) (EnvOk.nil tabOk) mixed (fn := Try.f233) _ _ _ _ _ .none Try.func233 (by kernel_rfl) (fun x => by kernel_rfl)
def spec_StateNew_fresh_c : Ct := .pure true true (.pair (.int .i64) .unit) T_State (fun x => spec_StateNew x.1)
theorem spec_StateNew_fresh_ct : CtOk Try.prog 233 spec_StateNew_fresh_c := pure_ct (E := { T := tab, G := [] }) (EnvOk.nil tabOk) mixed (fn := Try.f233) _ _ _ _ _ .none Try.func233 (by kernel_rfl) (fun x => by kernel_rfl)
/-! loop.example/g00486/spec.l1Byte -/
def spec_l1Byte (a0 : T_l1Cur.D) : Option (Int × (T_l1Cur.D × Unit)) :=
 let k1 : Int := IntKind.wrap .i64 ((IntKind.wrap .i64 (a0.2.2.1 * 6364136223846793005)) + 1442695040888963407)
 if 0 ≤ 33 then (
 if 0 ≤ 47 then (
 let k2 : Int := IntKind.wrap .i64 (BitVec.ofInt (IntKind.bits .i64) (k1.fdiv (2 ^ min (33 : Int).toNat (IntKind.bits .i64))) ^^^ BitVec.ofInt (IntKind.bits .i64) (k1.fdiv (2 ^ min (47 : Int).toNat (IntKind.bits .i64)))).toNat
 let k3 : Int := IntKind.wrap .i64 (BitVec.ofInt (IntKind.bits .i64) k2 &&& BitVec.ofInt (IntKind.bits .i64) 255).toNat
 bif decide (a0.2.1 < (a0.1.length : Int)) then (
 idx a0.1 a0.2.1 fun x4 =>
 let k5 : Int := IntKind.wrap .i64 (BitVec.ofInt (IntKind.bits .i64) (IntKind.wrap .i64 (k3 + (IntKind.wrap .i64 x4))) &&& BitVec.ofInt (IntKind.bits .i64) 255).toNat
 some (k5, ((a0.1, IntKind.wrap .i64 (a0.2.1 + 1), k1, ()), ())))
 else (
 some (k3, ((a0.1, a0.2.1, k1, ()), ())))) else none) else none
def spec_l1Byte_c : Ct := .mut [.ptr] true true (.pair T_l1Cur .unit) (.int .i64) (fun x => spec_l1Byte x.1)
theorem spec_l1Byte_ct : CtOk Try.prog 240 spec_l1Byte_c := mut_ct (E := { T := tab, G := [] }) (EnvOk.nil tabOk) mixed (fn := Try.f240) _ _ _ _ _ _ .none Try.func240 (by kernel_rfl) (fun x => by kernel_rfl)
/-! loop.example/g00486/spec.l1Below -/
def spec_l1Below (a0 : T_l1Cur.D) (a1 : Int) : Option (Int × (T_l1Cur.D × Unit)) :=
 bif decide (a1 ≤ 0) then (
 some (0, (a0, ())))
 else (
 bif decide (a1 ≤ 256) then (
(spec_l1Byte a0).bind fun y1 =>
 if a1 = 0 then none else (
 some (y1.1.tmod a1, y1.2)))
 else (
(spec_l1Byte a0).bind fun y2 =>
(spec_l1Byte y2.2.1).bind fun y3 =>
(spec_l1Byte y3.2.1).bind fun y4 =>
 let k5 : Int := IntKind.wrap .i64 ((IntKind.wrap .i64 (y2.1 * 65536)) + (IntKind.wrap .i64 (y3.1 * 256)))
 if a1 = 0 then none else (
 some ((IntKind.wrap .i64 (k5 + y4.1)).tmod a1, y4.2))))
def spec_l1Below_c : Ct := .mut [.ptr, .rd] true true (.pair T_l1Cur (.pair (.int .i64) .unit)) (.int .i64) (fun x => spec_l1Below x.1 x.2.1)
theorem spec_l1Below_ct : CtOk Try.prog 137 spec_l1Below_c := mut_ct (E := { T := tab, G := [(240, spec_l1Byte_c)] }) (EnvOk.cons spec_l1Byte_ct (EnvOk.nil tabOk)) mixed (fn := Try.f137) _ _ _ _ _ _ .none Try.func137 (by kernel_rfl) (fun x => by kernel_rfl)
/-! loop.example/g00486/spec.l1Int -/
def spec_l1Int (a0 : T_l1Cur.D) (a1 : (List Int)) : Option (Int × (T_l1Cur.D × Unit)) :=
(spec_l1Below a0 (a1.length : Int)).bind fun y1 =>
 idx a1 y1.1 fun x2 =>
 some (x2, y1.2)
def spec_l1Int_c : Ct := .mut [.ptr, .rd] true true (.pair T_l1Cur (.pair (.slice (.int .i64)) .unit)) (.int .i64) (fun x => spec_l1Int x.1 x.2.1)
theorem spec_l1Int_ct : CtOk Try.prog 234 spec_l1Int_c := mut_ct (E := { T := tab, G := [(137, spec_l1Below_c)] }) (EnvOk.cons spec_l1Below_ct (EnvOk.nil tabOk)) mixed (fn := Try.f234) _ _ _ _ _ _ .none Try.func234 (by kernel_rfl) (fun x => by kernel_rfl)
/-! loop.example/g00486/spec.l1Once -/
def spec_l1Once (a0 : T_l1Cur.D) (a1 : Int) : Option (Bool × (T_l1Cur.D × Unit)) :=
(spec_l1Below a0 a1).bind fun y1 =>
 some ((y1.1 == 0), y1.2)
def spec_l1Once_c : Ct := .mut [.ptr, .rd] true true (.pair T_l1Cur (.pair (.int .i64) .unit)) .bool (fun x => spec_l1Once x.1 x.2.1)
theorem spec_l1Once_ct : CtOk Try.prog 117 spec_l1Once_c := mut_ct (E := { T := tab, G := [(137, spec_l1Below_c)] }) (EnvOk.cons spec_l1Below_ct (EnvOk.nil tabOk)) mixed (fn := Try.f117) _ _ _ _ _ _ .none Try.func117 (by kernel_rfl) (fun x => by kernel_rfl)
/-! loop.example/g00486/spec.l4Draw -/
def spec_l4Draw_l1 : (Int × (T_l1Cur.D × (Int × (Int × (Int × (Int × (Int × (Int × (Int × (Int × (Int × (Int × (Int × (Bool × (Bool × Unit))))))))))))))) → Option ((Int × (T_l1Cur.D × (Int × (Int × (Int × (Int × (Int × (Int × (Int × (Int × (Int × (Int × (Int × (Bool × (Bool × Unit))))))))))))))) ⊕ (Int × (T_l1Cur.D × (Int × (Int × (Int × (Int × (Int × (Int × (Int × (Int × (Int × (Int × (Int × (Bool × (Bool × Unit)))))))))))))))) := fun s8 =>
 bif decide (s8.1 < (([1, 2, 4, 8, 16, 32] : List Int).length : Int)) then (
 idx ([1, 2, 4, 8, 16, 32] : List Int) s8.1 fun _ =>
(([1, 2, 4, 8, 16, 32] : List Int)[(s8.1 : Int).toNat]?).bind fun x9 =>
(spec_l1Once s8.2.1 3).bind fun y10 =>
 bif y10.1 then (
 some (.inl (IntKind.wrap .i64 (s8.1 + 1), y10.2.1, s8.2.2.1, s8.2.2.2.1, s8.2.2.2.2.1, s8.2.2.2.2.2.1, s8.2.2.2.2.2.2.1, s8.2.2.2.2.2.2.2.1, s8.2.2.2.2.2.2.2.2.1, IntKind.wrap .i64 (s8.2.2.2.2.2.2.2.2.2.1 + x9), s8.2.2.2.2.2.2.2.2.2.2)))
 else (
 some (.inl (IntKind.wrap .i64 (s8.1 + 1), y10.2.1, s8.2.2))))
 else (
 some (.inr s8))
def spec_l4Draw (a0 : T_l1Cur.D) (a1 : Int) : Option (T_Piece.D × (T_l1Cur.D × Unit)) :=
(spec_l1Below a0 2).bind fun y1 =>
(spec_l1Int y1.2.1 ([2, 2, 2, 1, 3] : List Int)).bind fun y2 =>
(spec_l1Below y2.2.1 3).bind fun y3 =>
(spec_l1Below y3.2.1 5).bind fun y4 =>
(spec_l1Below y4.2.1 5).bind fun y5 =>
(while_ (spec_l4Draw_l1) (0, y5.2.1, a1, y1.1, y1.1, y2.1, y3.1, y4.1, IntKind.wrap .i64 (1 + y5.1), 0, 0, 0, 0, false, false, ())).bind fun o11 =>
 bif (o11.2.2.2.2.2.1 != 2) then (
 some (o11.2.2, (o11.2.1, ())))
 else (
(spec_l1Once o11.2.1 4).bind fun y12 =>
((bif y12.1 then (
 some (o11.2.2.1, o11.2.2.2.1, IntKind.wrap .i64 (1 - o11.2.2.2.1), o11.2.2.2.2.2))
 else (
 some o11.2.2)) : Option T_Piece.D).bind fun o13 =>
(spec_l1Int y12.2.1 ([0, 0, 1, 2] : List Int)).bind fun y14 =>
(spec_l1Int y14.2.1 ([0, 0, 0, 1] : List Int)).bind fun y15 =>
(spec_l1Int y15.2.1 ([0, 0, 1] : List Int)).bind fun y16 =>
(spec_l1Once y16.2.1 4).bind fun y17 =>
 some ((o13.1, o13.2.1, o13.2.2.1, o13.2.2.2.1, o13.2.2.2.2.1, o13.2.2.2.2.2.1, o13.2.2.2.2.2.2.1, o13.2.2.2.2.2.2.2.1, y14.1, y15.1, y16.1, o13.2.2.2.2.2.2.2.2.2.2.2.1, y17.1, ()), y17.2))
def spec_l4Draw_h : Hints := (.node none none .none (.node none none .none (.node none none .none (.node none none (.node none none .none (.node none none (.node none (some ⟨[.tmp 27 (.int .i64), .box 0 0 T_l1Cur, .box 5 0 T_Piece], [some 0], none, []⟩) .none .none) .none)) (.node none none .none (.node none none (.node none none .none (.node (some ⟨[.box 5 0 T_Piece], [none], none, [(5, 0)]⟩) none .none .none)) .none))))))
def spec_l4Draw_c : Ct := .mut [.ptr, .rd] true true (.pair T_l1Cur (.pair (.int .i64) .unit)) T_Piece (fun x => spec_l4Draw x.1 x.2.1)
theorem spec_l4Draw_ct : CtOk Try.prog 235 spec_l4Draw_c := mut_ct (E := { T := tab, G := [(117, spec_l1Once_c), (137, spec_l1Below_c), (234, spec_l1Int_c)], V := [12, 50, 54, 58] }) (EnvOk.views (EnvOk.cons spec_l1Once_ct (EnvOk.cons spec_l1Below_ct (EnvOk.cons spec_l1Int_ct (EnvOk.nil tabOk))))) mixed (fn := Try.f235) _ _ _ _ _ _ spec_l4Draw_h Try.func235 (by kernel_rfl) (fun x => by kernel_rfl)
/-! loop.example/g00486/spec.l5Draw -/
def spec_l5Draw_l1 : (Int × (T_l1Cur.D × ((List T_Piece.D) × ((List T_Side.D) × (Int × (Int × Unit)))))) → Option ((Int × (T_l1Cur.D × ((List T_Piece.D) × ((List T_Side.D) × (Int × (Int × Unit)))))) ⊕ (Int × (T_l1Cur.D × ((List T_Piece.D) × ((List T_Side.D) × (Int × (Int × Unit))))))) := fun s6 =>
 bif decide (s6.1 < 2) then (
(spec_l1Int s6.2.1 ([20, 20, 3, 1, 10] : List Int)).bind fun y7 =>
 idx s6.2.2.2.1 s6.1 fun _ =>
(s6.2.2.2.1[(s6.1 : Int).toNat]?).bind fun x8 =>
 let u9 : (List T_Side.D) := s6.2.2.2.1.set (s6.1 : Int).toNat (y7.1, x8.2)
(spec_l1Int y7.2.1 ([0, 0, 8, 1] : List Int)).bind fun y10 =>
 idx u9 s6.1 fun _ =>
(u9[(s6.1 : Int).toNat]?).bind fun x11 =>
 let u12 : (List T_Side.D) := u9.set (s6.1 : Int).toNat (x11.1, y10.1, x11.2.2)
 some (.inl (IntKind.wrap .i64 (s6.1 + 1), y10.2.1, s6.2.2.1, u12, s6.2.2.2.2)))
 else (
 some (.inr s6))
def spec_l5Draw_l2 : (Int × (Int × (T_l1Cur.D × ((List T_Piece.D) × ((List T_Side.D) × (Int × (Int × Unit))))))) → Option ((Int × (Int × (T_l1Cur.D × ((List T_Piece.D) × ((List T_Side.D) × (Int × (Int × Unit))))))) ⊕ (Int × (Int × (T_l1Cur.D × ((List T_Piece.D) × ((List T_Side.D) × (Int × (Int × Unit)))))))) := fun s17 =>
 bif decide (s17.2.1 > 0) then (
(spec_l1Below s17.2.2.1 2).bind fun y18 =>
(spec_l4Draw y18.2.1 (IntKind.wrap .i64 ((IntKind.wrap .i64 (s17.1 + 1)) + y18.1))).bind fun y19 =>
 if (s17.2.2.2.1.length + [y19.1].length) * (24 * 13) ≤ room then (
 some (.inl (IntKind.wrap .i64 ((IntKind.wrap .i64 (s17.1 + 1)) + y18.1), IntKind.wrap .i64 (s17.2.1 - 1), y19.2.1, (s17.2.2.2.1 ++ [y19.1]), s17.2.2.2.2))) else none)
 else (
 some (.inr s17))
def spec_l5Draw (a0 : T_l1Cur.D) : Option (T_State.D × (T_l1Cur.D × Unit)) :=
(spec_StateNew 2).bind fun y1 =>
(spec_l1Below a0 3).bind fun y2 =>
(spec_l1Below y2.2.1 2).bind fun y3 =>
(while_ (spec_l5Draw_l1) (0, y3.2.1, y1.1, y1.2.1, y3.1, IntKind.wrap .i64 (2 + y2.1), ())).bind fun o13 =>
(spec_l1Below o13.2.1 5).bind fun y14 =>
(while_ (spec_l5Draw_l2) (0, IntKind.wrap .i64 (1 + y14.1), y14.2.1, o13.2.2)).bind fun o20 =>
 some (o20.2.2.2, (o20.2.2.1, ()))
def spec_l5Draw_h : Hints := (.node none none .none (.node none none .none (.node none none .none (.node none none .none (.node none none (.node none none .none (.node none none (.node none (some ⟨[.tmp 4 (.int .i64), .box 0 0 T_l1Cur, .boxO 3 0 1 T_State], [some 0], none, []⟩) .none .none) .none)) (.node none none .none (.node none none (.node none none .none (.node none none (.node none (some ⟨[.tmp 5 (.int .i64), .tmp 6 (.int .i64), .box 0 0 T_l1Cur, .boxO 3 0 3 T_State], [some 2], none, []⟩) .none .none) .none)) .none)))))))
def spec_l5Draw_c : Ct := .mut [.ptr] true false (.pair T_l1Cur .unit) T_State (fun x => spec_l5Draw x.1)
theorem spec_l5Draw_ct : CtOk Try.prog 116 spec_l5Draw_c := mut_ct (E := { T := tab, G := [(137, spec_l1Below_c), (233, spec_StateNew_fresh_c), (234, spec_l1Int_c), (235, spec_l4Draw_c)], V := [24, 32] }) (EnvOk.views (EnvOk.cons spec_l1Below_ct (EnvOk.cons spec_StateNew_fresh_ct (EnvOk.cons spec_l1Int_ct (EnvOk.cons spec_l4Draw_ct (EnvOk.nil tabOk)))))) mixed (fn := Try.f116) _ _ _ _ _ _ spec_l5Draw_h Try.func116 (by kernel_rfl) (fun x => by kernel_rfl)
def spec_l5Draw_fresh_c : Ct := .mut [.ptr] true true (.pair T_l1Cur .unit) T_State (fun x => spec_l5Draw x.1)
theorem spec_l5Draw_fresh_ct : CtOk Try.prog 116 spec_l5Draw_fresh_c := mut_ct (E := { T := tab, G := [(137, spec_l1Below_c), (233, spec_StateNew_fresh_c), (234, spec_l1Int_c), (235, spec_l4Draw_c)], V := [24, 32] }) (EnvOk.views (EnvOk.cons spec_l1Below_ct (EnvOk.cons spec_StateNew_fresh_ct (EnvOk.cons spec_l1Int_ct (EnvOk.cons spec_l4Draw_ct (EnvOk.nil tabOk)))))) mixed (fn := Try.f116) _ _ _ _ _ _ spec_l5Draw_h Try.func116 (by kernel_rfl) (fun x => by kernel_rfl)
/-! loop.example/g00486/spec.l6Id -/
def spec_l6Id (a0 : T_l1Cur.D) (a1 : T_State.D) : Option (Int × (T_l1Cur.D × Unit)) :=
((bif ((a1.1.length : Int) == 0) then (
 some (true, a0))
 else (
(spec_l1Once a0 8).bind fun y1 =>
 some (y1.1, y1.2.1))) : Option (Bool × ((List Int) × (Int × (Int × Unit))))).bind fun o2 =>
 bif o2.1 then (
(spec_l1Below o2.2 9).bind fun y3 =>
 some (IntKind.wrap .i64 (1 + y3.1), y3.2))
 else (
(spec_l1Below o2.2 (a1.1.length : Int)).bind fun y4 =>
 idx a1.1 y4.1 fun x5 =>
 some (x5.1, y4.2))
def spec_l6Id_h : Hints := (.node none none .none (.node none none (.node none none (.node (some ⟨[.tmp 12 .bool, .box 0 0 T_l1Cur], [none], none, [(0, 0)]⟩) none .none .none) .none) .none))
def spec_l6Id_c : Ct := .mut [.ptr, .rd] true true (.pair T_l1Cur (.pair T_State .unit)) (.int .i64) (fun x => spec_l6Id x.1 x.2.1)
theorem spec_l6Id_ct : CtOk Try.prog 259 spec_l6Id_c := mut_ct (E := { T := tab, G := [(117, spec_l1Once_c), (137, spec_l1Below_c)] }) (EnvOk.cons spec_l1Once_ct (EnvOk.cons spec_l1Below_ct (EnvOk.nil tabOk))) mixed (fn := Try.f259) _ _ _ _ _ _ spec_l6Id_h Try.func259 (by kernel_rfl) (fun x => by kernel_rfl)
/-! loop.example/g00486/spec.l6Draw -/
def spec_l6Draw (a0 : T_l1Cur.D) (a1 : T_State.D) : Option (T_Event.D × (T_l1Cur.D × Unit)) :=
(spec_l1Int a0 ([1, 1, 1, 2, 2, 3, 4, 5, 6] : List Int)).bind fun y1 =>
(spec_l1Int y1.2.1 ([1, 2, 3, 5, 0, 8, 2147483647] : List Int)).bind fun y2 =>
 bif (y1.1 == 1) then (
(spec_l6Id y2.2.1 a1).bind fun y3 =>
(spec_l1Once y3.2.1 2).bind fun y4 =>
 bif y4.1 then (
(spec_l1Below y4.2.1 2).bind fun y5 =>
 some ((y1.1, y3.1, 0, y5.1, y2.1, 0, false, ()), y5.2))
 else (
(spec_l6Id y4.2.1 a1).bind fun y6 =>
 some ((y1.1, y3.1, y6.1, (-1), y2.1, 0, false, ()), y6.2)))
 else (
 bif (y1.1 == 2) then (
(spec_l6Id y2.2.1 a1).bind fun y7 =>
(spec_l1Int y7.2.1 ([3, 3, 1, 2, 4] : List Int)).bind fun y8 =>
 bif (y8.1 == 2) then (
(spec_l1Int y8.2.1 ([0, 0, 1, 2] : List Int)).bind fun y9 =>
(spec_l1Once y9.2.1 3).bind fun y10 =>
 some ((y1.1, 0, y7.1, (-1), y9.1, y8.1, y10.1, ()), y10.2))
 else (
 some ((y1.1, 0, y7.1, (-1), 0, y8.1, false, ()), y8.2)))
 else (
((bif (y1.1 == 3) then (
 some (y1.1 == 3))
 else (
 some (y1.1 == 4))) : Option Bool).bind fun o11 =>
 bif o11 then (
(spec_l1Below y2.2.1 2).bind fun y12 =>
 some ((y1.1, 0, 0, y12.1, y2.1, 0, false, ()), y12.2))
 else (
(spec_l6Id y2.2.1 a1).bind fun y13 =>
 some ((y1.1, 0, y13.1, (-1), y2.1, 0, false, ()), y13.2))))
def spec_l6Draw_h : Hints := (.node none none .none (.node none none .none (.node none none .none (.node none none (.node none none .none (.node none none (.node none none .none (.node none none .none (.node none none .none (.node none none .none (.node none none (.node none none .none (.node (some ⟨[.tmp 56 .bool], [none], none, []⟩) none .none .none)) .none))))) .none)) .none))))
def spec_l6Draw_c : Ct := .mut [.ptr, .rd] true true (.pair T_l1Cur (.pair T_State .unit)) T_Event (fun x => spec_l6Draw x.1 x.2.1)
theorem spec_l6Draw_ct : CtOk Try.prog 182 spec_l6Draw_c := mut_ct (E := { T := tab, G := [(117, spec_l1Once_c), (137, spec_l1Below_c), (234, spec_l1Int_c), (259, spec_l6Id_c)], V := [7, 11, 43, 50] }) (EnvOk.views (EnvOk.cons spec_l1Once_ct (EnvOk.cons spec_l1Below_ct (EnvOk.cons spec_l1Int_ct (EnvOk.cons spec_l6Id_ct (EnvOk.nil tabOk)))))) mixed (fn := Try.f182) _ _ _ _ _ _ spec_l6Draw_h Try.func182 (by kernel_rfl) (fun x => by kernel_rfl)
/-! loop.example/g00486/spec.l1Odd -/
def spec_l1Odd (a0 : T_l1Cur.D) : Option (Int × (T_l1Cur.D × Unit)) :=
(spec_l1Int a0 ([(-1), 0, 1, 2, 255, 256, 65535, 2147483647, 2147483648, 4294967295, 4294967296, (-2147483648), 9223372036854775807, (-9223372036854775808)] : List Int)).bind fun y1 =>
 some (y1.1, y1.2)
def spec_l1Odd_c : Ct := .mut [.ptr] true true (.pair T_l1Cur .unit) (.int .i64) (fun x => spec_l1Odd x.1)
theorem spec_l1Odd_ct : CtOk Try.prog 296 spec_l1Odd_c := mut_ct (E := { T := tab, G := [(234, spec_l1Int_c)], V := [4] }) (EnvOk.views (EnvOk.cons spec_l1Int_ct (EnvOk.nil tabOk))) mixed (fn := Try.f296) _ _ _ _ _ _ .none Try.func296 (by kernel_rfl) (fun x => by kernel_rfl)
/-! loop.example/g00486/spec.l1Raw -/
def spec_l1Raw (a0 : T_l1Cur.D) : Option (Int × (T_l1Cur.D × Unit)) :=
(spec_l1Once a0 2).bind fun y1 =>
 bif y1.1 then (
(spec_l1Odd y1.2.1).bind fun y2 =>
 some (y2.1, y2.2))
 else (
(spec_l1Int y1.2.1 ([(-2147483648), (-2147483647), (-3), (-1), 0, 1, 3, 7, 2147483647, 2147483648] : List Int)).bind fun y3 =>
 some (y3.1, y3.2))
def spec_l1Raw_c : Ct := .mut [.ptr] true true (.pair T_l1Cur .unit) (.int .i64) (fun x => spec_l1Raw x.1)
theorem spec_l1Raw_ct : CtOk Try.prog 236 spec_l1Raw_c := mut_ct (E := { T := tab, G := [(117, spec_l1Once_c), (234, spec_l1Int_c), (296, spec_l1Odd_c)], V := [8] }) (EnvOk.views (EnvOk.cons spec_l1Once_ct (EnvOk.cons spec_l1Int_ct (EnvOk.cons spec_l1Odd_ct (EnvOk.nil tabOk))))) mixed (fn := Try.f236) _ _ _ _ _ _ .none Try.func236 (by kernel_rfl) (fun x => by kernel_rfl)
/-! loop.example/g00486/spec.l6Any -/
def spec_l6Any (a0 : T_l1Cur.D) (a1 : T_State.D) : Option (T_Event.D × (T_l1Cur.D × Unit)) :=
(spec_l6Draw a0 a1).bind fun y1 =>
(spec_l1Below y1.2.1 16).bind fun y2 =>
 bif (y2.1 == 0) then (
(spec_l1Int y2.2.1 ([0, 1, 2, 3, 5, 7] : List Int)).bind fun y3 =>
 some ((y3.1, y1.1.2), y3.2))
 else (
 bif (y2.1 == 1) then (
(spec_l1Int y2.2.1 ([0, 1, 99, 100] : List Int)).bind fun y4 =>
 some ((y1.1.1, y4.1, y1.1.2.2), y4.2))
 else (
 bif (y2.1 == 2) then (
(spec_l1Int y2.2.1 ([0, 99, 100, (-1)] : List Int)).bind fun y5 =>
 some ((y1.1.1, y1.1.2.1, y5.1, y1.1.2.2.2), y5.2))
 else (
 bif (y2.1 == 3) then (
(spec_l1Int y2.2.1 ([(-2), (-1), 0, 2, 3] : List Int)).bind fun y6 =>
 some ((y1.1.1, y1.1.2.1, y1.1.2.2.1, y6.1, y1.1.2.2.2.2), y6.2))
 else (
 bif (y2.1 == 4) then (
(spec_l1Raw y2.2.1).bind fun y7 =>
 some ((y1.1.1, y1.1.2.1, y1.1.2.2.1, y1.1.2.2.2.1, y7.1, y1.1.2.2.2.2.2), y7.2))
 else (
 bif (y2.1 == 5) then (
(spec_l1Int y2.2.1 ([0, 2, 4, 5] : List Int)).bind fun y8 =>
 some ((y1.1.1, y1.1.2.1, y1.1.2.2.1, y1.1.2.2.2.1, y1.1.2.2.2.2.1, y8.1, y1.1.2.2.2.2.2.2), y8.2))
 else (
 bif (y2.1 == 6) then (
 some ((y1.1.1, y1.1.2.1, y1.1.2.2.1, y1.1.2.2.2.1, y1.1.2.2.2.2.1, y1.1.2.2.2.2.2.1, (!y1.1.2.2.2.2.2.2.1), ()), y2.2))
 else (
 some (y1.1, y2.2))))))))
def spec_l6Any_c : Ct := .mut [.ptr, .rd] true true (.pair T_l1Cur (.pair T_State .unit)) T_Event (fun x => spec_l6Any x.1 x.2.1)
theorem spec_l6Any_ct : CtOk Try.prog 214 spec_l6Any_c := mut_ct (E := { T := tab, G := [(137, spec_l1Below_c), (182, spec_l6Draw_c), (234, spec_l1Int_c), (236, spec_l1Raw_c)], V := [14, 20, 26, 32, 43] }) (EnvOk.views (EnvOk.cons spec_l1Below_ct (EnvOk.cons spec_l6Draw_ct (EnvOk.cons spec_l1Int_ct (EnvOk.cons spec_l1Raw_ct (EnvOk.nil tabOk)))))) mixed (fn := Try.f214) _ _ _ _ _ _ .none Try.func214 (by kernel_rfl) (fun x => by kernel_rfl)
/-! loop.example/g00486/spec.l18Events -/
def spec_l18Events_l1 (a1 : T_State.D) : ((List T_Event.D) × (Int × ((List Int) × (Int × (Int × Unit))))) → Option (((List T_Event.D) × (Int × ((List Int) × (Int × (Int × Unit))))) ⊕ ((List T_Event.D) × (Int × ((List Int) × (Int × (Int × Unit)))))) := fun s3 =>
 bif decide (s3.2.1 > 0) then (
(spec_l6Draw s3.2.2 a1).bind fun y4 =>
 if (s3.1.length + [y4.1].length) * (24 * 7) ≤ room then (
 some (.inl ((s3.1 ++ [y4.1]), IntKind.wrap .i64 (s3.2.1 - 1), y4.2.1))) else none)
 else (
 some (.inr s3))
def spec_l18Events (a0 : T_l1Cur.D) (a1 : T_State.D) : Option ((List T_Event.D) × (T_l1Cur.D × Unit)) :=
(spec_l1Below a0 6).bind fun y1 =>
(while_ (spec_l18Events_l1 a1) ([], y1.1, y1.2.1)).bind fun o5 =>
(spec_l1Once o5.2.2 10).bind fun y6 =>
 bif y6.1 then (
(spec_l6Any y6.2.1 a1).bind fun y7 =>
 if (o5.1.length + [y7.1].length) * (24 * 7) ≤ room then (
 some ((o5.1 ++ [y7.1]), y7.2)) else none)
 else (
 some (o5.1, y6.2))
def spec_l18Events_h : Hints := (.node none none .none (.node none none .none (.node none none (.node none none .none (.node none none (.node none (some ⟨[.tmpO 5 0 (.slice T_Event), .tmp 6 (.int .i64), .box 0 0 T_l1Cur], [some 0], none, []⟩) .none .none) .none)) .none)))
def spec_l18Events_c : Ct := .mut [.ptr, .rd] true false (.pair T_l1Cur (.pair T_State .unit)) (.slice T_Event) (fun x => spec_l18Events x.1 x.2.1)
theorem spec_l18Events_ct : CtOk Try.prog 119 spec_l18Events_c := mut_ct (E := { T := tab, G := [(117, spec_l1Once_c), (137, spec_l1Below_c), (182, spec_l6Draw_c), (214, spec_l6Any_c)] }) (EnvOk.cons spec_l1Once_ct (EnvOk.cons spec_l1Below_ct (EnvOk.cons spec_l6Draw_ct (EnvOk.cons spec_l6Any_ct (EnvOk.nil tabOk))))) mixed (fn := Try.f119) _ _ _ _ _ _ spec_l18Events_h Try.func119 (by kernel_rfl) (fun x => by kernel_rfl)
def spec_l18Events_fresh_c : Ct := .mut [.ptr, .rd] true true (.pair T_l1Cur (.pair T_State .unit)) (.slice T_Event) (fun x => spec_l18Events x.1 x.2.1)
theorem spec_l18Events_fresh_ct : CtOk Try.prog 119 spec_l18Events_fresh_c := mut_ct (E := { T := tab, G := [(117, spec_l1Once_c), (137, spec_l1Below_c), (182, spec_l6Draw_c), (214, spec_l6Any_c)] }) (EnvOk.cons spec_l1Once_ct (EnvOk.cons spec_l1Below_ct (EnvOk.cons spec_l6Draw_ct (EnvOk.cons spec_l6Any_ct (EnvOk.nil tabOk))))) mixed (fn := Try.f119) _ _ _ _ _ _ spec_l18Events_h Try.func119 (by kernel_rfl) (fun x => by kernel_rfl)
/-! loop.example/g00486/spec.l5Copy -/
def spec_l5Copy (a0 : T_State.D) : Option T_State.D :=
 if (([] : List T_Piece.D).length + a0.1.length) * (24 * 13) ≤ room then (
 if (([] : List T_Side.D).length + a0.2.1.length) * (24 * 3) ≤ room then (
 some (([] ++ a0.1), ([] ++ a0.2.1), a0.2.2)) else none) else none
def spec_l5Copy_c : Ct := .pure true false (.pair T_State .unit) T_State (fun x => spec_l5Copy x.1)
theorem spec_l5Copy_ct : CtOk Try.prog 150 spec_l5Copy_c := pure_ct (E := { T := tab, G := [] }) (EnvOk.nil tabOk) mixed (fn := Try.f150) _ _ _ _ _ .none Try.func150 (by kernel_rfl) (fun x => by kernel_rfl)
def spec_l5Copy_fresh_c : Ct := .pure true true (.pair T_State .unit) T_State (fun x => spec_l5Copy x.1)
theorem spec_l5Copy_fresh_ct : CtOk Try.prog 150 spec_l5Copy_fresh_c := pure_ct (E := { T := tab, G := [] }) (EnvOk.nil tabOk) mixed (fn := Try.f150) _ _ _ _ _ .none Try.func150 (by kernel_rfl) (fun x => by kernel_rfl)
/-! loop.example/g00486/spec.l1In -/
def spec_l1In (a0 : Int) (a1 : Int) (a2 : Int) : Option Bool :=
 bif decide (a0 ≥ a1) then (
 some (decide (a0 ≤ a2)))
 else (
 some false)
def spec_l1In_c : Ct := .pure true false (.pair (.int .i64) (.pair (.int .i64) (.pair (.int .i64) .unit))) .bool (fun x => spec_l1In x.1 x.2.1 x.2.2.1)
theorem spec_l1In_ct : CtOk Try.prog 138 spec_l1In_c := pure_ct (E := { T := tab, G := [] }) (EnvOk.nil tabOk) mixed (fn := Try.f138) _ _ _ _ _ .none Try.func138 (by kernel_rfl) (fun x => by kernel_rfl)
/-! loop.example/g00486/spec.PieceOk -/
def spec_PieceOk (a0 : T_Piece.D) : Option Bool :=
(((spec_l1In a0.1 1 99).bind fun y1 =>
 bif (!y1) then (
 some true)
 else (
(spec_l1In a0.2.1 0 2).bind fun y2 =>
 bif (!y2) then (
 some true)
 else (
(spec_l1In a0.2.2.1 0 2).bind fun y3 =>
 bif (!y3) then (
 some true)
 else (
(spec_l1In a0.2.2.2.1 1 4).bind fun y4 =>
 bif (!y4) then (
 some true)
 else (
(spec_l1In a0.2.2.2.2.1 0 9999).bind fun y5 =>
 bif (!y5) then (
 some true)
 else (
(spec_l1In a0.2.2.2.2.2.1 0 999).bind fun y6 =>
 bif (!y6) then (
 some true)
 else (
(spec_l1In a0.2.2.2.2.2.2.1 0 999).bind fun y7 =>
 bif (!y7) then (
 some true)
 else (
(spec_l1In a0.2.2.2.2.2.2.2.1 0 63).bind fun y8 =>
 some (!y8))))))))) : Option Bool).bind fun o9 =>
 bif o9 then (
 some false)
 else (
(((spec_l1In a0.2.2.2.2.2.2.2.2.1 0 2147483647).bind fun y10 =>
 bif (!y10) then (
 some true)
 else (
(spec_l1In a0.2.2.2.2.2.2.2.2.2.1 0 2147483647).bind fun y11 =>
 bif (!y11) then (
 some true)
 else (
(spec_l1In a0.2.2.2.2.2.2.2.2.2.2.1 0 2147483647).bind fun y12 =>
 some (!y12)))) : Option Bool).bind fun o13 =>
 bif o13 then (
 some false)
 else (
 bif (a0.2.2.2.1 == 2) then (
 some true)
 else (
 bif (a0.2.2.1 == a0.2.1) then (
 bif (a0.2.2.2.2.2.2.2.2.1 == 0) then (
 bif (a0.2.2.2.2.2.2.2.2.2.1 == 0) then (
 bif (a0.2.2.2.2.2.2.2.2.2.2.1 == 0) then (
 bif (!a0.2.2.2.2.2.2.2.2.2.2.2.1) then (
 some (!a0.2.2.2.2.2.2.2.2.2.2.2.2.1))
 else (
 some false))
 else (
 some false))
 else (
 some false))
 else (
 some false))
 else (
 some false))))
def spec_PieceOk_h : Hints := (.node none none .none (.node none none (.node none none (.node (some ⟨[.tmp 48 .bool], [none], none, []⟩) none .none .none) .none) (.node none none (.node none none (.node (some ⟨[.tmp 64 .bool], [none], none, []⟩) none .none .none) .none) .none)))
def spec_PieceOk_c : Ct := .pure true false (.pair T_Piece .unit) .bool (fun x => spec_PieceOk x.1)
theorem spec_PieceOk_ct : CtOk Try.prog 245 spec_PieceOk_c := pure_ct (E := { T := tab, G := [(138, spec_l1In_c)] }) (EnvOk.cons spec_l1In_ct (EnvOk.nil tabOk)) mixed (fn := Try.f245) _ _ _ _ _ spec_PieceOk_h Try.func245 (by kernel_rfl) (fun x => by kernel_rfl)
/-! loop.example/g00486/spec.l5Side -/
def spec_l5Side (a0 : T_Side.D) : Option Bool :=
(spec_l1In a0.1 (-2147483647) 2147483647).bind fun y1 =>
 bif y1 then (
(spec_l1In a0.2.1 0 2147483647).bind fun y2 =>
 some y2)
 else (
 some false)
def spec_l5Side_c : Ct := .pure true false (.pair T_Side .unit) .bool (fun x => spec_l5Side x.1)
theorem spec_l5Side_ct : CtOk Try.prog 246 spec_l5Side_c := pure_ct (E := { T := tab, G := [(138, spec_l1In_c)] }) (EnvOk.cons spec_l1In_ct (EnvOk.nil tabOk)) mixed (fn := Try.f246) _ _ _ _ _ .none Try.func246 (by kernel_rfl) (fun x => by kernel_rfl)
/-! loop.example/g00486/spec.StateOk -/
def spec_StateOk_l1 (a0 : T_State.D) : Int → Option (Int ⊕ (Int ⊕ Bool)) := fun s5 =>
 bif decide (s5 < (a0.1.length : Int)) then (
 idx a0.1 s5 fun x6 =>
(((spec_PieceOk x6).bind fun y7 =>
 bif (!y7) then (
 some true)
 else (
 bif decide (s5 > 0) then (
 idx a0.1 (IntKind.wrap .i64 (s5 - 1)) fun x8 =>
 bif decide (x8.1 ≥ x6.1) then (
 some true)
 else (
 bif decide (x6.2.1 ≥ (a0.2.1.length : Int)) then (
 some true)
 else (
 bif decide (x6.2.2.1 ≥ (a0.2.1.length : Int)) then (
 some true)
 else (
 some (decide (x6.2.2.2.2.1 > a0.2.2.2.1))))))
 else (
 bif decide (x6.2.1 ≥ (a0.2.1.length : Int)) then (
 some true)
 else (
 bif decide (x6.2.2.1 ≥ (a0.2.1.length : Int)) then (
 some true)
 else (
 some (decide (x6.2.2.2.2.1 > a0.2.2.2.1))))))) : Option Bool).bind fun o9 =>
 bif o9 then (
 some (.inr (.inr false)))
 else (
 some (.inl (IntKind.wrap .i64 (s5 + 1)))))
 else (
 some (.inr (.inl s5)))
def spec_StateOk_l2 (a0 : T_State.D) : Int → Option (Int ⊕ (Int ⊕ Bool)) := fun s13 =>
 bif decide (s13 < (a0.2.1.length : Int)) then (
 idx a0.2.1 s13 fun x14 =>
(spec_l5Side x14).bind fun y15 =>
 bif (!y15) then (
 some (.inr (.inr false)))
 else (
 some (.inl (IntKind.wrap .i64 (s13 + 1)))))
 else (
 some (.inr (.inl s13)))
def spec_StateOk (a0 : T_State.D) : Option Bool :=
((bif decide ((a0.1.length : Int) > 8) then (
 some true)
 else (
(spec_l1In (a0.2.1.length : Int) 2 3).bind fun y1 =>
 bif (!y1) then (
 some true)
 else (
(spec_l1In a0.2.2.1 0 (IntKind.wrap .i64 ((a0.2.1.length : Int) - 1))).bind fun y2 =>
 bif (!y2) then (
 some true)
 else (
(spec_l1In a0.2.2.2.1 0 9999).bind fun y3 =>
 some (!y3))))) : Option Bool).bind fun o4 =>
 bif o4 then (
 some false)
 else (
(while_ (spec_StateOk_l1 a0) 0).bind fun o10 =>
 match o10 with
| .inl s11 => (
(while_ (spec_StateOk_l2 a0) 0).bind fun o16 =>
 match o16 with
| .inl s17 => (
 some true)
| .inr o18 => (
 some o18))
| .inr o12 => (
 some o12))
def spec_StateOk_h : Hints := (.node none none .none (.node none none (.node none none (.node (some ⟨[.tmp 32 .bool], [none], none, []⟩) none .none .none) .none) (.node none none (.node none none .none (.node none none (.node none (some ⟨[.tmp 3 (.int .i64)], [some 0], some [.tmp 2 .bool], []⟩) (.node none none .none (.node none none (.node none none (.node none none .none (.node none none (.node (some ⟨[.tmp 86 .bool], [none], none, []⟩) none .none .none) .none)) .none) .none)) .none) .none)) (.node none none (.node none none .none (.node none none (.node none (some ⟨[.tmp 5 (.int .i64)], [some 2], some [.tmp 2 .bool], []⟩) .none .none) .none)) .none))))
def spec_StateOk_c : Ct := .pure true false (.pair T_State .unit) .bool (fun x => spec_StateOk x.1)
theorem spec_StateOk_ct : CtOk Try.prog 151 spec_StateOk_c := pure_ct (E := { T := tab, G := [(138, spec_l1In_c), (245, spec_PieceOk_c), (246, spec_l5Side_c)] }) (EnvOk.cons spec_l1In_ct (EnvOk.cons spec_PieceOk_ct (EnvOk.cons spec_l5Side_ct (EnvOk.nil tabOk)))) mixed (fn := Try.f151) _ _ _ _ _ spec_StateOk_h Try.func151 (by kernel_rfl) (fun x => by kernel_rfl)
/-! loop.example/g00486/spec.PieceAt -/
def spec_PieceAt_l1 (a0 : T_State.D) (a1 : Int) : Int → Option (Int ⊕ (Int ⊕ Int)) := fun s1 =>
 bif decide (s1 < (a0.1.length : Int)) then (
 idx a0.1 s1 fun x2 =>
 bif (x2.1 == a1) then (
 some (.inr (.inr s1)))
 else (
 some (.inl (IntKind.wrap .i64 (s1 + 1)))))
 else (
 some (.inr (.inl s1)))
def spec_PieceAt (a0 : T_State.D) (a1 : Int) : Option Int :=
(while_ (spec_PieceAt_l1 a0 a1) 0).bind fun o3 =>
 match o3 with
| .inl s4 => (
 some (-1))
| .inr o5 => (
 some o5)
def spec_PieceAt_h : Hints := (.node none none .none (.node none none (.node none none .none (.node none none (.node none (some ⟨[.tmp 5 (.int .i64)], [some 0], some [.tmp 4 (.int .i64)], []⟩) .none .none) .none)) .none))
def spec_PieceAt_c : Ct := .pure true false (.pair T_State (.pair (.int .i64) .unit)) (.int .i64) (fun x => spec_PieceAt x.1 x.2.1)
theorem spec_PieceAt_ct : CtOk Try.prog 154 spec_PieceAt_c := pure_ct (E := { T := tab, G := [] }) (EnvOk.nil tabOk) mixed (fn := Try.f154) _ _ _ _ _ spec_PieceAt_h Try.func154 (by kernel_rfl) (fun x => by kernel_rfl)
/-! loop.example/g00486/spec.Source -/
def spec_Source (a0 : T_State.D) (a1 : T_Event.D) : Option T_Piece.D :=
(spec_PieceAt a0 a1.2.1).bind fun y1 =>
((bif (a1.1 != 1) then (
 some true)
 else (
 some (decide (y1 < 0)))) : Option Bool).bind fun o2 =>
 bif o2 then (
 some (0, 0, 0, 0, 0, 0, 0, 0, 0, 0, 0, false, false, ()))
 else (
 idx a0.1 y1 fun x3 =>
 some x3)
def spec_Source_h : Hints := (.node none none .none (.node none none .none (.node none none (.node none none (.node (some ⟨[.tmp 16 .bool], [none], none, []⟩) none .none .none) .none) .none)))
def spec_Source_c : Ct := .pure true false (.pair T_State (.pair T_Event .unit)) T_Piece (fun x => spec_Source x.1 x.2.1)
theorem spec_Source_ct : CtOk Try.prog 125 spec_Source_c := pure_ct (E := { T := tab, G := [(154, spec_PieceAt_c)] }) (EnvOk.cons spec_PieceAt_ct (EnvOk.nil tabOk)) mixed (fn := Try.f125) _ _ _ _ _ spec_Source_h Try.func125 (by kernel_rfl) (fun x => by kernel_rfl)
/-! loop.example/g00486/spec.EventOk -/
def spec_EventOk (a0 : T_Event.D) : Option Bool :=
(((spec_l1In a0.2.2.1 1 99).bind fun y1 =>
 bif y1 then (
 some (a0.2.2.2.1 == (-1)))
 else (
 some false)) : Option Bool).bind fun o2 =>
((bif (a0.2.2.1 == 0) then (
(spec_l1In a0.2.2.2.1 0 2).bind fun y3 =>
 some y3)
 else (
 some false)) : Option Bool).bind fun o4 =>
(spec_l1In a0.2.2.2.2.1 0 2147483647).bind fun y5 =>
 bif (!y5) then (
 some false)
 else (
 bif (a0.1 == 1) then (
(spec_l1In a0.2.1 1 99).bind fun y6 =>
 bif y6 then (
 bif o2 then (
 bif (a0.2.2.2.2.2.1 == 0) then (
 some (!a0.2.2.2.2.2.2.1))
 else (
 some false))
 else (
 bif o4 then (
 bif (a0.2.2.2.2.2.1 == 0) then (
 some (!a0.2.2.2.2.2.2.1))
 else (
 some false))
 else (
 some false)))
 else (
 some false))
 else (
 bif (a0.1 == 2) then (
 bif (a0.2.1 == 0) then (
 bif o2 then (
(spec_l1In a0.2.2.2.2.2.1 1 4).bind fun y7 =>
 bif y7 then (
 bif decide (a0.2.2.2.2.1 ≤ 99) then (
 bif (a0.2.2.2.2.2.1 == 2) then (
 some true)
 else (
 bif (a0.2.2.2.2.1 == 0) then (
 some (!a0.2.2.2.2.2.2.1))
 else (
 some false)))
 else (
 some false))
 else (
 some false))
 else (
 some false))
 else (
 some false))
 else (
((bif (a0.1 == 3) then (
 some (a0.1 == 3))
 else (
 some (a0.1 == 4))) : Option Bool).bind fun o8 =>
 bif o8 then (
 bif (a0.2.1 == 0) then (
 bif o4 then (
 bif (a0.2.2.2.2.2.1 == 0) then (
 some (!a0.2.2.2.2.2.2.1))
 else (
 some false))
 else (
 some false))
 else (
 some false))
 else (
((bif (a0.1 == 5) then (
 some (a0.1 == 5))
 else (
 some (a0.1 == 6))) : Option Bool).bind fun o9 =>
 bif o9 then (
 bif (a0.2.1 == 0) then (
 bif o2 then (
 bif (a0.2.2.2.2.2.1 == 0) then (
 some (!a0.2.2.2.2.2.2.1))
 else (
 some false))
 else (
 some false))
 else (
 some false))
 else (
 some false)))))
def spec_EventOk_h : Hints := (.node none none .none (.node none none (.node (some ⟨[.tmp 3 .bool], [none], none, []⟩) none .none .none) (.node none none (.node (some ⟨[.tmp 4 .bool], [none], none, []⟩) none .none .none) (.node none none .none (.node none none (.node none none .none (.node none none (.node none none .none (.node none none .none (.node none none .none (.node none none .none (.node none none (.node none none .none (.node (some ⟨[.tmp 81 .bool], [none], none, []⟩) none .none .none)) (.node none none .none (.node none none (.node none none .none (.node (some ⟨[.tmp 100 .bool], [none], none, []⟩) none .none .none)) .none))))))) .none)) .none)))))
def spec_EventOk_c : Ct := .pure true false (.pair T_Event .unit) .bool (fun x => spec_EventOk x.1)
theorem spec_EventOk_ct : CtOk Try.prog 220 spec_EventOk_c := pure_ct (E := { T := tab, G := [(138, spec_l1In_c)] }) (EnvOk.cons spec_l1In_ct (EnvOk.nil tabOk)) mixed (fn := Try.f220) _ _ _ _ _ spec_EventOk_h Try.func220 (by kernel_rfl) (fun x => by kernel_rfl)
/-! loop.example/g00486/spec.HasTrait -/
def spec_HasTrait (a0 : T_Piece.D) (a1 : Int) : Option Bool :=
 bif (a1 == 1) then (
 let k1 : Int := IntKind.wrap .i64 (BitVec.ofInt (IntKind.bits .i64) a0.2.2.2.2.2.2.2.1 &&& BitVec.ofInt (IntKind.bits .i64) a1).toNat
 some (k1 != 0))
 else (
 bif (a1 == 2) then (
 let k2 : Int := IntKind.wrap .i64 (BitVec.ofInt (IntKind.bits .i64) a0.2.2.2.2.2.2.2.1 &&& BitVec.ofInt (IntKind.bits .i64) a1).toNat
 some (k2 != 0))
 else (
 bif (a1 == 4) then (
 let k3 : Int := IntKind.wrap .i64 (BitVec.ofInt (IntKind.bits .i64) a0.2.2.2.2.2.2.2.1 &&& BitVec.ofInt (IntKind.bits .i64) a1).toNat
 some (k3 != 0))
 else (
 bif (a1 == 8) then (
 let k4 : Int := IntKind.wrap .i64 (BitVec.ofInt (IntKind.bits .i64) a0.2.2.2.2.2.2.2.1 &&& BitVec.ofInt (IntKind.bits .i64) a1).toNat
 some (k4 != 0))
 else (
 bif (a1 == 16) then (
 let k5 : Int := IntKind.wrap .i64 (BitVec.ofInt (IntKind.bits .i64) a0.2.2.2.2.2.2.2.1 &&& BitVec.ofInt (IntKind.bits .i64) a1).toNat
 some (k5 != 0))
 else (
 bif (a1 == 32) then (
 let k6 : Int := IntKind.wrap .i64 (BitVec.ofInt (IntKind.bits .i64) a0.2.2.2.2.2.2.2.1 &&& BitVec.ofInt (IntKind.bits .i64) a1).toNat
 some (k6 != 0))
 else (
 some false))))))
def spec_HasTrait_c : Ct := .pure true false (.pair T_Piece (.pair (.int .i64) .unit)) .bool (fun x => spec_HasTrait x.1 x.2.1)
theorem spec_HasTrait_ct : CtOk Try.prog 124 spec_HasTrait_c := pure_ct (E := { T := tab, G := [] }) (EnvOk.nil tabOk) mixed (fn := Try.f124) _ _ _ _ _ .none Try.func124 (by kernel_rfl) (fun x => by kernel_rfl)
/-! loop.example/g00486/spec.Bound -/
def spec_Bound (a0 : Int) : Option Int :=
 bif decide (a0 > 2147483647) then (
 some 2147483647)
 else (
 bif decide (a0 < (-2147483647)) then (
 some (-2147483647))
 else (
 some a0))
def spec_Bound_c : Ct := .pure true false (.pair (.int .i64) .unit) (.int .i64) (fun x => spec_Bound x.1)
theorem spec_Bound_ct : CtOk Try.prog 311 spec_Bound_c := pure_ct (E := { T := tab, G := [] }) (EnvOk.nil tabOk) mixed (fn := Try.f311) _ _ _ _ _ .none Try.func311 (by kernel_rfl) (fun x => by kernel_rfl)
/-! loop.example/g00486/spec.Plus -/
def spec_Plus (a0 : Int) (a1 : Int) : Option Int :=
(spec_Bound a0).bind fun y1 =>
(spec_Bound a1).bind fun y2 =>
(spec_Bound (IntKind.wrap .i64 (y1 + y2))).bind fun y3 =>
 some y3
def spec_Plus_c : Ct := .pure true false (.pair (.int .i64) (.pair (.int .i64) .unit)) (.int .i64) (fun x => spec_Plus x.1 x.2.1)
theorem spec_Plus_ct : CtOk Try.prog 297 spec_Plus_c := pure_ct (E := { T := tab, G := [(311, spec_Bound_c)] }) (EnvOk.cons spec_Bound_ct (EnvOk.nil tabOk)) mixed (fn := Try.f297) _ _ _ _ _ .none Try.func297 (by kernel_rfl) (fun x => by kernel_rfl)
/-! loop.example/g00486/spec.Less -/
def spec_Less (a0 : Int) (a1 : Int) : Option Int :=
(spec_Bound a0).bind fun y1 =>
(spec_Bound a1).bind fun y2 =>
(spec_Bound (IntKind.wrap .i64 (y1 - y2))).bind fun y3 =>
 some y3
def spec_Less_c : Ct := .pure true false (.pair (.int .i64) (.pair (.int .i64) .unit)) (.int .i64) (fun x => spec_Less x.1 x.2.1)
theorem spec_Less_ct : CtOk Try.prog 291 spec_Less_c := pure_ct (E := { T := tab, G := [(311, spec_Bound_c)] }) (EnvOk.cons spec_Bound_ct (EnvOk.nil tabOk)) mixed (fn := Try.f291) _ _ _ _ _ .none Try.func291 (by kernel_rfl) (fun x => by kernel_rfl)
/-! loop.example/g00486/spec.Strike -/
def spec_Strike (a0 : T_State.D) (a1 : T_Piece.D) (a2 : T_Event.D) : Option (T_State.D × (Int × Unit)) :=
(spec_l5Copy a0).bind fun y1 =>
(((spec_StateOk a0).bind fun y2 =>
 bif (!y2) then (
 some true)
 else (
(spec_EventOk a2).bind fun y3 =>
 bif (!y3) then (
 some true)
 else (
 some (a2.1 != 1)))) : Option Bool).bind fun o4 =>
 bif o4 then (
 some (y1, 0, ()))
 else (
(spec_HasTrait a1 2).bind fun y5 =>
((bif (a2.2.2.1 == 0) then (
 bif decide (a2.2.2.2.1 ≥ (a0.2.1.length : Int)) then (
 some (.inr ((0, y1))))
 else (
((bif y5 then (
 idx a0.2.1 a2.2.2.2.1 fun x6 =>
(spec_Plus x6.2.1 a2.2.2.2.2.1).bind fun y7 =>
 idx y1.2.1 a2.2.2.2.1 fun _ =>
(y1.2.1[(a2.2.2.2.1 : Int).toNat]?).bind fun x8 =>
 let u9 : (List T_Side.D) := y1.2.1.set (a2.2.2.2.1 : Int).toNat (x8.1, y7, x8.2.2)
 some (y1.1, u9, y1.2.2))
 else (
 idx a0.2.1 a2.2.2.2.1 fun x10 =>
(spec_Less x10.1 a2.2.2.2.2.1).bind fun y11 =>
 idx y1.2.1 a2.2.2.2.1 fun _ =>
(y1.2.1[(a2.2.2.2.1 : Int).toNat]?).bind fun x12 =>
 let u13 : (List T_Side.D) := y1.2.1.set (a2.2.2.2.1 : Int).toNat (y11, x12.2)
 some (y1.1, u13, y1.2.2))) : Option T_State.D).bind fun o14 =>
 some (.inl (([], [], 0, 0, ()), o14))))
 else (
(spec_PieceAt a0 a2.2.2.1).bind fun y15 =>
((bif decide (y15 < 0) then (
 some true)
 else (
 idx a0.1 y15 fun x16 =>
 some (x16.2.2.2.1 != 2))) : Option Bool).bind fun o17 =>
 bif o17 then (
 some (.inr ((0, y1))))
 else (
((bif y5 then (
 idx a0.1 y15 fun x18 =>
(spec_Plus x18.2.2.2.2.2.2.2.2.2.1 a2.2.2.2.2.1).bind fun y19 =>
 idx y1.1 y15 fun _ =>
(y1.1[(y15 : Int).toNat]?).bind fun x20 =>
 let u21 : (List T_Piece.D) := y1.1.set (y15 : Int).toNat (x20.1, x20.2.1, x20.2.2.1, x20.2.2.2.1, x20.2.2.2.2.1, x20.2.2.2.2.2.1, x20.2.2.2.2.2.2.1, x20.2.2.2.2.2.2.2.1, x20.2.2.2.2.2.2.2.2.1, y19, x20.2.2.2.2.2.2.2.2.2.2)
 some (u21, y1.2))
 else (
 idx a0.1 y15 fun x22 =>
(spec_Plus x22.2.2.2.2.2.2.2.2.2.2.1 a2.2.2.2.2.1).bind fun y23 =>
 idx y1.1 y15 fun _ =>
(y1.1[(y15 : Int).toNat]?).bind fun x24 =>
 let u25 : (List T_Piece.D) := y1.1.set (y15 : Int).toNat (x24.1, x24.2.1, x24.2.2.1, x24.2.2.2.1, x24.2.2.2.2.1, x24.2.2.2.2.2.1, x24.2.2.2.2.2.2.1, x24.2.2.2.2.2.2.2.1, x24.2.2.2.2.2.2.2.2.1, x24.2.2.2.2.2.2.2.2.2.1, y23, x24.2.2.2.2.2.2.2.2.2.2.2)
 some (u25, y1.2))) : Option T_State.D).bind fun o26 =>
(((spec_HasTrait a1 4).bind fun y27 =>
 bif y27 then (
 some (decide (a2.2.2.2.2.1 ≥ 1)))
 else (
 some false)) : Option Bool).bind fun o28 =>
((bif o28 then (
 idx o26.1 y15 fun _ =>
(o26.1[(y15 : Int).toNat]?).bind fun x29 =>
 let u30 : (List T_Piece.D) := o26.1.set (y15 : Int).toNat (x29.1, x29.2.1, x29.2.2.1, x29.2.2.2.1, x29.2.2.2.2.1, x29.2.2.2.2.2.1, x29.2.2.2.2.2.2.1, x29.2.2.2.2.2.2.2.1, x29.2.2.2.2.2.2.2.2.1, x29.2.2.2.2.2.2.2.2.2.1, x29.2.2.2.2.2.2.2.2.2.2.1, true, x29.2.2.2.2.2.2.2.2.2.2.2.2)
 some (u30, o26.2))
 else (
 some o26)) : Option T_State.D).bind fun o31 =>
 some (.inl (([], [], 0, 0, ()), o31))))) : Option ((T_State.D × ((List T_Piece.D) × ((List T_Side.D) × (Int × (Int × Unit))))) ⊕ (Int × ((List T_Piece.D) × ((List T_Side.D) × (Int × (Int × Unit))))))).bind fun o32 =>
 match o32 with
| .inl s33 => (
(((spec_HasTrait a1 1).bind fun y35 =>
 bif y35 then (
(spec_l1In a1.2.2.1 0 (IntKind.wrap .i64 ((a0.2.1.length : Int) - 1))).bind fun y36 =>
 some y36)
 else (
 some false)) : Option Bool).bind fun o37 =>
((bif o37 then (
 idx s33.2.2.1 a1.2.2.1 fun _ =>
(s33.2.2.1[(a1.2.2.1 : Int).toNat]?).bind fun x38 =>
(spec_Plus x38.1 a2.2.2.2.2.1).bind fun y39 =>
 idx s33.2.2.1 a1.2.2.1 fun _ =>
(s33.2.2.1[(a1.2.2.1 : Int).toNat]?).bind fun x40 =>
 let u41 : (List T_Side.D) := s33.2.2.1.set (a1.2.2.1 : Int).toNat (y39, x40.2)
 some (s33.2.1, u41, s33.2.2.2))
 else (
 some s33.2)) : Option T_State.D).bind fun o42 =>
 some (o42, a2.2.2.2.2.1, ()))
| .inr o34 => (
 some (o34.2, o34.1, ())))
def spec_Strike_h : Hints := (.node none none .none (.node none none .none (.node none none (.node none none (.node (some ⟨[.tmp 25 .bool], [none], none, []⟩) none .none .none) .none) (.node none none .none (.node none none (.node none none .none (.node (some ⟨[.boxO 6 0 1 T_State, .boxO 8 0 1 T_State], [none], some [.tmp 7 (.int .i64), .boxO 6 0 1 T_State], [(6, 0), (12, 1), (8, 0), (12, 0)]⟩) none (.node none none .none (.node none none .none (.node (some ⟨[.boxO 8 0 1 T_State], [none], none, [(12, 1), (8, 0), (12, 0)]⟩) none .none .none))) (.node none none .none (.node none none (.node none none (.node (some ⟨[.tmp 86 .bool], [none], none, []⟩) none .none .none) .none) (.node none none (.node none none .none (.node (some ⟨[.boxO 8 0 1 T_State], [none], none, [(12, 0), (8, 0), (12, 1)]⟩) none .none .none)) (.node none none (.node (some ⟨[.tmp 123 .bool], [none], none, []⟩) none .none .none) (.node (some ⟨[.boxO 8 0 3 T_State], [none], none, [(8, 1), (8, 0), (8, 2)]⟩) none .none .none))))))) (.node none none (.node none none (.node (some ⟨[.tmp 139 .bool], [none], none, []⟩) none .none .none) (.node (some ⟨[.boxO 8 0 3 T_State], [none], none, [(8, 2), (8, 0), (8, 1)]⟩) none .none .none)) .none))))))
def spec_Strike_c : Ct := .pure false false (.pair T_State (.pair T_Piece (.pair T_Event .unit))) (.pair T_State (.pair (.int .i64) .unit)) (fun x => spec_Strike x.1 x.2.1 x.2.2.1)
theorem spec_Strike_ct : CtOk Try.prog 247 spec_Strike_c := pure_ct (E := { T := tab, G := [(124, spec_HasTrait_c), (138, spec_l1In_c), (150, spec_l5Copy_fresh_c), (151, spec_StateOk_c), (154, spec_PieceAt_c), (220, spec_EventOk_c), (291, spec_Less_c), (297, spec_Plus_c)] }) (EnvOk.cons spec_HasTrait_ct (EnvOk.cons spec_l1In_ct (EnvOk.cons spec_l5Copy_fresh_ct (EnvOk.cons spec_StateOk_ct (EnvOk.cons spec_PieceAt_ct (EnvOk.cons spec_EventOk_ct (EnvOk.cons spec_Less_ct (EnvOk.cons spec_Plus_ct (EnvOk.nil tabOk))))))))) mixed (fn := Try.f247) _ _ _ _ _ spec_Strike_h Try.func247 (by kernel_rfl) (fun x => by kernel_rfl)
def spec_Strike_fresh_c : Ct := .pure false true (.pair T_State (.pair T_Piece (.pair T_Event .unit))) (.pair T_State (.pair (.int .i64) .unit)) (fun x => spec_Strike x.1 x.2.1 x.2.2.1)
theorem spec_Strike_fresh_ct : CtOk Try.prog 247 spec_Strike_fresh_c := pure_ct (E := { T := tab, G := [(124, spec_HasTrait_c), (138, spec_l1In_c), (150, spec_l5Copy_fresh_c), (151, spec_StateOk_c), (154, spec_PieceAt_c), (220, spec_EventOk_c), (291, spec_Less_c), (297, spec_Plus_c)] }) (EnvOk.cons spec_HasTrait_ct (EnvOk.cons spec_l1In_ct (EnvOk.cons spec_l5Copy_fresh_ct (EnvOk.cons spec_StateOk_ct (EnvOk.cons spec_PieceAt_ct (EnvOk.cons spec_EventOk_ct (EnvOk.cons spec_Less_ct (EnvOk.cons spec_Plus_ct (EnvOk.nil tabOk))))))))) mixed (fn := Try.f247) _ _ _ _ _ spec_Strike_h Try.func247 (by kernel_rfl) (fun x => by kernel_rfl)
/-! loop.example/g00486/spec.Bear -/
def spec_Bear (a0 : T_State.D) (a1 : T_Event.D) : Option (T_State.D × (Bool × Unit)) :=
(spec_l5Copy a0).bind fun y1 =>
(((spec_StateOk a0).bind fun y2 =>
 bif (!y2) then (
 some true)
 else (
(spec_EventOk a1).bind fun y3 =>
 some (!y3))) : Option Bool).bind fun o4 =>
 bif o4 then (
 some (y1, false, ()))
 else (
((bif (a1.1 == 3) then (
 some (a1.1 == 3))
 else (
 some (a1.1 == 4))) : Option Bool).bind fun o5 =>
 bif o5 then (
 bif decide (a1.2.2.2.1 ≥ (a0.2.1.length : Int)) then (
 some (y1, false, ()))
 else (
((bif (a1.1 == 3) then (
 idx a0.2.1 a1.2.2.2.1 fun x6 =>
(spec_Plus x6.1 a1.2.2.2.2.1).bind fun y7 =>
 idx y1.2.1 a1.2.2.2.1 fun _ =>
(y1.2.1[(a1.2.2.2.1 : Int).toNat]?).bind fun x8 =>
 let u9 : (List T_Side.D) := y1.2.1.set (a1.2.2.2.1 : Int).toNat (y7, x8.2)
 some (y1.1, u9, y1.2.2))
 else (
 idx a0.2.1 a1.2.2.2.1 fun x10 =>
(spec_Less x10.1 a1.2.2.2.2.1).bind fun y11 =>
 idx y1.2.1 a1.2.2.2.1 fun _ =>
(y1.2.1[(a1.2.2.2.1 : Int).toNat]?).bind fun x12 =>
 let u13 : (List T_Side.D) := y1.2.1.set (a1.2.2.2.1 : Int).toNat (y11, x12.2)
 some (y1.1, u13, y1.2.2))) : Option T_State.D).bind fun o14 =>
 some (o14, true, ())))
 else (
((bif (a1.1 == 5) then (
 some (a1.1 == 5))
 else (
 some (a1.1 == 6))) : Option Bool).bind fun o15 =>
 bif o15 then (
(spec_PieceAt a0 a1.2.2.1).bind fun y16 =>
((bif decide (y16 < 0) then (
 some true)
 else (
 idx a0.1 y16 fun x17 =>
 some (x17.2.2.2.1 != 2))) : Option Bool).bind fun o18 =>
 bif o18 then (
 some (y1, false, ()))
 else (
((bif (a1.1 == 5) then (
 idx a0.1 y16 fun x19 =>
(spec_Plus x19.2.2.2.2.2.2.2.2.1 a1.2.2.2.2.1).bind fun y20 =>
 idx y1.1 y16 fun _ =>
(y1.1[(y16 : Int).toNat]?).bind fun x21 =>
 let u22 : (List T_Piece.D) := y1.1.set (y16 : Int).toNat (x21.1, x21.2.1, x21.2.2.1, x21.2.2.2.1, x21.2.2.2.2.1, x21.2.2.2.2.2.1, x21.2.2.2.2.2.2.1, x21.2.2.2.2.2.2.2.1, y20, x21.2.2.2.2.2.2.2.2.2)
 some (u22, y1.2))
 else (
 idx a0.1 y16 fun x23 =>
(spec_Plus x23.2.2.2.2.2.2.2.2.2.1 a1.2.2.2.2.1).bind fun y24 =>
 idx y1.1 y16 fun _ =>
(y1.1[(y16 : Int).toNat]?).bind fun x25 =>
 let u26 : (List T_Piece.D) := y1.1.set (y16 : Int).toNat (x25.1, x25.2.1, x25.2.2.1, x25.2.2.2.1, x25.2.2.2.2.1, x25.2.2.2.2.2.1, x25.2.2.2.2.2.2.1, x25.2.2.2.2.2.2.2.1, x25.2.2.2.2.2.2.2.2.1, y24, x25.2.2.2.2.2.2.2.2.2.2)
 some (u26, y1.2))) : Option T_State.D).bind fun o27 =>
 some (o27, true, ())))
 else (
 some (y1, false, ()))))
def spec_Bear_h : Hints := (.node none none .none (.node none none .none (.node none none (.node none none (.node (some ⟨[.tmp 17 .bool], [none], none, []⟩) none .none .none) .none) (.node none none (.node none none .none (.node none none (.node none none (.node none none .none (.node (some ⟨[.tmp 21 .bool], [none], none, []⟩) none .none .none)) (.node none none (.node none none .none (.node none none (.node none none .none (.node (some ⟨[.boxO 6 0 1 T_State], [none], none, [(9, 1), (6, 0), (9, 0)]⟩) none .none .none)) .none)) (.node none none (.node none none .none (.node (some ⟨[.tmp 67 .bool], [none], none, []⟩) none .none .none)) (.node none none (.node none none .none (.node none none (.node none none (.node (some ⟨[.tmp 84 .bool], [none], none, []⟩) none .none .none) .none) (.node none none (.node none none .none (.node (some ⟨[.boxO 6 0 1 T_State], [none], none, [(9, 0), (6, 0), (9, 1)]⟩) none .none .none)) .none))) .none)))) .none)) .none))))
def spec_Bear_c : Ct := .pure false false (.pair T_State (.pair T_Event .unit)) (.pair T_State (.pair .bool .unit)) (fun x => spec_Bear x.1 x.2.1)
theorem spec_Bear_ct : CtOk Try.prog 248 spec_Bear_c := pure_ct (E := { T := tab, G := [(150, spec_l5Copy_fresh_c), (151, spec_StateOk_c), (154, spec_PieceAt_c), (220, spec_EventOk_c), (291, spec_Less_c), (297, spec_Plus_c)] }) (EnvOk.cons spec_l5Copy_fresh_ct (EnvOk.cons spec_StateOk_ct (EnvOk.cons spec_PieceAt_ct (EnvOk.cons spec_EventOk_ct (EnvOk.cons spec_Less_ct (EnvOk.cons spec_Plus_ct (EnvOk.nil tabOk))))))) mixed (fn := Try.f248) _ _ _ _ _ spec_Bear_h Try.func248 (by kernel_rfl) (fun x => by kernel_rfl)
def spec_Bear_fresh_c : Ct := .pure false true (.pair T_State (.pair T_Event .unit)) (.pair T_State (.pair .bool .unit)) (fun x => spec_Bear x.1 x.2.1)
theorem spec_Bear_fresh_ct : CtOk Try.prog 248 spec_Bear_fresh_c := pure_ct (E := { T := tab, G := [(150, spec_l5Copy_fresh_c), (151, spec_StateOk_c), (154, spec_PieceAt_c), (220, spec_EventOk_c), (291, spec_Less_c), (297, spec_Plus_c)] }) (EnvOk.cons spec_l5Copy_fresh_ct (EnvOk.cons spec_StateOk_ct (EnvOk.cons spec_PieceAt_ct (EnvOk.cons spec_EventOk_ct (EnvOk.cons spec_Less_ct (EnvOk.cons spec_Plus_ct (EnvOk.nil tabOk))))))) mixed (fn := Try.f248) _ _ _ _ _ spec_Bear_h Try.func248 (by kernel_rfl) (fun x => by kernel_rfl)
/-! loop.example/g00486/spec.l18Do -/
def spec_l18Do (a0 : T_State.D) (a1 : T_State.D) (a2 : T_Event.D) : Option (T_State.D × (T_Note.D × Unit)) :=
 bif (a2.1 == 1) then (
(spec_Source a0 a2).bind fun y1 =>
(spec_Strike a1 y1 a2).bind fun y2 =>
 bif decide (y2.2.1 ≥ 1) then (
 some (y2.1, (1, a2, y2.2.1, 0, (0, 0, 0, 0, 0, 0, 0, 0, 0, 0, 0, false, false, ()), ()), ()))
 else (
 some (y2.1, (4, a2, 0, 0, (0, 0, 0, 0, 0, 0, 0, 0, 0, 0, 0, false, false, ()), ()), ())))
 else (
(spec_Bear a1 a2).bind fun y3 =>
 bif y3.2.1 then (
 some (y3.1, (2, a2, 0, 0, (0, 0, 0, 0, 0, 0, 0, 0, 0, 0, 0, false, false, ()), ()), ()))
 else (
 some (y3.1, (4, a2, 0, 0, (0, 0, 0, 0, 0, 0, 0, 0, 0, 0, 0, false, false, ()), ()), ())))
def spec_l18Do_c : Ct := .pure false false (.pair T_State (.pair T_State (.pair T_Event .unit))) (.pair T_State (.pair T_Note .unit)) (fun x => spec_l18Do x.1 x.2.1 x.2.2.1)
theorem spec_l18Do_ct : CtOk Try.prog 152 spec_l18Do_c := pure_ct (E := { T := tab, G := [(125, spec_Source_c), (247, spec_Strike_fresh_c), (248, spec_Bear_fresh_c)] }) (EnvOk.cons spec_Source_ct (EnvOk.cons spec_Strike_fresh_ct (EnvOk.cons spec_Bear_fresh_ct (EnvOk.nil tabOk)))) mixed (fn := Try.f152) _ _ _ _ _ .none Try.func152 (by kernel_rfl) (fun x => by kernel_rfl)
def spec_l18Do_fresh_c : Ct := .pure false true (.pair T_State (.pair T_State (.pair T_Event .unit))) (.pair T_State (.pair T_Note .unit)) (fun x => spec_l18Do x.1 x.2.1 x.2.2.1)
theorem spec_l18Do_fresh_ct : CtOk Try.prog 152 spec_l18Do_fresh_c := pure_ct (E := { T := tab, G := [(125, spec_Source_c), (247, spec_Strike_fresh_c), (248, spec_Bear_fresh_c)] }) (EnvOk.cons spec_Source_ct (EnvOk.cons spec_Strike_fresh_ct (EnvOk.cons spec_Bear_fresh_ct (EnvOk.nil tabOk)))) mixed (fn := Try.f152) _ _ _ _ _ .none Try.func152 (by kernel_rfl) (fun x => by kernel_rfl)
/-! loop.example/g00486/spec.Moved -/
def spec_Moved (a0 : T_Piece.D) (a1 : Int) (a2 : Int) : Option T_Piece.D :=
 some (a0.1, a0.2.1, a0.2.1, a1, a2, a0.2.2.2.2.2.1, a0.2.2.2.2.2.2.1, a0.2.2.2.2.2.2.2.1, 0, 0, 0, false, false, ())
def spec_Moved_c : Ct := .pure true false (.pair T_Piece (.pair (.int .i64) (.pair (.int .i64) .unit))) T_Piece (fun x => spec_Moved x.1 x.2.1 x.2.2.1)
theorem spec_Moved_ct : CtOk Try.prog 249 spec_Moved_c := pure_ct (E := { T := tab, G := [] }) (EnvOk.nil tabOk) mixed (fn := Try.f249) _ _ _ _ _ .none Try.func249 (by kernel_rfl) (fun x => by kernel_rfl)
/-! loop.example/g00486/spec.Carry -/
def spec_Carry (a0 : T_State.D) (a1 : T_Event.D) : Option (T_State.D × (Bool × Unit)) :=
(spec_l5Copy a0).bind fun y1 =>
(spec_PieceAt a0 a1.2.2.1).bind fun y2 =>
(((spec_StateOk a0).bind fun y3 =>
 bif (!y3) then (
 some true)
 else (
(spec_EventOk a1).bind fun y4 =>
 bif (!y4) then (
 some true)
 else (
 bif (a1.1 != 2) then (
 some true)
 else (
 bif decide (y2 < 0) then (
 some true)
 else (
 idx a0.1 y2 fun x5 =>
 some (x5.2.2.2.1 == a1.2.2.2.2.2.1)))))) : Option Bool).bind fun o6 =>
 bif o6 then (
 some (y1, false, ()))
 else (
 idx a0.1 y2 fun x7 =>
(spec_Moved x7 a1.2.2.2.2.2.1 a0.2.2.2.1).bind fun y8 =>
((bif (a1.2.2.2.2.2.1 == 2) then (
 some (y8.1, y8.2.1, y8.2.2.1, y8.2.2.2.1, y8.2.2.2.2.1, y8.2.2.2.2.2.1, y8.2.2.2.2.2.2.1, y8.2.2.2.2.2.2.2.1, a1.2.2.2.2.1, y8.2.2.2.2.2.2.2.2.2.1, y8.2.2.2.2.2.2.2.2.2.2.1, y8.2.2.2.2.2.2.2.2.2.2.2.1, a1.2.2.2.2.2.2))
 else (
 some y8)) : Option T_Piece.D).bind fun o9 =>
 idx y1.1 y2 fun _ =>
(y1.1[(y2 : Int).toNat]?).bind fun x10 =>
 let u11 : (List T_Piece.D) := y1.1.set (y2 : Int).toNat o9
 some ((u11, y1.2), true, ()))
def spec_Carry_h : Hints := (.node none none .none (.node none none .none (.node none none .none (.node none none (.node none none (.node (some ⟨[.tmp 42 .bool], [none], none, []⟩) none .none .none) .none) (.node none none .none (.node none none (.node none none .none (.node (some ⟨[.box 8 0 T_Piece], [none], none, [(8, 0)]⟩) none .none .none)) .none))))))
def spec_Carry_c : Ct := .pure false false (.pair T_State (.pair T_Event .unit)) (.pair T_State (.pair .bool .unit)) (fun x => spec_Carry x.1 x.2.1)
theorem spec_Carry_ct : CtOk Try.prog 153 spec_Carry_c := pure_ct (E := { T := tab, G := [(150, spec_l5Copy_fresh_c), (151, spec_StateOk_c), (154, spec_PieceAt_c), (220, spec_EventOk_c), (249, spec_Moved_c)] }) (EnvOk.cons spec_l5Copy_fresh_ct (EnvOk.cons spec_StateOk_ct (EnvOk.cons spec_PieceAt_ct (EnvOk.cons spec_EventOk_ct (EnvOk.cons spec_Moved_ct (EnvOk.nil tabOk)))))) mixed (fn := Try.f153) _ _ _ _ _ spec_Carry_h Try.func153 (by kernel_rfl) (fun x => by kernel_rfl)
def spec_Carry_fresh_c : Ct := .pure false true (.pair T_State (.pair T_Event .unit)) (.pair T_State (.pair .bool .unit)) (fun x => spec_Carry x.1 x.2.1)
theorem spec_Carry_fresh_ct : CtOk Try.prog 153 spec_Carry_fresh_c := pure_ct (E := { T := tab, G := [(150, spec_l5Copy_fresh_c), (151, spec_StateOk_c), (154, spec_PieceAt_c), (220, spec_EventOk_c), (249, spec_Moved_c)] }) (EnvOk.cons spec_l5Copy_fresh_ct (EnvOk.cons spec_StateOk_ct (EnvOk.cons spec_PieceAt_ct (EnvOk.cons spec_EventOk_ct (EnvOk.cons spec_Moved_ct (EnvOk.nil tabOk)))))) mixed (fn := Try.f153) _ _ _ _ _ spec_Carry_h Try.func153 (by kernel_rfl) (fun x => by kernel_rfl)
/-! loop.example/g00486/spec.Commit -/
def spec_Commit_l1 (a0 : T_State.D) (a1 : (List T_Event.D)) : ((List T_Note.D) × (Int × ((List T_Piece.D) × ((List T_Side.D) × (Int × (Int × Unit)))))) → Option (((List T_Note.D) × (Int × ((List T_Piece.D) × ((List T_Side.D) × (Int × (Int × Unit)))))) ⊕ ((List T_Note.D) × (Int × ((List T_Piece.D) × ((List T_Side.D) × (Int × (Int × Unit))))))) := fun s4 =>
 bif decide (s4.2.1 < (a1.length : Int)) then (
 idx a1 s4.2.1 fun x5 =>
((bif (x5.1 != 2) then (
 idx a1 s4.2.1 fun x6 =>
(spec_l18Do a0 s4.2.2 x6).bind fun y7 =>
 if (s4.1.length + [y7.2.1].length) * (24 * 23) ≤ room then (
 some ((s4.1 ++ [y7.2.1]), y7.1)) else none)
 else (
 some (s4.1, s4.2.2))) : Option ((List T_Note.D) × ((List T_Piece.D) × ((List T_Side.D) × (Int × (Int × Unit)))))).bind fun o8 =>
 some (.inl (o8.1, IntKind.wrap .i64 (s4.2.1 + 1), o8.2)))
 else (
 some (.inr s4))
def spec_Commit_l2 (a0 : T_State.D) (a1 : (List T_Event.D)) : ((List T_Note.D) × (Int × ((List T_Piece.D) × ((List T_Side.D) × (Int × (Int × Unit)))))) → Option (((List T_Note.D) × (Int × ((List T_Piece.D) × ((List T_Side.D) × (Int × (Int × Unit)))))) ⊕ ((List T_Note.D) × (Int × ((List T_Piece.D) × ((List T_Side.D) × (Int × (Int × Unit))))))) := fun s11 =>
 bif decide (s11.2.1 < (a1.length : Int)) then (
((idx a1 s11.2.1 fun x12 =>
 bif (x12.1 != 2) then (
 some (s11.1, s11.2.2))
 else (
 idx a1 s11.2.1 fun x13 =>
(spec_Carry s11.2.2 x13).bind fun y14 =>
 bif (!y14.2.1) then (
 idx a1 s11.2.1 fun x15 =>
 if (s11.1.length + ([(4, x15, 0, 0, (0, 0, 0, 0, 0, 0, 0, 0, 0, 0, 0, false, false, ()), ())] : List T_Note.D).length) * (24 * 23) ≤ room then (
 some ((s11.1 ++ ([(4, x15, 0, 0, (0, 0, 0, 0, 0, 0, 0, 0, 0, 0, 0, false, false, ()), ())] : List T_Note.D)), s11.2.2)) else none)
 else (
 idx a1 s11.2.1 fun x16 =>
 idx a1 s11.2.1 fun x17 =>
(spec_PieceAt a0 x17.2.2.1).bind fun y18 =>
 idx a0.1 y18 fun x19 =>
 if (s11.1.length + ([(3, x16, 0, 0, x19, ())] : List T_Note.D).length) * (24 * 23) ≤ room then (
 some ((s11.1 ++ ([(3, x16, 0, 0, x19, ())] : List T_Note.D)), y14.1)) else none))) : Option ((List T_Note.D) × ((List T_Piece.D) × ((List T_Side.D) × (Int × (Int × Unit)))))).bind fun o20 =>
 some (.inl (o20.1, IntKind.wrap .i64 (s11.2.1 + 1), o20.2)))
 else (
 some (.inr s11))
def spec_Commit (a0 : T_State.D) (a1 : (List T_Event.D)) : Option (T_State.D × ((List T_Note.D) × Unit)) :=
(spec_l5Copy a0).bind fun y1 =>
(spec_StateOk a0).bind fun y2 =>
 bif (!y2) then (
 some (y1, [], ()))
 else (
(while_ (spec_Commit_l1 a0 a1) ([], 0, y1)).bind fun o9 =>
(while_ (spec_Commit_l2 a0 a1) (o9.1, 0, o9.2.2)).bind fun o21 =>
 some (o21.2.2, o21.1, ()))
def spec_Commit_h : Hints := (.node none none .none (.node none none .none (.node none none .none (.node none none .none (.node none none (.node none none .none (.node none none (.node none (some ⟨[.tmpO 7 0 (.slice T_Note), .tmp 8 (.int .i64), .boxO 6 0 1 T_State], [some 0], none, []⟩) (.node none none .none (.node none none (.node none none (.node none none .none (.node (some ⟨[.tmpO 7 1 (.slice T_Note), .boxO 6 0 3 T_State], [none], none, [(6, 0), (7, 0), (6, 1), (6, 2)]⟩) none .none .none)) .none) .none)) .none) .none)) (.node none none (.node none none .none (.node none none (.node none (some ⟨[.tmpO 7 1 (.slice T_Note), .tmp 11 (.int .i64), .boxO 6 0 3 T_State], [some 2], none, []⟩) (.node none none .none (.node none none (.node (some ⟨[.tmpO 7 2 (.slice T_Note), .boxO 6 0 5 T_State], [none], none, [(7, 1), (6, 0), (6, 3), (6, 4)]⟩) none .none .none) .none)) .none) .none)) .none))))))
def spec_Commit_c : Ct := .pure false false (.pair T_State (.pair (.slice T_Event) .unit)) (.pair T_State (.pair (.slice T_Note) .unit)) (fun x => spec_Commit x.1 x.2.1)
theorem spec_Commit_ct : CtOk Try.prog 47 spec_Commit_c := pure_ct (E := { T := tab, G := [(150, spec_l5Copy_fresh_c), (151, spec_StateOk_c), (152, spec_l18Do_fresh_c), (153, spec_Carry_fresh_c), (154, spec_PieceAt_c)] }) (EnvOk.cons spec_l5Copy_fresh_ct (EnvOk.cons spec_StateOk_ct (EnvOk.cons spec_l18Do_fresh_ct (EnvOk.cons spec_Carry_fresh_ct (EnvOk.cons spec_PieceAt_ct (EnvOk.nil tabOk)))))) mixed (fn := Try.f47) _ _ _ _ _ spec_Commit_h Try.func47 (by kernel_rfl) (fun x => by kernel_rfl)
def spec_Commit_fresh_c : Ct := .pure false true (.pair T_State (.pair (.slice T_Event) .unit)) (.pair T_State (.pair (.slice T_Note) .unit)) (fun x => spec_Commit x.1 x.2.1)
theorem spec_Commit_fresh_ct : CtOk Try.prog 47 spec_Commit_fresh_c := pure_ct (E := { T := tab, G := [(150, spec_l5Copy_fresh_c), (151, spec_StateOk_c), (152, spec_l18Do_fresh_c), (153, spec_Carry_fresh_c), (154, spec_PieceAt_c)] }) (EnvOk.cons spec_l5Copy_fresh_ct (EnvOk.cons spec_StateOk_ct (EnvOk.cons spec_l18Do_fresh_ct (EnvOk.cons spec_Carry_fresh_ct (EnvOk.cons spec_PieceAt_ct (EnvOk.nil tabOk)))))) mixed (fn := Try.f47) _ _ _ _ _ spec_Commit_h Try.func47 (by kernel_rfl) (fun x => by kernel_rfl)
/-! loop.example/g00486/spec.l4Any -/
def spec_l4Any (a0 : T_l1Cur.D) : Option (T_Piece.D × (T_l1Cur.D × Unit)) :=
(spec_l1Below a0 9).bind fun y1 =>
(spec_l4Draw y1.2.1 (IntKind.wrap .i64 (1 + y1.1))).bind fun y2 =>
(spec_l1Below y2.2.1 20).bind fun y3 =>
 bif (y3.1 == 0) then (
(spec_l1Int y3.2.1 ([0, 99, 100] : List Int)).bind fun y4 =>
 some ((y4.1, y2.1.2), y4.2))
 else (
 bif (y3.1 == 1) then (
(spec_l1Int y3.2.1 ([(-1), 2, 3] : List Int)).bind fun y5 =>
 some ((y2.1.1, y5.1, y2.1.2.2), y5.2))
 else (
 bif (y3.1 == 2) then (
(spec_l1Int y3.2.1 ([(-1), 2, 3] : List Int)).bind fun y6 =>
 some ((y2.1.1, y2.1.2.1, y6.1, y2.1.2.2.2), y6.2))
 else (
 bif (y3.1 == 3) then (
(spec_l1Int y3.2.1 ([0, 1, 4, 5] : List Int)).bind fun y7 =>
 some ((y2.1.1, y2.1.2.1, y2.1.2.2.1, y7.1, y2.1.2.2.2.2), y7.2))
 else (
 bif (y3.1 == 4) then (
(spec_l1Int y3.2.1 ([(-1), 9999, 10000] : List Int)).bind fun y8 =>
 some ((y2.1.1, y2.1.2.1, y2.1.2.2.1, y2.1.2.2.2.1, y8.1, y2.1.2.2.2.2.2), y8.2))
 else (
 bif (y3.1 == 5) then (
(spec_l1Int y3.2.1 ([(-1), 999, 1000] : List Int)).bind fun y9 =>
 some ((y2.1.1, y2.1.2.1, y2.1.2.2.1, y2.1.2.2.2.1, y2.1.2.2.2.2.1, y9.1, y2.1.2.2.2.2.2.2), y9.2))
 else (
 bif (y3.1 == 6) then (
(spec_l1Int y3.2.1 ([(-1), 999, 1000] : List Int)).bind fun y10 =>
 some ((y2.1.1, y2.1.2.1, y2.1.2.2.1, y2.1.2.2.2.1, y2.1.2.2.2.2.1, y2.1.2.2.2.2.2.1, y10.1, y2.1.2.2.2.2.2.2.2), y10.2))
 else (
 bif (y3.1 == 7) then (
(spec_l1Int y3.2.1 ([(-1), 63, 64] : List Int)).bind fun y11 =>
 some ((y2.1.1, y2.1.2.1, y2.1.2.2.1, y2.1.2.2.2.1, y2.1.2.2.2.2.1, y2.1.2.2.2.2.2.1, y2.1.2.2.2.2.2.2.1, y11.1, y2.1.2.2.2.2.2.2.2.2), y11.2))
 else (
 bif (y3.1 == 8) then (
(spec_l1Raw y3.2.1).bind fun y12 =>
 some ((y2.1.1, y2.1.2.1, y2.1.2.2.1, y2.1.2.2.2.1, y2.1.2.2.2.2.1, y2.1.2.2.2.2.2.1, y2.1.2.2.2.2.2.2.1, y2.1.2.2.2.2.2.2.2.1, y12.1, y2.1.2.2.2.2.2.2.2.2.2), y12.2))
 else (
 bif (y3.1 == 9) then (
(spec_l1Raw y3.2.1).bind fun y13 =>
 some ((y2.1.1, y2.1.2.1, y2.1.2.2.1, y2.1.2.2.2.1, y2.1.2.2.2.2.1, y2.1.2.2.2.2.2.1, y2.1.2.2.2.2.2.2.1, y2.1.2.2.2.2.2.2.2.1, y2.1.2.2.2.2.2.2.2.2.1, y13.1, y2.1.2.2.2.2.2.2.2.2.2.2), y13.2))
 else (
 bif (y3.1 == 10) then (
(spec_l1Raw y3.2.1).bind fun y14 =>
 some ((y2.1.1, y2.1.2.1, y2.1.2.2.1, y2.1.2.2.2.1, y2.1.2.2.2.2.1, y2.1.2.2.2.2.2.1, y2.1.2.2.2.2.2.2.1, y2.1.2.2.2.2.2.2.2.1, y2.1.2.2.2.2.2.2.2.2.1, y2.1.2.2.2.2.2.2.2.2.2.1, y14.1, y2.1.2.2.2.2.2.2.2.2.2.2.2), y14.2))
 else (
 bif (y3.1 == 11) then (
 some ((y2.1.1, y2.1.2.1, y2.1.2.2.1, y2.1.2.2.2.1, y2.1.2.2.2.2.1, y2.1.2.2.2.2.2.1, y2.1.2.2.2.2.2.2.1, y2.1.2.2.2.2.2.2.2.1, y2.1.2.2.2.2.2.2.2.2.1, y2.1.2.2.2.2.2.2.2.2.2.1, y2.1.2.2.2.2.2.2.2.2.2.2.1, true, y2.1.2.2.2.2.2.2.2.2.2.2.2.2), y3.2))
 else (
 some (y2.1, y3.2)))))))))))))
def spec_l4Any_c : Ct := .mut [.ptr] true true (.pair T_l1Cur .unit) T_Piece (fun x => spec_l4Any x.1)
theorem spec_l4Any_ct : CtOk Try.prog 237 spec_l4Any_c := mut_ct (E := { T := tab, G := [(137, spec_l1Below_c), (234, spec_l1Int_c), (235, spec_l4Draw_c), (236, spec_l1Raw_c)], V := [14, 20, 26, 32, 38, 44, 50, 56] }) (EnvOk.views (EnvOk.cons spec_l1Below_ct (EnvOk.cons spec_l1Int_ct (EnvOk.cons spec_l4Draw_ct (EnvOk.cons spec_l1Raw_ct (EnvOk.nil tabOk)))))) mixed (fn := Try.f237) _ _ _ _ _ _ .none Try.func237 (by kernel_rfl) (fun x => by kernel_rfl)
/-! loop.example/g00486/spec.l18Notes -/
def spec_l18Notes (a0 : T_l1Cur.D) : Option ((List T_Note.D) × (T_l1Cur.D × Unit)) :=
(spec_l5Draw a0).bind fun y1 =>
(spec_l18Events y1.2.1 y1.1).bind fun y2 =>
(spec_Commit y1.1 y2.1).bind fun y3 =>
((bif decide ((y3.2.1.length : Int) > 0) then (
(spec_l1Once y2.2.1 3).bind fun y4 =>
 some (y4.1, y4.2.1))
 else (
 some (false, y2.2.1))) : Option (Bool × ((List Int) × (Int × (Int × Unit))))).bind fun o5 =>
 bif o5.1 then (
(spec_l1Below o5.2 (y3.2.1.length : Int)).bind fun y6 =>
(spec_l1Below y6.2.1 4).bind fun y7 =>
 bif (y7.1 == 0) then (
(spec_l1Below y7.2.1 9).bind fun y8 =>
 idx y3.2.1 y6.1 fun _ =>
(y3.2.1[(y6.1 : Int).toNat]?).bind fun x9 =>
 let u10 : (List T_Note.D) := y3.2.1.set (y6.1 : Int).toNat (y8.1, x9.2)
 some (u10, y8.2))
 else (
 bif (y7.1 == 1) then (
(spec_l1Raw y7.2.1).bind fun y11 =>
 idx y3.2.1 y6.1 fun _ =>
(y3.2.1[(y6.1 : Int).toNat]?).bind fun x12 =>
 let u13 : (List T_Note.D) := y3.2.1.set (y6.1 : Int).toNat (x12.1, x12.2.1, y11.1, x12.2.2.2)
 some (u13, y11.2))
 else (
 bif (y7.1 == 2) then (
(spec_l4Any y7.2.1).bind fun y14 =>
 idx y3.2.1 y6.1 fun _ =>
(y3.2.1[(y6.1 : Int).toNat]?).bind fun x15 =>
 let u16 : (List T_Note.D) := y3.2.1.set (y6.1 : Int).toNat (x15.1, x15.2.1, x15.2.2.1, x15.2.2.2.1, y14.1, ())
 some (u16, y14.2))
 else (
 bif (y7.1 == 3) then (
(spec_l6Any y7.2.1 y1.1).bind fun y17 =>
 idx y3.2.1 y6.1 fun _ =>
(y3.2.1[(y6.1 : Int).toNat]?).bind fun x18 =>
 let u19 : (List T_Note.D) := y3.2.1.set (y6.1 : Int).toNat (x18.1, y17.1, x18.2.2)
 some (u19, y17.2))
 else (
 some (y3.2.1, y7.2))))))
 else (
 some (y3.2.1, (o5.2, ())))
def spec_l18Notes_h : Hints := (.node none none .none (.node none none .none (.node none none .none (.node none none (.node none none (.node (some ⟨[.tmp 23 .bool, .box 0 0 T_l1Cur], [none], none, [(0, 0)]⟩) none .none .none) .none) .none))))
def spec_l18Notes_c : Ct := .mut [.ptr] true false (.pair T_l1Cur .unit) (.slice T_Note) (fun x => spec_l18Notes x.1)
theorem spec_l18Notes_ct : CtOk Try.prog 118 spec_l18Notes_c := mut_ct (E := { T := tab, G := [(47, spec_Commit_fresh_c), (116, spec_l5Draw_c), (117, spec_l1Once_c), (119, spec_l18Events_fresh_c), (137, spec_l1Below_c), (214, spec_l6Any_c), (236, spec_l1Raw_c), (237, spec_l4Any_c)] }) (EnvOk.cons spec_Commit_fresh_ct (EnvOk.cons spec_l5Draw_ct (EnvOk.cons spec_l1Once_ct (EnvOk.cons spec_l18Events_fresh_ct (EnvOk.cons spec_l1Below_ct (EnvOk.cons spec_l6Any_ct (EnvOk.cons spec_l1Raw_ct (EnvOk.cons spec_l4Any_ct (EnvOk.nil tabOk))))))))) mixed (fn := Try.f118) _ _ _ _ _ _ spec_l18Notes_h Try.func118 (by kernel_rfl) (fun x => by kernel_rfl)
def spec_l18Notes_fresh_c : Ct := .mut [.ptr] true true (.pair T_l1Cur .unit) (.slice T_Note) (fun x => spec_l18Notes x.1)
theorem spec_l18Notes_fresh_ct : CtOk Try.prog 118 spec_l18Notes_fresh_c := mut_ct (E := { T := tab, G := [(47, spec_Commit_fresh_c), (116, spec_l5Draw_c), (117, spec_l1Once_c), (119, spec_l18Events_fresh_c), (137, spec_l1Below_c), (214, spec_l6Any_c), (236, spec_l1Raw_c), (237, spec_l4Any_c)] }) (EnvOk.cons spec_Commit_fresh_ct (EnvOk.cons spec_l5Draw_ct (EnvOk.cons spec_l1Once_ct (EnvOk.cons spec_l18Events_fresh_ct (EnvOk.cons spec_l1Below_ct (EnvOk.cons spec_l6Any_ct (EnvOk.cons spec_l1Raw_ct (EnvOk.cons spec_l4Any_ct (EnvOk.nil tabOk))))))))) mixed (fn := Try.f118) _ _ _ _ _ _ spec_l18Notes_h Try.func118 (by kernel_rfl) (fun x => by kernel_rfl)
/-! loop.example/g00486/spec.DrawSeen -/
def spec_DrawSeen (a0 : (List Int)) : Option (T_State.D × ((List T_Note.D) × Unit)) :=
(spec_l1New a0).bind fun y1 =>
(spec_l5Draw y1).bind fun y2 =>
(spec_l1Once y2.2.1 8).bind fun y3 =>
 bif y3.1 then (
(spec_l18Notes y3.2.1).bind fun y4 =>
 some (y2.1, y4.1, ()))
 else (
(spec_l18Events y3.2.1 y2.1).bind fun y5 =>
(spec_Commit y2.1 y5.1).bind fun y6 =>
 some (y2.1, y6.2))
def spec_DrawSeen_c : Ct := .pure false false (.pair (.slice (.int .u8)) .unit) (.pair T_State (.pair (.slice T_Note) .unit)) (fun x => spec_DrawSeen x.1)
theorem spec_DrawSeen_ct : CtOk Try.prog 15 spec_DrawSeen_c := pure_ct (E := { T := tab, G := [(47, spec_Commit_c), (115, spec_l1New_c), (116, spec_l5Draw_c), (117, spec_l1Once_c), (118, spec_l18Notes_fresh_c), (119, spec_l18Events_c)] }) (EnvOk.cons spec_Commit_ct (EnvOk.cons spec_l1New_ct (EnvOk.cons spec_l5Draw_ct (EnvOk.cons spec_l1Once_ct (EnvOk.cons spec_l18Notes_fresh_ct (EnvOk.cons spec_l18Events_ct (EnvOk.nil tabOk))))))) mixed (fn := Try.f15) _ _ _ _ _ .none Try.func15 (by kernel_rfl) (fun x => by kernel_rfl)
/-! slices.IndexFunc[[]loop.example/g00486/impl.Piece,loop.example/g00486/impl.Piece] -/
def slices_IndexFunc_impl_Piece_l1 (a0 : (List T_Piece.D)) (a1 : ((T_Piece.D × Unit) → Option Bool)) : Int → Option (Int ⊕ (Int ⊕ Int)) := fun s1 =>
 bif decide (s1 < (a0.length : Int)) then (
 idx a0 s1 fun x2 =>
(a1 (x2, ())).bind fun y3 =>
 bif y3 then (
 some (.inr (.inr s1)))
 else (
 some (.inl (IntKind.wrap .i64 (s1 + 1)))))
 else (
 some (.inr (.inl s1)))
def slices_IndexFunc_impl_Piece (a0 : (List T_Piece.D)) (a1 : ((T_Piece.D × Unit) → Option Bool)) : Option Int :=
(while_ (slices_IndexFunc_impl_Piece_l1 a0 a1) 0).bind fun o4 =>
 match o4 with
| .inl s5 => (
 some (-1))
| .inr o6 => (
 some o6)
def slices_IndexFunc_impl_Piece_h : Hints := (.node none none .none (.node none none (.node none none .none (.node none none (.node none (some ⟨[.tmp 8 (.int .i64)], [some 0], some [.tmp 4 (.int .i64)], []⟩) .none .none) .none)) .none))
def slices_IndexFunc_impl_Piece_c : Ct := .pure true false (.pair (.slice T_Piece) (.pair (.fn (.pair T_Piece .unit) .bool) .unit)) (.int .i64) (fun x => slices_IndexFunc_impl_Piece x.1 x.2.1)
theorem slices_IndexFunc_impl_Piece_ct : CtOk Try.prog 183 slices_IndexFunc_impl_Piece_c := pure_ct (E := { T := tab, G := [] }) (EnvOk.nil tabOk) mixed (fn := Try.f183) _ _ _ _ _ slices_IndexFunc_impl_Piece_h Try.func183 (by kernel_rfl) (fun x => by kernel_rfl)
/-! loop.example/g00486/impl.PieceAt$1 -/
def impl_PieceAt_1 (z0 : Int) (a0 : T_Piece.D) : Option Bool :=
 some (a0.1 == z0)
def impl_PieceAt_1_c : Ct := .clo (.pair T_Piece .unit) (.pair (.int .i64) .unit) .bool (fun z x => impl_PieceAt_1 z.1 x.1)
theorem impl_PieceAt_1_ct : CtOk Try.prog 184 impl_PieceAt_1_c := clo_ct (E := { T := tab, G := [] }) (EnvOk.nil tabOk) mixed (fn := Try.f184) _ _ _ _ .none Try.func184 (by kernel_rfl) (fun z x => by kernel_rfl)
/-! loop.example/g00486/impl.PieceAt -/
def impl_PieceAt (a0 : T_State.D) (a1 : Int) : Option Int :=
(slices_IndexFunc_impl_Piece a0.1 (fun q => impl_PieceAt_1 a1 q.1)).bind fun y1 =>
 some y1
def impl_PieceAt_c : Ct := .pure true false (.pair T_State (.pair (.int .i64) .unit)) (.int .i64) (fun x => impl_PieceAt x.1 x.2.1)
theorem impl_PieceAt_ct : CtOk Try.prog 73 impl_PieceAt_c := pure_ct (E := { T := tab, G := [(183, slices_IndexFunc_impl_Piece_c), (184, impl_PieceAt_1_c)] }) (EnvOk.cons slices_IndexFunc_impl_Piece_ct (EnvOk.cons impl_PieceAt_1_ct (EnvOk.nil tabOk))) mixed (fn := Try.f73) _ _ _ _ _ .none Try.func73 (by kernel_rfl) (fun x => by kernel_rfl)
/-! loop.example/g00486/impl.Source -/
def impl_Source (a0 : T_State.D) (a1 : T_Event.D) : Option T_Piece.D :=
(impl_PieceAt a0 a1.2.1).bind fun y1 =>
((bif (a1.1 != 1) then (
 some true)
 else (
 some (decide (y1 < 0)))) : Option Bool).bind fun o2 =>
 bif o2 then (
 some (0, 0, 0, 0, 0, 0, 0, 0, 0, 0, 0, false, false, ()))
 else (
 idx a0.1 y1 fun x3 =>
 some x3)
def impl_Source_h : Hints := (.node none none .none (.node none none .none (.node none none (.node none none (.node (some ⟨[.tmp 16 .bool], [none], none, []⟩) none .none .none) .none) .none)))
def impl_Source_c : Ct := .pure true false (.pair T_State (.pair T_Event .unit)) T_Piece (fun x => impl_Source x.1 x.2.1)
theorem impl_Source_ct : CtOk Try.prog 120 impl_Source_c := pure_ct (E := { T := tab, G := [(73, impl_PieceAt_c)] }) (EnvOk.cons impl_PieceAt_ct (EnvOk.nil tabOk)) mixed (fn := Try.f120) _ _ _ _ _ impl_Source_h Try.func120 (by kernel_rfl) (fun x => by kernel_rfl)
/-! loop.example/g00486/impl.left -/
def impl_left (a0 : T_Note.D) : Option Bool :=
 bif (a0.1 == 6) then (
 some true)
 else (
 bif (a0.1 == 3) then (
 bif (a0.2.2.2.2.1.2.2.2.1 == 2) then (
 some (a0.2.1.2.2.2.2.2.1 != 2))
 else (
 some false))
 else (
 some false))
def impl_left_c : Ct := .pure true false (.pair T_Note .unit) .bool (fun x => impl_left x.1)
theorem impl_left_ct : CtOk Try.prog 121 impl_left_c := pure_ct (E := { T := tab, G := [] }) (EnvOk.nil tabOk) mixed (fn := Try.f121) _ _ _ _ _ .none Try.func121 (by kernel_rfl) (fun x => by kernel_rfl)
/-! loop.example/g00486/impl.HasTrait -/
def impl_HasTrait (a0 : T_Piece.D) (a1 : Int) : Option Bool :=
((bif (a1 == 1) then (
 some (a1 == 1))
 else (
((bif (a1 == 2) then (
 some (a1 == 2))
 else (
((bif (a1 == 4) then (
 some (a1 == 4))
 else (
((bif (a1 == 8) then (
 some (a1 == 8))
 else (
((bif (a1 == 16) then (
 some (a1 == 16))
 else (
 some (a1 == 32))) : Option Bool).bind fun o1 =>
 some o1)) : Option Bool).bind fun o2 =>
 some o2)) : Option Bool).bind fun o3 =>
 some o3)) : Option Bool).bind fun o4 =>
 some o4)) : Option Bool).bind fun o5 =>
 bif o5 then (
 let k6 : Int := IntKind.wrap .i64 (BitVec.ofInt (IntKind.bits .i64) a0.2.2.2.2.2.2.2.1 &&& BitVec.ofInt (IntKind.bits .i64) a1).toNat
 some (k6 != 0))
 else (
 some false)
def impl_HasTrait_h : Hints := (.node none none .none (.node none none (.node none none .none (.node none none (.node none none (.node none none .none (.node (some ⟨[.tmp 6 .bool], [none], none, []⟩) none .none (.node none none .none (.node (some ⟨[.tmp 6 .bool], [none], none, []⟩) none .none (.node none none .none (.node (some ⟨[.tmp 6 .bool], [none], none, []⟩) none .none (.node none none .none (.node (some ⟨[.tmp 6 .bool], [none], none, []⟩) none .none (.node none none .none (.node (some ⟨[.tmp 6 .bool], [none], none, []⟩) none .none .none)))))))))) .none) .none)) .none))
def impl_HasTrait_c : Ct := .pure true false (.pair T_Piece (.pair (.int .i64) .unit)) .bool (fun x => impl_HasTrait x.1 x.2.1)
theorem impl_HasTrait_ct : CtOk Try.prog 20 impl_HasTrait_c := pure_ct (E := { T := tab, G := [] }) (EnvOk.nil tabOk) mixed (fn := Try.f20) _ _ _ _ _ impl_HasTrait_h Try.func20 (by kernel_rfl) (fun x => by kernel_rfl)
/-! loop.example/g00486/impl.Seen -/
def impl_Seen_l1 (a0 : T_State.D) (a1 : (List T_Note.D)) : ((List T_Trigger.D) × Int) → Option (((List T_Trigger.D) × Int) ⊕ ((List T_Trigger.D) × Int)) := fun s1 =>
 bif decide (s1.2 < (a1.length : Int)) then (
 idx a1 s1.2 fun x2 =>
(impl_Source a0 x2.2.1).bind fun y3 =>
(((impl_left x2).bind fun y4 =>
 bif y4 then (
(impl_HasTrait x2.2.2.2.2.1 16).bind fun y5 =>
 some y5)
 else (
 some false)) : Option Bool).bind fun o6 =>
 bif o6 then (
 if (s1.1.length + ([(1, x2.2.2.2.2.1.2.2.1, 0, x2.2.2.2.2)] : List T_Trigger.D).length) * (24 * 16) ≤ room then (
 some (.inl ((s1.1 ++ ([(1, x2.2.2.2.2.1.2.2.1, 0, x2.2.2.2.2)] : List T_Trigger.D)), IntKind.wrap .i64 (s1.2 + 1)))) else none)
 else (
((bif (x2.1 == 1) then (
 bif decide (x2.2.2.1 ≥ 1) then (
(impl_HasTrait y3 32).bind fun y7 =>
 some y7)
 else (
 some false))
 else (
 some false)) : Option Bool).bind fun o8 =>
 bif o8 then (
 if (s1.1.length + ([(2, y3.2.2.1, x2.2.2.1, y3, ())] : List T_Trigger.D).length) * (24 * 16) ≤ room then (
 some (.inl ((s1.1 ++ ([(2, y3.2.2.1, x2.2.2.1, y3, ())] : List T_Trigger.D)), IntKind.wrap .i64 (s1.2 + 1)))) else none)
 else (
 some (.inl (s1.1, IntKind.wrap .i64 (s1.2 + 1))))))
 else (
 some (.inr s1))
def impl_Seen (a0 : T_State.D) (a1 : (List T_Note.D)) : Option (List T_Trigger.D) :=
(while_ (impl_Seen_l1 a0 a1) ([], 0)).bind fun o9 =>
 some o9.1
def impl_Seen_h : Hints := (.node none none .none (.node none none .none (.node none none (.node none none .none (.node none none (.node none (some ⟨[.tmpO 5 0 (.slice T_Trigger), .tmp 12 (.int .i64)], [some 0], none, []⟩) (.node none none .none (.node none none .none (.node none none (.node none none (.node none none .none (.node none none .none (.node none none (.node none none (.node (some ⟨[.tmp 20 .bool], [none], none, []⟩) none .none .none) (.node none none .none (.node none none (.node (some ⟨[.tmp 37 .bool], [none], none, []⟩) none .none .none) .none))) .none))) .none) .none))) .none) .none)) .none)))
def impl_Seen_c : Ct := .pure true false (.pair T_State (.pair (.slice T_Note) .unit)) (.slice T_Trigger) (fun x => impl_Seen x.1 x.2.1)
theorem impl_Seen_ct : CtOk Try.prog 16 impl_Seen_c := pure_ct (E := { T := tab, G := [(20, impl_HasTrait_c), (120, impl_Source_c), (121, impl_left_c)] }) (EnvOk.cons impl_HasTrait_ct (EnvOk.cons impl_Source_ct (EnvOk.cons impl_left_ct (EnvOk.nil tabOk)))) mixed (fn := Try.f16) _ _ _ _ _ impl_Seen_h Try.func16 (by kernel_rfl) (fun x => by kernel_rfl)
def impl_Seen_fresh_c : Ct := .pure true true (.pair T_State (.pair (.slice T_Note) .unit)) (.slice T_Trigger) (fun x => impl_Seen x.1 x.2.1)
theorem impl_Seen_fresh_ct : CtOk Try.prog 16 impl_Seen_fresh_c := pure_ct (E := { T := tab, G := [(20, impl_HasTrait_c), (120, impl_Source_c), (121, impl_left_c)] }) (EnvOk.cons impl_HasTrait_ct (EnvOk.cons impl_Source_ct (EnvOk.cons impl_left_ct (EnvOk.nil tabOk)))) mixed (fn := Try.f16) _ _ _ _ _ impl_Seen_h Try.func16 (by kernel_rfl) (fun x => by kernel_rfl)
/-! loop.example/g00486/spec.l18Left -/
def spec_l18Left (a0 : T_Note.D) : Option Bool :=
 bif (a0.1 == 6) then (
 some true)
 else (
 bif (a0.1 == 3) then (
 bif (a0.2.2.2.2.1.2.2.2.1 == 2) then (
 some (a0.2.1.2.2.2.2.2.1 != 2))
 else (
 some false))
 else (
 some false))
def spec_l18Left_c : Ct := .pure true false (.pair T_Note .unit) .bool (fun x => spec_l18Left x.1)
theorem spec_l18Left_ct : CtOk Try.prog 123 spec_l18Left_c := pure_ct (E := { T := tab, G := [] }) (EnvOk.nil tabOk) mixed (fn := Try.f123) _ _ _ _ _ .none Try.func123 (by kernel_rfl) (fun x => by kernel_rfl)
/-! loop.example/g00486/spec.Seen -/
def spec_Seen_l1 (a0 : T_State.D) (a1 : (List T_Note.D)) : ((List T_Trigger.D) × Int) → Option (((List T_Trigger.D) × Int) ⊕ ((List T_Trigger.D) × Int)) := fun s1 =>
 bif decide (s1.2 < (a1.length : Int)) then (
 idx a1 s1.2 fun x2 =>
(((spec_l18Left x2).bind fun y3 =>
 bif y3 then (
(spec_HasTrait x2.2.2.2.2.1 16).bind fun y4 =>
 some y4)
 else (
 some false)) : Option Bool).bind fun o5 =>
((bif o5 then (
 if (s1.1.length + ([(1, x2.2.2.2.2.1.2.2.1, 0, x2.2.2.2.2)] : List T_Trigger.D).length) * (24 * 16) ≤ room then (
 some (s1.1 ++ ([(1, x2.2.2.2.2.1.2.2.1, 0, x2.2.2.2.2)] : List T_Trigger.D))) else none)
 else (
 some s1.1)) : Option (List T_Trigger.D)).bind fun o6 =>
((bif (x2.1 == 1) then (
 some (decide (x2.2.2.1 ≥ 1)))
 else (
 some false)) : Option Bool).bind fun o7 =>
((bif o7 then (
(spec_Source a0 x2.2.1).bind fun y8 =>
(spec_HasTrait y8 32).bind fun y9 =>
((bif y9 then (
 if (o6.length + ([(2, y8.2.2.1, x2.2.2.1, y8, ())] : List T_Trigger.D).length) * (24 * 16) ≤ room then (
 some (o6 ++ ([(2, y8.2.2.1, x2.2.2.1, y8, ())] : List T_Trigger.D))) else none)
 else (
 some o6)) : Option (List T_Trigger.D)).bind fun o10 =>
 some o10)
 else (
 some o6)) : Option (List T_Trigger.D)).bind fun o11 =>
 some (.inl (o11, IntKind.wrap .i64 (s1.2 + 1))))
 else (
 some (.inr s1))
def spec_Seen (a0 : T_State.D) (a1 : (List T_Note.D)) : Option (List T_Trigger.D) :=
(while_ (spec_Seen_l1 a0 a1) ([], 0)).bind fun o12 =>
 some o12.1
def spec_Seen_h : Hints := (.node none none .none (.node none none .none (.node none none (.node none none .none (.node none none (.node none (some ⟨[.tmpO 5 0 (.slice T_Trigger), .tmp 6 (.int .i64)], [some 0], none, []⟩) (.node none none .none (.node none none (.node none none (.node none none .none (.node none none (.node none none (.node (some ⟨[.tmp 26 .bool], [none], none, []⟩) none .none .none) (.node (some ⟨[.tmpO 5 1 (.slice T_Trigger)], [none], none, [(5, 0)]⟩) none .none .none)) (.node none none (.node (some ⟨[.tmp 43 .bool], [none], none, []⟩) none .none .none) (.node (some ⟨[.tmpO 5 2 (.slice T_Trigger)], [none], none, [(5, 1)]⟩) none (.node none none .none (.node none none .none (.node (some ⟨[.tmpO 5 2 (.slice T_Trigger)], [none], none, [(5, 1)]⟩) none .none .none))) .none)))) .none) .none)) .none) .none)) .none)))
def spec_Seen_c : Ct := .pure true false (.pair T_State (.pair (.slice T_Note) .unit)) (.slice T_Trigger) (fun x => spec_Seen x.1 x.2.1)
theorem spec_Seen_ct : CtOk Try.prog 18 spec_Seen_c := pure_ct (E := { T := tab, G := [(123, spec_l18Left_c), (124, spec_HasTrait_c), (125, spec_Source_c)] }) (EnvOk.cons spec_l18Left_ct (EnvOk.cons spec_HasTrait_ct (EnvOk.cons spec_Source_ct (EnvOk.nil tabOk)))) mixed (fn := Try.f18) _ _ _ _ _ spec_Seen_h Try.func18 (by kernel_rfl) (fun x => by kernel_rfl)
def spec_Seen_fresh_c : Ct := .pure true true (.pair T_State (.pair (.slice T_Note) .unit)) (.slice T_Trigger) (fun x => spec_Seen x.1 x.2.1)
theorem spec_Seen_fresh_ct : CtOk Try.prog 18 spec_Seen_fresh_c := pure_ct (E := { T := tab, G := [(123, spec_l18Left_c), (124, spec_HasTrait_c), (125, spec_Source_c)] }) (EnvOk.cons spec_l18Left_ct (EnvOk.cons spec_HasTrait_ct (EnvOk.cons spec_Source_ct (EnvOk.nil tabOk)))) mixed (fn := Try.f18) _ _ _ _ _ spec_Seen_h Try.func18 (by kernel_rfl) (fun x => by kernel_rfl)
/-! slices.Equal[[]loop.example/g00486/impl.Trigger,loop.example/g00486/impl.Trigger] -/
def slices_Equal_impl_Trigger_l1 (a0 : (List T_Trigger.D)) (a1 : (List T_Trigger.D)) : Int → Option (Int ⊕ (Int ⊕ Bool)) := fun s1 =>
 bif decide (s1 < (a0.length : Int)) then (
 idx a0 s1 fun x2 =>
 idx a1 s1 fun x3 =>
 bif (!((x2.1 == x3.1) && ((x2.2.1 == x3.2.1) && ((x2.2.2.1 == x3.2.2.1) && (((x2.2.2.2.1.1 == x3.2.2.2.1.1) && ((x2.2.2.2.1.2.1 == x3.2.2.2.1.2.1) && ((x2.2.2.2.1.2.2.1 == x3.2.2.2.1.2.2.1) && ((x2.2.2.2.1.2.2.2.1 == x3.2.2.2.1.2.2.2.1) && ((x2.2.2.2.1.2.2.2.2.1 == x3.2.2.2.1.2.2.2.2.1) && ((x2.2.2.2.1.2.2.2.2.2.1 == x3.2.2.2.1.2.2.2.2.2.1) && ((x2.2.2.2.1.2.2.2.2.2.2.1 == x3.2.2.2.1.2.2.2.2.2.2.1) && ((x2.2.2.2.1.2.2.2.2.2.2.2.1 == x3.2.2.2.1.2.2.2.2.2.2.2.1) && ((x2.2.2.2.1.2.2.2.2.2.2.2.2.1 == x3.2.2.2.1.2.2.2.2.2.2.2.2.1) && ((x2.2.2.2.1.2.2.2.2.2.2.2.2.2.1 == x3.2.2.2.1.2.2.2.2.2.2.2.2.2.1) && ((x2.2.2.2.1.2.2.2.2.2.2.2.2.2.2.1 == x3.2.2.2.1.2.2.2.2.2.2.2.2.2.2.1) && ((x2.2.2.2.1.2.2.2.2.2.2.2.2.2.2.2.1 == x3.2.2.2.1.2.2.2.2.2.2.2.2.2.2.2.1) && ((x2.2.2.2.1.2.2.2.2.2.2.2.2.2.2.2.2.1 == x3.2.2.2.1.2.2.2.2.2.2.2.2.2.2.2.2.1) && true))))))))))))) && true))))) then (
 some (.inr (.inr false)))
 else (
 some (.inl (IntKind.wrap .i64 (s1 + 1)))))
 else (
 some (.inr (.inl s1)))
def slices_Equal_impl_Trigger (a0 : (List T_Trigger.D)) (a1 : (List T_Trigger.D)) : Option Bool :=
 bif ((a0.length : Int) != (a1.length : Int)) then (
 some false)
 else (
(while_ (slices_Equal_impl_Trigger_l1 a0 a1) 0).bind fun o4 =>
 match o4 with
| .inl s5 => (
 some true)
| .inr o6 => (
 some o6))
def slices_Equal_impl_Trigger_h : Hints := (.node none none .none (.node none none .none (.node none none (.node none none .none (.node none none (.node none (some ⟨[.tmp 13 (.int .i64)], [some 0], some [.tmp 4 .bool], []⟩) .none .none) .none)) .none)))
def slices_Equal_impl_Trigger_c : Ct := .pure true false (.pair (.slice T_Trigger) (.pair (.slice T_Trigger) .unit)) .bool (fun x => slices_Equal_impl_Trigger x.1 x.2.1)
theorem slices_Equal_impl_Trigger_ct : CtOk Try.prog 122 slices_Equal_impl_Trigger_c := pure_ct (E := { T := tab, G := [] }) (EnvOk.nil tabOk) mixed (fn := Try.f122) _ _ _ _ _ slices_Equal_impl_Trigger_h Try.func122 (by kernel_rfl) (fun x => by kernel_rfl)
/-! loop.example/g00486/impl.SameTriggers -/
def impl_SameTriggers (a0 : (List T_Trigger.D)) (a1 : (List T_Trigger.D)) : Option Bool :=
(slices_Equal_impl_Trigger a0 a1).bind fun y1 =>
 some y1
def impl_SameTriggers_c : Ct := .pure true false (.pair (.slice T_Trigger) (.pair (.slice T_Trigger) .unit)) .bool (fun x => impl_SameTriggers x.1 x.2.1)
theorem impl_SameTriggers_ct : CtOk Try.prog 17 impl_SameTriggers_c := pure_ct (E := { T := tab, G := [(122, slices_Equal_impl_Trigger_c)] }) (EnvOk.cons slices_Equal_impl_Trigger_ct (EnvOk.nil tabOk)) mixed (fn := Try.f17) _ _ _ _ _ .none Try.func17 (by kernel_rfl) (fun x => by kernel_rfl)
/-! loop.example/g00486/impl.LastKnown -/
def impl_LastKnown_l1 (a0 : (List T_Note.D)) : ((List T_Piece.D) × Int) → Option (((List T_Piece.D) × Int) ⊕ ((List T_Piece.D) × Int)) := fun s1 =>
 bif decide (s1.2 < (a0.length : Int)) then (
 idx a0 s1.2 fun x2 =>
(impl_left x2).bind fun y3 =>
 bif y3 then (
 if (s1.1.length + [x2.2.2.2.2.1].length) * (24 * 13) ≤ room then (
 some (.inl ((s1.1 ++ [x2.2.2.2.2.1]), IntKind.wrap .i64 (s1.2 + 1)))) else none)
 else (
 some (.inl (s1.1, IntKind.wrap .i64 (s1.2 + 1)))))
 else (
 some (.inr s1))
def impl_LastKnown (a0 : (List T_Note.D)) : Option (List T_Piece.D) :=
(while_ (impl_LastKnown_l1 a0) ([], 0)).bind fun o4 =>
 some o4.1
def impl_LastKnown_h : Hints := (.node none none .none (.node none none .none (.node none none (.node none none .none (.node none none (.node none (some ⟨[.tmpO 3 0 (.slice T_Piece), .tmp 9 (.int .i64)], [some 0], none, []⟩) .none .none) .none)) .none)))
def impl_LastKnown_c : Ct := .pure true false (.pair (.slice T_Note) .unit) (.slice T_Piece) (fun x => impl_LastKnown x.1)
theorem impl_LastKnown_ct : CtOk Try.prog 19 impl_LastKnown_c := pure_ct (E := { T := tab, G := [(121, impl_left_c)] }) (EnvOk.cons impl_left_ct (EnvOk.nil tabOk)) mixed (fn := Try.f19) _ _ _ _ _ impl_LastKnown_h Try.func19 (by kernel_rfl) (fun x => by kernel_rfl)
def impl_LastKnown_fresh_c : Ct := .pure true true (.pair (.slice T_Note) .unit) (.slice T_Piece) (fun x => impl_LastKnown x.1)
theorem impl_LastKnown_fresh_ct : CtOk Try.prog 19 impl_LastKnown_fresh_c := pure_ct (E := { T := tab, G := [(121, impl_left_c)] }) (EnvOk.cons impl_left_ct (EnvOk.nil tabOk)) mixed (fn := Try.f19) _ _ _ _ _ impl_LastKnown_h Try.func19 (by kernel_rfl) (fun x => by kernel_rfl)
/-! loop.example/g00486/laws.FnSeens -/
def laws_FnSeens_l1 (y6 : (List T_Piece.D)) : (Int × Int) → Option ((Int × Int) ⊕ (Int × Int)) := fun s7 =>
 bif decide (s7.2 < (y6.length : Int)) then (
 idx y6 s7.2 fun _ =>
(y6[(s7.2 : Int).toNat]?).bind fun x8 =>
(impl_HasTrait x8 16).bind fun y9 =>
((bif y9 then (
 some (IntKind.wrap .i64 (s7.1 + 1)))
 else (
 some s7.1)) : Option Int).bind fun o10 =>
 some (.inl (o10, IntKind.wrap .i64 (s7.2 + 1))))
 else (
 some (.inr s7))
def laws_FnSeens_l2 (y3 : (List T_Trigger.D)) : (Int × Int) → Option ((Int × Int) ⊕ ((Int × Int) ⊕ Bool)) := fun s12 =>
 bif decide (s12.2 < (y3.length : Int)) then (
((idx y3 s12.2 fun _ =>
(y3[(s12.2 : Int).toNat]?).bind fun x13 =>
 idx y3 s12.2 fun _ =>
(y3[(s12.2 : Int).toNat]?).bind fun x14 =>
 bif (x13.2.1 != x14.2.2.2.1.2.2.1) then (
 some true)
 else (
 idx y3 s12.2 fun _ =>
(y3[(s12.2 : Int).toNat]?).bind fun x15 =>
 bif (x15.1 == 2) then (
 idx y3 s12.2 fun _ =>
(y3[(s12.2 : Int).toNat]?).bind fun x16 =>
 some (decide (x16.2.2.1 < 1)))
 else (
 some false))) : Option Bool).bind fun o17 =>
 bif o17 then (
 some (.inr (.inr false)))
 else (
 idx y3 s12.2 fun _ =>
(y3[(s12.2 : Int).toNat]?).bind fun x18 =>
((bif (x18.1 == 1) then (
 some (IntKind.wrap .i64 (s12.1 - 1)))
 else (
 some s12.1)) : Option Int).bind fun o19 =>
 some (.inl (o19, IntKind.wrap .i64 (s12.2 + 1)))))
 else (
 some (.inr (.inl s12)))
def laws_FnSeens (a0 : (List Int)) : Option Bool :=
(laws_big a0).bind fun y1 =>
 bif y1 then (
 some true)
 else (
(spec_DrawSeen a0).bind fun y2 =>
(impl_Seen y2.1 y2.2.1).bind fun y3 =>
(spec_Seen y2.1 y2.2.1).bind fun y4 =>
(impl_SameTriggers y3 y4).bind fun y5 =>
 bif (!y5) then (
 some false)
 else (
(impl_LastKnown y2.2.1).bind fun y6 =>
(while_ (laws_FnSeens_l1 y6) (0, 0)).bind fun o11 =>
(while_ (laws_FnSeens_l2 y3) (o11.1, 0)).bind fun o20 =>
 match o20 with
| .inl s21 => (
 some (s21.1 == 0))
| .inr o22 => (
 some o22)))
def laws_FnSeens_h : Hints := (.node none none .none (.node none none .none (.node none none .none (.node none none .none (.node none none .none (.node none none .none (.node none none .none (.node none none (.node none none .none (.node none none (.node none (some ⟨[.tmp 6 (.int .i64), .tmp 8 (.int .i64)], [some 0], none, []⟩) (.node none none .none (.node none none (.node none none (.node none none .none (.node (some ⟨[.tmp 6 (.int .i64)], [none], none, []⟩) none .none .none)) .none) .none)) .none) .none)) (.node none none (.node none none .none (.node none none (.node none (some ⟨[.tmp 6 (.int .i64), .tmp 9 (.int .i64)], [some 2], some [.tmp 2 .bool], []⟩) (.node none none .none (.node none none (.node none none (.node none none (.node none none (.node (some ⟨[.tmp 74 .bool], [none], none, []⟩) none .none .none) .none) (.node none none .none (.node (some ⟨[.tmp 6 (.int .i64)], [none], none, []⟩) none .none .none))) .none) .none)) .none) .none)) .none)))))))))
def laws_FnSeens_c : Ct := .pure true false (.pair (.slice (.int .u8)) .unit) .bool (fun x => laws_FnSeens x.1)
theorem laws_FnSeens_ct : CtOk Try.prog 3 laws_FnSeens_c := pure_ct (E := { T := tab, G := [(14, laws_big_c), (15, spec_DrawSeen_c), (16, impl_Seen_fresh_c), (17, impl_SameTriggers_c), (18, spec_Seen_fresh_c), (19, impl_LastKnown_fresh_c), (20, impl_HasTrait_c)] }) (EnvOk.cons laws_big_ct (EnvOk.cons spec_DrawSeen_ct (EnvOk.cons impl_Seen_fresh_ct (EnvOk.cons impl_SameTriggers_ct (EnvOk.cons spec_Seen_fresh_ct (EnvOk.cons impl_LastKnown_fresh_ct (EnvOk.cons impl_HasTrait_ct (EnvOk.nil tabOk)))))))) mixed (fn := Try.f3) _ _ _ _ _ laws_FnSeens_h Try.func3 (by kernel_rfl) (fun x => by kernel_rfl)
/-! loop.example/g00486/laws.szPieceS -/
def laws_szPieceS (a0 : (List T_Piece.D)) (a1 : Int) : Option Int :=
 bif decide ((IntKind.wrap .i64 (a1 - (a0.length : Int))) < 0) then (
 some (-1))
 else (
 some (IntKind.wrap .i64 (a1 - (a0.length : Int))))
def laws_szPieceS_c : Ct := .pure true false (.pair (.slice T_Piece) (.pair (.int .i64) .unit)) (.int .i64) (fun x => laws_szPieceS x.1 x.2.1)
theorem laws_szPieceS_ct : CtOk Try.prog 140 laws_szPieceS_c := pure_ct (E := { T := tab, G := [] }) (EnvOk.nil tabOk) mixed (fn := Try.f140) _ _ _ _ _ .none Try.func140 (by kernel_rfl) (fun x => by kernel_rfl)
/-! loop.example/g00486/laws.szSideS -/
def laws_szSideS (a0 : (List T_Side.D)) (a1 : Int) : Option Int :=
 bif decide ((IntKind.wrap .i64 (a1 - (a0.length : Int))) < 0) then (
 some (-1))
 else (
 some (IntKind.wrap .i64 (a1 - (a0.length : Int))))
def laws_szSideS_c : Ct := .pure true false (.pair (.slice T_Side) (.pair (.int .i64) .unit)) (.int .i64) (fun x => laws_szSideS x.1 x.2.1)
theorem laws_szSideS_ct : CtOk Try.prog 141 laws_szSideS_c := pure_ct (E := { T := tab, G := [] }) (EnvOk.nil tabOk) mixed (fn := Try.f141) _ _ _ _ _ .none Try.func141 (by kernel_rfl) (fun x => by kernel_rfl)
/-! loop.example/g00486/laws.szState -/
def laws_szState (a0 : T_State.D) (a1 : Int) : Option Int :=
(laws_szPieceS a0.1 a1).bind fun y1 =>
 bif decide (y1 < 0) then (
 some (-1))
 else (
(laws_szSideS a0.2.1 y1).bind fun y2 =>
 bif decide (y2 < 0) then (
 some (-1))
 else (
 some y2))
def laws_szState_c : Ct := .pure true false (.pair T_State (.pair (.int .i64) .unit)) (.int .i64) (fun x => laws_szState x.1 x.2.1)
theorem laws_szState_ct : CtOk Try.prog 33 laws_szState_c := pure_ct (E := { T := tab, G := [(140, laws_szPieceS_c), (141, laws_szSideS_c)] }) (EnvOk.cons laws_szPieceS_ct (EnvOk.cons laws_szSideS_ct (EnvOk.nil tabOk))) mixed (fn := Try.f33) _ _ _ _ _ .none Try.func33 (by kernel_rfl) (fun x => by kernel_rfl)
/-! loop.example/g00486/laws.szEventS -/
def laws_szEventS (a0 : (List T_Event.D)) (a1 : Int) : Option Int :=
 bif decide ((IntKind.wrap .i64 (a1 - (a0.length : Int))) < 0) then (
 some (-1))
 else (
 some (IntKind.wrap .i64 (a1 - (a0.length : Int))))
def laws_szEventS_c : Ct := .pure true false (.pair (.slice T_Event) (.pair (.int .i64) .unit)) (.int .i64) (fun x => laws_szEventS x.1 x.2.1)
theorem laws_szEventS_ct : CtOk Try.prog 46 laws_szEventS_c := pure_ct (E := { T := tab, G := [] }) (EnvOk.nil tabOk) mixed (fn := Try.f46) _ _ _ _ _ .none Try.func46 (by kernel_rfl) (fun x => by kernel_rfl)
/-! loop.example/g00486/laws.toPiece -/
def laws_toPiece (a0 : T_Piece.D) : Option T_Piece.D :=
 some a0
def laws_toPiece_c : Ct := .pure true false (.pair T_Piece .unit) T_Piece (fun x => laws_toPiece x.1)
theorem laws_toPiece_ct : CtOk Try.prog 241 laws_toPiece_c := pure_ct (E := { T := tab, G := [] }) (EnvOk.nil tabOk) mixed (fn := Try.f241) _ _ _ _ _ .none Try.func241 (by kernel_rfl) (fun x => by kernel_rfl)
/-! loop.example/g00486/laws.toPieceS -/
def laws_toPieceS_l1 (a0 : (List T_Piece.D)) : ((List T_Piece.D) × Int) → Option (((List T_Piece.D) × Int) ⊕ ((List T_Piece.D) × Int)) := fun s2 =>
 bif decide (s2.2 < (a0.length : Int)) then (
 idx a0 s2.2 fun x3 =>
(laws_toPiece x3).bind fun y4 =>
 idx s2.1 s2.2 fun _ =>
(s2.1[(s2.2 : Int).toNat]?).bind fun x5 =>
 let u6 : (List T_Piece.D) := s2.1.set (s2.2 : Int).toNat y4
 some (.inl (u6, IntKind.wrap .i64 (s2.2 + 1))))
 else (
 some (.inr s2))
def laws_toPieceS (a0 : (List T_Piece.D)) : Option (List T_Piece.D) :=
 if 0 ≤ (a0.length : Int) then (if ((a0.length : Int)).toNat * (24 * 13) ≤ room then (
(while_ (laws_toPieceS_l1 a0) ((List.replicate ((a0.length : Int)).toNat (0, 0, 0, 0, 0, 0, 0, 0, 0, 0, 0, false, false, ())), 0)).bind fun o7 =>
 some o7.1) else none) else none
def laws_toPieceS_h : Hints := (.node none none .none (.node none none .none (.node none none (.node none none .none (.node none none (.node none (some ⟨[.tmpO 3 0 (.slice T_Piece), .tmp 4 (.int .i64)], [some 0], none, []⟩) .none .none) .none)) .none)))
def laws_toPieceS_c : Ct := .pure true false (.pair (.slice T_Piece) .unit) (.slice T_Piece) (fun x => laws_toPieceS x.1)
theorem laws_toPieceS_ct : CtOk Try.prog 142 laws_toPieceS_c := pure_ct (E := { T := tab, G := [(241, laws_toPiece_c)] }) (EnvOk.cons laws_toPiece_ct (EnvOk.nil tabOk)) mixed (fn := Try.f142) _ _ _ _ _ laws_toPieceS_h Try.func142 (by kernel_rfl) (fun x => by kernel_rfl)
def laws_toPieceS_fresh_c : Ct := .pure true true (.pair (.slice T_Piece) .unit) (.slice T_Piece) (fun x => laws_toPieceS x.1)
theorem laws_toPieceS_fresh_ct : CtOk Try.prog 142 laws_toPieceS_fresh_c := pure_ct (E := { T := tab, G := [(241, laws_toPiece_c)] }) (EnvOk.cons laws_toPiece_ct (EnvOk.nil tabOk)) mixed (fn := Try.f142) _ _ _ _ _ laws_toPieceS_h Try.func142 (by kernel_rfl) (fun x => by kernel_rfl)
/-! loop.example/g00486/laws.toSide -/
def laws_toSide (a0 : T_Side.D) : Option T_Side.D :=
 some a0
def laws_toSide_c : Ct := .pure true false (.pair T_Side .unit) T_Side (fun x => laws_toSide x.1)
theorem laws_toSide_ct : CtOk Try.prog 242 laws_toSide_c := pure_ct (E := { T := tab, G := [] }) (EnvOk.nil tabOk) mixed (fn := Try.f242) _ _ _ _ _ .none Try.func242 (by kernel_rfl) (fun x => by kernel_rfl)
/-! loop.example/g00486/laws.toSideS -/
def laws_toSideS_l1 (a0 : (List T_Side.D)) : ((List T_Side.D) × Int) → Option (((List T_Side.D) × Int) ⊕ ((List T_Side.D) × Int)) := fun s2 =>
 bif decide (s2.2 < (a0.length : Int)) then (
 idx a0 s2.2 fun x3 =>
(laws_toSide x3).bind fun y4 =>
 idx s2.1 s2.2 fun _ =>
(s2.1[(s2.2 : Int).toNat]?).bind fun x5 =>
 let u6 : (List T_Side.D) := s2.1.set (s2.2 : Int).toNat y4
 some (.inl (u6, IntKind.wrap .i64 (s2.2 + 1))))
 else (
 some (.inr s2))
def laws_toSideS (a0 : (List T_Side.D)) : Option (List T_Side.D) :=
 if 0 ≤ (a0.length : Int) then (if ((a0.length : Int)).toNat * (24 * 3) ≤ room then (
(while_ (laws_toSideS_l1 a0) ((List.replicate ((a0.length : Int)).toNat (0, 0, false, ())), 0)).bind fun o7 =>
 some o7.1) else none) else none
def laws_toSideS_h : Hints := (.node none none .none (.node none none .none (.node none none (.node none none .none (.node none none (.node none (some ⟨[.tmpO 3 0 (.slice T_Side), .tmp 4 (.int .i64)], [some 0], none, []⟩) .none .none) .none)) .none)))
def laws_toSideS_c : Ct := .pure true false (.pair (.slice T_Side) .unit) (.slice T_Side) (fun x => laws_toSideS x.1)
theorem laws_toSideS_ct : CtOk Try.prog 143 laws_toSideS_c := pure_ct (E := { T := tab, G := [(242, laws_toSide_c)] }) (EnvOk.cons laws_toSide_ct (EnvOk.nil tabOk)) mixed (fn := Try.f143) _ _ _ _ _ laws_toSideS_h Try.func143 (by kernel_rfl) (fun x => by kernel_rfl)
def laws_toSideS_fresh_c : Ct := .pure true true (.pair (.slice T_Side) .unit) (.slice T_Side) (fun x => laws_toSideS x.1)
theorem laws_toSideS_fresh_ct : CtOk Try.prog 143 laws_toSideS_fresh_c := pure_ct (E := { T := tab, G := [(242, laws_toSide_c)] }) (EnvOk.cons laws_toSide_ct (EnvOk.nil tabOk)) mixed (fn := Try.f143) _ _ _ _ _ laws_toSideS_h Try.func143 (by kernel_rfl) (fun x => by kernel_rfl)
/-! loop.example/g00486/laws.toState -/
def laws_toState (a0 : T_State.D) : Option T_State.D :=
(laws_toPieceS a0.1).bind fun y1 =>
(laws_toSideS a0.2.1).bind fun y2 =>
 some (y1, y2, a0.2.2)
def laws_toState_c : Ct := .pure true false (.pair T_State .unit) T_State (fun x => laws_toState x.1)
theorem laws_toState_ct : CtOk Try.prog 35 laws_toState_c := pure_ct (E := { T := tab, G := [(142, laws_toPieceS_fresh_c), (143, laws_toSideS_fresh_c)] }) (EnvOk.cons laws_toPieceS_fresh_ct (EnvOk.cons laws_toSideS_fresh_ct (EnvOk.nil tabOk))) mixed (fn := Try.f35) _ _ _ _ _ .none Try.func35 (by kernel_rfl) (fun x => by kernel_rfl)
def laws_toState_fresh_c : Ct := .pure true true (.pair T_State .unit) T_State (fun x => laws_toState x.1)
theorem laws_toState_fresh_ct : CtOk Try.prog 35 laws_toState_fresh_c := pure_ct (E := { T := tab, G := [(142, laws_toPieceS_fresh_c), (143, laws_toSideS_fresh_c)] }) (EnvOk.cons laws_toPieceS_fresh_ct (EnvOk.cons laws_toSideS_fresh_ct (EnvOk.nil tabOk))) mixed (fn := Try.f35) _ _ _ _ _ .none Try.func35 (by kernel_rfl) (fun x => by kernel_rfl)
/-! loop.example/g00486/laws.toEvent -/
def laws_toEvent (a0 : T_Event.D) : Option T_Event.D :=
 some a0
def laws_toEvent_c : Ct := .pure true false (.pair T_Event .unit) T_Event (fun x => laws_toEvent x.1)
theorem laws_toEvent_ct : CtOk Try.prog 155 laws_toEvent_c := pure_ct (E := { T := tab, G := [] }) (EnvOk.nil tabOk) mixed (fn := Try.f155) _ _ _ _ _ .none Try.func155 (by kernel_rfl) (fun x => by kernel_rfl)
/-! loop.example/g00486/laws.toEventS -/
def laws_toEventS_l1 (a0 : (List T_Event.D)) : ((List T_Event.D) × Int) → Option (((List T_Event.D) × Int) ⊕ ((List T_Event.D) × Int)) := fun s2 =>
 bif decide (s2.2 < (a0.length : Int)) then (
 idx a0 s2.2 fun x3 =>
(laws_toEvent x3).bind fun y4 =>
 idx s2.1 s2.2 fun _ =>
(s2.1[(s2.2 : Int).toNat]?).bind fun x5 =>
 let u6 : (List T_Event.D) := s2.1.set (s2.2 : Int).toNat y4
 some (.inl (u6, IntKind.wrap .i64 (s2.2 + 1))))
 else (
 some (.inr s2))
def laws_toEventS (a0 : (List T_Event.D)) : Option (List T_Event.D) :=
 if 0 ≤ (a0.length : Int) then (if ((a0.length : Int)).toNat * (24 * 7) ≤ room then (
(while_ (laws_toEventS_l1 a0) ((List.replicate ((a0.length : Int)).toNat (0, 0, 0, 0, 0, 0, false, ())), 0)).bind fun o7 =>
 some o7.1) else none) else none
def laws_toEventS_h : Hints := (.node none none .none (.node none none .none (.node none none (.node none none .none (.node none none (.node none (some ⟨[.tmpO 3 0 (.slice T_Event), .tmp 4 (.int .i64)], [some 0], none, []⟩) .none .none) .none)) .none)))
def laws_toEventS_c : Ct := .pure true false (.pair (.slice T_Event) .unit) (.slice T_Event) (fun x => laws_toEventS x.1)
theorem laws_toEventS_ct : CtOk Try.prog 48 laws_toEventS_c := pure_ct (E := { T := tab, G := [(155, laws_toEvent_c)] }) (EnvOk.cons laws_toEvent_ct (EnvOk.nil tabOk)) mixed (fn := Try.f48) _ _ _ _ _ laws_toEventS_h Try.func48 (by kernel_rfl) (fun x => by kernel_rfl)
def laws_toEventS_fresh_c : Ct := .pure true true (.pair (.slice T_Event) .unit) (.slice T_Event) (fun x => laws_toEventS x.1)
theorem laws_toEventS_fresh_ct : CtOk Try.prog 48 laws_toEventS_fresh_c := pure_ct (E := { T := tab, G := [(155, laws_toEvent_c)] }) (EnvOk.cons laws_toEvent_ct (EnvOk.nil tabOk)) mixed (fn := Try.f48) _ _ _ _ _ laws_toEventS_h Try.func48 (by kernel_rfl) (fun x => by kernel_rfl)
/-! slices.Clone[[]loop.example/g00486/impl.Piece,loop.example/g00486/impl.Piece] -/
def slices_Clone_impl_Piece (a0 : (List T_Piece.D)) : Option (List T_Piece.D) :=
 if (([] : List T_Piece.D).length + a0.length) * (24 * 13) ≤ room then (
 some ([] ++ a0)) else none
def slices_Clone_impl_Piece_c : Ct := .pure true false (.pair (.slice T_Piece) .unit) (.slice T_Piece) (fun x => slices_Clone_impl_Piece x.1)
theorem slices_Clone_impl_Piece_ct : CtOk Try.prog 250 slices_Clone_impl_Piece_c := nil_ct (E := { T := tab, G := [] }) (EnvOk.nil tabOk) mixed (fn := Try.f250) _ _ T_Piece _ _ .none .none Try.func250 (by kernel_rfl) (by kernel_rfl) (fun x => by kernel_rfl)
def slices_Clone_impl_Piece_fresh_c : Ct := .pure true true (.pair (.slice T_Piece) .unit) (.slice T_Piece) (fun x => slices_Clone_impl_Piece x.1)
theorem slices_Clone_impl_Piece_fresh_ct : CtOk Try.prog 250 slices_Clone_impl_Piece_fresh_c := nil_ct (E := { T := tab, G := [] }) (EnvOk.nil tabOk) mixed (fn := Try.f250) _ _ T_Piece _ _ .none .none Try.func250 (by kernel_rfl) (by kernel_rfl) (fun x => by kernel_rfl)
/-! slices.Clone[[]loop.example/g00486/impl.Side,loop.example/g00486/impl.Side] -/
def slices_Clone_impl_Side (a0 : (List T_Side.D)) : Option (List T_Side.D) :=
 if (([] : List T_Side.D).length + a0.length) * (24 * 3) ≤ room then (
 some ([] ++ a0)) else none
def slices_Clone_impl_Side_c : Ct := .pure true false (.pair (.slice T_Side) .unit) (.slice T_Side) (fun x => slices_Clone_impl_Side x.1)
theorem slices_Clone_impl_Side_ct : CtOk Try.prog 251 slices_Clone_impl_Side_c := nil_ct (E := { T := tab, G := [] }) (EnvOk.nil tabOk) mixed (fn := Try.f251) _ _ T_Side _ _ .none .none Try.func251 (by kernel_rfl) (by kernel_rfl) (fun x => by kernel_rfl)
def slices_Clone_impl_Side_fresh_c : Ct := .pure true true (.pair (.slice T_Side) .unit) (.slice T_Side) (fun x => slices_Clone_impl_Side x.1)
theorem slices_Clone_impl_Side_fresh_ct : CtOk Try.prog 251 slices_Clone_impl_Side_fresh_c := nil_ct (E := { T := tab, G := [] }) (EnvOk.nil tabOk) mixed (fn := Try.f251) _ _ T_Side _ _ .none .none Try.func251 (by kernel_rfl) (by kernel_rfl) (fun x => by kernel_rfl)
/-! loop.example/g00486/impl.copyState -/
def impl_copyState (a0 : T_State.D) : Option T_State.D :=
(slices_Clone_impl_Piece a0.1).bind fun y1 =>
(slices_Clone_impl_Side a0.2.1).bind fun y2 =>
 some (y1, y2, a0.2.2)
def impl_copyState_c : Ct := .pure true false (.pair T_State .unit) T_State (fun x => impl_copyState x.1)
theorem impl_copyState_ct : CtOk Try.prog 156 impl_copyState_c := pure_ct (E := { T := tab, G := [(250, slices_Clone_impl_Piece_fresh_c), (251, slices_Clone_impl_Side_fresh_c)] }) (EnvOk.cons slices_Clone_impl_Piece_fresh_ct (EnvOk.cons slices_Clone_impl_Side_fresh_ct (EnvOk.nil tabOk))) mixed (fn := Try.f156) _ _ _ _ _ .none Try.func156 (by kernel_rfl) (fun x => by kernel_rfl)
def impl_copyState_fresh_c : Ct := .pure true true (.pair T_State .unit) T_State (fun x => impl_copyState x.1)
theorem impl_copyState_fresh_ct : CtOk Try.prog 156 impl_copyState_fresh_c := pure_ct (E := { T := tab, G := [(250, slices_Clone_impl_Piece_fresh_c), (251, slices_Clone_impl_Side_fresh_c)] }) (EnvOk.cons slices_Clone_impl_Piece_fresh_ct (EnvOk.cons slices_Clone_impl_Side_fresh_ct (EnvOk.nil tabOk))) mixed (fn := Try.f156) _ _ _ _ _ .none Try.func156 (by kernel_rfl) (fun x => by kernel_rfl)
/-! loop.example/g00486/impl.from -/
def impl_from (a0 : Int) (a1 : Int) (a2 : Int) : Option Bool :=
 bif decide (a0 ≥ a1) then (
 some (decide (a0 ≤ a2)))
 else (
 some false)
def impl_from_c : Ct := .pure true false (.pair (.int .i64) (.pair (.int .i64) (.pair (.int .i64) .unit))) .bool (fun x => impl_from x.1 x.2.1 x.2.2.1)
theorem impl_from_ct : CtOk Try.prog 175 impl_from_c := pure_ct (E := { T := tab, G := [] }) (EnvOk.nil tabOk) mixed (fn := Try.f175) _ _ _ _ _ .none Try.func175 (by kernel_rfl) (fun x => by kernel_rfl)
/-! loop.example/g00486/impl.isSide -/
def impl_isSide (a0 : T_State.D) (a1 : Int) : Option Bool :=
(impl_from a1 0 (IntKind.wrap .i64 ((a0.2.1.length : Int) - 1))).bind fun y1 =>
 some y1
def impl_isSide_c : Ct := .pure true false (.pair T_State (.pair (.int .i64) .unit)) .bool (fun x => impl_isSide x.1 x.2.1)
theorem impl_isSide_ct : CtOk Try.prog 136 impl_isSide_c := pure_ct (E := { T := tab, G := [(175, impl_from_c)] }) (EnvOk.cons impl_from_ct (EnvOk.nil tabOk)) mixed (fn := Try.f136) _ _ _ _ _ .none Try.func136 (by kernel_rfl) (fun x => by kernel_rfl)
/-! loop.example/g00486/impl.isTime -/
def impl_isTime (a0 : Int) : Option Bool :=
(impl_from a0 0 9999).bind fun y1 =>
 some y1
def impl_isTime_c : Ct := .pure true false (.pair (.int .i64) .unit) .bool (fun x => impl_isTime x.1)
theorem impl_isTime_ct : CtOk Try.prog 176 impl_isTime_c := pure_ct (E := { T := tab, G := [(175, impl_from_c)] }) (EnvOk.cons impl_from_ct (EnvOk.nil tabOk)) mixed (fn := Try.f176) _ _ _ _ _ .none Try.func176 (by kernel_rfl) (fun x => by kernel_rfl)
/-! loop.example/g00486/impl.isId -/
def impl_isId (a0 : Int) : Option Bool :=
(impl_from a0 1 99).bind fun y1 =>
 some y1
def impl_isId_c : Ct := .pure true false (.pair (.int .i64) .unit) .bool (fun x => impl_isId x.1)
theorem impl_isId_ct : CtOk Try.prog 186 impl_isId_c := pure_ct (E := { T := tab, G := [(175, impl_from_c)] }) (EnvOk.cons impl_from_ct (EnvOk.nil tabOk)) mixed (fn := Try.f186) _ _ _ _ _ .none Try.func186 (by kernel_rfl) (fun x => by kernel_rfl)
/-! loop.example/g00486/impl.isPlayer -/
def impl_isPlayer (a0 : Int) : Option Bool :=
(impl_from a0 0 2).bind fun y1 =>
 some y1
def impl_isPlayer_c : Ct := .pure true false (.pair (.int .i64) .unit) .bool (fun x => impl_isPlayer x.1)
theorem impl_isPlayer_ct : CtOk Try.prog 228 impl_isPlayer_c := pure_ct (E := { T := tab, G := [(175, impl_from_c)] }) (EnvOk.cons impl_from_ct (EnvOk.nil tabOk)) mixed (fn := Try.f228) _ _ _ _ _ .none Try.func228 (by kernel_rfl) (fun x => by kernel_rfl)
/-! loop.example/g00486/impl.isZone -/
def impl_isZone (a0 : Int) : Option Bool :=
(impl_from a0 1 4).bind fun y1 =>
 some y1
def impl_isZone_c : Ct := .pure true false (.pair (.int .i64) .unit) .bool (fun x => impl_isZone x.1)
theorem impl_isZone_ct : CtOk Try.prog 189 impl_isZone_c := pure_ct (E := { T := tab, G := [(175, impl_from_c)] }) (EnvOk.cons impl_from_ct (EnvOk.nil tabOk)) mixed (fn := Try.f189) _ _ _ _ _ .none Try.func189 (by kernel_rfl) (fun x => by kernel_rfl)
/-! loop.example/g00486/impl.isTraits -/
def impl_isTraits (a0 : Int) : Option Bool :=
(impl_from a0 0 63).bind fun y1 =>
 some y1
def impl_isTraits_c : Ct := .pure true false (.pair (.int .i64) .unit) .bool (fun x => impl_isTraits x.1)
theorem impl_isTraits_ct : CtOk Try.prog 257 impl_isTraits_c := pure_ct (E := { T := tab, G := [(175, impl_from_c)] }) (EnvOk.cons impl_from_ct (EnvOk.nil tabOk)) mixed (fn := Try.f257) _ _ _ _ _ .none Try.func257 (by kernel_rfl) (fun x => by kernel_rfl)
/-! loop.example/g00486/impl.isAmount -/
def impl_isAmount (a0 : Int) : Option Bool :=
(impl_from a0 0 2147483647).bind fun y1 =>
 some y1
def impl_isAmount_c : Ct := .pure true false (.pair (.int .i64) .unit) .bool (fun x => impl_isAmount x.1)
theorem impl_isAmount_ct : CtOk Try.prog 181 impl_isAmount_c := pure_ct (E := { T := tab, G := [(175, impl_from_c)] }) (EnvOk.cons impl_from_ct (EnvOk.nil tabOk)) mixed (fn := Try.f181) _ _ _ _ _ .none Try.func181 (by kernel_rfl) (fun x => by kernel_rfl)
/-! loop.example/g00486/impl.PieceOk -/
def impl_PieceOk (a0 : T_Piece.D) : Option Bool :=
(((impl_isId a0.1).bind fun y1 =>
 bif (!y1) then (
 some true)
 else (
(impl_isPlayer a0.2.1).bind fun y2 =>
 bif (!y2) then (
 some true)
 else (
(impl_isPlayer a0.2.2.1).bind fun y3 =>
 bif (!y3) then (
 some true)
 else (
(impl_isZone a0.2.2.2.1).bind fun y4 =>
 bif (!y4) then (
 some true)
 else (
(impl_isTime a0.2.2.2.2.1).bind fun y5 =>
 bif (!y5) then (
 some true)
 else (
(impl_from a0.2.2.2.2.2.1 0 999).bind fun y6 =>
 bif (!y6) then (
 some true)
 else (
(impl_from a0.2.2.2.2.2.2.1 0 999).bind fun y7 =>
 bif (!y7) then (
 some true)
 else (
(impl_isTraits a0.2.2.2.2.2.2.2.1).bind fun y8 =>
 some (!y8))))))))) : Option Bool).bind fun o9 =>
 bif o9 then (
 some false)
 else (
 bif (a0.2.2.2.1 != 2) then (
((bif (a0.2.2.1 == a0.2.1) then (
 bif (a0.2.2.2.2.2.2.2.2.1 == 0) then (
 bif (a0.2.2.2.2.2.2.2.2.2.1 == 0) then (
 bif (a0.2.2.2.2.2.2.2.2.2.2.1 == 0) then (
 bif (!a0.2.2.2.2.2.2.2.2.2.2.2.1) then (
 some (!a0.2.2.2.2.2.2.2.2.2.2.2.2.1))
 else (
 some false))
 else (
 some false))
 else (
 some false))
 else (
 some false))
 else (
 some false)) : Option Bool).bind fun o10 =>
 some o10)
 else (
(impl_isAmount a0.2.2.2.2.2.2.2.2.1).bind fun y11 =>
 bif y11 then (
(impl_isAmount a0.2.2.2.2.2.2.2.2.2.1).bind fun y12 =>
 bif y12 then (
(impl_isAmount a0.2.2.2.2.2.2.2.2.2.2.1).bind fun y13 =>
 some y13)
 else (
 some false))
 else (
 some false)))
def impl_PieceOk_h : Hints := (.node none none .none (.node none none (.node none none (.node (some ⟨[.tmp 48 .bool], [none], none, []⟩) none .none .none) .none) (.node none none (.node none none .none (.node none none (.node none none (.node (some ⟨[.tmp 2 .bool], [none], none, []⟩) none .none .none) .none) .none)) .none)))
def impl_PieceOk_c : Ct := .pure true false (.pair T_Piece .unit) .bool (fun x => impl_PieceOk x.1)
theorem impl_PieceOk_ct : CtOk Try.prog 177 impl_PieceOk_c := pure_ct (E := { T := tab, G := [(175, impl_from_c), (176, impl_isTime_c), (181, impl_isAmount_c), (186, impl_isId_c), (189, impl_isZone_c), (228, impl_isPlayer_c), (257, impl_isTraits_c)] }) (EnvOk.cons impl_from_ct (EnvOk.cons impl_isTime_ct (EnvOk.cons impl_isAmount_ct (EnvOk.cons impl_isId_ct (EnvOk.cons impl_isZone_ct (EnvOk.cons impl_isPlayer_ct (EnvOk.cons impl_isTraits_ct (EnvOk.nil tabOk)))))))) mixed (fn := Try.f177) _ _ _ _ _ impl_PieceOk_h Try.func177 (by kernel_rfl) (fun x => by kernel_rfl)
/-! slices.IndexFunc[[]loop.example/g00486/impl.Side,loop.example/g00486/impl.Side] -/
def slices_IndexFunc_impl_Side_l1 (a0 : (List T_Side.D)) (a1 : ((T_Side.D × Unit) → Option Bool)) : Int → Option (Int ⊕ (Int ⊕ Int)) := fun s1 =>
 bif decide (s1 < (a0.length : Int)) then (
 idx a0 s1 fun x2 =>
(a1 (x2, ())).bind fun y3 =>
 bif y3 then (
 some (.inr (.inr s1)))
 else (
 some (.inl (IntKind.wrap .i64 (s1 + 1)))))
 else (
 some (.inr (.inl s1)))
def slices_IndexFunc_impl_Side (a0 : (List T_Side.D)) (a1 : ((T_Side.D × Unit) → Option Bool)) : Option Int :=
(while_ (slices_IndexFunc_impl_Side_l1 a0 a1) 0).bind fun o4 =>
 match o4 with
| .inl s5 => (
 some (-1))
| .inr o6 => (
 some o6)
def slices_IndexFunc_impl_Side_h : Hints := (.node none none .none (.node none none (.node none none .none (.node none none (.node none (some ⟨[.tmp 8 (.int .i64)], [some 0], some [.tmp 4 (.int .i64)], []⟩) .none .none) .none)) .none))
def slices_IndexFunc_impl_Side_c : Ct := .pure true false (.pair (.slice T_Side) (.pair (.fn (.pair T_Side .unit) .bool) .unit)) (.int .i64) (fun x => slices_IndexFunc_impl_Side x.1 x.2.1)
theorem slices_IndexFunc_impl_Side_ct : CtOk Try.prog 258 slices_IndexFunc_impl_Side_c := pure_ct (E := { T := tab, G := [] }) (EnvOk.nil tabOk) mixed (fn := Try.f258) _ _ _ _ _ slices_IndexFunc_impl_Side_h Try.func258 (by kernel_rfl) (fun x => by kernel_rfl)
/-! slices.ContainsFunc[[]loop.example/g00486/impl.Side,loop.example/g00486/impl.Side] -/
def slices_ContainsFunc_impl_Side (a0 : (List T_Side.D)) (a1 : ((T_Side.D × Unit) → Option Bool)) : Option Bool :=
(slices_IndexFunc_impl_Side a0 a1).bind fun y1 =>
 some (decide (y1 ≥ 0))
def slices_ContainsFunc_impl_Side_c : Ct := .pure true false (.pair (.slice T_Side) (.pair (.fn (.pair T_Side .unit) .bool) .unit)) .bool (fun x => slices_ContainsFunc_impl_Side x.1 x.2.1)
theorem slices_ContainsFunc_impl_Side_ct : CtOk Try.prog 178 slices_ContainsFunc_impl_Side_c := pure_ct (E := { T := tab, G := [(258, slices_IndexFunc_impl_Side_c)] }) (EnvOk.cons slices_IndexFunc_impl_Side_ct (EnvOk.nil tabOk)) mixed (fn := Try.f178) _ _ _ _ _ .none Try.func178 (by kernel_rfl) (fun x => by kernel_rfl)
/-! loop.example/g00486/impl.Bound -/
def impl_Bound (a0 : Int) : Option Int :=
 some (if (if 2147483647 < a0 then 2147483647 else a0) > (-2147483647) then (if 2147483647 < a0 then 2147483647 else a0) else (-2147483647))
def impl_Bound_c : Ct := .pure true false (.pair (.int .i64) .unit) (.int .i64) (fun x => impl_Bound x.1)
theorem impl_Bound_ct : CtOk Try.prog 180 impl_Bound_c := pure_ct (E := { T := tab, G := [] }) (EnvOk.nil tabOk) mixed (fn := Try.f180) _ _ _ _ _ .none Try.func180 (by kernel_rfl) (fun x => by kernel_rfl)
/-! loop.example/g00486/impl.StateOk$1 -/
def impl_StateOk_1 (a0 : T_Side.D) : Option Bool :=
(impl_Bound a0.1).bind fun y1 =>
 bif (y1 != a0.1) then (
 some true)
 else (
(impl_isAmount a0.2.1).bind fun y2 =>
 some (!y2))
def impl_StateOk_1_c : Ct := .pure true false (.pair T_Side .unit) .bool (fun x => impl_StateOk_1 x.1)
theorem impl_StateOk_1_ct : CtOk Try.prog 179 impl_StateOk_1_c := pure_ct (E := { T := tab, G := [(180, impl_Bound_c), (181, impl_isAmount_c)] }) (EnvOk.cons impl_Bound_ct (EnvOk.cons impl_isAmount_ct (EnvOk.nil tabOk))) mixed (fn := Try.f179) _ _ _ _ _ .none Try.func179 (by kernel_rfl) (fun x => by kernel_rfl)
/-! loop.example/g00486/impl.StateOk -/
def impl_StateOk_l1 (a0 : T_State.D) : Int → Option (Int ⊕ (Int ⊕ Bool)) := fun s5 =>
 bif decide (s5 < (a0.1.length : Int)) then (
 idx a0.1 s5 fun x6 =>
(((impl_PieceOk x6).bind fun y7 =>
 bif (!y7) then (
 some true)
 else (
(impl_isSide a0 x6.2.1).bind fun y8 =>
 bif (!y8) then (
 some true)
 else (
(impl_isSide a0 x6.2.2.1).bind fun y9 =>
 bif (!y9) then (
 some true)
 else (
 bif decide (x6.2.2.2.2.1 > a0.2.2.2.1) then (
 some true)
 else (
 bif decide (s5 > 0) then (
 idx a0.1 (IntKind.wrap .i64 (s5 - 1)) fun x10 =>
 some (decide (x10.1 ≥ x6.1)))
 else (
 some false)))))) : Option Bool).bind fun o11 =>
 bif o11 then (
 some (.inr (.inr false)))
 else (
 some (.inl (IntKind.wrap .i64 (s5 + 1)))))
 else (
 some (.inr (.inl s5)))
def impl_StateOk (a0 : T_State.D) : Option Bool :=
((bif decide ((a0.1.length : Int) > 8) then (
 some true)
 else (
(impl_from (a0.2.1.length : Int) 2 3).bind fun y1 =>
 bif (!y1) then (
 some true)
 else (
(impl_isSide a0 a0.2.2.1).bind fun y2 =>
 bif (!y2) then (
 some true)
 else (
(impl_isTime a0.2.2.2.1).bind fun y3 =>
 some (!y3))))) : Option Bool).bind fun o4 =>
 bif o4 then (
 some false)
 else (
(while_ (impl_StateOk_l1 a0) 0).bind fun o12 =>
 match o12 with
| .inl s13 => (
(slices_ContainsFunc_impl_Side a0.2.1 (fun q => impl_StateOk_1 q.1)).bind fun y15 =>
 some (!y15))
| .inr o14 => (
 some o14))
def impl_StateOk_h : Hints := (.node none none .none (.node none none (.node none none (.node (some ⟨[.tmp 28 .bool], [none], none, []⟩) none .none .none) .none) (.node none none (.node none none .none (.node none none (.node none (some ⟨[.tmp 32 (.int .i64)], [some 0], some [.tmp 2 .bool], []⟩) (.node none none .none (.node none none .none (.node none none (.node none none (.node none none .none (.node none none (.node (some ⟨[.tmp 76 .bool], [none], none, []⟩) none .none .none) .none)) .none) .none))) .none) .none)) .none)))
def impl_StateOk_c : Ct := .pure true false (.pair T_State .unit) .bool (fun x => impl_StateOk x.1)
theorem impl_StateOk_ct : CtOk Try.prog 67 impl_StateOk_c := pure_ct (E := { T := tab, G := [(136, impl_isSide_c), (175, impl_from_c), (176, impl_isTime_c), (177, impl_PieceOk_c), (178, slices_ContainsFunc_impl_Side_c), (179, impl_StateOk_1_c)] }) (EnvOk.cons impl_isSide_ct (EnvOk.cons impl_from_ct (EnvOk.cons impl_isTime_ct (EnvOk.cons impl_PieceOk_ct (EnvOk.cons slices_ContainsFunc_impl_Side_ct (EnvOk.cons impl_StateOk_1_ct (EnvOk.nil tabOk))))))) mixed (fn := Try.f67) _ _ _ _ _ impl_StateOk_h Try.func67 (by kernel_rfl) (fun x => by kernel_rfl)
/-! slices.Clone[[]loop.example/g00486/impl.Event,loop.example/g00486/impl.Event] -/
def slices_Clone_impl_Event (a0 : (List T_Event.D)) : Option (List T_Event.D) :=
 if (([] : List T_Event.D).length + a0.length) * (24 * 7) ≤ room then (
 some ([] ++ a0)) else none
def slices_Clone_impl_Event_c : Ct := .pure true false (.pair (.slice T_Event) .unit) (.slice T_Event) (fun x => slices_Clone_impl_Event x.1)
theorem slices_Clone_impl_Event_ct : CtOk Try.prog 159 slices_Clone_impl_Event_c := nil_ct (E := { T := tab, G := [] }) (EnvOk.nil tabOk) mixed (fn := Try.f159) _ _ T_Event _ _ .none .none Try.func159 (by kernel_rfl) (by kernel_rfl) (fun x => by kernel_rfl)
def slices_Clone_impl_Event_fresh_c : Ct := .pure true true (.pair (.slice T_Event) .unit) (.slice T_Event) (fun x => slices_Clone_impl_Event x.1)
theorem slices_Clone_impl_Event_fresh_ct : CtOk Try.prog 159 slices_Clone_impl_Event_fresh_c := nil_ct (E := { T := tab, G := [] }) (EnvOk.nil tabOk) mixed (fn := Try.f159) _ _ T_Event _ _ .none .none Try.func159 (by kernel_rfl) (by kernel_rfl) (fun x => by kernel_rfl)
/-! slices.IndexFunc[[]loop.example/g00486/impl.Event,loop.example/g00486/impl.Event] -/
def slices_IndexFunc_impl_Event_l1 (a0 : (List T_Event.D)) (a1 : ((T_Event.D × Unit) → Option Bool)) : Int → Option (Int ⊕ (Int ⊕ Int)) := fun s1 =>
 bif decide (s1 < (a0.length : Int)) then (
 idx a0 s1 fun x2 =>
(a1 (x2, ())).bind fun y3 =>
 bif y3 then (
 some (.inr (.inr s1)))
 else (
 some (.inl (IntKind.wrap .i64 (s1 + 1)))))
 else (
 some (.inr (.inl s1)))
def slices_IndexFunc_impl_Event (a0 : (List T_Event.D)) (a1 : ((T_Event.D × Unit) → Option Bool)) : Option Int :=
(while_ (slices_IndexFunc_impl_Event_l1 a0 a1) 0).bind fun o4 =>
 match o4 with
| .inl s5 => (
 some (-1))
| .inr o6 => (
 some o6)
def slices_IndexFunc_impl_Event_h : Hints := (.node none none .none (.node none none (.node none none .none (.node none none (.node none (some ⟨[.tmp 8 (.int .i64)], [some 0], some [.tmp 4 (.int .i64)], []⟩) .none .none) .none)) .none))
def slices_IndexFunc_impl_Event_c : Ct := .pure true false (.pair (.slice T_Event) (.pair (.fn (.pair T_Event .unit) .bool) .unit)) (.int .i64) (fun x => slices_IndexFunc_impl_Event x.1 x.2.1)
theorem slices_IndexFunc_impl_Event_ct : CtOk Try.prog 252 slices_IndexFunc_impl_Event_c := pure_ct (E := { T := tab, G := [] }) (EnvOk.nil tabOk) mixed (fn := Try.f252) _ _ _ _ _ slices_IndexFunc_impl_Event_h Try.func252 (by kernel_rfl) (fun x => by kernel_rfl)
/-! slices.DeleteFunc[[]loop.example/g00486/impl.Event,loop.example/g00486/impl.Event] -/
def slices_DeleteFunc_impl_Event_l1 (a1 : ((T_Event.D × Unit) → Option Bool)) : ((List T_Event.D) × (Int × Int)) → Option (((List T_Event.D) × (Int × Int)) ⊕ ((List T_Event.D) × (Int × Int))) := fun s3 =>
 bif decide (s3.2.2 < (s3.1.length : Int)) then (
 idx s3.1 s3.2.2 fun _ =>
(s3.1[(s3.2.2 : Int).toNat]?).bind fun x4 =>
(a1 (x4, ())).bind fun y5 =>
((bif (!y5) then (
 idx s3.1 s3.2.1 fun _ =>
(s3.1[(s3.2.1 : Int).toNat]?).bind fun x6 =>
 let u7 : (List T_Event.D) := s3.1.set (s3.2.1 : Int).toNat x4
 some (u7, IntKind.wrap .i64 (s3.2.1 + 1)))
 else (
 some (s3.1, s3.2.1))) : Option ((List T_Event.D) × Int)).bind fun o8 =>
 some (.inl (o8.1, o8.2, IntKind.wrap .i64 (s3.2.2 + 1))))
 else (
 some (.inr s3))
def slices_DeleteFunc_impl_Event (a0 : (List T_Event.D)) (a1 : ((T_Event.D × Unit) → Option Bool)) : Option ((List T_Event.D) × Unit) :=
(slices_IndexFunc_impl_Event a0 a1).bind fun y1 =>
 bif (y1 == (-1)) then (
 some (a0, ()))
 else (
(while_ (slices_DeleteFunc_impl_Event_l1 a1) (a0, y1, IntKind.wrap .i64 (y1 + 1))).bind fun o9 =>
 if 0 ≤ o9.2.1 then (if o9.2.1 ≤ (o9.1.length : Int) then (if (o9.1.length : Int) ≤ (o9.1.length : Int) then (
 if 0 ≤ (0 : Int) then (if (0 : Int) ≤ o9.2.1 then (if o9.2.1 ≤ ((o9.1.take (o9.2.1.toNat) ++ List.replicate ((o9.1.length : Int).toNat - o9.2.1.toNat) (0, 0, 0, 0, 0, 0, false, ()) ++ o9.1.drop ((o9.1.length : Int).toNat)).length : Int) then (
 some ((((o9.1.take (o9.2.1.toNat) ++ List.replicate ((o9.1.length : Int).toNat - o9.2.1.toNat) (0, 0, 0, 0, 0, 0, false, ()) ++ o9.1.drop ((o9.1.length : Int).toNat)).take (o9.2.1.toNat)).drop ((0 : Int).toNat)), ())) else none) else none) else none) else none) else none) else none)
def slices_DeleteFunc_impl_Event_h : Hints := (.node none none .none (.node none none .none (.node none none .none (.node none none (.node none none .none (.node none none (.node none (some ⟨[.tmpO 0 1 (.slice T_Event), .tmp 5 (.int .i64), .tmp 6 (.int .i64)], [some 0], none, []⟩) (.node none none .none (.node none none (.node none none (.node none none .none (.node none none .none (.node (some ⟨[.tmpO 0 2 (.slice T_Event), .tmp 5 (.int .i64)], [none], none, [(0, 1)]⟩) none .none .none))) .none) .none)) .none) .none)) .none))))
def slices_DeleteFunc_impl_Event_fresh_c : Ct := .mut [.tk, .rd] true true (.pair (.slice T_Event) (.pair (.fn (.pair T_Event .unit) .bool) .unit)) (.slice T_Event) (fun x => slices_DeleteFunc_impl_Event x.1 x.2.1)
theorem slices_DeleteFunc_impl_Event_fresh_ct : CtOk Try.prog 158 slices_DeleteFunc_impl_Event_fresh_c := mut_ct (E := { T := tab, G := [(252, slices_IndexFunc_impl_Event_c)] }) (EnvOk.cons slices_IndexFunc_impl_Event_ct (EnvOk.nil tabOk)) mixed (fn := Try.f158) _ _ _ _ _ _ slices_DeleteFunc_impl_Event_h Try.func158 (by kernel_rfl) (fun x => by kernel_rfl)
/-! loop.example/g00486/impl.Commit$1 -/
def impl_Commit_1 (a0 : T_Event.D) : Option Bool :=
 some (a0.1 == 2)
def impl_Commit_1_c : Ct := .pure true false (.pair T_Event .unit) .bool (fun x => impl_Commit_1 x.1)
theorem impl_Commit_1_ct : CtOk Try.prog 157 impl_Commit_1_c := pure_ct (E := { T := tab, G := [] }) (EnvOk.nil tabOk) mixed (fn := Try.f157) _ _ _ _ _ .none Try.func157 (by kernel_rfl) (fun x => by kernel_rfl)
/-! loop.example/g00486/impl.Commit$2 -/
def impl_Commit_2 (z0 : ((T_Event.D × Unit) → Option Bool)) (a0 : T_Event.D) : Option Bool :=
(z0 (a0, ())).bind fun y1 =>
 some (!y1)
def impl_Commit_2_c : Ct := .clo (.pair T_Event .unit) (.pair (.fn (.pair T_Event .unit) .bool) .unit) .bool (fun z x => impl_Commit_2 z.1 x.1)
theorem impl_Commit_2_ct : CtOk Try.prog 160 impl_Commit_2_c := clo_ct (E := { T := tab, G := [] }) (EnvOk.nil tabOk) mixed (fn := Try.f160) _ _ _ _ .none Try.func160 (by kernel_rfl) (fun z x => by kernel_rfl)
/-! loop.example/g00486/impl.onPiece -/
def impl_onPiece (a0 : T_Event.D) : Option Bool :=
(impl_isId a0.2.2.1).bind fun y1 =>
 bif y1 then (
 some (a0.2.2.2.1 == (-1)))
 else (
 some false)
def impl_onPiece_c : Ct := .pure true false (.pair T_Event .unit) .bool (fun x => impl_onPiece x.1)
theorem impl_onPiece_ct : CtOk Try.prog 187 impl_onPiece_c := pure_ct (E := { T := tab, G := [(186, impl_isId_c)] }) (EnvOk.cons impl_isId_ct (EnvOk.nil tabOk)) mixed (fn := Try.f187) _ _ _ _ _ .none Try.func187 (by kernel_rfl) (fun x => by kernel_rfl)
/-! loop.example/g00486/impl.onPlayer -/
def impl_onPlayer (a0 : T_Event.D) : Option Bool :=
 bif (a0.2.2.1 == 0) then (
(impl_isPlayer a0.2.2.2.1).bind fun y1 =>
 some y1)
 else (
 some false)
def impl_onPlayer_c : Ct := .pure true false (.pair T_Event .unit) .bool (fun x => impl_onPlayer x.1)
theorem impl_onPlayer_ct : CtOk Try.prog 188 impl_onPlayer_c := pure_ct (E := { T := tab, G := [(228, impl_isPlayer_c)] }) (EnvOk.cons impl_isPlayer_ct (EnvOk.nil tabOk)) mixed (fn := Try.f188) _ _ _ _ _ .none Try.func188 (by kernel_rfl) (fun x => by kernel_rfl)
/-! loop.example/g00486/impl.EventOk -/
def impl_EventOk (a0 : T_Event.D) : Option Bool :=
(((impl_isAmount a0.2.2.2.2.1).bind fun y1 =>
 bif (!y1) then (
 some true)
 else (
 bif (a0.1 != 1) then (
 bif (a0.2.1 != 0) then (
 some true)
 else (
 bif (a0.1 != 2) then (
 bif (a0.2.2.2.2.2.1 != 0) then (
 some true)
 else (
 some a0.2.2.2.2.2.2.1))
 else (
 some false)))
 else (
 bif (a0.1 != 2) then (
 bif (a0.2.2.2.2.2.1 != 0) then (
 some true)
 else (
 some a0.2.2.2.2.2.2.1))
 else (
 some false)))) : Option Bool).bind fun o2 =>
 bif o2 then (
 some false)
 else (
 bif (a0.1 == 1) then (
(impl_isId a0.2.1).bind fun y3 =>
 bif y3 then (
(impl_onPiece a0).bind fun y4 =>
 bif y4 then (
 some true)
 else (
(impl_onPlayer a0).bind fun y5 =>
 some y5))
 else (
 some false))
 else (
 bif (a0.1 == 2) then (
 bif (a0.2.2.2.2.2.1 == 2) then (
(((impl_onPiece a0).bind fun y6 =>
 bif y6 then (
 some (decide (a0.2.2.2.2.1 ≤ 99)))
 else (
 some false)) : Option Bool).bind fun o7 =>
 some o7)
 else (
(impl_onPiece a0).bind fun y8 =>
 bif y8 then (
(impl_isZone a0.2.2.2.2.2.1).bind fun y9 =>
 bif y9 then (
 bif (a0.2.2.2.2.1 == 0) then (
 some (!a0.2.2.2.2.2.2.1))
 else (
 some false))
 else (
 some false))
 else (
 some false)))
 else (
((bif (a0.1 == 3) then (
 some (a0.1 == 3))
 else (
 some (a0.1 == 4))) : Option Bool).bind fun o10 =>
 bif o10 then (
(impl_onPlayer a0).bind fun y11 =>
 some y11)
 else (
((bif (a0.1 == 5) then (
 some (a0.1 == 5))
 else (
 some (a0.1 == 6))) : Option Bool).bind fun o12 =>
 bif o12 then (
(impl_onPiece a0).bind fun y13 =>
 some y13)
 else (
 some false)))))
def impl_EventOk_h : Hints := (.node none none .none (.node none none (.node none none (.node (some ⟨[.tmp 30 .bool], [none], none, []⟩) none .none .none) .none) (.node none none (.node none none .none (.node none none (.node none none .none (.node none none .none (.node none none .none (.node none none (.node none none (.node none none .none (.node none none (.node none none (.node (some ⟨[.tmp 2 .bool], [none], none, []⟩) none .none .none) .none) .none)) .none) (.node none none (.node none none .none (.node (some ⟨[.tmp 75 .bool], [none], none, []⟩) none .none .none)) (.node none none .none (.node none none (.node none none .none (.node (some ⟨[.tmp 80 .bool], [none], none, []⟩) none .none .none)) .none))))))) .none)) .none)))
def impl_EventOk_c : Ct := .pure true false (.pair T_Event .unit) .bool (fun x => impl_EventOk x.1)
theorem impl_EventOk_ct : CtOk Try.prog 75 impl_EventOk_c := pure_ct (E := { T := tab, G := [(181, impl_isAmount_c), (186, impl_isId_c), (187, impl_onPiece_c), (188, impl_onPlayer_c), (189, impl_isZone_c)] }) (EnvOk.cons impl_isAmount_ct (EnvOk.cons impl_isId_ct (EnvOk.cons impl_onPiece_ct (EnvOk.cons impl_onPlayer_ct (EnvOk.cons impl_isZone_ct (EnvOk.nil tabOk)))))) mixed (fn := Try.f75) _ _ _ _ _ impl_EventOk_h Try.func75 (by kernel_rfl) (fun x => by kernel_rfl)
/-! loop.example/g00486/impl.fieldAt -/
def impl_fieldAt (a0 : T_State.D) (a1 : Int) : Option Int :=
(impl_PieceAt a0 a1).bind fun y1 =>
((bif decide (y1 < 0) then (
 some true)
 else (
 idx a0.1 y1 fun x2 =>
 some (x2.2.2.2.1 != 2))) : Option Bool).bind fun o3 =>
 bif o3 then (
 some (-1))
 else (
 some y1)
def impl_fieldAt_h : Hints := (.node none none .none (.node none none .none (.node none none (.node none none (.node (some ⟨[.tmp 19 .bool], [none], none, []⟩) none .none .none) .none) .none)))
def impl_fieldAt_c : Ct := .pure true false (.pair T_State (.pair (.int .i64) .unit)) (.int .i64) (fun x => impl_fieldAt x.1 x.2.1)
theorem impl_fieldAt_ct : CtOk Try.prog 185 impl_fieldAt_c := pure_ct (E := { T := tab, G := [(73, impl_PieceAt_c)] }) (EnvOk.cons impl_PieceAt_ct (EnvOk.nil tabOk)) mixed (fn := Try.f185) _ _ _ _ _ impl_fieldAt_h Try.func185 (by kernel_rfl) (fun x => by kernel_rfl)
/-! loop.example/g00486/impl.reaches -/
def impl_reaches (a0 : T_State.D) (a1 : T_Event.D) : Option Bool :=
 bif (a1.2.2.1 == 0) then (
(impl_isSide a0 a1.2.2.2.1).bind fun y1 =>
 some y1)
 else (
(impl_fieldAt a0 a1.2.2.1).bind fun y2 =>
 some (decide (y2 ≥ 0)))
def impl_reaches_c : Ct := .pure true false (.pair T_State (.pair T_Event .unit)) .bool (fun x => impl_reaches x.1 x.2.1)
theorem impl_reaches_ct : CtOk Try.prog 298 impl_reaches_c := pure_ct (E := { T := tab, G := [(136, impl_isSide_c), (185, impl_fieldAt_c)] }) (EnvOk.cons impl_isSide_ct (EnvOk.cons impl_fieldAt_ct (EnvOk.nil tabOk))) mixed (fn := Try.f298) _ _ _ _ _ .none Try.func298 (by kernel_rfl) (fun x => by kernel_rfl)
/-! loop.example/g00486/impl.Plus -/
def impl_Plus (a0 : Int) (a1 : Int) : Option Int :=
(impl_Bound a0).bind fun y1 =>
(impl_Bound a1).bind fun y2 =>
(impl_Bound (IntKind.wrap .i64 (y1 + y2))).bind fun y3 =>
 some y3
def impl_Plus_c : Ct := .pure true false (.pair (.int .i64) (.pair (.int .i64) .unit)) (.int .i64) (fun x => impl_Plus x.1 x.2.1)
theorem impl_Plus_ct : CtOk Try.prog 264 impl_Plus_c := pure_ct (E := { T := tab, G := [(180, impl_Bound_c)] }) (EnvOk.cons impl_Bound_ct (EnvOk.nil tabOk)) mixed (fn := Try.f264) _ _ _ _ _ .none Try.func264 (by kernel_rfl) (fun x => by kernel_rfl)
/-! loop.example/g00486/impl.Less -/
def impl_Less (a0 : Int) (a1 : Int) : Option Int :=
(impl_Bound a0).bind fun y1 =>
(impl_Bound a1).bind fun y2 =>
(impl_Bound (IntKind.wrap .i64 (y1 - y2))).bind fun y3 =>
 some y3
def impl_Less_c : Ct := .pure true false (.pair (.int .i64) (.pair (.int .i64) .unit)) (.int .i64) (fun x => impl_Less x.1 x.2.1)
theorem impl_Less_ct : CtOk Try.prog 263 impl_Less_c := pure_ct (E := { T := tab, G := [(180, impl_Bound_c)] }) (EnvOk.cons impl_Bound_ct (EnvOk.nil tabOk)) mixed (fn := Try.f263) _ _ _ _ _ .none Try.func263 (by kernel_rfl) (fun x => by kernel_rfl)
/-! loop.example/g00486/impl.Strike -/
def impl_Strike (a0 : T_State.D) (a1 : T_Piece.D) (a2 : T_Event.D) : Option (T_State.D × (Int × Unit)) :=
(impl_copyState a0).bind fun y1 =>
(impl_StateOk y1).bind fun y2 =>
 bif (!y2) then (
 some (y1, 0, ()))
 else (
(impl_EventOk a2).bind fun y3 =>
 bif (!y3) then (
 some (y1, 0, ()))
 else (
 bif (a2.1 != 1) then (
 some (y1, 0, ()))
 else (
(impl_reaches y1 a2).bind fun y4 =>
 bif (!y4) then (
 some (y1, 0, ()))
 else (
(impl_HasTrait a1 2).bind fun y5 =>
 bif (a2.2.2.1 == 0) then (
 bif y5 then (
 idx y1.2.1 a2.2.2.2.1 fun _ =>
(y1.2.1[(a2.2.2.2.1 : Int).toNat]?).bind fun x6 =>
(impl_Plus x6.2.1 a2.2.2.2.2.1).bind fun y7 =>
 idx y1.2.1 a2.2.2.2.1 fun _ =>
(y1.2.1[(a2.2.2.2.1 : Int).toNat]?).bind fun x8 =>
 let u9 : (List T_Side.D) := y1.2.1.set (a2.2.2.2.1 : Int).toNat (x8.1, y7, x8.2.2)
(impl_HasTrait a1 1).bind fun y10 =>
 bif y10 then (
(impl_isSide (y1.1, u9, y1.2.2) a1.2.2.1).bind fun y11 =>
 bif y11 then (
 idx u9 a1.2.2.1 fun _ =>
(u9[(a1.2.2.1 : Int).toNat]?).bind fun x12 =>
(impl_Plus x12.1 a2.2.2.2.2.1).bind fun y13 =>
 idx u9 a1.2.2.1 fun _ =>
(u9[(a1.2.2.1 : Int).toNat]?).bind fun x14 =>
 let u15 : (List T_Side.D) := u9.set (a1.2.2.1 : Int).toNat (y13, x14.2)
 some ((y1.1, u15, y1.2.2), a2.2.2.2.2.1, ()))
 else (
 some ((y1.1, u9, y1.2.2), a2.2.2.2.2.1, ())))
 else (
 some ((y1.1, u9, y1.2.2), a2.2.2.2.2.1, ())))
 else (
 bif (a2.2.2.1 == 0) then (
 idx y1.2.1 a2.2.2.2.1 fun _ =>
(y1.2.1[(a2.2.2.2.1 : Int).toNat]?).bind fun x16 =>
(impl_Less x16.1 a2.2.2.2.2.1).bind fun y17 =>
 idx y1.2.1 a2.2.2.2.1 fun _ =>
(y1.2.1[(a2.2.2.2.1 : Int).toNat]?).bind fun x18 =>
 let u19 : (List T_Side.D) := y1.2.1.set (a2.2.2.2.1 : Int).toNat (y17, x18.2)
(impl_HasTrait a1 1).bind fun y20 =>
 bif y20 then (
(impl_isSide (y1.1, u19, y1.2.2) a1.2.2.1).bind fun y21 =>
 bif y21 then (
 idx u19 a1.2.2.1 fun _ =>
(u19[(a1.2.2.1 : Int).toNat]?).bind fun x22 =>
(impl_Plus x22.1 a2.2.2.2.2.1).bind fun y23 =>
 idx u19 a1.2.2.1 fun _ =>
(u19[(a1.2.2.1 : Int).toNat]?).bind fun x24 =>
 let u25 : (List T_Side.D) := u19.set (a1.2.2.1 : Int).toNat (y23, x24.2)
 some ((y1.1, u25, y1.2.2), a2.2.2.2.2.1, ()))
 else (
 some ((y1.1, u19, y1.2.2), a2.2.2.2.2.1, ())))
 else (
 some ((y1.1, u19, y1.2.2), a2.2.2.2.2.1, ())))
 else (
(impl_fieldAt y1 a2.2.2.1).bind fun y26 =>
 idx y1.1 y26 fun _ =>
 bif y5 then (
(y1.1[(y26 : Int).toNat]?).bind fun x27 =>
(impl_Plus x27.2.2.2.2.2.2.2.2.2.1 a2.2.2.2.2.1).bind fun y28 =>
(y1.1[(y26 : Int).toNat]?).bind fun x29 =>
 let u30 : (List T_Piece.D) := y1.1.set (y26 : Int).toNat (x29.1, x29.2.1, x29.2.2.1, x29.2.2.2.1, x29.2.2.2.2.1, x29.2.2.2.2.2.1, x29.2.2.2.2.2.2.1, x29.2.2.2.2.2.2.2.1, x29.2.2.2.2.2.2.2.2.1, y28, x29.2.2.2.2.2.2.2.2.2.2)
(u30[(y26 : Int).toNat]?).bind fun x31 =>
 bif x31.2.2.2.2.2.2.2.2.2.2.2.1 then (
(u30[(y26 : Int).toNat]?).bind fun x32 =>
 let u33 : (List T_Piece.D) := u30.set (y26 : Int).toNat (x32.1, x32.2.1, x32.2.2.1, x32.2.2.2.1, x32.2.2.2.2.1, x32.2.2.2.2.2.1, x32.2.2.2.2.2.2.1, x32.2.2.2.2.2.2.2.1, x32.2.2.2.2.2.2.2.2.1, x32.2.2.2.2.2.2.2.2.2.1, x32.2.2.2.2.2.2.2.2.2.2.1, true, x32.2.2.2.2.2.2.2.2.2.2.2.2)
(impl_HasTrait a1 1).bind fun y34 =>
 bif y34 then (
(impl_isSide (u33, y1.2) a1.2.2.1).bind fun y35 =>
 bif y35 then (
 idx y1.2.1 a1.2.2.1 fun _ =>
(y1.2.1[(a1.2.2.1 : Int).toNat]?).bind fun x36 =>
(impl_Plus x36.1 a2.2.2.2.2.1).bind fun y37 =>
 idx y1.2.1 a1.2.2.1 fun _ =>
(y1.2.1[(a1.2.2.1 : Int).toNat]?).bind fun x38 =>
 let u39 : (List T_Side.D) := y1.2.1.set (a1.2.2.1 : Int).toNat (y37, x38.2)
 some ((u33, u39, y1.2.2), a2.2.2.2.2.1, ()))
 else (
 some ((u33, y1.2), a2.2.2.2.2.1, ())))
 else (
 some ((u33, y1.2), a2.2.2.2.2.1, ())))
 else (
(impl_HasTrait a1 4).bind fun y40 =>
 bif y40 then (
(u30[(y26 : Int).toNat]?).bind fun x41 =>
 let u42 : (List T_Piece.D) := u30.set (y26 : Int).toNat (x41.1, x41.2.1, x41.2.2.1, x41.2.2.2.1, x41.2.2.2.2.1, x41.2.2.2.2.2.1, x41.2.2.2.2.2.2.1, x41.2.2.2.2.2.2.2.1, x41.2.2.2.2.2.2.2.2.1, x41.2.2.2.2.2.2.2.2.2.1, x41.2.2.2.2.2.2.2.2.2.2.1, decide (a2.2.2.2.2.1 ≥ 1), x41.2.2.2.2.2.2.2.2.2.2.2.2)
(impl_HasTrait a1 1).bind fun y43 =>
 bif y43 then (
(impl_isSide (u42, y1.2) a1.2.2.1).bind fun y44 =>
 bif y44 then (
 idx y1.2.1 a1.2.2.1 fun _ =>
(y1.2.1[(a1.2.2.1 : Int).toNat]?).bind fun x45 =>
(impl_Plus x45.1 a2.2.2.2.2.1).bind fun y46 =>
 idx y1.2.1 a1.2.2.1 fun _ =>
(y1.2.1[(a1.2.2.1 : Int).toNat]?).bind fun x47 =>
 let u48 : (List T_Side.D) := y1.2.1.set (a1.2.2.1 : Int).toNat (y46, x47.2)
 some ((u42, u48, y1.2.2), a2.2.2.2.2.1, ()))
 else (
 some ((u42, y1.2), a2.2.2.2.2.1, ())))
 else (
 some ((u42, y1.2), a2.2.2.2.2.1, ())))
 else (
(u30[(y26 : Int).toNat]?).bind fun x49 =>
 let u50 : (List T_Piece.D) := u30.set (y26 : Int).toNat (x49.1, x49.2.1, x49.2.2.1, x49.2.2.2.1, x49.2.2.2.2.1, x49.2.2.2.2.2.1, x49.2.2.2.2.2.2.1, x49.2.2.2.2.2.2.2.1, x49.2.2.2.2.2.2.2.2.1, x49.2.2.2.2.2.2.2.2.2.1, x49.2.2.2.2.2.2.2.2.2.2.1, false, x49.2.2.2.2.2.2.2.2.2.2.2.2)
(impl_HasTrait a1 1).bind fun y51 =>
 bif y51 then (
(impl_isSide (u50, y1.2) a1.2.2.1).bind fun y52 =>
 bif y52 then (
 idx y1.2.1 a1.2.2.1 fun _ =>
(y1.2.1[(a1.2.2.1 : Int).toNat]?).bind fun x53 =>
(impl_Plus x53.1 a2.2.2.2.2.1).bind fun y54 =>
 idx y1.2.1 a1.2.2.1 fun _ =>
(y1.2.1[(a1.2.2.1 : Int).toNat]?).bind fun x55 =>
 let u56 : (List T_Side.D) := y1.2.1.set (a1.2.2.1 : Int).toNat (y54, x55.2)
 some ((u50, u56, y1.2.2), a2.2.2.2.2.1, ()))
 else (
 some ((u50, y1.2), a2.2.2.2.2.1, ())))
 else (
 some ((u50, y1.2), a2.2.2.2.2.1, ())))))
 else (
(y1.1[(y26 : Int).toNat]?).bind fun x57 =>
(impl_Plus x57.2.2.2.2.2.2.2.2.2.2.1 a2.2.2.2.2.1).bind fun y58 =>
(y1.1[(y26 : Int).toNat]?).bind fun x59 =>
 let u60 : (List T_Piece.D) := y1.1.set (y26 : Int).toNat (x59.1, x59.2.1, x59.2.2.1, x59.2.2.2.1, x59.2.2.2.2.1, x59.2.2.2.2.2.1, x59.2.2.2.2.2.2.1, x59.2.2.2.2.2.2.2.1, x59.2.2.2.2.2.2.2.2.1, x59.2.2.2.2.2.2.2.2.2.1, y58, x59.2.2.2.2.2.2.2.2.2.2.2)
(u60[(y26 : Int).toNat]?).bind fun x61 =>
 bif x61.2.2.2.2.2.2.2.2.2.2.2.1 then (
(u60[(y26 : Int).toNat]?).bind fun x62 =>
 let u63 : (List T_Piece.D) := u60.set (y26 : Int).toNat (x62.1, x62.2.1, x62.2.2.1, x62.2.2.2.1, x62.2.2.2.2.1, x62.2.2.2.2.2.1, x62.2.2.2.2.2.2.1, x62.2.2.2.2.2.2.2.1, x62.2.2.2.2.2.2.2.2.1, x62.2.2.2.2.2.2.2.2.2.1, x62.2.2.2.2.2.2.2.2.2.2.1, true, x62.2.2.2.2.2.2.2.2.2.2.2.2)
(impl_HasTrait a1 1).bind fun y64 =>
 bif y64 then (
(impl_isSide (u63, y1.2) a1.2.2.1).bind fun y65 =>
 bif y65 then (
 idx y1.2.1 a1.2.2.1 fun _ =>
(y1.2.1[(a1.2.2.1 : Int).toNat]?).bind fun x66 =>
(impl_Plus x66.1 a2.2.2.2.2.1).bind fun y67 =>
 idx y1.2.1 a1.2.2.1 fun _ =>
(y1.2.1[(a1.2.2.1 : Int).toNat]?).bind fun x68 =>
 let u69 : (List T_Side.D) := y1.2.1.set (a1.2.2.1 : Int).toNat (y67, x68.2)
 some ((u63, u69, y1.2.2), a2.2.2.2.2.1, ()))
 else (
 some ((u63, y1.2), a2.2.2.2.2.1, ())))
 else (
 some ((u63, y1.2), a2.2.2.2.2.1, ())))
 else (
(impl_HasTrait a1 4).bind fun y70 =>
 bif y70 then (
(u60[(y26 : Int).toNat]?).bind fun x71 =>
 let u72 : (List T_Piece.D) := u60.set (y26 : Int).toNat (x71.1, x71.2.1, x71.2.2.1, x71.2.2.2.1, x71.2.2.2.2.1, x71.2.2.2.2.2.1, x71.2.2.2.2.2.2.1, x71.2.2.2.2.2.2.2.1, x71.2.2.2.2.2.2.2.2.1, x71.2.2.2.2.2.2.2.2.2.1, x71.2.2.2.2.2.2.2.2.2.2.1, decide (a2.2.2.2.2.1 ≥ 1), x71.2.2.2.2.2.2.2.2.2.2.2.2)
(impl_HasTrait a1 1).bind fun y73 =>
 bif y73 then (
(impl_isSide (u72, y1.2) a1.2.2.1).bind fun y74 =>
 bif y74 then (
 idx y1.2.1 a1.2.2.1 fun _ =>
(y1.2.1[(a1.2.2.1 : Int).toNat]?).bind fun x75 =>
(impl_Plus x75.1 a2.2.2.2.2.1).bind fun y76 =>
 idx y1.2.1 a1.2.2.1 fun _ =>
(y1.2.1[(a1.2.2.1 : Int).toNat]?).bind fun x77 =>
 let u78 : (List T_Side.D) := y1.2.1.set (a1.2.2.1 : Int).toNat (y76, x77.2)
 some ((u72, u78, y1.2.2), a2.2.2.2.2.1, ()))
 else (
 some ((u72, y1.2), a2.2.2.2.2.1, ())))
 else (
 some ((u72, y1.2), a2.2.2.2.2.1, ())))
 else (
(u60[(y26 : Int).toNat]?).bind fun x79 =>
 let u80 : (List T_Piece.D) := u60.set (y26 : Int).toNat (x79.1, x79.2.1, x79.2.2.1, x79.2.2.2.1, x79.2.2.2.2.1, x79.2.2.2.2.2.1, x79.2.2.2.2.2.2.1, x79.2.2.2.2.2.2.2.1, x79.2.2.2.2.2.2.2.2.1, x79.2.2.2.2.2.2.2.2.2.1, x79.2.2.2.2.2.2.2.2.2.2.1, false, x79.2.2.2.2.2.2.2.2.2.2.2.2)
(impl_HasTrait a1 1).bind fun y81 =>
 bif y81 then (
(impl_isSide (u80, y1.2) a1.2.2.1).bind fun y82 =>
 bif y82 then (
 idx y1.2.1 a1.2.2.1 fun _ =>
(y1.2.1[(a1.2.2.1 : Int).toNat]?).bind fun x83 =>
(impl_Plus x83.1 a2.2.2.2.2.1).bind fun y84 =>
 idx y1.2.1 a1.2.2.1 fun _ =>
(y1.2.1[(a1.2.2.1 : Int).toNat]?).bind fun x85 =>
 let u86 : (List T_Side.D) := y1.2.1.set (a1.2.2.1 : Int).toNat (y84, x85.2)
 some ((u80, u86, y1.2.2), a2.2.2.2.2.1, ()))
 else (
 some ((u80, y1.2), a2.2.2.2.2.1, ())))
 else (
 some ((u80, y1.2), a2.2.2.2.2.1, ()))))))))
 else (
 bif (a2.2.2.1 == 0) then (
 idx y1.2.1 a2.2.2.2.1 fun _ =>
(y1.2.1[(a2.2.2.2.1 : Int).toNat]?).bind fun x87 =>
(impl_Less x87.1 a2.2.2.2.2.1).bind fun y88 =>
 idx y1.2.1 a2.2.2.2.1 fun _ =>
(y1.2.1[(a2.2.2.2.1 : Int).toNat]?).bind fun x89 =>
 let u90 : (List T_Side.D) := y1.2.1.set (a2.2.2.2.1 : Int).toNat (y88, x89.2)
(impl_HasTrait a1 1).bind fun y91 =>
 bif y91 then (
(impl_isSide (y1.1, u90, y1.2.2) a1.2.2.1).bind fun y92 =>
 bif y92 then (
 idx u90 a1.2.2.1 fun _ =>
(u90[(a1.2.2.1 : Int).toNat]?).bind fun x93 =>
(impl_Plus x93.1 a2.2.2.2.2.1).bind fun y94 =>
 idx u90 a1.2.2.1 fun _ =>
(u90[(a1.2.2.1 : Int).toNat]?).bind fun x95 =>
 let u96 : (List T_Side.D) := u90.set (a1.2.2.1 : Int).toNat (y94, x95.2)
 some ((y1.1, u96, y1.2.2), a2.2.2.2.2.1, ()))
 else (
 some ((y1.1, u90, y1.2.2), a2.2.2.2.2.1, ())))
 else (
 some ((y1.1, u90, y1.2.2), a2.2.2.2.2.1, ())))
 else (
(impl_fieldAt y1 a2.2.2.1).bind fun y97 =>
 idx y1.1 y97 fun _ =>
 bif y5 then (
(y1.1[(y97 : Int).toNat]?).bind fun x98 =>
(impl_Plus x98.2.2.2.2.2.2.2.2.2.1 a2.2.2.2.2.1).bind fun y99 =>
(y1.1[(y97 : Int).toNat]?).bind fun x100 =>
 let u101 : (List T_Piece.D) := y1.1.set (y97 : Int).toNat (x100.1, x100.2.1, x100.2.2.1, x100.2.2.2.1, x100.2.2.2.2.1, x100.2.2.2.2.2.1, x100.2.2.2.2.2.2.1, x100.2.2.2.2.2.2.2.1, x100.2.2.2.2.2.2.2.2.1, y99, x100.2.2.2.2.2.2.2.2.2.2)
(u101[(y97 : Int).toNat]?).bind fun x102 =>
 bif x102.2.2.2.2.2.2.2.2.2.2.2.1 then (
(u101[(y97 : Int).toNat]?).bind fun x103 =>
 let u104 : (List T_Piece.D) := u101.set (y97 : Int).toNat (x103.1, x103.2.1, x103.2.2.1, x103.2.2.2.1, x103.2.2.2.2.1, x103.2.2.2.2.2.1, x103.2.2.2.2.2.2.1, x103.2.2.2.2.2.2.2.1, x103.2.2.2.2.2.2.2.2.1, x103.2.2.2.2.2.2.2.2.2.1, x103.2.2.2.2.2.2.2.2.2.2.1, true, x103.2.2.2.2.2.2.2.2.2.2.2.2)
(impl_HasTrait a1 1).bind fun y105 =>
 bif y105 then (
(impl_isSide (u104, y1.2) a1.2.2.1).bind fun y106 =>
 bif y106 then (
 idx y1.2.1 a1.2.2.1 fun _ =>
(y1.2.1[(a1.2.2.1 : Int).toNat]?).bind fun x107 =>
(impl_Plus x107.1 a2.2.2.2.2.1).bind fun y108 =>
 idx y1.2.1 a1.2.2.1 fun _ =>
(y1.2.1[(a1.2.2.1 : Int).toNat]?).bind fun x109 =>
 let u110 : (List T_Side.D) := y1.2.1.set (a1.2.2.1 : Int).toNat (y108, x109.2)
 some ((u104, u110, y1.2.2), a2.2.2.2.2.1, ()))
 else (
 some ((u104, y1.2), a2.2.2.2.2.1, ())))
 else (
 some ((u104, y1.2), a2.2.2.2.2.1, ())))
 else (
(impl_HasTrait a1 4).bind fun y111 =>
 bif y111 then (
(u101[(y97 : Int).toNat]?).bind fun x112 =>
 let u113 : (List T_Piece.D) := u101.set (y97 : Int).toNat (x112.1, x112.2.1, x112.2.2.1, x112.2.2.2.1, x112.2.2.2.2.1, x112.2.2.2.2.2.1, x112.2.2.2.2.2.2.1, x112.2.2.2.2.2.2.2.1, x112.2.2.2.2.2.2.2.2.1, x112.2.2.2.2.2.2.2.2.2.1, x112.2.2.2.2.2.2.2.2.2.2.1, decide (a2.2.2.2.2.1 ≥ 1), x112.2.2.2.2.2.2.2.2.2.2.2.2)
(impl_HasTrait a1 1).bind fun y114 =>
 bif y114 then (
(impl_isSide (u113, y1.2) a1.2.2.1).bind fun y115 =>
 bif y115 then (
 idx y1.2.1 a1.2.2.1 fun _ =>
(y1.2.1[(a1.2.2.1 : Int).toNat]?).bind fun x116 =>
(impl_Plus x116.1 a2.2.2.2.2.1).bind fun y117 =>
 idx y1.2.1 a1.2.2.1 fun _ =>
(y1.2.1[(a1.2.2.1 : Int).toNat]?).bind fun x118 =>
 let u119 : (List T_Side.D) := y1.2.1.set (a1.2.2.1 : Int).toNat (y117, x118.2)
 some ((u113, u119, y1.2.2), a2.2.2.2.2.1, ()))
 else (
 some ((u113, y1.2), a2.2.2.2.2.1, ())))
 else (
 some ((u113, y1.2), a2.2.2.2.2.1, ())))
 else (
(u101[(y97 : Int).toNat]?).bind fun x120 =>
 let u121 : (List T_Piece.D) := u101.set (y97 : Int).toNat (x120.1, x120.2.1, x120.2.2.1, x120.2.2.2.1, x120.2.2.2.2.1, x120.2.2.2.2.2.1, x120.2.2.2.2.2.2.1, x120.2.2.2.2.2.2.2.1, x120.2.2.2.2.2.2.2.2.1, x120.2.2.2.2.2.2.2.2.2.1, x120.2.2.2.2.2.2.2.2.2.2.1, false, x120.2.2.2.2.2.2.2.2.2.2.2.2)
(impl_HasTrait a1 1).bind fun y122 =>
 bif y122 then (
(impl_isSide (u121, y1.2) a1.2.2.1).bind fun y123 =>
 bif y123 then (
 idx y1.2.1 a1.2.2.1 fun _ =>
(y1.2.1[(a1.2.2.1 : Int).toNat]?).bind fun x124 =>
(impl_Plus x124.1 a2.2.2.2.2.1).bind fun y125 =>
 idx y1.2.1 a1.2.2.1 fun _ =>
(y1.2.1[(a1.2.2.1 : Int).toNat]?).bind fun x126 =>
 let u127 : (List T_Side.D) := y1.2.1.set (a1.2.2.1 : Int).toNat (y125, x126.2)
 some ((u121, u127, y1.2.2), a2.2.2.2.2.1, ()))
 else (
 some ((u121, y1.2), a2.2.2.2.2.1, ())))
 else (
 some ((u121, y1.2), a2.2.2.2.2.1, ())))))
 else (
(y1.1[(y97 : Int).toNat]?).bind fun x128 =>
(impl_Plus x128.2.2.2.2.2.2.2.2.2.2.1 a2.2.2.2.2.1).bind fun y129 =>
(y1.1[(y97 : Int).toNat]?).bind fun x130 =>
 let u131 : (List T_Piece.D) := y1.1.set (y97 : Int).toNat (x130.1, x130.2.1, x130.2.2.1, x130.2.2.2.1, x130.2.2.2.2.1, x130.2.2.2.2.2.1, x130.2.2.2.2.2.2.1, x130.2.2.2.2.2.2.2.1, x130.2.2.2.2.2.2.2.2.1, x130.2.2.2.2.2.2.2.2.2.1, y129, x130.2.2.2.2.2.2.2.2.2.2.2)
(u131[(y97 : Int).toNat]?).bind fun x132 =>
 bif x132.2.2.2.2.2.2.2.2.2.2.2.1 then (
(u131[(y97 : Int).toNat]?).bind fun x133 =>
 let u134 : (List T_Piece.D) := u131.set (y97 : Int).toNat (x133.1, x133.2.1, x133.2.2.1, x133.2.2.2.1, x133.2.2.2.2.1, x133.2.2.2.2.2.1, x133.2.2.2.2.2.2.1, x133.2.2.2.2.2.2.2.1, x133.2.2.2.2.2.2.2.2.1, x133.2.2.2.2.2.2.2.2.2.1, x133.2.2.2.2.2.2.2.2.2.2.1, true, x133.2.2.2.2.2.2.2.2.2.2.2.2)
(impl_HasTrait a1 1).bind fun y135 =>
 bif y135 then (
(impl_isSide (u134, y1.2) a1.2.2.1).bind fun y136 =>
 bif y136 then (
 idx y1.2.1 a1.2.2.1 fun _ =>
(y1.2.1[(a1.2.2.1 : Int).toNat]?).bind fun x137 =>
(impl_Plus x137.1 a2.2.2.2.2.1).bind fun y138 =>
 idx y1.2.1 a1.2.2.1 fun _ =>
(y1.2.1[(a1.2.2.1 : Int).toNat]?).bind fun x139 =>
 let u140 : (List T_Side.D) := y1.2.1.set (a1.2.2.1 : Int).toNat (y138, x139.2)
 some ((u134, u140, y1.2.2), a2.2.2.2.2.1, ()))
 else (
 some ((u134, y1.2), a2.2.2.2.2.1, ())))
 else (
 some ((u134, y1.2), a2.2.2.2.2.1, ())))
 else (
(impl_HasTrait a1 4).bind fun y141 =>
 bif y141 then (
(u131[(y97 : Int).toNat]?).bind fun x142 =>
 let u143 : (List T_Piece.D) := u131.set (y97 : Int).toNat (x142.1, x142.2.1, x142.2.2.1, x142.2.2.2.1, x142.2.2.2.2.1, x142.2.2.2.2.2.1, x142.2.2.2.2.2.2.1, x142.2.2.2.2.2.2.2.1, x142.2.2.2.2.2.2.2.2.1, x142.2.2.2.2.2.2.2.2.2.1, x142.2.2.2.2.2.2.2.2.2.2.1, decide (a2.2.2.2.2.1 ≥ 1), x142.2.2.2.2.2.2.2.2.2.2.2.2)
(impl_HasTrait a1 1).bind fun y144 =>
 bif y144 then (
(impl_isSide (u143, y1.2) a1.2.2.1).bind fun y145 =>
 bif y145 then (
 idx y1.2.1 a1.2.2.1 fun _ =>
(y1.2.1[(a1.2.2.1 : Int).toNat]?).bind fun x146 =>
(impl_Plus x146.1 a2.2.2.2.2.1).bind fun y147 =>
 idx y1.2.1 a1.2.2.1 fun _ =>
(y1.2.1[(a1.2.2.1 : Int).toNat]?).bind fun x148 =>
 let u149 : (List T_Side.D) := y1.2.1.set (a1.2.2.1 : Int).toNat (y147, x148.2)
 some ((u143, u149, y1.2.2), a2.2.2.2.2.1, ()))
 else (
 some ((u143, y1.2), a2.2.2.2.2.1, ())))
 else (
 some ((u143, y1.2), a2.2.2.2.2.1, ())))
 else (
(u131[(y97 : Int).toNat]?).bind fun x150 =>
 let u151 : (List T_Piece.D) := u131.set (y97 : Int).toNat (x150.1, x150.2.1, x150.2.2.1, x150.2.2.2.1, x150.2.2.2.2.1, x150.2.2.2.2.2.1, x150.2.2.2.2.2.2.1, x150.2.2.2.2.2.2.2.1, x150.2.2.2.2.2.2.2.2.1, x150.2.2.2.2.2.2.2.2.2.1, x150.2.2.2.2.2.2.2.2.2.2.1, false, x150.2.2.2.2.2.2.2.2.2.2.2.2)
(impl_HasTrait a1 1).bind fun y152 =>
 bif y152 then (
(impl_isSide (u151, y1.2) a1.2.2.1).bind fun y153 =>
 bif y153 then (
 idx y1.2.1 a1.2.2.1 fun _ =>
(y1.2.1[(a1.2.2.1 : Int).toNat]?).bind fun x154 =>
(impl_Plus x154.1 a2.2.2.2.2.1).bind fun y155 =>
 idx y1.2.1 a1.2.2.1 fun _ =>
(y1.2.1[(a1.2.2.1 : Int).toNat]?).bind fun x156 =>
 let u157 : (List T_Side.D) := y1.2.1.set (a1.2.2.1 : Int).toNat (y155, x156.2)
 some ((u151, u157, y1.2.2), a2.2.2.2.2.1, ()))
 else (
 some ((u151, y1.2), a2.2.2.2.2.1, ())))
 else (
 some ((u151, y1.2), a2.2.2.2.2.1, ())))))))))))
def impl_Strike_c : Ct := .pure false false (.pair T_State (.pair T_Piece (.pair T_Event .unit))) (.pair T_State (.pair (.int .i64) .unit)) (fun x => impl_Strike x.1 x.2.1 x.2.2.1)
theorem impl_Strike_ct : CtOk Try.prog 253 impl_Strike_c := pure_ct (E := { T := tab, G := [(20, impl_HasTrait_c), (67, impl_StateOk_c), (75, impl_EventOk_c), (136, impl_isSide_c), (156, impl_copyState_fresh_c), (185, impl_fieldAt_c), (263, impl_Less_c), (264, impl_Plus_c), (298, impl_reaches_c)] }) (EnvOk.cons impl_HasTrait_ct (EnvOk.cons impl_StateOk_ct (EnvOk.cons impl_EventOk_ct (EnvOk.cons impl_isSide_ct (EnvOk.cons impl_copyState_fresh_ct (EnvOk.cons impl_fieldAt_ct (EnvOk.cons impl_Less_ct (EnvOk.cons impl_Plus_ct (EnvOk.cons impl_reaches_ct (EnvOk.nil tabOk)))))))))) mixed (fn := Try.f253) _ _ _ _ _ .none Try.func253 (by kernel_rfl) (fun x => by kernel_rfl)
def impl_Strike_fresh_c : Ct := .pure false true (.pair T_State (.pair T_Piece (.pair T_Event .unit))) (.pair T_State (.pair (.int .i64) .unit)) (fun x => impl_Strike x.1 x.2.1 x.2.2.1)
theorem impl_Strike_fresh_ct : CtOk Try.prog 253 impl_Strike_fresh_c := pure_ct (E := { T := tab, G := [(20, impl_HasTrait_c), (67, impl_StateOk_c), (75, impl_EventOk_c), (136, impl_isSide_c), (156, impl_copyState_fresh_c), (185, impl_fieldAt_c), (263, impl_Less_c), (264, impl_Plus_c), (298, impl_reaches_c)] }) (EnvOk.cons impl_HasTrait_ct (EnvOk.cons impl_StateOk_ct (EnvOk.cons impl_EventOk_ct (EnvOk.cons impl_isSide_ct (EnvOk.cons impl_copyState_fresh_ct (EnvOk.cons impl_fieldAt_ct (EnvOk.cons impl_Less_ct (EnvOk.cons impl_Plus_ct (EnvOk.cons impl_reaches_ct (EnvOk.nil tabOk)))))))))) mixed (fn := Try.f253) _ _ _ _ _ .none Try.func253 (by kernel_rfl) (fun x => by kernel_rfl)
/-! loop.example/g00486/impl.Moved -/
def impl_Moved (a0 : T_Piece.D) (a1 : Int) (a2 : Int) : Option T_Piece.D :=
 some (a0.1, a0.2.1, a0.2.1, a1, a2, a0.2.2.2.2.2.1, a0.2.2.2.2.2.2.1, a0.2.2.2.2.2.2.2.1, 0, 0, 0, false, false, ())
def impl_Moved_c : Ct := .pure true false (.pair T_Piece (.pair (.int .i64) (.pair (.int .i64) .unit))) T_Piece (fun x => impl_Moved x.1 x.2.1 x.2.2.1)
theorem impl_Moved_ct : CtOk Try.prog 261 impl_Moved_c := pure_ct (E := { T := tab, G := [] }) (EnvOk.nil tabOk) mixed (fn := Try.f261) _ _ _ _ _ .none Try.func261 (by kernel_rfl) (fun x => by kernel_rfl)
/-! loop.example/g00486/impl.Carry -/
def impl_Carry (a0 : T_State.D) (a1 : T_Event.D) : Option (T_State.D × (Bool × Unit)) :=
(impl_copyState a0).bind fun y1 =>
(impl_PieceAt y1 a1.2.2.1).bind fun y2 =>
(((impl_StateOk y1).bind fun y3 =>
 bif (!y3) then (
 some true)
 else (
(impl_EventOk a1).bind fun y4 =>
 bif (!y4) then (
 some true)
 else (
 bif (a1.1 != 2) then (
 some true)
 else (
 bif decide (y2 < 0) then (
 some true)
 else (
 idx y1.1 y2 fun _ =>
(y1.1[(y2 : Int).toNat]?).bind fun x5 =>
 some (x5.2.2.2.1 == a1.2.2.2.2.2.1)))))) : Option Bool).bind fun o6 =>
 bif o6 then (
 some (y1, false, ()))
 else (
 idx y1.1 y2 fun _ =>
(y1.1[(y2 : Int).toNat]?).bind fun x7 =>
(impl_Moved x7 a1.2.2.2.2.2.1 y1.2.2.2.1).bind fun y8 =>
((bif (a1.2.2.2.2.2.1 == 2) then (
 some (y8.1, y8.2.1, y8.2.2.1, y8.2.2.2.1, y8.2.2.2.2.1, y8.2.2.2.2.2.1, y8.2.2.2.2.2.2.1, y8.2.2.2.2.2.2.2.1, a1.2.2.2.2.1, y8.2.2.2.2.2.2.2.2.2.1, y8.2.2.2.2.2.2.2.2.2.2.1, y8.2.2.2.2.2.2.2.2.2.2.2.1, a1.2.2.2.2.2.2))
 else (
 some y8)) : Option T_Piece.D).bind fun o9 =>
 idx y1.1 y2 fun _ =>
(y1.1[(y2 : Int).toNat]?).bind fun x10 =>
 let u11 : (List T_Piece.D) := y1.1.set (y2 : Int).toNat o9
 some ((u11, y1.2), true, ()))
def impl_Carry_h : Hints := (.node none none .none (.node none none .none (.node none none .none (.node none none (.node none none (.node (some ⟨[.tmp 41 .bool], [none], none, []⟩) none .none .none) .none) (.node none none .none (.node none none (.node none none .none (.node (some ⟨[.box 7 0 T_Piece], [none], none, [(7, 0)]⟩) none .none .none)) .none))))))
def impl_Carry_c : Ct := .pure false false (.pair T_State (.pair T_Event .unit)) (.pair T_State (.pair .bool .unit)) (fun x => impl_Carry x.1 x.2.1)
theorem impl_Carry_ct : CtOk Try.prog 254 impl_Carry_c := pure_ct (E := { T := tab, G := [(67, impl_StateOk_c), (73, impl_PieceAt_c), (75, impl_EventOk_c), (156, impl_copyState_fresh_c), (261, impl_Moved_c)] }) (EnvOk.cons impl_StateOk_ct (EnvOk.cons impl_PieceAt_ct (EnvOk.cons impl_EventOk_ct (EnvOk.cons impl_copyState_fresh_ct (EnvOk.cons impl_Moved_ct (EnvOk.nil tabOk)))))) mixed (fn := Try.f254) _ _ _ _ _ impl_Carry_h Try.func254 (by kernel_rfl) (fun x => by kernel_rfl)
def impl_Carry_fresh_c : Ct := .pure false true (.pair T_State (.pair T_Event .unit)) (.pair T_State (.pair .bool .unit)) (fun x => impl_Carry x.1 x.2.1)
theorem impl_Carry_fresh_ct : CtOk Try.prog 254 impl_Carry_fresh_c := pure_ct (E := { T := tab, G := [(67, impl_StateOk_c), (73, impl_PieceAt_c), (75, impl_EventOk_c), (156, impl_copyState_fresh_c), (261, impl_Moved_c)] }) (EnvOk.cons impl_StateOk_ct (EnvOk.cons impl_PieceAt_ct (EnvOk.cons impl_EventOk_ct (EnvOk.cons impl_copyState_fresh_ct (EnvOk.cons impl_Moved_ct (EnvOk.nil tabOk)))))) mixed (fn := Try.f254) _ _ _ _ _ impl_Carry_h Try.func254 (by kernel_rfl) (fun x => by kernel_rfl)
/-! loop.example/g00486/impl.Bear -/
def impl_Bear (a0 : T_State.D) (a1 : T_Event.D) : Option (T_State.D × (Bool × Unit)) :=
(impl_copyState a0).bind fun y1 =>
(((impl_StateOk y1).bind fun y2 =>
 bif (!y2) then (
 some true)
 else (
(impl_EventOk a1).bind fun y3 =>
 bif (!y3) then (
 some true)
 else (
 bif (a1.1 == 1) then (
 some true)
 else (
 bif (a1.1 == 2) then (
 some true)
 else (
(impl_reaches y1 a1).bind fun y4 =>
 some (!y4)))))) : Option Bool).bind fun o5 =>
 bif o5 then (
 some (y1, false, ()))
 else (
((bif (a1.1 == 3) then (
 idx y1.2.1 a1.2.2.2.1 fun _ =>
(y1.2.1[(a1.2.2.2.1 : Int).toNat]?).bind fun x6 =>
(impl_Plus x6.1 a1.2.2.2.2.1).bind fun y7 =>
 idx y1.2.1 a1.2.2.2.1 fun _ =>
(y1.2.1[(a1.2.2.2.1 : Int).toNat]?).bind fun x8 =>
 let u9 : (List T_Side.D) := y1.2.1.set (a1.2.2.2.1 : Int).toNat (y7, x8.2)
 some (y1.1, u9, y1.2.2))
 else (
((bif (a1.1 == 4) then (
 idx y1.2.1 a1.2.2.2.1 fun _ =>
(y1.2.1[(a1.2.2.2.1 : Int).toNat]?).bind fun x10 =>
(impl_Less x10.1 a1.2.2.2.2.1).bind fun y11 =>
 idx y1.2.1 a1.2.2.2.1 fun _ =>
(y1.2.1[(a1.2.2.2.1 : Int).toNat]?).bind fun x12 =>
 let u13 : (List T_Side.D) := y1.2.1.set (a1.2.2.2.1 : Int).toNat (y11, x12.2)
 some (y1.1, u13, y1.2.2))
 else (
((bif (a1.1 == 5) then (
(impl_fieldAt y1 a1.2.2.1).bind fun y14 =>
 idx y1.1 y14 fun _ =>
(y1.1[(y14 : Int).toNat]?).bind fun x15 =>
(impl_Plus x15.2.2.2.2.2.2.2.2.1 a1.2.2.2.2.1).bind fun y16 =>
(y1.1[(y14 : Int).toNat]?).bind fun x17 =>
 let u18 : (List T_Piece.D) := y1.1.set (y14 : Int).toNat (x17.1, x17.2.1, x17.2.2.1, x17.2.2.2.1, x17.2.2.2.2.1, x17.2.2.2.2.2.1, x17.2.2.2.2.2.2.1, x17.2.2.2.2.2.2.2.1, y16, x17.2.2.2.2.2.2.2.2.2)
 some (u18, y1.2))
 else (
((bif (a1.1 == 6) then (
(impl_fieldAt y1 a1.2.2.1).bind fun y19 =>
 idx y1.1 y19 fun _ =>
(y1.1[(y19 : Int).toNat]?).bind fun x20 =>
(impl_Plus x20.2.2.2.2.2.2.2.2.2.1 a1.2.2.2.2.1).bind fun y21 =>
(y1.1[(y19 : Int).toNat]?).bind fun x22 =>
 let u23 : (List T_Piece.D) := y1.1.set (y19 : Int).toNat (x22.1, x22.2.1, x22.2.2.1, x22.2.2.2.1, x22.2.2.2.2.1, x22.2.2.2.2.2.1, x22.2.2.2.2.2.2.1, x22.2.2.2.2.2.2.2.1, x22.2.2.2.2.2.2.2.2.1, y21, x22.2.2.2.2.2.2.2.2.2.2)
 some (u23, y1.2))
 else (
 some y1)) : Option T_State.D).bind fun o24 =>
 some o24)) : Option T_State.D).bind fun o25 =>
 some o25)) : Option T_State.D).bind fun o26 =>
 some o26)) : Option T_State.D).bind fun o27 =>
 some (o27, true, ()))
def impl_Bear_h : Hints := (.node none none .none (.node none none .none (.node none none (.node none none (.node (some ⟨[.tmp 33 .bool], [none], none, []⟩) none .none .none) .none) (.node none none (.node none none .none (.node none none (.node none none .none (.node (some ⟨[.boxO 2 0 1 T_State], [none], none, [(9, 1), (2, 0), (9, 0)]⟩) none .none (.node none none .none (.node (some ⟨[.boxO 2 0 1 T_State], [none], none, [(9, 1), (2, 0), (9, 0)]⟩) none .none (.node none none .none (.node (some ⟨[.boxO 2 0 1 T_State], [none], none, [(9, 0), (2, 0), (9, 1)]⟩) none .none (.node none none .none (.node (some ⟨[.boxO 2 0 1 T_State], [none], none, [(9, 0), (2, 0), (9, 1)]⟩) none .none .none)))))))) .none)) .none))))
def impl_Bear_c : Ct := .pure false false (.pair T_State (.pair T_Event .unit)) (.pair T_State (.pair .bool .unit)) (fun x => impl_Bear x.1 x.2.1)
theorem impl_Bear_ct : CtOk Try.prog 255 impl_Bear_c := pure_ct (E := { T := tab, G := [(67, impl_StateOk_c), (75, impl_EventOk_c), (156, impl_copyState_fresh_c), (185, impl_fieldAt_c), (263, impl_Less_c), (264, impl_Plus_c), (298, impl_reaches_c)] }) (EnvOk.cons impl_StateOk_ct (EnvOk.cons impl_EventOk_ct (EnvOk.cons impl_copyState_fresh_ct (EnvOk.cons impl_fieldAt_ct (EnvOk.cons impl_Less_ct (EnvOk.cons impl_Plus_ct (EnvOk.cons impl_reaches_ct (EnvOk.nil tabOk)))))))) mixed (fn := Try.f255) _ _ _ _ _ impl_Bear_h Try.func255 (by kernel_rfl) (fun x => by kernel_rfl)
def impl_Bear_fresh_c : Ct := .pure false true (.pair T_State (.pair T_Event .unit)) (.pair T_State (.pair .bool .unit)) (fun x => impl_Bear x.1 x.2.1)
theorem impl_Bear_fresh_ct : CtOk Try.prog 255 impl_Bear_fresh_c := pure_ct (E := { T := tab, G := [(67, impl_StateOk_c), (75, impl_EventOk_c), (156, impl_copyState_fresh_c), (185, impl_fieldAt_c), (263, impl_Less_c), (264, impl_Plus_c), (298, impl_reaches_c)] }) (EnvOk.cons impl_StateOk_ct (EnvOk.cons impl_EventOk_ct (EnvOk.cons impl_copyState_fresh_ct (EnvOk.cons impl_fieldAt_ct (EnvOk.cons impl_Less_ct (EnvOk.cons impl_Plus_ct (EnvOk.cons impl_reaches_ct (EnvOk.nil tabOk)))))))) mixed (fn := Try.f255) _ _ _ _ _ impl_Bear_h Try.func255 (by kernel_rfl) (fun x => by kernel_rfl)
/-! loop.example/g00486/impl.performed -/
def impl_performed (a0 : T_State.D) (a1 : T_State.D) (a2 : T_Event.D) : Option ((T_State.D × (T_Note.D × Unit)) × Unit) :=
((bif (a2.1 == 1) then (
(impl_Source a1 a2).bind fun y1 =>
(impl_Strike a0 y1 a2).bind fun y2 =>
 bif decide (y2.2.1 ≥ 1) then (
 some (.inr ((y2.1, 1, a2, y2.2.1, 0, (0, 0, 0, 0, 0, 0, 0, 0, 0, 0, 0, false, false, ()), ()))))
 else (
 some (.inl (([], [], 0, 0, ()), (0, (0, 0, 0, 0, 0, 0, false, ()), 0, 0, (0, 0, 0, 0, 0, 0, 0, 0, 0, 0, 0, false, false, ()), ()), y2.1))))
 else (
((bif (a2.1 == 2) then (
(impl_Carry a0 a2).bind fun y3 =>
 bif y3.2.1 then (
(impl_PieceAt a1 a2.2.2.1).bind fun y4 =>
 idx a1.1 y4 fun x5 =>
 some (.inr ((y3.1, 3, a2, 0, 0, x5, ()))))
 else (
 some (.inl (([], [], 0, 0, ()), 0, (0, 0, 0, 0, 0, 0, false, ()), 0, 0, (0, 0, 0, 0, 0, 0, 0, 0, 0, 0, 0, false, false, ()), ()))))
 else (
(impl_Bear a0 a2).bind fun y6 =>
 bif y6.2.1 then (
 some (.inr ((y6.1, 2, a2, 0, 0, (0, 0, 0, 0, 0, 0, 0, 0, 0, 0, 0, false, false, ()), ()))))
 else (
 some (.inl (([], [], 0, 0, ()), 0, (0, 0, 0, 0, 0, 0, false, ()), 0, 0, (0, 0, 0, 0, 0, 0, 0, 0, 0, 0, 0, false, false, ()), ()))))) : Option ((T_State.D × (Int × (T_Event.D × (Int × (Int × (T_Piece.D × Unit)))))) ⊕ (T_State.D × (Int × (T_Event.D × (Int × (Int × (T_Piece.D × Unit)))))))).bind fun o7 =>
 match o7 with
| .inl s8 => (
 some (.inl (s8.1, s8.2, a0)))
| .inr o9 => (
 some (.inr o9)))) : Option ((T_State.D × (T_Note.D × ((List T_Piece.D) × ((List T_Side.D) × (Int × (Int × Unit)))))) ⊕ (T_State.D × (Int × (T_Event.D × (Int × (Int × (T_Piece.D × Unit)))))))).bind fun o10 =>
 match o10 with
| .inl s11 => (
 some ((s11.2.2, (4, a2, 0, 0, (0, 0, 0, 0, 0, 0, 0, 0, 0, 0, 0, false, false, ()), ()), ()), ()))
| .inr o12 => (
 some ((o12.1, o12.2, ()), ()))
def impl_performed_h : Hints := (.node none none .none (.node none none (.node none none .none (.node none none (.node none none .none (.node (some ⟨[.boxO 6 0 1 T_State, .box 7 0 T_Note, .boxO 3 0 1 T_State], [none], some [.boxO 6 0 1 T_State, .box 7 0 T_Note], [(6, 0), (7, 0), (3, 0), (0, 0), (0, 1)]⟩) none .none (.node none none .none (.node (some ⟨[.boxO 6 0 1 T_State, .box 7 0 T_Note], [none], some [.boxO 6 0 1 T_State, .box 7 0 T_Note], [(6, 0), (7, 0)]⟩) none .none .none)))) .none)) .none))
def impl_performed_fresh_c : Ct := .mut [.tk, .rd, .rd] false true (.pair T_State (.pair T_State (.pair T_Event .unit))) (.pair T_State (.pair T_Note .unit)) (fun x => impl_performed x.1 x.2.1 x.2.2.1)
theorem impl_performed_fresh_ct : CtOk Try.prog 161 impl_performed_fresh_c := mut_ct (E := { T := tab, G := [(73, impl_PieceAt_c), (120, impl_Source_c), (253, impl_Strike_fresh_c), (254, impl_Carry_fresh_c), (255, impl_Bear_fresh_c)] }) (EnvOk.cons impl_PieceAt_ct (EnvOk.cons impl_Source_ct (EnvOk.cons impl_Strike_fresh_ct (EnvOk.cons impl_Carry_fresh_ct (EnvOk.cons impl_Bear_fresh_ct (EnvOk.nil tabOk)))))) mixed (fn := Try.f161) _ _ _ _ _ _ impl_performed_h Try.func161 (by kernel_rfl) (fun x => by kernel_rfl)
/-! loop.example/g00486/impl.Commit -/
def impl_Commit_l1 (a0 : T_State.D) (y4 : ((List T_Event.D) × Unit)) (y6 : ((List T_Event.D) × Unit)) : ((List T_Note.D) × (Int × ((List T_Piece.D) × ((List T_Side.D) × (Int × (Int × Unit)))))) → Option (((List T_Note.D) × (Int × ((List T_Piece.D) × ((List T_Side.D) × (Int × (Int × Unit)))))) ⊕ ((List T_Note.D) × (Int × ((List T_Piece.D) × ((List T_Side.D) × (Int × (Int × Unit))))))) := fun s8 =>
 bif decide (s8.2.1 < ((y4.1 ++ y6.1).length : Int)) then (
 idx (y4.1 ++ y6.1) s8.2.1 fun _ =>
((y4.1 ++ y6.1)[(s8.2.1 : Int).toNat]?).bind fun x9 =>
(impl_performed s8.2.2 a0 x9).bind fun y10 =>
 if (s8.1.length + [y10.1.2.1].length) * (24 * 23) ≤ room then (
 some (.inl ((s8.1 ++ [y10.1.2.1]), IntKind.wrap .i64 (s8.2.1 + 1), y10.1.1))) else none)
 else (
 some (.inr s8))
def impl_Commit (a0 : T_State.D) (a1 : (List T_Event.D)) : Option (T_State.D × ((List T_Note.D) × Unit)) :=
(impl_copyState a0).bind fun y1 =>
(impl_StateOk a0).bind fun y2 =>
 bif (!y2) then (
 some (y1, [], ()))
 else (
(slices_Clone_impl_Event a1).bind fun y3 =>
(slices_DeleteFunc_impl_Event y3 (fun q => impl_Commit_1 q.1)).bind fun y4 =>
(slices_Clone_impl_Event a1).bind fun y5 =>
(slices_DeleteFunc_impl_Event y5 (fun q => impl_Commit_2 (fun q => impl_Commit_1 q.1) q.1)).bind fun y6 =>
 if (y4.1.length + y6.1.length) * (24 * 7) ≤ room then (
(while_ (impl_Commit_l1 a0 y4 y6) ([], 0, y1)).bind fun o11 =>
 some (o11.2.2, o11.1, ())) else none)
def impl_Commit_h : Hints := (.node none none .none (.node none none .none (.node none none .none (.node none none .none (.node none none .none (.node none none .none (.node none none .none (.node none none (.node none none .none (.node none none (.node none (some ⟨[.tmpO 7 0 (.slice T_Note), .tmp 35 (.int .i64), .boxO 6 0 1 T_State], [some 0], none, []⟩) .none .none) .none)) .none))))))))
def impl_Commit_c : Ct := .pure false false (.pair T_State (.pair (.slice T_Event) .unit)) (.pair T_State (.pair (.slice T_Note) .unit)) (fun x => impl_Commit x.1 x.2.1)
theorem impl_Commit_ct : CtOk Try.prog 49 impl_Commit_c := pure_ct (E := { T := tab, G := [(67, impl_StateOk_c), (156, impl_copyState_fresh_c), (157, impl_Commit_1_c), (158, slices_DeleteFunc_impl_Event_fresh_c), (159, slices_Clone_impl_Event_fresh_c), (160, impl_Commit_2_c), (161, impl_performed_fresh_c)] }) (EnvOk.cons impl_StateOk_ct (EnvOk.cons impl_copyState_fresh_ct (EnvOk.cons impl_Commit_1_ct (EnvOk.cons slices_DeleteFunc_impl_Event_fresh_ct (EnvOk.cons slices_Clone_impl_Event_fresh_ct (EnvOk.cons impl_Commit_2_ct (EnvOk.cons impl_performed_fresh_ct (EnvOk.nil tabOk)))))))) mixed (fn := Try.f49) _ _ _ _ _ impl_Commit_h Try.func49 (by kernel_rfl) (fun x => by kernel_rfl)
def impl_Commit_fresh_c : Ct := .pure false true (.pair T_State (.pair (.slice T_Event) .unit)) (.pair T_State (.pair (.slice T_Note) .unit)) (fun x => impl_Commit x.1 x.2.1)
theorem impl_Commit_fresh_ct : CtOk Try.prog 49 impl_Commit_fresh_c := pure_ct (E := { T := tab, G := [(67, impl_StateOk_c), (156, impl_copyState_fresh_c), (157, impl_Commit_1_c), (158, slices_DeleteFunc_impl_Event_fresh_c), (159, slices_Clone_impl_Event_fresh_c), (160, impl_Commit_2_c), (161, impl_performed_fresh_c)] }) (EnvOk.cons impl_StateOk_ct (EnvOk.cons impl_copyState_fresh_ct (EnvOk.cons impl_Commit_1_ct (EnvOk.cons slices_DeleteFunc_impl_Event_fresh_ct (EnvOk.cons slices_Clone_impl_Event_fresh_ct (EnvOk.cons impl_Commit_2_ct (EnvOk.cons impl_performed_fresh_ct (EnvOk.nil tabOk)))))))) mixed (fn := Try.f49) _ _ _ _ _ impl_Commit_h Try.func49 (by kernel_rfl) (fun x => by kernel_rfl)
/-! loop.example/g00486/laws.eqPiece -/
def laws_eqPiece (a0 : T_Piece.D) (a1 : T_Piece.D) : Option Bool :=
 bif (a0.1 != a1.1) then (
 some false)
 else (
 bif (a0.2.1 != a1.2.1) then (
 some false)
 else (
 bif (a0.2.2.1 != a1.2.2.1) then (
 some false)
 else (
 bif (a0.2.2.2.1 != a1.2.2.2.1) then (
 some false)
 else (
 bif (a0.2.2.2.2.1 != a1.2.2.2.2.1) then (
 some false)
 else (
 bif (a0.2.2.2.2.2.1 != a1.2.2.2.2.2.1) then (
 some false)
 else (
 bif (a0.2.2.2.2.2.2.1 != a1.2.2.2.2.2.2.1) then (
 some false)
 else (
 bif (a0.2.2.2.2.2.2.2.1 != a1.2.2.2.2.2.2.2.1) then (
 some false)
 else (
 bif (a0.2.2.2.2.2.2.2.2.1 != a1.2.2.2.2.2.2.2.2.1) then (
 some false)
 else (
 bif (a0.2.2.2.2.2.2.2.2.2.1 != a1.2.2.2.2.2.2.2.2.2.1) then (
 some false)
 else (
 bif (a0.2.2.2.2.2.2.2.2.2.2.1 != a1.2.2.2.2.2.2.2.2.2.2.1) then (
 some false)
 else (
 bif (a0.2.2.2.2.2.2.2.2.2.2.2.1 != a1.2.2.2.2.2.2.2.2.2.2.2.1) then (
 some false)
 else (
 bif (a0.2.2.2.2.2.2.2.2.2.2.2.2.1 != a1.2.2.2.2.2.2.2.2.2.2.2.2.1) then (
 some false)
 else (
 some true)))))))))))))
def laws_eqPiece_c : Ct := .pure true false (.pair T_Piece (.pair T_Piece .unit)) .bool (fun x => laws_eqPiece x.1 x.2.1)
theorem laws_eqPiece_ct : CtOk Try.prog 243 laws_eqPiece_c := pure_ct (E := { T := tab, G := [] }) (EnvOk.nil tabOk) mixed (fn := Try.f243) _ _ _ _ _ .none Try.func243 (by kernel_rfl) (fun x => by kernel_rfl)
/-! loop.example/g00486/laws.eqPieceS -/
def laws_eqPieceS_l1 (a0 : (List T_Piece.D)) (a1 : (List T_Piece.D)) : Int → Option (Int ⊕ (Int ⊕ Bool)) := fun s1 =>
 bif decide (s1 < (a0.length : Int)) then (
 idx a0 s1 fun x2 =>
 idx a1 s1 fun x3 =>
(laws_eqPiece x2 x3).bind fun y4 =>
 bif (!y4) then (
 some (.inr (.inr false)))
 else (
 some (.inl (IntKind.wrap .i64 (s1 + 1)))))
 else (
 some (.inr (.inl s1)))
def laws_eqPieceS (a0 : (List T_Piece.D)) (a1 : (List T_Piece.D)) : Option Bool :=
 bif ((a0.length : Int) != (a1.length : Int)) then (
 some false)
 else (
(while_ (laws_eqPieceS_l1 a0 a1) 0).bind fun o5 =>
 match o5 with
| .inl s6 => (
 some true)
| .inr o7 => (
 some o7))
def laws_eqPieceS_h : Hints := (.node none none .none (.node none none .none (.node none none (.node none none .none (.node none none (.node none (some ⟨[.tmp 5 (.int .i64)], [some 0], some [.tmp 4 .bool], []⟩) .none .none) .none)) .none)))
def laws_eqPieceS_c : Ct := .pure true false (.pair (.slice T_Piece) (.pair (.slice T_Piece) .unit)) .bool (fun x => laws_eqPieceS x.1 x.2.1)
theorem laws_eqPieceS_ct : CtOk Try.prog 146 laws_eqPieceS_c := pure_ct (E := { T := tab, G := [(243, laws_eqPiece_c)] }) (EnvOk.cons laws_eqPiece_ct (EnvOk.nil tabOk)) mixed (fn := Try.f146) _ _ _ _ _ laws_eqPieceS_h Try.func146 (by kernel_rfl) (fun x => by kernel_rfl)
/-! loop.example/g00486/laws.eqSide -/
def laws_eqSide (a0 : T_Side.D) (a1 : T_Side.D) : Option Bool :=
 bif (a0.1 != a1.1) then (
 some false)
 else (
 bif (a0.2.1 != a1.2.1) then (
 some false)
 else (
 bif (a0.2.2.1 != a1.2.2.1) then (
 some false)
 else (
 some true)))
def laws_eqSide_c : Ct := .pure true false (.pair T_Side (.pair T_Side .unit)) .bool (fun x => laws_eqSide x.1 x.2.1)
theorem laws_eqSide_ct : CtOk Try.prog 244 laws_eqSide_c := pure_ct (E := { T := tab, G := [] }) (EnvOk.nil tabOk) mixed (fn := Try.f244) _ _ _ _ _ .none Try.func244 (by kernel_rfl) (fun x => by kernel_rfl)
/-! loop.example/g00486/laws.eqSideS -/
def laws_eqSideS_l1 (a0 : (List T_Side.D)) (a1 : (List T_Side.D)) : Int → Option (Int ⊕ (Int ⊕ Bool)) := fun s1 =>
 bif decide (s1 < (a0.length : Int)) then (
 idx a0 s1 fun x2 =>
 idx a1 s1 fun x3 =>
(laws_eqSide x2 x3).bind fun y4 =>
 bif (!y4) then (
 some (.inr (.inr false)))
 else (
 some (.inl (IntKind.wrap .i64 (s1 + 1)))))
 else (
 some (.inr (.inl s1)))
def laws_eqSideS (a0 : (List T_Side.D)) (a1 : (List T_Side.D)) : Option Bool :=
 bif ((a0.length : Int) != (a1.length : Int)) then (
 some false)
 else (
(while_ (laws_eqSideS_l1 a0 a1) 0).bind fun o5 =>
 match o5 with
| .inl s6 => (
 some true)
| .inr o7 => (
 some o7))
def laws_eqSideS_h : Hints := (.node none none .none (.node none none .none (.node none none (.node none none .none (.node none none (.node none (some ⟨[.tmp 5 (.int .i64)], [some 0], some [.tmp 4 .bool], []⟩) .none .none) .none)) .none)))
def laws_eqSideS_c : Ct := .pure true false (.pair (.slice T_Side) (.pair (.slice T_Side) .unit)) .bool (fun x => laws_eqSideS x.1 x.2.1)
theorem laws_eqSideS_ct : CtOk Try.prog 147 laws_eqSideS_c := pure_ct (E := { T := tab, G := [(244, laws_eqSide_c)] }) (EnvOk.cons laws_eqSide_ct (EnvOk.nil tabOk)) mixed (fn := Try.f147) _ _ _ _ _ laws_eqSideS_h Try.func147 (by kernel_rfl) (fun x => by kernel_rfl)
/-! loop.example/g00486/laws.eqState -/
def laws_eqState (a0 : T_State.D) (a1 : T_State.D) : Option Bool :=
(laws_eqPieceS a0.1 a1.1).bind fun y1 =>
 bif (!y1) then (
 some false)
 else (
(laws_eqSideS a0.2.1 a1.2.1).bind fun y2 =>
 bif (!y2) then (
 some false)
 else (
 bif (a0.2.2.1 != a1.2.2.1) then (
 some false)
 else (
 bif (a0.2.2.2.1 != a1.2.2.2.1) then (
 some false)
 else (
 some true))))
def laws_eqState_c : Ct := .pure true false (.pair T_State (.pair T_State .unit)) .bool (fun x => laws_eqState x.1 x.2.1)
theorem laws_eqState_ct : CtOk Try.prog 40 laws_eqState_c := pure_ct (E := { T := tab, G := [(146, laws_eqPieceS_c), (147, laws_eqSideS_c)] }) (EnvOk.cons laws_eqPieceS_ct (EnvOk.cons laws_eqSideS_ct (EnvOk.nil tabOk))) mixed (fn := Try.f40) _ _ _ _ _ .none Try.func40 (by kernel_rfl) (fun x => by kernel_rfl)
/-! loop.example/g00486/laws.eqEvent -/
def laws_eqEvent (a0 : T_Event.D) (a1 : T_Event.D) : Option Bool :=
 bif (a0.1 != a1.1) then (
 some false)
 else (
 bif (a0.2.1 != a1.2.1) then (
 some false)
 else (
 bif (a0.2.2.1 != a1.2.2.1) then (
 some false)
 else (
 bif (a0.2.2.2.1 != a1.2.2.2.1) then (
 some false)
 else (
 bif (a0.2.2.2.2.1 != a1.2.2.2.2.1) then (
 some false)
 else (
 bif (a0.2.2.2.2.2.1 != a1.2.2.2.2.2.1) then (
 some false)
 else (
 bif (a0.2.2.2.2.2.2.1 != a1.2.2.2.2.2.2.1) then (
 some false)
 else (
 some true)))))))
def laws_eqEvent_c : Ct := .pure true false (.pair T_Event (.pair T_Event .unit)) .bool (fun x => laws_eqEvent x.1 x.2.1)
theorem laws_eqEvent_ct : CtOk Try.prog 163 laws_eqEvent_c := pure_ct (E := { T := tab, G := [] }) (EnvOk.nil tabOk) mixed (fn := Try.f163) _ _ _ _ _ .none Try.func163 (by kernel_rfl) (fun x => by kernel_rfl)
/-! loop.example/g00486/laws.eqNote -/
def laws_eqNote (a0 : T_Note.D) (a1 : T_Note.D) : Option Bool :=
 bif (a0.1 != a1.1) then (
 some false)
 else (
(laws_eqEvent a0.2.1 a1.2.1).bind fun y1 =>
 bif (!y1) then (
 some false)
 else (
 bif (a0.2.2.1 != a1.2.2.1) then (
 some false)
 else (
 bif (a0.2.2.2.1 != a1.2.2.2.1) then (
 some false)
 else (
(laws_eqPiece a0.2.2.2.2.1 a1.2.2.2.2.1).bind fun y2 =>
 bif (!y2) then (
 some false)
 else (
 some true)))))
def laws_eqNote_c : Ct := .pure true false (.pair T_Note (.pair T_Note .unit)) .bool (fun x => laws_eqNote x.1 x.2.1)
theorem laws_eqNote_ct : CtOk Try.prog 162 laws_eqNote_c := pure_ct (E := { T := tab, G := [(163, laws_eqEvent_c), (243, laws_eqPiece_c)] }) (EnvOk.cons laws_eqEvent_ct (EnvOk.cons laws_eqPiece_ct (EnvOk.nil tabOk))) mixed (fn := Try.f162) _ _ _ _ _ .none Try.func162 (by kernel_rfl) (fun x => by kernel_rfl)
/-! loop.example/g00486/laws.eqNoteS -/
def laws_eqNoteS_l1 (a0 : (List T_Note.D)) (a1 : (List T_Note.D)) : Int → Option (Int ⊕ (Int ⊕ Bool)) := fun s1 =>
 bif decide (s1 < (a0.length : Int)) then (
 idx a0 s1 fun x2 =>
 idx a1 s1 fun x3 =>
(laws_eqNote x2 x3).bind fun y4 =>
 bif (!y4) then (
 some (.inr (.inr false)))
 else (
 some (.inl (IntKind.wrap .i64 (s1 + 1)))))
 else (
 some (.inr (.inl s1)))
def laws_eqNoteS (a0 : (List T_Note.D)) (a1 : (List T_Note.D)) : Option Bool :=
 bif ((a0.length : Int) != (a1.length : Int)) then (
 some false)
 else (
(while_ (laws_eqNoteS_l1 a0 a1) 0).bind fun o5 =>
 match o5 with
| .inl s6 => (
 some true)
| .inr o7 => (
 some o7))
def laws_eqNoteS_h : Hints := (.node none none .none (.node none none .none (.node none none (.node none none .none (.node none none (.node none (some ⟨[.tmp 5 (.int .i64)], [some 0], some [.tmp 4 .bool], []⟩) .none .none) .none)) .none)))
def laws_eqNoteS_c : Ct := .pure true false (.pair (.slice T_Note) (.pair (.slice T_Note) .unit)) .bool (fun x => laws_eqNoteS x.1 x.2.1)
theorem laws_eqNoteS_ct : CtOk Try.prog 50 laws_eqNoteS_c := pure_ct (E := { T := tab, G := [(162, laws_eqNote_c)] }) (EnvOk.cons laws_eqNote_ct (EnvOk.nil tabOk)) mixed (fn := Try.f50) _ _ _ _ _ laws_eqNoteS_h Try.func50 (by kernel_rfl) (fun x => by kernel_rfl)
/-! loop.example/g00486/laws.eqEventS -/
def laws_eqEventS_l1 (a0 : (List T_Event.D)) (a1 : (List T_Event.D)) : Int → Option (Int ⊕ (Int ⊕ Bool)) := fun s1 =>
 bif decide (s1 < (a0.length : Int)) then (
 idx a0 s1 fun x2 =>
 idx a1 s1 fun x3 =>
(laws_eqEvent x2 x3).bind fun y4 =>
 bif (!y4) then (
 some (.inr (.inr false)))
 else (
 some (.inl (IntKind.wrap .i64 (s1 + 1)))))
 else (
 some (.inr (.inl s1)))
def laws_eqEventS (a0 : (List T_Event.D)) (a1 : (List T_Event.D)) : Option Bool :=
 bif ((a0.length : Int) != (a1.length : Int)) then (
 some false)
 else (
(while_ (laws_eqEventS_l1 a0 a1) 0).bind fun o5 =>
 match o5 with
| .inl s6 => (
 some true)
| .inr o7 => (
 some o7))
def laws_eqEventS_h : Hints := (.node none none .none (.node none none .none (.node none none (.node none none .none (.node none none (.node none (some ⟨[.tmp 5 (.int .i64)], [some 0], some [.tmp 4 .bool], []⟩) .none .none) .none)) .none)))
def laws_eqEventS_c : Ct := .pure true false (.pair (.slice T_Event) (.pair (.slice T_Event) .unit)) .bool (fun x => laws_eqEventS x.1 x.2.1)
theorem laws_eqEventS_ct : CtOk Try.prog 51 laws_eqEventS_c := pure_ct (E := { T := tab, G := [(163, laws_eqEvent_c)] }) (EnvOk.cons laws_eqEvent_ct (EnvOk.nil tabOk)) mixed (fn := Try.f51) _ _ _ _ _ laws_eqEventS_h Try.func51 (by kernel_rfl) (fun x => by kernel_rfl)
/-! loop.example/g00486/laws.markPieceS -/
def laws_markPieceS_l1 : ((List T_Piece.D) × (Int × Int)) → Option (((List T_Piece.D) × (Int × Int)) ⊕ ((List T_Piece.D) × (Int × Int))) := fun s2 =>
 bif decide (s2.2.2 < (s2.1.length : Int)) then (
 idx s2.1 s2.2.2 fun _ =>
(s2.1[(s2.2.2 : Int).toNat]?).bind fun x3 =>
 let u4 : (List T_Piece.D) := s2.1.set (s2.2.2 : Int).toNat (s2.2.1, x3.2)
 idx u4 s2.2.2 fun _ =>
(u4[(s2.2.2 : Int).toNat]?).bind fun x5 =>
 let u6 : (List T_Piece.D) := u4.set (s2.2.2 : Int).toNat (x5.1, IntKind.wrap .i64 (s2.2.1 + 1), x5.2.2)
 idx u6 s2.2.2 fun _ =>
(u6[(s2.2.2 : Int).toNat]?).bind fun x7 =>
 let u8 : (List T_Piece.D) := u6.set (s2.2.2 : Int).toNat (x7.1, x7.2.1, IntKind.wrap .i64 ((IntKind.wrap .i64 (s2.2.1 + 1)) + 1), x7.2.2.2)
 let k9 : Int := IntKind.wrap .i64 ((IntKind.wrap .i64 ((IntKind.wrap .i64 (s2.2.1 + 1)) + 1)) + 1)
 idx u8 s2.2.2 fun _ =>
(u8[(s2.2.2 : Int).toNat]?).bind fun x10 =>
 let u11 : (List T_Piece.D) := u8.set (s2.2.2 : Int).toNat (x10.1, x10.2.1, x10.2.2.1, k9, x10.2.2.2.2)
 idx u11 s2.2.2 fun _ =>
(u11[(s2.2.2 : Int).toNat]?).bind fun x12 =>
 let u13 : (List T_Piece.D) := u11.set (s2.2.2 : Int).toNat (x12.1, x12.2.1, x12.2.2.1, x12.2.2.2.1, IntKind.wrap .i64 (k9 + 1), x12.2.2.2.2.2)
 idx u13 s2.2.2 fun _ =>
(u13[(s2.2.2 : Int).toNat]?).bind fun x14 =>
 let u15 : (List T_Piece.D) := u13.set (s2.2.2 : Int).toNat (x14.1, x14.2.1, x14.2.2.1, x14.2.2.2.1, x14.2.2.2.2.1, IntKind.wrap .i64 ((IntKind.wrap .i64 (k9 + 1)) + 1), x14.2.2.2.2.2.2)
 let k16 : Int := IntKind.wrap .i64 ((IntKind.wrap .i64 ((IntKind.wrap .i64 (k9 + 1)) + 1)) + 1)
 idx u15 s2.2.2 fun _ =>
(u15[(s2.2.2 : Int).toNat]?).bind fun x17 =>
 let u18 : (List T_Piece.D) := u15.set (s2.2.2 : Int).toNat (x17.1, x17.2.1, x17.2.2.1, x17.2.2.2.1, x17.2.2.2.2.1, x17.2.2.2.2.2.1, k16, x17.2.2.2.2.2.2.2)
 idx u18 s2.2.2 fun _ =>
(u18[(s2.2.2 : Int).toNat]?).bind fun x19 =>
 let u20 : (List T_Piece.D) := u18.set (s2.2.2 : Int).toNat (x19.1, x19.2.1, x19.2.2.1, x19.2.2.2.1, x19.2.2.2.2.1, x19.2.2.2.2.2.1, x19.2.2.2.2.2.2.1, IntKind.wrap .i64 (k16 + 1), x19.2.2.2.2.2.2.2.2)
 idx u20 s2.2.2 fun _ =>
(u20[(s2.2.2 : Int).toNat]?).bind fun x21 =>
 let u22 : (List T_Piece.D) := u20.set (s2.2.2 : Int).toNat (x21.1, x21.2.1, x21.2.2.1, x21.2.2.2.1, x21.2.2.2.2.1, x21.2.2.2.2.2.1, x21.2.2.2.2.2.2.1, x21.2.2.2.2.2.2.2.1, IntKind.wrap .i64 ((IntKind.wrap .i64 (k16 + 1)) + 1), x21.2.2.2.2.2.2.2.2.2)
 let k23 : Int := IntKind.wrap .i64 ((IntKind.wrap .i64 ((IntKind.wrap .i64 (k16 + 1)) + 1)) + 1)
 idx u22 s2.2.2 fun _ =>
(u22[(s2.2.2 : Int).toNat]?).bind fun x24 =>
 let u25 : (List T_Piece.D) := u22.set (s2.2.2 : Int).toNat (x24.1, x24.2.1, x24.2.2.1, x24.2.2.2.1, x24.2.2.2.2.1, x24.2.2.2.2.2.1, x24.2.2.2.2.2.2.1, x24.2.2.2.2.2.2.2.1, x24.2.2.2.2.2.2.2.2.1, k23, x24.2.2.2.2.2.2.2.2.2.2)
 idx u25 s2.2.2 fun _ =>
(u25[(s2.2.2 : Int).toNat]?).bind fun x26 =>
 let u27 : (List T_Piece.D) := u25.set (s2.2.2 : Int).toNat (x26.1, x26.2.1, x26.2.2.1, x26.2.2.2.1, x26.2.2.2.2.1, x26.2.2.2.2.2.1, x26.2.2.2.2.2.2.1, x26.2.2.2.2.2.2.2.1, x26.2.2.2.2.2.2.2.2.1, x26.2.2.2.2.2.2.2.2.2.1, IntKind.wrap .i64 (k23 + 1), x26.2.2.2.2.2.2.2.2.2.2.2)
 if 3 = 0 then none else (
 let k28 : Int := (IntKind.wrap .i64 ((IntKind.wrap .i64 (k23 + 1)) + 1)).tmod 3
 idx u27 s2.2.2 fun _ =>
(u27[(s2.2.2 : Int).toNat]?).bind fun x29 =>
 let u30 : (List T_Piece.D) := u27.set (s2.2.2 : Int).toNat (x29.1, x29.2.1, x29.2.2.1, x29.2.2.2.1, x29.2.2.2.2.1, x29.2.2.2.2.2.1, x29.2.2.2.2.2.2.1, x29.2.2.2.2.2.2.2.1, x29.2.2.2.2.2.2.2.2.1, x29.2.2.2.2.2.2.2.2.2.1, x29.2.2.2.2.2.2.2.2.2.2.1, (k28 == 0), x29.2.2.2.2.2.2.2.2.2.2.2.2)
 let k31 : Int := IntKind.wrap .i64 ((IntKind.wrap .i64 ((IntKind.wrap .i64 (k23 + 1)) + 1)) + 1)
 if 3 = 0 then none else (
 idx u30 s2.2.2 fun _ =>
(u30[(s2.2.2 : Int).toNat]?).bind fun x32 =>
 let u33 : (List T_Piece.D) := u30.set (s2.2.2 : Int).toNat (x32.1, x32.2.1, x32.2.2.1, x32.2.2.2.1, x32.2.2.2.2.1, x32.2.2.2.2.2.1, x32.2.2.2.2.2.2.1, x32.2.2.2.2.2.2.2.1, x32.2.2.2.2.2.2.2.2.1, x32.2.2.2.2.2.2.2.2.2.1, x32.2.2.2.2.2.2.2.2.2.2.1, x32.2.2.2.2.2.2.2.2.2.2.2.1, ((k31.tmod 3) == 0), ())
 some (.inl (u33, IntKind.wrap .i64 (k31 + 1), IntKind.wrap .i64 (s2.2.2 + 1))))))
 else (
 some (.inr s2))
def laws_markPieceS (a0 : (List T_Piece.D)) (a1 : Int) : Option (Int × ((List T_Piece.D) × Unit)) :=
(while_ (laws_markPieceS_l1) (a0, a1, 0)).bind fun o34 =>
 some (o34.2.1, (o34.1, ()))
def laws_markPieceS_h : Hints := (.node none none .none (.node none none (.node none none .none (.node none none (.node none (some ⟨[.tmpO 0 1 (.slice T_Piece), .tmp 1 (.int .i64), .tmp 5 (.int .i64)], [some 0], none, []⟩) .none .none) .none)) .none))
def laws_markPieceS_c : Ct := .mut [.lent, .rd] true true (.pair (.slice T_Piece) (.pair (.int .i64) .unit)) (.int .i64) (fun x => laws_markPieceS x.1 x.2.1)
theorem laws_markPieceS_ct : CtOk Try.prog 148 laws_markPieceS_c := mut_ct (E := { T := tab, G := [] }) (EnvOk.nil tabOk) mixed (fn := Try.f148) _ _ _ _ _ _ laws_markPieceS_h Try.func148 (by kernel_rfl) (fun x => by kernel_rfl)
/-! loop.example/g00486/laws.markSideS -/
def laws_markSideS_l1 : ((List T_Side.D) × (Int × Int)) → Option (((List T_Side.D) × (Int × Int)) ⊕ ((List T_Side.D) × (Int × Int))) := fun s2 =>
 bif decide (s2.2.2 < (s2.1.length : Int)) then (
 idx s2.1 s2.2.2 fun _ =>
(s2.1[(s2.2.2 : Int).toNat]?).bind fun x3 =>
 let u4 : (List T_Side.D) := s2.1.set (s2.2.2 : Int).toNat (s2.2.1, x3.2)
 idx u4 s2.2.2 fun _ =>
(u4[(s2.2.2 : Int).toNat]?).bind fun x5 =>
 let u6 : (List T_Side.D) := u4.set (s2.2.2 : Int).toNat (x5.1, IntKind.wrap .i64 (s2.2.1 + 1), x5.2.2)
 if 3 = 0 then none else (
 let k7 : Int := (IntKind.wrap .i64 ((IntKind.wrap .i64 (s2.2.1 + 1)) + 1)).tmod 3
 idx u6 s2.2.2 fun _ =>
(u6[(s2.2.2 : Int).toNat]?).bind fun x8 =>
 let u9 : (List T_Side.D) := u6.set (s2.2.2 : Int).toNat (x8.1, x8.2.1, (k7 == 0), ())
 let k10 : Int := IntKind.wrap .i64 ((IntKind.wrap .i64 ((IntKind.wrap .i64 (s2.2.1 + 1)) + 1)) + 1)
 some (.inl (u9, k10, IntKind.wrap .i64 (s2.2.2 + 1)))))
 else (
 some (.inr s2))
def laws_markSideS (a0 : (List T_Side.D)) (a1 : Int) : Option (Int × ((List T_Side.D) × Unit)) :=
(while_ (laws_markSideS_l1) (a0, a1, 0)).bind fun o11 =>
 some (o11.2.1, (o11.1, ()))
def laws_markSideS_h : Hints := (.node none none .none (.node none none (.node none none .none (.node none none (.node none (some ⟨[.tmpO 0 1 (.slice T_Side), .tmp 1 (.int .i64), .tmp 5 (.int .i64)], [some 0], none, []⟩) .none .none) .none)) .none))
def laws_markSideS_c : Ct := .mut [.lent, .rd] true true (.pair (.slice T_Side) (.pair (.int .i64) .unit)) (.int .i64) (fun x => laws_markSideS x.1 x.2.1)
theorem laws_markSideS_ct : CtOk Try.prog 149 laws_markSideS_c := mut_ct (E := { T := tab, G := [] }) (EnvOk.nil tabOk) mixed (fn := Try.f149) _ _ _ _ _ _ laws_markSideS_h Try.func149 (by kernel_rfl) (fun x => by kernel_rfl)
/-! loop.example/g00486/laws.markState -/
def laws_markState (a0 : T_State.D) (a1 : Int) : Option (Int × (T_State.D × Unit)) :=
(laws_markPieceS a0.1 a1).bind fun y1 =>
(laws_markSideS a0.2.1 y1.1).bind fun y2 =>
 some (y2.1, ((y1.2.1, y2.2.1, a0.2.2), ()))
def laws_markState_c : Ct := .mut [.lent, .rd] true true (.pair T_State (.pair (.int .i64) .unit)) (.int .i64) (fun x => laws_markState x.1 x.2.1)
theorem laws_markState_ct : CtOk Try.prog 41 laws_markState_c := mut_ct (E := { T := tab, G := [(148, laws_markPieceS_c), (149, laws_markSideS_c)] }) (EnvOk.cons laws_markPieceS_ct (EnvOk.cons laws_markSideS_ct (EnvOk.nil tabOk))) mixed (fn := Try.f41) _ _ _ _ _ _ .none Try.func41 (by kernel_rfl) (fun x => by kernel_rfl)
/-! loop.example/g00486/laws.markEventS -/
def laws_markEventS_l1 : ((List T_Event.D) × (Int × Int)) → Option (((List T_Event.D) × (Int × Int)) ⊕ ((List T_Event.D) × (Int × Int))) := fun s2 =>
 bif decide (s2.2.2 < (s2.1.length : Int)) then (
 idx s2.1 s2.2.2 fun _ =>
(s2.1[(s2.2.2 : Int).toNat]?).bind fun x3 =>
 let u4 : (List T_Event.D) := s2.1.set (s2.2.2 : Int).toNat (s2.2.1, x3.2)
 idx u4 s2.2.2 fun _ =>
(u4[(s2.2.2 : Int).toNat]?).bind fun x5 =>
 let u6 : (List T_Event.D) := u4.set (s2.2.2 : Int).toNat (x5.1, IntKind.wrap .i64 (s2.2.1 + 1), x5.2.2)
 idx u6 s2.2.2 fun _ =>
(u6[(s2.2.2 : Int).toNat]?).bind fun x7 =>
 let u8 : (List T_Event.D) := u6.set (s2.2.2 : Int).toNat (x7.1, x7.2.1, IntKind.wrap .i64 ((IntKind.wrap .i64 (s2.2.1 + 1)) + 1), x7.2.2.2)
 let k9 : Int := IntKind.wrap .i64 ((IntKind.wrap .i64 ((IntKind.wrap .i64 (s2.2.1 + 1)) + 1)) + 1)
 idx u8 s2.2.2 fun _ =>
(u8[(s2.2.2 : Int).toNat]?).bind fun x10 =>
 let u11 : (List T_Event.D) := u8.set (s2.2.2 : Int).toNat (x10.1, x10.2.1, x10.2.2.1, k9, x10.2.2.2.2)
 idx u11 s2.2.2 fun _ =>
(u11[(s2.2.2 : Int).toNat]?).bind fun x12 =>
 let u13 : (List T_Event.D) := u11.set (s2.2.2 : Int).toNat (x12.1, x12.2.1, x12.2.2.1, x12.2.2.2.1, IntKind.wrap .i64 (k9 + 1), x12.2.2.2.2.2)
 idx u13 s2.2.2 fun _ =>
(u13[(s2.2.2 : Int).toNat]?).bind fun x14 =>
 let u15 : (List T_Event.D) := u13.set (s2.2.2 : Int).toNat (x14.1, x14.2.1, x14.2.2.1, x14.2.2.2.1, x14.2.2.2.2.1, IntKind.wrap .i64 ((IntKind.wrap .i64 (k9 + 1)) + 1), x14.2.2.2.2.2.2)
 let k16 : Int := IntKind.wrap .i64 ((IntKind.wrap .i64 ((IntKind.wrap .i64 (k9 + 1)) + 1)) + 1)
 if 3 = 0 then none else (
 idx u15 s2.2.2 fun _ =>
(u15[(s2.2.2 : Int).toNat]?).bind fun x17 =>
 let u18 : (List T_Event.D) := u15.set (s2.2.2 : Int).toNat (x17.1, x17.2.1, x17.2.2.1, x17.2.2.2.1, x17.2.2.2.2.1, x17.2.2.2.2.2.1, ((k16.tmod 3) == 0), ())
 some (.inl (u18, IntKind.wrap .i64 (k16 + 1), IntKind.wrap .i64 (s2.2.2 + 1)))))
 else (
 some (.inr s2))
def laws_markEventS (a0 : (List T_Event.D)) (a1 : Int) : Option (Int × ((List T_Event.D) × Unit)) :=
(while_ (laws_markEventS_l1) (a0, a1, 0)).bind fun o19 =>
 some (o19.2.1, (o19.1, ()))
def laws_markEventS_h : Hints := (.node none none .none (.node none none (.node none none .none (.node none none (.node none (some ⟨[.tmpO 0 1 (.slice T_Event), .tmp 1 (.int .i64), .tmp 5 (.int .i64)], [some 0], none, []⟩) .none .none) .none)) .none))
def laws_markEventS_c : Ct := .mut [.lent, .rd] true true (.pair (.slice T_Event) (.pair (.int .i64) .unit)) (.int .i64) (fun x => laws_markEventS x.1 x.2.1)
theorem laws_markEventS_ct : CtOk Try.prog 52 laws_markEventS_c := mut_ct (E := { T := tab, G := [] }) (EnvOk.nil tabOk) mixed (fn := Try.f52) _ _ _ _ _ _ laws_markEventS_h Try.func52 (by kernel_rfl) (fun x => by kernel_rfl)
/-! loop.example/g00486/laws.markNoteS -/
def laws_markNoteS_l1 : ((List T_Note.D) × (Int × Int)) → Option (((List T_Note.D) × (Int × Int)) ⊕ ((List T_Note.D) × (Int × Int))) := fun s2 =>
 bif decide (s2.2.2 < (s2.1.length : Int)) then (
 idx s2.1 s2.2.2 fun _ =>
(s2.1[(s2.2.2 : Int).toNat]?).bind fun x3 =>
 let u4 : (List T_Note.D) := s2.1.set (s2.2.2 : Int).toNat (s2.2.1, x3.2)
 idx u4 s2.2.2 fun _ =>
(u4[(s2.2.2 : Int).toNat]?).bind fun x5 =>
 let u6 : (List T_Note.D) := u4.set (s2.2.2 : Int).toNat (x5.1, (IntKind.wrap .i64 (s2.2.1 + 1), x5.2.1.2), x5.2.2)
 idx u6 s2.2.2 fun _ =>
(u6[(s2.2.2 : Int).toNat]?).bind fun x7 =>
 let u8 : (List T_Note.D) := u6.set (s2.2.2 : Int).toNat (x7.1, (x7.2.1.1, IntKind.wrap .i64 ((IntKind.wrap .i64 (s2.2.1 + 1)) + 1), x7.2.1.2.2), x7.2.2)
 let k9 : Int := IntKind.wrap .i64 ((IntKind.wrap .i64 ((IntKind.wrap .i64 (s2.2.1 + 1)) + 1)) + 1)
 idx u8 s2.2.2 fun _ =>
(u8[(s2.2.2 : Int).toNat]?).bind fun x10 =>
 let u11 : (List T_Note.D) := u8.set (s2.2.2 : Int).toNat (x10.1, (x10.2.1.1, x10.2.1.2.1, k9, x10.2.1.2.2.2), x10.2.2)
 idx u11 s2.2.2 fun _ =>
(u11[(s2.2.2 : Int).toNat]?).bind fun x12 =>
 let u13 : (List T_Note.D) := u11.set (s2.2.2 : Int).toNat (x12.1, (x12.2.1.1, x12.2.1.2.1, x12.2.1.2.2.1, IntKind.wrap .i64 (k9 + 1), x12.2.1.2.2.2.2), x12.2.2)
 idx u13 s2.2.2 fun _ =>
(u13[(s2.2.2 : Int).toNat]?).bind fun x14 =>
 let u15 : (List T_Note.D) := u13.set (s2.2.2 : Int).toNat (x14.1, (x14.2.1.1, x14.2.1.2.1, x14.2.1.2.2.1, x14.2.1.2.2.2.1, IntKind.wrap .i64 ((IntKind.wrap .i64 (k9 + 1)) + 1), x14.2.1.2.2.2.2.2), x14.2.2)
 let k16 : Int := IntKind.wrap .i64 ((IntKind.wrap .i64 ((IntKind.wrap .i64 (k9 + 1)) + 1)) + 1)
 idx u15 s2.2.2 fun _ =>
(u15[(s2.2.2 : Int).toNat]?).bind fun x17 =>
 let u18 : (List T_Note.D) := u15.set (s2.2.2 : Int).toNat (x17.1, (x17.2.1.1, x17.2.1.2.1, x17.2.1.2.2.1, x17.2.1.2.2.2.1, x17.2.1.2.2.2.2.1, k16, x17.2.1.2.2.2.2.2.2), x17.2.2)
 if 3 = 0 then none else (
 idx u18 s2.2.2 fun _ =>
(u18[(s2.2.2 : Int).toNat]?).bind fun x19 =>
 let u20 : (List T_Note.D) := u18.set (s2.2.2 : Int).toNat (x19.1, (x19.2.1.1, x19.2.1.2.1, x19.2.1.2.2.1, x19.2.1.2.2.2.1, x19.2.1.2.2.2.2.1, x19.2.1.2.2.2.2.2.1, (((IntKind.wrap .i64 (k16 + 1)).tmod 3) == 0), ()), x19.2.2)
 idx u20 s2.2.2 fun _ =>
(u20[(s2.2.2 : Int).toNat]?).bind fun x21 =>
 let u22 : (List T_Note.D) := u20.set (s2.2.2 : Int).toNat (x21.1, x21.2.1, IntKind.wrap .i64 ((IntKind.wrap .i64 (k16 + 1)) + 1), x21.2.2.2)
 let k23 : Int := IntKind.wrap .i64 ((IntKind.wrap .i64 ((IntKind.wrap .i64 (k16 + 1)) + 1)) + 1)
 idx u22 s2.2.2 fun _ =>
(u22[(s2.2.2 : Int).toNat]?).bind fun x24 =>
 let u25 : (List T_Note.D) := u22.set (s2.2.2 : Int).toNat (x24.1, x24.2.1, x24.2.2.1, k23, x24.2.2.2.2)
 idx u25 s2.2.2 fun _ =>
(u25[(s2.2.2 : Int).toNat]?).bind fun x26 =>
 let u27 : (List T_Note.D) := u25.set (s2.2.2 : Int).toNat (x26.1, x26.2.1, x26.2.2.1, x26.2.2.2.1, (IntKind.wrap .i64 (k23 + 1), x26.2.2.2.2.1.2), ())
 idx u27 s2.2.2 fun _ =>
(u27[(s2.2.2 : Int).toNat]?).bind fun x28 =>
 let u29 : (List T_Note.D) := u27.set (s2.2.2 : Int).toNat (x28.1, x28.2.1, x28.2.2.1, x28.2.2.2.1, (x28.2.2.2.2.1.1, IntKind.wrap .i64 ((IntKind.wrap .i64 (k23 + 1)) + 1), x28.2.2.2.2.1.2.2), ())
 let k30 : Int := IntKind.wrap .i64 ((IntKind.wrap .i64 ((IntKind.wrap .i64 (k23 + 1)) + 1)) + 1)
 idx u29 s2.2.2 fun _ =>
(u29[(s2.2.2 : Int).toNat]?).bind fun x31 =>
 let u32 : (List T_Note.D) := u29.set (s2.2.2 : Int).toNat (x31.1, x31.2.1, x31.2.2.1, x31.2.2.2.1, (x31.2.2.2.2.1.1, x31.2.2.2.2.1.2.1, k30, x31.2.2.2.2.1.2.2.2), ())
 idx u32 s2.2.2 fun _ =>
(u32[(s2.2.2 : Int).toNat]?).bind fun x33 =>
 let u34 : (List T_Note.D) := u32.set (s2.2.2 : Int).toNat (x33.1, x33.2.1, x33.2.2.1, x33.2.2.2.1, (x33.2.2.2.2.1.1, x33.2.2.2.2.1.2.1, x33.2.2.2.2.1.2.2.1, IntKind.wrap .i64 (k30 + 1), x33.2.2.2.2.1.2.2.2.2), ())
 idx u34 s2.2.2 fun _ =>
(u34[(s2.2.2 : Int).toNat]?).bind fun x35 =>
 let u36 : (List T_Note.D) := u34.set (s2.2.2 : Int).toNat (x35.1, x35.2.1, x35.2.2.1, x35.2.2.2.1, (x35.2.2.2.2.1.1, x35.2.2.2.2.1.2.1, x35.2.2.2.2.1.2.2.1, x35.2.2.2.2.1.2.2.2.1, IntKind.wrap .i64 ((IntKind.wrap .i64 (k30 + 1)) + 1), x35.2.2.2.2.1.2.2.2.2.2), ())
 let k37 : Int := IntKind.wrap .i64 ((IntKind.wrap .i64 ((IntKind.wrap .i64 (k30 + 1)) + 1)) + 1)
 idx u36 s2.2.2 fun _ =>
(u36[(s2.2.2 : Int).toNat]?).bind fun x38 =>
 let u39 : (List T_Note.D) := u36.set (s2.2.2 : Int).toNat (x38.1, x38.2.1, x38.2.2.1, x38.2.2.2.1, (x38.2.2.2.2.1.1, x38.2.2.2.2.1.2.1, x38.2.2.2.2.1.2.2.1, x38.2.2.2.2.1.2.2.2.1, x38.2.2.2.2.1.2.2.2.2.1, k37, x38.2.2.2.2.1.2.2.2.2.2.2), ())
 idx u39 s2.2.2 fun _ =>
(u39[(s2.2.2 : Int).toNat]?).bind fun x40 =>
 let u41 : (List T_Note.D) := u39.set (s2.2.2 : Int).toNat (x40.1, x40.2.1, x40.2.2.1, x40.2.2.2.1, (x40.2.2.2.2.1.1, x40.2.2.2.2.1.2.1, x40.2.2.2.2.1.2.2.1, x40.2.2.2.2.1.2.2.2.1, x40.2.2.2.2.1.2.2.2.2.1, x40.2.2.2.2.1.2.2.2.2.2.1, IntKind.wrap .i64 (k37 + 1), x40.2.2.2.2.1.2.2.2.2.2.2.2), ())
 idx u41 s2.2.2 fun _ =>
(u41[(s2.2.2 : Int).toNat]?).bind fun x42 =>
 let u43 : (List T_Note.D) := u41.set (s2.2.2 : Int).toNat (x42.1, x42.2.1, x42.2.2.1, x42.2.2.2.1, (x42.2.2.2.2.1.1, x42.2.2.2.2.1.2.1, x42.2.2.2.2.1.2.2.1, x42.2.2.2.2.1.2.2.2.1, x42.2.2.2.2.1.2.2.2.2.1, x42.2.2.2.2.1.2.2.2.2.2.1, x42.2.2.2.2.1.2.2.2.2.2.2.1, IntKind.wrap .i64 ((IntKind.wrap .i64 (k37 + 1)) + 1), x42.2.2.2.2.1.2.2.2.2.2.2.2.2), ())
 let k44 : Int := IntKind.wrap .i64 ((IntKind.wrap .i64 ((IntKind.wrap .i64 (k37 + 1)) + 1)) + 1)
 idx u43 s2.2.2 fun _ =>
(u43[(s2.2.2 : Int).toNat]?).bind fun x45 =>
 let u46 : (List T_Note.D) := u43.set (s2.2.2 : Int).toNat (x45.1, x45.2.1, x45.2.2.1, x45.2.2.2.1, (x45.2.2.2.2.1.1, x45.2.2.2.2.1.2.1, x45.2.2.2.2.1.2.2.1, x45.2.2.2.2.1.2.2.2.1, x45.2.2.2.2.1.2.2.2.2.1, x45.2.2.2.2.1.2.2.2.2.2.1, x45.2.2.2.2.1.2.2.2.2.2.2.1, x45.2.2.2.2.1.2.2.2.2.2.2.2.1, k44, x45.2.2.2.2.1.2.2.2.2.2.2.2.2.2), ())
 idx u46 s2.2.2 fun _ =>
(u46[(s2.2.2 : Int).toNat]?).bind fun x47 =>
 let u48 : (List T_Note.D) := u46.set (s2.2.2 : Int).toNat (x47.1, x47.2.1, x47.2.2.1, x47.2.2.2.1, (x47.2.2.2.2.1.1, x47.2.2.2.2.1.2.1, x47.2.2.2.2.1.2.2.1, x47.2.2.2.2.1.2.2.2.1, x47.2.2.2.2.1.2.2.2.2.1, x47.2.2.2.2.1.2.2.2.2.2.1, x47.2.2.2.2.1.2.2.2.2.2.2.1, x47.2.2.2.2.1.2.2.2.2.2.2.2.1, x47.2.2.2.2.1.2.2.2.2.2.2.2.2.1, IntKind.wrap .i64 (k44 + 1), x47.2.2.2.2.1.2.2.2.2.2.2.2.2.2.2), ())
 idx u48 s2.2.2 fun _ =>
(u48[(s2.2.2 : Int).toNat]?).bind fun x49 =>
 let u50 : (List T_Note.D) := u48.set (s2.2.2 : Int).toNat (x49.1, x49.2.1, x49.2.2.1, x49.2.2.2.1, (x49.2.2.2.2.1.1, x49.2.2.2.2.1.2.1, x49.2.2.2.2.1.2.2.1, x49.2.2.2.2.1.2.2.2.1, x49.2.2.2.2.1.2.2.2.2.1, x49.2.2.2.2.1.2.2.2.2.2.1, x49.2.2.2.2.1.2.2.2.2.2.2.1, x49.2.2.2.2.1.2.2.2.2.2.2.2.1, x49.2.2.2.2.1.2.2.2.2.2.2.2.2.1, x49.2.2.2.2.1.2.2.2.2.2.2.2.2.2.1, IntKind.wrap .i64 ((IntKind.wrap .i64 (k44 + 1)) + 1), x49.2.2.2.2.1.2.2.2.2.2.2.2.2.2.2.2), ())
 let k51 : Int := IntKind.wrap .i64 ((IntKind.wrap .i64 ((IntKind.wrap .i64 (k44 + 1)) + 1)) + 1)
 if 3 = 0 then none else (
 idx u50 s2.2.2 fun _ =>
(u50[(s2.2.2 : Int).toNat]?).bind fun x52 =>
 let u53 : (List T_Note.D) := u50.set (s2.2.2 : Int).toNat (x52.1, x52.2.1, x52.2.2.1, x52.2.2.2.1, (x52.2.2.2.2.1.1, x52.2.2.2.2.1.2.1, x52.2.2.2.2.1.2.2.1, x52.2.2.2.2.1.2.2.2.1, x52.2.2.2.2.1.2.2.2.2.1, x52.2.2.2.2.1.2.2.2.2.2.1, x52.2.2.2.2.1.2.2.2.2.2.2.1, x52.2.2.2.2.1.2.2.2.2.2.2.2.1, x52.2.2.2.2.1.2.2.2.2.2.2.2.2.1, x52.2.2.2.2.1.2.2.2.2.2.2.2.2.2.1, x52.2.2.2.2.1.2.2.2.2.2.2.2.2.2.2.1, ((k51.tmod 3) == 0), x52.2.2.2.2.1.2.2.2.2.2.2.2.2.2.2.2.2), ())
 if 3 = 0 then none else (
 idx u53 s2.2.2 fun _ =>
(u53[(s2.2.2 : Int).toNat]?).bind fun x54 =>
 let u55 : (List T_Note.D) := u53.set (s2.2.2 : Int).toNat (x54.1, x54.2.1, x54.2.2.1, x54.2.2.2.1, (x54.2.2.2.2.1.1, x54.2.2.2.2.1.2.1, x54.2.2.2.2.1.2.2.1, x54.2.2.2.2.1.2.2.2.1, x54.2.2.2.2.1.2.2.2.2.1, x54.2.2.2.2.1.2.2.2.2.2.1, x54.2.2.2.2.1.2.2.2.2.2.2.1, x54.2.2.2.2.1.2.2.2.2.2.2.2.1, x54.2.2.2.2.1.2.2.2.2.2.2.2.2.1, x54.2.2.2.2.1.2.2.2.2.2.2.2.2.2.1, x54.2.2.2.2.1.2.2.2.2.2.2.2.2.2.2.1, x54.2.2.2.2.1.2.2.2.2.2.2.2.2.2.2.2.1, (((IntKind.wrap .i64 (k51 + 1)).tmod 3) == 0), ()), ())
 some (.inl (u55, IntKind.wrap .i64 ((IntKind.wrap .i64 (k51 + 1)) + 1), IntKind.wrap .i64 (s2.2.2 + 1)))))))
 else (
 some (.inr s2))
def laws_markNoteS (a0 : (List T_Note.D)) (a1 : Int) : Option (Int × ((List T_Note.D) × Unit)) :=
(while_ (laws_markNoteS_l1) (a0, a1, 0)).bind fun o56 =>
 some (o56.2.1, (o56.1, ()))
def laws_markNoteS_h : Hints := (.node none none .none (.node none none (.node none none .none (.node none none (.node none (some ⟨[.tmpO 0 1 (.slice T_Note), .tmp 1 (.int .i64), .tmp 5 (.int .i64)], [some 0], none, []⟩) .none .none) .none)) .none))
def laws_markNoteS_c : Ct := .mut [.lent, .rd] true true (.pair (.slice T_Note) (.pair (.int .i64) .unit)) (.int .i64) (fun x => laws_markNoteS x.1 x.2.1)
theorem laws_markNoteS_ct : CtOk Try.prog 53 laws_markNoteS_c := mut_ct (E := { T := tab, G := [] }) (EnvOk.nil tabOk) mixed (fn := Try.f53) _ _ _ _ _ _ laws_markNoteS_h Try.func53 (by kernel_rfl) (fun x => by kernel_rfl)
/-! loop.example/g00486/laws.heldPieceS -/
def laws_heldPieceS_l1 (a0 : (List T_Piece.D)) : (Int × Int) → Option ((Int × Int) ⊕ ((Int × Int) ⊕ Int)) := fun s1 =>
 bif decide (s1.2 < (a0.length : Int)) then (
 idx a0 s1.2 fun x2 =>
 bif (x2.1 != s1.1) then (
 some (.inr (.inr (-1))))
 else (
 idx a0 s1.2 fun x3 =>
 bif (x3.2.1 != (IntKind.wrap .i64 (s1.1 + 1))) then (
 some (.inr (.inr (-1))))
 else (
 idx a0 s1.2 fun x4 =>
 bif (x4.2.2.1 != (IntKind.wrap .i64 ((IntKind.wrap .i64 (s1.1 + 1)) + 1))) then (
 some (.inr (.inr (-1))))
 else (
 let k5 : Int := IntKind.wrap .i64 ((IntKind.wrap .i64 ((IntKind.wrap .i64 (s1.1 + 1)) + 1)) + 1)
 idx a0 s1.2 fun x6 =>
 bif (x6.2.2.2.1 != k5) then (
 some (.inr (.inr (-1))))
 else (
 idx a0 s1.2 fun x7 =>
 bif (x7.2.2.2.2.1 != (IntKind.wrap .i64 (k5 + 1))) then (
 some (.inr (.inr (-1))))
 else (
 idx a0 s1.2 fun x8 =>
 bif (x8.2.2.2.2.2.1 != (IntKind.wrap .i64 ((IntKind.wrap .i64 (k5 + 1)) + 1))) then (
 some (.inr (.inr (-1))))
 else (
 let k9 : Int := IntKind.wrap .i64 ((IntKind.wrap .i64 ((IntKind.wrap .i64 (k5 + 1)) + 1)) + 1)
 idx a0 s1.2 fun x10 =>
 bif (x10.2.2.2.2.2.2.1 != k9) then (
 some (.inr (.inr (-1))))
 else (
 idx a0 s1.2 fun x11 =>
 bif (x11.2.2.2.2.2.2.2.1 != (IntKind.wrap .i64 (k9 + 1))) then (
 some (.inr (.inr (-1))))
 else (
 idx a0 s1.2 fun x12 =>
 bif (x12.2.2.2.2.2.2.2.2.1 != (IntKind.wrap .i64 ((IntKind.wrap .i64 (k9 + 1)) + 1))) then (
 some (.inr (.inr (-1))))
 else (
 let k13 : Int := IntKind.wrap .i64 ((IntKind.wrap .i64 ((IntKind.wrap .i64 (k9 + 1)) + 1)) + 1)
 idx a0 s1.2 fun x14 =>
 bif (x14.2.2.2.2.2.2.2.2.2.1 != k13) then (
 some (.inr (.inr (-1))))
 else (
 idx a0 s1.2 fun x15 =>
 bif (x15.2.2.2.2.2.2.2.2.2.2.1 != (IntKind.wrap .i64 (k13 + 1))) then (
 some (.inr (.inr (-1))))
 else (
 idx a0 s1.2 fun x16 =>
 if 3 = 0 then none else (
 let k17 : Int := (IntKind.wrap .i64 ((IntKind.wrap .i64 (k13 + 1)) + 1)).tmod 3
 bif (x16.2.2.2.2.2.2.2.2.2.2.2.1 != (k17 == 0)) then (
 some (.inr (.inr (-1))))
 else (
 let k18 : Int := IntKind.wrap .i64 ((IntKind.wrap .i64 ((IntKind.wrap .i64 (k13 + 1)) + 1)) + 1)
 idx a0 s1.2 fun x19 =>
 if 3 = 0 then none else (
 bif (x19.2.2.2.2.2.2.2.2.2.2.2.2.1 != ((k18.tmod 3) == 0)) then (
 some (.inr (.inr (-1))))
 else (
 some (.inl (IntKind.wrap .i64 (k18 + 1), IntKind.wrap .i64 (s1.2 + 1)))))))))))))))))))
 else (
 some (.inr (.inl s1)))
def laws_heldPieceS (a0 : (List T_Piece.D)) (a1 : Int) : Option Int :=
(while_ (laws_heldPieceS_l1 a0) (a1, 0)).bind fun o20 =>
 match o20 with
| .inl s21 => (
 some s21.1)
| .inr o22 => (
 some o22)
def laws_heldPieceS_h : Hints := (.node none none .none (.node none none (.node none none .none (.node none none (.node none (some ⟨[.tmp 1 (.int .i64), .tmp 5 (.int .i64)], [some 0], some [.tmp 4 (.int .i64)], []⟩) .none .none) .none)) .none))
def laws_heldPieceS_c : Ct := .pure true false (.pair (.slice T_Piece) (.pair (.int .i64) .unit)) (.int .i64) (fun x => laws_heldPieceS x.1 x.2.1)
theorem laws_heldPieceS_ct : CtOk Try.prog 164 laws_heldPieceS_c := pure_ct (E := { T := tab, G := [] }) (EnvOk.nil tabOk) mixed (fn := Try.f164) _ _ _ _ _ laws_heldPieceS_h Try.func164 (by kernel_rfl) (fun x => by kernel_rfl)
/-! loop.example/g00486/laws.heldSideS -/
def laws_heldSideS_l1 (a0 : (List T_Side.D)) : (Int × Int) → Option ((Int × Int) ⊕ ((Int × Int) ⊕ Int)) := fun s1 =>
 bif decide (s1.2 < (a0.length : Int)) then (
 idx a0 s1.2 fun x2 =>
 bif (x2.1 != s1.1) then (
 some (.inr (.inr (-1))))
 else (
 idx a0 s1.2 fun x3 =>
 bif (x3.2.1 != (IntKind.wrap .i64 (s1.1 + 1))) then (
 some (.inr (.inr (-1))))
 else (
 idx a0 s1.2 fun x4 =>
 if 3 = 0 then none else (
 let k5 : Int := (IntKind.wrap .i64 ((IntKind.wrap .i64 (s1.1 + 1)) + 1)).tmod 3
 bif (x4.2.2.1 != (k5 == 0)) then (
 some (.inr (.inr (-1))))
 else (
 let k6 : Int := IntKind.wrap .i64 ((IntKind.wrap .i64 ((IntKind.wrap .i64 (s1.1 + 1)) + 1)) + 1)
 some (.inl (k6, IntKind.wrap .i64 (s1.2 + 1))))))))
 else (
 some (.inr (.inl s1)))
def laws_heldSideS (a0 : (List T_Side.D)) (a1 : Int) : Option Int :=
(while_ (laws_heldSideS_l1 a0) (a1, 0)).bind fun o7 =>
 match o7 with
| .inl s8 => (
 some s8.1)
| .inr o9 => (
 some o9)
def laws_heldSideS_h : Hints := (.node none none .none (.node none none (.node none none .none (.node none none (.node none (some ⟨[.tmp 1 (.int .i64), .tmp 5 (.int .i64)], [some 0], some [.tmp 4 (.int .i64)], []⟩) .none .none) .none)) .none))
def laws_heldSideS_c : Ct := .pure true false (.pair (.slice T_Side) (.pair (.int .i64) .unit)) (.int .i64) (fun x => laws_heldSideS x.1 x.2.1)
theorem laws_heldSideS_ct : CtOk Try.prog 165 laws_heldSideS_c := pure_ct (E := { T := tab, G := [] }) (EnvOk.nil tabOk) mixed (fn := Try.f165) _ _ _ _ _ laws_heldSideS_h Try.func165 (by kernel_rfl) (fun x => by kernel_rfl)
/-! loop.example/g00486/laws.heldState -/
def laws_heldState (a0 : T_State.D) (a1 : Int) : Option Int :=
(laws_heldPieceS a0.1 a1).bind fun y1 =>
 bif decide (y1 < 0) then (
 some (-1))
 else (
(laws_heldSideS a0.2.1 y1).bind fun y2 =>
 bif decide (y2 < 0) then (
 some (-1))
 else (
 some y2))
def laws_heldState_c : Ct := .pure true false (.pair T_State (.pair (.int .i64) .unit)) (.int .i64) (fun x => laws_heldState x.1 x.2.1)
theorem laws_heldState_ct : CtOk Try.prog 54 laws_heldState_c := pure_ct (E := { T := tab, G := [(164, laws_heldPieceS_c), (165, laws_heldSideS_c)] }) (EnvOk.cons laws_heldPieceS_ct (EnvOk.cons laws_heldSideS_ct (EnvOk.nil tabOk))) mixed (fn := Try.f54) _ _ _ _ _ .none Try.func54 (by kernel_rfl) (fun x => by kernel_rfl)
/-! loop.example/g00486/laws.heldNoteS -/
def laws_heldNoteS_l1 (a0 : (List T_Note.D)) : (Int × Int) → Option ((Int × Int) ⊕ ((Int × Int) ⊕ Int)) := fun s1 =>
 bif decide (s1.2 < (a0.length : Int)) then (
 idx a0 s1.2 fun x2 =>
 bif (x2.1 != s1.1) then (
 some (.inr (.inr (-1))))
 else (
 idx a0 s1.2 fun x3 =>
 bif (x3.2.1.1 != (IntKind.wrap .i64 (s1.1 + 1))) then (
 some (.inr (.inr (-1))))
 else (
 idx a0 s1.2 fun x4 =>
 bif (x4.2.1.2.1 != (IntKind.wrap .i64 ((IntKind.wrap .i64 (s1.1 + 1)) + 1))) then (
 some (.inr (.inr (-1))))
 else (
 let k5 : Int := IntKind.wrap .i64 ((IntKind.wrap .i64 ((IntKind.wrap .i64 (s1.1 + 1)) + 1)) + 1)
 idx a0 s1.2 fun x6 =>
 bif (x6.2.1.2.2.1 != k5) then (
 some (.inr (.inr (-1))))
 else (
 idx a0 s1.2 fun x7 =>
 bif (x7.2.1.2.2.2.1 != (IntKind.wrap .i64 (k5 + 1))) then (
 some (.inr (.inr (-1))))
 else (
 idx a0 s1.2 fun x8 =>
 bif (x8.2.1.2.2.2.2.1 != (IntKind.wrap .i64 ((IntKind.wrap .i64 (k5 + 1)) + 1))) then (
 some (.inr (.inr (-1))))
 else (
 let k9 : Int := IntKind.wrap .i64 ((IntKind.wrap .i64 ((IntKind.wrap .i64 (k5 + 1)) + 1)) + 1)
 idx a0 s1.2 fun x10 =>
 bif (x10.2.1.2.2.2.2.2.1 != k9) then (
 some (.inr (.inr (-1))))
 else (
 idx a0 s1.2 fun x11 =>
 if 3 = 0 then none else (
 bif (x11.2.1.2.2.2.2.2.2.1 != (((IntKind.wrap .i64 (k9 + 1)).tmod 3) == 0)) then (
 some (.inr (.inr (-1))))
 else (
 idx a0 s1.2 fun x12 =>
 bif (x12.2.2.1 != (IntKind.wrap .i64 ((IntKind.wrap .i64 (k9 + 1)) + 1))) then (
 some (.inr (.inr (-1))))
 else (
 let k13 : Int := IntKind.wrap .i64 ((IntKind.wrap .i64 ((IntKind.wrap .i64 (k9 + 1)) + 1)) + 1)
 idx a0 s1.2 fun x14 =>
 bif (x14.2.2.2.1 != k13) then (
 some (.inr (.inr (-1))))
 else (
 idx a0 s1.2 fun x15 =>
 bif (x15.2.2.2.2.1.1 != (IntKind.wrap .i64 (k13 + 1))) then (
 some (.inr (.inr (-1))))
 else (
 idx a0 s1.2 fun x16 =>
 bif (x16.2.2.2.2.1.2.1 != (IntKind.wrap .i64 ((IntKind.wrap .i64 (k13 + 1)) + 1))) then (
 some (.inr (.inr (-1))))
 else (
 let k17 : Int := IntKind.wrap .i64 ((IntKind.wrap .i64 ((IntKind.wrap .i64 (k13 + 1)) + 1)) + 1)
 idx a0 s1.2 fun x18 =>
 bif (x18.2.2.2.2.1.2.2.1 != k17) then (
 some (.inr (.inr (-1))))
 else (
 idx a0 s1.2 fun x19 =>
 bif (x19.2.2.2.2.1.2.2.2.1 != (IntKind.wrap .i64 (k17 + 1))) then (
 some (.inr (.inr (-1))))
 else (
 idx a0 s1.2 fun x20 =>
 bif (x20.2.2.2.2.1.2.2.2.2.1 != (IntKind.wrap .i64 ((IntKind.wrap .i64 (k17 + 1)) + 1))) then (
 some (.inr (.inr (-1))))
 else (
 let k21 : Int := IntKind.wrap .i64 ((IntKind.wrap .i64 ((IntKind.wrap .i64 (k17 + 1)) + 1)) + 1)
 idx a0 s1.2 fun x22 =>
 bif (x22.2.2.2.2.1.2.2.2.2.2.1 != k21) then (
 some (.inr (.inr (-1))))
 else (
 idx a0 s1.2 fun x23 =>
 bif (x23.2.2.2.2.1.2.2.2.2.2.2.1 != (IntKind.wrap .i64 (k21 + 1))) then (
 some (.inr (.inr (-1))))
 else (
 idx a0 s1.2 fun x24 =>
 bif (x24.2.2.2.2.1.2.2.2.2.2.2.2.1 != (IntKind.wrap .i64 ((IntKind.wrap .i64 (k21 + 1)) + 1))) then (
 some (.inr (.inr (-1))))
 else (
 let k25 : Int := IntKind.wrap .i64 ((IntKind.wrap .i64 ((IntKind.wrap .i64 (k21 + 1)) + 1)) + 1)
 idx a0 s1.2 fun x26 =>
 bif (x26.2.2.2.2.1.2.2.2.2.2.2.2.2.1 != k25) then (
 some (.inr (.inr (-1))))
 else (
 idx a0 s1.2 fun x27 =>
 bif (x27.2.2.2.2.1.2.2.2.2.2.2.2.2.2.1 != (IntKind.wrap .i64 (k25 + 1))) then (
 some (.inr (.inr (-1))))
 else (
 idx a0 s1.2 fun x28 =>
 bif (x28.2.2.2.2.1.2.2.2.2.2.2.2.2.2.2.1 != (IntKind.wrap .i64 ((IntKind.wrap .i64 (k25 + 1)) + 1))) then (
 some (.inr (.inr (-1))))
 else (
 let k29 : Int := IntKind.wrap .i64 ((IntKind.wrap .i64 ((IntKind.wrap .i64 (k25 + 1)) + 1)) + 1)
 idx a0 s1.2 fun x30 =>
 if 3 = 0 then none else (
 bif (x30.2.2.2.2.1.2.2.2.2.2.2.2.2.2.2.2.1 != ((k29.tmod 3) == 0)) then (
 some (.inr (.inr (-1))))
 else (
 idx a0 s1.2 fun x31 =>
 if 3 = 0 then none else (
 bif (x31.2.2.2.2.1.2.2.2.2.2.2.2.2.2.2.2.2.1 != (((IntKind.wrap .i64 (k29 + 1)).tmod 3) == 0)) then (
 some (.inr (.inr (-1))))
 else (
 some (.inl (IntKind.wrap .i64 ((IntKind.wrap .i64 (k29 + 1)) + 1), IntKind.wrap .i64 (s1.2 + 1))))))))))))))))))))))))))))))
 else (
 some (.inr (.inl s1)))
def laws_heldNoteS (a0 : (List T_Note.D)) (a1 : Int) : Option Int :=
(while_ (laws_heldNoteS_l1 a0) (a1, 0)).bind fun o32 =>
 match o32 with
| .inl s33 => (
 some s33.1)
| .inr o34 => (
 some o34)
def laws_heldNoteS_h : Hints := (.node none none .none (.node none none (.node none none .none (.node none none (.node none (some ⟨[.tmp 1 (.int .i64), .tmp 5 (.int .i64)], [some 0], some [.tmp 4 (.int .i64)], []⟩) .none .none) .none)) .none))
def laws_heldNoteS_c : Ct := .pure true false (.pair (.slice T_Note) (.pair (.int .i64) .unit)) (.int .i64) (fun x => laws_heldNoteS x.1 x.2.1)
theorem laws_heldNoteS_ct : CtOk Try.prog 55 laws_heldNoteS_c := pure_ct (E := { T := tab, G := [] }) (EnvOk.nil tabOk) mixed (fn := Try.f55) _ _ _ _ _ laws_heldNoteS_h Try.func55 (by kernel_rfl) (fun x => by kernel_rfl)
/-! loop.example/g00486/laws.FnExactCommit -/
def laws_FnExactCommit (a0 : T_State.D) (a1 : (List T_Event.D)) : Option Bool :=
(laws_szState a0 1048576).bind fun y1 =>
 bif decide (y1 < 0) then (
 some true)
 else (
(laws_szEventS a1 y1).bind fun y2 =>
 bif decide (y2 < 0) then (
 some true)
 else (
(laws_toState a0).bind fun y3 =>
(laws_toEventS a1).bind fun y4 =>
(spec_Commit y3 y4).bind fun y5 =>
(laws_toState a0).bind fun y6 =>
(laws_toEventS a1).bind fun y7 =>
(impl_Commit y6 y7).bind fun y8 =>
(((laws_eqState y8.1 y5.1).bind fun y9 =>
 bif (!y9) then (
 some true)
 else (
(laws_eqNoteS y8.2.1 y5.2.1).bind fun y10 =>
 some (!y10))) : Option Bool).bind fun o11 =>
 bif o11 then (
 some false)
 else (
(laws_toState a0).bind fun y12 =>
(laws_eqState y6 y12).bind fun y13 =>
 bif (!y13) then (
 some false)
 else (
(laws_toEventS a1).bind fun y14 =>
(laws_eqEventS y7 y14).bind fun y15 =>
 bif (!y15) then (
 some false)
 else (
(laws_markState y6 1).bind fun y16 =>
(laws_markEventS y7 y16.1).bind fun y17 =>
((bif decide (y17.1 < 0) then (
 some true)
 else (
(laws_eqState y8.1 y5.1).bind fun y18 =>
 bif (!y18) then (
 some true)
 else (
(laws_eqNoteS y8.2.1 y5.2.1).bind fun y19 =>
 some (!y19)))) : Option Bool).bind fun o20 =>
 bif o20 then (
 some false)
 else (
(laws_markState y8.1 1).bind fun y21 =>
(laws_markNoteS y8.2.1 y21.1).bind fun y22 =>
(laws_heldState (y21.2.1.1, y21.2.1.2.1, y8.1.2.2) 1).bind fun y23 =>
 bif decide (y23 < 0) then (
 some false)
 else (
(laws_heldNoteS y22.2.1 y23).bind fun y24 =>
 bif decide (y24 < 0) then (
 some false)
 else (
 bif (y24 != y22.1) then (
 some false)
 else (
(laws_toState a0).bind fun y25 =>
(laws_toEventS a1).bind fun y26 =>
(impl_Commit y25 y26).bind fun y27 =>
(((laws_eqState y27.1 y5.1).bind fun y28 =>
 bif (!y28) then (
 some true)
 else (
(laws_eqNoteS y27.2.1 y5.2.1).bind fun y29 =>
 some (!y29))) : Option Bool).bind fun o30 =>
 bif o30 then (
 some false)
 else (
(laws_heldState (y21.2.1.1, y21.2.1.2.1, y8.1.2.2) 1).bind fun y31 =>
 bif decide (y31 < 0) then (
 some false)
 else (
(laws_heldNoteS y22.2.1 y31).bind fun y32 =>
 bif decide (y32 < 0) then (
 some false)
 else (
 bif (y32 != y22.1) then (
 some false)
 else (
 some true)))))))))))))
def laws_FnExactCommit_h : Hints := (.node none none .none (.node none none .none (.node none none .none (.node none none .none (.node none none .none (.node none none .none (.node none none .none (.node none none .none (.node none none .none (.node none none .none (.node none none (.node none none (.node (some ⟨[.tmp 54 .bool], [none], none, []⟩) none .none .none) .none) (.node none none .none (.node none none .none (.node none none .none (.node none none .none (.node none none .none (.node none none (.node none none (.node (some ⟨[.tmp 84 .bool], [none], none, []⟩) none .none .none) .none) (.node none none .none (.node none none .none (.node none none .none (.node none none .none (.node none none .none (.node none none .none (.node none none .none (.node none none .none (.node none none .none (.node none none .none (.node none none (.node none none (.node (some ⟨[.tmp 121 .bool], [none], none, []⟩) none .none .none) .none) .none))))))))))))))))))))))))))))
def laws_FnExactCommit_c : Ct := .pure true false (.pair T_State (.pair (.slice T_Event) .unit)) .bool (fun x => laws_FnExactCommit x.1 x.2.1)
theorem laws_FnExactCommit_ct : CtOk Try.prog 6 laws_FnExactCommit_c := pure_ct (E := { T := tab, G := [(33, laws_szState_c), (35, laws_toState_fresh_c), (40, laws_eqState_c), (41, laws_markState_c), (46, laws_szEventS_c), (47, spec_Commit_fresh_c), (48, laws_toEventS_fresh_c), (49, impl_Commit_fresh_c), (50, laws_eqNoteS_c), (51, laws_eqEventS_c), (52, laws_markEventS_c), (53, laws_markNoteS_c), (54, laws_heldState_c), (55, laws_heldNoteS_c)] }) (EnvOk.cons laws_szState_ct (EnvOk.cons laws_toState_fresh_ct (EnvOk.cons laws_eqState_ct (EnvOk.cons laws_markState_ct (EnvOk.cons laws_szEventS_ct (EnvOk.cons spec_Commit_fresh_ct (EnvOk.cons laws_toEventS_fresh_ct (EnvOk.cons impl_Commit_fresh_ct (EnvOk.cons laws_eqNoteS_ct (EnvOk.cons laws_eqEventS_ct (EnvOk.cons laws_markEventS_ct (EnvOk.cons laws_markNoteS_ct (EnvOk.cons laws_heldState_ct (EnvOk.cons laws_heldNoteS_ct (EnvOk.nil tabOk))))))))))))))) mixed (fn := Try.f6) _ _ _ _ _ laws_FnExactCommit_h Try.func6 (by kernel_rfl) (fun x => by kernel_rfl)
end
end Go.Abs
