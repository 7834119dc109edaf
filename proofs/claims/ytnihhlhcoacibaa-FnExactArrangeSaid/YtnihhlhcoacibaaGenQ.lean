import Derived.Test.YtnihhlhcoacibaaProg
import Derived.Test.YtnihhlhcoacibaaAbsTab
set_option linter.unusedVariables false
set_option linter.unusedSimpArgs false
namespace Go.Abs
open Go.Proofs
set_option maxRecDepth 100000
noncomputable section
@[reducible] def T_Piece : Ty := (.pair (.int .i64) (.pair (.int .i64) (.pair (.int .i64) (.pair (.int .i64) (.pair (.int .i64) (.pair (.int .i64) (.pair (.int .i64) (.pair (.int .i64) (.pair (.int .i64) (.pair (.int .i64) (.pair (.int .i64) (.pair .bool (.pair .bool .unit)))))))))))))
@[reducible] def T_Side : Ty := (.pair (.int .i64) (.pair (.int .i64) (.pair .bool .unit)))
@[reducible] def T_State : Ty := (.pair (.slice T_Piece) (.pair (.slice T_Side) (.pair (.int .i64) (.pair (.int .i64) .unit))))
@[reducible] def T_Trigger : Ty := (.pair (.int .i64) (.pair (.int .i64) (.pair (.int .i64) (.pair T_Piece .unit))))
@[reducible] def T_l1Cur : Ty := (.pair (.slice (.int .u8)) (.pair (.int .i64) (.pair (.int .i64) .unit)))
@[reducible] def T_S7 : Ty := (.pair (.int .i64) (.pair (.int .i64) (.pair .bool (.pair (.int .u8) .unit))))
@[reducible] def T_Event : Ty := (.pair (.int .i64) (.pair (.int .i64) (.pair (.int .i64) (.pair (.int .i64) (.pair (.int .i64) (.pair (.int .i64) (.pair .bool .unit)))))))
@[reducible] def T_Note : Ty := (.pair (.int .i64) (.pair T_Event (.pair (.int .i64) (.pair (.int .i64) (.pair T_Piece .unit)))))
@[reducible] def T_Pat : Ty := (.pair (.int .i64) (.pair (.int .i64) (.pair (.int .i64) (.pair (.int .i64) (.pair (.int .i64) (.pair (.int .i64) (.pair (.int .i64) .unit)))))))
@[reducible] def T_Guard : Ty := (.pair (.int .i64) (.pair (.int .i64) .unit))
@[reducible] def T_Act : Ty := (.pair (.int .i64) (.pair (.int .i64) (.pair (.int .i64) (.pair (.int .i64) (.pair (.int .i64) (.pair .bool (.pair (.slice T_Event) .unit)))))))
@[reducible] def T_Effect : Ty := (.pair (.int .i64) (.pair (.int .i64) (.pair (.int .i64) (.pair (.int .i64) (.pair T_Pat (.pair T_Guard (.pair T_Act (.pair (.int .i64) (.pair (.int .i64) .unit)))))))))
@[reducible] def T_Turn : Ty := (.pair (.int .i64) (.pair (.int .i64) (.pair (.int .i64) (.pair (.int .i64) (.pair T_Event (.pair (.slice T_Event) (.pair (.int .i64) (.pair (.int .i64) .unit))))))))
@[reducible] def T_S105 : Ty := (.pair (.slice T_Event) (.pair (.slice T_Effect) (.pair (.slice (.int .i64)) (.pair (.slice T_Turn) .unit))))
@[reducible] def T_S120 : Ty := (.pair T_State (.pair (.slice T_Effect) (.pair (.slice (.int .i64)) (.pair (.slice T_Trigger) (.pair (.slice T_Note) (.pair (.slice T_Turn) .unit))))))
def tab : Tab := [
  (1, ⟨.other, 1, 0, .unit, [.undef]⟩),
  (2, ⟨.int .i64, 1, 0, (.int .i64), [.int .i64 0]⟩),
  (3, ⟨.int .i64, 1, 0, (.int .i64), [.int .i64 0]⟩),
  (4, ⟨.bool, 1, 0, .bool, [.bool false]⟩),
  (5, ⟨.int .u8, 1, 0, (.int .u8), [.int .u8 0]⟩),
  (6, ⟨.int .u8, 1, 0, (.int .u8), [.int .u8 0]⟩),
  (7, ⟨.struct [(0, 2), (1, 3), (2, 4), (3, 6)], 4, 0, T_S7, [.int .i64 0, .int .i64 0, .bool false, .int .u8 0]⟩),
  (8, ⟨.struct [(0, 2), (1, 3), (2, 4), (3, 6)], 4, 0, T_S7, [.int .i64 0, .int .i64 0, .bool false, .int .u8 0]⟩),
  (12, ⟨.int .u64, 1, 0, (.int .u64), [.int .u64 0]⟩),
  (15, ⟨.other, 1, 0, .unit, [.undef]⟩),
  (16, ⟨.other, 1, 0, .unit, [.undef]⟩),
  (17, ⟨.other, 1, 0, .unit, [.undef]⟩),
  (21, ⟨.int .i32, 1, 0, (.int .i32), [.int .i32 0]⟩),
  (22, ⟨.slice 5, 1, 0, (.slice (.int .u8)), [.nil]⟩),
  (23, ⟨.other, 1, 0, .unit, [.undef]⟩),
  (24, ⟨.slice 37, 1, 0, (.slice T_Piece), [.nil]⟩),
  (25, ⟨.slice 101, 1, 0, (.slice T_Side), [.nil]⟩),
  (26, ⟨.struct [(0, 24), (1, 25), (2, 3), (3, 3)], 4, 0, T_State, [.nil, .nil, .int .i64 0, .int .i64 0]⟩),
  (27, ⟨.struct [(0, 24), (1, 25), (2, 3), (3, 3)], 4, 0, T_State, [.nil, .nil, .int .i64 0, .int .i64 0]⟩),
  (28, ⟨.slice 88, 1, 0, (.slice T_Note), [.nil]⟩),
  (30, ⟨.other, 1, 0, .unit, [.undef]⟩),
  (31, ⟨.slice 39, 1, 0, (.slice T_Trigger), [.nil]⟩),
  (32, ⟨.other, 1, 0, .unit, [.undef]⟩),
  (33, ⟨.other, 1, 0, .unit, [.undef]⟩),
  (34, ⟨.other, 1, 0, .unit, [.undef]⟩),
  (35, ⟨.other, 1, 0, .unit, [.undef]⟩),
  (36, ⟨.struct [(0, 3), (1, 3), (2, 3), (3, 3), (4, 3), (5, 3), (6, 3), (7, 3), (8, 3), (9, 3), (10, 3), (11, 4), (12, 4)], 13, 0, T_Piece, [.int .i64 0, .int .i64 0, .int .i64 0, .int .i64 0, .int .i64 0, .int .i64 0, .int .i64 0, .int .i64 0, .int .i64 0, .int .i64 0, .int .i64 0, .bool false, .bool false]⟩),
  (37, ⟨.struct [(0, 3), (1, 3), (2, 3), (3, 3), (4, 3), (5, 3), (6, 3), (7, 3), (8, 3), (9, 3), (10, 3), (11, 4), (12, 4)], 13, 0, T_Piece, [.int .i64 0, .int .i64 0, .int .i64 0, .int .i64 0, .int .i64 0, .int .i64 0, .int .i64 0, .int .i64 0, .int .i64 0, .int .i64 0, .int .i64 0, .bool false, .bool false]⟩),
  (38, ⟨.struct [(0, 3), (1, 3), (2, 3), (3, 37)], 16, 0, T_Trigger, [.int .i64 0, .int .i64 0, .int .i64 0, .int .i64 0, .int .i64 0, .int .i64 0, .int .i64 0, .int .i64 0, .int .i64 0, .int .i64 0, .int .i64 0, .int .i64 0, .int .i64 0, .int .i64 0, .bool false, .bool false]⟩),
  (39, ⟨.struct [(0, 3), (1, 3), (2, 3), (3, 37)], 16, 0, T_Trigger, [.int .i64 0, .int .i64 0, .int .i64 0, .int .i64 0, .int .i64 0, .int .i64 0, .int .i64 0, .int .i64 0, .int .i64 0, .int .i64 0, .int .i64 0, .int .i64 0, .int .i64 0, .int .i64 0, .bool false, .bool false]⟩),
  (40, ⟨.slice 3, 1, 0, (.slice (.int .i64)), [.nil]⟩),
  (42, ⟨.other, 1, 0, .unit, [.undef]⟩),
  (44, ⟨.other, 1, 0, .unit, [.undef]⟩),
  (45, ⟨.other, 1, 0, .unit, [.undef]⟩),
  (47, ⟨.other, 1, 0, .unit, [.undef]⟩),
  (49, ⟨.other, 1, 0, .unit, [.undef]⟩),
  (50, ⟨.other, 1, 0, .unit, [.undef]⟩),
  (51, ⟨.other, 1, 0, .unit, [.undef]⟩),
  (52, ⟨.slice 170, 1, 0, (.slice T_Piece), [.nil]⟩),
  (53, ⟨.slice 241, 1, 0, (.slice T_Side), [.nil]⟩),
  (54, ⟨.struct [(0, 52), (1, 53), (2, 3), (3, 3)], 4, 0, T_State, [.nil, .nil, .int .i64 0, .int .i64 0]⟩),
  (55, ⟨.struct [(0, 52), (1, 53), (2, 3), (3, 3)], 4, 0, T_State, [.nil, .nil, .int .i64 0, .int .i64 0]⟩),
  (56, ⟨.slice 172, 1, 0, (.slice T_Trigger), [.nil]⟩),
  (57, ⟨.other, 1, 0, .unit, [.undef]⟩),
  (58, ⟨.other, 1, 0, .unit, [.undef]⟩),
  (59, ⟨.other, 1, 0, .unit, [.undef]⟩),
  (60, ⟨.other, 1, 0, .unit, [.undef]⟩),
  (61, ⟨.other, 1, 0, .unit, [.undef]⟩),
  (62, ⟨.other, 1, 0, .unit, [.undef]⟩),
  (63, ⟨.other, 1, 0, .unit, [.undef]⟩),
  (64, ⟨.other, 1, 0, .unit, [.undef]⟩),
  (65, ⟨.other, 1, 0, .unit, [.undef]⟩),
  (66, ⟨.other, 1, 0, .unit, [.undef]⟩),
  (67, ⟨.slice 183, 1, 0, (.slice T_Event), [.nil]⟩),
  (68, ⟨.other, 1, 0, .unit, [.undef]⟩),
  (69, ⟨.other, 1, 0, .unit, [.undef]⟩),
  (70, ⟨.slice 86, 1, 0, (.slice T_Event), [.nil]⟩),
  (71, ⟨.other, 1, 0, .unit, [.undef]⟩),
  (72, ⟨.other, 1, 0, .unit, [.undef]⟩),
  (73, ⟨.other, 1, 0, .unit, [.undef]⟩),
  (74, ⟨.other, 1, 0, .unit, [.undef]⟩),
  (75, ⟨.other, 1, 0, .unit, [.undef]⟩),
  (76, ⟨.other, 1, 0, .unit, [.undef]⟩),
  (78, ⟨.other, 1, 0, .unit, [.undef]⟩),
  (80, ⟨.other, 1, 0, .unit, [.undef]⟩),
  (82, ⟨.other, 1, 0, .unit, [.undef]⟩),
  (83, ⟨.other, 1, 0, .unit, [.undef]⟩),
  (84, ⟨.other, 1, 0, .unit, [.undef]⟩),
  (85, ⟨.struct [(0, 3), (1, 3), (2, 3), (3, 3), (4, 3), (5, 3), (6, 4)], 7, 0, T_Event, [.int .i64 0, .int .i64 0, .int .i64 0, .int .i64 0, .int .i64 0, .int .i64 0, .bool false]⟩),
  (86, ⟨.struct [(0, 3), (1, 3), (2, 3), (3, 3), (4, 3), (5, 3), (6, 4)], 7, 0, T_Event, [.int .i64 0, .int .i64 0, .int .i64 0, .int .i64 0, .int .i64 0, .int .i64 0, .bool false]⟩),
  (87, ⟨.struct [(0, 3), (1, 86), (8, 3), (9, 3), (10, 37)], 23, 0, T_Note, [.int .i64 0, .int .i64 0, .int .i64 0, .int .i64 0, .int .i64 0, .int .i64 0, .int .i64 0, .bool false, .int .i64 0, .int .i64 0, .int .i64 0, .int .i64 0, .int .i64 0, .int .i64 0, .int .i64 0, .int .i64 0, .int .i64 0, .int .i64 0, .int .i64 0, .int .i64 0, .int .i64 0, .bool false, .bool false]⟩),
  (88, ⟨.struct [(0, 3), (1, 86), (8, 3), (9, 3), (10, 37)], 23, 0, T_Note, [.int .i64 0, .int .i64 0, .int .i64 0, .int .i64 0, .int .i64 0, .int .i64 0, .int .i64 0, .bool false, .int .i64 0, .int .i64 0, .int .i64 0, .int .i64 0, .int .i64 0, .int .i64 0, .int .i64 0, .int .i64 0, .int .i64 0, .int .i64 0, .int .i64 0, .int .i64 0, .int .i64 0, .bool false, .bool false]⟩),
  (89, ⟨.other, 1, 0, .unit, [.undef]⟩),
  (90, ⟨.other, 1, 0, .unit, [.undef]⟩),
  (91, ⟨.other, 1, 0, .unit, [.undef]⟩),
  (92, ⟨.other, 1, 0, .unit, [.undef]⟩),
  (93, ⟨.other, 1, 0, .unit, [.undef]⟩),
  (94, ⟨.other, 1, 0, .unit, [.undef]⟩),
  (95, ⟨.other, 1, 0, .unit, [.undef]⟩),
  (97, ⟨.other, 1, 0, .unit, [.undef]⟩),
  (98, ⟨.other, 1, 0, .unit, [.undef]⟩),
  (99, ⟨.other, 1, 0, .unit, [.undef]⟩),
  (100, ⟨.struct [(0, 3), (1, 3), (2, 4)], 3, 0, T_Side, [.int .i64 0, .int .i64 0, .bool false]⟩),
  (101, ⟨.struct [(0, 3), (1, 3), (2, 4)], 3, 0, T_Side, [.int .i64 0, .int .i64 0, .bool false]⟩),
  (102, ⟨.other, 1, 0, .unit, [.undef]⟩),
  (103, ⟨.slice 217, 1, 0, (.slice T_Effect), [.nil]⟩),
  (104, ⟨.slice 256, 1, 0, (.slice T_Turn), [.nil]⟩),
  (105, ⟨.struct [(0, 67), (1, 103), (2, 40), (3, 104)], 4, 0, T_S105, [.nil, .nil, .nil, .nil]⟩),
  (106, ⟨.struct [(0, 67), (1, 103), (2, 40), (3, 104)], 4, 0, T_S105, [.nil, .nil, .nil, .nil]⟩),
  (107, ⟨.other, 1, 0, .unit, [.undef]⟩),
  (108, ⟨.other, 1, 0, .unit, [.undef]⟩),
  (109, ⟨.slice 136, 1, 0, (.slice T_Effect), [.nil]⟩),
  (110, ⟨.slice 210, 1, 0, (.slice T_Turn), [.nil]⟩),
  (111, ⟨.struct [(0, 70), (1, 109), (2, 40), (3, 110)], 4, 0, T_S105, [.nil, .nil, .nil, .nil]⟩),
  (112, ⟨.struct [(0, 70), (1, 109), (2, 40), (3, 110)], 4, 0, T_S105, [.nil, .nil, .nil, .nil]⟩),
  (113, ⟨.other, 1, 0, .unit, [.undef]⟩),
  (114, ⟨.other, 1, 0, .unit, [.undef]⟩),
  (115, ⟨.other, 1, 0, .unit, [.undef]⟩),
  (116, ⟨.other, 1, 0, .unit, [.undef]⟩),
  (117, ⟨.other, 1, 0, .unit, [.undef]⟩),
  (118, ⟨.other, 1, 0, .unit, [.undef]⟩),
  (119, ⟨.other, 1, 0, .unit, [.undef]⟩),
  (120, ⟨.struct [(0, 27), (4, 109), (5, 40), (6, 31), (7, 28), (8, 110)], 9, 0, T_S120, [.nil, .nil, .int .i64 0, .int .i64 0, .nil, .nil, .nil, .nil, .nil]⟩),
  (121, ⟨.struct [(0, 27), (4, 109), (5, 40), (6, 31), (7, 28), (8, 110)], 9, 0, T_S120, [.nil, .nil, .int .i64 0, .int .i64 0, .nil, .nil, .nil, .nil, .nil]⟩),
  (122, ⟨.other, 1, 0, .unit, [.undef]⟩),
  (123, ⟨.other, 1, 0, .unit, [.undef]⟩),
  (124, ⟨.other, 1, 0, .unit, [.undef]⟩),
  (125, ⟨.other, 1, 0, .unit, [.undef]⟩),
  (126, ⟨.other, 1, 0, .unit, [.undef]⟩),
  (127, ⟨.other, 1, 0, .unit, [.undef]⟩),
  (128, ⟨.other, 1, 0, .unit, [.undef]⟩),
  (129, ⟨.struct [(0, 3), (1, 3), (2, 3), (3, 3), (4, 3), (5, 3), (6, 3)], 7, 0, T_Pat, [.int .i64 0, .int .i64 0, .int .i64 0, .int .i64 0, .int .i64 0, .int .i64 0, .int .i64 0]⟩),
  (130, ⟨.struct [(0, 3), (1, 3), (2, 3), (3, 3), (4, 3), (5, 3), (6, 3)], 7, 0, T_Pat, [.int .i64 0, .int .i64 0, .int .i64 0, .int .i64 0, .int .i64 0, .int .i64 0, .int .i64 0]⟩),
  (131, ⟨.struct [(0, 3), (1, 3)], 2, 0, T_Guard, [.int .i64 0, .int .i64 0]⟩),
  (132, ⟨.struct [(0, 3), (1, 3)], 2, 0, T_Guard, [.int .i64 0, .int .i64 0]⟩),
  (133, ⟨.struct [(0, 3), (1, 3), (2, 3), (3, 3), (4, 3), (5, 4), (6, 70)], 7, 0, T_Act, [.int .i64 0, .int .i64 0, .int .i64 0, .int .i64 0, .int .i64 0, .bool false, .nil]⟩),
  (134, ⟨.struct [(0, 3), (1, 3), (2, 3), (3, 3), (4, 3), (5, 4), (6, 70)], 7, 0, T_Act, [.int .i64 0, .int .i64 0, .int .i64 0, .int .i64 0, .int .i64 0, .bool false, .nil]⟩),
  (135, ⟨.struct [(0, 3), (1, 3), (2, 3), (3, 3), (4, 130), (11, 132), (13, 134), (20, 3), (21, 3)], 22, 0, T_Effect, [.int .i64 0, .int .i64 0, .int .i64 0, .int .i64 0, .int .i64 0, .int .i64 0, .int .i64 0, .int .i64 0, .int .i64 0, .int .i64 0, .int .i64 0, .int .i64 0, .int .i64 0, .int .i64 0, .int .i64 0, .int .i64 0, .int .i64 0, .int .i64 0, .bool false, .nil, .int .i64 0, .int .i64 0]⟩),
  (136, ⟨.struct [(0, 3), (1, 3), (2, 3), (3, 3), (4, 130), (11, 132), (13, 134), (20, 3), (21, 3)], 22, 0, T_Effect, [.int .i64 0, .int .i64 0, .int .i64 0, .int .i64 0, .int .i64 0, .int .i64 0, .int .i64 0, .int .i64 0, .int .i64 0, .int .i64 0, .int .i64 0, .int .i64 0, .int .i64 0, .int .i64 0, .int .i64 0, .int .i64 0, .int .i64 0, .int .i64 0, .bool false, .nil, .int .i64 0, .int .i64 0]⟩),
  (138, ⟨.other, 1, 0, .unit, [.undef]⟩),
  (140, ⟨.other, 1, 0, .unit, [.undef]⟩),
  (141, ⟨.other, 1, 0, .unit, [.undef]⟩),
  (142, ⟨.other, 1, 0, .unit, [.undef]⟩),
  (143, ⟨.other, 1, 0, .unit, [.undef]⟩),
  (144, ⟨.other, 1, 0, .unit, [.undef]⟩),
  (145, ⟨.other, 1, 0, .unit, [.undef]⟩),
  (146, ⟨.other, 1, 0, .unit, [.undef]⟩),
  (147, ⟨.other, 1, 0, .unit, [.undef]⟩),
  (148, ⟨.other, 1, 0, .unit, [.undef]⟩),
  (149, ⟨.other, 1, 0, .unit, [.undef]⟩),
  (150, ⟨.other, 1, 0, .unit, [.undef]⟩),
  (151, ⟨.other, 1, 0, .unit, [.undef]⟩),
  (152, ⟨.other, 1, 0, .unit, [.undef]⟩),
  (154, ⟨.other, 1, 0, .unit, [.undef]⟩),
  (155, ⟨.other, 1, 0, .unit, [.undef]⟩),
  (156, ⟨.other, 1, 0, .unit, [.undef]⟩),
  (157, ⟨.other, 1, 0, .unit, [.undef]⟩),
  (158, ⟨.other, 1, 0, .unit, [.undef]⟩),
  (160, ⟨.other, 1, 0, .unit, [.undef]⟩),
  (161, ⟨.other, 1, 0, .unit, [.undef]⟩),
  (162, ⟨.other, 1, 0, .unit, [.undef]⟩),
  (163, ⟨.other, 1, 0, .unit, [.undef]⟩),
  (164, ⟨.other, 1, 0, .unit, [.undef]⟩),
  (165, ⟨.other, 1, 0, .unit, [.undef]⟩),
  (166, ⟨.other, 1, 0, .unit, [.undef]⟩),
  (167, ⟨.other, 1, 0, .unit, [.undef]⟩),
  (168, ⟨.other, 1, 0, .unit, [.undef]⟩),
  (169, ⟨.other, 1, 0, .unit, [.undef]⟩),
  (170, ⟨.struct [(0, 3), (1, 3), (2, 3), (3, 3), (4, 3), (5, 3), (6, 3), (7, 3), (8, 3), (9, 3), (10, 3), (11, 4), (12, 4)], 13, 0, T_Piece, [.int .i64 0, .int .i64 0, .int .i64 0, .int .i64 0, .int .i64 0, .int .i64 0, .int .i64 0, .int .i64 0, .int .i64 0, .int .i64 0, .int .i64 0, .bool false, .bool false]⟩),
  (171, ⟨.struct [(0, 3), (1, 3), (2, 3), (3, 170)], 16, 0, T_Trigger, [.int .i64 0, .int .i64 0, .int .i64 0, .int .i64 0, .int .i64 0, .int .i64 0, .int .i64 0, .int .i64 0, .int .i64 0, .int .i64 0, .int .i64 0, .int .i64 0, .int .i64 0, .int .i64 0, .bool false, .bool false]⟩),
  (172, ⟨.struct [(0, 3), (1, 3), (2, 3), (3, 170)], 16, 0, T_Trigger, [.int .i64 0, .int .i64 0, .int .i64 0, .int .i64 0, .int .i64 0, .int .i64 0, .int .i64 0, .int .i64 0, .int .i64 0, .int .i64 0, .int .i64 0, .int .i64 0, .int .i64 0, .int .i64 0, .bool false, .bool false]⟩),
  (173, ⟨.other, 1, 0, .unit, [.undef]⟩),
  (174, ⟨.other, 1, 0, .unit, [.undef]⟩),
  (175, ⟨.other, 1, 0, .unit, [.undef]⟩),
  (176, ⟨.other, 1, 0, .unit, [.undef]⟩),
  (177, ⟨.other, 1, 0, .unit, [.undef]⟩),
  (179, ⟨.other, 1, 0, .unit, [.undef]⟩),
  (181, ⟨.other, 1, 0, .unit, [.undef]⟩),
  (182, ⟨.other, 1, 0, .unit, [.undef]⟩),
  (183, ⟨.struct [(0, 3), (1, 3), (2, 3), (3, 3), (4, 3), (5, 3), (6, 4)], 7, 0, T_Event, [.int .i64 0, .int .i64 0, .int .i64 0, .int .i64 0, .int .i64 0, .int .i64 0, .bool false]⟩),
  (184, ⟨.other, 1, 0, .unit, [.undef]⟩),
  (185, ⟨.other, 1, 0, .unit, [.undef]⟩),
  (186, ⟨.other, 1, 0, .unit, [.undef]⟩),
  (187, ⟨.other, 1, 0, .unit, [.undef]⟩),
  (188, ⟨.other, 1, 0, .unit, [.undef]⟩),
  (189, ⟨.other, 1, 0, .unit, [.undef]⟩),
  (190, ⟨.other, 1, 0, .unit, [.undef]⟩),
  (191, ⟨.other, 1, 0, .unit, [.undef]⟩),
  (192, ⟨.other, 1, 0, .unit, [.undef]⟩),
  (193, ⟨.other, 1, 0, .unit, [.undef]⟩),
  (194, ⟨.other, 1, 0, .unit, [.undef]⟩),
  (195, ⟨.other, 1, 0, .unit, [.undef]⟩),
  (196, ⟨.other, 1, 0, .unit, [.undef]⟩),
  (197, ⟨.other, 1, 0, .unit, [.undef]⟩),
  (198, ⟨.other, 1, 0, .unit, [.undef]⟩),
  (199, ⟨.other, 1, 0, .unit, [.undef]⟩),
  (200, ⟨.other, 1, 0, .unit, [.undef]⟩),
  (201, ⟨.other, 1, 0, .unit, [.undef]⟩),
  (202, ⟨.other, 1, 0, .unit, [.undef]⟩),
  (203, ⟨.other, 1, 0, .unit, [.undef]⟩),
  (204, ⟨.other, 1, 0, .unit, [.undef]⟩),
  (205, ⟨.other, 1, 0, .unit, [.undef]⟩),
  (206, ⟨.other, 1, 0, .unit, [.undef]⟩),
  (207, ⟨.other, 1, 0, .unit, [.undef]⟩),
  (208, ⟨.other, 1, 0, .unit, [.undef]⟩),
  (209, ⟨.struct [(0, 3), (1, 3), (2, 3), (3, 3), (4, 86), (11, 70), (12, 3), (13, 3)], 14, 0, T_Turn, [.int .i64 0, .int .i64 0, .int .i64 0, .int .i64 0, .int .i64 0, .int .i64 0, .int .i64 0, .int .i64 0, .int .i64 0, .int .i64 0, .bool false, .nil, .int .i64 0, .int .i64 0]⟩),
  (210, ⟨.struct [(0, 3), (1, 3), (2, 3), (3, 3), (4, 86), (11, 70), (12, 3), (13, 3)], 14, 0, T_Turn, [.int .i64 0, .int .i64 0, .int .i64 0, .int .i64 0, .int .i64 0, .int .i64 0, .int .i64 0, .int .i64 0, .int .i64 0, .int .i64 0, .bool false, .nil, .int .i64 0, .int .i64 0]⟩),
  (211, ⟨.other, 1, 0, .unit, [.undef]⟩),
  (212, ⟨.struct [(0, 3), (1, 3), (2, 3), (3, 3), (4, 3), (5, 3), (6, 3)], 7, 0, T_Pat, [.int .i64 0, .int .i64 0, .int .i64 0, .int .i64 0, .int .i64 0, .int .i64 0, .int .i64 0]⟩),
  (213, ⟨.struct [(0, 3), (1, 3)], 2, 0, T_Guard, [.int .i64 0, .int .i64 0]⟩),
  (214, ⟨.struct [(0, 3), (1, 3), (2, 3), (3, 3), (4, 3), (5, 4), (6, 67)], 7, 0, T_Act, [.int .i64 0, .int .i64 0, .int .i64 0, .int .i64 0, .int .i64 0, .bool false, .nil]⟩),
  (215, ⟨.struct [(0, 3), (1, 3), (2, 3), (3, 3), (4, 3), (5, 4), (6, 67)], 7, 0, T_Act, [.int .i64 0, .int .i64 0, .int .i64 0, .int .i64 0, .int .i64 0, .bool false, .nil]⟩),
  (216, ⟨.struct [(0, 3), (1, 3), (2, 3), (3, 3), (4, 212), (11, 213), (13, 215), (20, 3), (21, 3)], 22, 0, T_Effect, [.int .i64 0, .int .i64 0, .int .i64 0, .int .i64 0, .int .i64 0, .int .i64 0, .int .i64 0, .int .i64 0, .int .i64 0, .int .i64 0, .int .i64 0, .int .i64 0, .int .i64 0, .int .i64 0, .int .i64 0, .int .i64 0, .int .i64 0, .int .i64 0, .bool false, .nil, .int .i64 0, .int .i64 0]⟩),
  (217, ⟨.struct [(0, 3), (1, 3), (2, 3), (3, 3), (4, 212), (11, 213), (13, 215), (20, 3), (21, 3)], 22, 0, T_Effect, [.int .i64 0, .int .i64 0, .int .i64 0, .int .i64 0, .int .i64 0, .int .i64 0, .int .i64 0, .int .i64 0, .int .i64 0, .int .i64 0, .int .i64 0, .int .i64 0, .int .i64 0, .int .i64 0, .int .i64 0, .int .i64 0, .int .i64 0, .int .i64 0, .bool false, .nil, .int .i64 0, .int .i64 0]⟩),
  (218, ⟨.other, 1, 0, .unit, [.undef]⟩),
  (219, ⟨.other, 1, 0, .unit, [.undef]⟩),
  (220, ⟨.other, 1, 0, .unit, [.undef]⟩),
  (222, ⟨.other, 1, 0, .unit, [.undef]⟩),
  (223, ⟨.other, 1, 0, .unit, [.undef]⟩),
  (224, ⟨.other, 1, 0, .unit, [.undef]⟩),
  (225, ⟨.other, 1, 0, .unit, [.undef]⟩),
  (226, ⟨.other, 1, 0, .unit, [.undef]⟩),
  (227, ⟨.other, 1, 0, .unit, [.undef]⟩),
  (228, ⟨.other, 1, 0, .unit, [.undef]⟩),
  (229, ⟨.other, 1, 0, .unit, [.undef]⟩),
  (230, ⟨.other, 1, 0, .unit, [.undef]⟩),
  (231, ⟨.struct [(0, 22), (1, 3), (2, 3)], 3, 0, T_l1Cur, [.nil, .int .i64 0, .int .i64 0]⟩),
  (232, ⟨.struct [(0, 22), (1, 3), (2, 3)], 3, 0, T_l1Cur, [.nil, .int .i64 0, .int .i64 0]⟩),
  (233, ⟨.other, 1, 0, .unit, [.undef]⟩),
  (234, ⟨.other, 1, 0, .unit, [.undef]⟩),
  (235, ⟨.other, 1, 0, .unit, [.undef]⟩),
  (236, ⟨.other, 1, 0, .unit, [.undef]⟩),
  (237, ⟨.other, 1, 0, .unit, [.undef]⟩),
  (238, ⟨.other, 1, 0, .unit, [.undef]⟩),
  (239, ⟨.other, 1, 0, .unit, [.undef]⟩),
  (240, ⟨.other, 1, 0, .unit, [.undef]⟩),
  (241, ⟨.struct [(0, 3), (1, 3), (2, 4)], 3, 0, T_Side, [.int .i64 0, .int .i64 0, .bool false]⟩),
  (242, ⟨.other, 1, 0, .unit, [.undef]⟩),
  (243, ⟨.other, 1, 0, .unit, [.undef]⟩),
  (245, ⟨.other, 1, 0, .unit, [.undef]⟩),
  (246, ⟨.other, 1, 0, .unit, [.undef]⟩),
  (247, ⟨.other, 1, 0, .unit, [.undef]⟩),
  (248, ⟨.other, 1, 0, .unit, [.undef]⟩),
  (249, ⟨.other, 1, 0, .unit, [.undef]⟩),
  (250, ⟨.other, 1, 0, .unit, [.undef]⟩),
  (251, ⟨.other, 1, 0, .unit, [.undef]⟩),
  (252, ⟨.other, 1, 0, .unit, [.undef]⟩),
  (253, ⟨.other, 1, 0, .unit, [.undef]⟩),
  (254, ⟨.other, 1, 0, .unit, [.undef]⟩),
  (255, ⟨.struct [(0, 3), (1, 3), (2, 3), (3, 3), (4, 183), (11, 67), (12, 3), (13, 3)], 14, 0, T_Turn, [.int .i64 0, .int .i64 0, .int .i64 0, .int .i64 0, .int .i64 0, .int .i64 0, .int .i64 0, .int .i64 0, .int .i64 0, .int .i64 0, .bool false, .nil, .int .i64 0, .int .i64 0]⟩),
  (256, ⟨.struct [(0, 3), (1, 3), (2, 3), (3, 3), (4, 183), (11, 67), (12, 3), (13, 3)], 14, 0, T_Turn, [.int .i64 0, .int .i64 0, .int .i64 0, .int .i64 0, .int .i64 0, .int .i64 0, .int .i64 0, .int .i64 0, .int .i64 0, .int .i64 0, .bool false, .nil, .int .i64 0, .int .i64 0]⟩),
  (257, ⟨.other, 1, 0, .unit, [.undef]⟩),
  (258, ⟨.other, 1, 0, .unit, [.undef]⟩),
  (259, ⟨.slice 70, 1, 0, (.slice (.slice T_Event)), [.nil]⟩),
  (260, ⟨.other, 1, 0, .unit, [.undef]⟩),
  (261, ⟨.slice 110, 1, 0, (.slice (.slice T_Turn)), [.nil]⟩),
  (262, ⟨.other, 1, 0, .unit, [.undef]⟩),
  (263, ⟨.other, 1, 0, .unit, [.undef]⟩),
  (264, ⟨.other, 1, 0, .unit, [.undef]⟩),
  (265, ⟨.other, 1, 0, .unit, [.undef]⟩),
  (266, ⟨.other, 1, 0, .unit, [.undef]⟩),
  (267, ⟨.other, 1, 0, .unit, [.undef]⟩),
  (268, ⟨.other, 1, 0, .unit, [.undef]⟩),
  (269, ⟨.other, 1, 0, .unit, [.undef]⟩),
  (270, ⟨.other, 1, 0, .unit, [.undef]⟩),
  (271, ⟨.other, 1, 0, .unit, [.undef]⟩),
  (272, ⟨.other, 1, 0, .unit, [.undef]⟩),
  (273, ⟨.other, 1, 0, .unit, [.undef]⟩),
  (274, ⟨.other, 1, 0, .unit, [.undef]⟩),
  (275, ⟨.other, 1, 0, .unit, [.undef]⟩),
  (276, ⟨.int .u64, 1, 0, (.int .u64), [.int .u64 0]⟩),
  (277, ⟨.other, 1, 0, .unit, [.undef]⟩),
  (278, ⟨.other, 1, 0, .unit, [.undef]⟩),
  (279, ⟨.other, 1, 0, .unit, [.undef]⟩),
  (280, ⟨.other, 1, 0, .unit, [.undef]⟩),
  (281, ⟨.other, 1, 0, .unit, [.undef]⟩),
  (282, ⟨.other, 1, 0, .unit, [.undef]⟩),
  (283, ⟨.other, 1, 0, .unit, [.undef]⟩),
  (284, ⟨.int .i64, 1, 0, (.int .i64), [.int .i64 0]⟩),
  (286, ⟨.other, 1, 0, .unit, [.undef]⟩),
  (287, ⟨.other, 1, 0, .unit, [.undef]⟩),
  (288, ⟨.other, 1, 0, .unit, [.undef]⟩),
  (289, ⟨.other, 1, 0, .unit, [.undef]⟩),
  (291, ⟨.other, 1, 0, .unit, [.undef]⟩),
  (292, ⟨.other, 1, 0, .unit, [.undef]⟩),
  (293, ⟨.int .u32, 1, 0, (.int .u32), [.int .u32 0]⟩),
  (294, ⟨.other, 1, 0, .unit, [.undef]⟩),
  (295, ⟨.int .u64, 1, 0, (.int .u64), [.int .u64 0]⟩),
  (296, ⟨.int .u64, 1, 0, (.int .u64), [.int .u64 0]⟩),
  (297, ⟨.other, 1, 0, .unit, [.undef]⟩),
  (298, ⟨.other, 1, 0, .unit, [.undef]⟩),
  (299, ⟨.other, 1, 0, .unit, [.undef]⟩),
  (300, ⟨.other, 1, 0, .unit, [.undef]⟩),
  (301, ⟨.other, 1, 0, .unit, [.undef]⟩),
  (302, ⟨.other, 1, 0, .unit, [.undef]⟩),
  (304, ⟨.other, 1, 0, .unit, [.undef]⟩),
  (305, ⟨.other, 1, 0, .unit, [.undef]⟩),
  (311, ⟨.other, 1, 0, .unit, [.undef]⟩),
  (312, ⟨.int .u8, 1, 0, (.int .u8), [.int .u8 0]⟩),
  (313, ⟨.int .u8, 1, 0, (.int .u8), [.int .u8 0]⟩),
  (314, ⟨.other, 1, 0, .unit, [.undef]⟩),
  (315, ⟨.other, 1, 0, .unit, [.undef]⟩),
  (316, ⟨.int .i32, 1, 0, (.int .i32), [.int .i32 0]⟩),
  (317, ⟨.int .i32, 1, 0, (.int .i32), [.int .i32 0]⟩)]
theorem tabOk : TabOk Try.prog tab := tabB_ok (by kernel_rfl)
theorem mixed : Try.prog.follows .mixedOrders = true := by kernel_rfl
/-! loop.example/g00486/laws.big -/
def laws_big (a0 : (List Int)) : Option Bool :=
 some (decide ((a0.length : Int) > 1048576))
def laws_big_c : Ct := .pure true false (.pair (.slice (.int .u8)) .unit) .bool (fun x => laws_big x.1)
theorem laws_big_ct : CtOk Try.prog 14 laws_big_c := pure_ct (E := { T := tab, G := [] }) (EnvOk.nil tabOk) mixed (fn := Try.f14) _ _ _ _ _ .none Try.func14 (by kernel_rfl) (fun x => by kernel_rfl)
/-! loop.example/g00486/spec.l1New -/
def spec_l1New_l1 (a0 : (List Int)) : (Int × Int) → Option ((Int × Int) ⊕ (Int × Int)) := fun s1 =>
((bif decide (s1.2 < (a0.length : Int)) then (
 some (decide (s1.2 < 4000)))
 else (
 some false)) : Option Bool).bind fun o2 =>
 bif o2 then (
 idx a0 s1.2 fun x3 =>
 let k4 : Int := IntKind.wrap .i64 ((IntKind.wrap .i64 (s1.1 * 137)) + (IntKind.wrap .i64 x3))
 let k5 : Int := IntKind.wrap .i64 (BitVec.ofInt (IntKind.bits .i64) (IntKind.wrap .i64 (k4 + 11)) &&& BitVec.ofInt (IntKind.bits .i64) 1073741823).toNat
 some (.inl (k5, IntKind.wrap .i64 (s1.2 + 1))))
 else (
 some (.inr s1))
def spec_l1New (a0 : (List Int)) : Option T_l1Cur.D :=
(while_ (spec_l1New_l1 a0) (IntKind.wrap .i64 (139871 + (a0.length : Int)), 0)).bind fun o6 =>
 some (a0, 0, o6.1, ())
def spec_l1New_h : Hints := (.node none none .none (.node none none .none (.node none none (.node none none .none (.node none none (.node none (some ⟨[.tmp 3 (.int .i64), .tmp 4 (.int .i64)], [some 0], none, []⟩) (.node none none (.node none none (.node (some ⟨[.tmp 15 .bool], [none], none, []⟩) none .none .none) .none) .none) .none) .none)) .none)))
def spec_l1New_c : Ct := .box (.pair (.slice (.int .u8)) .unit) T_l1Cur (fun x => spec_l1New x.1)
theorem spec_l1New_ct : CtOk Try.prog 115 spec_l1New_c := box_ct (E := { T := tab, G := [] }) (EnvOk.nil tabOk) mixed (fn := Try.f115) _ _ _ spec_l1New_h Try.func115 (by kernel_rfl) (fun x => by kernel_rfl)
/-! loop.example/g00486/spec.StateNew -/
def spec_StateNew (a0 : Int) : Option T_State.D :=
 bif (a0 == 3) then (
 if (([(20, 0, false, ()), (20, 0, false, ())] : List T_Side.D).length + ([(20, 0, false, ())] : List T_Side.D).length) * (24 * 3) ≤ room then (
 some ([], (([(20, 0, false, ()), (20, 0, false, ())] : List T_Side.D) ++ ([(20, 0, false, ())] : List T_Side.D)), 0, 0, ())) else none)
 else (
 some ([], ([(20, 0, false, ()), (20, 0, false, ())] : List T_Side.D), 0, 0, ()))
def spec_StateNew_c : Ct := .pure true false (.pair (.int .i64) .unit) T_State (fun x => spec_StateNew x.1)
theorem spec_StateNew_ct : CtOk Try.prog 233 spec_StateNew_c := pure_ct (E := { T := tab, G := [] }) (EnvOk.nil tabOk) mixed (fn := Try.f233) _ _ _ _ _ .none Try.func233 (by kernel_rfl) (fun x => by kernel_rfl)
def spec_StateNew_fresh_c : Ct := .pure true true (.pair (.int .i64) .unit) T_State (fun x => spec_StateNew x.1)
theorem spec_StateNew_fresh_ct : CtOk Try.prog 233 spec_StateNew_fresh_c := pure_ct (E := { T := tab, G := [] }) (EnvOk.nil tabOk) mixed (fn := Try.f233) _ _ _ _ _ .none Try.func233 (by kernel_rfl) (fun x => by kernel_rfl)
/-! loop.example/g00486/spec.l1Byte -/
def spec_l1Byte (a0 : T_l1Cur.D) : Option (Int × (T_l1Cur.D × Unit)) :=
 let k1 : Int := IntKind.wrap .i64 ((IntKind.wrap .i64 (a0.2.2.1 * 6364136223846793005)) + 1442695040888963407)
 if 0 ≤ 33 then (
 if 0 ≤ 47 then (
 let k2 : Int := IntKind.wrap .i64 (BitVec.ofInt (IntKind.bits .i64) (k1.fdiv (2 ^ min (33 : Int).toNat (IntKind.bits .i64))) ^^^ BitVec.ofInt (IntKind.bits .i64) (k1.fdiv (2 ^ min (47 : Int).toNat (IntKind.bits .i64)))).toNat
 let k3 : Int := IntKind.wrap .i64 (BitVec.ofInt (IntKind.bits .i64) k2 &&& BitVec.ofInt (IntKind.bits .i64) 255).toNat
 bif decide (a0.2.1 < (a0.1.length : Int)) then (
 idx a0.1 a0.2.1 fun x4 =>
 let k5 : Int := IntKind.wrap .i64 (BitVec.ofInt (IntKind.bits .i64) (IntKind.wrap .i64 (k3 + (IntKind.wrap .i64 x4))) &&& BitVec.ofInt (IntKind.bits .i64) 255).toNat
 some (k5, ((a0.1, IntKind.wrap .i64 (a0.2.1 + 1), k1, ()), ())))
 else (
 some (k3, ((a0.1, a0.2.1, k1, ()), ())))) else none) else none
def spec_l1Byte_c : Ct := .mut [.ptr] true true (.pair T_l1Cur .unit) (.int .i64) (fun x => spec_l1Byte x.1)
theorem spec_l1Byte_ct : CtOk Try.prog 240 spec_l1Byte_c := mut_ct (E := { T := tab, G := [] }) (EnvOk.nil tabOk) mixed (fn := Try.f240) _ _ _ _ _ _ .none Try.func240 (by kernel_rfl) (fun x => by kernel_rfl)
/-! loop.example/g00486/spec.l1Below -/
def spec_l1Below (a0 : T_l1Cur.D) (a1 : Int) : Option (Int × (T_l1Cur.D × Unit)) :=
 bif decide (a1 ≤ 0) then (
 some (0, (a0, ())))
 else (
 bif decide (a1 ≤ 256) then (
(spec_l1Byte a0).bind fun y1 =>
 if a1 = 0 then none else (
 some (y1.1.tmod a1, y1.2)))
 else (
(spec_l1Byte a0).bind fun y2 =>
(spec_l1Byte y2.2.1).bind fun y3 =>
(spec_l1Byte y3.2.1).bind fun y4 =>
 let k5 : Int := IntKind.wrap .i64 ((IntKind.wrap .i64 (y2.1 * 65536)) + (IntKind.wrap .i64 (y3.1 * 256)))
 if a1 = 0 then none else (
 some ((IntKind.wrap .i64 (k5 + y4.1)).tmod a1, y4.2))))
def spec_l1Below_c : Ct := .mut [.ptr, .rd] true true (.pair T_l1Cur (.pair (.int .i64) .unit)) (.int .i64) (fun x => spec_l1Below x.1 x.2.1)
theorem spec_l1Below_ct : CtOk Try.prog 137 spec_l1Below_c := mut_ct (E := { T := tab, G := [(240, spec_l1Byte_c)] }) (EnvOk.cons spec_l1Byte_ct (EnvOk.nil tabOk)) mixed (fn := Try.f137) _ _ _ _ _ _ .none Try.func137 (by kernel_rfl) (fun x => by kernel_rfl)
/-! loop.example/g00486/spec.l1Int -/
def spec_l1Int (a0 : T_l1Cur.D) (a1 : (List Int)) : Option (Int × (T_l1Cur.D × Unit)) :=
(spec_l1Below a0 (a1.length : Int)).bind fun y1 =>
 idx a1 y1.1 fun x2 =>
 some (x2, y1.2)
def spec_l1Int_c : Ct := .mut [.ptr, .rd] true true (.pair T_l1Cur (.pair (.slice (.int .i64)) .unit)) (.int .i64) (fun x => spec_l1Int x.1 x.2.1)
theorem spec_l1Int_ct : CtOk Try.prog 234 spec_l1Int_c := mut_ct (E := { T := tab, G := [(137, spec_l1Below_c)] }) (EnvOk.cons spec_l1Below_ct (EnvOk.nil tabOk)) mixed (fn := Try.f234) _ _ _ _ _ _ .none Try.func234 (by kernel_rfl) (fun x => by kernel_rfl)
/-! loop.example/g00486/spec.l1Once -/
def spec_l1Once (a0 : T_l1Cur.D) (a1 : Int) : Option (Bool × (T_l1Cur.D × Unit)) :=
(spec_l1Below a0 a1).bind fun y1 =>
 some ((y1.1 == 0), y1.2)
def spec_l1Once_c : Ct := .mut [.ptr, .rd] true true (.pair T_l1Cur (.pair (.int .i64) .unit)) .bool (fun x => spec_l1Once x.1 x.2.1)
theorem spec_l1Once_ct : CtOk Try.prog 117 spec_l1Once_c := mut_ct (E := { T := tab, G := [(137, spec_l1Below_c)] }) (EnvOk.cons spec_l1Below_ct (EnvOk.nil tabOk)) mixed (fn := Try.f117) _ _ _ _ _ _ .none Try.func117 (by kernel_rfl) (fun x => by kernel_rfl)
/-! loop.example/g00486/spec.l4Draw -/
def spec_l4Draw_l1 : (Int × (T_l1Cur.D × (Int × (Int × (Int × (Int × (Int × (Int × (Int × (Int × (Int × (Int × (Int × (Bool × (Bool × Unit))))))))))))))) → Option ((Int × (T_l1Cur.D × (Int × (Int × (Int × (Int × (Int × (Int × (Int × (Int × (Int × (Int × (Int × (Bool × (Bool × Unit))))))))))))))) ⊕ (Int × (T_l1Cur.D × (Int × (Int × (Int × (Int × (Int × (Int × (Int × (Int × (Int × (Int × (Int × (Bool × (Bool × Unit)))))))))))))))) := fun s8 =>
 bif decide (s8.1 < (([1, 2, 4, 8, 16, 32] : List Int).length : Int)) then (
 idx ([1, 2, 4, 8, 16, 32] : List Int) s8.1 fun _ =>
(([1, 2, 4, 8, 16, 32] : List Int)[(s8.1 : Int).toNat]?).bind fun x9 =>
(spec_l1Once s8.2.1 3).bind fun y10 =>
 bif y10.1 then (
 some (.inl (IntKind.wrap .i64 (s8.1 + 1), y10.2.1, s8.2.2.1, s8.2.2.2.1, s8.2.2.2.2.1, s8.2.2.2.2.2.1, s8.2.2.2.2.2.2.1, s8.2.2.2.2.2.2.2.1, s8.2.2.2.2.2.2.2.2.1, IntKind.wrap .i64 (s8.2.2.2.2.2.2.2.2.2.1 + x9), s8.2.2.2.2.2.2.2.2.2.2)))
 else (
 some (.inl (IntKind.wrap .i64 (s8.1 + 1), y10.2.1, s8.2.2))))
 else (
 some (.inr s8))
def spec_l4Draw (a0 : T_l1Cur.D) (a1 : Int) : Option (T_Piece.D × (T_l1Cur.D × Unit)) :=
(spec_l1Below a0 2).bind fun y1 =>
(spec_l1Int y1.2.1 ([2, 2, 2, 1, 3] : List Int)).bind fun y2 =>
(spec_l1Below y2.2.1 3).bind fun y3 =>
(spec_l1Below y3.2.1 5).bind fun y4 =>
(spec_l1Below y4.2.1 5).bind fun y5 =>
(while_ (spec_l4Draw_l1) (0, y5.2.1, a1, y1.1, y1.1, y2.1, y3.1, y4.1, IntKind.wrap .i64 (1 + y5.1), 0, 0, 0, 0, false, false, ())).bind fun o11 =>
 bif (o11.2.2.2.2.2.1 != 2) then (
 some (o11.2.2, (o11.2.1, ())))
 else (
(spec_l1Once o11.2.1 4).bind fun y12 =>
((bif y12.1 then (
 some (o11.2.2.1, o11.2.2.2.1, IntKind.wrap .i64 (1 - o11.2.2.2.1), o11.2.2.2.2.2))
 else (
 some o11.2.2)) : Option T_Piece.D).bind fun o13 =>
(spec_l1Int y12.2.1 ([0, 0, 1, 2] : List Int)).bind fun y14 =>
(spec_l1Int y14.2.1 ([0, 0, 0, 1] : List Int)).bind fun y15 =>
(spec_l1Int y15.2.1 ([0, 0, 1] : List Int)).bind fun y16 =>
(spec_l1Once y16.2.1 4).bind fun y17 =>
 some ((o13.1, o13.2.1, o13.2.2.1, o13.2.2.2.1, o13.2.2.2.2.1, o13.2.2.2.2.2.1, o13.2.2.2.2.2.2.1, o13.2.2.2.2.2.2.2.1, y14.1, y15.1, y16.1, o13.2.2.2.2.2.2.2.2.2.2.2.1, y17.1, ()), y17.2))
def spec_l4Draw_h : Hints := (.node none none .none (.node none none .none (.node none none .none (.node none none (.node none none .none (.node none none (.node none (some ⟨[.tmp 27 (.int .i64), .box 0 0 T_l1Cur, .box 5 0 T_Piece], [some 0], none, []⟩) .none .none) .none)) (.node none none .none (.node none none (.node none none .none (.node (some ⟨[.box 5 0 T_Piece], [none], none, [(5, 0)]⟩) none .none .none)) .none))))))
def spec_l4Draw_c : Ct := .mut [.ptr, .rd] true true (.pair T_l1Cur (.pair (.int .i64) .unit)) T_Piece (fun x => spec_l4Draw x.1 x.2.1)
theorem spec_l4Draw_ct : CtOk Try.prog 235 spec_l4Draw_c := mut_ct (E := { T := tab, G := [(117, spec_l1Once_c), (137, spec_l1Below_c), (234, spec_l1Int_c)], V := [12, 50, 54, 58] }) (EnvOk.views (EnvOk.cons spec_l1Once_ct (EnvOk.cons spec_l1Below_ct (EnvOk.cons spec_l1Int_ct (EnvOk.nil tabOk))))) mixed (fn := Try.f235) _ _ _ _ _ _ spec_l4Draw_h Try.func235 (by kernel_rfl) (fun x => by kernel_rfl)
/-! loop.example/g00486/spec.l5Draw -/
def spec_l5Draw_l1 : (Int × (T_l1Cur.D × ((List T_Piece.D) × ((List T_Side.D) × (Int × (Int × Unit)))))) → Option ((Int × (T_l1Cur.D × ((List T_Piece.D) × ((List T_Side.D) × (Int × (Int × Unit)))))) ⊕ (Int × (T_l1Cur.D × ((List T_Piece.D) × ((List T_Side.D) × (Int × (Int × Unit))))))) := fun s6 =>
 bif decide (s6.1 < 2) then (
(spec_l1Int s6.2.1 ([20, 20, 3, 1, 10] : List Int)).bind fun y7 =>
 idx s6.2.2.2.1 s6.1 fun _ =>
(s6.2.2.2.1[(s6.1 : Int).toNat]?).bind fun x8 =>
 let u9 : (List T_Side.D) := s6.2.2.2.1.set (s6.1 : Int).toNat (y7.1, x8.2)
(spec_l1Int y7.2.1 ([0, 0, 8, 1] : List Int)).bind fun y10 =>
 idx u9 s6.1 fun _ =>
(u9[(s6.1 : Int).toNat]?).bind fun x11 =>
 let u12 : (List T_Side.D) := u9.set (s6.1 : Int).toNat (x11.1, y10.1, x11.2.2)
 some (.inl (IntKind.wrap .i64 (s6.1 + 1), y10.2.1, s6.2.2.1, u12, s6.2.2.2.2)))
 else (
 some (.inr s6))
def spec_l5Draw_l2 : (Int × (Int × (T_l1Cur.D × ((List T_Piece.D) × ((List T_Side.D) × (Int × (Int × Unit))))))) → Option ((Int × (Int × (T_l1Cur.D × ((List T_Piece.D) × ((List T_Side.D) × (Int × (Int × Unit))))))) ⊕ (Int × (Int × (T_l1Cur.D × ((List T_Piece.D) × ((List T_Side.D) × (Int × (Int × Unit)))))))) := fun s17 =>
 bif decide (s17.2.1 > 0) then (
(spec_l1Below s17.2.2.1 2).bind fun y18 =>
(spec_l4Draw y18.2.1 (IntKind.wrap .i64 ((IntKind.wrap .i64 (s17.1 + 1)) + y18.1))).bind fun y19 =>
 if (s17.2.2.2.1.length + [y19.1].length) * (24 * 13) ≤ room then (
 some (.inl (IntKind.wrap .i64 ((IntKind.wrap .i64 (s17.1 + 1)) + y18.1), IntKind.wrap .i64 (s17.2.1 - 1), y19.2.1, (s17.2.2.2.1 ++ [y19.1]), s17.2.2.2.2))) else none)
 else (
 some (.inr s17))
def spec_l5Draw (a0 : T_l1Cur.D) : Option (T_State.D × (T_l1Cur.D × Unit)) :=
(spec_StateNew 2).bind fun y1 =>
(spec_l1Below a0 3).bind fun y2 =>
(spec_l1Below y2.2.1 2).bind fun y3 =>
(while_ (spec_l5Draw_l1) (0, y3.2.1, y1.1, y1.2.1, y3.1, IntKind.wrap .i64 (2 + y2.1), ())).bind fun o13 =>
(spec_l1Below o13.2.1 5).bind fun y14 =>
(while_ (spec_l5Draw_l2) (0, IntKind.wrap .i64 (1 + y14.1), y14.2.1, o13.2.2)).bind fun o20 =>
 some (o20.2.2.2, (o20.2.2.1, ()))
def spec_l5Draw_h : Hints := (.node none none .none (.node none none .none (.node none none .none (.node none none .none (.node none none (.node none none .none (.node none none (.node none (some ⟨[.tmp 4 (.int .i64), .box 0 0 T_l1Cur, .boxO 3 0 1 T_State], [some 0], none, []⟩) .none .none) .none)) (.node none none .none (.node none none (.node none none .none (.node none none (.node none (some ⟨[.tmp 5 (.int .i64), .tmp 6 (.int .i64), .box 0 0 T_l1Cur, .boxO 3 0 3 T_State], [some 2], none, []⟩) .none .none) .none)) .none)))))))
def spec_l5Draw_c : Ct := .mut [.ptr] true false (.pair T_l1Cur .unit) T_State (fun x => spec_l5Draw x.1)
theorem spec_l5Draw_ct : CtOk Try.prog 116 spec_l5Draw_c := mut_ct (E := { T := tab, G := [(137, spec_l1Below_c), (233, spec_StateNew_fresh_c), (234, spec_l1Int_c), (235, spec_l4Draw_c)], V := [24, 32] }) (EnvOk.views (EnvOk.cons spec_l1Below_ct (EnvOk.cons spec_StateNew_fresh_ct (EnvOk.cons spec_l1Int_ct (EnvOk.cons spec_l4Draw_ct (EnvOk.nil tabOk)))))) mixed (fn := Try.f116) _ _ _ _ _ _ spec_l5Draw_h Try.func116 (by kernel_rfl) (fun x => by kernel_rfl)
def spec_l5Draw_fresh_c : Ct := .mut [.ptr] true true (.pair T_l1Cur .unit) T_State (fun x => spec_l5Draw x.1)
theorem spec_l5Draw_fresh_ct : CtOk Try.prog 116 spec_l5Draw_fresh_c := mut_ct (E := { T := tab, G := [(137, spec_l1Below_c), (233, spec_StateNew_fresh_c), (234, spec_l1Int_c), (235, spec_l4Draw_c)], V := [24, 32] }) (EnvOk.views (EnvOk.cons spec_l1Below_ct (EnvOk.cons spec_StateNew_fresh_ct (EnvOk.cons spec_l1Int_ct (EnvOk.cons spec_l4Draw_ct (EnvOk.nil tabOk)))))) mixed (fn := Try.f116) _ _ _ _ _ _ spec_l5Draw_h Try.func116 (by kernel_rfl) (fun x => by kernel_rfl)
/-! loop.example/g00486/spec.l1Odd -/
def spec_l1Odd (a0 : T_l1Cur.D) : Option (Int × (T_l1Cur.D × Unit)) :=
(spec_l1Int a0 ([(-1), 0, 1, 2, 255, 256, 65535, 2147483647, 2147483648, 4294967295, 4294967296, (-2147483648), 9223372036854775807, (-9223372036854775808)] : List Int)).bind fun y1 =>
 some (y1.1, y1.2)
def spec_l1Odd_c : Ct := .mut [.ptr] true true (.pair T_l1Cur .unit) (.int .i64) (fun x => spec_l1Odd x.1)
theorem spec_l1Odd_ct : CtOk Try.prog 296 spec_l1Odd_c := mut_ct (E := { T := tab, G := [(234, spec_l1Int_c)], V := [4] }) (EnvOk.views (EnvOk.cons spec_l1Int_ct (EnvOk.nil tabOk))) mixed (fn := Try.f296) _ _ _ _ _ _ .none Try.func296 (by kernel_rfl) (fun x => by kernel_rfl)
/-! loop.example/g00486/spec.l1Raw -/
def spec_l1Raw (a0 : T_l1Cur.D) : Option (Int × (T_l1Cur.D × Unit)) :=
(spec_l1Once a0 2).bind fun y1 =>
 bif y1.1 then (
(spec_l1Odd y1.2.1).bind fun y2 =>
 some (y2.1, y2.2))
 else (
(spec_l1Int y1.2.1 ([(-2147483648), (-2147483647), (-3), (-1), 0, 1, 3, 7, 2147483647, 2147483648] : List Int)).bind fun y3 =>
 some (y3.1, y3.2))
def spec_l1Raw_c : Ct := .mut [.ptr] true true (.pair T_l1Cur .unit) (.int .i64) (fun x => spec_l1Raw x.1)
theorem spec_l1Raw_ct : CtOk Try.prog 236 spec_l1Raw_c := mut_ct (E := { T := tab, G := [(117, spec_l1Once_c), (234, spec_l1Int_c), (296, spec_l1Odd_c)], V := [8] }) (EnvOk.views (EnvOk.cons spec_l1Once_ct (EnvOk.cons spec_l1Int_ct (EnvOk.cons spec_l1Odd_ct (EnvOk.nil tabOk))))) mixed (fn := Try.f236) _ _ _ _ _ _ .none Try.func236 (by kernel_rfl) (fun x => by kernel_rfl)
/-! loop.example/g00486/spec.l4Any -/
def spec_l4Any (a0 : T_l1Cur.D) : Option (T_Piece.D × (T_l1Cur.D × Unit)) :=
(spec_l1Below a0 9).bind fun y1 =>
(spec_l4Draw y1.2.1 (IntKind.wrap .i64 (1 + y1.1))).bind fun y2 =>
(spec_l1Below y2.2.1 20).bind fun y3 =>
 bif (y3.1 == 0) then (
(spec_l1Int y3.2.1 ([0, 99, 100] : List Int)).bind fun y4 =>
 some ((y4.1, y2.1.2), y4.2))
 else (
 bif (y3.1 == 1) then (
(spec_l1Int y3.2.1 ([(-1), 2, 3] : List Int)).bind fun y5 =>
 some ((y2.1.1, y5.1, y2.1.2.2), y5.2))
 else (
 bif (y3.1 == 2) then (
(spec_l1Int y3.2.1 ([(-1), 2, 3] : List Int)).bind fun y6 =>
 some ((y2.1.1, y2.1.2.1, y6.1, y2.1.2.2.2), y6.2))
 else (
 bif (y3.1 == 3) then (
(spec_l1Int y3.2.1 ([0, 1, 4, 5] : List Int)).bind fun y7 =>
 some ((y2.1.1, y2.1.2.1, y2.1.2.2.1, y7.1, y2.1.2.2.2.2), y7.2))
 else (
 bif (y3.1 == 4) then (
(spec_l1Int y3.2.1 ([(-1), 9999, 10000] : List Int)).bind fun y8 =>
 some ((y2.1.1, y2.1.2.1, y2.1.2.2.1, y2.1.2.2.2.1, y8.1, y2.1.2.2.2.2.2), y8.2))
 else (
 bif (y3.1 == 5) then (
(spec_l1Int y3.2.1 ([(-1), 999, 1000] : List Int)).bind fun y9 =>
 some ((y2.1.1, y2.1.2.1, y2.1.2.2.1, y2.1.2.2.2.1, y2.1.2.2.2.2.1, y9.1, y2.1.2.2.2.2.2.2), y9.2))
 else (
 bif (y3.1 == 6) then (
(spec_l1Int y3.2.1 ([(-1), 999, 1000] : List Int)).bind fun y10 =>
 some ((y2.1.1, y2.1.2.1, y2.1.2.2.1, y2.1.2.2.2.1, y2.1.2.2.2.2.1, y2.1.2.2.2.2.2.1, y10.1, y2.1.2.2.2.2.2.2.2), y10.2))
 else (
 bif (y3.1 == 7) then (
(spec_l1Int y3.2.1 ([(-1), 63, 64] : List Int)).bind fun y11 =>
 some ((y2.1.1, y2.1.2.1, y2.1.2.2.1, y2.1.2.2.2.1, y2.1.2.2.2.2.1, y2.1.2.2.2.2.2.1, y2.1.2.2.2.2.2.2.1, y11.1, y2.1.2.2.2.2.2.2.2.2), y11.2))
 else (
 bif (y3.1 == 8) then (
(spec_l1Raw y3.2.1).bind fun y12 =>
 some ((y2.1.1, y2.1.2.1, y2.1.2.2.1, y2.1.2.2.2.1, y2.1.2.2.2.2.1, y2.1.2.2.2.2.2.1, y2.1.2.2.2.2.2.2.1, y2.1.2.2.2.2.2.2.2.1, y12.1, y2.1.2.2.2.2.2.2.2.2.2), y12.2))
 else (
 bif (y3.1 == 9) then (
(spec_l1Raw y3.2.1).bind fun y13 =>
 some ((y2.1.1, y2.1.2.1, y2.1.2.2.1, y2.1.2.2.2.1, y2.1.2.2.2.2.1, y2.1.2.2.2.2.2.1, y2.1.2.2.2.2.2.2.1, y2.1.2.2.2.2.2.2.2.1, y2.1.2.2.2.2.2.2.2.2.1, y13.1, y2.1.2.2.2.2.2.2.2.2.2.2), y13.2))
 else (
 bif (y3.1 == 10) then (
(spec_l1Raw y3.2.1).bind fun y14 =>
 some ((y2.1.1, y2.1.2.1, y2.1.2.2.1, y2.1.2.2.2.1, y2.1.2.2.2.2.1, y2.1.2.2.2.2.2.1, y2.1.2.2.2.2.2.2.1, y2.1.2.2.2.2.2.2.2.1, y2.1.2.2.2.2.2.2.2.2.1, y2.1.2.2.2.2.2.2.2.2.2.1, y14.1, y2.1.2.2.2.2.2.2.2.2.2.2.2), y14.2))
 else (
 bif (y3.1 == 11) then (
 some ((y2.1.1, y2.1.2.1, y2.1.2.2.1, y2.1.2.2.2.1, y2.1.2.2.2.2.1, y2.1.2.2.2.2.2.1, y2.1.2.2.2.2.2.2.1, y2.1.2.2.2.2.2.2.2.1, y2.1.2.2.2.2.2.2.2.2.1, y2.1.2.2.2.2.2.2.2.2.2.1, y2.1.2.2.2.2.2.2.2.2.2.2.1, true, y2.1.2.2.2.2.2.2.2.2.2.2.2.2), y3.2))
 else (
 some (y2.1, y3.2)))))))))))))
def spec_l4Any_c : Ct := .mut [.ptr] true true (.pair T_l1Cur .unit) T_Piece (fun x => spec_l4Any x.1)
theorem spec_l4Any_ct : CtOk Try.prog 237 spec_l4Any_c := mut_ct (E := { T := tab, G := [(137, spec_l1Below_c), (234, spec_l1Int_c), (235, spec_l4Draw_c), (236, spec_l1Raw_c)], V := [14, 20, 26, 32, 38, 44, 50, 56] }) (EnvOk.views (EnvOk.cons spec_l1Below_ct (EnvOk.cons spec_l1Int_ct (EnvOk.cons spec_l4Draw_ct (EnvOk.cons spec_l1Raw_ct (EnvOk.nil tabOk)))))) mixed (fn := Try.f237) _ _ _ _ _ _ .none Try.func237 (by kernel_rfl) (fun x => by kernel_rfl)
/-! loop.example/g00486/spec.l5Any -/
def spec_l5Any_l1 : (Int × (T_l1Cur.D × ((List T_Piece.D) × ((List T_Side.D) × (Int × (Int × Unit)))))) → Option ((Int × (T_l1Cur.D × ((List T_Piece.D) × ((List T_Side.D) × (Int × (Int × Unit)))))) ⊕ (Int × (T_l1Cur.D × ((List T_Piece.D) × ((List T_Side.D) × (Int × (Int × Unit))))))) := fun s15 =>
 bif decide (s15.1 < 46) then (
(spec_l4Draw s15.2.1 s15.1).bind fun y16 =>
 if (s15.2.2.1.length + [y16.1].length) * (24 * 13) ≤ room then (
 some (.inl (IntKind.wrap .i64 (s15.1 + 1), y16.2.1, (s15.2.2.1 ++ [y16.1]), s15.2.2.2))) else none)
 else (
 some (.inr s15))
def spec_l5Any (a0 : T_l1Cur.D) : Option (T_State.D × (T_l1Cur.D × Unit)) :=
(spec_l5Draw a0).bind fun y1 =>
(spec_l1Below y1.2.1 18).bind fun y2 =>
 bif (y2.1 == 0) then (
(spec_l1Int y2.2.1 ([(-1), 2, 3] : List Int)).bind fun y3 =>
 some ((y1.1.1, y1.1.2.1, y3.1, y1.1.2.2.2), y3.2))
 else (
 bif (y2.1 == 1) then (
(spec_l1Int y2.2.1 ([(-1), 0, 9999, 10000] : List Int)).bind fun y4 =>
 some ((y1.1.1, y1.1.2.1, y1.1.2.2.1, y4.1, ()), y4.2))
 else (
 bif (y2.1 == 2) then (
(spec_l1Raw y2.2.1).bind fun y5 =>
 if (y1.1.2.1.length + [(y5.1, 0, false, ())].length) * (24 * 3) ≤ room then (
 some ((y1.1.1, (y1.1.2.1 ++ [(y5.1, 0, false, ())]), y1.1.2.2), y5.2)) else none)
 else (
 bif (y2.1 == 3) then (
(spec_l1Raw y2.2.1).bind fun y6 =>
 idx y1.1.2.1 0 fun _ =>
(y1.1.2.1[(0 : Int).toNat]?).bind fun x7 =>
 let u8 : (List T_Side.D) := y1.1.2.1.set (0 : Int).toNat (x7.1, y6.1, x7.2.2)
 some ((y1.1.1, u8, y1.1.2.2), y6.2))
 else (
 bif (y2.1 == 4) then (
(spec_l4Any y2.2.1).bind fun y9 =>
 if (y1.1.1.length + [y9.1].length) * (24 * 13) ≤ room then (
 some (((y1.1.1 ++ [y9.1]), y1.1.2), y9.2)) else none)
 else (
 bif (y2.1 == 5) then (
 if 0 ≤ (0 : Int) then (if (0 : Int) ≤ (1 : Int) then (if (1 : Int) ≤ (y1.1.2.1.length : Int) then (
 some ((y1.1.1, ((y1.1.2.1.take ((1 : Int).toNat)).drop ((0 : Int).toNat)), y1.1.2.2), y2.2)) else none) else none) else none)
 else (
 bif (y2.1 == 6) then (
(spec_l4Any y2.2.1).bind fun y10 =>
 idx y1.1.1 0 fun _ =>
(y1.1.1[(0 : Int).toNat]?).bind fun x11 =>
 let u12 : (List T_Piece.D) := y1.1.1.set (0 : Int).toNat y10.1
 some ((u12, y1.1.2), y10.2))
 else (
 bif (y2.1 == 7) then (
(while_ (spec_l5Any_l1) (40, y2.2.1, y1.1)).bind fun o17 =>
 some (o17.2.2, (o17.2.1, ())))
 else (
 some (y1.1, y2.2)))))))))
def spec_l5Any_h : Hints := (.node none none .none (.node none none .none (.node none none (.node none none .none (.node none none (.node none none .none (.node none none .none (.node none none .none (.node none none .none (.node none none .none (.node none none .none (.node none none .none (.node none none .none (.node none none .none (.node none none .none (.node none none .none (.node none none .none (.node none none .none (.node none none .none (.node none none .none (.node none none (.node none none .none (.node none none (.node none (some ⟨[.tmp 4 (.int .i64), .box 0 0 T_l1Cur, .boxO 3 0 1 T_State], [some 1], none, []⟩) .none .none) .none)) .none)))))))))))))))) .none)) .none)))
def spec_l5Any_c : Ct := .mut [.ptr] true false (.pair T_l1Cur .unit) T_State (fun x => spec_l5Any x.1)
theorem spec_l5Any_ct : CtOk Try.prog 238 spec_l5Any_c := mut_ct (E := { T := tab, G := [(116, spec_l5Draw_fresh_c), (137, spec_l1Below_c), (234, spec_l1Int_c), (235, spec_l4Draw_c), (236, spec_l1Raw_c), (237, spec_l4Any_c)], V := [12, 18] }) (EnvOk.views (EnvOk.cons spec_l5Draw_fresh_ct (EnvOk.cons spec_l1Below_ct (EnvOk.cons spec_l1Int_ct (EnvOk.cons spec_l4Draw_ct (EnvOk.cons spec_l1Raw_ct (EnvOk.cons spec_l4Any_ct (EnvOk.nil tabOk)))))))) mixed (fn := Try.f238) _ _ _ _ _ _ spec_l5Any_h Try.func238 (by kernel_rfl) (fun x => by kernel_rfl)
def spec_l5Any_fresh_c : Ct := .mut [.ptr] true true (.pair T_l1Cur .unit) T_State (fun x => spec_l5Any x.1)
theorem spec_l5Any_fresh_ct : CtOk Try.prog 238 spec_l5Any_fresh_c := mut_ct (E := { T := tab, G := [(116, spec_l5Draw_fresh_c), (137, spec_l1Below_c), (234, spec_l1Int_c), (235, spec_l4Draw_c), (236, spec_l1Raw_c), (237, spec_l4Any_c)], V := [12, 18] }) (EnvOk.views (EnvOk.cons spec_l5Draw_fresh_ct (EnvOk.cons spec_l1Below_ct (EnvOk.cons spec_l1Int_ct (EnvOk.cons spec_l4Draw_ct (EnvOk.cons spec_l1Raw_ct (EnvOk.cons spec_l4Any_ct (EnvOk.nil tabOk)))))))) mixed (fn := Try.f238) _ _ _ _ _ _ spec_l5Any_h Try.func238 (by kernel_rfl) (fun x => by kernel_rfl)
/-! loop.example/g00486/spec.l20List -/
def spec_l20List_l1 : ((List T_Trigger.D) × (Int × ((List Int) × (Int × (Int × Unit))))) → Option (((List T_Trigger.D) × (Int × ((List Int) × (Int × (Int × Unit))))) ⊕ ((List T_Trigger.D) × (Int × ((List Int) × (Int × (Int × Unit)))))) := fun s4 =>
 bif decide (s4.2.1 > 0) then (
(spec_l1Below s4.2.2 9).bind fun y5 =>
(spec_l4Draw y5.2.1 (IntKind.wrap .i64 (1 + y5.1))).bind fun y6 =>
(spec_l1Below y6.2.1 2).bind fun y7 =>
(spec_l1Int y7.2.1 ([0, 1, 0, 1, 2, (-1)] : List Int)).bind fun y8 =>
(spec_l1Below y8.2.1 3).bind fun y9 =>
 if (s4.1.length + [(IntKind.wrap .i64 (1 + y7.1), y8.1, y9.1, y6.1, ())].length) * (24 * 16) ≤ room then (
 some (.inl ((s4.1 ++ [(IntKind.wrap .i64 (1 + y7.1), y8.1, y9.1, y6.1, ())]), IntKind.wrap .i64 (s4.2.1 - 1), y9.2.1))) else none)
 else (
 some (.inr s4))
def spec_l20List (a0 : T_l1Cur.D) : Option ((T_State.D × ((List T_Trigger.D) × Unit)) × (T_l1Cur.D × Unit)) :=
(spec_l5Draw a0).bind fun y1 =>
(spec_l1Below y1.2.1 5).bind fun y2 =>
(while_ (spec_l20List_l1) ([], y2.1, y2.2.1)).bind fun o10 =>
(spec_l1Once o10.2.2 12).bind fun y11 =>
 bif y11.1 then (
(spec_l5Any y11.2.1).bind fun y12 =>
 some ((y12.1, o10.1, ()), y12.2))
 else (
 some ((y1.1, o10.1, ()), y11.2))
def spec_l20List_h : Hints := (.node none none .none (.node none none .none (.node none none .none (.node none none (.node none none .none (.node none none (.node none (some ⟨[.tmpO 5 0 (.slice T_Trigger), .tmp 6 (.int .i64), .box 0 0 T_l1Cur], [some 0], none, []⟩) .none .none) .none)) .none))))
def spec_l20List_c : Ct := .mut [.ptr] false false (.pair T_l1Cur .unit) (.pair T_State (.pair (.slice T_Trigger) .unit)) (fun x => spec_l20List x.1)
theorem spec_l20List_ct : CtOk Try.prog 126 spec_l20List_c := mut_ct (E := { T := tab, G := [(116, spec_l5Draw_fresh_c), (117, spec_l1Once_c), (137, spec_l1Below_c), (234, spec_l1Int_c), (235, spec_l4Draw_c), (238, spec_l5Any_fresh_c)], V := [27] }) (EnvOk.views (EnvOk.cons spec_l5Draw_fresh_ct (EnvOk.cons spec_l1Once_ct (EnvOk.cons spec_l1Below_ct (EnvOk.cons spec_l1Int_ct (EnvOk.cons spec_l4Draw_ct (EnvOk.cons spec_l5Any_fresh_ct (EnvOk.nil tabOk)))))))) mixed (fn := Try.f126) _ _ _ _ _ _ spec_l20List_h Try.func126 (by kernel_rfl) (fun x => by kernel_rfl)
def spec_l20List_fresh_c : Ct := .mut [.ptr] false true (.pair T_l1Cur .unit) (.pair T_State (.pair (.slice T_Trigger) .unit)) (fun x => spec_l20List x.1)
theorem spec_l20List_fresh_ct : CtOk Try.prog 126 spec_l20List_fresh_c := mut_ct (E := { T := tab, G := [(116, spec_l5Draw_fresh_c), (117, spec_l1Once_c), (137, spec_l1Below_c), (234, spec_l1Int_c), (235, spec_l4Draw_c), (238, spec_l5Any_fresh_c)], V := [27] }) (EnvOk.views (EnvOk.cons spec_l5Draw_fresh_ct (EnvOk.cons spec_l1Once_ct (EnvOk.cons spec_l1Below_ct (EnvOk.cons spec_l1Int_ct (EnvOk.cons spec_l4Draw_ct (EnvOk.cons spec_l5Any_fresh_ct (EnvOk.nil tabOk)))))))) mixed (fn := Try.f126) _ _ _ _ _ _ spec_l20List_h Try.func126 (by kernel_rfl) (fun x => by kernel_rfl)
/-! loop.example/g00486/spec.l12Choices -/
def spec_l12Choices_l1 : ((List Int) × (Int × ((List Int) × (Int × (Int × Unit))))) → Option (((List Int) × (Int × ((List Int) × (Int × (Int × Unit))))) ⊕ ((List Int) × (Int × ((List Int) × (Int × (Int × Unit)))))) := fun s3 =>
 bif decide (s3.2.1 > 0) then (
(spec_l1Int s3.2.2 ([0, 1, 2, 1, 3, 5, (-1)] : List Int)).bind fun y4 =>
 if (s3.1.length + [y4.1].length) * (24 * 1) ≤ room then (
 some (.inl ((s3.1 ++ [y4.1]), IntKind.wrap .i64 (s3.2.1 - 1), y4.2.1))) else none)
 else (
 some (.inr s3))
def spec_l12Choices (a0 : T_l1Cur.D) : Option ((List Int) × (T_l1Cur.D × Unit)) :=
(spec_l1Below a0 8).bind fun y1 =>
(while_ (spec_l12Choices_l1) ([], y1.1, y1.2.1)).bind fun o5 =>
 some (o5.1, (o5.2.2, ()))
def spec_l12Choices_h : Hints := (.node none none .none (.node none none .none (.node none none (.node none none .none (.node none none (.node none (some ⟨[.tmpO 3 0 (.slice (.int .i64)), .tmp 4 (.int .i64), .box 0 0 T_l1Cur], [some 0], none, []⟩) .none .none) .none)) .none)))
def spec_l12Choices_c : Ct := .mut [.ptr] true false (.pair T_l1Cur .unit) (.slice (.int .i64)) (fun x => spec_l12Choices x.1)
theorem spec_l12Choices_ct : CtOk Try.prog 127 spec_l12Choices_c := mut_ct (E := { T := tab, G := [(137, spec_l1Below_c), (234, spec_l1Int_c)], V := [14] }) (EnvOk.views (EnvOk.cons spec_l1Below_ct (EnvOk.cons spec_l1Int_ct (EnvOk.nil tabOk)))) mixed (fn := Try.f127) _ _ _ _ _ _ spec_l12Choices_h Try.func127 (by kernel_rfl) (fun x => by kernel_rfl)
def spec_l12Choices_fresh_c : Ct := .mut [.ptr] true true (.pair T_l1Cur .unit) (.slice (.int .i64)) (fun x => spec_l12Choices x.1)
theorem spec_l12Choices_fresh_ct : CtOk Try.prog 127 spec_l12Choices_fresh_c := mut_ct (E := { T := tab, G := [(137, spec_l1Below_c), (234, spec_l1Int_c)], V := [14] }) (EnvOk.views (EnvOk.cons spec_l1Below_ct (EnvOk.cons spec_l1Int_ct (EnvOk.nil tabOk)))) mixed (fn := Try.f127) _ _ _ _ _ _ spec_l12Choices_h Try.func127 (by kernel_rfl) (fun x => by kernel_rfl)
/-! loop.example/g00486/spec.DrawArrange -/
def spec_DrawArrange (a0 : (List Int)) : Option (T_State.D × ((List T_Trigger.D) × ((List Int) × Unit))) :=
(spec_l1New a0).bind fun y1 =>
(spec_l20List y1).bind fun y2 =>
(spec_l12Choices y2.2.1).bind fun y3 =>
 some (y2.1.1, y2.1.2.1, y3.1, ())
def spec_DrawArrange_c : Ct := .pure false false (.pair (.slice (.int .u8)) .unit) (.pair T_State (.pair (.slice T_Trigger) (.pair (.slice (.int .i64)) .unit))) (fun x => spec_DrawArrange x.1)
theorem spec_DrawArrange_ct : CtOk Try.prog 21 spec_DrawArrange_c := pure_ct (E := { T := tab, G := [(115, spec_l1New_c), (126, spec_l20List_fresh_c), (127, spec_l12Choices_fresh_c)] }) (EnvOk.cons spec_l1New_ct (EnvOk.cons spec_l20List_fresh_ct (EnvOk.cons spec_l12Choices_fresh_ct (EnvOk.nil tabOk)))) mixed (fn := Try.f21) _ _ _ _ _ .none Try.func21 (by kernel_rfl) (fun x => by kernel_rfl)
def spec_DrawArrange_fresh_c : Ct := .pure false true (.pair (.slice (.int .u8)) .unit) (.pair T_State (.pair (.slice T_Trigger) (.pair (.slice (.int .i64)) .unit))) (fun x => spec_DrawArrange x.1)
theorem spec_DrawArrange_fresh_ct : CtOk Try.prog 21 spec_DrawArrange_fresh_c := pure_ct (E := { T := tab, G := [(115, spec_l1New_c), (126, spec_l20List_fresh_c), (127, spec_l12Choices_fresh_c)] }) (EnvOk.cons spec_l1New_ct (EnvOk.cons spec_l20List_fresh_ct (EnvOk.cons spec_l12Choices_fresh_ct (EnvOk.nil tabOk)))) mixed (fn := Try.f21) _ _ _ _ _ .none Try.func21 (by kernel_rfl) (fun x => by kernel_rfl)
/-! slices.Clone[[]loop.example/g00486/impl.Trigger,loop.example/g00486/impl.Trigger] -/
def slices_Clone_impl_Trigger (a0 : (List T_Trigger.D)) : Option (List T_Trigger.D) :=
 if (([] : List T_Trigger.D).length + a0.length) * (24 * 16) ≤ room then (
 some ([] ++ a0)) else none
def slices_Clone_impl_Trigger_c : Ct := .pure true false (.pair (.slice T_Trigger) .unit) (.slice T_Trigger) (fun x => slices_Clone_impl_Trigger x.1)
theorem slices_Clone_impl_Trigger_ct : CtOk Try.prog 128 slices_Clone_impl_Trigger_c := nil_ct (E := { T := tab, G := [] }) (EnvOk.nil tabOk) mixed (fn := Try.f128) _ _ T_Trigger _ _ .none .none Try.func128 (by kernel_rfl) (by kernel_rfl) (fun x => by kernel_rfl)
def slices_Clone_impl_Trigger_fresh_c : Ct := .pure true true (.pair (.slice T_Trigger) .unit) (.slice T_Trigger) (fun x => slices_Clone_impl_Trigger x.1)
theorem slices_Clone_impl_Trigger_fresh_ct : CtOk Try.prog 128 slices_Clone_impl_Trigger_fresh_c := nil_ct (E := { T := tab, G := [] }) (EnvOk.nil tabOk) mixed (fn := Try.f128) _ _ T_Trigger _ _ .none .none Try.func128 (by kernel_rfl) (by kernel_rfl) (fun x => by kernel_rfl)
/-! slices.Clone[[]int,int] -/
def slices_Clone_int (a0 : (List Int)) : Option (List Int) :=
 if (([] : List Int).length + a0.length) * (24 * 1) ≤ room then (
 some ([] ++ a0)) else none
def slices_Clone_int_c : Ct := .pure true false (.pair (.slice (.int .i64)) .unit) (.slice (.int .i64)) (fun x => slices_Clone_int x.1)
theorem slices_Clone_int_ct : CtOk Try.prog 129 slices_Clone_int_c := nil_ct (E := { T := tab, G := [] }) (EnvOk.nil tabOk) mixed (fn := Try.f129) _ _ (.int .i64) _ _ .none .none Try.func129 (by kernel_rfl) (by kernel_rfl) (fun x => by kernel_rfl)
def slices_Clone_int_fresh_c : Ct := .pure true true (.pair (.slice (.int .i64)) .unit) (.slice (.int .i64)) (fun x => slices_Clone_int x.1)
theorem slices_Clone_int_fresh_ct : CtOk Try.prog 129 slices_Clone_int_fresh_c := nil_ct (E := { T := tab, G := [] }) (EnvOk.nil tabOk) mixed (fn := Try.f129) _ _ (.int .i64) _ _ .none .none Try.func129 (by kernel_rfl) (by kernel_rfl) (fun x => by kernel_rfl)
/-! loop.example/g00486/impl.from -/
def impl_from (a0 : Int) (a1 : Int) (a2 : Int) : Option Bool :=
 bif decide (a0 ≥ a1) then (
 some (decide (a0 ≤ a2)))
 else (
 some false)
def impl_from_c : Ct := .pure true false (.pair (.int .i64) (.pair (.int .i64) (.pair (.int .i64) .unit))) .bool (fun x => impl_from x.1 x.2.1 x.2.2.1)
theorem impl_from_ct : CtOk Try.prog 175 impl_from_c := pure_ct (E := { T := tab, G := [] }) (EnvOk.nil tabOk) mixed (fn := Try.f175) _ _ _ _ _ .none Try.func175 (by kernel_rfl) (fun x => by kernel_rfl)
/-! loop.example/g00486/impl.isSide -/
def impl_isSide (a0 : T_State.D) (a1 : Int) : Option Bool :=
(impl_from a1 0 (IntKind.wrap .i64 ((a0.2.1.length : Int) - 1))).bind fun y1 =>
 some y1
def impl_isSide_c : Ct := .pure true false (.pair T_State (.pair (.int .i64) .unit)) .bool (fun x => impl_isSide x.1 x.2.1)
theorem impl_isSide_ct : CtOk Try.prog 136 impl_isSide_c := pure_ct (E := { T := tab, G := [(175, impl_from_c)] }) (EnvOk.cons impl_from_ct (EnvOk.nil tabOk)) mixed (fn := Try.f136) _ _ _ _ _ .none Try.func136 (by kernel_rfl) (fun x => by kernel_rfl)
/-! loop.example/g00486/impl.TurnOrder -/
def impl_TurnOrder_l1 (a0 : T_State.D) : ((List Int) × Int) → Option (((List Int) × Int) ⊕ ((List Int) × Int)) := fun s2 =>
 bif decide (s2.2 < (a0.2.1.length : Int)) then (
 if (a0.2.1.length : Int) = 0 then none else (
 let k3 : Int := (IntKind.wrap .i64 (a0.2.2.1 + s2.2)).tmod (a0.2.1.length : Int)
 if (s2.1.length + [k3].length) * (24 * 1) ≤ room then (
 some (.inl ((s2.1 ++ [k3]), IntKind.wrap .i64 (s2.2 + 1)))) else none))
 else (
 some (.inr s2))
def impl_TurnOrder (a0 : T_State.D) : Option (List Int) :=
(impl_isSide a0 a0.2.2.1).bind fun y1 =>
 bif (!y1) then (
 some [])
 else (
(while_ (impl_TurnOrder_l1 a0) ([], 0)).bind fun o4 =>
 some o4.1)
def impl_TurnOrder_h : Hints := (.node none none .none (.node none none .none (.node none none .none (.node none none (.node none none .none (.node none none (.node none (some ⟨[.tmpO 3 0 (.slice (.int .i64)), .tmp 15 (.int .i64)], [some 0], none, []⟩) .none .none) .none)) .none))))
def impl_TurnOrder_c : Ct := .pure true false (.pair T_State .unit) (.slice (.int .i64)) (fun x => impl_TurnOrder x.1)
theorem impl_TurnOrder_ct : CtOk Try.prog 24 impl_TurnOrder_c := pure_ct (E := { T := tab, G := [(136, impl_isSide_c)] }) (EnvOk.cons impl_isSide_ct (EnvOk.nil tabOk)) mixed (fn := Try.f24) _ _ _ _ _ impl_TurnOrder_h Try.func24 (by kernel_rfl) (fun x => by kernel_rfl)
def impl_TurnOrder_fresh_c : Ct := .pure true true (.pair T_State .unit) (.slice (.int .i64)) (fun x => impl_TurnOrder x.1)
theorem impl_TurnOrder_fresh_ct : CtOk Try.prog 24 impl_TurnOrder_fresh_c := pure_ct (E := { T := tab, G := [(136, impl_isSide_c)] }) (EnvOk.cons impl_isSide_ct (EnvOk.nil tabOk)) mixed (fn := Try.f24) _ _ _ _ _ impl_TurnOrder_h Try.func24 (by kernel_rfl) (fun x => by kernel_rfl)
/-! slices.IndexFunc[[]loop.example/g00486/impl.Trigger,loop.example/g00486/impl.Trigger] -/
def slices_IndexFunc_impl_Trigger_l1 (a0 : (List T_Trigger.D)) (a1 : ((T_Trigger.D × Unit) → Option Bool)) : Int → Option (Int ⊕ (Int ⊕ Int)) := fun s1 =>
 bif decide (s1 < (a0.length : Int)) then (
 idx a0 s1 fun x2 =>
(a1 (x2, ())).bind fun y3 =>
 bif y3 then (
 some (.inr (.inr s1)))
 else (
 some (.inl (IntKind.wrap .i64 (s1 + 1)))))
 else (
 some (.inr (.inl s1)))
def slices_IndexFunc_impl_Trigger (a0 : (List T_Trigger.D)) (a1 : ((T_Trigger.D × Unit) → Option Bool)) : Option Int :=
(while_ (slices_IndexFunc_impl_Trigger_l1 a0 a1) 0).bind fun o4 =>
 match o4 with
| .inl s5 => (
 some (-1))
| .inr o6 => (
 some o6)
def slices_IndexFunc_impl_Trigger_h : Hints := (.node none none .none (.node none none (.node none none .none (.node none none (.node none (some ⟨[.tmp 8 (.int .i64)], [some 0], some [.tmp 4 (.int .i64)], []⟩) .none .none) .none)) .none))
def slices_IndexFunc_impl_Trigger_c : Ct := .pure true false (.pair (.slice T_Trigger) (.pair (.fn (.pair T_Trigger .unit) .bool) .unit)) (.int .i64) (fun x => slices_IndexFunc_impl_Trigger x.1 x.2.1)
theorem slices_IndexFunc_impl_Trigger_ct : CtOk Try.prog 239 slices_IndexFunc_impl_Trigger_c := pure_ct (E := { T := tab, G := [] }) (EnvOk.nil tabOk) mixed (fn := Try.f239) _ _ _ _ _ slices_IndexFunc_impl_Trigger_h Try.func239 (by kernel_rfl) (fun x => by kernel_rfl)
/-! slices.DeleteFunc[[]loop.example/g00486/impl.Trigger,loop.example/g00486/impl.Trigger] -/
def slices_DeleteFunc_impl_Trigger_l1 (a1 : ((T_Trigger.D × Unit) → Option Bool)) : ((List T_Trigger.D) × (Int × Int)) → Option (((List T_Trigger.D) × (Int × Int)) ⊕ ((List T_Trigger.D) × (Int × Int))) := fun s3 =>
 bif decide (s3.2.2 < (s3.1.length : Int)) then (
 idx s3.1 s3.2.2 fun _ =>
(s3.1[(s3.2.2 : Int).toNat]?).bind fun x4 =>
(a1 (x4, ())).bind fun y5 =>
((bif (!y5) then (
 idx s3.1 s3.2.1 fun _ =>
(s3.1[(s3.2.1 : Int).toNat]?).bind fun x6 =>
 let u7 : (List T_Trigger.D) := s3.1.set (s3.2.1 : Int).toNat x4
 some (u7, IntKind.wrap .i64 (s3.2.1 + 1)))
 else (
 some (s3.1, s3.2.1))) : Option ((List T_Trigger.D) × Int)).bind fun o8 =>
 some (.inl (o8.1, o8.2, IntKind.wrap .i64 (s3.2.2 + 1))))
 else (
 some (.inr s3))
def slices_DeleteFunc_impl_Trigger (a0 : (List T_Trigger.D)) (a1 : ((T_Trigger.D × Unit) → Option Bool)) : Option ((List T_Trigger.D) × Unit) :=
(slices_IndexFunc_impl_Trigger a0 a1).bind fun y1 =>
 bif (y1 == (-1)) then (
 some (a0, ()))
 else (
(while_ (slices_DeleteFunc_impl_Trigger_l1 a1) (a0, y1, IntKind.wrap .i64 (y1 + 1))).bind fun o9 =>
 if 0 ≤ o9.2.1 then (if o9.2.1 ≤ (o9.1.length : Int) then (if (o9.1.length : Int) ≤ (o9.1.length : Int) then (
 if 0 ≤ (0 : Int) then (if (0 : Int) ≤ o9.2.1 then (if o9.2.1 ≤ ((o9.1.take (o9.2.1.toNat) ++ List.replicate ((o9.1.length : Int).toNat - o9.2.1.toNat) (0, 0, 0, (0, 0, 0, 0, 0, 0, 0, 0, 0, 0, 0, false, false, ()), ()) ++ o9.1.drop ((o9.1.length : Int).toNat)).length : Int) then (
 some ((((o9.1.take (o9.2.1.toNat) ++ List.replicate ((o9.1.length : Int).toNat - o9.2.1.toNat) (0, 0, 0, (0, 0, 0, 0, 0, 0, 0, 0, 0, 0, 0, false, false, ()), ()) ++ o9.1.drop ((o9.1.length : Int).toNat)).take (o9.2.1.toNat)).drop ((0 : Int).toNat)), ())) else none) else none) else none) else none) else none) else none)
def slices_DeleteFunc_impl_Trigger_h : Hints := (.node none none .none (.node none none .none (.node none none .none (.node none none (.node none none .none (.node none none (.node none (some ⟨[.tmpO 0 1 (.slice T_Trigger), .tmp 5 (.int .i64), .tmp 6 (.int .i64)], [some 0], none, []⟩) (.node none none .none (.node none none (.node none none (.node none none .none (.node none none .none (.node (some ⟨[.tmpO 0 2 (.slice T_Trigger), .tmp 5 (.int .i64)], [none], none, [(0, 1)]⟩) none .none .none))) .none) .none)) .none) .none)) .none))))
def slices_DeleteFunc_impl_Trigger_fresh_c : Ct := .mut [.tk, .rd] true true (.pair (.slice T_Trigger) (.pair (.fn (.pair T_Trigger .unit) .bool) .unit)) (.slice T_Trigger) (fun x => slices_DeleteFunc_impl_Trigger x.1 x.2.1)
theorem slices_DeleteFunc_impl_Trigger_fresh_ct : CtOk Try.prog 130 slices_DeleteFunc_impl_Trigger_fresh_c := mut_ct (E := { T := tab, G := [(239, slices_IndexFunc_impl_Trigger_c)] }) (EnvOk.cons slices_IndexFunc_impl_Trigger_ct (EnvOk.nil tabOk)) mixed (fn := Try.f130) _ _ _ _ _ _ slices_DeleteFunc_impl_Trigger_h Try.func130 (by kernel_rfl) (fun x => by kernel_rfl)
/-! loop.example/g00486/impl.TriggersOf$1 -/
def impl_TriggersOf_1 (z0 : Int) (a0 : T_Trigger.D) : Option Bool :=
 some (a0.2.1 != z0)
def impl_TriggersOf_1_c : Ct := .clo (.pair T_Trigger .unit) (.pair (.int .i64) .unit) .bool (fun z x => impl_TriggersOf_1 z.1 x.1)
theorem impl_TriggersOf_1_ct : CtOk Try.prog 139 impl_TriggersOf_1_c := clo_ct (E := { T := tab, G := [] }) (EnvOk.nil tabOk) mixed (fn := Try.f139) _ _ _ _ .none Try.func139 (by kernel_rfl) (fun z x => by kernel_rfl)
/-! loop.example/g00486/impl.TriggersOf -/
def impl_TriggersOf (a0 : (List T_Trigger.D)) (a1 : Int) : Option (List T_Trigger.D) :=
(slices_Clone_impl_Trigger a0).bind fun y1 =>
(slices_DeleteFunc_impl_Trigger y1 (fun q => impl_TriggersOf_1 a1 q.1)).bind fun y2 =>
 some y2.1
def impl_TriggersOf_c : Ct := .pure true false (.pair (.slice T_Trigger) (.pair (.int .i64) .unit)) (.slice T_Trigger) (fun x => impl_TriggersOf x.1 x.2.1)
theorem impl_TriggersOf_ct : CtOk Try.prog 30 impl_TriggersOf_c := pure_ct (E := { T := tab, G := [(128, slices_Clone_impl_Trigger_fresh_c), (130, slices_DeleteFunc_impl_Trigger_fresh_c), (139, impl_TriggersOf_1_c)] }) (EnvOk.cons slices_Clone_impl_Trigger_fresh_ct (EnvOk.cons slices_DeleteFunc_impl_Trigger_fresh_ct (EnvOk.cons impl_TriggersOf_1_ct (EnvOk.nil tabOk)))) mixed (fn := Try.f30) _ _ _ _ _ .none Try.func30 (by kernel_rfl) (fun x => by kernel_rfl)
def impl_TriggersOf_fresh_c : Ct := .pure true true (.pair (.slice T_Trigger) (.pair (.int .i64) .unit)) (.slice T_Trigger) (fun x => impl_TriggersOf x.1 x.2.1)
theorem impl_TriggersOf_fresh_ct : CtOk Try.prog 30 impl_TriggersOf_fresh_c := pure_ct (E := { T := tab, G := [(128, slices_Clone_impl_Trigger_fresh_c), (130, slices_DeleteFunc_impl_Trigger_fresh_c), (139, impl_TriggersOf_1_c)] }) (EnvOk.cons slices_Clone_impl_Trigger_fresh_ct (EnvOk.cons slices_DeleteFunc_impl_Trigger_fresh_ct (EnvOk.cons impl_TriggersOf_1_ct (EnvOk.nil tabOk)))) mixed (fn := Try.f30) _ _ _ _ _ .none Try.func30 (by kernel_rfl) (fun x => by kernel_rfl)
/-! loop.example/g00486/impl.Arrange$1 -/
def impl_Arrange_1 (z0 : Int) (a0 : T_Trigger.D) : Option Bool :=
 some (a0.2.1 == z0)
def impl_Arrange_1_c : Ct := .clo (.pair T_Trigger .unit) (.pair (.int .i64) .unit) .bool (fun z x => impl_Arrange_1 z.1 x.1)
theorem impl_Arrange_1_ct : CtOk Try.prog 131 impl_Arrange_1_c := clo_ct (E := { T := tab, G := [] }) (EnvOk.nil tabOk) mixed (fn := Try.f131) _ _ _ _ .none Try.func131 (by kernel_rfl) (fun z x => by kernel_rfl)
/-! loop.example/g00486/impl.Pick -/
def impl_Pick (a0 : (List Int)) (a1 : Int) : Option (Int × ((List Int) × Unit)) :=
((bif decide (a1 < 2) then (
 some true)
 else (
 some ((a0.length : Int) == 0))) : Option Bool).bind fun o1 =>
 bif o1 then (
(slices_Clone_int a0).bind fun y2 =>
 some (0, y2, ()))
 else (
 idx a0 0 fun x3 =>
 if a1 = 0 then none else (
((bif decide ((x3.tmod a1) < 0) then (
 some (IntKind.wrap .i64 ((x3.tmod a1) + a1)))
 else (
 some (x3.tmod a1))) : Option Int).bind fun o4 =>
 if 0 ≤ (1 : Int) then (if (1 : Int) ≤ (a0.length : Int) then (if (a0.length : Int) ≤ (a0.length : Int) then (
(slices_Clone_int ((a0.take (a0.length : Int).toNat).drop (1 : Int).toNat)).bind fun y5 =>
 some (o4, y5, ())) else none) else none) else none))
def impl_Pick_h : Hints := (.node none none .none (.node none none (.node none none (.node (some ⟨[.tmp 13 .bool], [none], none, []⟩) none .none .none) .none) (.node none none .none (.node none none (.node none none .none (.node (some ⟨[.tmp 6 (.int .i64)], [none], none, []⟩) none .none .none)) .none))))
def impl_Pick_c : Ct := .pure false false (.pair (.slice (.int .i64)) (.pair (.int .i64) .unit)) (.pair (.int .i64) (.pair (.slice (.int .i64)) .unit)) (fun x => impl_Pick x.1 x.2.1)
theorem impl_Pick_ct : CtOk Try.prog 132 impl_Pick_c := pure_ct (E := { T := tab, G := [(129, slices_Clone_int_fresh_c)] }) (EnvOk.cons slices_Clone_int_fresh_ct (EnvOk.nil tabOk)) mixed (fn := Try.f132) _ _ _ _ _ impl_Pick_h Try.func132 (by kernel_rfl) (fun x => by kernel_rfl)
def impl_Pick_fresh_c : Ct := .pure false true (.pair (.slice (.int .i64)) (.pair (.int .i64) .unit)) (.pair (.int .i64) (.pair (.slice (.int .i64)) .unit)) (fun x => impl_Pick x.1 x.2.1)
theorem impl_Pick_fresh_ct : CtOk Try.prog 132 impl_Pick_fresh_c := pure_ct (E := { T := tab, G := [(129, slices_Clone_int_fresh_c)] }) (EnvOk.cons slices_Clone_int_fresh_ct (EnvOk.nil tabOk)) mixed (fn := Try.f132) _ _ _ _ _ impl_Pick_h Try.func132 (by kernel_rfl) (fun x => by kernel_rfl)
/-! slices.Delete[[]loop.example/g00486/impl.Trigger,loop.example/g00486/impl.Trigger] -/
def slices_Delete_impl_Trigger (a0 : (List T_Trigger.D)) (a1 : Int) (a2 : Int) : Option ((List T_Trigger.D) × Unit) :=
 if 0 ≤ a1 then (if a1 ≤ a2 then (if a2 ≤ (a0.length : Int) then (
 if a2 ≤ (a0.length : Int) then (if (a0.length : Int) ≤ (a0.length : Int) then (
 bif (a1 == a2) then (
 some (a0, ()))
 else (
 if 0 ≤ (0 : Int) then (if (0 : Int) ≤ a1 then (if a1 ≤ (a0.length : Int) then (
 if 0 ≤ a2 then (if a2 ≤ (a0.length : Int) then (if (a0.length : Int) ≤ (a0.length : Int) then (
 if a2.toNat ≤ (a0.length : Int).toNat then (if a1.toNat + ((a0.length : Int).toNat - a2.toNat) ≤ a0.length then (
 let u1 : (List T_Trigger.D) := a0.take (a1.toNat) ++ (a0.take ((a0.length : Int).toNat)).drop (a2.toNat) ++ a0.drop (a1.toNat + ((a0.length : Int).toNat - a2.toNat))
 if 0 ≤ ((a1.toNat + ((a0.length : Int).toNat - a2.toNat) - 0 : Nat) : Int) then (if ((a1.toNat + ((a0.length : Int).toNat - a2.toNat) - 0 : Nat) : Int) ≤ (a0.length : Int) then (if (a0.length : Int) ≤ (u1.length : Int) then (
 some ((((u1.take (((a1.toNat + ((a0.length : Int).toNat - a2.toNat) - 0 : Nat) : Int).toNat) ++ List.replicate ((a0.length : Int).toNat - ((a1.toNat + ((a0.length : Int).toNat - a2.toNat) - 0 : Nat) : Int).toNat) (0, 0, 0, (0, 0, 0, 0, 0, 0, 0, 0, 0, 0, 0, false, false, ()), ()) ++ u1.drop ((a0.length : Int).toNat)).take (a1.toNat + ((a0.length : Int).toNat - a2.toNat))).drop (0)), ())) else none) else none) else none) else none) else none) else none) else none) else none) else none) else none) else none)) else none) else none) else none) else none) else none
def slices_Delete_impl_Trigger_fresh_c : Ct := .mut [.tk, .rd, .rd] true true (.pair (.slice T_Trigger) (.pair (.int .i64) (.pair (.int .i64) .unit))) (.slice T_Trigger) (fun x => slices_Delete_impl_Trigger x.1 x.2.1 x.2.2.1)
theorem slices_Delete_impl_Trigger_fresh_ct : CtOk Try.prog 133 slices_Delete_impl_Trigger_fresh_c := mut_ct (E := { T := tab, G := [] }) (EnvOk.nil tabOk) mixed (fn := Try.f133) _ _ _ _ _ _ .none Try.func133 (by kernel_rfl) (fun x => by kernel_rfl)
/-! loop.example/g00486/impl.Arrange -/
def impl_Arrange_l1 : ((List Int) × ((List T_Trigger.D) × (List T_Trigger.D))) → Option (((List Int) × ((List T_Trigger.D) × (List T_Trigger.D))) ⊕ ((List Int) × ((List T_Trigger.D) × (List T_Trigger.D)))) := fun s8 =>
 bif decide ((s8.2.2.length : Int) > 0) then (
(impl_Pick s8.1 (s8.2.2.length : Int)).bind fun y9 =>
 idx s8.2.2 y9.1 fun _ =>
(s8.2.2[(y9.1 : Int).toNat]?).bind fun x10 =>
 if (s8.2.1.length + [x10].length) * (24 * 16) ≤ room then (
(slices_Delete_impl_Trigger s8.2.2 y9.1 (IntKind.wrap .i64 (y9.1 + 1))).bind fun y11 =>
 some (.inl (y9.2.1, (s8.2.1 ++ [x10]), y11.1))) else none)
 else (
 some (.inr s8))
def impl_Arrange_l2 (y3 : (List Int)) : ((List Int) × ((List T_Trigger.D) × ((List T_Trigger.D) × Int))) → Option (((List Int) × ((List T_Trigger.D) × ((List T_Trigger.D) × Int))) ⊕ ((List Int) × ((List T_Trigger.D) × ((List T_Trigger.D) × Int)))) := fun s4 =>
 bif decide (s4.2.2.2 < (y3.length : Int)) then (
 idx y3 s4.2.2.2 fun _ =>
(y3[(s4.2.2.2 : Int).toNat]?).bind fun x5 =>
(impl_TriggersOf s4.2.2.1 x5).bind fun y6 =>
(slices_DeleteFunc_impl_Trigger s4.2.2.1 (fun q => impl_Arrange_1 x5 q.1)).bind fun y7 =>
(while_ (impl_Arrange_l1) (s4.1, s4.2.1, y6)).bind fun o12 =>
 some (.inl (o12.1, o12.2.1, y7.1, IntKind.wrap .i64 (s4.2.2.2 + 1))))
 else (
 some (.inr s4))
def impl_Arrange (a0 : T_State.D) (a1 : (List T_Trigger.D)) (a2 : (List Int)) : Option ((List T_Trigger.D) × ((List Int) × Unit)) :=
(slices_Clone_impl_Trigger a1).bind fun y1 =>
(slices_Clone_int a2).bind fun y2 =>
(impl_TurnOrder a0).bind fun y3 =>
(while_ (impl_Arrange_l2 y3) (y2, [], y1, 0)).bind fun o13 =>
 if (o13.2.1.length + o13.2.2.1.length) * (24 * 16) ≤ room then (
 some ((o13.2.1 ++ o13.2.2.1), o13.1, ())) else none
def impl_Arrange_h : Hints := (.node none none .none (.node none none .none (.node none none .none (.node none none .none (.node none none (.node none none .none (.node none none (.node none (some ⟨[.tmpO 2 0 (.slice (.int .i64)), .tmpO 8 0 (.slice T_Trigger), .tmpO 9 0 (.slice T_Trigger), .tmp 23 (.int .i64)], [some 0], none, []⟩) (.node none none .none (.node none none .none (.node none none (.node none none (.node none none .none (.node none none .none (.node none none .none (.node none none (.node none (some ⟨[.tmpO 2 1 (.slice (.int .i64)), .tmpO 8 1 (.slice T_Trigger), .tmpO 12 0 (.slice T_Trigger)], [some 2], none, []⟩) .none .none) .none)))) .none) .none))) .none) .none)) .none)))))
def impl_Arrange_c : Ct := .pure false false (.pair T_State (.pair (.slice T_Trigger) (.pair (.slice (.int .i64)) .unit))) (.pair (.slice T_Trigger) (.pair (.slice (.int .i64)) .unit)) (fun x => impl_Arrange x.1 x.2.1 x.2.2.1)
theorem impl_Arrange_ct : CtOk Try.prog 22 impl_Arrange_c := pure_ct (E := { T := tab, G := [(24, impl_TurnOrder_fresh_c), (30, impl_TriggersOf_fresh_c), (128, slices_Clone_impl_Trigger_fresh_c), (129, slices_Clone_int_fresh_c), (130, slices_DeleteFunc_impl_Trigger_fresh_c), (131, impl_Arrange_1_c), (132, impl_Pick_fresh_c), (133, slices_Delete_impl_Trigger_fresh_c)] }) (EnvOk.cons impl_TurnOrder_fresh_ct (EnvOk.cons impl_TriggersOf_fresh_ct (EnvOk.cons slices_Clone_impl_Trigger_fresh_ct (EnvOk.cons slices_Clone_int_fresh_ct (EnvOk.cons slices_DeleteFunc_impl_Trigger_fresh_ct (EnvOk.cons impl_Arrange_1_ct (EnvOk.cons impl_Pick_fresh_ct (EnvOk.cons slices_Delete_impl_Trigger_fresh_ct (EnvOk.nil tabOk))))))))) mixed (fn := Try.f22) _ _ _ _ _ impl_Arrange_h Try.func22 (by kernel_rfl) (fun x => by kernel_rfl)
def impl_Arrange_fresh_c : Ct := .pure false true (.pair T_State (.pair (.slice T_Trigger) (.pair (.slice (.int .i64)) .unit))) (.pair (.slice T_Trigger) (.pair (.slice (.int .i64)) .unit)) (fun x => impl_Arrange x.1 x.2.1 x.2.2.1)
theorem impl_Arrange_fresh_ct : CtOk Try.prog 22 impl_Arrange_fresh_c := pure_ct (E := { T := tab, G := [(24, impl_TurnOrder_fresh_c), (30, impl_TriggersOf_fresh_c), (128, slices_Clone_impl_Trigger_fresh_c), (129, slices_Clone_int_fresh_c), (130, slices_DeleteFunc_impl_Trigger_fresh_c), (131, impl_Arrange_1_c), (132, impl_Pick_fresh_c), (133, slices_Delete_impl_Trigger_fresh_c)] }) (EnvOk.cons impl_TurnOrder_fresh_ct (EnvOk.cons impl_TriggersOf_fresh_ct (EnvOk.cons slices_Clone_impl_Trigger_fresh_ct (EnvOk.cons slices_Clone_int_fresh_ct (EnvOk.cons slices_DeleteFunc_impl_Trigger_fresh_ct (EnvOk.cons impl_Arrange_1_ct (EnvOk.cons impl_Pick_fresh_ct (EnvOk.cons slices_Delete_impl_Trigger_fresh_ct (EnvOk.nil tabOk))))))))) mixed (fn := Try.f22) _ _ _ _ _ impl_Arrange_h Try.func22 (by kernel_rfl) (fun x => by kernel_rfl)
/-! loop.example/g00486/spec.l1In -/
def spec_l1In (a0 : Int) (a1 : Int) (a2 : Int) : Option Bool :=
 bif decide (a0 ≥ a1) then (
 some (decide (a0 ≤ a2)))
 else (
 some false)
def spec_l1In_c : Ct := .pure true false (.pair (.int .i64) (.pair (.int .i64) (.pair (.int .i64) .unit))) .bool (fun x => spec_l1In x.1 x.2.1 x.2.2.1)
theorem spec_l1In_ct : CtOk Try.prog 138 spec_l1In_c := pure_ct (E := { T := tab, G := [] }) (EnvOk.nil tabOk) mixed (fn := Try.f138) _ _ _ _ _ .none Try.func138 (by kernel_rfl) (fun x => by kernel_rfl)
/-! loop.example/g00486/spec.TurnOrder -/
def spec_TurnOrder_l1 (a0 : T_State.D) : ((List Int) × Int) → Option (((List Int) × Int) ⊕ ((List Int) × Int)) := fun s1 =>
((bif decide (s1.2 < (a0.2.1.length : Int)) then (
(spec_l1In a0.2.2.1 0 (IntKind.wrap .i64 ((a0.2.1.length : Int) - 1))).bind fun y2 =>
 some y2)
 else (
 some false)) : Option Bool).bind fun o3 =>
 bif o3 then (
 if (a0.2.1.length : Int) = 0 then none else (
 let k4 : Int := (IntKind.wrap .i64 (a0.2.2.1 + s1.2)).tmod (a0.2.1.length : Int)
 if (s1.1.length + [k4].length) * (24 * 1) ≤ room then (
 some (.inl ((s1.1 ++ [k4]), IntKind.wrap .i64 (s1.2 + 1)))) else none))
 else (
 some (.inr s1))
def spec_TurnOrder (a0 : T_State.D) : Option (List Int) :=
(while_ (spec_TurnOrder_l1 a0) ([], 0)).bind fun o5 =>
 some o5.1
def spec_TurnOrder_h : Hints := (.node none none .none (.node none none .none (.node none none (.node none none .none (.node none none (.node none (some ⟨[.tmpO 3 0 (.slice (.int .i64)), .tmp 4 (.int .i64)], [some 0], none, []⟩) (.node none none (.node none none (.node (some ⟨[.tmp 19 .bool], [none], none, []⟩) none .none .none) .none) .none) .none) .none)) .none)))
def spec_TurnOrder_c : Ct := .pure true false (.pair T_State .unit) (.slice (.int .i64)) (fun x => spec_TurnOrder x.1)
theorem spec_TurnOrder_ct : CtOk Try.prog 28 spec_TurnOrder_c := pure_ct (E := { T := tab, G := [(138, spec_l1In_c)] }) (EnvOk.cons spec_l1In_ct (EnvOk.nil tabOk)) mixed (fn := Try.f28) _ _ _ _ _ spec_TurnOrder_h Try.func28 (by kernel_rfl) (fun x => by kernel_rfl)
def spec_TurnOrder_fresh_c : Ct := .pure true true (.pair T_State .unit) (.slice (.int .i64)) (fun x => spec_TurnOrder x.1)
theorem spec_TurnOrder_fresh_ct : CtOk Try.prog 28 spec_TurnOrder_fresh_c := pure_ct (E := { T := tab, G := [(138, spec_l1In_c)] }) (EnvOk.cons spec_l1In_ct (EnvOk.nil tabOk)) mixed (fn := Try.f28) _ _ _ _ _ spec_TurnOrder_h Try.func28 (by kernel_rfl) (fun x => by kernel_rfl)
/-! loop.example/g00486/spec.TriggersOf -/
def spec_TriggersOf_l1 (a0 : (List T_Trigger.D)) (a1 : Int) : ((List T_Trigger.D) × Int) → Option (((List T_Trigger.D) × Int) ⊕ ((List T_Trigger.D) × Int)) := fun s1 =>
 bif decide (s1.2 < (a0.length : Int)) then (
 idx a0 s1.2 fun x2 =>
((bif (x2.2.1 == a1) then (
 idx a0 s1.2 fun x3 =>
 if (s1.1.length + [x3].length) * (24 * 16) ≤ room then (
 some (s1.1 ++ [x3])) else none)
 else (
 some s1.1)) : Option (List T_Trigger.D)).bind fun o4 =>
 some (.inl (o4, IntKind.wrap .i64 (s1.2 + 1))))
 else (
 some (.inr s1))
def spec_TriggersOf (a0 : (List T_Trigger.D)) (a1 : Int) : Option (List T_Trigger.D) :=
(while_ (spec_TriggersOf_l1 a0 a1) ([], 0)).bind fun o5 =>
 some o5.1
def spec_TriggersOf_h : Hints := (.node none none .none (.node none none .none (.node none none (.node none none .none (.node none none (.node none (some ⟨[.tmpO 5 0 (.slice T_Trigger), .tmp 6 (.int .i64)], [some 0], none, []⟩) (.node none none .none (.node none none (.node none none (.node none none .none (.node (some ⟨[.tmpO 5 1 (.slice T_Trigger)], [none], none, [(5, 0)]⟩) none .none .none)) .none) .none)) .none) .none)) .none)))
def spec_TriggersOf_c : Ct := .pure true false (.pair (.slice T_Trigger) (.pair (.int .i64) .unit)) (.slice T_Trigger) (fun x => spec_TriggersOf x.1 x.2.1)
theorem spec_TriggersOf_ct : CtOk Try.prog 31 spec_TriggersOf_c := pure_ct (E := { T := tab, G := [] }) (EnvOk.nil tabOk) mixed (fn := Try.f31) _ _ _ _ _ spec_TriggersOf_h Try.func31 (by kernel_rfl) (fun x => by kernel_rfl)
def spec_TriggersOf_fresh_c : Ct := .pure true true (.pair (.slice T_Trigger) (.pair (.int .i64) .unit)) (.slice T_Trigger) (fun x => spec_TriggersOf x.1 x.2.1)
theorem spec_TriggersOf_fresh_ct : CtOk Try.prog 31 spec_TriggersOf_fresh_c := pure_ct (E := { T := tab, G := [] }) (EnvOk.nil tabOk) mixed (fn := Try.f31) _ _ _ _ _ spec_TriggersOf_h Try.func31 (by kernel_rfl) (fun x => by kernel_rfl)
/-! loop.example/g00486/spec.Pick -/
def spec_Pick (a0 : (List Int)) (a1 : Int) : Option (Int × ((List Int) × Unit)) :=
((bif decide (a1 < 2) then (
 some true)
 else (
 some ((a0.length : Int) == 0))) : Option Bool).bind fun o1 =>
 bif o1 then (
 if (([] : List Int).length + a0.length) * (24 * 1) ≤ room then (
 some (0, ([] ++ a0), ())) else none)
 else (
 idx a0 0 fun x2 =>
 if a1 = 0 then none else (
((bif decide ((x2.tmod a1) < 0) then (
 some (IntKind.wrap .i64 ((x2.tmod a1) + a1)))
 else (
 some (x2.tmod a1))) : Option Int).bind fun o3 =>
 if 0 ≤ (1 : Int) then (if (1 : Int) ≤ (a0.length : Int) then (if (a0.length : Int) ≤ (a0.length : Int) then (
 if (([] : List Int).length + ((a0.take (a0.length : Int).toNat).drop (1 : Int).toNat).length) * (24 * 1) ≤ room then (
 some (o3, ([] ++ ((a0.take (a0.length : Int).toNat).drop (1 : Int).toNat)), ())) else none) else none) else none) else none))
def spec_Pick_h : Hints := (.node none none .none (.node none none (.node none none (.node (some ⟨[.tmp 13 .bool], [none], none, []⟩) none .none .none) .none) (.node none none .none (.node none none (.node none none .none (.node (some ⟨[.tmp 6 (.int .i64)], [none], none, []⟩) none .none .none)) .none))))
def spec_Pick_c : Ct := .pure false false (.pair (.slice (.int .i64)) (.pair (.int .i64) .unit)) (.pair (.int .i64) (.pair (.slice (.int .i64)) .unit)) (fun x => spec_Pick x.1 x.2.1)
theorem spec_Pick_ct : CtOk Try.prog 134 spec_Pick_c := pure_ct (E := { T := tab, G := [] }) (EnvOk.nil tabOk) mixed (fn := Try.f134) _ _ _ _ _ spec_Pick_h Try.func134 (by kernel_rfl) (fun x => by kernel_rfl)
def spec_Pick_fresh_c : Ct := .pure false true (.pair (.slice (.int .i64)) (.pair (.int .i64) .unit)) (.pair (.int .i64) (.pair (.slice (.int .i64)) .unit)) (fun x => spec_Pick x.1 x.2.1)
theorem spec_Pick_fresh_ct : CtOk Try.prog 134 spec_Pick_fresh_c := pure_ct (E := { T := tab, G := [] }) (EnvOk.nil tabOk) mixed (fn := Try.f134) _ _ _ _ _ spec_Pick_h Try.func134 (by kernel_rfl) (fun x => by kernel_rfl)
/-! loop.example/g00486/spec.Has -/
def spec_Has_l1 (a0 : (List Int)) (a1 : Int) : Int → Option (Int ⊕ (Int ⊕ Bool)) := fun s1 =>
 bif decide (s1 < (a0.length : Int)) then (
 idx a0 s1 fun x2 =>
 bif (x2 == a1) then (
 some (.inr (.inr true)))
 else (
 some (.inl (IntKind.wrap .i64 (s1 + 1)))))
 else (
 some (.inr (.inl s1)))
def spec_Has (a0 : (List Int)) (a1 : Int) : Option Bool :=
(while_ (spec_Has_l1 a0 a1) 0).bind fun o3 =>
 match o3 with
| .inl s4 => (
 some false)
| .inr o5 => (
 some o5)
def spec_Has_h : Hints := (.node none none .none (.node none none (.node none none .none (.node none none (.node none (some ⟨[.tmp 5 (.int .i64)], [some 0], some [.tmp 4 .bool], []⟩) .none .none) .none)) .none))
def spec_Has_c : Ct := .pure true false (.pair (.slice (.int .i64)) (.pair (.int .i64) .unit)) .bool (fun x => spec_Has x.1 x.2.1)
theorem spec_Has_ct : CtOk Try.prog 135 spec_Has_c := pure_ct (E := { T := tab, G := [] }) (EnvOk.nil tabOk) mixed (fn := Try.f135) _ _ _ _ _ spec_Has_h Try.func135 (by kernel_rfl) (fun x => by kernel_rfl)
/-! loop.example/g00486/spec.Arrange -/
def spec_Arrange_l1 : ((List T_Trigger.D) × ((List Int) × (List T_Trigger.D))) → Option (((List T_Trigger.D) × ((List Int) × (List T_Trigger.D))) ⊕ ((List T_Trigger.D) × ((List Int) × (List T_Trigger.D)))) := fun s5 =>
 bif decide ((s5.2.2.length : Int) > 0) then (
(spec_Pick s5.2.1 (s5.2.2.length : Int)).bind fun y6 =>
 idx s5.2.2 y6.1 fun _ =>
(s5.2.2[(y6.1 : Int).toNat]?).bind fun x7 =>
 if (s5.1.length + [x7].length) * (24 * 16) ≤ room then (
 if 0 ≤ (0 : Int) then (if (0 : Int) ≤ y6.1 then (if y6.1 ≤ (s5.2.2.length : Int) then (
 if (([] : List T_Trigger.D).length + ((s5.2.2.take (y6.1.toNat)).drop ((0 : Int).toNat)).length) * (24 * 16) ≤ room then (
 if 0 ≤ (IntKind.wrap .i64 (y6.1 + 1)) then (if (IntKind.wrap .i64 (y6.1 + 1)) ≤ (s5.2.2.length : Int) then (if (s5.2.2.length : Int) ≤ (s5.2.2.length : Int) then (
 if (([] ++ ((s5.2.2.take (y6.1.toNat)).drop ((0 : Int).toNat))).length + ((s5.2.2.take ((s5.2.2.length : Int).toNat)).drop ((IntKind.wrap .i64 (y6.1 + 1)).toNat)).length) * (24 * 16) ≤ room then (
 some (.inl ((s5.1 ++ [x7]), y6.2.1, (([] ++ ((s5.2.2.take (y6.1.toNat)).drop ((0 : Int).toNat))) ++ ((s5.2.2.take ((s5.2.2.length : Int).toNat)).drop ((IntKind.wrap .i64 (y6.1 + 1)).toNat)))))) else none) else none) else none) else none) else none) else none) else none) else none) else none)
 else (
 some (.inr s5))
def spec_Arrange_l2 (a1 : (List T_Trigger.D)) (y1 : (List Int)) : ((List T_Trigger.D) × ((List Int) × Int)) → Option (((List T_Trigger.D) × ((List Int) × Int)) ⊕ ((List T_Trigger.D) × ((List Int) × Int))) := fun s2 =>
 bif decide (s2.2.2 < (y1.length : Int)) then (
 idx y1 s2.2.2 fun _ =>
(y1[(s2.2.2 : Int).toNat]?).bind fun x3 =>
(spec_TriggersOf a1 x3).bind fun y4 =>
(while_ (spec_Arrange_l1) (s2.1, s2.2.1, y4)).bind fun o8 =>
 some (.inl (o8.1, o8.2.1, IntKind.wrap .i64 (s2.2.2 + 1))))
 else (
 some (.inr s2))
def spec_Arrange_l3 (a1 : (List T_Trigger.D)) (y1 : (List Int)) : ((List T_Trigger.D) × Int) → Option (((List T_Trigger.D) × Int) ⊕ ((List T_Trigger.D) × Int)) := fun s10 =>
 bif decide (s10.2 < (a1.length : Int)) then (
 idx a1 s10.2 fun x11 =>
(spec_Has y1 x11.2.1).bind fun y12 =>
((bif (!y12) then (
 idx a1 s10.2 fun x13 =>
 if (s10.1.length + [x13].length) * (24 * 16) ≤ room then (
 some (s10.1 ++ [x13])) else none)
 else (
 some s10.1)) : Option (List T_Trigger.D)).bind fun o14 =>
 some (.inl (o14, IntKind.wrap .i64 (s10.2 + 1))))
 else (
 some (.inr s10))
def spec_Arrange (a0 : T_State.D) (a1 : (List T_Trigger.D)) (a2 : (List Int)) : Option ((List T_Trigger.D) × ((List Int) × Unit)) :=
 if (([] : List Int).length + a2.length) * (24 * 1) ≤ room then (
(spec_TurnOrder a0).bind fun y1 =>
(while_ (spec_Arrange_l2 a1 y1) ([], ([] ++ a2), 0)).bind fun o9 =>
(while_ (spec_Arrange_l3 a1 y1) (o9.1, 0)).bind fun o15 =>
 some (o15.1, o9.2.1, ())) else none
def spec_Arrange_h : Hints := (.node none none .none (.node none none .none (.node none none .none (.node none none .none (.node none none (.node none none .none (.node none none (.node none (some ⟨[.tmpO 8 0 (.slice T_Trigger), .tmpO 9 0 (.slice (.int .i64)), .tmp 11 (.int .i64)], [some 0], none, []⟩) (.node none none .none (.node none none (.node none none (.node none none .none (.node none none (.node none (some ⟨[.tmpO 8 1 (.slice T_Trigger), .tmpO 9 1 (.slice (.int .i64)), .tmpO 12 0 (.slice T_Trigger)], [some 2], none, []⟩) .none .none) .none)) .none) .none)) .none) .none)) (.node none none (.node none none .none (.node none none (.node none (some ⟨[.tmpO 8 1 (.slice T_Trigger), .tmp 15 (.int .i64)], [some 4], none, []⟩) (.node none none .none (.node none none (.node none none (.node none none .none (.node (some ⟨[.tmpO 8 2 (.slice T_Trigger)], [none], none, [(8, 1)]⟩) none .none .none)) .none) .none)) .none) .none)) .none))))))
def spec_Arrange_c : Ct := .pure false false (.pair T_State (.pair (.slice T_Trigger) (.pair (.slice (.int .i64)) .unit))) (.pair (.slice T_Trigger) (.pair (.slice (.int .i64)) .unit)) (fun x => spec_Arrange x.1 x.2.1 x.2.2.1)
theorem spec_Arrange_ct : CtOk Try.prog 23 spec_Arrange_c := pure_ct (E := { T := tab, G := [(28, spec_TurnOrder_fresh_c), (31, spec_TriggersOf_fresh_c), (134, spec_Pick_fresh_c), (135, spec_Has_c)] }) (EnvOk.cons spec_TurnOrder_fresh_ct (EnvOk.cons spec_TriggersOf_fresh_ct (EnvOk.cons spec_Pick_fresh_ct (EnvOk.cons spec_Has_ct (EnvOk.nil tabOk))))) mixed (fn := Try.f23) _ _ _ _ _ spec_Arrange_h Try.func23 (by kernel_rfl) (fun x => by kernel_rfl)
def spec_Arrange_fresh_c : Ct := .pure false true (.pair T_State (.pair (.slice T_Trigger) (.pair (.slice (.int .i64)) .unit))) (.pair (.slice T_Trigger) (.pair (.slice (.int .i64)) .unit)) (fun x => spec_Arrange x.1 x.2.1 x.2.2.1)
theorem spec_Arrange_fresh_ct : CtOk Try.prog 23 spec_Arrange_fresh_c := pure_ct (E := { T := tab, G := [(28, spec_TurnOrder_fresh_c), (31, spec_TriggersOf_fresh_c), (134, spec_Pick_fresh_c), (135, spec_Has_c)] }) (EnvOk.cons spec_TurnOrder_fresh_ct (EnvOk.cons spec_TriggersOf_fresh_ct (EnvOk.cons spec_Pick_fresh_ct (EnvOk.cons spec_Has_ct (EnvOk.nil tabOk))))) mixed (fn := Try.f23) _ _ _ _ _ spec_Arrange_h Try.func23 (by kernel_rfl) (fun x => by kernel_rfl)
/-! loop.example/g00486/spec.DrawSameTriggers -/
def spec_DrawSameTriggers (a0 : (List Int)) : Option ((List T_Trigger.D) × ((List T_Trigger.D) × Unit)) :=
(spec_l1New a0).bind fun y1 =>
(spec_l20List y1).bind fun y2 =>
(spec_l1Once y2.2.1 2).bind fun y3 =>
 bif y3.1 then (
 if (([] : List T_Trigger.D).length + y2.1.2.1.length) * (24 * 16) ≤ room then (
 some (y2.1.2.1, ([] ++ y2.1.2.1), ())) else none)
 else (
(spec_l20List y3.2.1).bind fun y4 =>
 some (y2.1.2.1, y4.1.2))
def spec_DrawSameTriggers_c : Ct := .pure false false (.pair (.slice (.int .u8)) .unit) (.pair (.slice T_Trigger) (.pair (.slice T_Trigger) .unit)) (fun x => spec_DrawSameTriggers x.1)
theorem spec_DrawSameTriggers_ct : CtOk Try.prog 25 spec_DrawSameTriggers_c := pure_ct (E := { T := tab, G := [(115, spec_l1New_c), (117, spec_l1Once_c), (126, spec_l20List_fresh_c)] }) (EnvOk.cons spec_l1New_ct (EnvOk.cons spec_l1Once_ct (EnvOk.cons spec_l20List_fresh_ct (EnvOk.nil tabOk)))) mixed (fn := Try.f25) _ _ _ _ _ .none Try.func25 (by kernel_rfl) (fun x => by kernel_rfl)
def spec_DrawSameTriggers_fresh_c : Ct := .pure false true (.pair (.slice (.int .u8)) .unit) (.pair (.slice T_Trigger) (.pair (.slice T_Trigger) .unit)) (fun x => spec_DrawSameTriggers x.1)
theorem spec_DrawSameTriggers_fresh_ct : CtOk Try.prog 25 spec_DrawSameTriggers_fresh_c := pure_ct (E := { T := tab, G := [(115, spec_l1New_c), (117, spec_l1Once_c), (126, spec_l20List_fresh_c)] }) (EnvOk.cons spec_l1New_ct (EnvOk.cons spec_l1Once_ct (EnvOk.cons spec_l20List_fresh_ct (EnvOk.nil tabOk)))) mixed (fn := Try.f25) _ _ _ _ _ .none Try.func25 (by kernel_rfl) (fun x => by kernel_rfl)
/-! loop.example/g00486/spec.DrawTriggersOf -/
def spec_DrawTriggersOf (a0 : (List Int)) : Option ((List T_Trigger.D) × (Int × Unit)) :=
(spec_l1New a0).bind fun y1 =>
(spec_l20List y1).bind fun y2 =>
(spec_l1Below y2.2.1 4).bind fun y3 =>
 some (y2.1.2.1, IntKind.wrap .i64 (y3.1 - 1), ())
def spec_DrawTriggersOf_c : Ct := .pure false false (.pair (.slice (.int .u8)) .unit) (.pair (.slice T_Trigger) (.pair (.int .i64) .unit)) (fun x => spec_DrawTriggersOf x.1)
theorem spec_DrawTriggersOf_ct : CtOk Try.prog 26 spec_DrawTriggersOf_c := pure_ct (E := { T := tab, G := [(115, spec_l1New_c), (126, spec_l20List_fresh_c), (137, spec_l1Below_c)] }) (EnvOk.cons spec_l1New_ct (EnvOk.cons spec_l20List_fresh_ct (EnvOk.cons spec_l1Below_ct (EnvOk.nil tabOk)))) mixed (fn := Try.f26) _ _ _ _ _ .none Try.func26 (by kernel_rfl) (fun x => by kernel_rfl)
def spec_DrawTriggersOf_fresh_c : Ct := .pure false true (.pair (.slice (.int .u8)) .unit) (.pair (.slice T_Trigger) (.pair (.int .i64) .unit)) (fun x => spec_DrawTriggersOf x.1)
theorem spec_DrawTriggersOf_fresh_ct : CtOk Try.prog 26 spec_DrawTriggersOf_fresh_c := pure_ct (E := { T := tab, G := [(115, spec_l1New_c), (126, spec_l20List_fresh_c), (137, spec_l1Below_c)] }) (EnvOk.cons spec_l1New_ct (EnvOk.cons spec_l20List_fresh_ct (EnvOk.cons spec_l1Below_ct (EnvOk.nil tabOk)))) mixed (fn := Try.f26) _ _ _ _ _ .none Try.func26 (by kernel_rfl) (fun x => by kernel_rfl)
/-! slices.Equal[[]loop.example/g00486/impl.Trigger,loop.example/g00486/impl.Trigger] -/
def slices_Equal_impl_Trigger_l1 (a0 : (List T_Trigger.D)) (a1 : (List T_Trigger.D)) : Int → Option (Int ⊕ (Int ⊕ Bool)) := fun s1 =>
 bif decide (s1 < (a0.length : Int)) then (
 idx a0 s1 fun x2 =>
 idx a1 s1 fun x3 =>
 bif (!((x2.1 == x3.1) && ((x2.2.1 == x3.2.1) && ((x2.2.2.1 == x3.2.2.1) && (((x2.2.2.2.1.1 == x3.2.2.2.1.1) && ((x2.2.2.2.1.2.1 == x3.2.2.2.1.2.1) && ((x2.2.2.2.1.2.2.1 == x3.2.2.2.1.2.2.1) && ((x2.2.2.2.1.2.2.2.1 == x3.2.2.2.1.2.2.2.1) && ((x2.2.2.2.1.2.2.2.2.1 == x3.2.2.2.1.2.2.2.2.1) && ((x2.2.2.2.1.2.2.2.2.2.1 == x3.2.2.2.1.2.2.2.2.2.1) && ((x2.2.2.2.1.2.2.2.2.2.2.1 == x3.2.2.2.1.2.2.2.2.2.2.1) && ((x2.2.2.2.1.2.2.2.2.2.2.2.1 == x3.2.2.2.1.2.2.2.2.2.2.2.1) && ((x2.2.2.2.1.2.2.2.2.2.2.2.2.1 == x3.2.2.2.1.2.2.2.2.2.2.2.2.1) && ((x2.2.2.2.1.2.2.2.2.2.2.2.2.2.1 == x3.2.2.2.1.2.2.2.2.2.2.2.2.2.1) && ((x2.2.2.2.1.2.2.2.2.2.2.2.2.2.2.1 == x3.2.2.2.1.2.2.2.2.2.2.2.2.2.2.1) && ((x2.2.2.2.1.2.2.2.2.2.2.2.2.2.2.2.1 == x3.2.2.2.1.2.2.2.2.2.2.2.2.2.2.2.1) && ((x2.2.2.2.1.2.2.2.2.2.2.2.2.2.2.2.2.1 == x3.2.2.2.1.2.2.2.2.2.2.2.2.2.2.2.2.1) && true))))))))))))) && true))))) then (
 some (.inr (.inr false)))
 else (
 some (.inl (IntKind.wrap .i64 (s1 + 1)))))
 else (
 some (.inr (.inl s1)))
def slices_Equal_impl_Trigger (a0 : (List T_Trigger.D)) (a1 : (List T_Trigger.D)) : Option Bool :=
 bif ((a0.length : Int) != (a1.length : Int)) then (
 some false)
 else (
(while_ (slices_Equal_impl_Trigger_l1 a0 a1) 0).bind fun o4 =>
 match o4 with
| .inl s5 => (
 some true)
| .inr o6 => (
 some o6))
def slices_Equal_impl_Trigger_h : Hints := (.node none none .none (.node none none .none (.node none none (.node none none .none (.node none none (.node none (some ⟨[.tmp 13 (.int .i64)], [some 0], some [.tmp 4 .bool], []⟩) .none .none) .none)) .none)))
def slices_Equal_impl_Trigger_c : Ct := .pure true false (.pair (.slice T_Trigger) (.pair (.slice T_Trigger) .unit)) .bool (fun x => slices_Equal_impl_Trigger x.1 x.2.1)
theorem slices_Equal_impl_Trigger_ct : CtOk Try.prog 122 slices_Equal_impl_Trigger_c := pure_ct (E := { T := tab, G := [] }) (EnvOk.nil tabOk) mixed (fn := Try.f122) _ _ _ _ _ slices_Equal_impl_Trigger_h Try.func122 (by kernel_rfl) (fun x => by kernel_rfl)
/-! loop.example/g00486/impl.SameTriggers -/
def impl_SameTriggers (a0 : (List T_Trigger.D)) (a1 : (List T_Trigger.D)) : Option Bool :=
(slices_Equal_impl_Trigger a0 a1).bind fun y1 =>
 some y1
def impl_SameTriggers_c : Ct := .pure true false (.pair (.slice T_Trigger) (.pair (.slice T_Trigger) .unit)) .bool (fun x => impl_SameTriggers x.1 x.2.1)
theorem impl_SameTriggers_ct : CtOk Try.prog 17 impl_SameTriggers_c := pure_ct (E := { T := tab, G := [(122, slices_Equal_impl_Trigger_c)] }) (EnvOk.cons slices_Equal_impl_Trigger_ct (EnvOk.nil tabOk)) mixed (fn := Try.f17) _ _ _ _ _ .none Try.func17 (by kernel_rfl) (fun x => by kernel_rfl)
/-! loop.example/g00486/laws.sameInts -/
def laws_sameInts_l1 (a0 : (List Int)) (a1 : (List Int)) : Int → Option (Int ⊕ (Int ⊕ Bool)) := fun s1 =>
 bif decide (s1 < (a0.length : Int)) then (
 idx a0 s1 fun x2 =>
 idx a1 s1 fun x3 =>
 bif (x2 != x3) then (
 some (.inr (.inr false)))
 else (
 some (.inl (IntKind.wrap .i64 (s1 + 1)))))
 else (
 some (.inr (.inl s1)))
def laws_sameInts (a0 : (List Int)) (a1 : (List Int)) : Option Bool :=
 bif ((a0.length : Int) != (a1.length : Int)) then (
 some false)
 else (
(while_ (laws_sameInts_l1 a0 a1) 0).bind fun o4 =>
 match o4 with
| .inl s5 => (
 some true)
| .inr o6 => (
 some o6))
def laws_sameInts_h : Hints := (.node none none .none (.node none none .none (.node none none (.node none none .none (.node none none (.node none (some ⟨[.tmp 5 (.int .i64)], [some 0], some [.tmp 4 .bool], []⟩) .none .none) .none)) .none)))
def laws_sameInts_c : Ct := .pure true false (.pair (.slice (.int .i64)) (.pair (.slice (.int .i64)) .unit)) .bool (fun x => laws_sameInts x.1 x.2.1)
theorem laws_sameInts_ct : CtOk Try.prog 27 laws_sameInts_c := pure_ct (E := { T := tab, G := [] }) (EnvOk.nil tabOk) mixed (fn := Try.f27) _ _ _ _ _ laws_sameInts_h Try.func27 (by kernel_rfl) (fun x => by kernel_rfl)
/-! loop.example/g00486/spec.SameTriggers -/
def spec_SameTriggers_l1 (a0 : (List T_Trigger.D)) (a1 : (List T_Trigger.D)) : Int → Option (Int ⊕ (Int ⊕ Bool)) := fun s1 =>
 bif decide (s1 < (a0.length : Int)) then (
 idx a0 s1 fun x2 =>
 idx a1 s1 fun x3 =>
 bif (!((x2.1 == x3.1) && ((x2.2.1 == x3.2.1) && ((x2.2.2.1 == x3.2.2.1) && (((x2.2.2.2.1.1 == x3.2.2.2.1.1) && ((x2.2.2.2.1.2.1 == x3.2.2.2.1.2.1) && ((x2.2.2.2.1.2.2.1 == x3.2.2.2.1.2.2.1) && ((x2.2.2.2.1.2.2.2.1 == x3.2.2.2.1.2.2.2.1) && ((x2.2.2.2.1.2.2.2.2.1 == x3.2.2.2.1.2.2.2.2.1) && ((x2.2.2.2.1.2.2.2.2.2.1 == x3.2.2.2.1.2.2.2.2.2.1) && ((x2.2.2.2.1.2.2.2.2.2.2.1 == x3.2.2.2.1.2.2.2.2.2.2.1) && ((x2.2.2.2.1.2.2.2.2.2.2.2.1 == x3.2.2.2.1.2.2.2.2.2.2.2.1) && ((x2.2.2.2.1.2.2.2.2.2.2.2.2.1 == x3.2.2.2.1.2.2.2.2.2.2.2.2.1) && ((x2.2.2.2.1.2.2.2.2.2.2.2.2.2.1 == x3.2.2.2.1.2.2.2.2.2.2.2.2.2.1) && ((x2.2.2.2.1.2.2.2.2.2.2.2.2.2.2.1 == x3.2.2.2.1.2.2.2.2.2.2.2.2.2.2.1) && ((x2.2.2.2.1.2.2.2.2.2.2.2.2.2.2.2.1 == x3.2.2.2.1.2.2.2.2.2.2.2.2.2.2.2.1) && ((x2.2.2.2.1.2.2.2.2.2.2.2.2.2.2.2.2.1 == x3.2.2.2.1.2.2.2.2.2.2.2.2.2.2.2.2.1) && true))))))))))))) && true))))) then (
 some (.inr (.inr false)))
 else (
 some (.inl (IntKind.wrap .i64 (s1 + 1)))))
 else (
 some (.inr (.inl s1)))
def spec_SameTriggers (a0 : (List T_Trigger.D)) (a1 : (List T_Trigger.D)) : Option Bool :=
 bif ((a0.length : Int) != (a1.length : Int)) then (
 some false)
 else (
(while_ (spec_SameTriggers_l1 a0 a1) 0).bind fun o4 =>
 match o4 with
| .inl s5 => (
 some true)
| .inr o6 => (
 some o6))
def spec_SameTriggers_h : Hints := (.node none none .none (.node none none .none (.node none none (.node none none .none (.node none none (.node none (some ⟨[.tmp 5 (.int .i64)], [some 0], some [.tmp 4 .bool], []⟩) .none .none) .none)) .none)))
def spec_SameTriggers_c : Ct := .pure true false (.pair (.slice T_Trigger) (.pair (.slice T_Trigger) .unit)) .bool (fun x => spec_SameTriggers x.1 x.2.1)
theorem spec_SameTriggers_ct : CtOk Try.prog 29 spec_SameTriggers_c := pure_ct (E := { T := tab, G := [] }) (EnvOk.nil tabOk) mixed (fn := Try.f29) _ _ _ _ _ spec_SameTriggers_h Try.func29 (by kernel_rfl) (fun x => by kernel_rfl)
/-! loop.example/g00486/laws.ends -/
def laws_ends (a0 : (List Int)) (a1 : (List Int)) : Option Bool :=
 bif decide ((a1.length : Int) ≤ (a0.length : Int)) then (
 if 0 ≤ (IntKind.wrap .i64 ((a0.length : Int) - (a1.length : Int))) then (if (IntKind.wrap .i64 ((a0.length : Int) - (a1.length : Int))) ≤ (a0.length : Int) then (if (a0.length : Int) ≤ (a0.length : Int) then (
(laws_sameInts ((a0.take (a0.length : Int).toNat).drop (IntKind.wrap .i64 ((a0.length : Int) - (a1.length : Int))).toNat) a1).bind fun y1 =>
 some y1) else none) else none) else none)
 else (
 some false)
def laws_ends_c : Ct := .pure true false (.pair (.slice (.int .i64)) (.pair (.slice (.int .i64)) .unit)) .bool (fun x => laws_ends x.1 x.2.1)
theorem laws_ends_ct : CtOk Try.prog 32 laws_ends_c := pure_ct (E := { T := tab, G := [(27, laws_sameInts_c)] }) (EnvOk.cons laws_sameInts_ct (EnvOk.nil tabOk)) mixed (fn := Try.f32) _ _ _ _ _ .none Try.func32 (by kernel_rfl) (fun x => by kernel_rfl)
/-! loop.example/g00486/laws.FnArranges -/
def laws_FnArranges_l1 (y3 : ((List T_Trigger.D) × ((List Int) × Unit))) (y5 : (List Int)) (s19 : (Int × Int)) (y21 : (List T_Trigger.D)) : Int → Option (Int ⊕ (Int ⊕ Bool)) := fun s22 =>
 bif decide (s22 < (IntKind.wrap .i64 (s19.1 + (y21.length : Int)))) then (
 idx y3.1 s22 fun _ =>
(y3.1[(s22 : Int).toNat]?).bind fun x23 =>
 idx y5 s19.2 fun _ =>
(y5[(s19.2 : Int).toNat]?).bind fun x24 =>
 bif (x23.2.1 != x24) then (
 some (.inr (.inr false)))
 else (
 some (.inl (IntKind.wrap .i64 (s22 + 1)))))
 else (
 some (.inr (.inl s22)))
def laws_FnArranges_l2 (y2 : (T_State.D × ((List T_Trigger.D) × ((List Int) × Unit)))) (y3 : ((List T_Trigger.D) × ((List Int) × Unit))) (y5 : (List Int)) : (Int × Int) → Option ((Int × Int) ⊕ ((Int × Int) ⊕ Bool)) := fun s19 =>
 bif decide (s19.2 < (y5.length : Int)) then (
 idx y5 s19.2 fun _ =>
(y5[(s19.2 : Int).toNat]?).bind fun x20 =>
(impl_TriggersOf y2.2.1 x20).bind fun y21 =>
(while_ (laws_FnArranges_l1 y3 y5 s19 y21) s19.1).bind fun o25 =>
 match o25 with
| .inl s26 => (
 some (.inl (IntKind.wrap .i64 (s19.1 + (y21.length : Int)), IntKind.wrap .i64 (s19.2 + 1))))
| .inr o27 => (
 some (.inr (.inr o27))))
 else (
 some (.inr (.inl s19)))
def laws_FnArranges_l3 (y2 : (T_State.D × ((List T_Trigger.D) × ((List Int) × Unit)))) (y3 : ((List T_Trigger.D) × ((List Int) × Unit))) (s31 : Int) : (Int × Int) → Option ((Int × Int) ⊕ (Int × Int)) := fun s32 =>
 bif decide (s32.2 < (y2.2.1.length : Int)) then (
 idx y2.2.1 s32.2 fun _ =>
(y2.2.1[(s32.2 : Int).toNat]?).bind fun x33 =>
 idx y2.2.1 s31 fun _ =>
(y2.2.1[(s31 : Int).toNat]?).bind fun x34 =>
((bif ((x33.1 == x34.1) && ((x33.2.1 == x34.2.1) && ((x33.2.2.1 == x34.2.2.1) && (((x33.2.2.2.1.1 == x34.2.2.2.1.1) && ((x33.2.2.2.1.2.1 == x34.2.2.2.1.2.1) && ((x33.2.2.2.1.2.2.1 == x34.2.2.2.1.2.2.1) && ((x33.2.2.2.1.2.2.2.1 == x34.2.2.2.1.2.2.2.1) && ((x33.2.2.2.1.2.2.2.2.1 == x34.2.2.2.1.2.2.2.2.1) && ((x33.2.2.2.1.2.2.2.2.2.1 == x34.2.2.2.1.2.2.2.2.2.1) && ((x33.2.2.2.1.2.2.2.2.2.2.1 == x34.2.2.2.1.2.2.2.2.2.2.1) && ((x33.2.2.2.1.2.2.2.2.2.2.2.1 == x34.2.2.2.1.2.2.2.2.2.2.2.1) && ((x33.2.2.2.1.2.2.2.2.2.2.2.2.1 == x34.2.2.2.1.2.2.2.2.2.2.2.2.1) && ((x33.2.2.2.1.2.2.2.2.2.2.2.2.2.1 == x34.2.2.2.1.2.2.2.2.2.2.2.2.2.1) && ((x33.2.2.2.1.2.2.2.2.2.2.2.2.2.2.1 == x34.2.2.2.1.2.2.2.2.2.2.2.2.2.2.1) && ((x33.2.2.2.1.2.2.2.2.2.2.2.2.2.2.2.1 == x34.2.2.2.1.2.2.2.2.2.2.2.2.2.2.2.1) && ((x33.2.2.2.1.2.2.2.2.2.2.2.2.2.2.2.2.1 == x34.2.2.2.1.2.2.2.2.2.2.2.2.2.2.2.2.1) && true))))))))))))) && true)))) then (
 some (IntKind.wrap .i64 (s32.1 + 1)))
 else (
 some s32.1)) : Option Int).bind fun o35 =>
 idx y3.1 s32.2 fun _ =>
(y3.1[(s32.2 : Int).toNat]?).bind fun x36 =>
 idx y2.2.1 s31 fun _ =>
(y2.2.1[(s31 : Int).toNat]?).bind fun x37 =>
((bif ((x36.1 == x37.1) && ((x36.2.1 == x37.2.1) && ((x36.2.2.1 == x37.2.2.1) && (((x36.2.2.2.1.1 == x37.2.2.2.1.1) && ((x36.2.2.2.1.2.1 == x37.2.2.2.1.2.1) && ((x36.2.2.2.1.2.2.1 == x37.2.2.2.1.2.2.1) && ((x36.2.2.2.1.2.2.2.1 == x37.2.2.2.1.2.2.2.1) && ((x36.2.2.2.1.2.2.2.2.1 == x37.2.2.2.1.2.2.2.2.1) && ((x36.2.2.2.1.2.2.2.2.2.1 == x37.2.2.2.1.2.2.2.2.2.1) && ((x36.2.2.2.1.2.2.2.2.2.2.1 == x37.2.2.2.1.2.2.2.2.2.2.1) && ((x36.2.2.2.1.2.2.2.2.2.2.2.1 == x37.2.2.2.1.2.2.2.2.2.2.2.1) && ((x36.2.2.2.1.2.2.2.2.2.2.2.2.1 == x37.2.2.2.1.2.2.2.2.2.2.2.2.1) && ((x36.2.2.2.1.2.2.2.2.2.2.2.2.2.1 == x37.2.2.2.1.2.2.2.2.2.2.2.2.2.1) && ((x36.2.2.2.1.2.2.2.2.2.2.2.2.2.2.1 == x37.2.2.2.1.2.2.2.2.2.2.2.2.2.2.1) && ((x36.2.2.2.1.2.2.2.2.2.2.2.2.2.2.2.1 == x37.2.2.2.1.2.2.2.2.2.2.2.2.2.2.2.1) && ((x36.2.2.2.1.2.2.2.2.2.2.2.2.2.2.2.2.1 == x37.2.2.2.1.2.2.2.2.2.2.2.2.2.2.2.2.1) && true))))))))))))) && true)))) then (
 some (IntKind.wrap .i64 (o35 - 1)))
 else (
 some o35)) : Option Int).bind fun o38 =>
 some (.inl (o38, IntKind.wrap .i64 (s32.2 + 1))))
 else (
 some (.inr s32))
def laws_FnArranges_l4 (y2 : (T_State.D × ((List T_Trigger.D) × ((List Int) × Unit)))) (y3 : ((List T_Trigger.D) × ((List Int) × Unit))) : Int → Option (Int ⊕ (Int ⊕ Bool)) := fun s31 =>
 bif decide (s31 < (y2.2.1.length : Int)) then (
(while_ (laws_FnArranges_l3 y2 y3 s31) (0, 0)).bind fun o39 =>
 bif (o39.1 != 0) then (
 some (.inr (.inr false)))
 else (
 some (.inl (IntKind.wrap .i64 (s31 + 1)))))
 else (
 some (.inr (.inl s31)))
def laws_FnArranges (a0 : (List Int)) : Option Bool :=
(laws_big a0).bind fun y1 =>
 bif y1 then (
 some true)
 else (
(spec_DrawArrange a0).bind fun y2 =>
(impl_Arrange y2.1 y2.2.1 y2.2.2.1).bind fun y3 =>
(spec_Arrange y2.1 y2.2.1 y2.2.2.1).bind fun y4 =>
(impl_TurnOrder y2.1).bind fun y5 =>
(spec_DrawSameTriggers a0).bind fun y6 =>
(spec_DrawTriggersOf a0).bind fun y7 =>
(((impl_SameTriggers y3.1 y4.1).bind fun y8 =>
 bif (!y8) then (
 some true)
 else (
(laws_sameInts y3.2.1 y4.2.1).bind fun y9 =>
 bif (!y9) then (
 some true)
 else (
(spec_TurnOrder y2.1).bind fun y10 =>
(laws_sameInts y5 y10).bind fun y11 =>
 bif (!y11) then (
 some true)
 else (
(impl_SameTriggers y6.1 y6.2.1).bind fun y12 =>
(spec_SameTriggers y6.1 y6.2.1).bind fun y13 =>
 bif (y12 != y13) then (
 some true)
 else (
(impl_TriggersOf y7.1 y7.2.1).bind fun y14 =>
(spec_TriggersOf y7.1 y7.2.1).bind fun y15 =>
(impl_SameTriggers y14 y15).bind fun y16 =>
 bif (!y16) then (
 some true)
 else (
 bif ((y3.1.length : Int) != (y2.2.1.length : Int)) then (
 some true)
 else (
(laws_ends y2.2.2.1 y3.2.1).bind fun y17 =>
 some (!y17)))))))) : Option Bool).bind fun o18 =>
 bif o18 then (
 some false)
 else (
(while_ (laws_FnArranges_l2 y2 y3 y5) (0, 0)).bind fun o28 =>
 match o28 with
| .inl s29 => (
(while_ (laws_FnArranges_l4 y2 y3) 0).bind fun o40 =>
 match o40 with
| .inl s41 => (
 some true)
| .inr o42 => (
 some o42))
| .inr o30 => (
 some o30)))
def laws_FnArranges_h : Hints := (.node none none .none (.node none none .none (.node none none .none (.node none none .none (.node none none .none (.node none none .none (.node none none .none (.node none none .none (.node none none (.node none none (.node (some ⟨[.tmp 104 .bool], [none], none, []⟩) none .none .none) .none) (.node none none .none (.node none none (.node none none .none (.node none none (.node none (some ⟨[.tmp 15 (.int .i64), .tmp 16 (.int .i64)], [some 0], some [.tmp 2 .bool], []⟩) (.node none none .none (.node none none (.node none none (.node none none .none (.node none none (.node none none .none (.node none none (.node none (some ⟨[.tmp 18 (.int .i64)], [some 2], some [.tmp 2 .bool], []⟩) .none .none) .none)) .none)) .none) .none)) .none) .none)) (.node none none (.node none none .none (.node none none (.node none (some ⟨[.tmp 19 (.int .i64)], [some 4], some [.tmp 2 .bool], []⟩) (.node none none .none (.node none none (.node none none (.node none none .none (.node none none (.node none none .none (.node none none (.node none (some ⟨[.tmp 20 (.int .i64), .tmp 21 (.int .i64)], [some 6], none, []⟩) (.node none none .none (.node none none (.node none none (.node none none (.node none none .none (.node (some ⟨[.tmp 20 (.int .i64)], [none], none, []⟩) none .none .none)) (.node none none .none (.node (some ⟨[.tmp 20 (.int .i64)], [none], none, []⟩) none .none .none))) .none) .none)) .none) .none)) .none)) .none) .none)) .none) .none)) .none))))))))))))
def laws_FnArranges_c : Ct := .pure true false (.pair (.slice (.int .u8)) .unit) .bool (fun x => laws_FnArranges x.1)
theorem laws_FnArranges_ct : CtOk Try.prog 4 laws_FnArranges_c := pure_ct (E := { T := tab, G := [(14, laws_big_c), (17, impl_SameTriggers_c), (21, spec_DrawArrange_fresh_c), (22, impl_Arrange_fresh_c), (23, spec_Arrange_fresh_c), (24, impl_TurnOrder_fresh_c), (25, spec_DrawSameTriggers_fresh_c), (26, spec_DrawTriggersOf_fresh_c), (27, laws_sameInts_c), (28, spec_TurnOrder_fresh_c), (29, spec_SameTriggers_c), (30, impl_TriggersOf_fresh_c), (31, spec_TriggersOf_fresh_c), (32, laws_ends_c)] }) (EnvOk.cons laws_big_ct (EnvOk.cons impl_SameTriggers_ct (EnvOk.cons spec_DrawArrange_fresh_ct (EnvOk.cons impl_Arrange_fresh_ct (EnvOk.cons spec_Arrange_fresh_ct (EnvOk.cons impl_TurnOrder_fresh_ct (EnvOk.cons spec_DrawSameTriggers_fresh_ct (EnvOk.cons spec_DrawTriggersOf_fresh_ct (EnvOk.cons laws_sameInts_ct (EnvOk.cons spec_TurnOrder_fresh_ct (EnvOk.cons spec_SameTriggers_ct (EnvOk.cons impl_TriggersOf_fresh_ct (EnvOk.cons spec_TriggersOf_fresh_ct (EnvOk.cons laws_ends_ct (EnvOk.nil tabOk))))))))))))))) mixed (fn := Try.f4) _ _ _ _ _ laws_FnArranges_h Try.func4 (by kernel_rfl) (fun x => by kernel_rfl)
/-! loop.example/g00486/laws.szPieceS -/
def laws_szPieceS (a0 : (List T_Piece.D)) (a1 : Int) : Option Int :=
 bif decide ((IntKind.wrap .i64 (a1 - (a0.length : Int))) < 0) then (
 some (-1))
 else (
 some (IntKind.wrap .i64 (a1 - (a0.length : Int))))
def laws_szPieceS_c : Ct := .pure true false (.pair (.slice T_Piece) (.pair (.int .i64) .unit)) (.int .i64) (fun x => laws_szPieceS x.1 x.2.1)
theorem laws_szPieceS_ct : CtOk Try.prog 140 laws_szPieceS_c := pure_ct (E := { T := tab, G := [] }) (EnvOk.nil tabOk) mixed (fn := Try.f140) _ _ _ _ _ .none Try.func140 (by kernel_rfl) (fun x => by kernel_rfl)
/-! loop.example/g00486/laws.szSideS -/
def laws_szSideS (a0 : (List T_Side.D)) (a1 : Int) : Option Int :=
 bif decide ((IntKind.wrap .i64 (a1 - (a0.length : Int))) < 0) then (
 some (-1))
 else (
 some (IntKind.wrap .i64 (a1 - (a0.length : Int))))
def laws_szSideS_c : Ct := .pure true false (.pair (.slice T_Side) (.pair (.int .i64) .unit)) (.int .i64) (fun x => laws_szSideS x.1 x.2.1)
theorem laws_szSideS_ct : CtOk Try.prog 141 laws_szSideS_c := pure_ct (E := { T := tab, G := [] }) (EnvOk.nil tabOk) mixed (fn := Try.f141) _ _ _ _ _ .none Try.func141 (by kernel_rfl) (fun x => by kernel_rfl)
/-! loop.example/g00486/laws.szState -/
def laws_szState (a0 : T_State.D) (a1 : Int) : Option Int :=
(laws_szPieceS a0.1 a1).bind fun y1 =>
 bif decide (y1 < 0) then (
 some (-1))
 else (
(laws_szSideS a0.2.1 y1).bind fun y2 =>
 bif decide (y2 < 0) then (
 some (-1))
 else (
 some y2))
def laws_szState_c : Ct := .pure true false (.pair T_State (.pair (.int .i64) .unit)) (.int .i64) (fun x => laws_szState x.1 x.2.1)
theorem laws_szState_ct : CtOk Try.prog 33 laws_szState_c := pure_ct (E := { T := tab, G := [(140, laws_szPieceS_c), (141, laws_szSideS_c)] }) (EnvOk.cons laws_szPieceS_ct (EnvOk.cons laws_szSideS_ct (EnvOk.nil tabOk))) mixed (fn := Try.f33) _ _ _ _ _ .none Try.func33 (by kernel_rfl) (fun x => by kernel_rfl)
/-! loop.example/g00486/laws.szTriggerS -/
def laws_szTriggerS (a0 : (List T_Trigger.D)) (a1 : Int) : Option Int :=
 bif decide ((IntKind.wrap .i64 (a1 - (a0.length : Int))) < 0) then (
 some (-1))
 else (
 some (IntKind.wrap .i64 (a1 - (a0.length : Int))))
def laws_szTriggerS_c : Ct := .pure true false (.pair (.slice T_Trigger) (.pair (.int .i64) .unit)) (.int .i64) (fun x => laws_szTriggerS x.1 x.2.1)
theorem laws_szTriggerS_ct : CtOk Try.prog 34 laws_szTriggerS_c := pure_ct (E := { T := tab, G := [] }) (EnvOk.nil tabOk) mixed (fn := Try.f34) _ _ _ _ _ .none Try.func34 (by kernel_rfl) (fun x => by kernel_rfl)
/-! loop.example/g00486/laws.toPiece -/
def laws_toPiece (a0 : T_Piece.D) : Option T_Piece.D :=
 some a0
def laws_toPiece_c : Ct := .pure true false (.pair T_Piece .unit) T_Piece (fun x => laws_toPiece x.1)
theorem laws_toPiece_ct : CtOk Try.prog 241 laws_toPiece_c := pure_ct (E := { T := tab, G := [] }) (EnvOk.nil tabOk) mixed (fn := Try.f241) _ _ _ _ _ .none Try.func241 (by kernel_rfl) (fun x => by kernel_rfl)
/-! loop.example/g00486/laws.toPieceS -/
def laws_toPieceS_l1 (a0 : (List T_Piece.D)) : ((List T_Piece.D) × Int) → Option (((List T_Piece.D) × Int) ⊕ ((List T_Piece.D) × Int)) := fun s2 =>
 bif decide (s2.2 < (a0.length : Int)) then (
 idx a0 s2.2 fun x3 =>
(laws_toPiece x3).bind fun y4 =>
 idx s2.1 s2.2 fun _ =>
(s2.1[(s2.2 : Int).toNat]?).bind fun x5 =>
 let u6 : (List T_Piece.D) := s2.1.set (s2.2 : Int).toNat y4
 some (.inl (u6, IntKind.wrap .i64 (s2.2 + 1))))
 else (
 some (.inr s2))
def laws_toPieceS (a0 : (List T_Piece.D)) : Option (List T_Piece.D) :=
 if 0 ≤ (a0.length : Int) then (if ((a0.length : Int)).toNat * (24 * 13) ≤ room then (
(while_ (laws_toPieceS_l1 a0) ((List.replicate ((a0.length : Int)).toNat (0, 0, 0, 0, 0, 0, 0, 0, 0, 0, 0, false, false, ())), 0)).bind fun o7 =>
 some o7.1) else none) else none
def laws_toPieceS_h : Hints := (.node none none .none (.node none none .none (.node none none (.node none none .none (.node none none (.node none (some ⟨[.tmpO 3 0 (.slice T_Piece), .tmp 4 (.int .i64)], [some 0], none, []⟩) .none .none) .none)) .none)))
def laws_toPieceS_c : Ct := .pure true false (.pair (.slice T_Piece) .unit) (.slice T_Piece) (fun x => laws_toPieceS x.1)
theorem laws_toPieceS_ct : CtOk Try.prog 142 laws_toPieceS_c := pure_ct (E := { T := tab, G := [(241, laws_toPiece_c)] }) (EnvOk.cons laws_toPiece_ct (EnvOk.nil tabOk)) mixed (fn := Try.f142) _ _ _ _ _ laws_toPieceS_h Try.func142 (by kernel_rfl) (fun x => by kernel_rfl)
def laws_toPieceS_fresh_c : Ct := .pure true true (.pair (.slice T_Piece) .unit) (.slice T_Piece) (fun x => laws_toPieceS x.1)
theorem laws_toPieceS_fresh_ct : CtOk Try.prog 142 laws_toPieceS_fresh_c := pure_ct (E := { T := tab, G := [(241, laws_toPiece_c)] }) (EnvOk.cons laws_toPiece_ct (EnvOk.nil tabOk)) mixed (fn := Try.f142) _ _ _ _ _ laws_toPieceS_h Try.func142 (by kernel_rfl) (fun x => by kernel_rfl)
/-! loop.example/g00486/laws.toSide -/
def laws_toSide (a0 : T_Side.D) : Option T_Side.D :=
 some a0
def laws_toSide_c : Ct := .pure true false (.pair T_Side .unit) T_Side (fun x => laws_toSide x.1)
theorem laws_toSide_ct : CtOk Try.prog 242 laws_toSide_c := pure_ct (E := { T := tab, G := [] }) (EnvOk.nil tabOk) mixed (fn := Try.f242) _ _ _ _ _ .none Try.func242 (by kernel_rfl) (fun x => by kernel_rfl)
/-! loop.example/g00486/laws.toSideS -/
def laws_toSideS_l1 (a0 : (List T_Side.D)) : ((List T_Side.D) × Int) → Option (((List T_Side.D) × Int) ⊕ ((List T_Side.D) × Int)) := fun s2 =>
 bif decide (s2.2 < (a0.length : Int)) then (
 idx a0 s2.2 fun x3 =>
(laws_toSide x3).bind fun y4 =>
 idx s2.1 s2.2 fun _ =>
(s2.1[(s2.2 : Int).toNat]?).bind fun x5 =>
 let u6 : (List T_Side.D) := s2.1.set (s2.2 : Int).toNat y4
 some (.inl (u6, IntKind.wrap .i64 (s2.2 + 1))))
 else (
 some (.inr s2))
def laws_toSideS (a0 : (List T_Side.D)) : Option (List T_Side.D) :=
 if 0 ≤ (a0.length : Int) then (if ((a0.length : Int)).toNat * (24 * 3) ≤ room then (
(while_ (laws_toSideS_l1 a0) ((List.replicate ((a0.length : Int)).toNat (0, 0, false, ())), 0)).bind fun o7 =>
 some o7.1) else none) else none
def laws_toSideS_h : Hints := (.node none none .none (.node none none .none (.node none none (.node none none .none (.node none none (.node none (some ⟨[.tmpO 3 0 (.slice T_Side), .tmp 4 (.int .i64)], [some 0], none, []⟩) .none .none) .none)) .none)))
def laws_toSideS_c : Ct := .pure true false (.pair (.slice T_Side) .unit) (.slice T_Side) (fun x => laws_toSideS x.1)
theorem laws_toSideS_ct : CtOk Try.prog 143 laws_toSideS_c := pure_ct (E := { T := tab, G := [(242, laws_toSide_c)] }) (EnvOk.cons laws_toSide_ct (EnvOk.nil tabOk)) mixed (fn := Try.f143) _ _ _ _ _ laws_toSideS_h Try.func143 (by kernel_rfl) (fun x => by kernel_rfl)
def laws_toSideS_fresh_c : Ct := .pure true true (.pair (.slice T_Side) .unit) (.slice T_Side) (fun x => laws_toSideS x.1)
theorem laws_toSideS_fresh_ct : CtOk Try.prog 143 laws_toSideS_fresh_c := pure_ct (E := { T := tab, G := [(242, laws_toSide_c)] }) (EnvOk.cons laws_toSide_ct (EnvOk.nil tabOk)) mixed (fn := Try.f143) _ _ _ _ _ laws_toSideS_h Try.func143 (by kernel_rfl) (fun x => by kernel_rfl)
/-! loop.example/g00486/laws.toState -/
def laws_toState (a0 : T_State.D) : Option T_State.D :=
(laws_toPieceS a0.1).bind fun y1 =>
(laws_toSideS a0.2.1).bind fun y2 =>
 some (y1, y2, a0.2.2)
def laws_toState_c : Ct := .pure true false (.pair T_State .unit) T_State (fun x => laws_toState x.1)
theorem laws_toState_ct : CtOk Try.prog 35 laws_toState_c := pure_ct (E := { T := tab, G := [(142, laws_toPieceS_fresh_c), (143, laws_toSideS_fresh_c)] }) (EnvOk.cons laws_toPieceS_fresh_ct (EnvOk.cons laws_toSideS_fresh_ct (EnvOk.nil tabOk))) mixed (fn := Try.f35) _ _ _ _ _ .none Try.func35 (by kernel_rfl) (fun x => by kernel_rfl)
def laws_toState_fresh_c : Ct := .pure true true (.pair T_State .unit) T_State (fun x => laws_toState x.1)
theorem laws_toState_fresh_ct : CtOk Try.prog 35 laws_toState_fresh_c := pure_ct (E := { T := tab, G := [(142, laws_toPieceS_fresh_c), (143, laws_toSideS_fresh_c)] }) (EnvOk.cons laws_toPieceS_fresh_ct (EnvOk.cons laws_toSideS_fresh_ct (EnvOk.nil tabOk))) mixed (fn := Try.f35) _ _ _ _ _ .none Try.func35 (by kernel_rfl) (fun x => by kernel_rfl)
/-! loop.example/g00486/laws.toTrigger -/
def laws_toTrigger (a0 : T_Trigger.D) : Option T_Trigger.D :=
(laws_toPiece a0.2.2.2.1).bind fun y1 =>
 some (a0.1, a0.2.1, a0.2.2.1, y1, ())
def laws_toTrigger_c : Ct := .pure true false (.pair T_Trigger .unit) T_Trigger (fun x => laws_toTrigger x.1)
theorem laws_toTrigger_ct : CtOk Try.prog 144 laws_toTrigger_c := pure_ct (E := { T := tab, G := [(241, laws_toPiece_c)] }) (EnvOk.cons laws_toPiece_ct (EnvOk.nil tabOk)) mixed (fn := Try.f144) _ _ _ _ _ .none Try.func144 (by kernel_rfl) (fun x => by kernel_rfl)
/-! loop.example/g00486/laws.toTriggerS -/
def laws_toTriggerS_l1 (a0 : (List T_Trigger.D)) : ((List T_Trigger.D) × Int) → Option (((List T_Trigger.D) × Int) ⊕ ((List T_Trigger.D) × Int)) := fun s2 =>
 bif decide (s2.2 < (a0.length : Int)) then (
 idx a0 s2.2 fun x3 =>
(laws_toTrigger x3).bind fun y4 =>
 idx s2.1 s2.2 fun _ =>
(s2.1[(s2.2 : Int).toNat]?).bind fun x5 =>
 let u6 : (List T_Trigger.D) := s2.1.set (s2.2 : Int).toNat y4
 some (.inl (u6, IntKind.wrap .i64 (s2.2 + 1))))
 else (
 some (.inr s2))
def laws_toTriggerS (a0 : (List T_Trigger.D)) : Option (List T_Trigger.D) :=
 if 0 ≤ (a0.length : Int) then (if ((a0.length : Int)).toNat * (24 * 16) ≤ room then (
(while_ (laws_toTriggerS_l1 a0) ((List.replicate ((a0.length : Int)).toNat (0, 0, 0, (0, 0, 0, 0, 0, 0, 0, 0, 0, 0, 0, false, false, ()), ())), 0)).bind fun o7 =>
 some o7.1) else none) else none
def laws_toTriggerS_h : Hints := (.node none none .none (.node none none .none (.node none none (.node none none .none (.node none none (.node none (some ⟨[.tmpO 3 0 (.slice T_Trigger), .tmp 4 (.int .i64)], [some 0], none, []⟩) .none .none) .none)) .none)))
def laws_toTriggerS_c : Ct := .pure true false (.pair (.slice T_Trigger) .unit) (.slice T_Trigger) (fun x => laws_toTriggerS x.1)
theorem laws_toTriggerS_ct : CtOk Try.prog 36 laws_toTriggerS_c := pure_ct (E := { T := tab, G := [(144, laws_toTrigger_c)] }) (EnvOk.cons laws_toTrigger_ct (EnvOk.nil tabOk)) mixed (fn := Try.f36) _ _ _ _ _ laws_toTriggerS_h Try.func36 (by kernel_rfl) (fun x => by kernel_rfl)
def laws_toTriggerS_fresh_c : Ct := .pure true true (.pair (.slice T_Trigger) .unit) (.slice T_Trigger) (fun x => laws_toTriggerS x.1)
theorem laws_toTriggerS_fresh_ct : CtOk Try.prog 36 laws_toTriggerS_fresh_c := pure_ct (E := { T := tab, G := [(144, laws_toTrigger_c)] }) (EnvOk.cons laws_toTrigger_ct (EnvOk.nil tabOk)) mixed (fn := Try.f36) _ _ _ _ _ laws_toTriggerS_h Try.func36 (by kernel_rfl) (fun x => by kernel_rfl)
/-! loop.example/g00486/laws.toIntS -/
def laws_toIntS_l1 (a0 : (List Int)) : ((List Int) × Int) → Option (((List Int) × Int) ⊕ ((List Int) × Int)) := fun s2 =>
 bif decide (s2.2 < (a0.length : Int)) then (
 idx a0 s2.2 fun x3 =>
 idx s2.1 s2.2 fun _ =>
(s2.1[(s2.2 : Int).toNat]?).bind fun x4 =>
 let u5 : (List Int) := s2.1.set (s2.2 : Int).toNat x3
 some (.inl (u5, IntKind.wrap .i64 (s2.2 + 1))))
 else (
 some (.inr s2))
def laws_toIntS (a0 : (List Int)) : Option (List Int) :=
 if 0 ≤ (a0.length : Int) then (if ((a0.length : Int)).toNat * (24 * 1) ≤ room then (
(while_ (laws_toIntS_l1 a0) ((List.replicate ((a0.length : Int)).toNat 0), 0)).bind fun o6 =>
 some o6.1) else none) else none
def laws_toIntS_h : Hints := (.node none none .none (.node none none .none (.node none none (.node none none .none (.node none none (.node none (some ⟨[.tmpO 3 0 (.slice (.int .i64)), .tmp 4 (.int .i64)], [some 0], none, []⟩) .none .none) .none)) .none)))
def laws_toIntS_c : Ct := .pure true false (.pair (.slice (.int .i64)) .unit) (.slice (.int .i64)) (fun x => laws_toIntS x.1)
theorem laws_toIntS_ct : CtOk Try.prog 37 laws_toIntS_c := pure_ct (E := { T := tab, G := [] }) (EnvOk.nil tabOk) mixed (fn := Try.f37) _ _ _ _ _ laws_toIntS_h Try.func37 (by kernel_rfl) (fun x => by kernel_rfl)
def laws_toIntS_fresh_c : Ct := .pure true true (.pair (.slice (.int .i64)) .unit) (.slice (.int .i64)) (fun x => laws_toIntS x.1)
theorem laws_toIntS_fresh_ct : CtOk Try.prog 37 laws_toIntS_fresh_c := pure_ct (E := { T := tab, G := [] }) (EnvOk.nil tabOk) mixed (fn := Try.f37) _ _ _ _ _ laws_toIntS_h Try.func37 (by kernel_rfl) (fun x => by kernel_rfl)
/-! loop.example/g00486/laws.eqPiece -/
def laws_eqPiece (a0 : T_Piece.D) (a1 : T_Piece.D) : Option Bool :=
 bif (a0.1 != a1.1) then (
 some false)
 else (
 bif (a0.2.1 != a1.2.1) then (
 some false)
 else (
 bif (a0.2.2.1 != a1.2.2.1) then (
 some false)
 else (
 bif (a0.2.2.2.1 != a1.2.2.2.1) then (
 some false)
 else (
 bif (a0.2.2.2.2.1 != a1.2.2.2.2.1) then (
 some false)
 else (
 bif (a0.2.2.2.2.2.1 != a1.2.2.2.2.2.1) then (
 some false)
 else (
 bif (a0.2.2.2.2.2.2.1 != a1.2.2.2.2.2.2.1) then (
 some false)
 else (
 bif (a0.2.2.2.2.2.2.2.1 != a1.2.2.2.2.2.2.2.1) then (
 some false)
 else (
 bif (a0.2.2.2.2.2.2.2.2.1 != a1.2.2.2.2.2.2.2.2.1) then (
 some false)
 else (
 bif (a0.2.2.2.2.2.2.2.2.2.1 != a1.2.2.2.2.2.2.2.2.2.1) then (
 some false)
 else (
 bif (a0.2.2.2.2.2.2.2.2.2.2.1 != a1.2.2.2.2.2.2.2.2.2.2.1) then (
 some false)
 else (
 bif (a0.2.2.2.2.2.2.2.2.2.2.2.1 != a1.2.2.2.2.2.2.2.2.2.2.2.1) then (
 some false)
 else (
 bif (a0.2.2.2.2.2.2.2.2.2.2.2.2.1 != a1.2.2.2.2.2.2.2.2.2.2.2.2.1) then (
 some false)
 else (
 some true)))))))))))))
def laws_eqPiece_c : Ct := .pure true false (.pair T_Piece (.pair T_Piece .unit)) .bool (fun x => laws_eqPiece x.1 x.2.1)
theorem laws_eqPiece_ct : CtOk Try.prog 243 laws_eqPiece_c := pure_ct (E := { T := tab, G := [] }) (EnvOk.nil tabOk) mixed (fn := Try.f243) _ _ _ _ _ .none Try.func243 (by kernel_rfl) (fun x => by kernel_rfl)
/-! loop.example/g00486/laws.eqTrigger -/
def laws_eqTrigger (a0 : T_Trigger.D) (a1 : T_Trigger.D) : Option Bool :=
 bif (a0.1 != a1.1) then (
 some false)
 else (
 bif (a0.2.1 != a1.2.1) then (
 some false)
 else (
 bif (a0.2.2.1 != a1.2.2.1) then (
 some false)
 else (
(laws_eqPiece a0.2.2.2.1 a1.2.2.2.1).bind fun y1 =>
 bif (!y1) then (
 some false)
 else (
 some true))))
def laws_eqTrigger_c : Ct := .pure true false (.pair T_Trigger (.pair T_Trigger .unit)) .bool (fun x => laws_eqTrigger x.1 x.2.1)
theorem laws_eqTrigger_ct : CtOk Try.prog 145 laws_eqTrigger_c := pure_ct (E := { T := tab, G := [(243, laws_eqPiece_c)] }) (EnvOk.cons laws_eqPiece_ct (EnvOk.nil tabOk)) mixed (fn := Try.f145) _ _ _ _ _ .none Try.func145 (by kernel_rfl) (fun x => by kernel_rfl)
/-! loop.example/g00486/laws.eqTriggerS -/
def laws_eqTriggerS_l1 (a0 : (List T_Trigger.D)) (a1 : (List T_Trigger.D)) : Int → Option (Int ⊕ (Int ⊕ Bool)) := fun s1 =>
 bif decide (s1 < (a0.length : Int)) then (
 idx a0 s1 fun x2 =>
 idx a1 s1 fun x3 =>
(laws_eqTrigger x2 x3).bind fun y4 =>
 bif (!y4) then (
 some (.inr (.inr false)))
 else (
 some (.inl (IntKind.wrap .i64 (s1 + 1)))))
 else (
 some (.inr (.inl s1)))
def laws_eqTriggerS (a0 : (List T_Trigger.D)) (a1 : (List T_Trigger.D)) : Option Bool :=
 bif ((a0.length : Int) != (a1.length : Int)) then (
 some false)
 else (
(while_ (laws_eqTriggerS_l1 a0 a1) 0).bind fun o5 =>
 match o5 with
| .inl s6 => (
 some true)
| .inr o7 => (
 some o7))
def laws_eqTriggerS_h : Hints := (.node none none .none (.node none none .none (.node none none (.node none none .none (.node none none (.node none (some ⟨[.tmp 5 (.int .i64)], [some 0], some [.tmp 4 .bool], []⟩) .none .none) .none)) .none)))
def laws_eqTriggerS_c : Ct := .pure true false (.pair (.slice T_Trigger) (.pair (.slice T_Trigger) .unit)) .bool (fun x => laws_eqTriggerS x.1 x.2.1)
theorem laws_eqTriggerS_ct : CtOk Try.prog 38 laws_eqTriggerS_c := pure_ct (E := { T := tab, G := [(145, laws_eqTrigger_c)] }) (EnvOk.cons laws_eqTrigger_ct (EnvOk.nil tabOk)) mixed (fn := Try.f38) _ _ _ _ _ laws_eqTriggerS_h Try.func38 (by kernel_rfl) (fun x => by kernel_rfl)
/-! loop.example/g00486/laws.eqIntS -/
def laws_eqIntS_l1 (a0 : (List Int)) (a1 : (List Int)) : Int → Option (Int ⊕ (Int ⊕ Bool)) := fun s1 =>
 bif decide (s1 < (a0.length : Int)) then (
 idx a0 s1 fun x2 =>
 idx a1 s1 fun x3 =>
 bif (x2 != x3) then (
 some (.inr (.inr false)))
 else (
 some (.inl (IntKind.wrap .i64 (s1 + 1)))))
 else (
 some (.inr (.inl s1)))
def laws_eqIntS (a0 : (List Int)) (a1 : (List Int)) : Option Bool :=
 bif ((a0.length : Int) != (a1.length : Int)) then (
 some false)
 else (
(while_ (laws_eqIntS_l1 a0 a1) 0).bind fun o4 =>
 match o4 with
| .inl s5 => (
 some true)
| .inr o6 => (
 some o6))
def laws_eqIntS_h : Hints := (.node none none .none (.node none none .none (.node none none (.node none none .none (.node none none (.node none (some ⟨[.tmp 5 (.int .i64)], [some 0], some [.tmp 4 .bool], []⟩) .none .none) .none)) .none)))
def laws_eqIntS_c : Ct := .pure true false (.pair (.slice (.int .i64)) (.pair (.slice (.int .i64)) .unit)) .bool (fun x => laws_eqIntS x.1 x.2.1)
theorem laws_eqIntS_ct : CtOk Try.prog 39 laws_eqIntS_c := pure_ct (E := { T := tab, G := [] }) (EnvOk.nil tabOk) mixed (fn := Try.f39) _ _ _ _ _ laws_eqIntS_h Try.func39 (by kernel_rfl) (fun x => by kernel_rfl)
/-! loop.example/g00486/laws.eqPieceS -/
def laws_eqPieceS_l1 (a0 : (List T_Piece.D)) (a1 : (List T_Piece.D)) : Int → Option (Int ⊕ (Int ⊕ Bool)) := fun s1 =>
 bif decide (s1 < (a0.length : Int)) then (
 idx a0 s1 fun x2 =>
 idx a1 s1 fun x3 =>
(laws_eqPiece x2 x3).bind fun y4 =>
 bif (!y4) then (
 some (.inr (.inr false)))
 else (
 some (.inl (IntKind.wrap .i64 (s1 + 1)))))
 else (
 some (.inr (.inl s1)))
def laws_eqPieceS (a0 : (List T_Piece.D)) (a1 : (List T_Piece.D)) : Option Bool :=
 bif ((a0.length : Int) != (a1.length : Int)) then (
 some false)
 else (
(while_ (laws_eqPieceS_l1 a0 a1) 0).bind fun o5 =>
 match o5 with
| .inl s6 => (
 some true)
| .inr o7 => (
 some o7))
def laws_eqPieceS_h : Hints := (.node none none .none (.node none none .none (.node none none (.node none none .none (.node none none (.node none (some ⟨[.tmp 5 (.int .i64)], [some 0], some [.tmp 4 .bool], []⟩) .none .none) .none)) .none)))
def laws_eqPieceS_c : Ct := .pure true false (.pair (.slice T_Piece) (.pair (.slice T_Piece) .unit)) .bool (fun x => laws_eqPieceS x.1 x.2.1)
theorem laws_eqPieceS_ct : CtOk Try.prog 146 laws_eqPieceS_c := pure_ct (E := { T := tab, G := [(243, laws_eqPiece_c)] }) (EnvOk.cons laws_eqPiece_ct (EnvOk.nil tabOk)) mixed (fn := Try.f146) _ _ _ _ _ laws_eqPieceS_h Try.func146 (by kernel_rfl) (fun x => by kernel_rfl)
/-! loop.example/g00486/laws.eqSide -/
def laws_eqSide (a0 : T_Side.D) (a1 : T_Side.D) : Option Bool :=
 bif (a0.1 != a1.1) then (
 some false)
 else (
 bif (a0.2.1 != a1.2.1) then (
 some false)
 else (
 bif (a0.2.2.1 != a1.2.2.1) then (
 some false)
 else (
 some true)))
def laws_eqSide_c : Ct := .pure true false (.pair T_Side (.pair T_Side .unit)) .bool (fun x => laws_eqSide x.1 x.2.1)
theorem laws_eqSide_ct : CtOk Try.prog 244 laws_eqSide_c := pure_ct (E := { T := tab, G := [] }) (EnvOk.nil tabOk) mixed (fn := Try.f244) _ _ _ _ _ .none Try.func244 (by kernel_rfl) (fun x => by kernel_rfl)
/-! loop.example/g00486/laws.eqSideS -/
def laws_eqSideS_l1 (a0 : (List T_Side.D)) (a1 : (List T_Side.D)) : Int → Option (Int ⊕ (Int ⊕ Bool)) := fun s1 =>
 bif decide (s1 < (a0.length : Int)) then (
 idx a0 s1 fun x2 =>
 idx a1 s1 fun x3 =>
(laws_eqSide x2 x3).bind fun y4 =>
 bif (!y4) then (
 some (.inr (.inr false)))
 else (
 some (.inl (IntKind.wrap .i64 (s1 + 1)))))
 else (
 some (.inr (.inl s1)))
def laws_eqSideS (a0 : (List T_Side.D)) (a1 : (List T_Side.D)) : Option Bool :=
 bif ((a0.length : Int) != (a1.length : Int)) then (
 some false)
 else (
(while_ (laws_eqSideS_l1 a0 a1) 0).bind fun o5 =>
 match o5 with
| .inl s6 => (
 some true)
| .inr o7 => (
 some o7))
def laws_eqSideS_h : Hints := (.node none none .none (.node none none .none (.node none none (.node none none .none (.node none none (.node none (some ⟨[.tmp 5 (.int .i64)], [some 0], some [.tmp 4 .bool], []⟩) .none .none) .none)) .none)))
def laws_eqSideS_c : Ct := .pure true false (.pair (.slice T_Side) (.pair (.slice T_Side) .unit)) .bool (fun x => laws_eqSideS x.1 x.2.1)
theorem laws_eqSideS_ct : CtOk Try.prog 147 laws_eqSideS_c := pure_ct (E := { T := tab, G := [(244, laws_eqSide_c)] }) (EnvOk.cons laws_eqSide_ct (EnvOk.nil tabOk)) mixed (fn := Try.f147) _ _ _ _ _ laws_eqSideS_h Try.func147 (by kernel_rfl) (fun x => by kernel_rfl)
/-! loop.example/g00486/laws.eqState -/
def laws_eqState (a0 : T_State.D) (a1 : T_State.D) : Option Bool :=
(laws_eqPieceS a0.1 a1.1).bind fun y1 =>
 bif (!y1) then (
 some false)
 else (
(laws_eqSideS a0.2.1 a1.2.1).bind fun y2 =>
 bif (!y2) then (
 some false)
 else (
 bif (a0.2.2.1 != a1.2.2.1) then (
 some false)
 else (
 bif (a0.2.2.2.1 != a1.2.2.2.1) then (
 some false)
 else (
 some true))))
def laws_eqState_c : Ct := .pure true false (.pair T_State (.pair T_State .unit)) .bool (fun x => laws_eqState x.1 x.2.1)
theorem laws_eqState_ct : CtOk Try.prog 40 laws_eqState_c := pure_ct (E := { T := tab, G := [(146, laws_eqPieceS_c), (147, laws_eqSideS_c)] }) (EnvOk.cons laws_eqPieceS_ct (EnvOk.cons laws_eqSideS_ct (EnvOk.nil tabOk))) mixed (fn := Try.f40) _ _ _ _ _ .none Try.func40 (by kernel_rfl) (fun x => by kernel_rfl)
/-! loop.example/g00486/laws.markPieceS -/
def laws_markPieceS_l1 : ((List T_Piece.D) × (Int × Int)) → Option (((List T_Piece.D) × (Int × Int)) ⊕ ((List T_Piece.D) × (Int × Int))) := fun s2 =>
 bif decide (s2.2.2 < (s2.1.length : Int)) then (
 idx s2.1 s2.2.2 fun _ =>
(s2.1[(s2.2.2 : Int).toNat]?).bind fun x3 =>
 let u4 : (List T_Piece.D) := s2.1.set (s2.2.2 : Int).toNat (s2.2.1, x3.2)
 idx u4 s2.2.2 fun _ =>
(u4[(s2.2.2 : Int).toNat]?).bind fun x5 =>
 let u6 : (List T_Piece.D) := u4.set (s2.2.2 : Int).toNat (x5.1, IntKind.wrap .i64 (s2.2.1 + 1), x5.2.2)
 idx u6 s2.2.2 fun _ =>
(u6[(s2.2.2 : Int).toNat]?).bind fun x7 =>
 let u8 : (List T_Piece.D) := u6.set (s2.2.2 : Int).toNat (x7.1, x7.2.1, IntKind.wrap .i64 ((IntKind.wrap .i64 (s2.2.1 + 1)) + 1), x7.2.2.2)
 let k9 : Int := IntKind.wrap .i64 ((IntKind.wrap .i64 ((IntKind.wrap .i64 (s2.2.1 + 1)) + 1)) + 1)
 idx u8 s2.2.2 fun _ =>
(u8[(s2.2.2 : Int).toNat]?).bind fun x10 =>
 let u11 : (List T_Piece.D) := u8.set (s2.2.2 : Int).toNat (x10.1, x10.2.1, x10.2.2.1, k9, x10.2.2.2.2)
 idx u11 s2.2.2 fun _ =>
(u11[(s2.2.2 : Int).toNat]?).bind fun x12 =>
 let u13 : (List T_Piece.D) := u11.set (s2.2.2 : Int).toNat (x12.1, x12.2.1, x12.2.2.1, x12.2.2.2.1, IntKind.wrap .i64 (k9 + 1), x12.2.2.2.2.2)
 idx u13 s2.2.2 fun _ =>
(u13[(s2.2.2 : Int).toNat]?).bind fun x14 =>
 let u15 : (List T_Piece.D) := u13.set (s2.2.2 : Int).toNat (x14.1, x14.2.1, x14.2.2.1, x14.2.2.2.1, x14.2.2.2.2.1, IntKind.wrap .i64 ((IntKind.wrap .i64 (k9 + 1)) + 1), x14.2.2.2.2.2.2)
 let k16 : Int := IntKind.wrap .i64 ((IntKind.wrap .i64 ((IntKind.wrap .i64 (k9 + 1)) + 1)) + 1)
 idx u15 s2.2.2 fun _ =>
(u15[(s2.2.2 : Int).toNat]?).bind fun x17 =>
 let u18 : (List T_Piece.D) := u15.set (s2.2.2 : Int).toNat (x17.1, x17.2.1, x17.2.2.1, x17.2.2.2.1, x17.2.2.2.2.1, x17.2.2.2.2.2.1, k16, x17.2.2.2.2.2.2.2)
 idx u18 s2.2.2 fun _ =>
(u18[(s2.2.2 : Int).toNat]?).bind fun x19 =>
 let u20 : (List T_Piece.D) := u18.set (s2.2.2 : Int).toNat (x19.1, x19.2.1, x19.2.2.1, x19.2.2.2.1, x19.2.2.2.2.1, x19.2.2.2.2.2.1, x19.2.2.2.2.2.2.1, IntKind.wrap .i64 (k16 + 1), x19.2.2.2.2.2.2.2.2)
 idx u20 s2.2.2 fun _ =>
(u20[(s2.2.2 : Int).toNat]?).bind fun x21 =>
 let u22 : (List T_Piece.D) := u20.set (s2.2.2 : Int).toNat (x21.1, x21.2.1, x21.2.2.1, x21.2.2.2.1, x21.2.2.2.2.1, x21.2.2.2.2.2.1, x21.2.2.2.2.2.2.1, x21.2.2.2.2.2.2.2.1, IntKind.wrap .i64 ((IntKind.wrap .i64 (k16 + 1)) + 1), x21.2.2.2.2.2.2.2.2.2)
 let k23 : Int := IntKind.wrap .i64 ((IntKind.wrap .i64 ((IntKind.wrap .i64 (k16 + 1)) + 1)) + 1)
 idx u22 s2.2.2 fun _ =>
(u22[(s2.2.2 : Int).toNat]?).bind fun x24 =>
 let u25 : (List T_Piece.D) := u22.set (s2.2.2 : Int).toNat (x24.1, x24.2.1, x24.2.2.1, x24.2.2.2.1, x24.2.2.2.2.1, x24.2.2.2.2.2.1, x24.2.2.2.2.2.2.1, x24.2.2.2.2.2.2.2.1, x24.2.2.2.2.2.2.2.2.1, k23, x24.2.2.2.2.2.2.2.2.2.2)
 idx u25 s2.2.2 fun _ =>
(u25[(s2.2.2 : Int).toNat]?).bind fun x26 =>
 let u27 : (List T_Piece.D) := u25.set (s2.2.2 : Int).toNat (x26.1, x26.2.1, x26.2.2.1, x26.2.2.2.1, x26.2.2.2.2.1, x26.2.2.2.2.2.1, x26.2.2.2.2.2.2.1, x26.2.2.2.2.2.2.2.1, x26.2.2.2.2.2.2.2.2.1, x26.2.2.2.2.2.2.2.2.2.1, IntKind.wrap .i64 (k23 + 1), x26.2.2.2.2.2.2.2.2.2.2.2)
 if 3 = 0 then none else (
 let k28 : Int := (IntKind.wrap .i64 ((IntKind.wrap .i64 (k23 + 1)) + 1)).tmod 3
 idx u27 s2.2.2 fun _ =>
(u27[(s2.2.2 : Int).toNat]?).bind fun x29 =>
 let u30 : (List T_Piece.D) := u27.set (s2.2.2 : Int).toNat (x29.1, x29.2.1, x29.2.2.1, x29.2.2.2.1, x29.2.2.2.2.1, x29.2.2.2.2.2.1, x29.2.2.2.2.2.2.1, x29.2.2.2.2.2.2.2.1, x29.2.2.2.2.2.2.2.2.1, x29.2.2.2.2.2.2.2.2.2.1, x29.2.2.2.2.2.2.2.2.2.2.1, (k28 == 0), x29.2.2.2.2.2.2.2.2.2.2.2.2)
 let k31 : Int := IntKind.wrap .i64 ((IntKind.wrap .i64 ((IntKind.wrap .i64 (k23 + 1)) + 1)) + 1)
 if 3 = 0 then none else (
 idx u30 s2.2.2 fun _ =>
(u30[(s2.2.2 : Int).toNat]?).bind fun x32 =>
 let u33 : (List T_Piece.D) := u30.set (s2.2.2 : Int).toNat (x32.1, x32.2.1, x32.2.2.1, x32.2.2.2.1, x32.2.2.2.2.1, x32.2.2.2.2.2.1, x32.2.2.2.2.2.2.1, x32.2.2.2.2.2.2.2.1, x32.2.2.2.2.2.2.2.2.1, x32.2.2.2.2.2.2.2.2.2.1, x32.2.2.2.2.2.2.2.2.2.2.1, x32.2.2.2.2.2.2.2.2.2.2.2.1, ((k31.tmod 3) == 0), ())
 some (.inl (u33, IntKind.wrap .i64 (k31 + 1), IntKind.wrap .i64 (s2.2.2 + 1))))))
 else (
 some (.inr s2))
def laws_markPieceS (a0 : (List T_Piece.D)) (a1 : Int) : Option (Int × ((List T_Piece.D) × Unit)) :=
(while_ (laws_markPieceS_l1) (a0, a1, 0)).bind fun o34 =>
 some (o34.2.1, (o34.1, ()))
def laws_markPieceS_h : Hints := (.node none none .none (.node none none (.node none none .none (.node none none (.node none (some ⟨[.tmpO 0 1 (.slice T_Piece), .tmp 1 (.int .i64), .tmp 5 (.int .i64)], [some 0], none, []⟩) .none .none) .none)) .none))
def laws_markPieceS_c : Ct := .mut [.lent, .rd] true true (.pair (.slice T_Piece) (.pair (.int .i64) .unit)) (.int .i64) (fun x => laws_markPieceS x.1 x.2.1)
theorem laws_markPieceS_ct : CtOk Try.prog 148 laws_markPieceS_c := mut_ct (E := { T := tab, G := [] }) (EnvOk.nil tabOk) mixed (fn := Try.f148) _ _ _ _ _ _ laws_markPieceS_h Try.func148 (by kernel_rfl) (fun x => by kernel_rfl)
/-! loop.example/g00486/laws.markSideS -/
def laws_markSideS_l1 : ((List T_Side.D) × (Int × Int)) → Option (((List T_Side.D) × (Int × Int)) ⊕ ((List T_Side.D) × (Int × Int))) := fun s2 =>
 bif decide (s2.2.2 < (s2.1.length : Int)) then (
 idx s2.1 s2.2.2 fun _ =>
(s2.1[(s2.2.2 : Int).toNat]?).bind fun x3 =>
 let u4 : (List T_Side.D) := s2.1.set (s2.2.2 : Int).toNat (s2.2.1, x3.2)
 idx u4 s2.2.2 fun _ =>
(u4[(s2.2.2 : Int).toNat]?).bind fun x5 =>
 let u6 : (List T_Side.D) := u4.set (s2.2.2 : Int).toNat (x5.1, IntKind.wrap .i64 (s2.2.1 + 1), x5.2.2)
 if 3 = 0 then none else (
 let k7 : Int := (IntKind.wrap .i64 ((IntKind.wrap .i64 (s2.2.1 + 1)) + 1)).tmod 3
 idx u6 s2.2.2 fun _ =>
(u6[(s2.2.2 : Int).toNat]?).bind fun x8 =>
 let u9 : (List T_Side.D) := u6.set (s2.2.2 : Int).toNat (x8.1, x8.2.1, (k7 == 0), ())
 let k10 : Int := IntKind.wrap .i64 ((IntKind.wrap .i64 ((IntKind.wrap .i64 (s2.2.1 + 1)) + 1)) + 1)
 some (.inl (u9, k10, IntKind.wrap .i64 (s2.2.2 + 1)))))
 else (
 some (.inr s2))
def laws_markSideS (a0 : (List T_Side.D)) (a1 : Int) : Option (Int × ((List T_Side.D) × Unit)) :=
(while_ (laws_markSideS_l1) (a0, a1, 0)).bind fun o11 =>
 some (o11.2.1, (o11.1, ()))
def laws_markSideS_h : Hints := (.node none none .none (.node none none (.node none none .none (.node none none (.node none (some ⟨[.tmpO 0 1 (.slice T_Side), .tmp 1 (.int .i64), .tmp 5 (.int .i64)], [some 0], none, []⟩) .none .none) .none)) .none))
def laws_markSideS_c : Ct := .mut [.lent, .rd] true true (.pair (.slice T_Side) (.pair (.int .i64) .unit)) (.int .i64) (fun x => laws_markSideS x.1 x.2.1)
theorem laws_markSideS_ct : CtOk Try.prog 149 laws_markSideS_c := mut_ct (E := { T := tab, G := [] }) (EnvOk.nil tabOk) mixed (fn := Try.f149) _ _ _ _ _ _ laws_markSideS_h Try.func149 (by kernel_rfl) (fun x => by kernel_rfl)
/-! loop.example/g00486/laws.markState -/
def laws_markState (a0 : T_State.D) (a1 : Int) : Option (Int × (T_State.D × Unit)) :=
(laws_markPieceS a0.1 a1).bind fun y1 =>
(laws_markSideS a0.2.1 y1.1).bind fun y2 =>
 some (y2.1, ((y1.2.1, y2.2.1, a0.2.2), ()))
def laws_markState_c : Ct := .mut [.lent, .rd] true true (.pair T_State (.pair (.int .i64) .unit)) (.int .i64) (fun x => laws_markState x.1 x.2.1)
theorem laws_markState_ct : CtOk Try.prog 41 laws_markState_c := mut_ct (E := { T := tab, G := [(148, laws_markPieceS_c), (149, laws_markSideS_c)] }) (EnvOk.cons laws_markPieceS_ct (EnvOk.cons laws_markSideS_ct (EnvOk.nil tabOk))) mixed (fn := Try.f41) _ _ _ _ _ _ .none Try.func41 (by kernel_rfl) (fun x => by kernel_rfl)
/-! loop.example/g00486/laws.markTriggerS -/
def laws_markTriggerS_l1 : ((List T_Trigger.D) × (Int × Int)) → Option (((List T_Trigger.D) × (Int × Int)) ⊕ ((List T_Trigger.D) × (Int × Int))) := fun s2 =>
 bif decide (s2.2.2 < (s2.1.length : Int)) then (
 idx s2.1 s2.2.2 fun _ =>
(s2.1[(s2.2.2 : Int).toNat]?).bind fun x3 =>
 let u4 : (List T_Trigger.D) := s2.1.set (s2.2.2 : Int).toNat (s2.2.1, x3.2)
 idx u4 s2.2.2 fun _ =>
(u4[(s2.2.2 : Int).toNat]?).bind fun x5 =>
 let u6 : (List T_Trigger.D) := u4.set (s2.2.2 : Int).toNat (x5.1, IntKind.wrap .i64 (s2.2.1 + 1), x5.2.2)
 idx u6 s2.2.2 fun _ =>
(u6[(s2.2.2 : Int).toNat]?).bind fun x7 =>
 let u8 : (List T_Trigger.D) := u6.set (s2.2.2 : Int).toNat (x7.1, x7.2.1, IntKind.wrap .i64 ((IntKind.wrap .i64 (s2.2.1 + 1)) + 1), x7.2.2.2)
 let k9 : Int := IntKind.wrap .i64 ((IntKind.wrap .i64 ((IntKind.wrap .i64 (s2.2.1 + 1)) + 1)) + 1)
 idx u8 s2.2.2 fun _ =>
(u8[(s2.2.2 : Int).toNat]?).bind fun x10 =>
 let u11 : (List T_Trigger.D) := u8.set (s2.2.2 : Int).toNat (x10.1, x10.2.1, x10.2.2.1, (k9, x10.2.2.2.1.2), ())
 idx u11 s2.2.2 fun _ =>
(u11[(s2.2.2 : Int).toNat]?).bind fun x12 =>
 let u13 : (List T_Trigger.D) := u11.set (s2.2.2 : Int).toNat (x12.1, x12.2.1, x12.2.2.1, (x12.2.2.2.1.1, IntKind.wrap .i64 (k9 + 1), x12.2.2.2.1.2.2), ())
 idx u13 s2.2.2 fun _ =>
(u13[(s2.2.2 : Int).toNat]?).bind fun x14 =>
 let u15 : (List T_Trigger.D) := u13.set (s2.2.2 : Int).toNat (x14.1, x14.2.1, x14.2.2.1, (x14.2.2.2.1.1, x14.2.2.2.1.2.1, IntKind.wrap .i64 ((IntKind.wrap .i64 (k9 + 1)) + 1), x14.2.2.2.1.2.2.2), ())
 let k16 : Int := IntKind.wrap .i64 ((IntKind.wrap .i64 ((IntKind.wrap .i64 (k9 + 1)) + 1)) + 1)
 idx u15 s2.2.2 fun _ =>
(u15[(s2.2.2 : Int).toNat]?).bind fun x17 =>
 let u18 : (List T_Trigger.D) := u15.set (s2.2.2 : Int).toNat (x17.1, x17.2.1, x17.2.2.1, (x17.2.2.2.1.1, x17.2.2.2.1.2.1, x17.2.2.2.1.2.2.1, k16, x17.2.2.2.1.2.2.2.2), ())
 idx u18 s2.2.2 fun _ =>
(u18[(s2.2.2 : Int).toNat]?).bind fun x19 =>
 let u20 : (List T_Trigger.D) := u18.set (s2.2.2 : Int).toNat (x19.1, x19.2.1, x19.2.2.1, (x19.2.2.2.1.1, x19.2.2.2.1.2.1, x19.2.2.2.1.2.2.1, x19.2.2.2.1.2.2.2.1, IntKind.wrap .i64 (k16 + 1), x19.2.2.2.1.2.2.2.2.2), ())
 idx u20 s2.2.2 fun _ =>
(u20[(s2.2.2 : Int).toNat]?).bind fun x21 =>
 let u22 : (List T_Trigger.D) := u20.set (s2.2.2 : Int).toNat (x21.1, x21.2.1, x21.2.2.1, (x21.2.2.2.1.1, x21.2.2.2.1.2.1, x21.2.2.2.1.2.2.1, x21.2.2.2.1.2.2.2.1, x21.2.2.2.1.2.2.2.2.1, IntKind.wrap .i64 ((IntKind.wrap .i64 (k16 + 1)) + 1), x21.2.2.2.1.2.2.2.2.2.2), ())
 let k23 : Int := IntKind.wrap .i64 ((IntKind.wrap .i64 ((IntKind.wrap .i64 (k16 + 1)) + 1)) + 1)
 idx u22 s2.2.2 fun _ =>
(u22[(s2.2.2 : Int).toNat]?).bind fun x24 =>
 let u25 : (List T_Trigger.D) := u22.set (s2.2.2 : Int).toNat (x24.1, x24.2.1, x24.2.2.1, (x24.2.2.2.1.1, x24.2.2.2.1.2.1, x24.2.2.2.1.2.2.1, x24.2.2.2.1.2.2.2.1, x24.2.2.2.1.2.2.2.2.1, x24.2.2.2.1.2.2.2.2.2.1, k23, x24.2.2.2.1.2.2.2.2.2.2.2), ())
 idx u25 s2.2.2 fun _ =>
(u25[(s2.2.2 : Int).toNat]?).bind fun x26 =>
 let u27 : (List T_Trigger.D) := u25.set (s2.2.2 : Int).toNat (x26.1, x26.2.1, x26.2.2.1, (x26.2.2.2.1.1, x26.2.2.2.1.2.1, x26.2.2.2.1.2.2.1, x26.2.2.2.1.2.2.2.1, x26.2.2.2.1.2.2.2.2.1, x26.2.2.2.1.2.2.2.2.2.1, x26.2.2.2.1.2.2.2.2.2.2.1, IntKind.wrap .i64 (k23 + 1), x26.2.2.2.1.2.2.2.2.2.2.2.2), ())
 idx u27 s2.2.2 fun _ =>
(u27[(s2.2.2 : Int).toNat]?).bind fun x28 =>
 let u29 : (List T_Trigger.D) := u27.set (s2.2.2 : Int).toNat (x28.1, x28.2.1, x28.2.2.1, (x28.2.2.2.1.1, x28.2.2.2.1.2.1, x28.2.2.2.1.2.2.1, x28.2.2.2.1.2.2.2.1, x28.2.2.2.1.2.2.2.2.1, x28.2.2.2.1.2.2.2.2.2.1, x28.2.2.2.1.2.2.2.2.2.2.1, x28.2.2.2.1.2.2.2.2.2.2.2.1, IntKind.wrap .i64 ((IntKind.wrap .i64 (k23 + 1)) + 1), x28.2.2.2.1.2.2.2.2.2.2.2.2.2), ())
 let k30 : Int := IntKind.wrap .i64 ((IntKind.wrap .i64 ((IntKind.wrap .i64 (k23 + 1)) + 1)) + 1)
 idx u29 s2.2.2 fun _ =>
(u29[(s2.2.2 : Int).toNat]?).bind fun x31 =>
 let u32 : (List T_Trigger.D) := u29.set (s2.2.2 : Int).toNat (x31.1, x31.2.1, x31.2.2.1, (x31.2.2.2.1.1, x31.2.2.2.1.2.1, x31.2.2.2.1.2.2.1, x31.2.2.2.1.2.2.2.1, x31.2.2.2.1.2.2.2.2.1, x31.2.2.2.1.2.2.2.2.2.1, x31.2.2.2.1.2.2.2.2.2.2.1, x31.2.2.2.1.2.2.2.2.2.2.2.1, x31.2.2.2.1.2.2.2.2.2.2.2.2.1, k30, x31.2.2.2.1.2.2.2.2.2.2.2.2.2.2), ())
 idx u32 s2.2.2 fun _ =>
(u32[(s2.2.2 : Int).toNat]?).bind fun x33 =>
 let u34 : (List T_Trigger.D) := u32.set (s2.2.2 : Int).toNat (x33.1, x33.2.1, x33.2.2.1, (x33.2.2.2.1.1, x33.2.2.2.1.2.1, x33.2.2.2.1.2.2.1, x33.2.2.2.1.2.2.2.1, x33.2.2.2.1.2.2.2.2.1, x33.2.2.2.1.2.2.2.2.2.1, x33.2.2.2.1.2.2.2.2.2.2.1, x33.2.2.2.1.2.2.2.2.2.2.2.1, x33.2.2.2.1.2.2.2.2.2.2.2.2.1, x33.2.2.2.1.2.2.2.2.2.2.2.2.2.1, IntKind.wrap .i64 (k30 + 1), x33.2.2.2.1.2.2.2.2.2.2.2.2.2.2.2), ())
 if 3 = 0 then none else (
 let k35 : Int := (IntKind.wrap .i64 ((IntKind.wrap .i64 (k30 + 1)) + 1)).tmod 3
 idx u34 s2.2.2 fun _ =>
(u34[(s2.2.2 : Int).toNat]?).bind fun x36 =>
 let u37 : (List T_Trigger.D) := u34.set (s2.2.2 : Int).toNat (x36.1, x36.2.1, x36.2.2.1, (x36.2.2.2.1.1, x36.2.2.2.1.2.1, x36.2.2.2.1.2.2.1, x36.2.2.2.1.2.2.2.1, x36.2.2.2.1.2.2.2.2.1, x36.2.2.2.1.2.2.2.2.2.1, x36.2.2.2.1.2.2.2.2.2.2.1, x36.2.2.2.1.2.2.2.2.2.2.2.1, x36.2.2.2.1.2.2.2.2.2.2.2.2.1, x36.2.2.2.1.2.2.2.2.2.2.2.2.2.1, x36.2.2.2.1.2.2.2.2.2.2.2.2.2.2.1, (k35 == 0), x36.2.2.2.1.2.2.2.2.2.2.2.2.2.2.2.2), ())
 let k38 : Int := IntKind.wrap .i64 ((IntKind.wrap .i64 ((IntKind.wrap .i64 (k30 + 1)) + 1)) + 1)
 if 3 = 0 then none else (
 idx u37 s2.2.2 fun _ =>
(u37[(s2.2.2 : Int).toNat]?).bind fun x39 =>
 let u40 : (List T_Trigger.D) := u37.set (s2.2.2 : Int).toNat (x39.1, x39.2.1, x39.2.2.1, (x39.2.2.2.1.1, x39.2.2.2.1.2.1, x39.2.2.2.1.2.2.1, x39.2.2.2.1.2.2.2.1, x39.2.2.2.1.2.2.2.2.1, x39.2.2.2.1.2.2.2.2.2.1, x39.2.2.2.1.2.2.2.2.2.2.1, x39.2.2.2.1.2.2.2.2.2.2.2.1, x39.2.2.2.1.2.2.2.2.2.2.2.2.1, x39.2.2.2.1.2.2.2.2.2.2.2.2.2.1, x39.2.2.2.1.2.2.2.2.2.2.2.2.2.2.1, x39.2.2.2.1.2.2.2.2.2.2.2.2.2.2.2.1, ((k38.tmod 3) == 0), ()), ())
 some (.inl (u40, IntKind.wrap .i64 (k38 + 1), IntKind.wrap .i64 (s2.2.2 + 1))))))
 else (
 some (.inr s2))
def laws_markTriggerS (a0 : (List T_Trigger.D)) (a1 : Int) : Option (Int × ((List T_Trigger.D) × Unit)) :=
(while_ (laws_markTriggerS_l1) (a0, a1, 0)).bind fun o41 =>
 some (o41.2.1, (o41.1, ()))
def laws_markTriggerS_h : Hints := (.node none none .none (.node none none (.node none none .none (.node none none (.node none (some ⟨[.tmpO 0 1 (.slice T_Trigger), .tmp 1 (.int .i64), .tmp 5 (.int .i64)], [some 0], none, []⟩) .none .none) .none)) .none))
def laws_markTriggerS_c : Ct := .mut [.lent, .rd] true true (.pair (.slice T_Trigger) (.pair (.int .i64) .unit)) (.int .i64) (fun x => laws_markTriggerS x.1 x.2.1)
theorem laws_markTriggerS_ct : CtOk Try.prog 42 laws_markTriggerS_c := mut_ct (E := { T := tab, G := [] }) (EnvOk.nil tabOk) mixed (fn := Try.f42) _ _ _ _ _ _ laws_markTriggerS_h Try.func42 (by kernel_rfl) (fun x => by kernel_rfl)
/-! loop.example/g00486/laws.markIntS -/
def laws_markIntS_l1 : ((List Int) × (Int × Int)) → Option (((List Int) × (Int × Int)) ⊕ ((List Int) × (Int × Int))) := fun s2 =>
 bif decide (s2.2.2 < (s2.1.length : Int)) then (
 idx s2.1 s2.2.2 fun _ =>
(s2.1[(s2.2.2 : Int).toNat]?).bind fun x3 =>
 let u4 : (List Int) := s2.1.set (s2.2.2 : Int).toNat s2.2.1
 some (.inl (u4, IntKind.wrap .i64 (s2.2.1 + 1), IntKind.wrap .i64 (s2.2.2 + 1))))
 else (
 some (.inr s2))
def laws_markIntS (a0 : (List Int)) (a1 : Int) : Option (Int × ((List Int) × Unit)) :=
(while_ (laws_markIntS_l1) (a0, a1, 0)).bind fun o5 =>
 some (o5.2.1, (o5.1, ()))
def laws_markIntS_h : Hints := (.node none none .none (.node none none (.node none none .none (.node none none (.node none (some ⟨[.tmpO 0 1 (.slice (.int .i64)), .tmp 1 (.int .i64), .tmp 5 (.int .i64)], [some 0], none, []⟩) .none .none) .none)) .none))
def laws_markIntS_c : Ct := .mut [.lent, .rd] true true (.pair (.slice (.int .i64)) (.pair (.int .i64) .unit)) (.int .i64) (fun x => laws_markIntS x.1 x.2.1)
theorem laws_markIntS_ct : CtOk Try.prog 43 laws_markIntS_c := mut_ct (E := { T := tab, G := [] }) (EnvOk.nil tabOk) mixed (fn := Try.f43) _ _ _ _ _ _ laws_markIntS_h Try.func43 (by kernel_rfl) (fun x => by kernel_rfl)
/-! loop.example/g00486/laws.heldTriggerS -/
def laws_heldTriggerS_l1 (a0 : (List T_Trigger.D)) : (Int × Int) → Option ((Int × Int) ⊕ ((Int × Int) ⊕ Int)) := fun s1 =>
 bif decide (s1.2 < (a0.length : Int)) then (
 idx a0 s1.2 fun x2 =>
 bif (x2.1 != s1.1) then (
 some (.inr (.inr (-1))))
 else (
 idx a0 s1.2 fun x3 =>
 bif (x3.2.1 != (IntKind.wrap .i64 (s1.1 + 1))) then (
 some (.inr (.inr (-1))))
 else (
 idx a0 s1.2 fun x4 =>
 bif (x4.2.2.1 != (IntKind.wrap .i64 ((IntKind.wrap .i64 (s1.1 + 1)) + 1))) then (
 some (.inr (.inr (-1))))
 else (
 let k5 : Int := IntKind.wrap .i64 ((IntKind.wrap .i64 ((IntKind.wrap .i64 (s1.1 + 1)) + 1)) + 1)
 idx a0 s1.2 fun x6 =>
 bif (x6.2.2.2.1.1 != k5) then (
 some (.inr (.inr (-1))))
 else (
 idx a0 s1.2 fun x7 =>
 bif (x7.2.2.2.1.2.1 != (IntKind.wrap .i64 (k5 + 1))) then (
 some (.inr (.inr (-1))))
 else (
 idx a0 s1.2 fun x8 =>
 bif (x8.2.2.2.1.2.2.1 != (IntKind.wrap .i64 ((IntKind.wrap .i64 (k5 + 1)) + 1))) then (
 some (.inr (.inr (-1))))
 else (
 let k9 : Int := IntKind.wrap .i64 ((IntKind.wrap .i64 ((IntKind.wrap .i64 (k5 + 1)) + 1)) + 1)
 idx a0 s1.2 fun x10 =>
 bif (x10.2.2.2.1.2.2.2.1 != k9) then (
 some (.inr (.inr (-1))))
 else (
 idx a0 s1.2 fun x11 =>
 bif (x11.2.2.2.1.2.2.2.2.1 != (IntKind.wrap .i64 (k9 + 1))) then (
 some (.inr (.inr (-1))))
 else (
 idx a0 s1.2 fun x12 =>
 bif (x12.2.2.2.1.2.2.2.2.2.1 != (IntKind.wrap .i64 ((IntKind.wrap .i64 (k9 + 1)) + 1))) then (
 some (.inr (.inr (-1))))
 else (
 let k13 : Int := IntKind.wrap .i64 ((IntKind.wrap .i64 ((IntKind.wrap .i64 (k9 + 1)) + 1)) + 1)
 idx a0 s1.2 fun x14 =>
 bif (x14.2.2.2.1.2.2.2.2.2.2.1 != k13) then (
 some (.inr (.inr (-1))))
 else (
 idx a0 s1.2 fun x15 =>
 bif (x15.2.2.2.1.2.2.2.2.2.2.2.1 != (IntKind.wrap .i64 (k13 + 1))) then (
 some (.inr (.inr (-1))))
 else (
 idx a0 s1.2 fun x16 =>
 bif (x16.2.2.2.1.2.2.2.2.2.2.2.2.1 != (IntKind.wrap .i64 ((IntKind.wrap .i64 (k13 + 1)) + 1))) then (
 some (.inr (.inr (-1))))
 else (
 let k17 : Int := IntKind.wrap .i64 ((IntKind.wrap .i64 ((IntKind.wrap .i64 (k13 + 1)) + 1)) + 1)
 idx a0 s1.2 fun x18 =>
 bif (x18.2.2.2.1.2.2.2.2.2.2.2.2.2.1 != k17) then (
 some (.inr (.inr (-1))))
 else (
 idx a0 s1.2 fun x19 =>
 bif (x19.2.2.2.1.2.2.2.2.2.2.2.2.2.2.1 != (IntKind.wrap .i64 (k17 + 1))) then (
 some (.inr (.inr (-1))))
 else (
 idx a0 s1.2 fun x20 =>
 if 3 = 0 then none else (
 let k21 : Int := (IntKind.wrap .i64 ((IntKind.wrap .i64 (k17 + 1)) + 1)).tmod 3
 bif (x20.2.2.2.1.2.2.2.2.2.2.2.2.2.2.2.1 != (k21 == 0)) then (
 some (.inr (.inr (-1))))
 else (
 let k22 : Int := IntKind.wrap .i64 ((IntKind.wrap .i64 ((IntKind.wrap .i64 (k17 + 1)) + 1)) + 1)
 idx a0 s1.2 fun x23 =>
 if 3 = 0 then none else (
 bif (x23.2.2.2.1.2.2.2.2.2.2.2.2.2.2.2.2.1 != ((k22.tmod 3) == 0)) then (
 some (.inr (.inr (-1))))
 else (
 some (.inl (IntKind.wrap .i64 (k22 + 1), IntKind.wrap .i64 (s1.2 + 1))))))))))))))))))))))
 else (
 some (.inr (.inl s1)))
def laws_heldTriggerS (a0 : (List T_Trigger.D)) (a1 : Int) : Option Int :=
(while_ (laws_heldTriggerS_l1 a0) (a1, 0)).bind fun o24 =>
 match o24 with
| .inl s25 => (
 some s25.1)
| .inr o26 => (
 some o26)
def laws_heldTriggerS_h : Hints := (.node none none .none (.node none none (.node none none .none (.node none none (.node none (some ⟨[.tmp 1 (.int .i64), .tmp 5 (.int .i64)], [some 0], some [.tmp 4 (.int .i64)], []⟩) .none .none) .none)) .none))
def laws_heldTriggerS_c : Ct := .pure true false (.pair (.slice T_Trigger) (.pair (.int .i64) .unit)) (.int .i64) (fun x => laws_heldTriggerS x.1 x.2.1)
theorem laws_heldTriggerS_ct : CtOk Try.prog 44 laws_heldTriggerS_c := pure_ct (E := { T := tab, G := [] }) (EnvOk.nil tabOk) mixed (fn := Try.f44) _ _ _ _ _ laws_heldTriggerS_h Try.func44 (by kernel_rfl) (fun x => by kernel_rfl)
/-! loop.example/g00486/laws.heldIntS -/
def laws_heldIntS_l1 (a0 : (List Int)) : (Int × Int) → Option ((Int × Int) ⊕ ((Int × Int) ⊕ Int)) := fun s1 =>
 bif decide (s1.2 < (a0.length : Int)) then (
 idx a0 s1.2 fun x2 =>
 bif (x2 != s1.1) then (
 some (.inr (.inr (-1))))
 else (
 some (.inl (IntKind.wrap .i64 (s1.1 + 1), IntKind.wrap .i64 (s1.2 + 1)))))
 else (
 some (.inr (.inl s1)))
def laws_heldIntS (a0 : (List Int)) (a1 : Int) : Option Int :=
(while_ (laws_heldIntS_l1 a0) (a1, 0)).bind fun o3 =>
 match o3 with
| .inl s4 => (
 some s4.1)
| .inr o5 => (
 some o5)
def laws_heldIntS_h : Hints := (.node none none .none (.node none none (.node none none .none (.node none none (.node none (some ⟨[.tmp 1 (.int .i64), .tmp 5 (.int .i64)], [some 0], some [.tmp 4 (.int .i64)], []⟩) .none .none) .none)) .none))
def laws_heldIntS_c : Ct := .pure true false (.pair (.slice (.int .i64)) (.pair (.int .i64) .unit)) (.int .i64) (fun x => laws_heldIntS x.1 x.2.1)
theorem laws_heldIntS_ct : CtOk Try.prog 45 laws_heldIntS_c := pure_ct (E := { T := tab, G := [] }) (EnvOk.nil tabOk) mixed (fn := Try.f45) _ _ _ _ _ laws_heldIntS_h Try.func45 (by kernel_rfl) (fun x => by kernel_rfl)
/-! loop.example/g00486/laws.FnExactArrange -/
def laws_FnExactArrange (a0 : T_State.D) (a1 : (List T_Trigger.D)) (a2 : (List Int)) : Option Bool :=
 bif decide ((a2.length : Int) > 1048576) then (
 some true)
 else (
(laws_szState a0 1048576).bind fun y1 =>
 bif decide (y1 < 0) then (
 some true)
 else (
(laws_szTriggerS a1 y1).bind fun y2 =>
 bif decide (y2 < 0) then (
 some true)
 else (
(laws_toState a0).bind fun y3 =>
(laws_toTriggerS a1).bind fun y4 =>
(laws_toIntS a2).bind fun y5 =>
(spec_Arrange y3 y4 y5).bind fun y6 =>
(laws_toState a0).bind fun y7 =>
(laws_toTriggerS a1).bind fun y8 =>
(laws_toIntS a2).bind fun y9 =>
(impl_Arrange y7 y8 y9).bind fun y10 =>
(((laws_eqTriggerS y10.1 y6.1).bind fun y11 =>
 bif (!y11) then (
 some true)
 else (
(laws_eqIntS y10.2.1 y6.2.1).bind fun y12 =>
 some (!y12))) : Option Bool).bind fun o13 =>
 bif o13 then (
 some false)
 else (
(laws_toState a0).bind fun y14 =>
(laws_eqState y7 y14).bind fun y15 =>
 bif (!y15) then (
 some false)
 else (
(laws_toTriggerS a1).bind fun y16 =>
(laws_eqTriggerS y8 y16).bind fun y17 =>
 bif (!y17) then (
 some false)
 else (
(laws_toIntS a2).bind fun y18 =>
(laws_eqIntS y9 y18).bind fun y19 =>
 bif (!y19) then (
 some false)
 else (
(laws_markState y7 1).bind fun y20 =>
(laws_markTriggerS y8 y20.1).bind fun y21 =>
(laws_markIntS y9 y21.1).bind fun y22 =>
((bif decide (y22.1 < 0) then (
 some true)
 else (
(laws_eqTriggerS y10.1 y6.1).bind fun y23 =>
 bif (!y23) then (
 some true)
 else (
(laws_eqIntS y10.2.1 y6.2.1).bind fun y24 =>
 some (!y24)))) : Option Bool).bind fun o25 =>
 bif o25 then (
 some false)
 else (
(laws_markTriggerS y10.1 1).bind fun y26 =>
(laws_markIntS y10.2.1 y26.1).bind fun y27 =>
(laws_heldTriggerS y26.2.1 1).bind fun y28 =>
 bif decide (y28 < 0) then (
 some false)
 else (
(laws_heldIntS y27.2.1 y28).bind fun y29 =>
 bif decide (y29 < 0) then (
 some false)
 else (
 bif (y29 != y27.1) then (
 some false)
 else (
(laws_toState a0).bind fun y30 =>
(laws_toTriggerS a1).bind fun y31 =>
(laws_toIntS a2).bind fun y32 =>
(impl_Arrange y30 y31 y32).bind fun y33 =>
(((laws_eqTriggerS y33.1 y6.1).bind fun y34 =>
 bif (!y34) then (
 some true)
 else (
(laws_eqIntS y33.2.1 y6.2.1).bind fun y35 =>
 some (!y35))) : Option Bool).bind fun o36 =>
 bif o36 then (
 some false)
 else (
(laws_heldTriggerS y26.2.1 1).bind fun y37 =>
 bif decide (y37 < 0) then (
 some false)
 else (
(laws_heldIntS y27.2.1 y37).bind fun y38 =>
 bif decide (y38 < 0) then (
 some false)
 else (
 bif (y38 != y27.1) then (
 some false)
 else (
 some true)))))))))))))))
def laws_FnExactArrange_h : Hints := (.node none none .none (.node none none .none (.node none none .none (.node none none .none (.node none none .none (.node none none .none (.node none none .none (.node none none .none (.node none none .none (.node none none .none (.node none none .none (.node none none .none (.node none none (.node none none (.node (some ⟨[.tmp 65 .bool], [none], none, []⟩) none .none .none) .none) (.node none none .none (.node none none .none (.node none none .none (.node none none .none (.node none none .none (.node none none .none (.node none none .none (.node none none (.node none none (.node (some ⟨[.tmp 103 .bool], [none], none, []⟩) none .none .none) .none) (.node none none .none (.node none none .none (.node none none .none (.node none none .none (.node none none .none (.node none none .none (.node none none .none (.node none none .none (.node none none .none (.node none none .none (.node none none (.node none none (.node (some ⟨[.tmp 142 .bool], [none], none, []⟩) none .none .none) .none) .none))))))))))))))))))))))))))))))))
def laws_FnExactArrange_c : Ct := .pure true false (.pair T_State (.pair (.slice T_Trigger) (.pair (.slice (.int .i64)) .unit))) .bool (fun x => laws_FnExactArrange x.1 x.2.1 x.2.2.1)
theorem laws_FnExactArrange_ct : CtOk Try.prog 5 laws_FnExactArrange_c := pure_ct (E := { T := tab, G := [(22, impl_Arrange_fresh_c), (23, spec_Arrange_fresh_c), (33, laws_szState_c), (34, laws_szTriggerS_c), (35, laws_toState_fresh_c), (36, laws_toTriggerS_fresh_c), (37, laws_toIntS_fresh_c), (38, laws_eqTriggerS_c), (39, laws_eqIntS_c), (40, laws_eqState_c), (41, laws_markState_c), (42, laws_markTriggerS_c), (43, laws_markIntS_c), (44, laws_heldTriggerS_c), (45, laws_heldIntS_c)] }) (EnvOk.cons impl_Arrange_fresh_ct (EnvOk.cons spec_Arrange_fresh_ct (EnvOk.cons laws_szState_ct (EnvOk.cons laws_szTriggerS_ct (EnvOk.cons laws_toState_fresh_ct (EnvOk.cons laws_toTriggerS_fresh_ct (EnvOk.cons laws_toIntS_fresh_ct (EnvOk.cons laws_eqTriggerS_ct (EnvOk.cons laws_eqIntS_ct (EnvOk.cons laws_eqState_ct (EnvOk.cons laws_markState_ct (EnvOk.cons laws_markTriggerS_ct (EnvOk.cons laws_markIntS_ct (EnvOk.cons laws_heldTriggerS_ct (EnvOk.cons laws_heldIntS_ct (EnvOk.nil tabOk)))))))))))))))) mixed (fn := Try.f5) _ _ _ _ _ laws_FnExactArrange_h Try.func5 (by kernel_rfl) (fun x => by kernel_rfl)
end
end Go.Abs
