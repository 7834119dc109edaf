import Derived.Test.YtnihhlhcoacibaaProg
import Derived.Test.YtnihhlhcoacibaaAbsTab
set_option linter.unusedVariables false
set_option linter.unusedSimpArgs false
namespace Go.Abs
open Go.Proofs
set_option maxRecDepth 100000
noncomputable section
@[reducible] def T_Event : Ty := (.pair (.int .i64) (.pair (.int .i64) (.pair (.int .i64) (.pair (.int .i64) (.pair (.int .i64) (.pair (.int .i64) (.pair .bool .unit)))))))
@[reducible] def T_Pat : Ty := (.pair (.int .i64) (.pair (.int .i64) (.pair (.int .i64) (.pair (.int .i64) (.pair (.int .i64) (.pair (.int .i64) (.pair (.int .i64) .unit)))))))
@[reducible] def T_Guard : Ty := (.pair (.int .i64) (.pair (.int .i64) .unit))
@[reducible] def T_Act : Ty := (.pair (.int .i64) (.pair (.int .i64) (.pair (.int .i64) (.pair (.int .i64) (.pair (.int .i64) (.pair .bool (.pair (.slice T_Event) .unit)))))))
@[reducible] def T_Effect : Ty := (.pair (.int .i64) (.pair (.int .i64) (.pair (.int .i64) (.pair (.int .i64) (.pair T_Pat (.pair T_Guard (.pair T_Act (.pair (.int .i64) (.pair (.int .i64) .unit)))))))))
@[reducible] def T_Turn : Ty := (.pair (.int .i64) (.pair (.int .i64) (.pair (.int .i64) (.pair (.int .i64) (.pair T_Event (.pair (.slice T_Event) (.pair (.int .i64) (.pair (.int .i64) .unit))))))))
@[reducible] def T_Fate : Ty := (.pair (.slice T_Event) (.pair (.slice T_Effect) (.pair (.slice (.int .i64)) (.pair (.slice T_Turn) .unit))))
@[reducible] def T_Piece : Ty := (.pair (.int .i64) (.pair (.int .i64) (.pair (.int .i64) (.pair (.int .i64) (.pair (.int .i64) (.pair (.int .i64) (.pair (.int .i64) (.pair (.int .i64) (.pair (.int .i64) (.pair (.int .i64) (.pair (.int .i64) (.pair .bool (.pair .bool .unit)))))))))))))
@[reducible] def T_Side : Ty := (.pair (.int .i64) (.pair (.int .i64) (.pair .bool .unit)))
@[reducible] def T_State : Ty := (.pair (.slice T_Piece) (.pair (.slice T_Side) (.pair (.int .i64) (.pair (.int .i64) .unit))))
@[reducible] def T_Trigger : Ty := (.pair (.int .i64) (.pair (.int .i64) (.pair (.int .i64) (.pair T_Piece .unit))))
@[reducible] def T_Note : Ty := (.pair (.int .i64) (.pair T_Event (.pair (.int .i64) (.pair (.int .i64) (.pair T_Piece .unit)))))
@[reducible] def T_Game : Ty := (.pair T_State (.pair (.slice T_Effect) (.pair (.slice (.int .i64)) (.pair (.slice T_Trigger) (.pair (.slice T_Note) (.pair (.slice T_Turn) .unit))))))
@[reducible] def T_S7 : Ty := (.pair (.int .i64) (.pair (.int .i64) (.pair .bool (.pair (.int .u8) .unit))))
@[reducible] def T_S231 : Ty := (.pair (.slice (.int .u8)) (.pair (.int .i64) (.pair (.int .i64) .unit)))
def tab : Tab := [
  (1, ⟨.other, 1, 0, .unit, [.undef]⟩),
  (2, ⟨.int .i64, 1, 0, (.int .i64), [.int .i64 0]⟩),
  (3, ⟨.int .i64, 1, 0, (.int .i64), [.int .i64 0]⟩),
  (4, ⟨.bool, 1, 0, .bool, [.bool false]⟩),
  (5, ⟨.int .u8, 1, 0, (.int .u8), [.int .u8 0]⟩),
  (6, ⟨.int .u8, 1, 0, (.int .u8), [.int .u8 0]⟩),
  (7, ⟨.struct [(0, 2), (1, 3), (2, 4), (3, 6)], 4, 0, T_S7, [.int .i64 0, .int .i64 0, .bool false, .int .u8 0]⟩),
  (8, ⟨.struct [(0, 2), (1, 3), (2, 4), (3, 6)], 4, 0, T_S7, [.int .i64 0, .int .i64 0, .bool false, .int .u8 0]⟩),
  (12, ⟨.int .u64, 1, 0, (.int .u64), [.int .u64 0]⟩),
  (15, ⟨.other, 1, 0, .unit, [.undef]⟩),
  (16, ⟨.other, 1, 0, .unit, [.undef]⟩),
  (17, ⟨.other, 1, 0, .unit, [.undef]⟩),
  (21, ⟨.int .i32, 1, 0, (.int .i32), [.int .i32 0]⟩),
  (22, ⟨.slice 5, 1, 0, (.slice (.int .u8)), [.nil]⟩),
  (23, ⟨.other, 1, 0, .unit, [.undef]⟩),
  (24, ⟨.slice 37, 1, 0, (.slice T_Piece), [.nil]⟩),
  (25, ⟨.slice 101, 1, 0, (.slice T_Side), [.nil]⟩),
  (26, ⟨.struct [(0, 24), (1, 25), (2, 3), (3, 3)], 4, 0, T_State, [.nil, .nil, .int .i64 0, .int .i64 0]⟩),
  (27, ⟨.struct [(0, 24), (1, 25), (2, 3), (3, 3)], 4, 0, T_State, [.nil, .nil, .int .i64 0, .int .i64 0]⟩),
  (28, ⟨.slice 88, 1, 0, (.slice T_Note), [.nil]⟩),
  (30, ⟨.other, 1, 0, .unit, [.undef]⟩),
  (31, ⟨.slice 39, 1, 0, (.slice T_Trigger), [.nil]⟩),
  (32, ⟨.other, 1, 0, .unit, [.undef]⟩),
  (33, ⟨.other, 1, 0, .unit, [.undef]⟩),
  (34, ⟨.other, 1, 0, .unit, [.undef]⟩),
  (35, ⟨.other, 1, 0, .unit, [.undef]⟩),
  (36, ⟨.struct [(0, 3), (1, 3), (2, 3), (3, 3), (4, 3), (5, 3), (6, 3), (7, 3), (8, 3), (9, 3), (10, 3), (11, 4), (12, 4)], 13, 0, T_Piece, [.int .i64 0, .int .i64 0, .int .i64 0, .int .i64 0, .int .i64 0, .int .i64 0, .int .i64 0, .int .i64 0, .int .i64 0, .int .i64 0, .int .i64 0, .bool false, .bool false]⟩),
  (37, ⟨.struct [(0, 3), (1, 3), (2, 3), (3, 3), (4, 3), (5, 3), (6, 3), (7, 3), (8, 3), (9, 3), (10, 3), (11, 4), (12, 4)], 13, 0, T_Piece, [.int .i64 0, .int .i64 0, .int .i64 0, .int .i64 0, .int .i64 0, .int .i64 0, .int .i64 0, .int .i64 0, .int .i64 0, .int .i64 0, .int .i64 0, .bool false, .bool false]⟩),
  (38, ⟨.struct [(0, 3), (1, 3), (2, 3), (3, 37)], 16, 0, T_Trigger, [.int .i64 0, .int .i64 0, .int .i64 0, .int .i64 0, .int .i64 0, .int .i64 0, .int .i64 0, .int .i64 0, .int .i64 0, .int .i64 0, .int .i64 0, .int .i64 0, .int .i64 0, .int .i64 0, .bool false, .bool false]⟩),
  (39, ⟨.struct [(0, 3), (1, 3), (2, 3), (3, 37)], 16, 0, T_Trigger, [.int .i64 0, .int .i64 0, .int .i64 0, .int .i64 0, .int .i64 0, .int .i64 0, .int .i64 0, .int .i64 0, .int .i64 0, .int .i64 0, .int .i64 0, .int .i64 0, .int .i64 0, .int .i64 0, .bool false, .bool false]⟩),
  (40, ⟨.slice 3, 1, 0, (.slice (.int .i64)), [.nil]⟩),
  (42, ⟨.other, 1, 0, .unit, [.undef]⟩),
  (44, ⟨.other, 1, 0, .unit, [.undef]⟩),
  (45, ⟨.other, 1, 0, .unit, [.undef]⟩),
  (47, ⟨.other, 1, 0, .unit, [.undef]⟩),
  (49, ⟨.other, 1, 0, .unit, [.undef]⟩),
  (50, ⟨.other, 1, 0, .unit, [.undef]⟩),
  (51, ⟨.other, 1, 0, .unit, [.undef]⟩),
  (52, ⟨.slice 170, 1, 0, (.slice T_Piece), [.nil]⟩),
  (53, ⟨.slice 241, 1, 0, (.slice T_Side), [.nil]⟩),
  (54, ⟨.struct [(0, 52), (1, 53), (2, 3), (3, 3)], 4, 0, T_State, [.nil, .nil, .int .i64 0, .int .i64 0]⟩),
  (55, ⟨.struct [(0, 52), (1, 53), (2, 3), (3, 3)], 4, 0, T_State, [.nil, .nil, .int .i64 0, .int .i64 0]⟩),
  (56, ⟨.slice 172, 1, 0, (.slice T_Trigger), [.nil]⟩),
  (57, ⟨.other, 1, 0, .unit, [.undef]⟩),
  (58, ⟨.other, 1, 0, .unit, [.undef]⟩),
  (59, ⟨.other, 1, 0, .unit, [.undef]⟩),
  (60, ⟨.other, 1, 0, .unit, [.undef]⟩),
  (61, ⟨.other, 1, 0, .unit, [.undef]⟩),
  (62, ⟨.other, 1, 0, .unit, [.undef]⟩),
  (63, ⟨.other, 1, 0, .unit, [.undef]⟩),
  (64, ⟨.other, 1, 0, .unit, [.undef]⟩),
  (65, ⟨.other, 1, 0, .unit, [.undef]⟩),
  (66, ⟨.other, 1, 0, .unit, [.undef]⟩),
  (67, ⟨.slice 183, 1, 0, (.slice T_Event), [.nil]⟩),
  (68, ⟨.other, 1, 0, .unit, [.undef]⟩),
  (69, ⟨.other, 1, 0, .unit, [.undef]⟩),
  (70, ⟨.slice 86, 1, 0, (.slice T_Event), [.nil]⟩),
  (71, ⟨.other, 1, 0, .unit, [.undef]⟩),
  (72, ⟨.other, 1, 0, .unit, [.undef]⟩),
  (73, ⟨.other, 1, 0, .unit, [.undef]⟩),
  (74, ⟨.other, 1, 0, .unit, [.undef]⟩),
  (75, ⟨.other, 1, 0, .unit, [.undef]⟩),
  (76, ⟨.other, 1, 0, .unit, [.undef]⟩),
  (78, ⟨.other, 1, 0, .unit, [.undef]⟩),
  (80, ⟨.other, 1, 0, .unit, [.undef]⟩),
  (82, ⟨.other, 1, 0, .unit, [.undef]⟩),
  (83, ⟨.other, 1, 0, .unit, [.undef]⟩),
  (84, ⟨.other, 1, 0, .unit, [.undef]⟩),
  (85, ⟨.struct [(0, 3), (1, 3), (2, 3), (3, 3), (4, 3), (5, 3), (6, 4)], 7, 0, T_Event, [.int .i64 0, .int .i64 0, .int .i64 0, .int .i64 0, .int .i64 0, .int .i64 0, .bool false]⟩),
  (86, ⟨.struct [(0, 3), (1, 3), (2, 3), (3, 3), (4, 3), (5, 3), (6, 4)], 7, 0, T_Event, [.int .i64 0, .int .i64 0, .int .i64 0, .int .i64 0, .int .i64 0, .int .i64 0, .bool false]⟩),
  (87, ⟨.struct [(0, 3), (1, 86), (8, 3), (9, 3), (10, 37)], 23, 0, T_Note, [.int .i64 0, .int .i64 0, .int .i64 0, .int .i64 0, .int .i64 0, .int .i64 0, .int .i64 0, .bool false, .int .i64 0, .int .i64 0, .int .i64 0, .int .i64 0, .int .i64 0, .int .i64 0, .int .i64 0, .int .i64 0, .int .i64 0, .int .i64 0, .int .i64 0, .int .i64 0, .int .i64 0, .bool false, .bool false]⟩),
  (88, ⟨.struct [(0, 3), (1, 86), (8, 3), (9, 3), (10, 37)], 23, 0, T_Note, [.int .i64 0, .int .i64 0, .int .i64 0, .int .i64 0, .int .i64 0, .int .i64 0, .int .i64 0, .bool false, .int .i64 0, .int .i64 0, .int .i64 0, .int .i64 0, .int .i64 0, .int .i64 0, .int .i64 0, .int .i64 0, .int .i64 0, .int .i64 0, .int .i64 0, .int .i64 0, .int .i64 0, .bool false, .bool false]⟩),
  (89, ⟨.other, 1, 0, .unit, [.undef]⟩),
  (90, ⟨.other, 1, 0, .unit, [.undef]⟩),
  (91, ⟨.other, 1, 0, .unit, [.undef]⟩),
  (92, ⟨.other, 1, 0, .unit, [.undef]⟩),
  (93, ⟨.other, 1, 0, .unit, [.undef]⟩),
  (94, ⟨.other, 1, 0, .unit, [.undef]⟩),
  (95, ⟨.other, 1, 0, .unit, [.undef]⟩),
  (97, ⟨.other, 1, 0, .unit, [.undef]⟩),
  (98, ⟨.other, 1, 0, .unit, [.undef]⟩),
  (99, ⟨.other, 1, 0, .unit, [.undef]⟩),
  (100, ⟨.struct [(0, 3), (1, 3), (2, 4)], 3, 0, T_Side, [.int .i64 0, .int .i64 0, .bool false]⟩),
  (101, ⟨.struct [(0, 3), (1, 3), (2, 4)], 3, 0, T_Side, [.int .i64 0, .int .i64 0, .bool false]⟩),
  (102, ⟨.other, 1, 0, .unit, [.undef]⟩),
  (103, ⟨.slice 217, 1, 0, (.slice T_Effect), [.nil]⟩),
  (104, ⟨.slice 256, 1, 0, (.slice T_Turn), [.nil]⟩),
  (105, ⟨.struct [(0, 67), (1, 103), (2, 40), (3, 104)], 4, 0, T_Fate, [.nil, .nil, .nil, .nil]⟩),
  (106, ⟨.struct [(0, 67), (1, 103), (2, 40), (3, 104)], 4, 0, T_Fate, [.nil, .nil, .nil, .nil]⟩),
  (107, ⟨.other, 1, 0, .unit, [.undef]⟩),
  (108, ⟨.other, 1, 0, .unit, [.undef]⟩),
  (109, ⟨.slice 136, 1, 0, (.slice T_Effect), [.nil]⟩),
  (110, ⟨.slice 210, 1, 0, (.slice T_Turn), [.nil]⟩),
  (111, ⟨.struct [(0, 70), (1, 109), (2, 40), (3, 110)], 4, 0, T_Fate, [.nil, .nil, .nil, .nil]⟩),
  (112, ⟨.struct [(0, 70), (1, 109), (2, 40), (3, 110)], 4, 0, T_Fate, [.nil, .nil, .nil, .nil]⟩),
  (113, ⟨.other, 1, 0, .unit, [.undef]⟩),
  (114, ⟨.other, 1, 0, .unit, [.undef]⟩),
  (115, ⟨.other, 1, 0, .unit, [.undef]⟩),
  (116, ⟨.other, 1, 0, .unit, [.undef]⟩),
  (117, ⟨.other, 1, 0, .unit, [.undef]⟩),
  (118, ⟨.other, 1, 0, .unit, [.undef]⟩),
  (119, ⟨.other, 1, 0, .unit, [.undef]⟩),
  (120, ⟨.struct [(0, 27), (4, 109), (5, 40), (6, 31), (7, 28), (8, 110)], 9, 0, T_Game, [.nil, .nil, .int .i64 0, .int .i64 0, .nil, .nil, .nil, .nil, .nil]⟩),
  (121, ⟨.struct [(0, 27), (4, 109), (5, 40), (6, 31), (7, 28), (8, 110)], 9, 0, T_Game, [.nil, .nil, .int .i64 0, .int .i64 0, .nil, .nil, .nil, .nil, .nil]⟩),
  (122, ⟨.other, 1, 0, .unit, [.undef]⟩),
  (123, ⟨.other, 1, 0, .unit, [.undef]⟩),
  (124, ⟨.other, 1, 0, .unit, [.undef]⟩),
  (125, ⟨.other, 1, 0, .unit, [.undef]⟩),
  (126, ⟨.other, 1, 0, .unit, [.undef]⟩),
  (127, ⟨.other, 1, 0, .unit, [.undef]⟩),
  (128, ⟨.other, 1, 0, .unit, [.undef]⟩),
  (129, ⟨.struct [(0, 3), (1, 3), (2, 3), (3, 3), (4, 3), (5, 3), (6, 3)], 7, 0, T_Pat, [.int .i64 0, .int .i64 0, .int .i64 0, .int .i64 0, .int .i64 0, .int .i64 0, .int .i64 0]⟩),
  (130, ⟨.struct [(0, 3), (1, 3), (2, 3), (3, 3), (4, 3), (5, 3), (6, 3)], 7, 0, T_Pat, [.int .i64 0, .int .i64 0, .int .i64 0, .int .i64 0, .int .i64 0, .int .i64 0, .int .i64 0]⟩),
  (131, ⟨.struct [(0, 3), (1, 3)], 2, 0, T_Guard, [.int .i64 0, .int .i64 0]⟩),
  (132, ⟨.struct [(0, 3), (1, 3)], 2, 0, T_Guard, [.int .i64 0, .int .i64 0]⟩),
  (133, ⟨.struct [(0, 3), (1, 3), (2, 3), (3, 3), (4, 3), (5, 4), (6, 70)], 7, 0, T_Act, [.int .i64 0, .int .i64 0, .int .i64 0, .int .i64 0, .int .i64 0, .bool false, .nil]⟩),
  (134, ⟨.struct [(0, 3), (1, 3), (2, 3), (3, 3), (4, 3), (5, 4), (6, 70)], 7, 0, T_Act, [.int .i64 0, .int .i64 0, .int .i64 0, .int .i64 0, .int .i64 0, .bool false, .nil]⟩),
  (135, ⟨.struct [(0, 3), (1, 3), (2, 3), (3, 3), (4, 130), (11, 132), (13, 134), (20, 3), (21, 3)], 22, 0, T_Effect, [.int .i64 0, .int .i64 0, .int .i64 0, .int .i64 0, .int .i64 0, .int .i64 0, .int .i64 0, .int .i64 0, .int .i64 0, .int .i64 0, .int .i64 0, .int .i64 0, .int .i64 0, .int .i64 0, .int .i64 0, .int .i64 0, .int .i64 0, .int .i64 0, .bool false, .nil, .int .i64 0, .int .i64 0]⟩),
  (136, ⟨.struct [(0, 3), (1, 3), (2, 3), (3, 3), (4, 130), (11, 132), (13, 134), (20, 3), (21, 3)], 22, 0, T_Effect, [.int .i64 0, .int .i64 0, .int .i64 0, .int .i64 0, .int .i64 0, .int .i64 0, .int .i64 0, .int .i64 0, .int .i64 0, .int .i64 0, .int .i64 0, .int .i64 0, .int .i64 0, .int .i64 0, .int .i64 0, .int .i64 0, .int .i64 0, .int .i64 0, .bool false, .nil, .int .i64 0, .int .i64 0]⟩),
  (138, ⟨.other, 1, 0, .unit, [.undef]⟩),
  (140, ⟨.other, 1, 0, .unit, [.undef]⟩),
  (141, ⟨.other, 1, 0, .unit, [.undef]⟩),
  (142, ⟨.other, 1, 0, .unit, [.undef]⟩),
  (143, ⟨.other, 1, 0, .unit, [.undef]⟩),
  (144, ⟨.other, 1, 0, .unit, [.undef]⟩),
  (145, ⟨.other, 1, 0, .unit, [.undef]⟩),
  (146, ⟨.other, 1, 0, .unit, [.undef]⟩),
  (147, ⟨.other, 1, 0, .unit, [.undef]⟩),
  (148, ⟨.other, 1, 0, .unit, [.undef]⟩),
  (149, ⟨.other, 1, 0, .unit, [.undef]⟩),
  (150, ⟨.other, 1, 0, .unit, [.undef]⟩),
  (151, ⟨.other, 1, 0, .unit, [.undef]⟩),
  (152, ⟨.other, 1, 0, .unit, [.undef]⟩),
  (154, ⟨.other, 1, 0, .unit, [.undef]⟩),
  (155, ⟨.other, 1, 0, .unit, [.undef]⟩),
  (156, ⟨.other, 1, 0, .unit, [.undef]⟩),
  (157, ⟨.other, 1, 0, .unit, [.undef]⟩),
  (158, ⟨.other, 1, 0, .unit, [.undef]⟩),
  (160, ⟨.other, 1, 0, .unit, [.undef]⟩),
  (161, ⟨.other, 1, 0, .unit, [.undef]⟩),
  (162, ⟨.other, 1, 0, .unit, [.undef]⟩),
  (163, ⟨.other, 1, 0, .unit, [.undef]⟩),
  (164, ⟨.other, 1, 0, .unit, [.undef]⟩),
  (165, ⟨.other, 1, 0, .unit, [.undef]⟩),
  (166, ⟨.other, 1, 0, .unit, [.undef]⟩),
  (167, ⟨.other, 1, 0, .unit, [.undef]⟩),
  (168, ⟨.other, 1, 0, .unit, [.undef]⟩),
  (169, ⟨.other, 1, 0, .unit, [.undef]⟩),
  (170, ⟨.struct [(0, 3), (1, 3), (2, 3), (3, 3), (4, 3), (5, 3), (6, 3), (7, 3), (8, 3), (9, 3), (10, 3), (11, 4), (12, 4)], 13, 0, T_Piece, [.int .i64 0, .int .i64 0, .int .i64 0, .int .i64 0, .int .i64 0, .int .i64 0, .int .i64 0, .int .i64 0, .int .i64 0, .int .i64 0, .int .i64 0, .bool false, .bool false]⟩),
  (171, ⟨.struct [(0, 3), (1, 3), (2, 3), (3, 170)], 16, 0, T_Trigger, [.int .i64 0, .int .i64 0, .int .i64 0, .int .i64 0, .int .i64 0, .int .i64 0, .int .i64 0, .int .i64 0, .int .i64 0, .int .i64 0, .int .i64 0, .int .i64 0, .int .i64 0, .int .i64 0, .bool false, .bool false]⟩),
  (172, ⟨.struct [(0, 3), (1, 3), (2, 3), (3, 170)], 16, 0, T_Trigger, [.int .i64 0, .int .i64 0, .int .i64 0, .int .i64 0, .int .i64 0, .int .i64 0, .int .i64 0, .int .i64 0, .int .i64 0, .int .i64 0, .int .i64 0, .int .i64 0, .int .i64 0, .int .i64 0, .bool false, .bool false]⟩),
  (173, ⟨.other, 1, 0, .unit, [.undef]⟩),
  (174, ⟨.other, 1, 0, .unit, [.undef]⟩),
  (175, ⟨.other, 1, 0, .unit, [.undef]⟩),
  (176, ⟨.other, 1, 0, .unit, [.undef]⟩),
  (177, ⟨.other, 1, 0, .unit, [.undef]⟩),
  (179, ⟨.other, 1, 0, .unit, [.undef]⟩),
  (181, ⟨.other, 1, 0, .unit, [.undef]⟩),
  (182, ⟨.other, 1, 0, .unit, [.undef]⟩),
  (183, ⟨.struct [(0, 3), (1, 3), (2, 3), (3, 3), (4, 3), (5, 3), (6, 4)], 7, 0, T_Event, [.int .i64 0, .int .i64 0, .int .i64 0, .int .i64 0, .int .i64 0, .int .i64 0, .bool false]⟩),
  (184, ⟨.other, 1, 0, .unit, [.undef]⟩),
  (185, ⟨.other, 1, 0, .unit, [.undef]⟩),
  (186, ⟨.other, 1, 0, .unit, [.undef]⟩),
  (187, ⟨.other, 1, 0, .unit, [.undef]⟩),
  (188, ⟨.other, 1, 0, .unit, [.undef]⟩),
  (189, ⟨.other, 1, 0, .unit, [.undef]⟩),
  (190, ⟨.other, 1, 0, .unit, [.undef]⟩),
  (191, ⟨.other, 1, 0, .unit, [.undef]⟩),
  (192, ⟨.other, 1, 0, .unit, [.undef]⟩),
  (193, ⟨.other, 1, 0, .unit, [.undef]⟩),
  (194, ⟨.other, 1, 0, .unit, [.undef]⟩),
  (195, ⟨.other, 1, 0, .unit, [.undef]⟩),
  (196, ⟨.other, 1, 0, .unit, [.undef]⟩),
  (197, ⟨.other, 1, 0, .unit, [.undef]⟩),
  (198, ⟨.other, 1, 0, .unit, [.undef]⟩),
  (199, ⟨.other, 1, 0, .unit, [.undef]⟩),
  (200, ⟨.other, 1, 0, .unit, [.undef]⟩),
  (201, ⟨.other, 1, 0, .unit, [.undef]⟩),
  (202, ⟨.other, 1, 0, .unit, [.undef]⟩),
  (203, ⟨.other, 1, 0, .unit, [.undef]⟩),
  (204, ⟨.other, 1, 0, .unit, [.undef]⟩),
  (205, ⟨.other, 1, 0, .unit, [.undef]⟩),
  (206, ⟨.other, 1, 0, .unit, [.undef]⟩),
  (207, ⟨.other, 1, 0, .unit, [.undef]⟩),
  (208, ⟨.other, 1, 0, .unit, [.undef]⟩),
  (209, ⟨.struct [(0, 3), (1, 3), (2, 3), (3, 3), (4, 86), (11, 70), (12, 3), (13, 3)], 14, 0, T_Turn, [.int .i64 0, .int .i64 0, .int .i64 0, .int .i64 0, .int .i64 0, .int .i64 0, .int .i64 0, .int .i64 0, .int .i64 0, .int .i64 0, .bool false, .nil, .int .i64 0, .int .i64 0]⟩),
  (210, ⟨.struct [(0, 3), (1, 3), (2, 3), (3, 3), (4, 86), (11, 70), (12, 3), (13, 3)], 14, 0, T_Turn, [.int .i64 0, .int .i64 0, .int .i64 0, .int .i64 0, .int .i64 0, .int .i64 0, .int .i64 0, .int .i64 0, .int .i64 0, .int .i64 0, .bool false, .nil, .int .i64 0, .int .i64 0]⟩),
  (211, ⟨.other, 1, 0, .unit, [.undef]⟩),
  (212, ⟨.struct [(0, 3), (1, 3), (2, 3), (3, 3), (4, 3), (5, 3), (6, 3)], 7, 0, T_Pat, [.int .i64 0, .int .i64 0, .int .i64 0, .int .i64 0, .int .i64 0, .int .i64 0, .int .i64 0]⟩),
  (213, ⟨.struct [(0, 3), (1, 3)], 2, 0, T_Guard, [.int .i64 0, .int .i64 0]⟩),
  (214, ⟨.struct [(0, 3), (1, 3), (2, 3), (3, 3), (4, 3), (5, 4), (6, 67)], 7, 0, T_Act, [.int .i64 0, .int .i64 0, .int .i64 0, .int .i64 0, .int .i64 0, .bool false, .nil]⟩),
  (215, ⟨.struct [(0, 3), (1, 3), (2, 3), (3, 3), (4, 3), (5, 4), (6, 67)], 7, 0, T_Act, [.int .i64 0, .int .i64 0, .int .i64 0, .int .i64 0, .int .i64 0, .bool false, .nil]⟩),
  (216, ⟨.struct [(0, 3), (1, 3), (2, 3), (3, 3), (4, 212), (11, 213), (13, 215), (20, 3), (21, 3)], 22, 0, T_Effect, [.int .i64 0, .int .i64 0, .int .i64 0, .int .i64 0, .int .i64 0, .int .i64 0, .int .i64 0, .int .i64 0, .int .i64 0, .int .i64 0, .int .i64 0, .int .i64 0, .int .i64 0, .int .i64 0, .int .i64 0, .int .i64 0, .int .i64 0, .int .i64 0, .bool false, .nil, .int .i64 0, .int .i64 0]⟩),
  (217, ⟨.struct [(0, 3), (1, 3), (2, 3), (3, 3), (4, 212), (11, 213), (13, 215), (20, 3), (21, 3)], 22, 0, T_Effect, [.int .i64 0, .int .i64 0, .int .i64 0, .int .i64 0, .int .i64 0, .int .i64 0, .int .i64 0, .int .i64 0, .int .i64 0, .int .i64 0, .int .i64 0, .int .i64 0, .int .i64 0, .int .i64 0, .int .i64 0, .int .i64 0, .int .i64 0, .int .i64 0, .bool false, .nil, .int .i64 0, .int .i64 0]⟩),
  (218, ⟨.other, 1, 0, .unit, [.undef]⟩),
  (219, ⟨.other, 1, 0, .unit, [.undef]⟩),
  (220, ⟨.other, 1, 0, .unit, [.undef]⟩),
  (222, ⟨.other, 1, 0, .unit, [.undef]⟩),
  (223, ⟨.other, 1, 0, .unit, [.undef]⟩),
  (224, ⟨.other, 1, 0, .unit, [.undef]⟩),
  (225, ⟨.other, 1, 0, .unit, [.undef]⟩),
  (226, ⟨.other, 1, 0, .unit, [.undef]⟩),
  (227, ⟨.other, 1, 0, .unit, [.undef]⟩),
  (228, ⟨.other, 1, 0, .unit, [.undef]⟩),
  (229, ⟨.other, 1, 0, .unit, [.undef]⟩),
  (230, ⟨.other, 1, 0, .unit, [.undef]⟩),
  (231, ⟨.struct [(0, 22), (1, 3), (2, 3)], 3, 0, T_S231, [.nil, .int .i64 0, .int .i64 0]⟩),
  (232, ⟨.struct [(0, 22), (1, 3), (2, 3)], 3, 0, T_S231, [.nil, .int .i64 0, .int .i64 0]⟩),
  (233, ⟨.other, 1, 0, .unit, [.undef]⟩),
  (234, ⟨.other, 1, 0, .unit, [.undef]⟩),
  (235, ⟨.other, 1, 0, .unit, [.undef]⟩),
  (236, ⟨.other, 1, 0, .unit, [.undef]⟩),
  (237, ⟨.other, 1, 0, .unit, [.undef]⟩),
  (238, ⟨.other, 1, 0, .unit, [.undef]⟩),
  (239, ⟨.other, 1, 0, .unit, [.undef]⟩),
  (240, ⟨.other, 1, 0, .unit, [.undef]⟩),
  (241, ⟨.struct [(0, 3), (1, 3), (2, 4)], 3, 0, T_Side, [.int .i64 0, .int .i64 0, .bool false]⟩),
  (242, ⟨.other, 1, 0, .unit, [.undef]⟩),
  (243, ⟨.other, 1, 0, .unit, [.undef]⟩),
  (245, ⟨.other, 1, 0, .unit, [.undef]⟩),
  (246, ⟨.other, 1, 0, .unit, [.undef]⟩),
  (247, ⟨.other, 1, 0, .unit, [.undef]⟩),
  (248, ⟨.other, 1, 0, .unit, [.undef]⟩),
  (249, ⟨.other, 1, 0, .unit, [.undef]⟩),
  (250, ⟨.other, 1, 0, .unit, [.undef]⟩),
  (251, ⟨.other, 1, 0, .unit, [.undef]⟩),
  (252, ⟨.other, 1, 0, .unit, [.undef]⟩),
  (253, ⟨.other, 1, 0, .unit, [.undef]⟩),
  (254, ⟨.other, 1, 0, .unit, [.undef]⟩),
  (255, ⟨.struct [(0, 3), (1, 3), (2, 3), (3, 3), (4, 183), (11, 67), (12, 3), (13, 3)], 14, 0, T_Turn, [.int .i64 0, .int .i64 0, .int .i64 0, .int .i64 0, .int .i64 0, .int .i64 0, .int .i64 0, .int .i64 0, .int .i64 0, .int .i64 0, .bool false, .nil, .int .i64 0, .int .i64 0]⟩),
  (256, ⟨.struct [(0, 3), (1, 3), (2, 3), (3, 3), (4, 183), (11, 67), (12, 3), (13, 3)], 14, 0, T_Turn, [.int .i64 0, .int .i64 0, .int .i64 0, .int .i64 0, .int .i64 0, .int .i64 0, .int .i64 0, .int .i64 0, .int .i64 0, .int .i64 0, .bool false, .nil, .int .i64 0, .int .i64 0]⟩),
  (257, ⟨.other, 1, 0, .unit, [.undef]⟩),
  (258, ⟨.other, 1, 0, .unit, [.undef]⟩),
  (259, ⟨.slice 70, 1, 0, (.slice (.slice T_Event)), [.nil]⟩),
  (260, ⟨.other, 1, 0, .unit, [.undef]⟩),
  (261, ⟨.slice 110, 1, 0, (.slice (.slice T_Turn)), [.nil]⟩),
  (262, ⟨.other, 1, 0, .unit, [.undef]⟩),
  (263, ⟨.other, 1, 0, .unit, [.undef]⟩),
  (264, ⟨.other, 1, 0, .unit, [.undef]⟩),
  (265, ⟨.other, 1, 0, .unit, [.undef]⟩),
  (266, ⟨.other, 1, 0, .unit, [.undef]⟩),
  (267, ⟨.other, 1, 0, .unit, [.undef]⟩),
  (268, ⟨.other, 1, 0, .unit, [.undef]⟩),
  (269, ⟨.other, 1, 0, .unit, [.undef]⟩),
  (270, ⟨.other, 1, 0, .unit, [.undef]⟩),
  (271, ⟨.other, 1, 0, .unit, [.undef]⟩),
  (272, ⟨.other, 1, 0, .unit, [.undef]⟩),
  (273, ⟨.other, 1, 0, .unit, [.undef]⟩),
  (274, ⟨.other, 1, 0, .unit, [.undef]⟩),
  (275, ⟨.other, 1, 0, .unit, [.undef]⟩),
  (276, ⟨.int .u64, 1, 0, (.int .u64), [.int .u64 0]⟩),
  (277, ⟨.other, 1, 0, .unit, [.undef]⟩),
  (278, ⟨.other, 1, 0, .unit, [.undef]⟩),
  (279, ⟨.other, 1, 0, .unit, [.undef]⟩),
  (280, ⟨.other, 1, 0, .unit, [.undef]⟩),
  (281, ⟨.other, 1, 0, .unit, [.undef]⟩),
  (282, ⟨.other, 1, 0, .unit, [.undef]⟩),
  (283, ⟨.other, 1, 0, .unit, [.undef]⟩),
  (284, ⟨.int .i64, 1, 0, (.int .i64), [.int .i64 0]⟩),
  (286, ⟨.other, 1, 0, .unit, [.undef]⟩),
  (287, ⟨.other, 1, 0, .unit, [.undef]⟩),
  (288, ⟨.other, 1, 0, .unit, [.undef]⟩),
  (289, ⟨.other, 1, 0, .unit, [.undef]⟩),
  (291, ⟨.other, 1, 0, .unit, [.undef]⟩),
  (292, ⟨.other, 1, 0, .unit, [.undef]⟩),
  (293, ⟨.int .u32, 1, 0, (.int .u32), [.int .u32 0]⟩),
  (294, ⟨.other, 1, 0, .unit, [.undef]⟩),
  (295, ⟨.int .u64, 1, 0, (.int .u64), [.int .u64 0]⟩),
  (296, ⟨.int .u64, 1, 0, (.int .u64), [.int .u64 0]⟩),
  (297, ⟨.other, 1, 0, .unit, [.undef]⟩),
  (298, ⟨.other, 1, 0, .unit, [.undef]⟩),
  (299, ⟨.other, 1, 0, .unit, [.undef]⟩),
  (300, ⟨.other, 1, 0, .unit, [.undef]⟩),
  (301, ⟨.other, 1, 0, .unit, [.undef]⟩),
  (302, ⟨.other, 1, 0, .unit, [.undef]⟩),
  (304, ⟨.other, 1, 0, .unit, [.undef]⟩),
  (305, ⟨.other, 1, 0, .unit, [.undef]⟩),
  (311, ⟨.other, 1, 0, .unit, [.undef]⟩),
  (312, ⟨.int .u8, 1, 0, (.int .u8), [.int .u8 0]⟩),
  (313, ⟨.int .u8, 1, 0, (.int .u8), [.int .u8 0]⟩),
  (314, ⟨.other, 1, 0, .unit, [.undef]⟩),
  (315, ⟨.other, 1, 0, .unit, [.undef]⟩),
  (316, ⟨.int .i32, 1, 0, (.int .i32), [.int .i32 0]⟩),
  (317, ⟨.int .i32, 1, 0, (.int .i32), [.int .i32 0]⟩)]
theorem tabOk : TabOk Try.prog tab := tabB_ok (by kernel_rfl)
theorem mixed : Try.prog.follows .mixedOrders = true := by kernel_rfl
/-! loop.example/g00486/laws.szEventS -/
def laws_szEventS (a0 : (List T_Event.D)) (a1 : Int) : Option Int :=
 bif decide ((IntKind.wrap .i64 (a1 - (a0.length : Int))) < 0) then (
 some (-1))
 else (
 some (IntKind.wrap .i64 (a1 - (a0.length : Int))))
def laws_szEventS_c : Ct := .pure true false (.pair (.slice T_Event) (.pair (.int .i64) .unit)) (.int .i64) (fun x => laws_szEventS x.1 x.2.1)
theorem laws_szEventS_ct : CtOk Try.prog 46 laws_szEventS_c := pure_ct (E := { T := tab, G := [] }) (EnvOk.nil tabOk) mixed (fn := Try.f46) _ _ _ _ _ .none Try.func46 (by kernel_rfl) (fun x => by kernel_rfl)
/-! loop.example/g00486/laws.szAct -/
def laws_szAct (a0 : T_Act.D) (a1 : Int) : Option Int :=
(laws_szEventS a0.2.2.2.2.2.2.1 a1).bind fun y1 =>
 bif decide (y1 < 0) then (
 some (-1))
 else (
 some y1)
def laws_szAct_c : Ct := .pure true false (.pair T_Act (.pair (.int .i64) .unit)) (.int .i64) (fun x => laws_szAct x.1 x.2.1)
theorem laws_szAct_ct : CtOk Try.prog 272 laws_szAct_c := pure_ct (E := { T := tab, G := [(46, laws_szEventS_c)] }) (EnvOk.cons laws_szEventS_ct (EnvOk.nil tabOk)) mixed (fn := Try.f272) _ _ _ _ _ .none Try.func272 (by kernel_rfl) (fun x => by kernel_rfl)
/-! loop.example/g00486/laws.szEffect -/
def laws_szEffect (a0 : T_Effect.D) (a1 : Int) : Option Int :=
(laws_szAct a0.2.2.2.2.2.2.1 a1).bind fun y1 =>
 bif decide (y1 < 0) then (
 some (-1))
 else (
 some y1)
def laws_szEffect_c : Ct := .pure true false (.pair T_Effect (.pair (.int .i64) .unit)) (.int .i64) (fun x => laws_szEffect x.1 x.2.1)
theorem laws_szEffect_ct : CtOk Try.prog 209 laws_szEffect_c := pure_ct (E := { T := tab, G := [(272, laws_szAct_c)] }) (EnvOk.cons laws_szAct_ct (EnvOk.nil tabOk)) mixed (fn := Try.f209) _ _ _ _ _ .none Try.func209 (by kernel_rfl) (fun x => by kernel_rfl)
/-! loop.example/g00486/laws.szEffectS -/
def laws_szEffectS_l1 (a0 : (List T_Effect.D)) : (Int × Int) → Option ((Int × Int) ⊕ ((Int × Int) ⊕ Int)) := fun s1 =>
 bif decide (s1.2 < (a0.length : Int)) then (
 idx a0 s1.2 fun x2 =>
(laws_szEffect x2 s1.1).bind fun y3 =>
 bif decide (y3 < 0) then (
 some (.inr (.inr (-1))))
 else (
 some (.inl (y3, IntKind.wrap .i64 (s1.2 + 1)))))
 else (
 some (.inr (.inl s1)))
def laws_szEffectS (a0 : (List T_Effect.D)) (a1 : Int) : Option Int :=
 bif decide ((IntKind.wrap .i64 (a1 - (a0.length : Int))) < 0) then (
 some (-1))
 else (
(while_ (laws_szEffectS_l1 a0) (IntKind.wrap .i64 (a1 - (a0.length : Int)), 0)).bind fun o4 =>
 match o4 with
| .inl s5 => (
 some s5.1)
| .inr o6 => (
 some o6))
def laws_szEffectS_h : Hints := (.node none none .none (.node none none .none (.node none none .none (.node none none (.node none none .none (.node none none (.node none (some ⟨[.tmp 1 (.int .i64), .tmp 5 (.int .i64)], [some 0], some [.tmp 4 (.int .i64)], []⟩) .none .none) .none)) .none))))
def laws_szEffectS_c : Ct := .pure true false (.pair (.slice T_Effect) (.pair (.int .i64) .unit)) (.int .i64) (fun x => laws_szEffectS x.1 x.2.1)
theorem laws_szEffectS_ct : CtOk Try.prog 96 laws_szEffectS_c := pure_ct (E := { T := tab, G := [(209, laws_szEffect_c)] }) (EnvOk.cons laws_szEffect_ct (EnvOk.nil tabOk)) mixed (fn := Try.f96) _ _ _ _ _ laws_szEffectS_h Try.func96 (by kernel_rfl) (fun x => by kernel_rfl)
/-! loop.example/g00486/laws.szIntS -/
def laws_szIntS (a0 : (List Int)) (a1 : Int) : Option Int :=
 bif decide ((IntKind.wrap .i64 (a1 - (a0.length : Int))) < 0) then (
 some (-1))
 else (
 some (IntKind.wrap .i64 (a1 - (a0.length : Int))))
def laws_szIntS_c : Ct := .pure true false (.pair (.slice (.int .i64)) (.pair (.int .i64) .unit)) (.int .i64) (fun x => laws_szIntS x.1 x.2.1)
theorem laws_szIntS_ct : CtOk Try.prog 196 laws_szIntS_c := pure_ct (E := { T := tab, G := [] }) (EnvOk.nil tabOk) mixed (fn := Try.f196) _ _ _ _ _ .none Try.func196 (by kernel_rfl) (fun x => by kernel_rfl)
/-! loop.example/g00486/laws.szTurn -/
def laws_szTurn (a0 : T_Turn.D) (a1 : Int) : Option Int :=
(laws_szEventS a0.2.2.2.2.2.1 a1).bind fun y1 =>
 bif decide (y1 < 0) then (
 some (-1))
 else (
 some y1)
def laws_szTurn_c : Ct := .pure true false (.pair T_Turn (.pair (.int .i64) .unit)) (.int .i64) (fun x => laws_szTurn x.1 x.2.1)
theorem laws_szTurn_ct : CtOk Try.prog 266 laws_szTurn_c := pure_ct (E := { T := tab, G := [(46, laws_szEventS_c)] }) (EnvOk.cons laws_szEventS_ct (EnvOk.nil tabOk)) mixed (fn := Try.f266) _ _ _ _ _ .none Try.func266 (by kernel_rfl) (fun x => by kernel_rfl)
/-! loop.example/g00486/laws.szTurnS -/
def laws_szTurnS_l1 (a0 : (List T_Turn.D)) : (Int × Int) → Option ((Int × Int) ⊕ ((Int × Int) ⊕ Int)) := fun s1 =>
 bif decide (s1.2 < (a0.length : Int)) then (
 idx a0 s1.2 fun x2 =>
(laws_szTurn x2 s1.1).bind fun y3 =>
 bif decide (y3 < 0) then (
 some (.inr (.inr (-1))))
 else (
 some (.inl (y3, IntKind.wrap .i64 (s1.2 + 1)))))
 else (
 some (.inr (.inl s1)))
def laws_szTurnS (a0 : (List T_Turn.D)) (a1 : Int) : Option Int :=
 bif decide ((IntKind.wrap .i64 (a1 - (a0.length : Int))) < 0) then (
 some (-1))
 else (
(while_ (laws_szTurnS_l1 a0) (IntKind.wrap .i64 (a1 - (a0.length : Int)), 0)).bind fun o4 =>
 match o4 with
| .inl s5 => (
 some s5.1)
| .inr o6 => (
 some o6))
def laws_szTurnS_h : Hints := (.node none none .none (.node none none .none (.node none none .none (.node none none (.node none none .none (.node none none (.node none (some ⟨[.tmp 1 (.int .i64), .tmp 5 (.int .i64)], [some 0], some [.tmp 4 (.int .i64)], []⟩) .none .none) .none)) .none))))
def laws_szTurnS_c : Ct := .pure true false (.pair (.slice T_Turn) (.pair (.int .i64) .unit)) (.int .i64) (fun x => laws_szTurnS x.1 x.2.1)
theorem laws_szTurnS_ct : CtOk Try.prog 197 laws_szTurnS_c := pure_ct (E := { T := tab, G := [(266, laws_szTurn_c)] }) (EnvOk.cons laws_szTurn_ct (EnvOk.nil tabOk)) mixed (fn := Try.f197) _ _ _ _ _ laws_szTurnS_h Try.func197 (by kernel_rfl) (fun x => by kernel_rfl)
/-! loop.example/g00486/laws.szFate -/
def laws_szFate (a0 : T_Fate.D) (a1 : Int) : Option Int :=
(laws_szEventS a0.1 a1).bind fun y1 =>
 bif decide (y1 < 0) then (
 some (-1))
 else (
(laws_szEffectS a0.2.1 y1).bind fun y2 =>
 bif decide (y2 < 0) then (
 some (-1))
 else (
(laws_szIntS a0.2.2.1 y2).bind fun y3 =>
 bif decide (y3 < 0) then (
 some (-1))
 else (
(laws_szTurnS a0.2.2.2.1 y3).bind fun y4 =>
 bif decide (y4 < 0) then (
 some (-1))
 else (
 some y4))))
def laws_szFate_c : Ct := .pure true false (.pair T_Fate (.pair (.int .i64) .unit)) (.int .i64) (fun x => laws_szFate x.1 x.2.1)
theorem laws_szFate_ct : CtOk Try.prog 86 laws_szFate_c := pure_ct (E := { T := tab, G := [(46, laws_szEventS_c), (96, laws_szEffectS_c), (196, laws_szIntS_c), (197, laws_szTurnS_c)] }) (EnvOk.cons laws_szEventS_ct (EnvOk.cons laws_szEffectS_ct (EnvOk.cons laws_szIntS_ct (EnvOk.cons laws_szTurnS_ct (EnvOk.nil tabOk))))) mixed (fn := Try.f86) _ _ _ _ _ .none Try.func86 (by kernel_rfl) (fun x => by kernel_rfl)
/-! loop.example/g00486/laws.toEvent -/
def laws_toEvent (a0 : T_Event.D) : Option T_Event.D :=
 some a0
def laws_toEvent_c : Ct := .pure true false (.pair T_Event .unit) T_Event (fun x => laws_toEvent x.1)
theorem laws_toEvent_ct : CtOk Try.prog 155 laws_toEvent_c := pure_ct (E := { T := tab, G := [] }) (EnvOk.nil tabOk) mixed (fn := Try.f155) _ _ _ _ _ .none Try.func155 (by kernel_rfl) (fun x => by kernel_rfl)
/-! loop.example/g00486/laws.toEventS -/
def laws_toEventS_l1 (a0 : (List T_Event.D)) : ((List T_Event.D) × Int) → Option (((List T_Event.D) × Int) ⊕ ((List T_Event.D) × Int)) := fun s2 =>
 bif decide (s2.2 < (a0.length : Int)) then (
 idx a0 s2.2 fun x3 =>
(laws_toEvent x3).bind fun y4 =>
 idx s2.1 s2.2 fun _ =>
(s2.1[(s2.2 : Int).toNat]?).bind fun x5 =>
 let u6 : (List T_Event.D) := s2.1.set (s2.2 : Int).toNat y4
 some (.inl (u6, IntKind.wrap .i64 (s2.2 + 1))))
 else (
 some (.inr s2))
def laws_toEventS (a0 : (List T_Event.D)) : Option (List T_Event.D) :=
 if 0 ≤ (a0.length : Int) then (if ((a0.length : Int)).toNat * (24 * 7) ≤ room then (
(while_ (laws_toEventS_l1 a0) ((List.replicate ((a0.length : Int)).toNat (0, 0, 0, 0, 0, 0, false, ())), 0)).bind fun o7 =>
 some o7.1) else none) else none
def laws_toEventS_h : Hints := (.node none none .none (.node none none .none (.node none none (.node none none .none (.node none none (.node none (some ⟨[.tmpO 3 0 (.slice T_Event), .tmp 4 (.int .i64)], [some 0], none, []⟩) .none .none) .none)) .none)))
def laws_toEventS_c : Ct := .pure true false (.pair (.slice T_Event) .unit) (.slice T_Event) (fun x => laws_toEventS x.1)
theorem laws_toEventS_ct : CtOk Try.prog 48 laws_toEventS_c := pure_ct (E := { T := tab, G := [(155, laws_toEvent_c)] }) (EnvOk.cons laws_toEvent_ct (EnvOk.nil tabOk)) mixed (fn := Try.f48) _ _ _ _ _ laws_toEventS_h Try.func48 (by kernel_rfl) (fun x => by kernel_rfl)
def laws_toEventS_fresh_c : Ct := .pure true true (.pair (.slice T_Event) .unit) (.slice T_Event) (fun x => laws_toEventS x.1)
theorem laws_toEventS_fresh_ct : CtOk Try.prog 48 laws_toEventS_fresh_c := pure_ct (E := { T := tab, G := [(155, laws_toEvent_c)] }) (EnvOk.cons laws_toEvent_ct (EnvOk.nil tabOk)) mixed (fn := Try.f48) _ _ _ _ _ laws_toEventS_h Try.func48 (by kernel_rfl) (fun x => by kernel_rfl)
/-! loop.example/g00486/laws.toPat -/
def laws_toPat (a0 : T_Pat.D) : Option T_Pat.D :=
 some a0
def laws_toPat_c : Ct := .pure true false (.pair T_Pat .unit) T_Pat (fun x => laws_toPat x.1)
theorem laws_toPat_ct : CtOk Try.prog 273 laws_toPat_c := pure_ct (E := { T := tab, G := [] }) (EnvOk.nil tabOk) mixed (fn := Try.f273) _ _ _ _ _ .none Try.func273 (by kernel_rfl) (fun x => by kernel_rfl)
/-! loop.example/g00486/laws.toGuard -/
def laws_toGuard (a0 : T_Guard.D) : Option T_Guard.D :=
 some a0
def laws_toGuard_c : Ct := .pure true false (.pair T_Guard .unit) T_Guard (fun x => laws_toGuard x.1)
theorem laws_toGuard_ct : CtOk Try.prog 274 laws_toGuard_c := pure_ct (E := { T := tab, G := [] }) (EnvOk.nil tabOk) mixed (fn := Try.f274) _ _ _ _ _ .none Try.func274 (by kernel_rfl) (fun x => by kernel_rfl)
/-! loop.example/g00486/laws.toAct -/
def laws_toAct (a0 : T_Act.D) : Option T_Act.D :=
(laws_toEventS a0.2.2.2.2.2.2.1).bind fun y1 =>
 some (a0.1, a0.2.1, a0.2.2.1, a0.2.2.2.1, a0.2.2.2.2.1, a0.2.2.2.2.2.1, y1, ())
def laws_toAct_c : Ct := .pure true false (.pair T_Act .unit) T_Act (fun x => laws_toAct x.1)
theorem laws_toAct_ct : CtOk Try.prog 275 laws_toAct_c := pure_ct (E := { T := tab, G := [(48, laws_toEventS_fresh_c)] }) (EnvOk.cons laws_toEventS_fresh_ct (EnvOk.nil tabOk)) mixed (fn := Try.f275) _ _ _ _ _ .none Try.func275 (by kernel_rfl) (fun x => by kernel_rfl)
def laws_toAct_fresh_c : Ct := .pure true true (.pair T_Act .unit) T_Act (fun x => laws_toAct x.1)
theorem laws_toAct_fresh_ct : CtOk Try.prog 275 laws_toAct_fresh_c := pure_ct (E := { T := tab, G := [(48, laws_toEventS_fresh_c)] }) (EnvOk.cons laws_toEventS_fresh_ct (EnvOk.nil tabOk)) mixed (fn := Try.f275) _ _ _ _ _ .none Try.func275 (by kernel_rfl) (fun x => by kernel_rfl)
/-! loop.example/g00486/laws.toEffect -/
def laws_toEffect (a0 : T_Effect.D) : Option T_Effect.D :=
(laws_toPat a0.2.2.2.2.1).bind fun y1 =>
(laws_toGuard a0.2.2.2.2.2.1).bind fun y2 =>
(laws_toAct a0.2.2.2.2.2.2.1).bind fun y3 =>
 some (a0.1, a0.2.1, a0.2.2.1, a0.2.2.2.1, y1, y2, y3, a0.2.2.2.2.2.2.2)
def laws_toEffect_c : Ct := .pure true false (.pair T_Effect .unit) T_Effect (fun x => laws_toEffect x.1)
theorem laws_toEffect_ct : CtOk Try.prog 211 laws_toEffect_c := pure_ct (E := { T := tab, G := [(273, laws_toPat_c), (274, laws_toGuard_c), (275, laws_toAct_fresh_c)] }) (EnvOk.cons laws_toPat_ct (EnvOk.cons laws_toGuard_ct (EnvOk.cons laws_toAct_fresh_ct (EnvOk.nil tabOk)))) mixed (fn := Try.f211) _ _ _ _ _ .none Try.func211 (by kernel_rfl) (fun x => by kernel_rfl)
def laws_toEffect_fresh_c : Ct := .pure true true (.pair T_Effect .unit) T_Effect (fun x => laws_toEffect x.1)
theorem laws_toEffect_fresh_ct : CtOk Try.prog 211 laws_toEffect_fresh_c := pure_ct (E := { T := tab, G := [(273, laws_toPat_c), (274, laws_toGuard_c), (275, laws_toAct_fresh_c)] }) (EnvOk.cons laws_toPat_ct (EnvOk.cons laws_toGuard_ct (EnvOk.cons laws_toAct_fresh_ct (EnvOk.nil tabOk)))) mixed (fn := Try.f211) _ _ _ _ _ .none Try.func211 (by kernel_rfl) (fun x => by kernel_rfl)
/-! loop.example/g00486/laws.toEffectS -/
def laws_toEffectS_l1 (a0 : (List T_Effect.D)) : ((List T_Effect.D) × Int) → Option (((List T_Effect.D) × Int) ⊕ ((List T_Effect.D) × Int)) := fun s2 =>
 bif decide (s2.2 < (a0.length : Int)) then (
 idx a0 s2.2 fun x3 =>
(laws_toEffect x3).bind fun y4 =>
 idx s2.1 s2.2 fun _ =>
(s2.1[(s2.2 : Int).toNat]?).bind fun x5 =>
 let u6 : (List T_Effect.D) := s2.1.set (s2.2 : Int).toNat y4
 some (.inl (u6, IntKind.wrap .i64 (s2.2 + 1))))
 else (
 some (.inr s2))
def laws_toEffectS (a0 : (List T_Effect.D)) : Option (List T_Effect.D) :=
 if 0 ≤ (a0.length : Int) then (if ((a0.length : Int)).toNat * (24 * 22) ≤ room then (
(while_ (laws_toEffectS_l1 a0) ((List.replicate ((a0.length : Int)).toNat (0, 0, 0, 0, (0, 0, 0, 0, 0, 0, 0, ()), (0, 0, ()), (0, 0, 0, 0, 0, false, [], ()), 0, 0, ())), 0)).bind fun o7 =>
 some o7.1) else none) else none
def laws_toEffectS_h : Hints := (.node none none .none (.node none none .none (.node none none (.node none none .none (.node none none (.node none (some ⟨[.tmpO 3 0 (.slice T_Effect), .tmp 4 (.int .i64)], [some 0], none, []⟩) .none .none) .none)) .none)))
def laws_toEffectS_c : Ct := .pure true false (.pair (.slice T_Effect) .unit) (.slice T_Effect) (fun x => laws_toEffectS x.1)
theorem laws_toEffectS_ct : CtOk Try.prog 98 laws_toEffectS_c := pure_ct (E := { T := tab, G := [(211, laws_toEffect_fresh_c)] }) (EnvOk.cons laws_toEffect_fresh_ct (EnvOk.nil tabOk)) mixed (fn := Try.f98) _ _ _ _ _ laws_toEffectS_h Try.func98 (by kernel_rfl) (fun x => by kernel_rfl)
def laws_toEffectS_fresh_c : Ct := .pure true true (.pair (.slice T_Effect) .unit) (.slice T_Effect) (fun x => laws_toEffectS x.1)
theorem laws_toEffectS_fresh_ct : CtOk Try.prog 98 laws_toEffectS_fresh_c := pure_ct (E := { T := tab, G := [(211, laws_toEffect_fresh_c)] }) (EnvOk.cons laws_toEffect_fresh_ct (EnvOk.nil tabOk)) mixed (fn := Try.f98) _ _ _ _ _ laws_toEffectS_h Try.func98 (by kernel_rfl) (fun x => by kernel_rfl)
/-! loop.example/g00486/laws.toIntS -/
def laws_toIntS_l1 (a0 : (List Int)) : ((List Int) × Int) → Option (((List Int) × Int) ⊕ ((List Int) × Int)) := fun s2 =>
 bif decide (s2.2 < (a0.length : Int)) then (
 idx a0 s2.2 fun x3 =>
 idx s2.1 s2.2 fun _ =>
(s2.1[(s2.2 : Int).toNat]?).bind fun x4 =>
 let u5 : (List Int) := s2.1.set (s2.2 : Int).toNat x3
 some (.inl (u5, IntKind.wrap .i64 (s2.2 + 1))))
 else (
 some (.inr s2))
def laws_toIntS (a0 : (List Int)) : Option (List Int) :=
 if 0 ≤ (a0.length : Int) then (if ((a0.length : Int)).toNat * (24 * 1) ≤ room then (
(while_ (laws_toIntS_l1 a0) ((List.replicate ((a0.length : Int)).toNat 0), 0)).bind fun o6 =>
 some o6.1) else none) else none
def laws_toIntS_h : Hints := (.node none none .none (.node none none .none (.node none none (.node none none .none (.node none none (.node none (some ⟨[.tmpO 3 0 (.slice (.int .i64)), .tmp 4 (.int .i64)], [some 0], none, []⟩) .none .none) .none)) .none)))
def laws_toIntS_c : Ct := .pure true false (.pair (.slice (.int .i64)) .unit) (.slice (.int .i64)) (fun x => laws_toIntS x.1)
theorem laws_toIntS_ct : CtOk Try.prog 37 laws_toIntS_c := pure_ct (E := { T := tab, G := [] }) (EnvOk.nil tabOk) mixed (fn := Try.f37) _ _ _ _ _ laws_toIntS_h Try.func37 (by kernel_rfl) (fun x => by kernel_rfl)
def laws_toIntS_fresh_c : Ct := .pure true true (.pair (.slice (.int .i64)) .unit) (.slice (.int .i64)) (fun x => laws_toIntS x.1)
theorem laws_toIntS_fresh_ct : CtOk Try.prog 37 laws_toIntS_fresh_c := pure_ct (E := { T := tab, G := [] }) (EnvOk.nil tabOk) mixed (fn := Try.f37) _ _ _ _ _ laws_toIntS_h Try.func37 (by kernel_rfl) (fun x => by kernel_rfl)
/-! loop.example/g00486/laws.toTurn -/
def laws_toTurn (a0 : T_Turn.D) : Option T_Turn.D :=
(laws_toEvent a0.2.2.2.2.1).bind fun y1 =>
(laws_toEventS a0.2.2.2.2.2.1).bind fun y2 =>
 some (a0.1, a0.2.1, a0.2.2.1, a0.2.2.2.1, y1, y2, a0.2.2.2.2.2.2)
def laws_toTurn_c : Ct := .pure true false (.pair T_Turn .unit) T_Turn (fun x => laws_toTurn x.1)
theorem laws_toTurn_ct : CtOk Try.prog 267 laws_toTurn_c := pure_ct (E := { T := tab, G := [(48, laws_toEventS_fresh_c), (155, laws_toEvent_c)] }) (EnvOk.cons laws_toEventS_fresh_ct (EnvOk.cons laws_toEvent_ct (EnvOk.nil tabOk))) mixed (fn := Try.f267) _ _ _ _ _ .none Try.func267 (by kernel_rfl) (fun x => by kernel_rfl)
def laws_toTurn_fresh_c : Ct := .pure true true (.pair T_Turn .unit) T_Turn (fun x => laws_toTurn x.1)
theorem laws_toTurn_fresh_ct : CtOk Try.prog 267 laws_toTurn_fresh_c := pure_ct (E := { T := tab, G := [(48, laws_toEventS_fresh_c), (155, laws_toEvent_c)] }) (EnvOk.cons laws_toEventS_fresh_ct (EnvOk.cons laws_toEvent_ct (EnvOk.nil tabOk))) mixed (fn := Try.f267) _ _ _ _ _ .none Try.func267 (by kernel_rfl) (fun x => by kernel_rfl)
/-! loop.example/g00486/laws.toTurnS -/
def laws_toTurnS_l1 (a0 : (List T_Turn.D)) : ((List T_Turn.D) × Int) → Option (((List T_Turn.D) × Int) ⊕ ((List T_Turn.D) × Int)) := fun s2 =>
 bif decide (s2.2 < (a0.length : Int)) then (
 idx a0 s2.2 fun x3 =>
(laws_toTurn x3).bind fun y4 =>
 idx s2.1 s2.2 fun _ =>
(s2.1[(s2.2 : Int).toNat]?).bind fun x5 =>
 let u6 : (List T_Turn.D) := s2.1.set (s2.2 : Int).toNat y4
 some (.inl (u6, IntKind.wrap .i64 (s2.2 + 1))))
 else (
 some (.inr s2))
def laws_toTurnS (a0 : (List T_Turn.D)) : Option (List T_Turn.D) :=
 if 0 ≤ (a0.length : Int) then (if ((a0.length : Int)).toNat * (24 * 14) ≤ room then (
(while_ (laws_toTurnS_l1 a0) ((List.replicate ((a0.length : Int)).toNat (0, 0, 0, 0, (0, 0, 0, 0, 0, 0, false, ()), [], 0, 0, ())), 0)).bind fun o7 =>
 some o7.1) else none) else none
def laws_toTurnS_h : Hints := (.node none none .none (.node none none .none (.node none none (.node none none .none (.node none none (.node none (some ⟨[.tmpO 3 0 (.slice T_Turn), .tmp 4 (.int .i64)], [some 0], none, []⟩) .none .none) .none)) .none)))
def laws_toTurnS_c : Ct := .pure true false (.pair (.slice T_Turn) .unit) (.slice T_Turn) (fun x => laws_toTurnS x.1)
theorem laws_toTurnS_ct : CtOk Try.prog 198 laws_toTurnS_c := pure_ct (E := { T := tab, G := [(267, laws_toTurn_fresh_c)] }) (EnvOk.cons laws_toTurn_fresh_ct (EnvOk.nil tabOk)) mixed (fn := Try.f198) _ _ _ _ _ laws_toTurnS_h Try.func198 (by kernel_rfl) (fun x => by kernel_rfl)
def laws_toTurnS_fresh_c : Ct := .pure true true (.pair (.slice T_Turn) .unit) (.slice T_Turn) (fun x => laws_toTurnS x.1)
theorem laws_toTurnS_fresh_ct : CtOk Try.prog 198 laws_toTurnS_fresh_c := pure_ct (E := { T := tab, G := [(267, laws_toTurn_fresh_c)] }) (EnvOk.cons laws_toTurn_fresh_ct (EnvOk.nil tabOk)) mixed (fn := Try.f198) _ _ _ _ _ laws_toTurnS_h Try.func198 (by kernel_rfl) (fun x => by kernel_rfl)
/-! loop.example/g00486/laws.toFate -/
def laws_toFate (a0 : T_Fate.D) : Option T_Fate.D :=
(laws_toEventS a0.1).bind fun y1 =>
(laws_toEffectS a0.2.1).bind fun y2 =>
(laws_toIntS a0.2.2.1).bind fun y3 =>
(laws_toTurnS a0.2.2.2.1).bind fun y4 =>
 some (y1, y2, y3, y4, ())
def laws_toFate_c : Ct := .pure true false (.pair T_Fate .unit) T_Fate (fun x => laws_toFate x.1)
theorem laws_toFate_ct : CtOk Try.prog 88 laws_toFate_c := pure_ct (E := { T := tab, G := [(37, laws_toIntS_fresh_c), (48, laws_toEventS_fresh_c), (98, laws_toEffectS_fresh_c), (198, laws_toTurnS_fresh_c)] }) (EnvOk.cons laws_toIntS_fresh_ct (EnvOk.cons laws_toEventS_fresh_ct (EnvOk.cons laws_toEffectS_fresh_ct (EnvOk.cons laws_toTurnS_fresh_ct (EnvOk.nil tabOk))))) mixed (fn := Try.f88) _ _ _ _ _ .none Try.func88 (by kernel_rfl) (fun x => by kernel_rfl)
def laws_toFate_fresh_c : Ct := .pure true true (.pair T_Fate .unit) T_Fate (fun x => laws_toFate x.1)
theorem laws_toFate_fresh_ct : CtOk Try.prog 88 laws_toFate_fresh_c := pure_ct (E := { T := tab, G := [(37, laws_toIntS_fresh_c), (48, laws_toEventS_fresh_c), (98, laws_toEffectS_fresh_c), (198, laws_toTurnS_fresh_c)] }) (EnvOk.cons laws_toIntS_fresh_ct (EnvOk.cons laws_toEventS_fresh_ct (EnvOk.cons laws_toEffectS_fresh_ct (EnvOk.cons laws_toTurnS_fresh_ct (EnvOk.nil tabOk))))) mixed (fn := Try.f88) _ _ _ _ _ .none Try.func88 (by kernel_rfl) (fun x => by kernel_rfl)
/-! loop.example/g00486/spec.LeftOf -/
def spec_LeftOf_l1 (a0 : T_Fate.D) (a1 : Int) : ((List T_Event.D) × Int) → Option (((List T_Event.D) × Int) ⊕ ((List T_Event.D) × Int)) := fun s1 =>
 bif decide (s1.2 < (a0.1.length : Int)) then (
 idx a0.1 s1.2 fun x2 =>
((bif (x2.1 == a1) then (
 idx a0.1 s1.2 fun x3 =>
 if (s1.1.length + [x3].length) * (24 * 7) ≤ room then (
 some (s1.1 ++ [x3])) else none)
 else (
 some s1.1)) : Option (List T_Event.D)).bind fun o4 =>
 some (.inl (o4, IntKind.wrap .i64 (s1.2 + 1))))
 else (
 some (.inr s1))
def spec_LeftOf (a0 : T_Fate.D) (a1 : Int) : Option (List T_Event.D) :=
(while_ (spec_LeftOf_l1 a0 a1) ([], 0)).bind fun o5 =>
 some o5.1
def spec_LeftOf_h : Hints := (.node none none .none (.node none none .none (.node none none (.node none none .none (.node none none (.node none (some ⟨[.tmpO 5 0 (.slice T_Event), .tmp 6 (.int .i64)], [some 0], none, []⟩) (.node none none .none (.node none none (.node none none (.node none none .none (.node (some ⟨[.tmpO 5 1 (.slice T_Event)], [none], none, [(5, 0)]⟩) none .none .none)) .none) .none)) .none) .none)) .none)))
def spec_LeftOf_c : Ct := .pure true false (.pair T_Fate (.pair (.int .i64) .unit)) (.slice T_Event) (fun x => spec_LeftOf x.1 x.2.1)
theorem spec_LeftOf_ct : CtOk Try.prog 87 spec_LeftOf_c := pure_ct (E := { T := tab, G := [] }) (EnvOk.nil tabOk) mixed (fn := Try.f87) _ _ _ _ _ spec_LeftOf_h Try.func87 (by kernel_rfl) (fun x => by kernel_rfl)
def spec_LeftOf_fresh_c : Ct := .pure true true (.pair T_Fate (.pair (.int .i64) .unit)) (.slice T_Event) (fun x => spec_LeftOf x.1 x.2.1)
theorem spec_LeftOf_fresh_ct : CtOk Try.prog 87 spec_LeftOf_fresh_c := pure_ct (E := { T := tab, G := [] }) (EnvOk.nil tabOk) mixed (fn := Try.f87) _ _ _ _ _ spec_LeftOf_h Try.func87 (by kernel_rfl) (fun x => by kernel_rfl)
/-! slices.Clone[[]loop.example/g00486/impl.Event,loop.example/g00486/impl.Event] -/
def slices_Clone_impl_Event (a0 : (List T_Event.D)) : Option (List T_Event.D) :=
 if (([] : List T_Event.D).length + a0.length) * (24 * 7) ≤ room then (
 some ([] ++ a0)) else none
def slices_Clone_impl_Event_c : Ct := .pure true false (.pair (.slice T_Event) .unit) (.slice T_Event) (fun x => slices_Clone_impl_Event x.1)
theorem slices_Clone_impl_Event_ct : CtOk Try.prog 159 slices_Clone_impl_Event_c := nil_ct (E := { T := tab, G := [] }) (EnvOk.nil tabOk) mixed (fn := Try.f159) _ _ T_Event _ _ .none .none Try.func159 (by kernel_rfl) (by kernel_rfl) (fun x => by kernel_rfl)
def slices_Clone_impl_Event_fresh_c : Ct := .pure true true (.pair (.slice T_Event) .unit) (.slice T_Event) (fun x => slices_Clone_impl_Event x.1)
theorem slices_Clone_impl_Event_fresh_ct : CtOk Try.prog 159 slices_Clone_impl_Event_fresh_c := nil_ct (E := { T := tab, G := [] }) (EnvOk.nil tabOk) mixed (fn := Try.f159) _ _ T_Event _ _ .none .none Try.func159 (by kernel_rfl) (by kernel_rfl) (fun x => by kernel_rfl)
/-! slices.IndexFunc[[]loop.example/g00486/impl.Event,loop.example/g00486/impl.Event] -/
def slices_IndexFunc_impl_Event_l1 (a0 : (List T_Event.D)) (a1 : ((T_Event.D × Unit) → Option Bool)) : Int → Option (Int ⊕ (Int ⊕ Int)) := fun s1 =>
 bif decide (s1 < (a0.length : Int)) then (
 idx a0 s1 fun x2 =>
(a1 (x2, ())).bind fun y3 =>
 bif y3 then (
 some (.inr (.inr s1)))
 else (
 some (.inl (IntKind.wrap .i64 (s1 + 1)))))
 else (
 some (.inr (.inl s1)))
def slices_IndexFunc_impl_Event (a0 : (List T_Event.D)) (a1 : ((T_Event.D × Unit) → Option Bool)) : Option Int :=
(while_ (slices_IndexFunc_impl_Event_l1 a0 a1) 0).bind fun o4 =>
 match o4 with
| .inl s5 => (
 some (-1))
| .inr o6 => (
 some o6)
def slices_IndexFunc_impl_Event_h : Hints := (.node none none .none (.node none none (.node none none .none (.node none none (.node none (some ⟨[.tmp 8 (.int .i64)], [some 0], some [.tmp 4 (.int .i64)], []⟩) .none .none) .none)) .none))
def slices_IndexFunc_impl_Event_c : Ct := .pure true false (.pair (.slice T_Event) (.pair (.fn (.pair T_Event .unit) .bool) .unit)) (.int .i64) (fun x => slices_IndexFunc_impl_Event x.1 x.2.1)
theorem slices_IndexFunc_impl_Event_ct : CtOk Try.prog 252 slices_IndexFunc_impl_Event_c := pure_ct (E := { T := tab, G := [] }) (EnvOk.nil tabOk) mixed (fn := Try.f252) _ _ _ _ _ slices_IndexFunc_impl_Event_h Try.func252 (by kernel_rfl) (fun x => by kernel_rfl)
/-! slices.DeleteFunc[[]loop.example/g00486/impl.Event,loop.example/g00486/impl.Event] -/
def slices_DeleteFunc_impl_Event_l1 (a1 : ((T_Event.D × Unit) → Option Bool)) : ((List T_Event.D) × (Int × Int)) → Option (((List T_Event.D) × (Int × Int)) ⊕ ((List T_Event.D) × (Int × Int))) := fun s3 =>
 bif decide (s3.2.2 < (s3.1.length : Int)) then (
 idx s3.1 s3.2.2 fun _ =>
(s3.1[(s3.2.2 : Int).toNat]?).bind fun x4 =>
(a1 (x4, ())).bind fun y5 =>
((bif (!y5) then (
 idx s3.1 s3.2.1 fun _ =>
(s3.1[(s3.2.1 : Int).toNat]?).bind fun x6 =>
 let u7 : (List T_Event.D) := s3.1.set (s3.2.1 : Int).toNat x4
 some (u7, IntKind.wrap .i64 (s3.2.1 + 1)))
 else (
 some (s3.1, s3.2.1))) : Option ((List T_Event.D) × Int)).bind fun o8 =>
 some (.inl (o8.1, o8.2, IntKind.wrap .i64 (s3.2.2 + 1))))
 else (
 some (.inr s3))
def slices_DeleteFunc_impl_Event (a0 : (List T_Event.D)) (a1 : ((T_Event.D × Unit) → Option Bool)) : Option ((List T_Event.D) × Unit) :=
(slices_IndexFunc_impl_Event a0 a1).bind fun y1 =>
 bif (y1 == (-1)) then (
 some (a0, ()))
 else (
(while_ (slices_DeleteFunc_impl_Event_l1 a1) (a0, y1, IntKind.wrap .i64 (y1 + 1))).bind fun o9 =>
 if 0 ≤ o9.2.1 then (if o9.2.1 ≤ (o9.1.length : Int) then (if (o9.1.length : Int) ≤ (o9.1.length : Int) then (
 if 0 ≤ (0 : Int) then (if (0 : Int) ≤ o9.2.1 then (if o9.2.1 ≤ ((o9.1.take (o9.2.1.toNat) ++ List.replicate ((o9.1.length : Int).toNat - o9.2.1.toNat) (0, 0, 0, 0, 0, 0, false, ()) ++ o9.1.drop ((o9.1.length : Int).toNat)).length : Int) then (
 some ((((o9.1.take (o9.2.1.toNat) ++ List.replicate ((o9.1.length : Int).toNat - o9.2.1.toNat) (0, 0, 0, 0, 0, 0, false, ()) ++ o9.1.drop ((o9.1.length : Int).toNat)).take (o9.2.1.toNat)).drop ((0 : Int).toNat)), ())) else none) else none) else none) else none) else none) else none)
def slices_DeleteFunc_impl_Event_h : Hints := (.node none none .none (.node none none .none (.node none none .none (.node none none (.node none none .none (.node none none (.node none (some ⟨[.tmpO 0 1 (.slice T_Event), .tmp 5 (.int .i64), .tmp 6 (.int .i64)], [some 0], none, []⟩) (.node none none .none (.node none none (.node none none (.node none none .none (.node none none .none (.node (some ⟨[.tmpO 0 2 (.slice T_Event), .tmp 5 (.int .i64)], [none], none, [(0, 1)]⟩) none .none .none))) .none) .none)) .none) .none)) .none))))
def slices_DeleteFunc_impl_Event_fresh_c : Ct := .mut [.tk, .rd] true true (.pair (.slice T_Event) (.pair (.fn (.pair T_Event .unit) .bool) .unit)) (.slice T_Event) (fun x => slices_DeleteFunc_impl_Event x.1 x.2.1)
theorem slices_DeleteFunc_impl_Event_fresh_ct : CtOk Try.prog 158 slices_DeleteFunc_impl_Event_fresh_c := mut_ct (E := { T := tab, G := [(252, slices_IndexFunc_impl_Event_c)] }) (EnvOk.cons slices_IndexFunc_impl_Event_ct (EnvOk.nil tabOk)) mixed (fn := Try.f158) _ _ _ _ _ _ slices_DeleteFunc_impl_Event_h Try.func158 (by kernel_rfl) (fun x => by kernel_rfl)
/-! loop.example/g00486/impl.LeftOf$1 -/
def impl_LeftOf_1 (z0 : Int) (a0 : T_Event.D) : Option Bool :=
 some (a0.1 != z0)
def impl_LeftOf_1_c : Ct := .clo (.pair T_Event .unit) (.pair (.int .i64) .unit) .bool (fun z x => impl_LeftOf_1 z.1 x.1)
theorem impl_LeftOf_1_ct : CtOk Try.prog 199 impl_LeftOf_1_c := clo_ct (E := { T := tab, G := [] }) (EnvOk.nil tabOk) mixed (fn := Try.f199) _ _ _ _ .none Try.func199 (by kernel_rfl) (fun z x => by kernel_rfl)
/-! loop.example/g00486/impl.LeftOf -/
def impl_LeftOf (a0 : T_Fate.D) (a1 : Int) : Option (List T_Event.D) :=
(slices_Clone_impl_Event a0.1).bind fun y1 =>
(slices_DeleteFunc_impl_Event y1 (fun q => impl_LeftOf_1 a1 q.1)).bind fun y2 =>
 some y2.1
def impl_LeftOf_c : Ct := .pure true false (.pair T_Fate (.pair (.int .i64) .unit)) (.slice T_Event) (fun x => impl_LeftOf x.1 x.2.1)
theorem impl_LeftOf_ct : CtOk Try.prog 89 impl_LeftOf_c := pure_ct (E := { T := tab, G := [(158, slices_DeleteFunc_impl_Event_fresh_c), (159, slices_Clone_impl_Event_fresh_c), (199, impl_LeftOf_1_c)] }) (EnvOk.cons slices_DeleteFunc_impl_Event_fresh_ct (EnvOk.cons slices_Clone_impl_Event_fresh_ct (EnvOk.cons impl_LeftOf_1_ct (EnvOk.nil tabOk)))) mixed (fn := Try.f89) _ _ _ _ _ .none Try.func89 (by kernel_rfl) (fun x => by kernel_rfl)
def impl_LeftOf_fresh_c : Ct := .pure true true (.pair T_Fate (.pair (.int .i64) .unit)) (.slice T_Event) (fun x => impl_LeftOf x.1 x.2.1)
theorem impl_LeftOf_fresh_ct : CtOk Try.prog 89 impl_LeftOf_fresh_c := pure_ct (E := { T := tab, G := [(158, slices_DeleteFunc_impl_Event_fresh_c), (159, slices_Clone_impl_Event_fresh_c), (199, impl_LeftOf_1_c)] }) (EnvOk.cons slices_DeleteFunc_impl_Event_fresh_ct (EnvOk.cons slices_Clone_impl_Event_fresh_ct (EnvOk.cons impl_LeftOf_1_ct (EnvOk.nil tabOk)))) mixed (fn := Try.f89) _ _ _ _ _ .none Try.func89 (by kernel_rfl) (fun x => by kernel_rfl)
/-! loop.example/g00486/laws.eqEvent -/
def laws_eqEvent (a0 : T_Event.D) (a1 : T_Event.D) : Option Bool :=
 bif (a0.1 != a1.1) then (
 some false)
 else (
 bif (a0.2.1 != a1.2.1) then (
 some false)
 else (
 bif (a0.2.2.1 != a1.2.2.1) then (
 some false)
 else (
 bif (a0.2.2.2.1 != a1.2.2.2.1) then (
 some false)
 else (
 bif (a0.2.2.2.2.1 != a1.2.2.2.2.1) then (
 some false)
 else (
 bif (a0.2.2.2.2.2.1 != a1.2.2.2.2.2.1) then (
 some false)
 else (
 bif (a0.2.2.2.2.2.2.1 != a1.2.2.2.2.2.2.1) then (
 some false)
 else (
 some true)))))))
def laws_eqEvent_c : Ct := .pure true false (.pair T_Event (.pair T_Event .unit)) .bool (fun x => laws_eqEvent x.1 x.2.1)
theorem laws_eqEvent_ct : CtOk Try.prog 163 laws_eqEvent_c := pure_ct (E := { T := tab, G := [] }) (EnvOk.nil tabOk) mixed (fn := Try.f163) _ _ _ _ _ .none Try.func163 (by kernel_rfl) (fun x => by kernel_rfl)
/-! loop.example/g00486/laws.eqEventS -/
def laws_eqEventS_l1 (a0 : (List T_Event.D)) (a1 : (List T_Event.D)) : Int → Option (Int ⊕ (Int ⊕ Bool)) := fun s1 =>
 bif decide (s1 < (a0.length : Int)) then (
 idx a0 s1 fun x2 =>
 idx a1 s1 fun x3 =>
(laws_eqEvent x2 x3).bind fun y4 =>
 bif (!y4) then (
 some (.inr (.inr false)))
 else (
 some (.inl (IntKind.wrap .i64 (s1 + 1)))))
 else (
 some (.inr (.inl s1)))
def laws_eqEventS (a0 : (List T_Event.D)) (a1 : (List T_Event.D)) : Option Bool :=
 bif ((a0.length : Int) != (a1.length : Int)) then (
 some false)
 else (
(while_ (laws_eqEventS_l1 a0 a1) 0).bind fun o5 =>
 match o5 with
| .inl s6 => (
 some true)
| .inr o7 => (
 some o7))
def laws_eqEventS_h : Hints := (.node none none .none (.node none none .none (.node none none (.node none none .none (.node none none (.node none (some ⟨[.tmp 5 (.int .i64)], [some 0], some [.tmp 4 .bool], []⟩) .none .none) .none)) .none)))
def laws_eqEventS_c : Ct := .pure true false (.pair (.slice T_Event) (.pair (.slice T_Event) .unit)) .bool (fun x => laws_eqEventS x.1 x.2.1)
theorem laws_eqEventS_ct : CtOk Try.prog 51 laws_eqEventS_c := pure_ct (E := { T := tab, G := [(163, laws_eqEvent_c)] }) (EnvOk.cons laws_eqEvent_ct (EnvOk.nil tabOk)) mixed (fn := Try.f51) _ _ _ _ _ laws_eqEventS_h Try.func51 (by kernel_rfl) (fun x => by kernel_rfl)
/-! loop.example/g00486/laws.eqPat -/
def laws_eqPat (a0 : T_Pat.D) (a1 : T_Pat.D) : Option Bool :=
 bif (a0.1 != a1.1) then (
 some false)
 else (
 bif (a0.2.1 != a1.2.1) then (
 some false)
 else (
 bif (a0.2.2.1 != a1.2.2.1) then (
 some false)
 else (
 bif (a0.2.2.2.1 != a1.2.2.2.1) then (
 some false)
 else (
 bif (a0.2.2.2.2.1 != a1.2.2.2.2.1) then (
 some false)
 else (
 bif (a0.2.2.2.2.2.1 != a1.2.2.2.2.2.1) then (
 some false)
 else (
 bif (a0.2.2.2.2.2.2.1 != a1.2.2.2.2.2.2.1) then (
 some false)
 else (
 some true)))))))
def laws_eqPat_c : Ct := .pure true false (.pair T_Pat (.pair T_Pat .unit)) .bool (fun x => laws_eqPat x.1 x.2.1)
theorem laws_eqPat_ct : CtOk Try.prog 276 laws_eqPat_c := pure_ct (E := { T := tab, G := [] }) (EnvOk.nil tabOk) mixed (fn := Try.f276) _ _ _ _ _ .none Try.func276 (by kernel_rfl) (fun x => by kernel_rfl)
/-! loop.example/g00486/laws.eqGuard -/
def laws_eqGuard (a0 : T_Guard.D) (a1 : T_Guard.D) : Option Bool :=
 bif (a0.1 != a1.1) then (
 some false)
 else (
 bif (a0.2.1 != a1.2.1) then (
 some false)
 else (
 some true))
def laws_eqGuard_c : Ct := .pure true false (.pair T_Guard (.pair T_Guard .unit)) .bool (fun x => laws_eqGuard x.1 x.2.1)
theorem laws_eqGuard_ct : CtOk Try.prog 277 laws_eqGuard_c := pure_ct (E := { T := tab, G := [] }) (EnvOk.nil tabOk) mixed (fn := Try.f277) _ _ _ _ _ .none Try.func277 (by kernel_rfl) (fun x => by kernel_rfl)
/-! loop.example/g00486/laws.eqAct -/
def laws_eqAct (a0 : T_Act.D) (a1 : T_Act.D) : Option Bool :=
 bif (a0.1 != a1.1) then (
 some false)
 else (
 bif (a0.2.1 != a1.2.1) then (
 some false)
 else (
 bif (a0.2.2.1 != a1.2.2.1) then (
 some false)
 else (
 bif (a0.2.2.2.1 != a1.2.2.2.1) then (
 some false)
 else (
 bif (a0.2.2.2.2.1 != a1.2.2.2.2.1) then (
 some false)
 else (
 bif (a0.2.2.2.2.2.1 != a1.2.2.2.2.2.1) then (
 some false)
 else (
(laws_eqEventS a0.2.2.2.2.2.2.1 a1.2.2.2.2.2.2.1).bind fun y1 =>
 bif (!y1) then (
 some false)
 else (
 some true)))))))
def laws_eqAct_c : Ct := .pure true false (.pair T_Act (.pair T_Act .unit)) .bool (fun x => laws_eqAct x.1 x.2.1)
theorem laws_eqAct_ct : CtOk Try.prog 278 laws_eqAct_c := pure_ct (E := { T := tab, G := [(51, laws_eqEventS_c)] }) (EnvOk.cons laws_eqEventS_ct (EnvOk.nil tabOk)) mixed (fn := Try.f278) _ _ _ _ _ .none Try.func278 (by kernel_rfl) (fun x => by kernel_rfl)
/-! loop.example/g00486/laws.eqEffect -/
def laws_eqEffect (a0 : T_Effect.D) (a1 : T_Effect.D) : Option Bool :=
 bif (a0.1 != a1.1) then (
 some false)
 else (
 bif (a0.2.1 != a1.2.1) then (
 some false)
 else (
 bif (a0.2.2.1 != a1.2.2.1) then (
 some false)
 else (
 bif (a0.2.2.2.1 != a1.2.2.2.1) then (
 some false)
 else (
(laws_eqPat a0.2.2.2.2.1 a1.2.2.2.2.1).bind fun y1 =>
 bif (!y1) then (
 some false)
 else (
(laws_eqGuard a0.2.2.2.2.2.1 a1.2.2.2.2.2.1).bind fun y2 =>
 bif (!y2) then (
 some false)
 else (
(laws_eqAct a0.2.2.2.2.2.2.1 a1.2.2.2.2.2.2.1).bind fun y3 =>
 bif (!y3) then (
 some false)
 else (
 bif (a0.2.2.2.2.2.2.2.1 != a1.2.2.2.2.2.2.2.1) then (
 some false)
 else (
 bif (a0.2.2.2.2.2.2.2.2.1 != a1.2.2.2.2.2.2.2.2.1) then (
 some false)
 else (
 some true)))))))))
def laws_eqEffect_c : Ct := .pure true false (.pair T_Effect (.pair T_Effect .unit)) .bool (fun x => laws_eqEffect x.1 x.2.1)
theorem laws_eqEffect_ct : CtOk Try.prog 212 laws_eqEffect_c := pure_ct (E := { T := tab, G := [(276, laws_eqPat_c), (277, laws_eqGuard_c), (278, laws_eqAct_c)] }) (EnvOk.cons laws_eqPat_ct (EnvOk.cons laws_eqGuard_ct (EnvOk.cons laws_eqAct_ct (EnvOk.nil tabOk)))) mixed (fn := Try.f212) _ _ _ _ _ .none Try.func212 (by kernel_rfl) (fun x => by kernel_rfl)
/-! loop.example/g00486/laws.eqEffectS -/
def laws_eqEffectS_l1 (a0 : (List T_Effect.D)) (a1 : (List T_Effect.D)) : Int → Option (Int ⊕ (Int ⊕ Bool)) := fun s1 =>
 bif decide (s1 < (a0.length : Int)) then (
 idx a0 s1 fun x2 =>
 idx a1 s1 fun x3 =>
(laws_eqEffect x2 x3).bind fun y4 =>
 bif (!y4) then (
 some (.inr (.inr false)))
 else (
 some (.inl (IntKind.wrap .i64 (s1 + 1)))))
 else (
 some (.inr (.inl s1)))
def laws_eqEffectS (a0 : (List T_Effect.D)) (a1 : (List T_Effect.D)) : Option Bool :=
 bif ((a0.length : Int) != (a1.length : Int)) then (
 some false)
 else (
(while_ (laws_eqEffectS_l1 a0 a1) 0).bind fun o5 =>
 match o5 with
| .inl s6 => (
 some true)
| .inr o7 => (
 some o7))
def laws_eqEffectS_h : Hints := (.node none none .none (.node none none .none (.node none none (.node none none .none (.node none none (.node none (some ⟨[.tmp 5 (.int .i64)], [some 0], some [.tmp 4 .bool], []⟩) .none .none) .none)) .none)))
def laws_eqEffectS_c : Ct := .pure true false (.pair (.slice T_Effect) (.pair (.slice T_Effect) .unit)) .bool (fun x => laws_eqEffectS x.1 x.2.1)
theorem laws_eqEffectS_ct : CtOk Try.prog 101 laws_eqEffectS_c := pure_ct (E := { T := tab, G := [(212, laws_eqEffect_c)] }) (EnvOk.cons laws_eqEffect_ct (EnvOk.nil tabOk)) mixed (fn := Try.f101) _ _ _ _ _ laws_eqEffectS_h Try.func101 (by kernel_rfl) (fun x => by kernel_rfl)
/-! loop.example/g00486/laws.eqIntS -/
def laws_eqIntS_l1 (a0 : (List Int)) (a1 : (List Int)) : Int → Option (Int ⊕ (Int ⊕ Bool)) := fun s1 =>
 bif decide (s1 < (a0.length : Int)) then (
 idx a0 s1 fun x2 =>
 idx a1 s1 fun x3 =>
 bif (x2 != x3) then (
 some (.inr (.inr false)))
 else (
 some (.inl (IntKind.wrap .i64 (s1 + 1)))))
 else (
 some (.inr (.inl s1)))
def laws_eqIntS (a0 : (List Int)) (a1 : (List Int)) : Option Bool :=
 bif ((a0.length : Int) != (a1.length : Int)) then (
 some false)
 else (
(while_ (laws_eqIntS_l1 a0 a1) 0).bind fun o4 =>
 match o4 with
| .inl s5 => (
 some true)
| .inr o6 => (
 some o6))
def laws_eqIntS_h : Hints := (.node none none .none (.node none none .none (.node none none (.node none none .none (.node none none (.node none (some ⟨[.tmp 5 (.int .i64)], [some 0], some [.tmp 4 .bool], []⟩) .none .none) .none)) .none)))
def laws_eqIntS_c : Ct := .pure true false (.pair (.slice (.int .i64)) (.pair (.slice (.int .i64)) .unit)) .bool (fun x => laws_eqIntS x.1 x.2.1)
theorem laws_eqIntS_ct : CtOk Try.prog 39 laws_eqIntS_c := pure_ct (E := { T := tab, G := [] }) (EnvOk.nil tabOk) mixed (fn := Try.f39) _ _ _ _ _ laws_eqIntS_h Try.func39 (by kernel_rfl) (fun x => by kernel_rfl)
/-! loop.example/g00486/laws.eqTurn -/
def laws_eqTurn (a0 : T_Turn.D) (a1 : T_Turn.D) : Option Bool :=
 bif (a0.1 != a1.1) then (
 some false)
 else (
 bif (a0.2.1 != a1.2.1) then (
 some false)
 else (
 bif (a0.2.2.1 != a1.2.2.1) then (
 some false)
 else (
 bif (a0.2.2.2.1 != a1.2.2.2.1) then (
 some false)
 else (
(laws_eqEvent a0.2.2.2.2.1 a1.2.2.2.2.1).bind fun y1 =>
 bif (!y1) then (
 some false)
 else (
(laws_eqEventS a0.2.2.2.2.2.1 a1.2.2.2.2.2.1).bind fun y2 =>
 bif (!y2) then (
 some false)
 else (
 bif (a0.2.2.2.2.2.2.1 != a1.2.2.2.2.2.2.1) then (
 some false)
 else (
 bif (a0.2.2.2.2.2.2.2.1 != a1.2.2.2.2.2.2.2.1) then (
 some false)
 else (
 some true))))))))
def laws_eqTurn_c : Ct := .pure true false (.pair T_Turn (.pair T_Turn .unit)) .bool (fun x => laws_eqTurn x.1 x.2.1)
theorem laws_eqTurn_ct : CtOk Try.prog 268 laws_eqTurn_c := pure_ct (E := { T := tab, G := [(51, laws_eqEventS_c), (163, laws_eqEvent_c)] }) (EnvOk.cons laws_eqEventS_ct (EnvOk.cons laws_eqEvent_ct (EnvOk.nil tabOk))) mixed (fn := Try.f268) _ _ _ _ _ .none Try.func268 (by kernel_rfl) (fun x => by kernel_rfl)
/-! loop.example/g00486/laws.eqTurnS -/
def laws_eqTurnS_l1 (a0 : (List T_Turn.D)) (a1 : (List T_Turn.D)) : Int → Option (Int ⊕ (Int ⊕ Bool)) := fun s1 =>
 bif decide (s1 < (a0.length : Int)) then (
 idx a0 s1 fun x2 =>
 idx a1 s1 fun x3 =>
(laws_eqTurn x2 x3).bind fun y4 =>
 bif (!y4) then (
 some (.inr (.inr false)))
 else (
 some (.inl (IntKind.wrap .i64 (s1 + 1)))))
 else (
 some (.inr (.inl s1)))
def laws_eqTurnS (a0 : (List T_Turn.D)) (a1 : (List T_Turn.D)) : Option Bool :=
 bif ((a0.length : Int) != (a1.length : Int)) then (
 some false)
 else (
(while_ (laws_eqTurnS_l1 a0 a1) 0).bind fun o5 =>
 match o5 with
| .inl s6 => (
 some true)
| .inr o7 => (
 some o7))
def laws_eqTurnS_h : Hints := (.node none none .none (.node none none .none (.node none none (.node none none .none (.node none none (.node none (some ⟨[.tmp 5 (.int .i64)], [some 0], some [.tmp 4 .bool], []⟩) .none .none) .none)) .none)))
def laws_eqTurnS_c : Ct := .pure true false (.pair (.slice T_Turn) (.pair (.slice T_Turn) .unit)) .bool (fun x => laws_eqTurnS x.1 x.2.1)
theorem laws_eqTurnS_ct : CtOk Try.prog 200 laws_eqTurnS_c := pure_ct (E := { T := tab, G := [(268, laws_eqTurn_c)] }) (EnvOk.cons laws_eqTurn_ct (EnvOk.nil tabOk)) mixed (fn := Try.f200) _ _ _ _ _ laws_eqTurnS_h Try.func200 (by kernel_rfl) (fun x => by kernel_rfl)
/-! loop.example/g00486/laws.eqFate -/
def laws_eqFate (a0 : T_Fate.D) (a1 : T_Fate.D) : Option Bool :=
(laws_eqEventS a0.1 a1.1).bind fun y1 =>
 bif (!y1) then (
 some false)
 else (
(laws_eqEffectS a0.2.1 a1.2.1).bind fun y2 =>
 bif (!y2) then (
 some false)
 else (
(laws_eqIntS a0.2.2.1 a1.2.2.1).bind fun y3 =>
 bif (!y3) then (
 some false)
 else (
(laws_eqTurnS a0.2.2.2.1 a1.2.2.2.1).bind fun y4 =>
 bif (!y4) then (
 some false)
 else (
 some true))))
def laws_eqFate_c : Ct := .pure true false (.pair T_Fate (.pair T_Fate .unit)) .bool (fun x => laws_eqFate x.1 x.2.1)
theorem laws_eqFate_ct : CtOk Try.prog 90 laws_eqFate_c := pure_ct (E := { T := tab, G := [(39, laws_eqIntS_c), (51, laws_eqEventS_c), (101, laws_eqEffectS_c), (200, laws_eqTurnS_c)] }) (EnvOk.cons laws_eqIntS_ct (EnvOk.cons laws_eqEventS_ct (EnvOk.cons laws_eqEffectS_ct (EnvOk.cons laws_eqTurnS_ct (EnvOk.nil tabOk))))) mixed (fn := Try.f90) _ _ _ _ _ .none Try.func90 (by kernel_rfl) (fun x => by kernel_rfl)
/-! loop.example/g00486/laws.markEventS -/
def laws_markEventS_l1 : ((List T_Event.D) × (Int × Int)) → Option (((List T_Event.D) × (Int × Int)) ⊕ ((List T_Event.D) × (Int × Int))) := fun s2 =>
 bif decide (s2.2.2 < (s2.1.length : Int)) then (
 idx s2.1 s2.2.2 fun _ =>
(s2.1[(s2.2.2 : Int).toNat]?).bind fun x3 =>
 let u4 : (List T_Event.D) := s2.1.set (s2.2.2 : Int).toNat (s2.2.1, x3.2)
 idx u4 s2.2.2 fun _ =>
(u4[(s2.2.2 : Int).toNat]?).bind fun x5 =>
 let u6 : (List T_Event.D) := u4.set (s2.2.2 : Int).toNat (x5.1, IntKind.wrap .i64 (s2.2.1 + 1), x5.2.2)
 idx u6 s2.2.2 fun _ =>
(u6[(s2.2.2 : Int).toNat]?).bind fun x7 =>
 let u8 : (List T_Event.D) := u6.set (s2.2.2 : Int).toNat (x7.1, x7.2.1, IntKind.wrap .i64 ((IntKind.wrap .i64 (s2.2.1 + 1)) + 1), x7.2.2.2)
 let k9 : Int := IntKind.wrap .i64 ((IntKind.wrap .i64 ((IntKind.wrap .i64 (s2.2.1 + 1)) + 1)) + 1)
 idx u8 s2.2.2 fun _ =>
(u8[(s2.2.2 : Int).toNat]?).bind fun x10 =>
 let u11 : (List T_Event.D) := u8.set (s2.2.2 : Int).toNat (x10.1, x10.2.1, x10.2.2.1, k9, x10.2.2.2.2)
 idx u11 s2.2.2 fun _ =>
(u11[(s2.2.2 : Int).toNat]?).bind fun x12 =>
 let u13 : (List T_Event.D) := u11.set (s2.2.2 : Int).toNat (x12.1, x12.2.1, x12.2.2.1, x12.2.2.2.1, IntKind.wrap .i64 (k9 + 1), x12.2.2.2.2.2)
 idx u13 s2.2.2 fun _ =>
(u13[(s2.2.2 : Int).toNat]?).bind fun x14 =>
 let u15 : (List T_Event.D) := u13.set (s2.2.2 : Int).toNat (x14.1, x14.2.1, x14.2.2.1, x14.2.2.2.1, x14.2.2.2.2.1, IntKind.wrap .i64 ((IntKind.wrap .i64 (k9 + 1)) + 1), x14.2.2.2.2.2.2)
 let k16 : Int := IntKind.wrap .i64 ((IntKind.wrap .i64 ((IntKind.wrap .i64 (k9 + 1)) + 1)) + 1)
 if 3 = 0 then none else (
 idx u15 s2.2.2 fun _ =>
(u15[(s2.2.2 : Int).toNat]?).bind fun x17 =>
 let u18 : (List T_Event.D) := u15.set (s2.2.2 : Int).toNat (x17.1, x17.2.1, x17.2.2.1, x17.2.2.2.1, x17.2.2.2.2.1, x17.2.2.2.2.2.1, ((k16.tmod 3) == 0), ())
 some (.inl (u18, IntKind.wrap .i64 (k16 + 1), IntKind.wrap .i64 (s2.2.2 + 1)))))
 else (
 some (.inr s2))
def laws_markEventS (a0 : (List T_Event.D)) (a1 : Int) : Option (Int × ((List T_Event.D) × Unit)) :=
(while_ (laws_markEventS_l1) (a0, a1, 0)).bind fun o19 =>
 some (o19.2.1, (o19.1, ()))
def laws_markEventS_h : Hints := (.node none none .none (.node none none (.node none none .none (.node none none (.node none (some ⟨[.tmpO 0 1 (.slice T_Event), .tmp 1 (.int .i64), .tmp 5 (.int .i64)], [some 0], none, []⟩) .none .none) .none)) .none))
def laws_markEventS_c : Ct := .mut [.lent, .rd] true true (.pair (.slice T_Event) (.pair (.int .i64) .unit)) (.int .i64) (fun x => laws_markEventS x.1 x.2.1)
theorem laws_markEventS_ct : CtOk Try.prog 52 laws_markEventS_c := mut_ct (E := { T := tab, G := [] }) (EnvOk.nil tabOk) mixed (fn := Try.f52) _ _ _ _ _ _ laws_markEventS_h Try.func52 (by kernel_rfl) (fun x => by kernel_rfl)
/-! loop.example/g00486/laws.markEffectS -/
def laws_markEffectS_l1 : ((List T_Effect.D) × (Int × Int)) → Option (((List T_Effect.D) × (Int × Int)) ⊕ ((List T_Effect.D) × (Int × Int))) := fun s2 =>
 bif decide (s2.2.2 < (s2.1.length : Int)) then (
 idx s2.1 s2.2.2 fun _ =>
(s2.1[(s2.2.2 : Int).toNat]?).bind fun x3 =>
 let u4 : (List T_Effect.D) := s2.1.set (s2.2.2 : Int).toNat (s2.2.1, x3.2)
 idx u4 s2.2.2 fun _ =>
(u4[(s2.2.2 : Int).toNat]?).bind fun x5 =>
 let u6 : (List T_Effect.D) := u4.set (s2.2.2 : Int).toNat (x5.1, IntKind.wrap .i64 (s2.2.1 + 1), x5.2.2)
 idx u6 s2.2.2 fun _ =>
(u6[(s2.2.2 : Int).toNat]?).bind fun x7 =>
 let u8 : (List T_Effect.D) := u6.set (s2.2.2 : Int).toNat (x7.1, x7.2.1, IntKind.wrap .i64 ((IntKind.wrap .i64 (s2.2.1 + 1)) + 1), x7.2.2.2)
 let k9 : Int := IntKind.wrap .i64 ((IntKind.wrap .i64 ((IntKind.wrap .i64 (s2.2.1 + 1)) + 1)) + 1)
 idx u8 s2.2.2 fun _ =>
(u8[(s2.2.2 : Int).toNat]?).bind fun x10 =>
 let u11 : (List T_Effect.D) := u8.set (s2.2.2 : Int).toNat (x10.1, x10.2.1, x10.2.2.1, k9, x10.2.2.2.2)
 idx u11 s2.2.2 fun _ =>
(u11[(s2.2.2 : Int).toNat]?).bind fun x12 =>
 let u13 : (List T_Effect.D) := u11.set (s2.2.2 : Int).toNat (x12.1, x12.2.1, x12.2.2.1, x12.2.2.2.1, (IntKind.wrap .i64 (k9 + 1), x12.2.2.2.2.1.2), x12.2.2.2.2.2)
 idx u13 s2.2.2 fun _ =>
(u13[(s2.2.2 : Int).toNat]?).bind fun x14 =>
 let u15 : (List T_Effect.D) := u13.set (s2.2.2 : Int).toNat (x14.1, x14.2.1, x14.2.2.1, x14.2.2.2.1, (x14.2.2.2.2.1.1, IntKind.wrap .i64 ((IntKind.wrap .i64 (k9 + 1)) + 1), x14.2.2.2.2.1.2.2), x14.2.2.2.2.2)
 let k16 : Int := IntKind.wrap .i64 ((IntKind.wrap .i64 ((IntKind.wrap .i64 (k9 + 1)) + 1)) + 1)
 idx u15 s2.2.2 fun _ =>
(u15[(s2.2.2 : Int).toNat]?).bind fun x17 =>
 let u18 : (List T_Effect.D) := u15.set (s2.2.2 : Int).toNat (x17.1, x17.2.1, x17.2.2.1, x17.2.2.2.1, (x17.2.2.2.2.1.1, x17.2.2.2.2.1.2.1, k16, x17.2.2.2.2.1.2.2.2), x17.2.2.2.2.2)
 idx u18 s2.2.2 fun _ =>
(u18[(s2.2.2 : Int).toNat]?).bind fun x19 =>
 let u20 : (List T_Effect.D) := u18.set (s2.2.2 : Int).toNat (x19.1, x19.2.1, x19.2.2.1, x19.2.2.2.1, (x19.2.2.2.2.1.1, x19.2.2.2.2.1.2.1, x19.2.2.2.2.1.2.2.1, IntKind.wrap .i64 (k16 + 1), x19.2.2.2.2.1.2.2.2.2), x19.2.2.2.2.2)
 idx u20 s2.2.2 fun _ =>
(u20[(s2.2.2 : Int).toNat]?).bind fun x21 =>
 let u22 : (List T_Effect.D) := u20.set (s2.2.2 : Int).toNat (x21.1, x21.2.1, x21.2.2.1, x21.2.2.2.1, (x21.2.2.2.2.1.1, x21.2.2.2.2.1.2.1, x21.2.2.2.2.1.2.2.1, x21.2.2.2.2.1.2.2.2.1, IntKind.wrap .i64 ((IntKind.wrap .i64 (k16 + 1)) + 1), x21.2.2.2.2.1.2.2.2.2.2), x21.2.2.2.2.2)
 let k23 : Int := IntKind.wrap .i64 ((IntKind.wrap .i64 ((IntKind.wrap .i64 (k16 + 1)) + 1)) + 1)
 idx u22 s2.2.2 fun _ =>
(u22[(s2.2.2 : Int).toNat]?).bind fun x24 =>
 let u25 : (List T_Effect.D) := u22.set (s2.2.2 : Int).toNat (x24.1, x24.2.1, x24.2.2.1, x24.2.2.2.1, (x24.2.2.2.2.1.1, x24.2.2.2.2.1.2.1, x24.2.2.2.2.1.2.2.1, x24.2.2.2.2.1.2.2.2.1, x24.2.2.2.2.1.2.2.2.2.1, k23, x24.2.2.2.2.1.2.2.2.2.2.2), x24.2.2.2.2.2)
 idx u25 s2.2.2 fun _ =>
(u25[(s2.2.2 : Int).toNat]?).bind fun x26 =>
 let u27 : (List T_Effect.D) := u25.set (s2.2.2 : Int).toNat (x26.1, x26.2.1, x26.2.2.1, x26.2.2.2.1, (x26.2.2.2.2.1.1, x26.2.2.2.2.1.2.1, x26.2.2.2.2.1.2.2.1, x26.2.2.2.2.1.2.2.2.1, x26.2.2.2.2.1.2.2.2.2.1, x26.2.2.2.2.1.2.2.2.2.2.1, IntKind.wrap .i64 (k23 + 1), ()), x26.2.2.2.2.2)
 idx u27 s2.2.2 fun _ =>
(u27[(s2.2.2 : Int).toNat]?).bind fun x28 =>
 let u29 : (List T_Effect.D) := u27.set (s2.2.2 : Int).toNat (x28.1, x28.2.1, x28.2.2.1, x28.2.2.2.1, x28.2.2.2.2.1, (IntKind.wrap .i64 ((IntKind.wrap .i64 (k23 + 1)) + 1), x28.2.2.2.2.2.1.2), x28.2.2.2.2.2.2)
 let k30 : Int := IntKind.wrap .i64 ((IntKind.wrap .i64 ((IntKind.wrap .i64 (k23 + 1)) + 1)) + 1)
 idx u29 s2.2.2 fun _ =>
(u29[(s2.2.2 : Int).toNat]?).bind fun x31 =>
 let u32 : (List T_Effect.D) := u29.set (s2.2.2 : Int).toNat (x31.1, x31.2.1, x31.2.2.1, x31.2.2.2.1, x31.2.2.2.2.1, (x31.2.2.2.2.2.1.1, k30, ()), x31.2.2.2.2.2.2)
 idx u32 s2.2.2 fun _ =>
(u32[(s2.2.2 : Int).toNat]?).bind fun x33 =>
 let u34 : (List T_Effect.D) := u32.set (s2.2.2 : Int).toNat (x33.1, x33.2.1, x33.2.2.1, x33.2.2.2.1, x33.2.2.2.2.1, x33.2.2.2.2.2.1, (IntKind.wrap .i64 (k30 + 1), x33.2.2.2.2.2.2.1.2), x33.2.2.2.2.2.2.2)
 idx u34 s2.2.2 fun _ =>
(u34[(s2.2.2 : Int).toNat]?).bind fun x35 =>
 let u36 : (List T_Effect.D) := u34.set (s2.2.2 : Int).toNat (x35.1, x35.2.1, x35.2.2.1, x35.2.2.2.1, x35.2.2.2.2.1, x35.2.2.2.2.2.1, (x35.2.2.2.2.2.2.1.1, IntKind.wrap .i64 ((IntKind.wrap .i64 (k30 + 1)) + 1), x35.2.2.2.2.2.2.1.2.2), x35.2.2.2.2.2.2.2)
 let k37 : Int := IntKind.wrap .i64 ((IntKind.wrap .i64 ((IntKind.wrap .i64 (k30 + 1)) + 1)) + 1)
 idx u36 s2.2.2 fun _ =>
(u36[(s2.2.2 : Int).toNat]?).bind fun x38 =>
 let u39 : (List T_Effect.D) := u36.set (s2.2.2 : Int).toNat (x38.1, x38.2.1, x38.2.2.1, x38.2.2.2.1, x38.2.2.2.2.1, x38.2.2.2.2.2.1, (x38.2.2.2.2.2.2.1.1, x38.2.2.2.2.2.2.1.2.1, k37, x38.2.2.2.2.2.2.1.2.2.2), x38.2.2.2.2.2.2.2)
 idx u39 s2.2.2 fun _ =>
(u39[(s2.2.2 : Int).toNat]?).bind fun x40 =>
 let u41 : (List T_Effect.D) := u39.set (s2.2.2 : Int).toNat (x40.1, x40.2.1, x40.2.2.1, x40.2.2.2.1, x40.2.2.2.2.1, x40.2.2.2.2.2.1, (x40.2.2.2.2.2.2.1.1, x40.2.2.2.2.2.2.1.2.1, x40.2.2.2.2.2.2.1.2.2.1, IntKind.wrap .i64 (k37 + 1), x40.2.2.2.2.2.2.1.2.2.2.2), x40.2.2.2.2.2.2.2)
 idx u41 s2.2.2 fun _ =>
(u41[(s2.2.2 : Int).toNat]?).bind fun x42 =>
 let u43 : (List T_Effect.D) := u41.set (s2.2.2 : Int).toNat (x42.1, x42.2.1, x42.2.2.1, x42.2.2.2.1, x42.2.2.2.2.1, x42.2.2.2.2.2.1, (x42.2.2.2.2.2.2.1.1, x42.2.2.2.2.2.2.1.2.1, x42.2.2.2.2.2.2.1.2.2.1, x42.2.2.2.2.2.2.1.2.2.2.1, IntKind.wrap .i64 ((IntKind.wrap .i64 (k37 + 1)) + 1), x42.2.2.2.2.2.2.1.2.2.2.2.2), x42.2.2.2.2.2.2.2)
 let k44 : Int := IntKind.wrap .i64 ((IntKind.wrap .i64 ((IntKind.wrap .i64 (k37 + 1)) + 1)) + 1)
 if 3 = 0 then none else (
 idx u43 s2.2.2 fun _ =>
(u43[(s2.2.2 : Int).toNat]?).bind fun x45 =>
 let u46 : (List T_Effect.D) := u43.set (s2.2.2 : Int).toNat (x45.1, x45.2.1, x45.2.2.1, x45.2.2.2.1, x45.2.2.2.2.1, x45.2.2.2.2.2.1, (x45.2.2.2.2.2.2.1.1, x45.2.2.2.2.2.2.1.2.1, x45.2.2.2.2.2.2.1.2.2.1, x45.2.2.2.2.2.2.1.2.2.2.1, x45.2.2.2.2.2.2.1.2.2.2.2.1, ((k44.tmod 3) == 0), x45.2.2.2.2.2.2.1.2.2.2.2.2.2), x45.2.2.2.2.2.2.2)
 idx u46 s2.2.2 fun _ =>
(u46[(s2.2.2 : Int).toNat]?).bind fun x47 =>
(laws_markEventS x47.2.2.2.2.2.2.1.2.2.2.2.2.2.1 (IntKind.wrap .i64 (k44 + 1))).bind fun y48 =>
 let u49 : (List T_Effect.D) := u46.set (s2.2.2 : Int).toNat (x47.1, x47.2.1, x47.2.2.1, x47.2.2.2.1, x47.2.2.2.2.1, x47.2.2.2.2.2.1, (x47.2.2.2.2.2.2.1.1, x47.2.2.2.2.2.2.1.2.1, x47.2.2.2.2.2.2.1.2.2.1, x47.2.2.2.2.2.2.1.2.2.2.1, x47.2.2.2.2.2.2.1.2.2.2.2.1, x47.2.2.2.2.2.2.1.2.2.2.2.2.1, y48.2), x47.2.2.2.2.2.2.2)
 idx u49 s2.2.2 fun _ =>
(u49[(s2.2.2 : Int).toNat]?).bind fun x50 =>
 let u51 : (List T_Effect.D) := u49.set (s2.2.2 : Int).toNat (x50.1, x50.2.1, x50.2.2.1, x50.2.2.2.1, x50.2.2.2.2.1, x50.2.2.2.2.2.1, x50.2.2.2.2.2.2.1, y48.1, x50.2.2.2.2.2.2.2.2)
 idx u51 s2.2.2 fun _ =>
(u51[(s2.2.2 : Int).toNat]?).bind fun x52 =>
 let u53 : (List T_Effect.D) := u51.set (s2.2.2 : Int).toNat (x52.1, x52.2.1, x52.2.2.1, x52.2.2.2.1, x52.2.2.2.2.1, x52.2.2.2.2.2.1, x52.2.2.2.2.2.2.1, x52.2.2.2.2.2.2.2.1, IntKind.wrap .i64 (y48.1 + 1), ())
 some (.inl (u53, IntKind.wrap .i64 ((IntKind.wrap .i64 (y48.1 + 1)) + 1), IntKind.wrap .i64 (s2.2.2 + 1)))))
 else (
 some (.inr s2))
def laws_markEffectS (a0 : (List T_Effect.D)) (a1 : Int) : Option (Int × ((List T_Effect.D) × Unit)) :=
(while_ (laws_markEffectS_l1) (a0, a1, 0)).bind fun o54 =>
 some (o54.2.1, (o54.1, ()))
def laws_markEffectS_h : Hints := (.node none none .none (.node none none (.node none none .none (.node none none (.node none (some ⟨[.tmpO 0 1 (.slice T_Effect), .tmp 1 (.int .i64), .tmp 5 (.int .i64)], [some 0], none, []⟩) (.node none none .none (.node none none (.node none none (.node none none .none (.node none none .none (.node none none .none (.node none none .none (.node none none .none (.node none none .none (.node none none .none (.node none none .none (.node none none .none (.node none none .none (.node none none .none (.node none none .none (.node none none .none (.node none none .none (.node none none .none (.node none none .none (.node none none .none (.node none none .none (.node none none .none (.node none none .none (.node none none .none (.node none none .none (.node none none .none (.node none none .none (.node none none .none (.node none none .none (.node none none .none (.node none none .none (.node none none .none (.node none none .none (.node none none .none (.node none none .none (.node none none .none (.node none none .none (.node none none .none (.node none none .none (.node none none .none (.node none none .none (.node none none (.node none (some ⟨[], [], none, [(5, 0)]⟩) .none .none) .none))))))))))))))))))))))))))))))))))))))) .none) .none)) .none) .none)) .none))
def laws_markEffectS_c : Ct := .mut [.lent, .rd] true true (.pair (.slice T_Effect) (.pair (.int .i64) .unit)) (.int .i64) (fun x => laws_markEffectS x.1 x.2.1)
theorem laws_markEffectS_ct : CtOk Try.prog 102 laws_markEffectS_c := mut_ct (E := { T := tab, G := [(52, laws_markEventS_c)] }) (EnvOk.cons laws_markEventS_ct (EnvOk.nil tabOk)) mixed (fn := Try.f102) _ _ _ _ _ _ laws_markEffectS_h Try.func102 (by kernel_rfl) (fun x => by kernel_rfl)
/-! loop.example/g00486/laws.markIntS -/
def laws_markIntS_l1 : ((List Int) × (Int × Int)) → Option (((List Int) × (Int × Int)) ⊕ ((List Int) × (Int × Int))) := fun s2 =>
 bif decide (s2.2.2 < (s2.1.length : Int)) then (
 idx s2.1 s2.2.2 fun _ =>
(s2.1[(s2.2.2 : Int).toNat]?).bind fun x3 =>
 let u4 : (List Int) := s2.1.set (s2.2.2 : Int).toNat s2.2.1
 some (.inl (u4, IntKind.wrap .i64 (s2.2.1 + 1), IntKind.wrap .i64 (s2.2.2 + 1))))
 else (
 some (.inr s2))
def laws_markIntS (a0 : (List Int)) (a1 : Int) : Option (Int × ((List Int) × Unit)) :=
(while_ (laws_markIntS_l1) (a0, a1, 0)).bind fun o5 =>
 some (o5.2.1, (o5.1, ()))
def laws_markIntS_h : Hints := (.node none none .none (.node none none (.node none none .none (.node none none (.node none (some ⟨[.tmpO 0 1 (.slice (.int .i64)), .tmp 1 (.int .i64), .tmp 5 (.int .i64)], [some 0], none, []⟩) .none .none) .none)) .none))
def laws_markIntS_c : Ct := .mut [.lent, .rd] true true (.pair (.slice (.int .i64)) (.pair (.int .i64) .unit)) (.int .i64) (fun x => laws_markIntS x.1 x.2.1)
theorem laws_markIntS_ct : CtOk Try.prog 43 laws_markIntS_c := mut_ct (E := { T := tab, G := [] }) (EnvOk.nil tabOk) mixed (fn := Try.f43) _ _ _ _ _ _ laws_markIntS_h Try.func43 (by kernel_rfl) (fun x => by kernel_rfl)
/-! loop.example/g00486/laws.markTurnS -/
def laws_markTurnS_l1 : ((List T_Turn.D) × (Int × Int)) → Option (((List T_Turn.D) × (Int × Int)) ⊕ ((List T_Turn.D) × (Int × Int))) := fun s2 =>
 bif decide (s2.2.2 < (s2.1.length : Int)) then (
 idx s2.1 s2.2.2 fun _ =>
(s2.1[(s2.2.2 : Int).toNat]?).bind fun x3 =>
 let u4 : (List T_Turn.D) := s2.1.set (s2.2.2 : Int).toNat (s2.2.1, x3.2)
 idx u4 s2.2.2 fun _ =>
(u4[(s2.2.2 : Int).toNat]?).bind fun x5 =>
 let u6 : (List T_Turn.D) := u4.set (s2.2.2 : Int).toNat (x5.1, IntKind.wrap .i64 (s2.2.1 + 1), x5.2.2)
 idx u6 s2.2.2 fun _ =>
(u6[(s2.2.2 : Int).toNat]?).bind fun x7 =>
 let u8 : (List T_Turn.D) := u6.set (s2.2.2 : Int).toNat (x7.1, x7.2.1, IntKind.wrap .i64 ((IntKind.wrap .i64 (s2.2.1 + 1)) + 1), x7.2.2.2)
 let k9 : Int := IntKind.wrap .i64 ((IntKind.wrap .i64 ((IntKind.wrap .i64 (s2.2.1 + 1)) + 1)) + 1)
 idx u8 s2.2.2 fun _ =>
(u8[(s2.2.2 : Int).toNat]?).bind fun x10 =>
 let u11 : (List T_Turn.D) := u8.set (s2.2.2 : Int).toNat (x10.1, x10.2.1, x10.2.2.1, k9, x10.2.2.2.2)
 idx u11 s2.2.2 fun _ =>
(u11[(s2.2.2 : Int).toNat]?).bind fun x12 =>
 let u13 : (List T_Turn.D) := u11.set (s2.2.2 : Int).toNat (x12.1, x12.2.1, x12.2.2.1, x12.2.2.2.1, (IntKind.wrap .i64 (k9 + 1), x12.2.2.2.2.1.2), x12.2.2.2.2.2)
 idx u13 s2.2.2 fun _ =>
(u13[(s2.2.2 : Int).toNat]?).bind fun x14 =>
 let u15 : (List T_Turn.D) := u13.set (s2.2.2 : Int).toNat (x14.1, x14.2.1, x14.2.2.1, x14.2.2.2.1, (x14.2.2.2.2.1.1, IntKind.wrap .i64 ((IntKind.wrap .i64 (k9 + 1)) + 1), x14.2.2.2.2.1.2.2), x14.2.2.2.2.2)
 let k16 : Int := IntKind.wrap .i64 ((IntKind.wrap .i64 ((IntKind.wrap .i64 (k9 + 1)) + 1)) + 1)
 idx u15 s2.2.2 fun _ =>
(u15[(s2.2.2 : Int).toNat]?).bind fun x17 =>
 let u18 : (List T_Turn.D) := u15.set (s2.2.2 : Int).toNat (x17.1, x17.2.1, x17.2.2.1, x17.2.2.2.1, (x17.2.2.2.2.1.1, x17.2.2.2.2.1.2.1, k16, x17.2.2.2.2.1.2.2.2), x17.2.2.2.2.2)
 idx u18 s2.2.2 fun _ =>
(u18[(s2.2.2 : Int).toNat]?).bind fun x19 =>
 let u20 : (List T_Turn.D) := u18.set (s2.2.2 : Int).toNat (x19.1, x19.2.1, x19.2.2.1, x19.2.2.2.1, (x19.2.2.2.2.1.1, x19.2.2.2.2.1.2.1, x19.2.2.2.2.1.2.2.1, IntKind.wrap .i64 (k16 + 1), x19.2.2.2.2.1.2.2.2.2), x19.2.2.2.2.2)
 idx u20 s2.2.2 fun _ =>
(u20[(s2.2.2 : Int).toNat]?).bind fun x21 =>
 let u22 : (List T_Turn.D) := u20.set (s2.2.2 : Int).toNat (x21.1, x21.2.1, x21.2.2.1, x21.2.2.2.1, (x21.2.2.2.2.1.1, x21.2.2.2.2.1.2.1, x21.2.2.2.2.1.2.2.1, x21.2.2.2.2.1.2.2.2.1, IntKind.wrap .i64 ((IntKind.wrap .i64 (k16 + 1)) + 1), x21.2.2.2.2.1.2.2.2.2.2), x21.2.2.2.2.2)
 let k23 : Int := IntKind.wrap .i64 ((IntKind.wrap .i64 ((IntKind.wrap .i64 (k16 + 1)) + 1)) + 1)
 idx u22 s2.2.2 fun _ =>
(u22[(s2.2.2 : Int).toNat]?).bind fun x24 =>
 let u25 : (List T_Turn.D) := u22.set (s2.2.2 : Int).toNat (x24.1, x24.2.1, x24.2.2.1, x24.2.2.2.1, (x24.2.2.2.2.1.1, x24.2.2.2.2.1.2.1, x24.2.2.2.2.1.2.2.1, x24.2.2.2.2.1.2.2.2.1, x24.2.2.2.2.1.2.2.2.2.1, k23, x24.2.2.2.2.1.2.2.2.2.2.2), x24.2.2.2.2.2)
 if 3 = 0 then none else (
 idx u25 s2.2.2 fun _ =>
(u25[(s2.2.2 : Int).toNat]?).bind fun x26 =>
 let u27 : (List T_Turn.D) := u25.set (s2.2.2 : Int).toNat (x26.1, x26.2.1, x26.2.2.1, x26.2.2.2.1, (x26.2.2.2.2.1.1, x26.2.2.2.2.1.2.1, x26.2.2.2.2.1.2.2.1, x26.2.2.2.2.1.2.2.2.1, x26.2.2.2.2.1.2.2.2.2.1, x26.2.2.2.2.1.2.2.2.2.2.1, (((IntKind.wrap .i64 (k23 + 1)).tmod 3) == 0), ()), x26.2.2.2.2.2)
 idx u27 s2.2.2 fun _ =>
(u27[(s2.2.2 : Int).toNat]?).bind fun x28 =>
(laws_markEventS x28.2.2.2.2.2.1 (IntKind.wrap .i64 ((IntKind.wrap .i64 (k23 + 1)) + 1))).bind fun y29 =>
 let u30 : (List T_Turn.D) := u27.set (s2.2.2 : Int).toNat (x28.1, x28.2.1, x28.2.2.1, x28.2.2.2.1, x28.2.2.2.2.1, y29.2.1, x28.2.2.2.2.2.2)
 idx u30 s2.2.2 fun _ =>
(u30[(s2.2.2 : Int).toNat]?).bind fun x31 =>
 let u32 : (List T_Turn.D) := u30.set (s2.2.2 : Int).toNat (x31.1, x31.2.1, x31.2.2.1, x31.2.2.2.1, x31.2.2.2.2.1, x31.2.2.2.2.2.1, y29.1, x31.2.2.2.2.2.2.2)
 idx u32 s2.2.2 fun _ =>
(u32[(s2.2.2 : Int).toNat]?).bind fun x33 =>
 let u34 : (List T_Turn.D) := u32.set (s2.2.2 : Int).toNat (x33.1, x33.2.1, x33.2.2.1, x33.2.2.2.1, x33.2.2.2.2.1, x33.2.2.2.2.2.1, x33.2.2.2.2.2.2.1, IntKind.wrap .i64 (y29.1 + 1), ())
 some (.inl (u34, IntKind.wrap .i64 ((IntKind.wrap .i64 (y29.1 + 1)) + 1), IntKind.wrap .i64 (s2.2.2 + 1)))))
 else (
 some (.inr s2))
def laws_markTurnS (a0 : (List T_Turn.D)) (a1 : Int) : Option (Int × ((List T_Turn.D) × Unit)) :=
(while_ (laws_markTurnS_l1) (a0, a1, 0)).bind fun o35 =>
 some (o35.2.1, (o35.1, ()))
def laws_markTurnS_h : Hints := (.node none none .none (.node none none (.node none none .none (.node none none (.node none (some ⟨[.tmpO 0 1 (.slice T_Turn), .tmp 1 (.int .i64), .tmp 5 (.int .i64)], [some 0], none, []⟩) (.node none none .none (.node none none (.node none none (.node none none .none (.node none none .none (.node none none .none (.node none none .none (.node none none .none (.node none none .none (.node none none .none (.node none none .none (.node none none .none (.node none none .none (.node none none .none (.node none none .none (.node none none .none (.node none none .none (.node none none .none (.node none none .none (.node none none .none (.node none none .none (.node none none .none (.node none none .none (.node none none .none (.node none none .none (.node none none (.node none (some ⟨[], [], none, [(4, 0)]⟩) .none .none) .none))))))))))))))))))))))) .none) .none)) .none) .none)) .none))
def laws_markTurnS_c : Ct := .mut [.lent, .rd] true true (.pair (.slice T_Turn) (.pair (.int .i64) .unit)) (.int .i64) (fun x => laws_markTurnS x.1 x.2.1)
theorem laws_markTurnS_ct : CtOk Try.prog 201 laws_markTurnS_c := mut_ct (E := { T := tab, G := [(52, laws_markEventS_c)] }) (EnvOk.cons laws_markEventS_ct (EnvOk.nil tabOk)) mixed (fn := Try.f201) _ _ _ _ _ _ laws_markTurnS_h Try.func201 (by kernel_rfl) (fun x => by kernel_rfl)
/-! loop.example/g00486/laws.markFate -/
def laws_markFate (a0 : T_Fate.D) (a1 : Int) : Option (Int × (T_Fate.D × Unit)) :=
(laws_markEventS a0.1 a1).bind fun y1 =>
(laws_markEffectS a0.2.1 y1.1).bind fun y2 =>
(laws_markIntS a0.2.2.1 y2.1).bind fun y3 =>
(laws_markTurnS a0.2.2.2.1 y3.1).bind fun y4 =>
 some (y4.1, ((y1.2.1, y2.2.1, y3.2.1, y4.2), ()))
def laws_markFate_c : Ct := .mut [.lent, .rd] true true (.pair T_Fate (.pair (.int .i64) .unit)) (.int .i64) (fun x => laws_markFate x.1 x.2.1)
theorem laws_markFate_ct : CtOk Try.prog 91 laws_markFate_c := mut_ct (E := { T := tab, G := [(43, laws_markIntS_c), (52, laws_markEventS_c), (102, laws_markEffectS_c), (201, laws_markTurnS_c)] }) (EnvOk.cons laws_markIntS_ct (EnvOk.cons laws_markEventS_ct (EnvOk.cons laws_markEffectS_ct (EnvOk.cons laws_markTurnS_ct (EnvOk.nil tabOk))))) mixed (fn := Try.f91) _ _ _ _ _ _ .none Try.func91 (by kernel_rfl) (fun x => by kernel_rfl)
/-! loop.example/g00486/laws.heldEventS -/
def laws_heldEventS_l1 (a0 : (List T_Event.D)) : (Int × Int) → Option ((Int × Int) ⊕ ((Int × Int) ⊕ Int)) := fun s1 =>
 bif decide (s1.2 < (a0.length : Int)) then (
 idx a0 s1.2 fun x2 =>
 bif (x2.1 != s1.1) then (
 some (.inr (.inr (-1))))
 else (
 idx a0 s1.2 fun x3 =>
 bif (x3.2.1 != (IntKind.wrap .i64 (s1.1 + 1))) then (
 some (.inr (.inr (-1))))
 else (
 idx a0 s1.2 fun x4 =>
 bif (x4.2.2.1 != (IntKind.wrap .i64 ((IntKind.wrap .i64 (s1.1 + 1)) + 1))) then (
 some (.inr (.inr (-1))))
 else (
 let k5 : Int := IntKind.wrap .i64 ((IntKind.wrap .i64 ((IntKind.wrap .i64 (s1.1 + 1)) + 1)) + 1)
 idx a0 s1.2 fun x6 =>
 bif (x6.2.2.2.1 != k5) then (
 some (.inr (.inr (-1))))
 else (
 idx a0 s1.2 fun x7 =>
 bif (x7.2.2.2.2.1 != (IntKind.wrap .i64 (k5 + 1))) then (
 some (.inr (.inr (-1))))
 else (
 idx a0 s1.2 fun x8 =>
 bif (x8.2.2.2.2.2.1 != (IntKind.wrap .i64 ((IntKind.wrap .i64 (k5 + 1)) + 1))) then (
 some (.inr (.inr (-1))))
 else (
 let k9 : Int := IntKind.wrap .i64 ((IntKind.wrap .i64 ((IntKind.wrap .i64 (k5 + 1)) + 1)) + 1)
 idx a0 s1.2 fun x10 =>
 if 3 = 0 then none else (
 bif (x10.2.2.2.2.2.2.1 != ((k9.tmod 3) == 0)) then (
 some (.inr (.inr (-1))))
 else (
 some (.inl (IntKind.wrap .i64 (k9 + 1), IntKind.wrap .i64 (s1.2 + 1))))))))))))
 else (
 some (.inr (.inl s1)))
def laws_heldEventS (a0 : (List T_Event.D)) (a1 : Int) : Option Int :=
(while_ (laws_heldEventS_l1 a0) (a1, 0)).bind fun o11 =>
 match o11 with
| .inl s12 => (
 some s12.1)
| .inr o13 => (
 some o13)
def laws_heldEventS_h : Hints := (.node none none .none (.node none none (.node none none .none (.node none none (.node none (some ⟨[.tmp 1 (.int .i64), .tmp 5 (.int .i64)], [some 0], some [.tmp 4 (.int .i64)], []⟩) .none .none) .none)) .none))
def laws_heldEventS_c : Ct := .pure true false (.pair (.slice T_Event) (.pair (.int .i64) .unit)) (.int .i64) (fun x => laws_heldEventS x.1 x.2.1)
theorem laws_heldEventS_ct : CtOk Try.prog 92 laws_heldEventS_c := pure_ct (E := { T := tab, G := [] }) (EnvOk.nil tabOk) mixed (fn := Try.f92) _ _ _ _ _ laws_heldEventS_h Try.func92 (by kernel_rfl) (fun x => by kernel_rfl)
/-! loop.example/g00486/laws.FnExactLeftOf -/
def laws_FnExactLeftOf (a0 : T_Fate.D) (a1 : Int) : Option Bool :=
(laws_szFate a0 1048576).bind fun y1 =>
 bif decide (y1 < 0) then (
 some true)
 else (
(laws_toFate a0).bind fun y2 =>
(spec_LeftOf y2 a1).bind fun y3 =>
(laws_toFate a0).bind fun y4 =>
(impl_LeftOf y4 a1).bind fun y5 =>
(laws_eqEventS y5 y3).bind fun y6 =>
 bif (!y6) then (
 some false)
 else (
(laws_toFate a0).bind fun y7 =>
(laws_eqFate y4 y7).bind fun y8 =>
 bif (!y8) then (
 some false)
 else (
(laws_markFate y4 1).bind fun y9 =>
((bif decide (y9.1 < 0) then (
 some true)
 else (
(laws_eqEventS y5 y3).bind fun y10 =>
 some (!y10))) : Option Bool).bind fun o11 =>
 bif o11 then (
 some false)
 else (
(laws_markEventS y5 1).bind fun y12 =>
(laws_heldEventS y12.2.1 1).bind fun y13 =>
 bif decide (y13 < 0) then (
 some false)
 else (
 bif (y13 != y12.1) then (
 some false)
 else (
(laws_toFate a0).bind fun y14 =>
(impl_LeftOf y14 a1).bind fun y15 =>
(laws_eqEventS y15 y3).bind fun y16 =>
 bif (!y16) then (
 some false)
 else (
(laws_heldEventS y12.2.1 1).bind fun y17 =>
 bif decide (y17 < 0) then (
 some false)
 else (
 bif (y17 != y12.1) then (
 some false)
 else (
 some true)))))))))
def laws_FnExactLeftOf_h : Hints := (.node none none .none (.node none none .none (.node none none .none (.node none none .none (.node none none .none (.node none none .none (.node none none .none (.node none none .none (.node none none .none (.node none none .none (.node none none .none (.node none none (.node none none (.node (some ⟨[.tmp 46 .bool], [none], none, []⟩) none .none .none) .none) .none))))))))))))
def laws_FnExactLeftOf_c : Ct := .pure true false (.pair T_Fate (.pair (.int .i64) .unit)) .bool (fun x => laws_FnExactLeftOf x.1 x.2.1)
theorem laws_FnExactLeftOf_ct : CtOk Try.prog 10 laws_FnExactLeftOf_c := pure_ct (E := { T := tab, G := [(51, laws_eqEventS_c), (52, laws_markEventS_c), (86, laws_szFate_c), (87, spec_LeftOf_fresh_c), (88, laws_toFate_fresh_c), (89, impl_LeftOf_fresh_c), (90, laws_eqFate_c), (91, laws_markFate_c), (92, laws_heldEventS_c)] }) (EnvOk.cons laws_eqEventS_ct (EnvOk.cons laws_markEventS_ct (EnvOk.cons laws_szFate_ct (EnvOk.cons spec_LeftOf_fresh_ct (EnvOk.cons laws_toFate_fresh_ct (EnvOk.cons impl_LeftOf_fresh_ct (EnvOk.cons laws_eqFate_ct (EnvOk.cons laws_markFate_ct (EnvOk.cons laws_heldEventS_ct (EnvOk.nil tabOk)))))))))) mixed (fn := Try.f10) _ _ _ _ _ laws_FnExactLeftOf_h Try.func10 (by kernel_rfl) (fun x => by kernel_rfl)
/-! loop.example/g00486/laws.szPieceS -/
def laws_szPieceS (a0 : (List T_Piece.D)) (a1 : Int) : Option Int :=
 bif decide ((IntKind.wrap .i64 (a1 - (a0.length : Int))) < 0) then (
 some (-1))
 else (
 some (IntKind.wrap .i64 (a1 - (a0.length : Int))))
def laws_szPieceS_c : Ct := .pure true false (.pair (.slice T_Piece) (.pair (.int .i64) .unit)) (.int .i64) (fun x => laws_szPieceS x.1 x.2.1)
theorem laws_szPieceS_ct : CtOk Try.prog 140 laws_szPieceS_c := pure_ct (E := { T := tab, G := [] }) (EnvOk.nil tabOk) mixed (fn := Try.f140) _ _ _ _ _ .none Try.func140 (by kernel_rfl) (fun x => by kernel_rfl)
/-! loop.example/g00486/laws.szSideS -/
def laws_szSideS (a0 : (List T_Side.D)) (a1 : Int) : Option Int :=
 bif decide ((IntKind.wrap .i64 (a1 - (a0.length : Int))) < 0) then (
 some (-1))
 else (
 some (IntKind.wrap .i64 (a1 - (a0.length : Int))))
def laws_szSideS_c : Ct := .pure true false (.pair (.slice T_Side) (.pair (.int .i64) .unit)) (.int .i64) (fun x => laws_szSideS x.1 x.2.1)
theorem laws_szSideS_ct : CtOk Try.prog 141 laws_szSideS_c := pure_ct (E := { T := tab, G := [] }) (EnvOk.nil tabOk) mixed (fn := Try.f141) _ _ _ _ _ .none Try.func141 (by kernel_rfl) (fun x => by kernel_rfl)
/-! loop.example/g00486/laws.szState -/
def laws_szState (a0 : T_State.D) (a1 : Int) : Option Int :=
(laws_szPieceS a0.1 a1).bind fun y1 =>
 bif decide (y1 < 0) then (
 some (-1))
 else (
(laws_szSideS a0.2.1 y1).bind fun y2 =>
 bif decide (y2 < 0) then (
 some (-1))
 else (
 some y2))
def laws_szState_c : Ct := .pure true false (.pair T_State (.pair (.int .i64) .unit)) (.int .i64) (fun x => laws_szState x.1 x.2.1)
theorem laws_szState_ct : CtOk Try.prog 33 laws_szState_c := pure_ct (E := { T := tab, G := [(140, laws_szPieceS_c), (141, laws_szSideS_c)] }) (EnvOk.cons laws_szPieceS_ct (EnvOk.cons laws_szSideS_ct (EnvOk.nil tabOk))) mixed (fn := Try.f33) _ _ _ _ _ .none Try.func33 (by kernel_rfl) (fun x => by kernel_rfl)
/-! loop.example/g00486/laws.toPiece -/
def laws_toPiece (a0 : T_Piece.D) : Option T_Piece.D :=
 some a0
def laws_toPiece_c : Ct := .pure true false (.pair T_Piece .unit) T_Piece (fun x => laws_toPiece x.1)
theorem laws_toPiece_ct : CtOk Try.prog 241 laws_toPiece_c := pure_ct (E := { T := tab, G := [] }) (EnvOk.nil tabOk) mixed (fn := Try.f241) _ _ _ _ _ .none Try.func241 (by kernel_rfl) (fun x => by kernel_rfl)
/-! loop.example/g00486/laws.toPieceS -/
def laws_toPieceS_l1 (a0 : (List T_Piece.D)) : ((List T_Piece.D) × Int) → Option (((List T_Piece.D) × Int) ⊕ ((List T_Piece.D) × Int)) := fun s2 =>
 bif decide (s2.2 < (a0.length : Int)) then (
 idx a0 s2.2 fun x3 =>
(laws_toPiece x3).bind fun y4 =>
 idx s2.1 s2.2 fun _ =>
(s2.1[(s2.2 : Int).toNat]?).bind fun x5 =>
 let u6 : (List T_Piece.D) := s2.1.set (s2.2 : Int).toNat y4
 some (.inl (u6, IntKind.wrap .i64 (s2.2 + 1))))
 else (
 some (.inr s2))
def laws_toPieceS (a0 : (List T_Piece.D)) : Option (List T_Piece.D) :=
 if 0 ≤ (a0.length : Int) then (if ((a0.length : Int)).toNat * (24 * 13) ≤ room then (
(while_ (laws_toPieceS_l1 a0) ((List.replicate ((a0.length : Int)).toNat (0, 0, 0, 0, 0, 0, 0, 0, 0, 0, 0, false, false, ())), 0)).bind fun o7 =>
 some o7.1) else none) else none
def laws_toPieceS_h : Hints := (.node none none .none (.node none none .none (.node none none (.node none none .none (.node none none (.node none (some ⟨[.tmpO 3 0 (.slice T_Piece), .tmp 4 (.int .i64)], [some 0], none, []⟩) .none .none) .none)) .none)))
def laws_toPieceS_c : Ct := .pure true false (.pair (.slice T_Piece) .unit) (.slice T_Piece) (fun x => laws_toPieceS x.1)
theorem laws_toPieceS_ct : CtOk Try.prog 142 laws_toPieceS_c := pure_ct (E := { T := tab, G := [(241, laws_toPiece_c)] }) (EnvOk.cons laws_toPiece_ct (EnvOk.nil tabOk)) mixed (fn := Try.f142) _ _ _ _ _ laws_toPieceS_h Try.func142 (by kernel_rfl) (fun x => by kernel_rfl)
def laws_toPieceS_fresh_c : Ct := .pure true true (.pair (.slice T_Piece) .unit) (.slice T_Piece) (fun x => laws_toPieceS x.1)
theorem laws_toPieceS_fresh_ct : CtOk Try.prog 142 laws_toPieceS_fresh_c := pure_ct (E := { T := tab, G := [(241, laws_toPiece_c)] }) (EnvOk.cons laws_toPiece_ct (EnvOk.nil tabOk)) mixed (fn := Try.f142) _ _ _ _ _ laws_toPieceS_h Try.func142 (by kernel_rfl) (fun x => by kernel_rfl)
/-! loop.example/g00486/laws.toSide -/
def laws_toSide (a0 : T_Side.D) : Option T_Side.D :=
 some a0
def laws_toSide_c : Ct := .pure true false (.pair T_Side .unit) T_Side (fun x => laws_toSide x.1)
theorem laws_toSide_ct : CtOk Try.prog 242 laws_toSide_c := pure_ct (E := { T := tab, G := [] }) (EnvOk.nil tabOk) mixed (fn := Try.f242) _ _ _ _ _ .none Try.func242 (by kernel_rfl) (fun x => by kernel_rfl)
/-! loop.example/g00486/laws.toSideS -/
def laws_toSideS_l1 (a0 : (List T_Side.D)) : ((List T_Side.D) × Int) → Option (((List T_Side.D) × Int) ⊕ ((List T_Side.D) × Int)) := fun s2 =>
 bif decide (s2.2 < (a0.length : Int)) then (
 idx a0 s2.2 fun x3 =>
(laws_toSide x3).bind fun y4 =>
 idx s2.1 s2.2 fun _ =>
(s2.1[(s2.2 : Int).toNat]?).bind fun x5 =>
 let u6 : (List T_Side.D) := s2.1.set (s2.2 : Int).toNat y4
 some (.inl (u6, IntKind.wrap .i64 (s2.2 + 1))))
 else (
 some (.inr s2))
def laws_toSideS (a0 : (List T_Side.D)) : Option (List T_Side.D) :=
 if 0 ≤ (a0.length : Int) then (if ((a0.length : Int)).toNat * (24 * 3) ≤ room then (
(while_ (laws_toSideS_l1 a0) ((List.replicate ((a0.length : Int)).toNat (0, 0, false, ())), 0)).bind fun o7 =>
 some o7.1) else none) else none
def laws_toSideS_h : Hints := (.node none none .none (.node none none .none (.node none none (.node none none .none (.node none none (.node none (some ⟨[.tmpO 3 0 (.slice T_Side), .tmp 4 (.int .i64)], [some 0], none, []⟩) .none .none) .none)) .none)))
def laws_toSideS_c : Ct := .pure true false (.pair (.slice T_Side) .unit) (.slice T_Side) (fun x => laws_toSideS x.1)
theorem laws_toSideS_ct : CtOk Try.prog 143 laws_toSideS_c := pure_ct (E := { T := tab, G := [(242, laws_toSide_c)] }) (EnvOk.cons laws_toSide_ct (EnvOk.nil tabOk)) mixed (fn := Try.f143) _ _ _ _ _ laws_toSideS_h Try.func143 (by kernel_rfl) (fun x => by kernel_rfl)
def laws_toSideS_fresh_c : Ct := .pure true true (.pair (.slice T_Side) .unit) (.slice T_Side) (fun x => laws_toSideS x.1)
theorem laws_toSideS_fresh_ct : CtOk Try.prog 143 laws_toSideS_fresh_c := pure_ct (E := { T := tab, G := [(242, laws_toSide_c)] }) (EnvOk.cons laws_toSide_ct (EnvOk.nil tabOk)) mixed (fn := Try.f143) _ _ _ _ _ laws_toSideS_h Try.func143 (by kernel_rfl) (fun x => by kernel_rfl)
/-! loop.example/g00486/laws.toState -/
def laws_toState (a0 : T_State.D) : Option T_State.D :=
(laws_toPieceS a0.1).bind fun y1 =>
(laws_toSideS a0.2.1).bind fun y2 =>
 some (y1, y2, a0.2.2)
def laws_toState_c : Ct := .pure true false (.pair T_State .unit) T_State (fun x => laws_toState x.1)
theorem laws_toState_ct : CtOk Try.prog 35 laws_toState_c := pure_ct (E := { T := tab, G := [(142, laws_toPieceS_fresh_c), (143, laws_toSideS_fresh_c)] }) (EnvOk.cons laws_toPieceS_fresh_ct (EnvOk.cons laws_toSideS_fresh_ct (EnvOk.nil tabOk))) mixed (fn := Try.f35) _ _ _ _ _ .none Try.func35 (by kernel_rfl) (fun x => by kernel_rfl)
def laws_toState_fresh_c : Ct := .pure true true (.pair T_State .unit) T_State (fun x => laws_toState x.1)
theorem laws_toState_fresh_ct : CtOk Try.prog 35 laws_toState_fresh_c := pure_ct (E := { T := tab, G := [(142, laws_toPieceS_fresh_c), (143, laws_toSideS_fresh_c)] }) (EnvOk.cons laws_toPieceS_fresh_ct (EnvOk.cons laws_toSideS_fresh_ct (EnvOk.nil tabOk))) mixed (fn := Try.f35) _ _ _ _ _ .none Try.func35 (by kernel_rfl) (fun x => by kernel_rfl)
/-! loop.example/g00486/spec.l5Copy -/
def spec_l5Copy (a0 : T_State.D) : Option T_State.D :=
 if (([] : List T_Piece.D).length + a0.1.length) * (24 * 13) ≤ room then (
 if (([] : List T_Side.D).length + a0.2.1.length) * (24 * 3) ≤ room then (
 some (([] ++ a0.1), ([] ++ a0.2.1), a0.2.2)) else none) else none
def spec_l5Copy_c : Ct := .pure true false (.pair T_State .unit) T_State (fun x => spec_l5Copy x.1)
theorem spec_l5Copy_ct : CtOk Try.prog 150 spec_l5Copy_c := pure_ct (E := { T := tab, G := [] }) (EnvOk.nil tabOk) mixed (fn := Try.f150) _ _ _ _ _ .none Try.func150 (by kernel_rfl) (fun x => by kernel_rfl)
def spec_l5Copy_fresh_c : Ct := .pure true true (.pair T_State .unit) T_State (fun x => spec_l5Copy x.1)
theorem spec_l5Copy_fresh_ct : CtOk Try.prog 150 spec_l5Copy_fresh_c := pure_ct (E := { T := tab, G := [] }) (EnvOk.nil tabOk) mixed (fn := Try.f150) _ _ _ _ _ .none Try.func150 (by kernel_rfl) (fun x => by kernel_rfl)
/-! loop.example/g00486/spec.l9Copy -/
def spec_l9Copy (a0 : T_Act.D) : Option T_Act.D :=
 if (([] : List T_Event.D).length + a0.2.2.2.2.2.2.1.length) * (24 * 7) ≤ room then (
 some (a0.1, a0.2.1, a0.2.2.1, a0.2.2.2.1, a0.2.2.2.2.1, a0.2.2.2.2.2.1, ([] ++ a0.2.2.2.2.2.2.1), ())) else none
def spec_l9Copy_c : Ct := .pure true false (.pair T_Act .unit) T_Act (fun x => spec_l9Copy x.1)
theorem spec_l9Copy_ct : CtOk Try.prog 289 spec_l9Copy_c := pure_ct (E := { T := tab, G := [] }) (EnvOk.nil tabOk) mixed (fn := Try.f289) _ _ _ _ _ .none Try.func289 (by kernel_rfl) (fun x => by kernel_rfl)
def spec_l9Copy_fresh_c : Ct := .pure true true (.pair T_Act .unit) T_Act (fun x => spec_l9Copy x.1)
theorem spec_l9Copy_fresh_ct : CtOk Try.prog 289 spec_l9Copy_fresh_c := pure_ct (E := { T := tab, G := [] }) (EnvOk.nil tabOk) mixed (fn := Try.f289) _ _ _ _ _ .none Try.func289 (by kernel_rfl) (fun x => by kernel_rfl)
/-! loop.example/g00486/spec.l10Copy -/
def spec_l10Copy (a0 : T_Effect.D) : Option T_Effect.D :=
(spec_l9Copy a0.2.2.2.2.2.2.1).bind fun y1 =>
 some (a0.1, a0.2.1, a0.2.2.1, a0.2.2.2.1, a0.2.2.2.2.1, a0.2.2.2.2.2.1, y1, a0.2.2.2.2.2.2.2)
def spec_l10Copy_c : Ct := .pure true false (.pair T_Effect .unit) T_Effect (fun x => spec_l10Copy x.1)
theorem spec_l10Copy_ct : CtOk Try.prog 222 spec_l10Copy_c := pure_ct (E := { T := tab, G := [(289, spec_l9Copy_fresh_c)] }) (EnvOk.cons spec_l9Copy_fresh_ct (EnvOk.nil tabOk)) mixed (fn := Try.f222) _ _ _ _ _ .none Try.func222 (by kernel_rfl) (fun x => by kernel_rfl)
def spec_l10Copy_fresh_c : Ct := .pure true true (.pair T_Effect .unit) T_Effect (fun x => spec_l10Copy x.1)
theorem spec_l10Copy_fresh_ct : CtOk Try.prog 222 spec_l10Copy_fresh_c := pure_ct (E := { T := tab, G := [(289, spec_l9Copy_fresh_c)] }) (EnvOk.cons spec_l9Copy_fresh_ct (EnvOk.nil tabOk)) mixed (fn := Try.f222) _ _ _ _ _ .none Try.func222 (by kernel_rfl) (fun x => by kernel_rfl)
/-! loop.example/g00486/spec.l11Copy -/
def spec_l11Copy_l1 (a0 : (List T_Effect.D)) : ((List T_Effect.D) × Int) → Option (((List T_Effect.D) × Int) ⊕ ((List T_Effect.D) × Int)) := fun s1 =>
 bif decide (s1.2 < (a0.length : Int)) then (
 idx a0 s1.2 fun x2 =>
(spec_l10Copy x2).bind fun y3 =>
 if (s1.1.length + [y3].length) * (24 * 22) ≤ room then (
 some (.inl ((s1.1 ++ [y3]), IntKind.wrap .i64 (s1.2 + 1)))) else none)
 else (
 some (.inr s1))
def spec_l11Copy (a0 : (List T_Effect.D)) : Option (List T_Effect.D) :=
(while_ (spec_l11Copy_l1 a0) ([], 0)).bind fun o4 =>
 some o4.1
def spec_l11Copy_h : Hints := (.node none none .none (.node none none .none (.node none none (.node none none .none (.node none none (.node none (some ⟨[.tmpO 3 0 (.slice T_Effect), .tmp 4 (.int .i64)], [some 0], none, []⟩) .none .none) .none)) .none)))
def spec_l11Copy_c : Ct := .pure true false (.pair (.slice T_Effect) .unit) (.slice T_Effect) (fun x => spec_l11Copy x.1)
theorem spec_l11Copy_ct : CtOk Try.prog 210 spec_l11Copy_c := pure_ct (E := { T := tab, G := [(222, spec_l10Copy_fresh_c)] }) (EnvOk.cons spec_l10Copy_fresh_ct (EnvOk.nil tabOk)) mixed (fn := Try.f210) _ _ _ _ _ spec_l11Copy_h Try.func210 (by kernel_rfl) (fun x => by kernel_rfl)
def spec_l11Copy_fresh_c : Ct := .pure true true (.pair (.slice T_Effect) .unit) (.slice T_Effect) (fun x => spec_l11Copy x.1)
theorem spec_l11Copy_fresh_ct : CtOk Try.prog 210 spec_l11Copy_fresh_c := pure_ct (E := { T := tab, G := [(222, spec_l10Copy_fresh_c)] }) (EnvOk.cons spec_l10Copy_fresh_ct (EnvOk.nil tabOk)) mixed (fn := Try.f210) _ _ _ _ _ spec_l11Copy_h Try.func210 (by kernel_rfl) (fun x => by kernel_rfl)
/-! loop.example/g00486/spec.GameNew -/
def spec_GameNew (a0 : T_State.D) (a1 : (List T_Effect.D)) (a2 : (List Int)) : Option T_Game.D :=
(spec_l5Copy a0).bind fun y1 =>
(spec_l11Copy a1).bind fun y2 =>
 if (([] : List Int).length + a2.length) * (24 * 1) ≤ room then (
 some (y1, y2, ([] ++ a2), [], [], [], ())) else none
def spec_GameNew_c : Ct := .pure true false (.pair T_State (.pair (.slice T_Effect) (.pair (.slice (.int .i64)) .unit))) T_Game (fun x => spec_GameNew x.1 x.2.1 x.2.2.1)
theorem spec_GameNew_ct : CtOk Try.prog 97 spec_GameNew_c := pure_ct (E := { T := tab, G := [(150, spec_l5Copy_fresh_c), (210, spec_l11Copy_fresh_c)] }) (EnvOk.cons spec_l5Copy_fresh_ct (EnvOk.cons spec_l11Copy_fresh_ct (EnvOk.nil tabOk))) mixed (fn := Try.f97) _ _ _ _ _ .none Try.func97 (by kernel_rfl) (fun x => by kernel_rfl)
def spec_GameNew_fresh_c : Ct := .pure true true (.pair T_State (.pair (.slice T_Effect) (.pair (.slice (.int .i64)) .unit))) T_Game (fun x => spec_GameNew x.1 x.2.1 x.2.2.1)
theorem spec_GameNew_fresh_ct : CtOk Try.prog 97 spec_GameNew_fresh_c := pure_ct (E := { T := tab, G := [(150, spec_l5Copy_fresh_c), (210, spec_l11Copy_fresh_c)] }) (EnvOk.cons spec_l5Copy_fresh_ct (EnvOk.cons spec_l11Copy_fresh_ct (EnvOk.nil tabOk))) mixed (fn := Try.f97) _ _ _ _ _ .none Try.func97 (by kernel_rfl) (fun x => by kernel_rfl)
/-! slices.Clone[[]loop.example/g00486/impl.Piece,loop.example/g00486/impl.Piece] -/
def slices_Clone_impl_Piece (a0 : (List T_Piece.D)) : Option (List T_Piece.D) :=
 if (([] : List T_Piece.D).length + a0.length) * (24 * 13) ≤ room then (
 some ([] ++ a0)) else none
def slices_Clone_impl_Piece_c : Ct := .pure true false (.pair (.slice T_Piece) .unit) (.slice T_Piece) (fun x => slices_Clone_impl_Piece x.1)
theorem slices_Clone_impl_Piece_ct : CtOk Try.prog 250 slices_Clone_impl_Piece_c := nil_ct (E := { T := tab, G := [] }) (EnvOk.nil tabOk) mixed (fn := Try.f250) _ _ T_Piece _ _ .none .none Try.func250 (by kernel_rfl) (by kernel_rfl) (fun x => by kernel_rfl)
def slices_Clone_impl_Piece_fresh_c : Ct := .pure true true (.pair (.slice T_Piece) .unit) (.slice T_Piece) (fun x => slices_Clone_impl_Piece x.1)
theorem slices_Clone_impl_Piece_fresh_ct : CtOk Try.prog 250 slices_Clone_impl_Piece_fresh_c := nil_ct (E := { T := tab, G := [] }) (EnvOk.nil tabOk) mixed (fn := Try.f250) _ _ T_Piece _ _ .none .none Try.func250 (by kernel_rfl) (by kernel_rfl) (fun x => by kernel_rfl)
/-! slices.Clone[[]loop.example/g00486/impl.Side,loop.example/g00486/impl.Side] -/
def slices_Clone_impl_Side (a0 : (List T_Side.D)) : Option (List T_Side.D) :=
 if (([] : List T_Side.D).length + a0.length) * (24 * 3) ≤ room then (
 some ([] ++ a0)) else none
def slices_Clone_impl_Side_c : Ct := .pure true false (.pair (.slice T_Side) .unit) (.slice T_Side) (fun x => slices_Clone_impl_Side x.1)
theorem slices_Clone_impl_Side_ct : CtOk Try.prog 251 slices_Clone_impl_Side_c := nil_ct (E := { T := tab, G := [] }) (EnvOk.nil tabOk) mixed (fn := Try.f251) _ _ T_Side _ _ .none .none Try.func251 (by kernel_rfl) (by kernel_rfl) (fun x => by kernel_rfl)
def slices_Clone_impl_Side_fresh_c : Ct := .pure true true (.pair (.slice T_Side) .unit) (.slice T_Side) (fun x => slices_Clone_impl_Side x.1)
theorem slices_Clone_impl_Side_fresh_ct : CtOk Try.prog 251 slices_Clone_impl_Side_fresh_c := nil_ct (E := { T := tab, G := [] }) (EnvOk.nil tabOk) mixed (fn := Try.f251) _ _ T_Side _ _ .none .none Try.func251 (by kernel_rfl) (by kernel_rfl) (fun x => by kernel_rfl)
/-! loop.example/g00486/impl.copyState -/
def impl_copyState (a0 : T_State.D) : Option T_State.D :=
(slices_Clone_impl_Piece a0.1).bind fun y1 =>
(slices_Clone_impl_Side a0.2.1).bind fun y2 =>
 some (y1, y2, a0.2.2)
def impl_copyState_c : Ct := .pure true false (.pair T_State .unit) T_State (fun x => impl_copyState x.1)
theorem impl_copyState_ct : CtOk Try.prog 156 impl_copyState_c := pure_ct (E := { T := tab, G := [(250, slices_Clone_impl_Piece_fresh_c), (251, slices_Clone_impl_Side_fresh_c)] }) (EnvOk.cons slices_Clone_impl_Piece_fresh_ct (EnvOk.cons slices_Clone_impl_Side_fresh_ct (EnvOk.nil tabOk))) mixed (fn := Try.f156) _ _ _ _ _ .none Try.func156 (by kernel_rfl) (fun x => by kernel_rfl)
def impl_copyState_fresh_c : Ct := .pure true true (.pair T_State .unit) T_State (fun x => impl_copyState x.1)
theorem impl_copyState_fresh_ct : CtOk Try.prog 156 impl_copyState_fresh_c := pure_ct (E := { T := tab, G := [(250, slices_Clone_impl_Piece_fresh_c), (251, slices_Clone_impl_Side_fresh_c)] }) (EnvOk.cons slices_Clone_impl_Piece_fresh_ct (EnvOk.cons slices_Clone_impl_Side_fresh_ct (EnvOk.nil tabOk))) mixed (fn := Try.f156) _ _ _ _ _ .none Try.func156 (by kernel_rfl) (fun x => by kernel_rfl)
/-! loop.example/g00486/impl.copyEffect -/
def impl_copyEffect (a0 : T_Effect.D) : Option T_Effect.D :=
(slices_Clone_impl_Event a0.2.2.2.2.2.2.1.2.2.2.2.2.2.1).bind fun y1 =>
 some (a0.1, a0.2.1, a0.2.2.1, a0.2.2.2.1, a0.2.2.2.2.1, a0.2.2.2.2.2.1, (a0.2.2.2.2.2.2.1.1, a0.2.2.2.2.2.2.1.2.1, a0.2.2.2.2.2.2.1.2.2.1, a0.2.2.2.2.2.2.1.2.2.2.1, a0.2.2.2.2.2.2.1.2.2.2.2.1, a0.2.2.2.2.2.2.1.2.2.2.2.2.1, y1, ()), a0.2.2.2.2.2.2.2)
def impl_copyEffect_c : Ct := .pure true false (.pair T_Effect .unit) T_Effect (fun x => impl_copyEffect x.1)
theorem impl_copyEffect_ct : CtOk Try.prog 215 impl_copyEffect_c := pure_ct (E := { T := tab, G := [(159, slices_Clone_impl_Event_fresh_c)] }) (EnvOk.cons slices_Clone_impl_Event_fresh_ct (EnvOk.nil tabOk)) mixed (fn := Try.f215) _ _ _ _ _ .none Try.func215 (by kernel_rfl) (fun x => by kernel_rfl)
def impl_copyEffect_fresh_c : Ct := .pure true true (.pair T_Effect .unit) T_Effect (fun x => impl_copyEffect x.1)
theorem impl_copyEffect_fresh_ct : CtOk Try.prog 215 impl_copyEffect_fresh_c := pure_ct (E := { T := tab, G := [(159, slices_Clone_impl_Event_fresh_c)] }) (EnvOk.cons slices_Clone_impl_Event_fresh_ct (EnvOk.nil tabOk)) mixed (fn := Try.f215) _ _ _ _ _ .none Try.func215 (by kernel_rfl) (fun x => by kernel_rfl)
/-! loop.example/g00486/impl.copyTable -/
def impl_copyTable_l1 (a0 : (List T_Effect.D)) : ((List T_Effect.D) × Int) → Option (((List T_Effect.D) × Int) ⊕ ((List T_Effect.D) × Int)) := fun s1 =>
 bif decide (s1.2 < (a0.length : Int)) then (
 idx a0 s1.2 fun x2 =>
(impl_copyEffect x2).bind fun y3 =>
 if (s1.1.length + [y3].length) * (24 * 22) ≤ room then (
 some (.inl ((s1.1 ++ [y3]), IntKind.wrap .i64 (s1.2 + 1)))) else none)
 else (
 some (.inr s1))
def impl_copyTable (a0 : (List T_Effect.D)) : Option (List T_Effect.D) :=
(while_ (impl_copyTable_l1 a0) ([], 0)).bind fun o4 =>
 some o4.1
def impl_copyTable_h : Hints := (.node none none .none (.node none none .none (.node none none (.node none none .none (.node none none (.node none (some ⟨[.tmpO 3 0 (.slice T_Effect), .tmp 9 (.int .i64)], [some 0], none, []⟩) .none .none) .none)) .none)))
def impl_copyTable_c : Ct := .pure true false (.pair (.slice T_Effect) .unit) (.slice T_Effect) (fun x => impl_copyTable x.1)
theorem impl_copyTable_ct : CtOk Try.prog 204 impl_copyTable_c := pure_ct (E := { T := tab, G := [(215, impl_copyEffect_fresh_c)] }) (EnvOk.cons impl_copyEffect_fresh_ct (EnvOk.nil tabOk)) mixed (fn := Try.f204) _ _ _ _ _ impl_copyTable_h Try.func204 (by kernel_rfl) (fun x => by kernel_rfl)
def impl_copyTable_fresh_c : Ct := .pure true true (.pair (.slice T_Effect) .unit) (.slice T_Effect) (fun x => impl_copyTable x.1)
theorem impl_copyTable_fresh_ct : CtOk Try.prog 204 impl_copyTable_fresh_c := pure_ct (E := { T := tab, G := [(215, impl_copyEffect_fresh_c)] }) (EnvOk.cons impl_copyEffect_fresh_ct (EnvOk.nil tabOk)) mixed (fn := Try.f204) _ _ _ _ _ impl_copyTable_h Try.func204 (by kernel_rfl) (fun x => by kernel_rfl)
/-! slices.Clone[[]int,int] -/
def slices_Clone_int (a0 : (List Int)) : Option (List Int) :=
 if (([] : List Int).length + a0.length) * (24 * 1) ≤ room then (
 some ([] ++ a0)) else none
def slices_Clone_int_c : Ct := .pure true false (.pair (.slice (.int .i64)) .unit) (.slice (.int .i64)) (fun x => slices_Clone_int x.1)
theorem slices_Clone_int_ct : CtOk Try.prog 129 slices_Clone_int_c := nil_ct (E := { T := tab, G := [] }) (EnvOk.nil tabOk) mixed (fn := Try.f129) _ _ (.int .i64) _ _ .none .none Try.func129 (by kernel_rfl) (by kernel_rfl) (fun x => by kernel_rfl)
def slices_Clone_int_fresh_c : Ct := .pure true true (.pair (.slice (.int .i64)) .unit) (.slice (.int .i64)) (fun x => slices_Clone_int x.1)
theorem slices_Clone_int_fresh_ct : CtOk Try.prog 129 slices_Clone_int_fresh_c := nil_ct (E := { T := tab, G := [] }) (EnvOk.nil tabOk) mixed (fn := Try.f129) _ _ (.int .i64) _ _ .none .none Try.func129 (by kernel_rfl) (by kernel_rfl) (fun x => by kernel_rfl)
/-! loop.example/g00486/impl.GameNew -/
def impl_GameNew (a0 : T_State.D) (a1 : (List T_Effect.D)) (a2 : (List Int)) : Option T_Game.D :=
(impl_copyState a0).bind fun y1 =>
(impl_copyTable a1).bind fun y2 =>
(slices_Clone_int a2).bind fun y3 =>
 some (y1, y2, y3, [], [], [], ())
def impl_GameNew_c : Ct := .pure true false (.pair T_State (.pair (.slice T_Effect) (.pair (.slice (.int .i64)) .unit))) T_Game (fun x => impl_GameNew x.1 x.2.1 x.2.2.1)
theorem impl_GameNew_ct : CtOk Try.prog 99 impl_GameNew_c := pure_ct (E := { T := tab, G := [(129, slices_Clone_int_fresh_c), (156, impl_copyState_fresh_c), (204, impl_copyTable_fresh_c)] }) (EnvOk.cons slices_Clone_int_fresh_ct (EnvOk.cons impl_copyState_fresh_ct (EnvOk.cons impl_copyTable_fresh_ct (EnvOk.nil tabOk)))) mixed (fn := Try.f99) _ _ _ _ _ .none Try.func99 (by kernel_rfl) (fun x => by kernel_rfl)
def impl_GameNew_fresh_c : Ct := .pure true true (.pair T_State (.pair (.slice T_Effect) (.pair (.slice (.int .i64)) .unit))) T_Game (fun x => impl_GameNew x.1 x.2.1 x.2.2.1)
theorem impl_GameNew_fresh_ct : CtOk Try.prog 99 impl_GameNew_fresh_c := pure_ct (E := { T := tab, G := [(129, slices_Clone_int_fresh_c), (156, impl_copyState_fresh_c), (204, impl_copyTable_fresh_c)] }) (EnvOk.cons slices_Clone_int_fresh_ct (EnvOk.cons impl_copyState_fresh_ct (EnvOk.cons impl_copyTable_fresh_ct (EnvOk.nil tabOk)))) mixed (fn := Try.f99) _ _ _ _ _ .none Try.func99 (by kernel_rfl) (fun x => by kernel_rfl)
/-! loop.example/g00486/laws.eqPiece -/
def laws_eqPiece (a0 : T_Piece.D) (a1 : T_Piece.D) : Option Bool :=
 bif (a0.1 != a1.1) then (
 some false)
 else (
 bif (a0.2.1 != a1.2.1) then (
 some false)
 else (
 bif (a0.2.2.1 != a1.2.2.1) then (
 some false)
 else (
 bif (a0.2.2.2.1 != a1.2.2.2.1) then (
 some false)
 else (
 bif (a0.2.2.2.2.1 != a1.2.2.2.2.1) then (
 some false)
 else (
 bif (a0.2.2.2.2.2.1 != a1.2.2.2.2.2.1) then (
 some false)
 else (
 bif (a0.2.2.2.2.2.2.1 != a1.2.2.2.2.2.2.1) then (
 some false)
 else (
 bif (a0.2.2.2.2.2.2.2.1 != a1.2.2.2.2.2.2.2.1) then (
 some false)
 else (
 bif (a0.2.2.2.2.2.2.2.2.1 != a1.2.2.2.2.2.2.2.2.1) then (
 some false)
 else (
 bif (a0.2.2.2.2.2.2.2.2.2.1 != a1.2.2.2.2.2.2.2.2.2.1) then (
 some false)
 else (
 bif (a0.2.2.2.2.2.2.2.2.2.2.1 != a1.2.2.2.2.2.2.2.2.2.2.1) then (
 some false)
 else (
 bif (a0.2.2.2.2.2.2.2.2.2.2.2.1 != a1.2.2.2.2.2.2.2.2.2.2.2.1) then (
 some false)
 else (
 bif (a0.2.2.2.2.2.2.2.2.2.2.2.2.1 != a1.2.2.2.2.2.2.2.2.2.2.2.2.1) then (
 some false)
 else (
 some true)))))))))))))
def laws_eqPiece_c : Ct := .pure true false (.pair T_Piece (.pair T_Piece .unit)) .bool (fun x => laws_eqPiece x.1 x.2.1)
theorem laws_eqPiece_ct : CtOk Try.prog 243 laws_eqPiece_c := pure_ct (E := { T := tab, G := [] }) (EnvOk.nil tabOk) mixed (fn := Try.f243) _ _ _ _ _ .none Try.func243 (by kernel_rfl) (fun x => by kernel_rfl)
/-! loop.example/g00486/laws.eqPieceS -/
def laws_eqPieceS_l1 (a0 : (List T_Piece.D)) (a1 : (List T_Piece.D)) : Int → Option (Int ⊕ (Int ⊕ Bool)) := fun s1 =>
 bif decide (s1 < (a0.length : Int)) then (
 idx a0 s1 fun x2 =>
 idx a1 s1 fun x3 =>
(laws_eqPiece x2 x3).bind fun y4 =>
 bif (!y4) then (
 some (.inr (.inr false)))
 else (
 some (.inl (IntKind.wrap .i64 (s1 + 1)))))
 else (
 some (.inr (.inl s1)))
def laws_eqPieceS (a0 : (List T_Piece.D)) (a1 : (List T_Piece.D)) : Option Bool :=
 bif ((a0.length : Int) != (a1.length : Int)) then (
 some false)
 else (
(while_ (laws_eqPieceS_l1 a0 a1) 0).bind fun o5 =>
 match o5 with
| .inl s6 => (
 some true)
| .inr o7 => (
 some o7))
def laws_eqPieceS_h : Hints := (.node none none .none (.node none none .none (.node none none (.node none none .none (.node none none (.node none (some ⟨[.tmp 5 (.int .i64)], [some 0], some [.tmp 4 .bool], []⟩) .none .none) .none)) .none)))
def laws_eqPieceS_c : Ct := .pure true false (.pair (.slice T_Piece) (.pair (.slice T_Piece) .unit)) .bool (fun x => laws_eqPieceS x.1 x.2.1)
theorem laws_eqPieceS_ct : CtOk Try.prog 146 laws_eqPieceS_c := pure_ct (E := { T := tab, G := [(243, laws_eqPiece_c)] }) (EnvOk.cons laws_eqPiece_ct (EnvOk.nil tabOk)) mixed (fn := Try.f146) _ _ _ _ _ laws_eqPieceS_h Try.func146 (by kernel_rfl) (fun x => by kernel_rfl)
/-! loop.example/g00486/laws.eqSide -/
def laws_eqSide (a0 : T_Side.D) (a1 : T_Side.D) : Option Bool :=
 bif (a0.1 != a1.1) then (
 some false)
 else (
 bif (a0.2.1 != a1.2.1) then (
 some false)
 else (
 bif (a0.2.2.1 != a1.2.2.1) then (
 some false)
 else (
 some true)))
def laws_eqSide_c : Ct := .pure true false (.pair T_Side (.pair T_Side .unit)) .bool (fun x => laws_eqSide x.1 x.2.1)
theorem laws_eqSide_ct : CtOk Try.prog 244 laws_eqSide_c := pure_ct (E := { T := tab, G := [] }) (EnvOk.nil tabOk) mixed (fn := Try.f244) _ _ _ _ _ .none Try.func244 (by kernel_rfl) (fun x => by kernel_rfl)
/-! loop.example/g00486/laws.eqSideS -/
def laws_eqSideS_l1 (a0 : (List T_Side.D)) (a1 : (List T_Side.D)) : Int → Option (Int ⊕ (Int ⊕ Bool)) := fun s1 =>
 bif decide (s1 < (a0.length : Int)) then (
 idx a0 s1 fun x2 =>
 idx a1 s1 fun x3 =>
(laws_eqSide x2 x3).bind fun y4 =>
 bif (!y4) then (
 some (.inr (.inr false)))
 else (
 some (.inl (IntKind.wrap .i64 (s1 + 1)))))
 else (
 some (.inr (.inl s1)))
def laws_eqSideS (a0 : (List T_Side.D)) (a1 : (List T_Side.D)) : Option Bool :=
 bif ((a0.length : Int) != (a1.length : Int)) then (
 some false)
 else (
(while_ (laws_eqSideS_l1 a0 a1) 0).bind fun o5 =>
 match o5 with
| .inl s6 => (
 some true)
| .inr o7 => (
 some o7))
def laws_eqSideS_h : Hints := (.node none none .none (.node none none .none (.node none none (.node none none .none (.node none none (.node none (some ⟨[.tmp 5 (.int .i64)], [some 0], some [.tmp 4 .bool], []⟩) .none .none) .none)) .none)))
def laws_eqSideS_c : Ct := .pure true false (.pair (.slice T_Side) (.pair (.slice T_Side) .unit)) .bool (fun x => laws_eqSideS x.1 x.2.1)
theorem laws_eqSideS_ct : CtOk Try.prog 147 laws_eqSideS_c := pure_ct (E := { T := tab, G := [(244, laws_eqSide_c)] }) (EnvOk.cons laws_eqSide_ct (EnvOk.nil tabOk)) mixed (fn := Try.f147) _ _ _ _ _ laws_eqSideS_h Try.func147 (by kernel_rfl) (fun x => by kernel_rfl)
/-! loop.example/g00486/laws.eqState -/
def laws_eqState (a0 : T_State.D) (a1 : T_State.D) : Option Bool :=
(laws_eqPieceS a0.1 a1.1).bind fun y1 =>
 bif (!y1) then (
 some false)
 else (
(laws_eqSideS a0.2.1 a1.2.1).bind fun y2 =>
 bif (!y2) then (
 some false)
 else (
 bif (a0.2.2.1 != a1.2.2.1) then (
 some false)
 else (
 bif (a0.2.2.2.1 != a1.2.2.2.1) then (
 some false)
 else (
 some true))))
def laws_eqState_c : Ct := .pure true false (.pair T_State (.pair T_State .unit)) .bool (fun x => laws_eqState x.1 x.2.1)
theorem laws_eqState_ct : CtOk Try.prog 40 laws_eqState_c := pure_ct (E := { T := tab, G := [(146, laws_eqPieceS_c), (147, laws_eqSideS_c)] }) (EnvOk.cons laws_eqPieceS_ct (EnvOk.cons laws_eqSideS_ct (EnvOk.nil tabOk))) mixed (fn := Try.f40) _ _ _ _ _ .none Try.func40 (by kernel_rfl) (fun x => by kernel_rfl)
/-! loop.example/g00486/laws.eqTrigger -/
def laws_eqTrigger (a0 : T_Trigger.D) (a1 : T_Trigger.D) : Option Bool :=
 bif (a0.1 != a1.1) then (
 some false)
 else (
 bif (a0.2.1 != a1.2.1) then (
 some false)
 else (
 bif (a0.2.2.1 != a1.2.2.1) then (
 some false)
 else (
(laws_eqPiece a0.2.2.2.1 a1.2.2.2.1).bind fun y1 =>
 bif (!y1) then (
 some false)
 else (
 some true))))
def laws_eqTrigger_c : Ct := .pure true false (.pair T_Trigger (.pair T_Trigger .unit)) .bool (fun x => laws_eqTrigger x.1 x.2.1)
theorem laws_eqTrigger_ct : CtOk Try.prog 145 laws_eqTrigger_c := pure_ct (E := { T := tab, G := [(243, laws_eqPiece_c)] }) (EnvOk.cons laws_eqPiece_ct (EnvOk.nil tabOk)) mixed (fn := Try.f145) _ _ _ _ _ .none Try.func145 (by kernel_rfl) (fun x => by kernel_rfl)
/-! loop.example/g00486/laws.eqTriggerS -/
def laws_eqTriggerS_l1 (a0 : (List T_Trigger.D)) (a1 : (List T_Trigger.D)) : Int → Option (Int ⊕ (Int ⊕ Bool)) := fun s1 =>
 bif decide (s1 < (a0.length : Int)) then (
 idx a0 s1 fun x2 =>
 idx a1 s1 fun x3 =>
(laws_eqTrigger x2 x3).bind fun y4 =>
 bif (!y4) then (
 some (.inr (.inr false)))
 else (
 some (.inl (IntKind.wrap .i64 (s1 + 1)))))
 else (
 some (.inr (.inl s1)))
def laws_eqTriggerS (a0 : (List T_Trigger.D)) (a1 : (List T_Trigger.D)) : Option Bool :=
 bif ((a0.length : Int) != (a1.length : Int)) then (
 some false)
 else (
(while_ (laws_eqTriggerS_l1 a0 a1) 0).bind fun o5 =>
 match o5 with
| .inl s6 => (
 some true)
| .inr o7 => (
 some o7))
def laws_eqTriggerS_h : Hints := (.node none none .none (.node none none .none (.node none none (.node none none .none (.node none none (.node none (some ⟨[.tmp 5 (.int .i64)], [some 0], some [.tmp 4 .bool], []⟩) .none .none) .none)) .none)))
def laws_eqTriggerS_c : Ct := .pure true false (.pair (.slice T_Trigger) (.pair (.slice T_Trigger) .unit)) .bool (fun x => laws_eqTriggerS x.1 x.2.1)
theorem laws_eqTriggerS_ct : CtOk Try.prog 38 laws_eqTriggerS_c := pure_ct (E := { T := tab, G := [(145, laws_eqTrigger_c)] }) (EnvOk.cons laws_eqTrigger_ct (EnvOk.nil tabOk)) mixed (fn := Try.f38) _ _ _ _ _ laws_eqTriggerS_h Try.func38 (by kernel_rfl) (fun x => by kernel_rfl)
/-! loop.example/g00486/laws.eqNote -/
def laws_eqNote (a0 : T_Note.D) (a1 : T_Note.D) : Option Bool :=
 bif (a0.1 != a1.1) then (
 some false)
 else (
(laws_eqEvent a0.2.1 a1.2.1).bind fun y1 =>
 bif (!y1) then (
 some false)
 else (
 bif (a0.2.2.1 != a1.2.2.1) then (
 some false)
 else (
 bif (a0.2.2.2.1 != a1.2.2.2.1) then (
 some false)
 else (
(laws_eqPiece a0.2.2.2.2.1 a1.2.2.2.2.1).bind fun y2 =>
 bif (!y2) then (
 some false)
 else (
 some true)))))
def laws_eqNote_c : Ct := .pure true false (.pair T_Note (.pair T_Note .unit)) .bool (fun x => laws_eqNote x.1 x.2.1)
theorem laws_eqNote_ct : CtOk Try.prog 162 laws_eqNote_c := pure_ct (E := { T := tab, G := [(163, laws_eqEvent_c), (243, laws_eqPiece_c)] }) (EnvOk.cons laws_eqEvent_ct (EnvOk.cons laws_eqPiece_ct (EnvOk.nil tabOk))) mixed (fn := Try.f162) _ _ _ _ _ .none Try.func162 (by kernel_rfl) (fun x => by kernel_rfl)
/-! loop.example/g00486/laws.eqNoteS -/
def laws_eqNoteS_l1 (a0 : (List T_Note.D)) (a1 : (List T_Note.D)) : Int → Option (Int ⊕ (Int ⊕ Bool)) := fun s1 =>
 bif decide (s1 < (a0.length : Int)) then (
 idx a0 s1 fun x2 =>
 idx a1 s1 fun x3 =>
(laws_eqNote x2 x3).bind fun y4 =>
 bif (!y4) then (
 some (.inr (.inr false)))
 else (
 some (.inl (IntKind.wrap .i64 (s1 + 1)))))
 else (
 some (.inr (.inl s1)))
def laws_eqNoteS (a0 : (List T_Note.D)) (a1 : (List T_Note.D)) : Option Bool :=
 bif ((a0.length : Int) != (a1.length : Int)) then (
 some false)
 else (
(while_ (laws_eqNoteS_l1 a0 a1) 0).bind fun o5 =>
 match o5 with
| .inl s6 => (
 some true)
| .inr o7 => (
 some o7))
def laws_eqNoteS_h : Hints := (.node none none .none (.node none none .none (.node none none (.node none none .none (.node none none (.node none (some ⟨[.tmp 5 (.int .i64)], [some 0], some [.tmp 4 .bool], []⟩) .none .none) .none)) .none)))
def laws_eqNoteS_c : Ct := .pure true false (.pair (.slice T_Note) (.pair (.slice T_Note) .unit)) .bool (fun x => laws_eqNoteS x.1 x.2.1)
theorem laws_eqNoteS_ct : CtOk Try.prog 50 laws_eqNoteS_c := pure_ct (E := { T := tab, G := [(162, laws_eqNote_c)] }) (EnvOk.cons laws_eqNote_ct (EnvOk.nil tabOk)) mixed (fn := Try.f50) _ _ _ _ _ laws_eqNoteS_h Try.func50 (by kernel_rfl) (fun x => by kernel_rfl)
/-! loop.example/g00486/laws.eqGame -/
def laws_eqGame (a0 : T_Game.D) (a1 : T_Game.D) : Option Bool :=
(laws_eqState a0.1 a1.1).bind fun y1 =>
 bif (!y1) then (
 some false)
 else (
(laws_eqEffectS a0.2.1 a1.2.1).bind fun y2 =>
 bif (!y2) then (
 some false)
 else (
(laws_eqIntS a0.2.2.1 a1.2.2.1).bind fun y3 =>
 bif (!y3) then (
 some false)
 else (
(laws_eqTriggerS a0.2.2.2.1 a1.2.2.2.1).bind fun y4 =>
 bif (!y4) then (
 some false)
 else (
(laws_eqNoteS a0.2.2.2.2.1 a1.2.2.2.2.1).bind fun y5 =>
 bif (!y5) then (
 some false)
 else (
(laws_eqTurnS a0.2.2.2.2.2.1 a1.2.2.2.2.2.1).bind fun y6 =>
 bif (!y6) then (
 some false)
 else (
 some true))))))
def laws_eqGame_c : Ct := .pure true false (.pair T_Game (.pair T_Game .unit)) .bool (fun x => laws_eqGame x.1 x.2.1)
theorem laws_eqGame_ct : CtOk Try.prog 100 laws_eqGame_c := pure_ct (E := { T := tab, G := [(38, laws_eqTriggerS_c), (39, laws_eqIntS_c), (40, laws_eqState_c), (50, laws_eqNoteS_c), (101, laws_eqEffectS_c), (200, laws_eqTurnS_c)] }) (EnvOk.cons laws_eqTriggerS_ct (EnvOk.cons laws_eqIntS_ct (EnvOk.cons laws_eqState_ct (EnvOk.cons laws_eqNoteS_ct (EnvOk.cons laws_eqEffectS_ct (EnvOk.cons laws_eqTurnS_ct (EnvOk.nil tabOk))))))) mixed (fn := Try.f100) _ _ _ _ _ .none Try.func100 (by kernel_rfl) (fun x => by kernel_rfl)
/-! loop.example/g00486/laws.markPieceS -/
def laws_markPieceS_l1 : ((List T_Piece.D) × (Int × Int)) → Option (((List T_Piece.D) × (Int × Int)) ⊕ ((List T_Piece.D) × (Int × Int))) := fun s2 =>
 bif decide (s2.2.2 < (s2.1.length : Int)) then (
 idx s2.1 s2.2.2 fun _ =>
(s2.1[(s2.2.2 : Int).toNat]?).bind fun x3 =>
 let u4 : (List T_Piece.D) := s2.1.set (s2.2.2 : Int).toNat (s2.2.1, x3.2)
 idx u4 s2.2.2 fun _ =>
(u4[(s2.2.2 : Int).toNat]?).bind fun x5 =>
 let u6 : (List T_Piece.D) := u4.set (s2.2.2 : Int).toNat (x5.1, IntKind.wrap .i64 (s2.2.1 + 1), x5.2.2)
 idx u6 s2.2.2 fun _ =>
(u6[(s2.2.2 : Int).toNat]?).bind fun x7 =>
 let u8 : (List T_Piece.D) := u6.set (s2.2.2 : Int).toNat (x7.1, x7.2.1, IntKind.wrap .i64 ((IntKind.wrap .i64 (s2.2.1 + 1)) + 1), x7.2.2.2)
 let k9 : Int := IntKind.wrap .i64 ((IntKind.wrap .i64 ((IntKind.wrap .i64 (s2.2.1 + 1)) + 1)) + 1)
 idx u8 s2.2.2 fun _ =>
(u8[(s2.2.2 : Int).toNat]?).bind fun x10 =>
 let u11 : (List T_Piece.D) := u8.set (s2.2.2 : Int).toNat (x10.1, x10.2.1, x10.2.2.1, k9, x10.2.2.2.2)
 idx u11 s2.2.2 fun _ =>
(u11[(s2.2.2 : Int).toNat]?).bind fun x12 =>
 let u13 : (List T_Piece.D) := u11.set (s2.2.2 : Int).toNat (x12.1, x12.2.1, x12.2.2.1, x12.2.2.2.1, IntKind.wrap .i64 (k9 + 1), x12.2.2.2.2.2)
 idx u13 s2.2.2 fun _ =>
(u13[(s2.2.2 : Int).toNat]?).bind fun x14 =>
 let u15 : (List T_Piece.D) := u13.set (s2.2.2 : Int).toNat (x14.1, x14.2.1, x14.2.2.1, x14.2.2.2.1, x14.2.2.2.2.1, IntKind.wrap .i64 ((IntKind.wrap .i64 (k9 + 1)) + 1), x14.2.2.2.2.2.2)
 let k16 : Int := IntKind.wrap .i64 ((IntKind.wrap .i64 ((IntKind.wrap .i64 (k9 + 1)) + 1)) + 1)
 idx u15 s2.2.2 fun _ =>
(u15[(s2.2.2 : Int).toNat]?).bind fun x17 =>
 let u18 : (List T_Piece.D) := u15.set (s2.2.2 : Int).toNat (x17.1, x17.2.1, x17.2.2.1, x17.2.2.2.1, x17.2.2.2.2.1, x17.2.2.2.2.2.1, k16, x17.2.2.2.2.2.2.2)
 idx u18 s2.2.2 fun _ =>
(u18[(s2.2.2 : Int).toNat]?).bind fun x19 =>
 let u20 : (List T_Piece.D) := u18.set (s2.2.2 : Int).toNat (x19.1, x19.2.1, x19.2.2.1, x19.2.2.2.1, x19.2.2.2.2.1, x19.2.2.2.2.2.1, x19.2.2.2.2.2.2.1, IntKind.wrap .i64 (k16 + 1), x19.2.2.2.2.2.2.2.2)
 idx u20 s2.2.2 fun _ =>
(u20[(s2.2.2 : Int).toNat]?).bind fun x21 =>
 let u22 : (List T_Piece.D) := u20.set (s2.2.2 : Int).toNat (x21.1, x21.2.1, x21.2.2.1, x21.2.2.2.1, x21.2.2.2.2.1, x21.2.2.2.2.2.1, x21.2.2.2.2.2.2.1, x21.2.2.2.2.2.2.2.1, IntKind.wrap .i64 ((IntKind.wrap .i64 (k16 + 1)) + 1), x21.2.2.2.2.2.2.2.2.2)
 let k23 : Int := IntKind.wrap .i64 ((IntKind.wrap .i64 ((IntKind.wrap .i64 (k16 + 1)) + 1)) + 1)
 idx u22 s2.2.2 fun _ =>
(u22[(s2.2.2 : Int).toNat]?).bind fun x24 =>
 let u25 : (List T_Piece.D) := u22.set (s2.2.2 : Int).toNat (x24.1, x24.2.1, x24.2.2.1, x24.2.2.2.1, x24.2.2.2.2.1, x24.2.2.2.2.2.1, x24.2.2.2.2.2.2.1, x24.2.2.2.2.2.2.2.1, x24.2.2.2.2.2.2.2.2.1, k23, x24.2.2.2.2.2.2.2.2.2.2)
 idx u25 s2.2.2 fun _ =>
(u25[(s2.2.2 : Int).toNat]?).bind fun x26 =>
 let u27 : (List T_Piece.D) := u25.set (s2.2.2 : Int).toNat (x26.1, x26.2.1, x26.2.2.1, x26.2.2.2.1, x26.2.2.2.2.1, x26.2.2.2.2.2.1, x26.2.2.2.2.2.2.1, x26.2.2.2.2.2.2.2.1, x26.2.2.2.2.2.2.2.2.1, x26.2.2.2.2.2.2.2.2.2.1, IntKind.wrap .i64 (k23 + 1), x26.2.2.2.2.2.2.2.2.2.2.2)
 if 3 = 0 then none else (
 let k28 : Int := (IntKind.wrap .i64 ((IntKind.wrap .i64 (k23 + 1)) + 1)).tmod 3
 idx u27 s2.2.2 fun _ =>
(u27[(s2.2.2 : Int).toNat]?).bind fun x29 =>
 let u30 : (List T_Piece.D) := u27.set (s2.2.2 : Int).toNat (x29.1, x29.2.1, x29.2.2.1, x29.2.2.2.1, x29.2.2.2.2.1, x29.2.2.2.2.2.1, x29.2.2.2.2.2.2.1, x29.2.2.2.2.2.2.2.1, x29.2.2.2.2.2.2.2.2.1, x29.2.2.2.2.2.2.2.2.2.1, x29.2.2.2.2.2.2.2.2.2.2.1, (k28 == 0), x29.2.2.2.2.2.2.2.2.2.2.2.2)
 let k31 : Int := IntKind.wrap .i64 ((IntKind.wrap .i64 ((IntKind.wrap .i64 (k23 + 1)) + 1)) + 1)
 if 3 = 0 then none else (
 idx u30 s2.2.2 fun _ =>
(u30[(s2.2.2 : Int).toNat]?).bind fun x32 =>
 let u33 : (List T_Piece.D) := u30.set (s2.2.2 : Int).toNat (x32.1, x32.2.1, x32.2.2.1, x32.2.2.2.1, x32.2.2.2.2.1, x32.2.2.2.2.2.1, x32.2.2.2.2.2.2.1, x32.2.2.2.2.2.2.2.1, x32.2.2.2.2.2.2.2.2.1, x32.2.2.2.2.2.2.2.2.2.1, x32.2.2.2.2.2.2.2.2.2.2.1, x32.2.2.2.2.2.2.2.2.2.2.2.1, ((k31.tmod 3) == 0), ())
 some (.inl (u33, IntKind.wrap .i64 (k31 + 1), IntKind.wrap .i64 (s2.2.2 + 1))))))
 else (
 some (.inr s2))
def laws_markPieceS (a0 : (List T_Piece.D)) (a1 : Int) : Option (Int × ((List T_Piece.D) × Unit)) :=
(while_ (laws_markPieceS_l1) (a0, a1, 0)).bind fun o34 =>
 some (o34.2.1, (o34.1, ()))
def laws_markPieceS_h : Hints := (.node none none .none (.node none none (.node none none .none (.node none none (.node none (some ⟨[.tmpO 0 1 (.slice T_Piece), .tmp 1 (.int .i64), .tmp 5 (.int .i64)], [some 0], none, []⟩) .none .none) .none)) .none))
def laws_markPieceS_c : Ct := .mut [.lent, .rd] true true (.pair (.slice T_Piece) (.pair (.int .i64) .unit)) (.int .i64) (fun x => laws_markPieceS x.1 x.2.1)
theorem laws_markPieceS_ct : CtOk Try.prog 148 laws_markPieceS_c := mut_ct (E := { T := tab, G := [] }) (EnvOk.nil tabOk) mixed (fn := Try.f148) _ _ _ _ _ _ laws_markPieceS_h Try.func148 (by kernel_rfl) (fun x => by kernel_rfl)
/-! loop.example/g00486/laws.markSideS -/
def laws_markSideS_l1 : ((List T_Side.D) × (Int × Int)) → Option (((List T_Side.D) × (Int × Int)) ⊕ ((List T_Side.D) × (Int × Int))) := fun s2 =>
 bif decide (s2.2.2 < (s2.1.length : Int)) then (
 idx s2.1 s2.2.2 fun _ =>
(s2.1[(s2.2.2 : Int).toNat]?).bind fun x3 =>
 let u4 : (List T_Side.D) := s2.1.set (s2.2.2 : Int).toNat (s2.2.1, x3.2)
 idx u4 s2.2.2 fun _ =>
(u4[(s2.2.2 : Int).toNat]?).bind fun x5 =>
 let u6 : (List T_Side.D) := u4.set (s2.2.2 : Int).toNat (x5.1, IntKind.wrap .i64 (s2.2.1 + 1), x5.2.2)
 if 3 = 0 then none else (
 let k7 : Int := (IntKind.wrap .i64 ((IntKind.wrap .i64 (s2.2.1 + 1)) + 1)).tmod 3
 idx u6 s2.2.2 fun _ =>
(u6[(s2.2.2 : Int).toNat]?).bind fun x8 =>
 let u9 : (List T_Side.D) := u6.set (s2.2.2 : Int).toNat (x8.1, x8.2.1, (k7 == 0), ())
 let k10 : Int := IntKind.wrap .i64 ((IntKind.wrap .i64 ((IntKind.wrap .i64 (s2.2.1 + 1)) + 1)) + 1)
 some (.inl (u9, k10, IntKind.wrap .i64 (s2.2.2 + 1)))))
 else (
 some (.inr s2))
def laws_markSideS (a0 : (List T_Side.D)) (a1 : Int) : Option (Int × ((List T_Side.D) × Unit)) :=
(while_ (laws_markSideS_l1) (a0, a1, 0)).bind fun o11 =>
 some (o11.2.1, (o11.1, ()))
def laws_markSideS_h : Hints := (.node none none .none (.node none none (.node none none .none (.node none none (.node none (some ⟨[.tmpO 0 1 (.slice T_Side), .tmp 1 (.int .i64), .tmp 5 (.int .i64)], [some 0], none, []⟩) .none .none) .none)) .none))
def laws_markSideS_c : Ct := .mut [.lent, .rd] true true (.pair (.slice T_Side) (.pair (.int .i64) .unit)) (.int .i64) (fun x => laws_markSideS x.1 x.2.1)
theorem laws_markSideS_ct : CtOk Try.prog 149 laws_markSideS_c := mut_ct (E := { T := tab, G := [] }) (EnvOk.nil tabOk) mixed (fn := Try.f149) _ _ _ _ _ _ laws_markSideS_h Try.func149 (by kernel_rfl) (fun x => by kernel_rfl)
/-! loop.example/g00486/laws.markState -/
def laws_markState (a0 : T_State.D) (a1 : Int) : Option (Int × (T_State.D × Unit)) :=
(laws_markPieceS a0.1 a1).bind fun y1 =>
(laws_markSideS a0.2.1 y1.1).bind fun y2 =>
 some (y2.1, ((y1.2.1, y2.2.1, a0.2.2), ()))
def laws_markState_c : Ct := .mut [.lent, .rd] true true (.pair T_State (.pair (.int .i64) .unit)) (.int .i64) (fun x => laws_markState x.1 x.2.1)
theorem laws_markState_ct : CtOk Try.prog 41 laws_markState_c := mut_ct (E := { T := tab, G := [(148, laws_markPieceS_c), (149, laws_markSideS_c)] }) (EnvOk.cons laws_markPieceS_ct (EnvOk.cons laws_markSideS_ct (EnvOk.nil tabOk))) mixed (fn := Try.f41) _ _ _ _ _ _ .none Try.func41 (by kernel_rfl) (fun x => by kernel_rfl)
/-! loop.example/g00486/laws.markTriggerS -/
def laws_markTriggerS_l1 : ((List T_Trigger.D) × (Int × Int)) → Option (((List T_Trigger.D) × (Int × Int)) ⊕ ((List T_Trigger.D) × (Int × Int))) := fun s2 =>
 bif decide (s2.2.2 < (s2.1.length : Int)) then (
 idx s2.1 s2.2.2 fun _ =>
(s2.1[(s2.2.2 : Int).toNat]?).bind fun x3 =>
 let u4 : (List T_Trigger.D) := s2.1.set (s2.2.2 : Int).toNat (s2.2.1, x3.2)
 idx u4 s2.2.2 fun _ =>
(u4[(s2.2.2 : Int).toNat]?).bind fun x5 =>
 let u6 : (List T_Trigger.D) := u4.set (s2.2.2 : Int).toNat (x5.1, IntKind.wrap .i64 (s2.2.1 + 1), x5.2.2)
 idx u6 s2.2.2 fun _ =>
(u6[(s2.2.2 : Int).toNat]?).bind fun x7 =>
 let u8 : (List T_Trigger.D) := u6.set (s2.2.2 : Int).toNat (x7.1, x7.2.1, IntKind.wrap .i64 ((IntKind.wrap .i64 (s2.2.1 + 1)) + 1), x7.2.2.2)
 let k9 : Int := IntKind.wrap .i64 ((IntKind.wrap .i64 ((IntKind.wrap .i64 (s2.2.1 + 1)) + 1)) + 1)
 idx u8 s2.2.2 fun _ =>
(u8[(s2.2.2 : Int).toNat]?).bind fun x10 =>
 let u11 : (List T_Trigger.D) := u8.set (s2.2.2 : Int).toNat (x10.1, x10.2.1, x10.2.2.1, (k9, x10.2.2.2.1.2), ())
 idx u11 s2.2.2 fun _ =>
(u11[(s2.2.2 : Int).toNat]?).bind fun x12 =>
 let u13 : (List T_Trigger.D) := u11.set (s2.2.2 : Int).toNat (x12.1, x12.2.1, x12.2.2.1, (x12.2.2.2.1.1, IntKind.wrap .i64 (k9 + 1), x12.2.2.2.1.2.2), ())
 idx u13 s2.2.2 fun _ =>
(u13[(s2.2.2 : Int).toNat]?).bind fun x14 =>
 let u15 : (List T_Trigger.D) := u13.set (s2.2.2 : Int).toNat (x14.1, x14.2.1, x14.2.2.1, (x14.2.2.2.1.1, x14.2.2.2.1.2.1, IntKind.wrap .i64 ((IntKind.wrap .i64 (k9 + 1)) + 1), x14.2.2.2.1.2.2.2), ())
 let k16 : Int := IntKind.wrap .i64 ((IntKind.wrap .i64 ((IntKind.wrap .i64 (k9 + 1)) + 1)) + 1)
 idx u15 s2.2.2 fun _ =>
(u15[(s2.2.2 : Int).toNat]?).bind fun x17 =>
 let u18 : (List T_Trigger.D) := u15.set (s2.2.2 : Int).toNat (x17.1, x17.2.1, x17.2.2.1, (x17.2.2.2.1.1, x17.2.2.2.1.2.1, x17.2.2.2.1.2.2.1, k16, x17.2.2.2.1.2.2.2.2), ())
 idx u18 s2.2.2 fun _ =>
(u18[(s2.2.2 : Int).toNat]?).bind fun x19 =>
 let u20 : (List T_Trigger.D) := u18.set (s2.2.2 : Int).toNat (x19.1, x19.2.1, x19.2.2.1, (x19.2.2.2.1.1, x19.2.2.2.1.2.1, x19.2.2.2.1.2.2.1, x19.2.2.2.1.2.2.2.1, IntKind.wrap .i64 (k16 + 1), x19.2.2.2.1.2.2.2.2.2), ())
 idx u20 s2.2.2 fun _ =>
(u20[(s2.2.2 : Int).toNat]?).bind fun x21 =>
 let u22 : (List T_Trigger.D) := u20.set (s2.2.2 : Int).toNat (x21.1, x21.2.1, x21.2.2.1, (x21.2.2.2.1.1, x21.2.2.2.1.2.1, x21.2.2.2.1.2.2.1, x21.2.2.2.1.2.2.2.1, x21.2.2.2.1.2.2.2.2.1, IntKind.wrap .i64 ((IntKind.wrap .i64 (k16 + 1)) + 1), x21.2.2.2.1.2.2.2.2.2.2), ())
 let k23 : Int := IntKind.wrap .i64 ((IntKind.wrap .i64 ((IntKind.wrap .i64 (k16 + 1)) + 1)) + 1)
 idx u22 s2.2.2 fun _ =>
(u22[(s2.2.2 : Int).toNat]?).bind fun x24 =>
 let u25 : (List T_Trigger.D) := u22.set (s2.2.2 : Int).toNat (x24.1, x24.2.1, x24.2.2.1, (x24.2.2.2.1.1, x24.2.2.2.1.2.1, x24.2.2.2.1.2.2.1, x24.2.2.2.1.2.2.2.1, x24.2.2.2.1.2.2.2.2.1, x24.2.2.2.1.2.2.2.2.2.1, k23, x24.2.2.2.1.2.2.2.2.2.2.2), ())
 idx u25 s2.2.2 fun _ =>
(u25[(s2.2.2 : Int).toNat]?).bind fun x26 =>
 let u27 : (List T_Trigger.D) := u25.set (s2.2.2 : Int).toNat (x26.1, x26.2.1, x26.2.2.1, (x26.2.2.2.1.1, x26.2.2.2.1.2.1, x26.2.2.2.1.2.2.1, x26.2.2.2.1.2.2.2.1, x26.2.2.2.1.2.2.2.2.1, x26.2.2.2.1.2.2.2.2.2.1, x26.2.2.2.1.2.2.2.2.2.2.1, IntKind.wrap .i64 (k23 + 1), x26.2.2.2.1.2.2.2.2.2.2.2.2), ())
 idx u27 s2.2.2 fun _ =>
(u27[(s2.2.2 : Int).toNat]?).bind fun x28 =>
 let u29 : (List T_Trigger.D) := u27.set (s2.2.2 : Int).toNat (x28.1, x28.2.1, x28.2.2.1, (x28.2.2.2.1.1, x28.2.2.2.1.2.1, x28.2.2.2.1.2.2.1, x28.2.2.2.1.2.2.2.1, x28.2.2.2.1.2.2.2.2.1, x28.2.2.2.1.2.2.2.2.2.1, x28.2.2.2.1.2.2.2.2.2.2.1, x28.2.2.2.1.2.2.2.2.2.2.2.1, IntKind.wrap .i64 ((IntKind.wrap .i64 (k23 + 1)) + 1), x28.2.2.2.1.2.2.2.2.2.2.2.2.2), ())
 let k30 : Int := IntKind.wrap .i64 ((IntKind.wrap .i64 ((IntKind.wrap .i64 (k23 + 1)) + 1)) + 1)
 idx u29 s2.2.2 fun _ =>
(u29[(s2.2.2 : Int).toNat]?).bind fun x31 =>
 let u32 : (List T_Trigger.D) := u29.set (s2.2.2 : Int).toNat (x31.1, x31.2.1, x31.2.2.1, (x31.2.2.2.1.1, x31.2.2.2.1.2.1, x31.2.2.2.1.2.2.1, x31.2.2.2.1.2.2.2.1, x31.2.2.2.1.2.2.2.2.1, x31.2.2.2.1.2.2.2.2.2.1, x31.2.2.2.1.2.2.2.2.2.2.1, x31.2.2.2.1.2.2.2.2.2.2.2.1, x31.2.2.2.1.2.2.2.2.2.2.2.2.1, k30, x31.2.2.2.1.2.2.2.2.2.2.2.2.2.2), ())
 idx u32 s2.2.2 fun _ =>
(u32[(s2.2.2 : Int).toNat]?).bind fun x33 =>
 let u34 : (List T_Trigger.D) := u32.set (s2.2.2 : Int).toNat (x33.1, x33.2.1, x33.2.2.1, (x33.2.2.2.1.1, x33.2.2.2.1.2.1, x33.2.2.2.1.2.2.1, x33.2.2.2.1.2.2.2.1, x33.2.2.2.1.2.2.2.2.1, x33.2.2.2.1.2.2.2.2.2.1, x33.2.2.2.1.2.2.2.2.2.2.1, x33.2.2.2.1.2.2.2.2.2.2.2.1, x33.2.2.2.1.2.2.2.2.2.2.2.2.1, x33.2.2.2.1.2.2.2.2.2.2.2.2.2.1, IntKind.wrap .i64 (k30 + 1), x33.2.2.2.1.2.2.2.2.2.2.2.2.2.2.2), ())
 if 3 = 0 then none else (
 let k35 : Int := (IntKind.wrap .i64 ((IntKind.wrap .i64 (k30 + 1)) + 1)).tmod 3
 idx u34 s2.2.2 fun _ =>
(u34[(s2.2.2 : Int).toNat]?).bind fun x36 =>
 let u37 : (List T_Trigger.D) := u34.set (s2.2.2 : Int).toNat (x36.1, x36.2.1, x36.2.2.1, (x36.2.2.2.1.1, x36.2.2.2.1.2.1, x36.2.2.2.1.2.2.1, x36.2.2.2.1.2.2.2.1, x36.2.2.2.1.2.2.2.2.1, x36.2.2.2.1.2.2.2.2.2.1, x36.2.2.2.1.2.2.2.2.2.2.1, x36.2.2.2.1.2.2.2.2.2.2.2.1, x36.2.2.2.1.2.2.2.2.2.2.2.2.1, x36.2.2.2.1.2.2.2.2.2.2.2.2.2.1, x36.2.2.2.1.2.2.2.2.2.2.2.2.2.2.1, (k35 == 0), x36.2.2.2.1.2.2.2.2.2.2.2.2.2.2.2.2), ())
 let k38 : Int := IntKind.wrap .i64 ((IntKind.wrap .i64 ((IntKind.wrap .i64 (k30 + 1)) + 1)) + 1)
 if 3 = 0 then none else (
 idx u37 s2.2.2 fun _ =>
(u37[(s2.2.2 : Int).toNat]?).bind fun x39 =>
 let u40 : (List T_Trigger.D) := u37.set (s2.2.2 : Int).toNat (x39.1, x39.2.1, x39.2.2.1, (x39.2.2.2.1.1, x39.2.2.2.1.2.1, x39.2.2.2.1.2.2.1, x39.2.2.2.1.2.2.2.1, x39.2.2.2.1.2.2.2.2.1, x39.2.2.2.1.2.2.2.2.2.1, x39.2.2.2.1.2.2.2.2.2.2.1, x39.2.2.2.1.2.2.2.2.2.2.2.1, x39.2.2.2.1.2.2.2.2.2.2.2.2.1, x39.2.2.2.1.2.2.2.2.2.2.2.2.2.1, x39.2.2.2.1.2.2.2.2.2.2.2.2.2.2.1, x39.2.2.2.1.2.2.2.2.2.2.2.2.2.2.2.1, ((k38.tmod 3) == 0), ()), ())
 some (.inl (u40, IntKind.wrap .i64 (k38 + 1), IntKind.wrap .i64 (s2.2.2 + 1))))))
 else (
 some (.inr s2))
def laws_markTriggerS (a0 : (List T_Trigger.D)) (a1 : Int) : Option (Int × ((List T_Trigger.D) × Unit)) :=
(while_ (laws_markTriggerS_l1) (a0, a1, 0)).bind fun o41 =>
 some (o41.2.1, (o41.1, ()))
def laws_markTriggerS_h : Hints := (.node none none .none (.node none none (.node none none .none (.node none none (.node none (some ⟨[.tmpO 0 1 (.slice T_Trigger), .tmp 1 (.int .i64), .tmp 5 (.int .i64)], [some 0], none, []⟩) .none .none) .none)) .none))
def laws_markTriggerS_c : Ct := .mut [.lent, .rd] true true (.pair (.slice T_Trigger) (.pair (.int .i64) .unit)) (.int .i64) (fun x => laws_markTriggerS x.1 x.2.1)
theorem laws_markTriggerS_ct : CtOk Try.prog 42 laws_markTriggerS_c := mut_ct (E := { T := tab, G := [] }) (EnvOk.nil tabOk) mixed (fn := Try.f42) _ _ _ _ _ _ laws_markTriggerS_h Try.func42 (by kernel_rfl) (fun x => by kernel_rfl)
/-! loop.example/g00486/laws.markNoteS -/
def laws_markNoteS_l1 : ((List T_Note.D) × (Int × Int)) → Option (((List T_Note.D) × (Int × Int)) ⊕ ((List T_Note.D) × (Int × Int))) := fun s2 =>
 bif decide (s2.2.2 < (s2.1.length : Int)) then (
 idx s2.1 s2.2.2 fun _ =>
(s2.1[(s2.2.2 : Int).toNat]?).bind fun x3 =>
 let u4 : (List T_Note.D) := s2.1.set (s2.2.2 : Int).toNat (s2.2.1, x3.2)
 idx u4 s2.2.2 fun _ =>
(u4[(s2.2.2 : Int).toNat]?).bind fun x5 =>
 let u6 : (List T_Note.D) := u4.set (s2.2.2 : Int).toNat (x5.1, (IntKind.wrap .i64 (s2.2.1 + 1), x5.2.1.2), x5.2.2)
 idx u6 s2.2.2 fun _ =>
(u6[(s2.2.2 : Int).toNat]?).bind fun x7 =>
 let u8 : (List T_Note.D) := u6.set (s2.2.2 : Int).toNat (x7.1, (x7.2.1.1, IntKind.wrap .i64 ((IntKind.wrap .i64 (s2.2.1 + 1)) + 1), x7.2.1.2.2), x7.2.2)
 let k9 : Int := IntKind.wrap .i64 ((IntKind.wrap .i64 ((IntKind.wrap .i64 (s2.2.1 + 1)) + 1)) + 1)
 idx u8 s2.2.2 fun _ =>
(u8[(s2.2.2 : Int).toNat]?).bind fun x10 =>
 let u11 : (List T_Note.D) := u8.set (s2.2.2 : Int).toNat (x10.1, (x10.2.1.1, x10.2.1.2.1, k9, x10.2.1.2.2.2), x10.2.2)
 idx u11 s2.2.2 fun _ =>
(u11[(s2.2.2 : Int).toNat]?).bind fun x12 =>
 let u13 : (List T_Note.D) := u11.set (s2.2.2 : Int).toNat (x12.1, (x12.2.1.1, x12.2.1.2.1, x12.2.1.2.2.1, IntKind.wrap .i64 (k9 + 1), x12.2.1.2.2.2.2), x12.2.2)
 idx u13 s2.2.2 fun _ =>
(u13[(s2.2.2 : Int).toNat]?).bind fun x14 =>
 let u15 : (List T_Note.D) := u13.set (s2.2.2 : Int).toNat (x14.1, (x14.2.1.1, x14.2.1.2.1, x14.2.1.2.2.1, x14.2.1.2.2.2.1, IntKind.wrap .i64 ((IntKind.wrap .i64 (k9 + 1)) + 1), x14.2.1.2.2.2.2.2), x14.2.2)
 let k16 : Int := IntKind.wrap .i64 ((IntKind.wrap .i64 ((IntKind.wrap .i64 (k9 + 1)) + 1)) + 1)
 idx u15 s2.2.2 fun _ =>
(u15[(s2.2.2 : Int).toNat]?).bind fun x17 =>
 let u18 : (List T_Note.D) := u15.set (s2.2.2 : Int).toNat (x17.1, (x17.2.1.1, x17.2.1.2.1, x17.2.1.2.2.1, x17.2.1.2.2.2.1, x17.2.1.2.2.2.2.1, k16, x17.2.1.2.2.2.2.2.2), x17.2.2)
 if 3 = 0 then none else (
 idx u18 s2.2.2 fun _ =>
(u18[(s2.2.2 : Int).toNat]?).bind fun x19 =>
 let u20 : (List T_Note.D) := u18.set (s2.2.2 : Int).toNat (x19.1, (x19.2.1.1, x19.2.1.2.1, x19.2.1.2.2.1, x19.2.1.2.2.2.1, x19.2.1.2.2.2.2.1, x19.2.1.2.2.2.2.2.1, (((IntKind.wrap .i64 (k16 + 1)).tmod 3) == 0), ()), x19.2.2)
 idx u20 s2.2.2 fun _ =>
(u20[(s2.2.2 : Int).toNat]?).bind fun x21 =>
 let u22 : (List T_Note.D) := u20.set (s2.2.2 : Int).toNat (x21.1, x21.2.1, IntKind.wrap .i64 ((IntKind.wrap .i64 (k16 + 1)) + 1), x21.2.2.2)
 let k23 : Int := IntKind.wrap .i64 ((IntKind.wrap .i64 ((IntKind.wrap .i64 (k16 + 1)) + 1)) + 1)
 idx u22 s2.2.2 fun _ =>
(u22[(s2.2.2 : Int).toNat]?).bind fun x24 =>
 let u25 : (List T_Note.D) := u22.set (s2.2.2 : Int).toNat (x24.1, x24.2.1, x24.2.2.1, k23, x24.2.2.2.2)
 idx u25 s2.2.2 fun _ =>
(u25[(s2.2.2 : Int).toNat]?).bind fun x26 =>
 let u27 : (List T_Note.D) := u25.set (s2.2.2 : Int).toNat (x26.1, x26.2.1, x26.2.2.1, x26.2.2.2.1, (IntKind.wrap .i64 (k23 + 1), x26.2.2.2.2.1.2), ())
 idx u27 s2.2.2 fun _ =>
(u27[(s2.2.2 : Int).toNat]?).bind fun x28 =>
 let u29 : (List T_Note.D) := u27.set (s2.2.2 : Int).toNat (x28.1, x28.2.1, x28.2.2.1, x28.2.2.2.1, (x28.2.2.2.2.1.1, IntKind.wrap .i64 ((IntKind.wrap .i64 (k23 + 1)) + 1), x28.2.2.2.2.1.2.2), ())
 let k30 : Int := IntKind.wrap .i64 ((IntKind.wrap .i64 ((IntKind.wrap .i64 (k23 + 1)) + 1)) + 1)
 idx u29 s2.2.2 fun _ =>
(u29[(s2.2.2 : Int).toNat]?).bind fun x31 =>
 let u32 : (List T_Note.D) := u29.set (s2.2.2 : Int).toNat (x31.1, x31.2.1, x31.2.2.1, x31.2.2.2.1, (x31.2.2.2.2.1.1, x31.2.2.2.2.1.2.1, k30, x31.2.2.2.2.1.2.2.2), ())
 idx u32 s2.2.2 fun _ =>
(u32[(s2.2.2 : Int).toNat]?).bind fun x33 =>
 let u34 : (List T_Note.D) := u32.set (s2.2.2 : Int).toNat (x33.1, x33.2.1, x33.2.2.1, x33.2.2.2.1, (x33.2.2.2.2.1.1, x33.2.2.2.2.1.2.1, x33.2.2.2.2.1.2.2.1, IntKind.wrap .i64 (k30 + 1), x33.2.2.2.2.1.2.2.2.2), ())
 idx u34 s2.2.2 fun _ =>
(u34[(s2.2.2 : Int).toNat]?).bind fun x35 =>
 let u36 : (List T_Note.D) := u34.set (s2.2.2 : Int).toNat (x35.1, x35.2.1, x35.2.2.1, x35.2.2.2.1, (x35.2.2.2.2.1.1, x35.2.2.2.2.1.2.1, x35.2.2.2.2.1.2.2.1, x35.2.2.2.2.1.2.2.2.1, IntKind.wrap .i64 ((IntKind.wrap .i64 (k30 + 1)) + 1), x35.2.2.2.2.1.2.2.2.2.2), ())
 let k37 : Int := IntKind.wrap .i64 ((IntKind.wrap .i64 ((IntKind.wrap .i64 (k30 + 1)) + 1)) + 1)
 idx u36 s2.2.2 fun _ =>
(u36[(s2.2.2 : Int).toNat]?).bind fun x38 =>
 let u39 : (List T_Note.D) := u36.set (s2.2.2 : Int).toNat (x38.1, x38.2.1, x38.2.2.1, x38.2.2.2.1, (x38.2.2.2.2.1.1, x38.2.2.2.2.1.2.1, x38.2.2.2.2.1.2.2.1, x38.2.2.2.2.1.2.2.2.1, x38.2.2.2.2.1.2.2.2.2.1, k37, x38.2.2.2.2.1.2.2.2.2.2.2), ())
 idx u39 s2.2.2 fun _ =>
(u39[(s2.2.2 : Int).toNat]?).bind fun x40 =>
 let u41 : (List T_Note.D) := u39.set (s2.2.2 : Int).toNat (x40.1, x40.2.1, x40.2.2.1, x40.2.2.2.1, (x40.2.2.2.2.1.1, x40.2.2.2.2.1.2.1, x40.2.2.2.2.1.2.2.1, x40.2.2.2.2.1.2.2.2.1, x40.2.2.2.2.1.2.2.2.2.1, x40.2.2.2.2.1.2.2.2.2.2.1, IntKind.wrap .i64 (k37 + 1), x40.2.2.2.2.1.2.2.2.2.2.2.2), ())
 idx u41 s2.2.2 fun _ =>
(u41[(s2.2.2 : Int).toNat]?).bind fun x42 =>
 let u43 : (List T_Note.D) := u41.set (s2.2.2 : Int).toNat (x42.1, x42.2.1, x42.2.2.1, x42.2.2.2.1, (x42.2.2.2.2.1.1, x42.2.2.2.2.1.2.1, x42.2.2.2.2.1.2.2.1, x42.2.2.2.2.1.2.2.2.1, x42.2.2.2.2.1.2.2.2.2.1, x42.2.2.2.2.1.2.2.2.2.2.1, x42.2.2.2.2.1.2.2.2.2.2.2.1, IntKind.wrap .i64 ((IntKind.wrap .i64 (k37 + 1)) + 1), x42.2.2.2.2.1.2.2.2.2.2.2.2.2), ())
 let k44 : Int := IntKind.wrap .i64 ((IntKind.wrap .i64 ((IntKind.wrap .i64 (k37 + 1)) + 1)) + 1)
 idx u43 s2.2.2 fun _ =>
(u43[(s2.2.2 : Int).toNat]?).bind fun x45 =>
 let u46 : (List T_Note.D) := u43.set (s2.2.2 : Int).toNat (x45.1, x45.2.1, x45.2.2.1, x45.2.2.2.1, (x45.2.2.2.2.1.1, x45.2.2.2.2.1.2.1, x45.2.2.2.2.1.2.2.1, x45.2.2.2.2.1.2.2.2.1, x45.2.2.2.2.1.2.2.2.2.1, x45.2.2.2.2.1.2.2.2.2.2.1, x45.2.2.2.2.1.2.2.2.2.2.2.1, x45.2.2.2.2.1.2.2.2.2.2.2.2.1, k44, x45.2.2.2.2.1.2.2.2.2.2.2.2.2.2), ())
 idx u46 s2.2.2 fun _ =>
(u46[(s2.2.2 : Int).toNat]?).bind fun x47 =>
 let u48 : (List T_Note.D) := u46.set (s2.2.2 : Int).toNat (x47.1, x47.2.1, x47.2.2.1, x47.2.2.2.1, (x47.2.2.2.2.1.1, x47.2.2.2.2.1.2.1, x47.2.2.2.2.1.2.2.1, x47.2.2.2.2.1.2.2.2.1, x47.2.2.2.2.1.2.2.2.2.1, x47.2.2.2.2.1.2.2.2.2.2.1, x47.2.2.2.2.1.2.2.2.2.2.2.1, x47.2.2.2.2.1.2.2.2.2.2.2.2.1, x47.2.2.2.2.1.2.2.2.2.2.2.2.2.1, IntKind.wrap .i64 (k44 + 1), x47.2.2.2.2.1.2.2.2.2.2.2.2.2.2.2), ())
 idx u48 s2.2.2 fun _ =>
(u48[(s2.2.2 : Int).toNat]?).bind fun x49 =>
 let u50 : (List T_Note.D) := u48.set (s2.2.2 : Int).toNat (x49.1, x49.2.1, x49.2.2.1, x49.2.2.2.1, (x49.2.2.2.2.1.1, x49.2.2.2.2.1.2.1, x49.2.2.2.2.1.2.2.1, x49.2.2.2.2.1.2.2.2.1, x49.2.2.2.2.1.2.2.2.2.1, x49.2.2.2.2.1.2.2.2.2.2.1, x49.2.2.2.2.1.2.2.2.2.2.2.1, x49.2.2.2.2.1.2.2.2.2.2.2.2.1, x49.2.2.2.2.1.2.2.2.2.2.2.2.2.1, x49.2.2.2.2.1.2.2.2.2.2.2.2.2.2.1, IntKind.wrap .i64 ((IntKind.wrap .i64 (k44 + 1)) + 1), x49.2.2.2.2.1.2.2.2.2.2.2.2.2.2.2.2), ())
 let k51 : Int := IntKind.wrap .i64 ((IntKind.wrap .i64 ((IntKind.wrap .i64 (k44 + 1)) + 1)) + 1)
 if 3 = 0 then none else (
 idx u50 s2.2.2 fun _ =>
(u50[(s2.2.2 : Int).toNat]?).bind fun x52 =>
 let u53 : (List T_Note.D) := u50.set (s2.2.2 : Int).toNat (x52.1, x52.2.1, x52.2.2.1, x52.2.2.2.1, (x52.2.2.2.2.1.1, x52.2.2.2.2.1.2.1, x52.2.2.2.2.1.2.2.1, x52.2.2.2.2.1.2.2.2.1, x52.2.2.2.2.1.2.2.2.2.1, x52.2.2.2.2.1.2.2.2.2.2.1, x52.2.2.2.2.1.2.2.2.2.2.2.1, x52.2.2.2.2.1.2.2.2.2.2.2.2.1, x52.2.2.2.2.1.2.2.2.2.2.2.2.2.1, x52.2.2.2.2.1.2.2.2.2.2.2.2.2.2.1, x52.2.2.2.2.1.2.2.2.2.2.2.2.2.2.2.1, ((k51.tmod 3) == 0), x52.2.2.2.2.1.2.2.2.2.2.2.2.2.2.2.2.2), ())
 if 3 = 0 then none else (
 idx u53 s2.2.2 fun _ =>
(u53[(s2.2.2 : Int).toNat]?).bind fun x54 =>
 let u55 : (List T_Note.D) := u53.set (s2.2.2 : Int).toNat (x54.1, x54.2.1, x54.2.2.1, x54.2.2.2.1, (x54.2.2.2.2.1.1, x54.2.2.2.2.1.2.1, x54.2.2.2.2.1.2.2.1, x54.2.2.2.2.1.2.2.2.1, x54.2.2.2.2.1.2.2.2.2.1, x54.2.2.2.2.1.2.2.2.2.2.1, x54.2.2.2.2.1.2.2.2.2.2.2.1, x54.2.2.2.2.1.2.2.2.2.2.2.2.1, x54.2.2.2.2.1.2.2.2.2.2.2.2.2.1, x54.2.2.2.2.1.2.2.2.2.2.2.2.2.2.1, x54.2.2.2.2.1.2.2.2.2.2.2.2.2.2.2.1, x54.2.2.2.2.1.2.2.2.2.2.2.2.2.2.2.2.1, (((IntKind.wrap .i64 (k51 + 1)).tmod 3) == 0), ()), ())
 some (.inl (u55, IntKind.wrap .i64 ((IntKind.wrap .i64 (k51 + 1)) + 1), IntKind.wrap .i64 (s2.2.2 + 1)))))))
 else (
 some (.inr s2))
def laws_markNoteS (a0 : (List T_Note.D)) (a1 : Int) : Option (Int × ((List T_Note.D) × Unit)) :=
(while_ (laws_markNoteS_l1) (a0, a1, 0)).bind fun o56 =>
 some (o56.2.1, (o56.1, ()))
def laws_markNoteS_h : Hints := (.node none none .none (.node none none (.node none none .none (.node none none (.node none (some ⟨[.tmpO 0 1 (.slice T_Note), .tmp 1 (.int .i64), .tmp 5 (.int .i64)], [some 0], none, []⟩) .none .none) .none)) .none))
def laws_markNoteS_c : Ct := .mut [.lent, .rd] true true (.pair (.slice T_Note) (.pair (.int .i64) .unit)) (.int .i64) (fun x => laws_markNoteS x.1 x.2.1)
theorem laws_markNoteS_ct : CtOk Try.prog 53 laws_markNoteS_c := mut_ct (E := { T := tab, G := [] }) (EnvOk.nil tabOk) mixed (fn := Try.f53) _ _ _ _ _ _ laws_markNoteS_h Try.func53 (by kernel_rfl) (fun x => by kernel_rfl)
/-! loop.example/g00486/laws.markGame -/
def laws_markGame (a0 : T_Game.D) (a1 : Int) : Option (Int × (T_Game.D × Unit)) :=
(laws_markState a0.1 a1).bind fun y1 =>
(laws_markEffectS a0.2.1 y1.1).bind fun y2 =>
(laws_markIntS a0.2.2.1 y2.1).bind fun y3 =>
(laws_markTriggerS a0.2.2.2.1 y3.1).bind fun y4 =>
(laws_markNoteS a0.2.2.2.2.1 y4.1).bind fun y5 =>
(laws_markTurnS a0.2.2.2.2.2.1 y5.1).bind fun y6 =>
 some (y6.1, (((y1.2.1.1, y1.2.1.2.1, a0.1.2.2), y2.2.1, y3.2.1, y4.2.1, y5.2.1, y6.2), ()))
def laws_markGame_c : Ct := .mut [.lent, .rd] true true (.pair T_Game (.pair (.int .i64) .unit)) (.int .i64) (fun x => laws_markGame x.1 x.2.1)
theorem laws_markGame_ct : CtOk Try.prog 103 laws_markGame_c := mut_ct (E := { T := tab, G := [(41, laws_markState_c), (42, laws_markTriggerS_c), (43, laws_markIntS_c), (53, laws_markNoteS_c), (102, laws_markEffectS_c), (201, laws_markTurnS_c)] }) (EnvOk.cons laws_markState_ct (EnvOk.cons laws_markTriggerS_ct (EnvOk.cons laws_markIntS_ct (EnvOk.cons laws_markNoteS_ct (EnvOk.cons laws_markEffectS_ct (EnvOk.cons laws_markTurnS_ct (EnvOk.nil tabOk))))))) mixed (fn := Try.f103) _ _ _ _ _ _ .none Try.func103 (by kernel_rfl) (fun x => by kernel_rfl)
/-! loop.example/g00486/laws.heldPieceS -/
def laws_heldPieceS_l1 (a0 : (List T_Piece.D)) : (Int × Int) → Option ((Int × Int) ⊕ ((Int × Int) ⊕ Int)) := fun s1 =>
 bif decide (s1.2 < (a0.length : Int)) then (
 idx a0 s1.2 fun x2 =>
 bif (x2.1 != s1.1) then (
 some (.inr (.inr (-1))))
 else (
 idx a0 s1.2 fun x3 =>
 bif (x3.2.1 != (IntKind.wrap .i64 (s1.1 + 1))) then (
 some (.inr (.inr (-1))))
 else (
 idx a0 s1.2 fun x4 =>
 bif (x4.2.2.1 != (IntKind.wrap .i64 ((IntKind.wrap .i64 (s1.1 + 1)) + 1))) then (
 some (.inr (.inr (-1))))
 else (
 let k5 : Int := IntKind.wrap .i64 ((IntKind.wrap .i64 ((IntKind.wrap .i64 (s1.1 + 1)) + 1)) + 1)
 idx a0 s1.2 fun x6 =>
 bif (x6.2.2.2.1 != k5) then (
 some (.inr (.inr (-1))))
 else (
 idx a0 s1.2 fun x7 =>
 bif (x7.2.2.2.2.1 != (IntKind.wrap .i64 (k5 + 1))) then (
 some (.inr (.inr (-1))))
 else (
 idx a0 s1.2 fun x8 =>
 bif (x8.2.2.2.2.2.1 != (IntKind.wrap .i64 ((IntKind.wrap .i64 (k5 + 1)) + 1))) then (
 some (.inr (.inr (-1))))
 else (
 let k9 : Int := IntKind.wrap .i64 ((IntKind.wrap .i64 ((IntKind.wrap .i64 (k5 + 1)) + 1)) + 1)
 idx a0 s1.2 fun x10 =>
 bif (x10.2.2.2.2.2.2.1 != k9) then (
 some (.inr (.inr (-1))))
 else (
 idx a0 s1.2 fun x11 =>
 bif (x11.2.2.2.2.2.2.2.1 != (IntKind.wrap .i64 (k9 + 1))) then (
 some (.inr (.inr (-1))))
 else (
 idx a0 s1.2 fun x12 =>
 bif (x12.2.2.2.2.2.2.2.2.1 != (IntKind.wrap .i64 ((IntKind.wrap .i64 (k9 + 1)) + 1))) then (
 some (.inr (.inr (-1))))
 else (
 let k13 : Int := IntKind.wrap .i64 ((IntKind.wrap .i64 ((IntKind.wrap .i64 (k9 + 1)) + 1)) + 1)
 idx a0 s1.2 fun x14 =>
 bif (x14.2.2.2.2.2.2.2.2.2.1 != k13) then (
 some (.inr (.inr (-1))))
 else (
 idx a0 s1.2 fun x15 =>
 bif (x15.2.2.2.2.2.2.2.2.2.2.1 != (IntKind.wrap .i64 (k13 + 1))) then (
 some (.inr (.inr (-1))))
 else (
 idx a0 s1.2 fun x16 =>
 if 3 = 0 then none else (
 let k17 : Int := (IntKind.wrap .i64 ((IntKind.wrap .i64 (k13 + 1)) + 1)).tmod 3
 bif (x16.2.2.2.2.2.2.2.2.2.2.2.1 != (k17 == 0)) then (
 some (.inr (.inr (-1))))
 else (
 let k18 : Int := IntKind.wrap .i64 ((IntKind.wrap .i64 ((IntKind.wrap .i64 (k13 + 1)) + 1)) + 1)
 idx a0 s1.2 fun x19 =>
 if 3 = 0 then none else (
 bif (x19.2.2.2.2.2.2.2.2.2.2.2.2.1 != ((k18.tmod 3) == 0)) then (
 some (.inr (.inr (-1))))
 else (
 some (.inl (IntKind.wrap .i64 (k18 + 1), IntKind.wrap .i64 (s1.2 + 1)))))))))))))))))))
 else (
 some (.inr (.inl s1)))
def laws_heldPieceS (a0 : (List T_Piece.D)) (a1 : Int) : Option Int :=
(while_ (laws_heldPieceS_l1 a0) (a1, 0)).bind fun o20 =>
 match o20 with
| .inl s21 => (
 some s21.1)
| .inr o22 => (
 some o22)
def laws_heldPieceS_h : Hints := (.node none none .none (.node none none (.node none none .none (.node none none (.node none (some ⟨[.tmp 1 (.int .i64), .tmp 5 (.int .i64)], [some 0], some [.tmp 4 (.int .i64)], []⟩) .none .none) .none)) .none))
def laws_heldPieceS_c : Ct := .pure true false (.pair (.slice T_Piece) (.pair (.int .i64) .unit)) (.int .i64) (fun x => laws_heldPieceS x.1 x.2.1)
theorem laws_heldPieceS_ct : CtOk Try.prog 164 laws_heldPieceS_c := pure_ct (E := { T := tab, G := [] }) (EnvOk.nil tabOk) mixed (fn := Try.f164) _ _ _ _ _ laws_heldPieceS_h Try.func164 (by kernel_rfl) (fun x => by kernel_rfl)
/-! loop.example/g00486/laws.heldSideS -/
def laws_heldSideS_l1 (a0 : (List T_Side.D)) : (Int × Int) → Option ((Int × Int) ⊕ ((Int × Int) ⊕ Int)) := fun s1 =>
 bif decide (s1.2 < (a0.length : Int)) then (
 idx a0 s1.2 fun x2 =>
 bif (x2.1 != s1.1) then (
 some (.inr (.inr (-1))))
 else (
 idx a0 s1.2 fun x3 =>
 bif (x3.2.1 != (IntKind.wrap .i64 (s1.1 + 1))) then (
 some (.inr (.inr (-1))))
 else (
 idx a0 s1.2 fun x4 =>
 if 3 = 0 then none else (
 let k5 : Int := (IntKind.wrap .i64 ((IntKind.wrap .i64 (s1.1 + 1)) + 1)).tmod 3
 bif (x4.2.2.1 != (k5 == 0)) then (
 some (.inr (.inr (-1))))
 else (
 let k6 : Int := IntKind.wrap .i64 ((IntKind.wrap .i64 ((IntKind.wrap .i64 (s1.1 + 1)) + 1)) + 1)
 some (.inl (k6, IntKind.wrap .i64 (s1.2 + 1))))))))
 else (
 some (.inr (.inl s1)))
def laws_heldSideS (a0 : (List T_Side.D)) (a1 : Int) : Option Int :=
(while_ (laws_heldSideS_l1 a0) (a1, 0)).bind fun o7 =>
 match o7 with
| .inl s8 => (
 some s8.1)
| .inr o9 => (
 some o9)
def laws_heldSideS_h : Hints := (.node none none .none (.node none none (.node none none .none (.node none none (.node none (some ⟨[.tmp 1 (.int .i64), .tmp 5 (.int .i64)], [some 0], some [.tmp 4 (.int .i64)], []⟩) .none .none) .none)) .none))
def laws_heldSideS_c : Ct := .pure true false (.pair (.slice T_Side) (.pair (.int .i64) .unit)) (.int .i64) (fun x => laws_heldSideS x.1 x.2.1)
theorem laws_heldSideS_ct : CtOk Try.prog 165 laws_heldSideS_c := pure_ct (E := { T := tab, G := [] }) (EnvOk.nil tabOk) mixed (fn := Try.f165) _ _ _ _ _ laws_heldSideS_h Try.func165 (by kernel_rfl) (fun x => by kernel_rfl)
/-! loop.example/g00486/laws.heldState -/
def laws_heldState (a0 : T_State.D) (a1 : Int) : Option Int :=
(laws_heldPieceS a0.1 a1).bind fun y1 =>
 bif decide (y1 < 0) then (
 some (-1))
 else (
(laws_heldSideS a0.2.1 y1).bind fun y2 =>
 bif decide (y2 < 0) then (
 some (-1))
 else (
 some y2))
def laws_heldState_c : Ct := .pure true false (.pair T_State (.pair (.int .i64) .unit)) (.int .i64) (fun x => laws_heldState x.1 x.2.1)
theorem laws_heldState_ct : CtOk Try.prog 54 laws_heldState_c := pure_ct (E := { T := tab, G := [(164, laws_heldPieceS_c), (165, laws_heldSideS_c)] }) (EnvOk.cons laws_heldPieceS_ct (EnvOk.cons laws_heldSideS_ct (EnvOk.nil tabOk))) mixed (fn := Try.f54) _ _ _ _ _ .none Try.func54 (by kernel_rfl) (fun x => by kernel_rfl)
/-! loop.example/g00486/laws.heldEffectS -/
def laws_heldEffectS_l1 (a0 : (List T_Effect.D)) : (Int × Int) → Option ((Int × Int) ⊕ ((Int × Int) ⊕ Int)) := fun s1 =>
 bif decide (s1.2 < (a0.length : Int)) then (
 idx a0 s1.2 fun x2 =>
 bif (x2.1 != s1.1) then (
 some (.inr (.inr (-1))))
 else (
 idx a0 s1.2 fun x3 =>
 bif (x3.2.1 != (IntKind.wrap .i64 (s1.1 + 1))) then (
 some (.inr (.inr (-1))))
 else (
 idx a0 s1.2 fun x4 =>
 bif (x4.2.2.1 != (IntKind.wrap .i64 ((IntKind.wrap .i64 (s1.1 + 1)) + 1))) then (
 some (.inr (.inr (-1))))
 else (
 let k5 : Int := IntKind.wrap .i64 ((IntKind.wrap .i64 ((IntKind.wrap .i64 (s1.1 + 1)) + 1)) + 1)
 idx a0 s1.2 fun x6 =>
 bif (x6.2.2.2.1 != k5) then (
 some (.inr (.inr (-1))))
 else (
 idx a0 s1.2 fun x7 =>
 bif (x7.2.2.2.2.1.1 != (IntKind.wrap .i64 (k5 + 1))) then (
 some (.inr (.inr (-1))))
 else (
 idx a0 s1.2 fun x8 =>
 bif (x8.2.2.2.2.1.2.1 != (IntKind.wrap .i64 ((IntKind.wrap .i64 (k5 + 1)) + 1))) then (
 some (.inr (.inr (-1))))
 else (
 let k9 : Int := IntKind.wrap .i64 ((IntKind.wrap .i64 ((IntKind.wrap .i64 (k5 + 1)) + 1)) + 1)
 idx a0 s1.2 fun x10 =>
 bif (x10.2.2.2.2.1.2.2.1 != k9) then (
 some (.inr (.inr (-1))))
 else (
 idx a0 s1.2 fun x11 =>
 bif (x11.2.2.2.2.1.2.2.2.1 != (IntKind.wrap .i64 (k9 + 1))) then (
 some (.inr (.inr (-1))))
 else (
 idx a0 s1.2 fun x12 =>
 bif (x12.2.2.2.2.1.2.2.2.2.1 != (IntKind.wrap .i64 ((IntKind.wrap .i64 (k9 + 1)) + 1))) then (
 some (.inr (.inr (-1))))
 else (
 let k13 : Int := IntKind.wrap .i64 ((IntKind.wrap .i64 ((IntKind.wrap .i64 (k9 + 1)) + 1)) + 1)
 idx a0 s1.2 fun x14 =>
 bif (x14.2.2.2.2.1.2.2.2.2.2.1 != k13) then (
 some (.inr (.inr (-1))))
 else (
 idx a0 s1.2 fun x15 =>
 bif (x15.2.2.2.2.1.2.2.2.2.2.2.1 != (IntKind.wrap .i64 (k13 + 1))) then (
 some (.inr (.inr (-1))))
 else (
 idx a0 s1.2 fun x16 =>
 bif (x16.2.2.2.2.2.1.1 != (IntKind.wrap .i64 ((IntKind.wrap .i64 (k13 + 1)) + 1))) then (
 some (.inr (.inr (-1))))
 else (
 let k17 : Int := IntKind.wrap .i64 ((IntKind.wrap .i64 ((IntKind.wrap .i64 (k13 + 1)) + 1)) + 1)
 idx a0 s1.2 fun x18 =>
 bif (x18.2.2.2.2.2.1.2.1 != k17) then (
 some (.inr (.inr (-1))))
 else (
 idx a0 s1.2 fun x19 =>
 bif (x19.2.2.2.2.2.2.1.1 != (IntKind.wrap .i64 (k17 + 1))) then (
 some (.inr (.inr (-1))))
 else (
 idx a0 s1.2 fun x20 =>
 bif (x20.2.2.2.2.2.2.1.2.1 != (IntKind.wrap .i64 ((IntKind.wrap .i64 (k17 + 1)) + 1))) then (
 some (.inr (.inr (-1))))
 else (
 let k21 : Int := IntKind.wrap .i64 ((IntKind.wrap .i64 ((IntKind.wrap .i64 (k17 + 1)) + 1)) + 1)
 idx a0 s1.2 fun x22 =>
 bif (x22.2.2.2.2.2.2.1.2.2.1 != k21) then (
 some (.inr (.inr (-1))))
 else (
 idx a0 s1.2 fun x23 =>
 bif (x23.2.2.2.2.2.2.1.2.2.2.1 != (IntKind.wrap .i64 (k21 + 1))) then (
 some (.inr (.inr (-1))))
 else (
 idx a0 s1.2 fun x24 =>
 bif (x24.2.2.2.2.2.2.1.2.2.2.2.1 != (IntKind.wrap .i64 ((IntKind.wrap .i64 (k21 + 1)) + 1))) then (
 some (.inr (.inr (-1))))
 else (
 let k25 : Int := IntKind.wrap .i64 ((IntKind.wrap .i64 ((IntKind.wrap .i64 (k21 + 1)) + 1)) + 1)
 idx a0 s1.2 fun x26 =>
 if 3 = 0 then none else (
 bif (x26.2.2.2.2.2.2.1.2.2.2.2.2.1 != ((k25.tmod 3) == 0)) then (
 some (.inr (.inr (-1))))
 else (
 idx a0 s1.2 fun x27 =>
(laws_heldEventS x27.2.2.2.2.2.2.1.2.2.2.2.2.2.1 (IntKind.wrap .i64 (k25 + 1))).bind fun y28 =>
 bif decide (y28 < 0) then (
 some (.inr (.inr (-1))))
 else (
 idx a0 s1.2 fun x29 =>
 bif (x29.2.2.2.2.2.2.2.1 != y28) then (
 some (.inr (.inr (-1))))
 else (
 idx a0 s1.2 fun x30 =>
 bif (x30.2.2.2.2.2.2.2.2.1 != (IntKind.wrap .i64 (y28 + 1))) then (
 some (.inr (.inr (-1))))
 else (
 some (.inl (IntKind.wrap .i64 ((IntKind.wrap .i64 (y28 + 1)) + 1), IntKind.wrap .i64 (s1.2 + 1)))))))))))))))))))))))))))
 else (
 some (.inr (.inl s1)))
def laws_heldEffectS (a0 : (List T_Effect.D)) (a1 : Int) : Option Int :=
(while_ (laws_heldEffectS_l1 a0) (a1, 0)).bind fun o31 =>
 match o31 with
| .inl s32 => (
 some s32.1)
| .inr o33 => (
 some o33)
def laws_heldEffectS_h : Hints := (.node none none .none (.node none none (.node none none .none (.node none none (.node none (some ⟨[.tmp 1 (.int .i64), .tmp 5 (.int .i64)], [some 0], some [.tmp 4 (.int .i64)], []⟩) .none .none) .none)) .none))
def laws_heldEffectS_c : Ct := .pure true false (.pair (.slice T_Effect) (.pair (.int .i64) .unit)) (.int .i64) (fun x => laws_heldEffectS x.1 x.2.1)
theorem laws_heldEffectS_ct : CtOk Try.prog 207 laws_heldEffectS_c := pure_ct (E := { T := tab, G := [(92, laws_heldEventS_c)] }) (EnvOk.cons laws_heldEventS_ct (EnvOk.nil tabOk)) mixed (fn := Try.f207) _ _ _ _ _ laws_heldEffectS_h Try.func207 (by kernel_rfl) (fun x => by kernel_rfl)
/-! loop.example/g00486/laws.heldIntS -/
def laws_heldIntS_l1 (a0 : (List Int)) : (Int × Int) → Option ((Int × Int) ⊕ ((Int × Int) ⊕ Int)) := fun s1 =>
 bif decide (s1.2 < (a0.length : Int)) then (
 idx a0 s1.2 fun x2 =>
 bif (x2 != s1.1) then (
 some (.inr (.inr (-1))))
 else (
 some (.inl (IntKind.wrap .i64 (s1.1 + 1), IntKind.wrap .i64 (s1.2 + 1)))))
 else (
 some (.inr (.inl s1)))
def laws_heldIntS (a0 : (List Int)) (a1 : Int) : Option Int :=
(while_ (laws_heldIntS_l1 a0) (a1, 0)).bind fun o3 =>
 match o3 with
| .inl s4 => (
 some s4.1)
| .inr o5 => (
 some o5)
def laws_heldIntS_h : Hints := (.node none none .none (.node none none (.node none none .none (.node none none (.node none (some ⟨[.tmp 1 (.int .i64), .tmp 5 (.int .i64)], [some 0], some [.tmp 4 (.int .i64)], []⟩) .none .none) .none)) .none))
def laws_heldIntS_c : Ct := .pure true false (.pair (.slice (.int .i64)) (.pair (.int .i64) .unit)) (.int .i64) (fun x => laws_heldIntS x.1 x.2.1)
theorem laws_heldIntS_ct : CtOk Try.prog 45 laws_heldIntS_c := pure_ct (E := { T := tab, G := [] }) (EnvOk.nil tabOk) mixed (fn := Try.f45) _ _ _ _ _ laws_heldIntS_h Try.func45 (by kernel_rfl) (fun x => by kernel_rfl)
/-! loop.example/g00486/laws.heldTriggerS -/
def laws_heldTriggerS_l1 (a0 : (List T_Trigger.D)) : (Int × Int) → Option ((Int × Int) ⊕ ((Int × Int) ⊕ Int)) := fun s1 =>
 bif decide (s1.2 < (a0.length : Int)) then (
 idx a0 s1.2 fun x2 =>
 bif (x2.1 != s1.1) then (
 some (.inr (.inr (-1))))
 else (
 idx a0 s1.2 fun x3 =>
 bif (x3.2.1 != (IntKind.wrap .i64 (s1.1 + 1))) then (
 some (.inr (.inr (-1))))
 else (
 idx a0 s1.2 fun x4 =>
 bif (x4.2.2.1 != (IntKind.wrap .i64 ((IntKind.wrap .i64 (s1.1 + 1)) + 1))) then (
 some (.inr (.inr (-1))))
 else (
 let k5 : Int := IntKind.wrap .i64 ((IntKind.wrap .i64 ((IntKind.wrap .i64 (s1.1 + 1)) + 1)) + 1)
 idx a0 s1.2 fun x6 =>
 bif (x6.2.2.2.1.1 != k5) then (
 some (.inr (.inr (-1))))
 else (
 idx a0 s1.2 fun x7 =>
 bif (x7.2.2.2.1.2.1 != (IntKind.wrap .i64 (k5 + 1))) then (
 some (.inr (.inr (-1))))
 else (
 idx a0 s1.2 fun x8 =>
 bif (x8.2.2.2.1.2.2.1 != (IntKind.wrap .i64 ((IntKind.wrap .i64 (k5 + 1)) + 1))) then (
 some (.inr (.inr (-1))))
 else (
 let k9 : Int := IntKind.wrap .i64 ((IntKind.wrap .i64 ((IntKind.wrap .i64 (k5 + 1)) + 1)) + 1)
 idx a0 s1.2 fun x10 =>
 bif (x10.2.2.2.1.2.2.2.1 != k9) then (
 some (.inr (.inr (-1))))
 else (
 idx a0 s1.2 fun x11 =>
 bif (x11.2.2.2.1.2.2.2.2.1 != (IntKind.wrap .i64 (k9 + 1))) then (
 some (.inr (.inr (-1))))
 else (
 idx a0 s1.2 fun x12 =>
 bif (x12.2.2.2.1.2.2.2.2.2.1 != (IntKind.wrap .i64 ((IntKind.wrap .i64 (k9 + 1)) + 1))) then (
 some (.inr (.inr (-1))))
 else (
 let k13 : Int := IntKind.wrap .i64 ((IntKind.wrap .i64 ((IntKind.wrap .i64 (k9 + 1)) + 1)) + 1)
 idx a0 s1.2 fun x14 =>
 bif (x14.2.2.2.1.2.2.2.2.2.2.1 != k13) then (
 some (.inr (.inr (-1))))
 else (
 idx a0 s1.2 fun x15 =>
 bif (x15.2.2.2.1.2.2.2.2.2.2.2.1 != (IntKind.wrap .i64 (k13 + 1))) then (
 some (.inr (.inr (-1))))
 else (
 idx a0 s1.2 fun x16 =>
 bif (x16.2.2.2.1.2.2.2.2.2.2.2.2.1 != (IntKind.wrap .i64 ((IntKind.wrap .i64 (k13 + 1)) + 1))) then (
 some (.inr (.inr (-1))))
 else (
 let k17 : Int := IntKind.wrap .i64 ((IntKind.wrap .i64 ((IntKind.wrap .i64 (k13 + 1)) + 1)) + 1)
 idx a0 s1.2 fun x18 =>
 bif (x18.2.2.2.1.2.2.2.2.2.2.2.2.2.1 != k17) then (
 some (.inr (.inr (-1))))
 else (
 idx a0 s1.2 fun x19 =>
 bif (x19.2.2.2.1.2.2.2.2.2.2.2.2.2.2.1 != (IntKind.wrap .i64 (k17 + 1))) then (
 some (.inr (.inr (-1))))
 else (
 idx a0 s1.2 fun x20 =>
 if 3 = 0 then none else (
 let k21 : Int := (IntKind.wrap .i64 ((IntKind.wrap .i64 (k17 + 1)) + 1)).tmod 3
 bif (x20.2.2.2.1.2.2.2.2.2.2.2.2.2.2.2.1 != (k21 == 0)) then (
 some (.inr (.inr (-1))))
 else (
 let k22 : Int := IntKind.wrap .i64 ((IntKind.wrap .i64 ((IntKind.wrap .i64 (k17 + 1)) + 1)) + 1)
 idx a0 s1.2 fun x23 =>
 if 3 = 0 then none else (
 bif (x23.2.2.2.1.2.2.2.2.2.2.2.2.2.2.2.2.1 != ((k22.tmod 3) == 0)) then (
 some (.inr (.inr (-1))))
 else (
 some (.inl (IntKind.wrap .i64 (k22 + 1), IntKind.wrap .i64 (s1.2 + 1))))))))))))))))))))))
 else (
 some (.inr (.inl s1)))
def laws_heldTriggerS (a0 : (List T_Trigger.D)) (a1 : Int) : Option Int :=
(while_ (laws_heldTriggerS_l1 a0) (a1, 0)).bind fun o24 =>
 match o24 with
| .inl s25 => (
 some s25.1)
| .inr o26 => (
 some o26)
def laws_heldTriggerS_h : Hints := (.node none none .none (.node none none (.node none none .none (.node none none (.node none (some ⟨[.tmp 1 (.int .i64), .tmp 5 (.int .i64)], [some 0], some [.tmp 4 (.int .i64)], []⟩) .none .none) .none)) .none))
def laws_heldTriggerS_c : Ct := .pure true false (.pair (.slice T_Trigger) (.pair (.int .i64) .unit)) (.int .i64) (fun x => laws_heldTriggerS x.1 x.2.1)
theorem laws_heldTriggerS_ct : CtOk Try.prog 44 laws_heldTriggerS_c := pure_ct (E := { T := tab, G := [] }) (EnvOk.nil tabOk) mixed (fn := Try.f44) _ _ _ _ _ laws_heldTriggerS_h Try.func44 (by kernel_rfl) (fun x => by kernel_rfl)
/-! loop.example/g00486/laws.heldNoteS -/
def laws_heldNoteS_l1 (a0 : (List T_Note.D)) : (Int × Int) → Option ((Int × Int) ⊕ ((Int × Int) ⊕ Int)) := fun s1 =>
 bif decide (s1.2 < (a0.length : Int)) then (
 idx a0 s1.2 fun x2 =>
 bif (x2.1 != s1.1) then (
 some (.inr (.inr (-1))))
 else (
 idx a0 s1.2 fun x3 =>
 bif (x3.2.1.1 != (IntKind.wrap .i64 (s1.1 + 1))) then (
 some (.inr (.inr (-1))))
 else (
 idx a0 s1.2 fun x4 =>
 bif (x4.2.1.2.1 != (IntKind.wrap .i64 ((IntKind.wrap .i64 (s1.1 + 1)) + 1))) then (
 some (.inr (.inr (-1))))
 else (
 let k5 : Int := IntKind.wrap .i64 ((IntKind.wrap .i64 ((IntKind.wrap .i64 (s1.1 + 1)) + 1)) + 1)
 idx a0 s1.2 fun x6 =>
 bif (x6.2.1.2.2.1 != k5) then (
 some (.inr (.inr (-1))))
 else (
 idx a0 s1.2 fun x7 =>
 bif (x7.2.1.2.2.2.1 != (IntKind.wrap .i64 (k5 + 1))) then (
 some (.inr (.inr (-1))))
 else (
 idx a0 s1.2 fun x8 =>
 bif (x8.2.1.2.2.2.2.1 != (IntKind.wrap .i64 ((IntKind.wrap .i64 (k5 + 1)) + 1))) then (
 some (.inr (.inr (-1))))
 else (
 let k9 : Int := IntKind.wrap .i64 ((IntKind.wrap .i64 ((IntKind.wrap .i64 (k5 + 1)) + 1)) + 1)
 idx a0 s1.2 fun x10 =>
 bif (x10.2.1.2.2.2.2.2.1 != k9) then (
 some (.inr (.inr (-1))))
 else (
 idx a0 s1.2 fun x11 =>
 if 3 = 0 then none else (
 bif (x11.2.1.2.2.2.2.2.2.1 != (((IntKind.wrap .i64 (k9 + 1)).tmod 3) == 0)) then (
 some (.inr (.inr (-1))))
 else (
 idx a0 s1.2 fun x12 =>
 bif (x12.2.2.1 != (IntKind.wrap .i64 ((IntKind.wrap .i64 (k9 + 1)) + 1))) then (
 some (.inr (.inr (-1))))
 else (
 let k13 : Int := IntKind.wrap .i64 ((IntKind.wrap .i64 ((IntKind.wrap .i64 (k9 + 1)) + 1)) + 1)
 idx a0 s1.2 fun x14 =>
 bif (x14.2.2.2.1 != k13) then (
 some (.inr (.inr (-1))))
 else (
 idx a0 s1.2 fun x15 =>
 bif (x15.2.2.2.2.1.1 != (IntKind.wrap .i64 (k13 + 1))) then (
 some (.inr (.inr (-1))))
 else (
 idx a0 s1.2 fun x16 =>
 bif (x16.2.2.2.2.1.2.1 != (IntKind.wrap .i64 ((IntKind.wrap .i64 (k13 + 1)) + 1))) then (
 some (.inr (.inr (-1))))
 else (
 let k17 : Int := IntKind.wrap .i64 ((IntKind.wrap .i64 ((IntKind.wrap .i64 (k13 + 1)) + 1)) + 1)
 idx a0 s1.2 fun x18 =>
 bif (x18.2.2.2.2.1.2.2.1 != k17) then (
 some (.inr (.inr (-1))))
 else (
 idx a0 s1.2 fun x19 =>
 bif (x19.2.2.2.2.1.2.2.2.1 != (IntKind.wrap .i64 (k17 + 1))) then (
 some (.inr (.inr (-1))))
 else (
 idx a0 s1.2 fun x20 =>
 bif (x20.2.2.2.2.1.2.2.2.2.1 != (IntKind.wrap .i64 ((IntKind.wrap .i64 (k17 + 1)) + 1))) then (
 some (.inr (.inr (-1))))
 else (
 let k21 : Int := IntKind.wrap .i64 ((IntKind.wrap .i64 ((IntKind.wrap .i64 (k17 + 1)) + 1)) + 1)
 idx a0 s1.2 fun x22 =>
 bif (x22.2.2.2.2.1.2.2.2.2.2.1 != k21) then (
 some (.inr (.inr (-1))))
 else (
 idx a0 s1.2 fun x23 =>
 bif (x23.2.2.2.2.1.2.2.2.2.2.2.1 != (IntKind.wrap .i64 (k21 + 1))) then (
 some (.inr (.inr (-1))))
 else (
 idx a0 s1.2 fun x24 =>
 bif (x24.2.2.2.2.1.2.2.2.2.2.2.2.1 != (IntKind.wrap .i64 ((IntKind.wrap .i64 (k21 + 1)) + 1))) then (
 some (.inr (.inr (-1))))
 else (
 let k25 : Int := IntKind.wrap .i64 ((IntKind.wrap .i64 ((IntKind.wrap .i64 (k21 + 1)) + 1)) + 1)
 idx a0 s1.2 fun x26 =>
 bif (x26.2.2.2.2.1.2.2.2.2.2.2.2.2.1 != k25) then (
 some (.inr (.inr (-1))))
 else (
 idx a0 s1.2 fun x27 =>
 bif (x27.2.2.2.2.1.2.2.2.2.2.2.2.2.2.1 != (IntKind.wrap .i64 (k25 + 1))) then (
 some (.inr (.inr (-1))))
 else (
 idx a0 s1.2 fun x28 =>
 bif (x28.2.2.2.2.1.2.2.2.2.2.2.2.2.2.2.1 != (IntKind.wrap .i64 ((IntKind.wrap .i64 (k25 + 1)) + 1))) then (
 some (.inr (.inr (-1))))
 else (
 let k29 : Int := IntKind.wrap .i64 ((IntKind.wrap .i64 ((IntKind.wrap .i64 (k25 + 1)) + 1)) + 1)
 idx a0 s1.2 fun x30 =>
 if 3 = 0 then none else (
 bif (x30.2.2.2.2.1.2.2.2.2.2.2.2.2.2.2.2.1 != ((k29.tmod 3) == 0)) then (
 some (.inr (.inr (-1))))
 else (
 idx a0 s1.2 fun x31 =>
 if 3 = 0 then none else (
 bif (x31.2.2.2.2.1.2.2.2.2.2.2.2.2.2.2.2.2.1 != (((IntKind.wrap .i64 (k29 + 1)).tmod 3) == 0)) then (
 some (.inr (.inr (-1))))
 else (
 some (.inl (IntKind.wrap .i64 ((IntKind.wrap .i64 (k29 + 1)) + 1), IntKind.wrap .i64 (s1.2 + 1))))))))))))))))))))))))))))))
 else (
 some (.inr (.inl s1)))
def laws_heldNoteS (a0 : (List T_Note.D)) (a1 : Int) : Option Int :=
(while_ (laws_heldNoteS_l1 a0) (a1, 0)).bind fun o32 =>
 match o32 with
| .inl s33 => (
 some s33.1)
| .inr o34 => (
 some o34)
def laws_heldNoteS_h : Hints := (.node none none .none (.node none none (.node none none .none (.node none none (.node none (some ⟨[.tmp 1 (.int .i64), .tmp 5 (.int .i64)], [some 0], some [.tmp 4 (.int .i64)], []⟩) .none .none) .none)) .none))
def laws_heldNoteS_c : Ct := .pure true false (.pair (.slice T_Note) (.pair (.int .i64) .unit)) (.int .i64) (fun x => laws_heldNoteS x.1 x.2.1)
theorem laws_heldNoteS_ct : CtOk Try.prog 55 laws_heldNoteS_c := pure_ct (E := { T := tab, G := [] }) (EnvOk.nil tabOk) mixed (fn := Try.f55) _ _ _ _ _ laws_heldNoteS_h Try.func55 (by kernel_rfl) (fun x => by kernel_rfl)
/-! loop.example/g00486/laws.heldTurnS -/
def laws_heldTurnS_l1 (a0 : (List T_Turn.D)) : (Int × Int) → Option ((Int × Int) ⊕ ((Int × Int) ⊕ Int)) := fun s1 =>
 bif decide (s1.2 < (a0.length : Int)) then (
 idx a0 s1.2 fun x2 =>
 bif (x2.1 != s1.1) then (
 some (.inr (.inr (-1))))
 else (
 idx a0 s1.2 fun x3 =>
 bif (x3.2.1 != (IntKind.wrap .i64 (s1.1 + 1))) then (
 some (.inr (.inr (-1))))
 else (
 idx a0 s1.2 fun x4 =>
 bif (x4.2.2.1 != (IntKind.wrap .i64 ((IntKind.wrap .i64 (s1.1 + 1)) + 1))) then (
 some (.inr (.inr (-1))))
 else (
 let k5 : Int := IntKind.wrap .i64 ((IntKind.wrap .i64 ((IntKind.wrap .i64 (s1.1 + 1)) + 1)) + 1)
 idx a0 s1.2 fun x6 =>
 bif (x6.2.2.2.1 != k5) then (
 some (.inr (.inr (-1))))
 else (
 idx a0 s1.2 fun x7 =>
 bif (x7.2.2.2.2.1.1 != (IntKind.wrap .i64 (k5 + 1))) then (
 some (.inr (.inr (-1))))
 else (
 idx a0 s1.2 fun x8 =>
 bif (x8.2.2.2.2.1.2.1 != (IntKind.wrap .i64 ((IntKind.wrap .i64 (k5 + 1)) + 1))) then (
 some (.inr (.inr (-1))))
 else (
 let k9 : Int := IntKind.wrap .i64 ((IntKind.wrap .i64 ((IntKind.wrap .i64 (k5 + 1)) + 1)) + 1)
 idx a0 s1.2 fun x10 =>
 bif (x10.2.2.2.2.1.2.2.1 != k9) then (
 some (.inr (.inr (-1))))
 else (
 idx a0 s1.2 fun x11 =>
 bif (x11.2.2.2.2.1.2.2.2.1 != (IntKind.wrap .i64 (k9 + 1))) then (
 some (.inr (.inr (-1))))
 else (
 idx a0 s1.2 fun x12 =>
 bif (x12.2.2.2.2.1.2.2.2.2.1 != (IntKind.wrap .i64 ((IntKind.wrap .i64 (k9 + 1)) + 1))) then (
 some (.inr (.inr (-1))))
 else (
 let k13 : Int := IntKind.wrap .i64 ((IntKind.wrap .i64 ((IntKind.wrap .i64 (k9 + 1)) + 1)) + 1)
 idx a0 s1.2 fun x14 =>
 bif (x14.2.2.2.2.1.2.2.2.2.2.1 != k13) then (
 some (.inr (.inr (-1))))
 else (
 idx a0 s1.2 fun x15 =>
 if 3 = 0 then none else (
 bif (x15.2.2.2.2.1.2.2.2.2.2.2.1 != (((IntKind.wrap .i64 (k13 + 1)).tmod 3) == 0)) then (
 some (.inr (.inr (-1))))
 else (
 idx a0 s1.2 fun x16 =>
(laws_heldEventS x16.2.2.2.2.2.1 (IntKind.wrap .i64 ((IntKind.wrap .i64 (k13 + 1)) + 1))).bind fun y17 =>
 bif decide (y17 < 0) then (
 some (.inr (.inr (-1))))
 else (
 idx a0 s1.2 fun x18 =>
 bif (x18.2.2.2.2.2.2.1 != y17) then (
 some (.inr (.inr (-1))))
 else (
 idx a0 s1.2 fun x19 =>
 bif (x19.2.2.2.2.2.2.2.1 != (IntKind.wrap .i64 (y17 + 1))) then (
 some (.inr (.inr (-1))))
 else (
 some (.inl (IntKind.wrap .i64 ((IntKind.wrap .i64 (y17 + 1)) + 1), IntKind.wrap .i64 (s1.2 + 1)))))))))))))))))))
 else (
 some (.inr (.inl s1)))
def laws_heldTurnS (a0 : (List T_Turn.D)) (a1 : Int) : Option Int :=
(while_ (laws_heldTurnS_l1 a0) (a1, 0)).bind fun o20 =>
 match o20 with
| .inl s21 => (
 some s21.1)
| .inr o22 => (
 some o22)
def laws_heldTurnS_h : Hints := (.node none none .none (.node none none (.node none none .none (.node none none (.node none (some ⟨[.tmp 1 (.int .i64), .tmp 5 (.int .i64)], [some 0], some [.tmp 4 (.int .i64)], []⟩) .none .none) .none)) .none))
def laws_heldTurnS_c : Ct := .pure true false (.pair (.slice T_Turn) (.pair (.int .i64) .unit)) (.int .i64) (fun x => laws_heldTurnS x.1 x.2.1)
theorem laws_heldTurnS_ct : CtOk Try.prog 208 laws_heldTurnS_c := pure_ct (E := { T := tab, G := [(92, laws_heldEventS_c)] }) (EnvOk.cons laws_heldEventS_ct (EnvOk.nil tabOk)) mixed (fn := Try.f208) _ _ _ _ _ laws_heldTurnS_h Try.func208 (by kernel_rfl) (fun x => by kernel_rfl)
/-! loop.example/g00486/laws.heldGame -/
def laws_heldGame (a0 : T_Game.D) (a1 : Int) : Option Int :=
(laws_heldState a0.1 a1).bind fun y1 =>
 bif decide (y1 < 0) then (
 some (-1))
 else (
(laws_heldEffectS a0.2.1 y1).bind fun y2 =>
 bif decide (y2 < 0) then (
 some (-1))
 else (
(laws_heldIntS a0.2.2.1 y2).bind fun y3 =>
 bif decide (y3 < 0) then (
 some (-1))
 else (
(laws_heldTriggerS a0.2.2.2.1 y3).bind fun y4 =>
 bif decide (y4 < 0) then (
 some (-1))
 else (
(laws_heldNoteS a0.2.2.2.2.1 y4).bind fun y5 =>
 bif decide (y5 < 0) then (
 some (-1))
 else (
(laws_heldTurnS a0.2.2.2.2.2.1 y5).bind fun y6 =>
 bif decide (y6 < 0) then (
 some (-1))
 else (
 some y6))))))
def laws_heldGame_c : Ct := .pure true false (.pair T_Game (.pair (.int .i64) .unit)) (.int .i64) (fun x => laws_heldGame x.1 x.2.1)
theorem laws_heldGame_ct : CtOk Try.prog 104 laws_heldGame_c := pure_ct (E := { T := tab, G := [(44, laws_heldTriggerS_c), (45, laws_heldIntS_c), (54, laws_heldState_c), (55, laws_heldNoteS_c), (207, laws_heldEffectS_c), (208, laws_heldTurnS_c)] }) (EnvOk.cons laws_heldTriggerS_ct (EnvOk.cons laws_heldIntS_ct (EnvOk.cons laws_heldState_ct (EnvOk.cons laws_heldNoteS_ct (EnvOk.cons laws_heldEffectS_ct (EnvOk.cons laws_heldTurnS_ct (EnvOk.nil tabOk))))))) mixed (fn := Try.f104) _ _ _ _ _ .none Try.func104 (by kernel_rfl) (fun x => by kernel_rfl)
/-! loop.example/g00486/laws.FnExactGameNew -/
def laws_FnExactGameNew (a0 : T_State.D) (a1 : (List T_Effect.D)) (a2 : (List Int)) : Option Bool :=
 bif decide ((a2.length : Int) > 1048576) then (
 some true)
 else (
(laws_szState a0 1048576).bind fun y1 =>
 bif decide (y1 < 0) then (
 some true)
 else (
(laws_szEffectS a1 y1).bind fun y2 =>
 bif decide (y2 < 0) then (
 some true)
 else (
(laws_toState a0).bind fun y3 =>
(laws_toEffectS a1).bind fun y4 =>
(laws_toIntS a2).bind fun y5 =>
(spec_GameNew y3 y4 y5).bind fun y6 =>
(laws_toState a0).bind fun y7 =>
(laws_toEffectS a1).bind fun y8 =>
(laws_toIntS a2).bind fun y9 =>
(impl_GameNew y7 y8 y9).bind fun y10 =>
(laws_eqGame y10 y6).bind fun y11 =>
 bif (!y11) then (
 some false)
 else (
(laws_toState a0).bind fun y12 =>
(laws_eqState y7 y12).bind fun y13 =>
 bif (!y13) then (
 some false)
 else (
(laws_toEffectS a1).bind fun y14 =>
(laws_eqEffectS y8 y14).bind fun y15 =>
 bif (!y15) then (
 some false)
 else (
(laws_toIntS a2).bind fun y16 =>
(laws_eqIntS y9 y16).bind fun y17 =>
 bif (!y17) then (
 some false)
 else (
(laws_markState y7 1).bind fun y18 =>
(laws_markEffectS y8 y18.1).bind fun y19 =>
(laws_markIntS y9 y19.1).bind fun y20 =>
((bif decide (y20.1 < 0) then (
 some true)
 else (
(laws_eqGame y10 y6).bind fun y21 =>
 some (!y21))) : Option Bool).bind fun o22 =>
 bif o22 then (
 some false)
 else (
(laws_markGame y10 1).bind fun y23 =>
(laws_heldGame ((y23.2.1.1.1, y23.2.1.1.2.1, y10.1.2.2), y23.2.1.2) 1).bind fun y24 =>
 bif decide (y24 < 0) then (
 some false)
 else (
 bif (y24 != y23.1) then (
 some false)
 else (
(laws_toState a0).bind fun y25 =>
(laws_toEffectS a1).bind fun y26 =>
(laws_toIntS a2).bind fun y27 =>
(impl_GameNew y25 y26 y27).bind fun y28 =>
(laws_eqGame y28 y6).bind fun y29 =>
 bif (!y29) then (
 some false)
 else (
(laws_heldGame ((y23.2.1.1.1, y23.2.1.1.2.1, y10.1.2.2), y23.2.1.2) 1).bind fun y30 =>
 bif decide (y30 < 0) then (
 some false)
 else (
 bif (y30 != y23.1) then (
 some false)
 else (
 some true)))))))))))))
def laws_FnExactGameNew_h : Hints := (.node none none .none (.node none none .none (.node none none .none (.node none none .none (.node none none .none (.node none none .none (.node none none .none (.node none none .none (.node none none .none (.node none none .none (.node none none .none (.node none none .none (.node none none .none (.node none none .none (.node none none .none (.node none none .none (.node none none .none (.node none none .none (.node none none .none (.node none none .none (.node none none (.node none none (.node (some ⟨[.tmp 82 .bool], [none], none, []⟩) none .none .none) .none) .none)))))))))))))))))))))
def laws_FnExactGameNew_c : Ct := .pure true false (.pair T_State (.pair (.slice T_Effect) (.pair (.slice (.int .i64)) .unit))) .bool (fun x => laws_FnExactGameNew x.1 x.2.1 x.2.2.1)
theorem laws_FnExactGameNew_ct : CtOk Try.prog 12 laws_FnExactGameNew_c := pure_ct (E := { T := tab, G := [(33, laws_szState_c), (35, laws_toState_fresh_c), (37, laws_toIntS_fresh_c), (39, laws_eqIntS_c), (40, laws_eqState_c), (41, laws_markState_c), (43, laws_markIntS_c), (96, laws_szEffectS_c), (97, spec_GameNew_fresh_c), (98, laws_toEffectS_fresh_c), (99, impl_GameNew_fresh_c), (100, laws_eqGame_c), (101, laws_eqEffectS_c), (102, laws_markEffectS_c), (103, laws_markGame_c), (104, laws_heldGame_c)] }) (EnvOk.cons laws_szState_ct (EnvOk.cons laws_toState_fresh_ct (EnvOk.cons laws_toIntS_fresh_ct (EnvOk.cons laws_eqIntS_ct (EnvOk.cons laws_eqState_ct (EnvOk.cons laws_markState_ct (EnvOk.cons laws_markIntS_ct (EnvOk.cons laws_szEffectS_ct (EnvOk.cons spec_GameNew_fresh_ct (EnvOk.cons laws_toEffectS_fresh_ct (EnvOk.cons impl_GameNew_fresh_ct (EnvOk.cons laws_eqGame_ct (EnvOk.cons laws_eqEffectS_ct (EnvOk.cons laws_markEffectS_ct (EnvOk.cons laws_markGame_ct (EnvOk.cons laws_heldGame_ct (EnvOk.nil tabOk))))))))))))))))) mixed (fn := Try.f12) _ _ _ _ _ laws_FnExactGameNew_h Try.func12 (by kernel_rfl) (fun x => by kernel_rfl)
end
end Go.Abs
