import Derived.Test.YtocdfakhhnbagaaProg
import Derived.Test.YtocdfakhhnbagaaAbsTab
set_option linter.unusedVariables false
set_option linter.unusedSimpArgs false
namespace Go.Abs
open Go.Proofs
set_option maxRecDepth 100000
noncomputable section
@[reducible] def T_Event : Ty := (.pair (.int .i64) (.pair (.int .i64) (.pair (.int .i64) (.pair (.int .i64) (.pair (.int .i64) (.pair (.int .i64) (.pair .bool .unit)))))))
@[reducible] def T_Pat : Ty := (.pair (.int .i64) (.pair (.int .i64) (.pair (.int .i64) (.pair (.int .i64) (.pair (.int .i64) (.pair (.int .i64) (.pair (.int .i64) .unit)))))))
@[reducible] def T_Guard : Ty := (.pair (.int .i64) (.pair (.int .i64) .unit))
@[reducible] def T_Act : Ty := (.pair (.int .i64) (.pair (.int .i64) (.pair (.int .i64) (.pair (.int .i64) (.pair (.int .i64) (.pair .bool (.pair (.slice T_Event) .unit)))))))
@[reducible] def T_Effect : Ty := (.pair (.int .i64) (.pair (.int .i64) (.pair (.int .i64) (.pair (.int .i64) (.pair T_Pat (.pair T_Guard (.pair T_Act (.pair (.int .i64) (.pair (.int .i64) .unit)))))))))
@[reducible] def T_Turn : Ty := (.pair (.int .i64) (.pair (.int .i64) (.pair (.int .i64) (.pair (.int .i64) (.pair T_Event (.pair (.slice T_Event) (.pair (.int .i64) (.pair (.int .i64) .unit))))))))
@[reducible] def T_Fate : Ty := (.pair (.slice T_Event) (.pair (.slice T_Effect) (.pair (.slice (.int .i64)) (.pair (.slice T_Turn) .unit))))
@[reducible] def T_Piece : Ty := (.pair (.int .i64) (.pair (.int .i64) (.pair (.int .i64) (.pair (.int .i64) (.pair (.int .i64) (.pair (.int .i64) (.pair (.int .i64) (.pair (.int .i64) (.pair (.int .i64) (.pair (.int .i64) (.pair (.int .i64) (.pair .bool (.pair .bool .unit)))))))))))))
@[reducible] def T_Side : Ty := (.pair (.int .i64) (.pair (.int .i64) (.pair .bool .unit)))
@[reducible] def T_State : Ty := (.pair (.slice T_Piece) (.pair (.slice T_Side) (.pair (.int .i64) (.pair (.int .i64) .unit))))
@[reducible] def T_Trigger : Ty := (.pair (.int .i64) (.pair (.int .i64) (.pair (.int .i64) (.pair T_Piece .unit))))
@[reducible] def T_Note : Ty := (.pair (.int .i64) (.pair T_Event (.pair (.int .i64) (.pair (.int .i64) (.pair T_Piece .unit)))))
@[reducible] def T_Game : Ty := (.pair T_State (.pair (.slice T_Effect) (.pair (.slice (.int .i64)) (.pair (.slice T_Trigger) (.pair (.slice T_Note) (.pair (.slice T_Turn) .unit))))))
@[reducible] def T_S7 : Ty := (.pair (.int .i64) (.pair (.int .i64) (.pair .bool (.pair (.int .u8) .unit))))
def tab : Tab := [
  (1, ⟨.other, 1, 0, .unit, [.undef]⟩),
  (2, ⟨.int .i64, 1, 0, (.int .i64), [.int .i64 0]⟩),
  (3, ⟨.int .i64, 1, 0, (.int .i64), [.int .i64 0]⟩),
  (4, ⟨.bool, 1, 0, .bool, [.bool false]⟩),
  (5, ⟨.int .u8, 1, 0, (.int .u8), [.int .u8 0]⟩),
  (6, ⟨.int .u8, 1, 0, (.int .u8), [.int .u8 0]⟩),
  (7, ⟨.struct [(0, 2), (1, 3), (2, 4), (3, 6)], 4, 0, T_S7, [.int .i64 0, .int .i64 0, .bool false, .int .u8 0]⟩),
  (8, ⟨.struct [(0, 2), (1, 3), (2, 4), (3, 6)], 4, 0, T_S7, [.int .i64 0, .int .i64 0, .bool false, .int .u8 0]⟩),
  (12, ⟨.int .u64, 1, 0, (.int .u64), [.int .u64 0]⟩),
  (15, ⟨.other, 1, 0, .unit, [.undef]⟩),
  (16, ⟨.other, 1, 0, .unit, [.undef]⟩),
  (17, ⟨.other, 1, 0, .unit, [.undef]⟩),
  (21, ⟨.int .i32, 1, 0, (.int .i32), [.int .i32 0]⟩),
  (22, ⟨.slice 73, 1, 0, (.slice T_Piece), [.nil]⟩),
  (23, ⟨.slice 156, 1, 0, (.slice T_Side), [.nil]⟩),
  (24, ⟨.struct [(0, 22), (1, 23), (2, 3), (3, 3)], 4, 0, T_State, [.nil, .nil, .int .i64 0, .int .i64 0]⟩),
  (25, ⟨.struct [(0, 22), (1, 23), (2, 3), (3, 3)], 4, 0, T_State, [.nil, .nil, .int .i64 0, .int .i64 0]⟩),
  (26, ⟨.other, 1, 0, .unit, [.undef]⟩),
  (27, ⟨.other, 1, 0, .unit, [.undef]⟩),
  (28, ⟨.slice 76, 1, 0, (.slice T_Piece), [.nil]⟩),
  (29, ⟨.slice 125, 1, 0, (.slice T_Side), [.nil]⟩),
  (30, ⟨.struct [(0, 28), (1, 29), (2, 3), (3, 3)], 4, 0, T_State, [.nil, .nil, .int .i64 0, .int .i64 0]⟩),
  (31, ⟨.struct [(0, 28), (1, 29), (2, 3), (3, 3)], 4, 0, T_State, [.nil, .nil, .int .i64 0, .int .i64 0]⟩),
  (32, ⟨.other, 1, 0, .unit, [.undef]⟩),
  (33, ⟨.other, 1, 0, .unit, [.undef]⟩),
  (34, ⟨.other, 1, 0, .unit, [.undef]⟩),
  (35, ⟨.slice 65, 1, 0, (.slice T_Event), [.nil]⟩),
  (36, ⟨.slice 167, 1, 0, (.slice T_Effect), [.nil]⟩),
  (37, ⟨.slice 3, 1, 0, (.slice (.int .i64)), [.nil]⟩),
  (38, ⟨.slice 170, 1, 0, (.slice T_Turn), [.nil]⟩),
  (39, ⟨.struct [(0, 35), (1, 36), (2, 37), (3, 38)], 4, 0, T_Fate, [.nil, .nil, .nil, .nil]⟩),
  (40, ⟨.struct [(0, 35), (1, 36), (2, 37), (3, 38)], 4, 0, T_Fate, [.nil, .nil, .nil, .nil]⟩),
  (41, ⟨.other, 1, 0, .unit, [.undef]⟩),
  (42, ⟨.other, 1, 0, .unit, [.undef]⟩),
  (43, ⟨.slice 68, 1, 0, (.slice T_Event), [.nil]⟩),
  (44, ⟨.slice 176, 1, 0, (.slice T_Effect), [.nil]⟩),
  (45, ⟨.slice 109, 1, 0, (.slice T_Turn), [.nil]⟩),
  (46, ⟨.struct [(0, 43), (1, 44), (2, 37), (3, 45)], 4, 0, T_Fate, [.nil, .nil, .nil, .nil]⟩),
  (47, ⟨.struct [(0, 43), (1, 44), (2, 37), (3, 45)], 4, 0, T_Fate, [.nil, .nil, .nil, .nil]⟩),
  (48, ⟨.other, 1, 0, .unit, [.undef]⟩),
  (49, ⟨.other, 1, 0, .unit, [.undef]⟩),
  (50, ⟨.other, 1, 0, .unit, [.undef]⟩),
  (51, ⟨.other, 1, 0, .unit, [.undef]⟩),
  (52, ⟨.slice 140, 1, 0, (.slice T_Trigger), [.nil]⟩),
  (53, ⟨.slice 152, 1, 0, (.slice T_Note), [.nil]⟩),
  (54, ⟨.struct [(0, 25), (4, 36), (5, 37), (6, 52), (7, 53), (8, 38)], 9, 0, T_Game, [.nil, .nil, .int .i64 0, .int .i64 0, .nil, .nil, .nil, .nil, .nil]⟩),
  (55, ⟨.struct [(0, 25), (4, 36), (5, 37), (6, 52), (7, 53), (8, 38)], 9, 0, T_Game, [.nil, .nil, .int .i64 0, .int .i64 0, .nil, .nil, .nil, .nil, .nil]⟩),
  (56, ⟨.other, 1, 0, .unit, [.undef]⟩),
  (57, ⟨.other, 1, 0, .unit, [.undef]⟩),
  (58, ⟨.slice 136, 1, 0, (.slice T_Trigger), [.nil]⟩),
  (59, ⟨.slice 147, 1, 0, (.slice T_Note), [.nil]⟩),
  (60, ⟨.struct [(0, 31), (4, 44), (5, 37), (6, 58), (7, 59), (8, 45)], 9, 0, T_Game, [.nil, .nil, .int .i64 0, .int .i64 0, .nil, .nil, .nil, .nil, .nil]⟩),
  (61, ⟨.struct [(0, 31), (4, 44), (5, 37), (6, 58), (7, 59), (8, 45)], 9, 0, T_Game, [.nil, .nil, .int .i64 0, .int .i64 0, .nil, .nil, .nil, .nil, .nil]⟩),
  (62, ⟨.other, 1, 0, .unit, [.undef]⟩),
  (63, ⟨.other, 1, 0, .unit, [.undef]⟩),
  (64, ⟨.struct [(0, 3), (1, 3), (2, 3), (3, 3), (4, 3), (5, 3), (6, 4)], 7, 0, T_Event, [.int .i64 0, .int .i64 0, .int .i64 0, .int .i64 0, .int .i64 0, .int .i64 0, .bool false]⟩),
  (65, ⟨.struct [(0, 3), (1, 3), (2, 3), (3, 3), (4, 3), (5, 3), (6, 4)], 7, 0, T_Event, [.int .i64 0, .int .i64 0, .int .i64 0, .int .i64 0, .int .i64 0, .int .i64 0, .bool false]⟩),
  (67, ⟨.other, 1, 0, .unit, [.undef]⟩),
  (68, ⟨.struct [(0, 3), (1, 3), (2, 3), (3, 3), (4, 3), (5, 3), (6, 4)], 7, 0, T_Event, [.int .i64 0, .int .i64 0, .int .i64 0, .int .i64 0, .int .i64 0, .int .i64 0, .bool false]⟩),
  (69, ⟨.other, 1, 0, .unit, [.undef]⟩),
  (70, ⟨.other, 1, 0, .unit, [.undef]⟩),
  (71, ⟨.other, 1, 0, .unit, [.undef]⟩),
  (72, ⟨.struct [(0, 3), (1, 3), (2, 3), (3, 3), (4, 3), (5, 3), (6, 3), (7, 3), (8, 3), (9, 3), (10, 3), (11, 4), (12, 4)], 13, 0, T_Piece, [.int .i64 0, .int .i64 0, .int .i64 0, .int .i64 0, .int .i64 0, .int .i64 0, .int .i64 0, .int .i64 0, .int .i64 0, .int .i64 0, .int .i64 0, .bool false, .bool false]⟩),
  (73, ⟨.struct [(0, 3), (1, 3), (2, 3), (3, 3), (4, 3), (5, 3), (6, 3), (7, 3), (8, 3), (9, 3), (10, 3), (11, 4), (12, 4)], 13, 0, T_Piece, [.int .i64 0, .int .i64 0, .int .i64 0, .int .i64 0, .int .i64 0, .int .i64 0, .int .i64 0, .int .i64 0, .int .i64 0, .int .i64 0, .int .i64 0, .bool false, .bool false]⟩),
  (75, ⟨.other, 1, 0, .unit, [.undef]⟩),
  (76, ⟨.struct [(0, 3), (1, 3), (2, 3), (3, 3), (4, 3), (5, 3), (6, 3), (7, 3), (8, 3), (9, 3), (10, 3), (11, 4), (12, 4)], 13, 0, T_Piece, [.int .i64 0, .int .i64 0, .int .i64 0, .int .i64 0, .int .i64 0, .int .i64 0, .int .i64 0, .int .i64 0, .int .i64 0, .int .i64 0, .int .i64 0, .bool false, .bool false]⟩),
  (77, ⟨.other, 1, 0, .unit, [.undef]⟩),
  (78, ⟨.other, 1, 0, .unit, [.undef]⟩),
  (79, ⟨.other, 1, 0, .unit, [.undef]⟩),
  (81, ⟨.other, 1, 0, .unit, [.undef]⟩),
  (82, ⟨.other, 1, 0, .unit, [.undef]⟩),
  (83, ⟨.other, 1, 0, .unit, [.undef]⟩),
  (84, ⟨.other, 1, 0, .unit, [.undef]⟩),
  (85, ⟨.other, 1, 0, .unit, [.undef]⟩),
  (86, ⟨.other, 1, 0, .unit, [.undef]⟩),
  (87, ⟨.other, 1, 0, .unit, [.undef]⟩),
  (88, ⟨.other, 1, 0, .unit, [.undef]⟩),
  (89, ⟨.other, 1, 0, .unit, [.undef]⟩),
  (90, ⟨.other, 1, 0, .unit, [.undef]⟩),
  (91, ⟨.other, 1, 0, .unit, [.undef]⟩),
  (92, ⟨.other, 1, 0, .unit, [.undef]⟩),
  (93, ⟨.other, 1, 0, .unit, [.undef]⟩),
  (94, ⟨.other, 1, 0, .unit, [.undef]⟩),
  (96, ⟨.other, 1, 0, .unit, [.undef]⟩),
  (98, ⟨.other, 1, 0, .unit, [.undef]⟩),
  (99, ⟨.other, 1, 0, .unit, [.undef]⟩),
  (100, ⟨.other, 1, 0, .unit, [.undef]⟩),
  (101, ⟨.other, 1, 0, .unit, [.undef]⟩),
  (102, ⟨.other, 1, 0, .unit, [.undef]⟩),
  (103, ⟨.other, 1, 0, .unit, [.undef]⟩),
  (104, ⟨.other, 1, 0, .unit, [.undef]⟩),
  (105, ⟨.other, 1, 0, .unit, [.undef]⟩),
  (106, ⟨.other, 1, 0, .unit, [.undef]⟩),
  (107, ⟨.other, 1, 0, .unit, [.undef]⟩),
  (108, ⟨.struct [(0, 3), (1, 3), (2, 3), (3, 3), (4, 68), (11, 43), (12, 3), (13, 3)], 14, 0, T_Turn, [.int .i64 0, .int .i64 0, .int .i64 0, .int .i64 0, .int .i64 0, .int .i64 0, .int .i64 0, .int .i64 0, .int .i64 0, .int .i64 0, .bool false, .nil, .int .i64 0, .int .i64 0]⟩),
  (109, ⟨.struct [(0, 3), (1, 3), (2, 3), (3, 3), (4, 68), (11, 43), (12, 3), (13, 3)], 14, 0, T_Turn, [.int .i64 0, .int .i64 0, .int .i64 0, .int .i64 0, .int .i64 0, .int .i64 0, .int .i64 0, .int .i64 0, .int .i64 0, .int .i64 0, .bool false, .nil, .int .i64 0, .int .i64 0]⟩),
  (110, ⟨.other, 1, 0, .unit, [.undef]⟩),
  (111, ⟨.other, 1, 0, .unit, [.undef]⟩),
  (112, ⟨.other, 1, 0, .unit, [.undef]⟩),
  (113, ⟨.other, 1, 0, .unit, [.undef]⟩),
  (114, ⟨.other, 1, 0, .unit, [.undef]⟩),
  (115, ⟨.other, 1, 0, .unit, [.undef]⟩),
  (116, ⟨.other, 1, 0, .unit, [.undef]⟩),
  (117, ⟨.other, 1, 0, .unit, [.undef]⟩),
  (118, ⟨.other, 1, 0, .unit, [.undef]⟩),
  (119, ⟨.other, 1, 0, .unit, [.undef]⟩),
  (120, ⟨.other, 1, 0, .unit, [.undef]⟩),
  (121, ⟨.other, 1, 0, .unit, [.undef]⟩),
  (122, ⟨.other, 1, 0, .unit, [.undef]⟩),
  (123, ⟨.other, 1, 0, .unit, [.undef]⟩),
  (124, ⟨.struct [(0, 3), (1, 3), (2, 4)], 3, 0, T_Side, [.int .i64 0, .int .i64 0, .bool false]⟩),
  (125, ⟨.struct [(0, 3), (1, 3), (2, 4)], 3, 0, T_Side, [.int .i64 0, .int .i64 0, .bool false]⟩),
  (126, ⟨.other, 1, 0, .unit, [.undef]⟩),
  (127, ⟨.other, 1, 0, .unit, [.undef]⟩),
  (128, ⟨.other, 1, 0, .unit, [.undef]⟩),
  (129, ⟨.other, 1, 0, .unit, [.undef]⟩),
  (130, ⟨.other, 1, 0, .unit, [.undef]⟩),
  (131, ⟨.other, 1, 0, .unit, [.undef]⟩),
  (132, ⟨.other, 1, 0, .unit, [.undef]⟩),
  (134, ⟨.other, 1, 0, .unit, [.undef]⟩),
  (135, ⟨.struct [(0, 3), (1, 3), (2, 3), (3, 76)], 16, 0, T_Trigger, [.int .i64 0, .int .i64 0, .int .i64 0, .int .i64 0, .int .i64 0, .int .i64 0, .int .i64 0, .int .i64 0, .int .i64 0, .int .i64 0, .int .i64 0, .int .i64 0, .int .i64 0, .int .i64 0, .bool false, .bool false]⟩),
  (136, ⟨.struct [(0, 3), (1, 3), (2, 3), (3, 76)], 16, 0, T_Trigger, [.int .i64 0, .int .i64 0, .int .i64 0, .int .i64 0, .int .i64 0, .int .i64 0, .int .i64 0, .int .i64 0, .int .i64 0, .int .i64 0, .int .i64 0, .int .i64 0, .int .i64 0, .int .i64 0, .bool false, .bool false]⟩),
  (137, ⟨.other, 1, 0, .unit, [.undef]⟩),
  (138, ⟨.other, 1, 0, .unit, [.undef]⟩),
  (139, ⟨.struct [(0, 3), (1, 3), (2, 3), (3, 73)], 16, 0, T_Trigger, [.int .i64 0, .int .i64 0, .int .i64 0, .int .i64 0, .int .i64 0, .int .i64 0, .int .i64 0, .int .i64 0, .int .i64 0, .int .i64 0, .int .i64 0, .int .i64 0, .int .i64 0, .int .i64 0, .bool false, .bool false]⟩),
  (140, ⟨.struct [(0, 3), (1, 3), (2, 3), (3, 73)], 16, 0, T_Trigger, [.int .i64 0, .int .i64 0, .int .i64 0, .int .i64 0, .int .i64 0, .int .i64 0, .int .i64 0, .int .i64 0, .int .i64 0, .int .i64 0, .int .i64 0, .int .i64 0, .int .i64 0, .int .i64 0, .bool false, .bool false]⟩),
  (141, ⟨.other, 1, 0, .unit, [.undef]⟩),
  (142, ⟨.other, 1, 0, .unit, [.undef]⟩),
  (143, ⟨.other, 1, 0, .unit, [.undef]⟩),
  (144, ⟨.other, 1, 0, .unit, [.undef]⟩),
  (145, ⟨.other, 1, 0, .unit, [.undef]⟩),
  (146, ⟨.struct [(0, 3), (1, 68), (8, 3), (9, 3), (10, 76)], 23, 0, T_Note, [.int .i64 0, .int .i64 0, .int .i64 0, .int .i64 0, .int .i64 0, .int .i64 0, .int .i64 0, .bool false, .int .i64 0, .int .i64 0, .int .i64 0, .int .i64 0, .int .i64 0, .int .i64 0, .int .i64 0, .int .i64 0, .int .i64 0, .int .i64 0, .int .i64 0, .int .i64 0, .int .i64 0, .bool false, .bool false]⟩),
  (147, ⟨.struct [(0, 3), (1, 68), (8, 3), (9, 3), (10, 76)], 23, 0, T_Note, [.int .i64 0, .int .i64 0, .int .i64 0, .int .i64 0, .int .i64 0, .int .i64 0, .int .i64 0, .bool false, .int .i64 0, .int .i64 0, .int .i64 0, .int .i64 0, .int .i64 0, .int .i64 0, .int .i64 0, .int .i64 0, .int .i64 0, .int .i64 0, .int .i64 0, .int .i64 0, .int .i64 0, .bool false, .bool false]⟩),
  (148, ⟨.other, 1, 0, .unit, [.undef]⟩),
  (149, ⟨.other, 1, 0, .unit, [.undef]⟩),
  (150, ⟨.other, 1, 0, .unit, [.undef]⟩),
  (151, ⟨.struct [(0, 3), (1, 65), (8, 3), (9, 3), (10, 73)], 23, 0, T_Note, [.int .i64 0, .int .i64 0, .int .i64 0, .int .i64 0, .int .i64 0, .int .i64 0, .int .i64 0, .bool false, .int .i64 0, .int .i64 0, .int .i64 0, .int .i64 0, .int .i64 0, .int .i64 0, .int .i64 0, .int .i64 0, .int .i64 0, .int .i64 0, .int .i64 0, .int .i64 0, .int .i64 0, .bool false, .bool false]⟩),
  (152, ⟨.struct [(0, 3), (1, 65), (8, 3), (9, 3), (10, 73)], 23, 0, T_Note, [.int .i64 0, .int .i64 0, .int .i64 0, .int .i64 0, .int .i64 0, .int .i64 0, .int .i64 0, .bool false, .int .i64 0, .int .i64 0, .int .i64 0, .int .i64 0, .int .i64 0, .int .i64 0, .int .i64 0, .int .i64 0, .int .i64 0, .int .i64 0, .int .i64 0, .int .i64 0, .int .i64 0, .bool false, .bool false]⟩),
  (153, ⟨.other, 1, 0, .unit, [.undef]⟩),
  (154, ⟨.other, 1, 0, .unit, [.undef]⟩),
  (155, ⟨.other, 1, 0, .unit, [.undef]⟩),
  (156, ⟨.struct [(0, 3), (1, 3), (2, 4)], 3, 0, T_Side, [.int .i64 0, .int .i64 0, .bool false]⟩),
  (157, ⟨.other, 1, 0, .unit, [.undef]⟩),
  (158, ⟨.other, 1, 0, .unit, [.undef]⟩),
  (159, ⟨.other, 1, 0, .unit, [.undef]⟩),
  (160, ⟨.struct [(0, 3), (1, 3), (2, 3), (3, 3), (4, 3), (5, 3), (6, 3)], 7, 0, T_Pat, [.int .i64 0, .int .i64 0, .int .i64 0, .int .i64 0, .int .i64 0, .int .i64 0, .int .i64 0]⟩),
  (161, ⟨.struct [(0, 3), (1, 3), (2, 3), (3, 3), (4, 3), (5, 3), (6, 3)], 7, 0, T_Pat, [.int .i64 0, .int .i64 0, .int .i64 0, .int .i64 0, .int .i64 0, .int .i64 0, .int .i64 0]⟩),
  (162, ⟨.struct [(0, 3), (1, 3)], 2, 0, T_Guard, [.int .i64 0, .int .i64 0]⟩),
  (163, ⟨.struct [(0, 3), (1, 3)], 2, 0, T_Guard, [.int .i64 0, .int .i64 0]⟩),
  (164, ⟨.struct [(0, 3), (1, 3), (2, 3), (3, 3), (4, 3), (5, 4), (6, 35)], 7, 0, T_Act, [.int .i64 0, .int .i64 0, .int .i64 0, .int .i64 0, .int .i64 0, .bool false, .nil]⟩),
  (165, ⟨.struct [(0, 3), (1, 3), (2, 3), (3, 3), (4, 3), (5, 4), (6, 35)], 7, 0, T_Act, [.int .i64 0, .int .i64 0, .int .i64 0, .int .i64 0, .int .i64 0, .bool false, .nil]⟩),
  (166, ⟨.struct [(0, 3), (1, 3), (2, 3), (3, 3), (4, 161), (11, 163), (13, 165), (20, 3), (21, 3)], 22, 0, T_Effect, [.int .i64 0, .int .i64 0, .int .i64 0, .int .i64 0, .int .i64 0, .int .i64 0, .int .i64 0, .int .i64 0, .int .i64 0, .int .i64 0, .int .i64 0, .int .i64 0, .int .i64 0, .int .i64 0, .int .i64 0, .int .i64 0, .int .i64 0, .int .i64 0, .bool false, .nil, .int .i64 0, .int .i64 0]⟩),
  (167, ⟨.struct [(0, 3), (1, 3), (2, 3), (3, 3), (4, 161), (11, 163), (13, 165), (20, 3), (21, 3)], 22, 0, T_Effect, [.int .i64 0, .int .i64 0, .int .i64 0, .int .i64 0, .int .i64 0, .int .i64 0, .int .i64 0, .int .i64 0, .int .i64 0, .int .i64 0, .int .i64 0, .int .i64 0, .int .i64 0, .int .i64 0, .int .i64 0, .int .i64 0, .int .i64 0, .int .i64 0, .bool false, .nil, .int .i64 0, .int .i64 0]⟩),
  (168, ⟨.other, 1, 0, .unit, [.undef]⟩),
  (169, ⟨.struct [(0, 3), (1, 3), (2, 3), (3, 3), (4, 65), (11, 35), (12, 3), (13, 3)], 14, 0, T_Turn, [.int .i64 0, .int .i64 0, .int .i64 0, .int .i64 0, .int .i64 0, .int .i64 0, .int .i64 0, .int .i64 0, .int .i64 0, .int .i64 0, .bool false, .nil, .int .i64 0, .int .i64 0]⟩),
  (170, ⟨.struct [(0, 3), (1, 3), (2, 3), (3, 3), (4, 65), (11, 35), (12, 3), (13, 3)], 14, 0, T_Turn, [.int .i64 0, .int .i64 0, .int .i64 0, .int .i64 0, .int .i64 0, .int .i64 0, .int .i64 0, .int .i64 0, .int .i64 0, .int .i64 0, .bool false, .nil, .int .i64 0, .int .i64 0]⟩),
  (171, ⟨.struct [(0, 3), (1, 3), (2, 3), (3, 3), (4, 3), (5, 3), (6, 3)], 7, 0, T_Pat, [.int .i64 0, .int .i64 0, .int .i64 0, .int .i64 0, .int .i64 0, .int .i64 0, .int .i64 0]⟩),
  (172, ⟨.struct [(0, 3), (1, 3)], 2, 0, T_Guard, [.int .i64 0, .int .i64 0]⟩),
  (173, ⟨.struct [(0, 3), (1, 3), (2, 3), (3, 3), (4, 3), (5, 4), (6, 43)], 7, 0, T_Act, [.int .i64 0, .int .i64 0, .int .i64 0, .int .i64 0, .int .i64 0, .bool false, .nil]⟩),
  (174, ⟨.struct [(0, 3), (1, 3), (2, 3), (3, 3), (4, 3), (5, 4), (6, 43)], 7, 0, T_Act, [.int .i64 0, .int .i64 0, .int .i64 0, .int .i64 0, .int .i64 0, .bool false, .nil]⟩),
  (175, ⟨.struct [(0, 3), (1, 3), (2, 3), (3, 3), (4, 171), (11, 172), (13, 174), (20, 3), (21, 3)], 22, 0, T_Effect, [.int .i64 0, .int .i64 0, .int .i64 0, .int .i64 0, .int .i64 0, .int .i64 0, .int .i64 0, .int .i64 0, .int .i64 0, .int .i64 0, .int .i64 0, .int .i64 0, .int .i64 0, .int .i64 0, .int .i64 0, .int .i64 0, .int .i64 0, .int .i64 0, .bool false, .nil, .int .i64 0, .int .i64 0]⟩),
  (176, ⟨.struct [(0, 3), (1, 3), (2, 3), (3, 3), (4, 171), (11, 172), (13, 174), (20, 3), (21, 3)], 22, 0, T_Effect, [.int .i64 0, .int .i64 0, .int .i64 0, .int .i64 0, .int .i64 0, .int .i64 0, .int .i64 0, .int .i64 0, .int .i64 0, .int .i64 0, .int .i64 0, .int .i64 0, .int .i64 0, .int .i64 0, .int .i64 0, .int .i64 0, .int .i64 0, .int .i64 0, .bool false, .nil, .int .i64 0, .int .i64 0]⟩),
  (177, ⟨.other, 1, 0, .unit, [.undef]⟩),
  (178, ⟨.other, 1, 0, .unit, [.undef]⟩),
  (179, ⟨.other, 1, 0, .unit, [.undef]⟩),
  (180, ⟨.other, 1, 0, .unit, [.undef]⟩),
  (181, ⟨.other, 1, 0, .unit, [.undef]⟩),
  (182, ⟨.other, 1, 0, .unit, [.undef]⟩),
  (183, ⟨.other, 1, 0, .unit, [.undef]⟩),
  (184, ⟨.other, 1, 0, .unit, [.undef]⟩),
  (185, ⟨.other, 1, 0, .unit, [.undef]⟩),
  (186, ⟨.other, 1, 0, .unit, [.undef]⟩),
  (187, ⟨.other, 1, 0, .unit, [.undef]⟩),
  (188, ⟨.other, 1, 0, .unit, [.undef]⟩),
  (189, ⟨.other, 1, 0, .unit, [.undef]⟩),
  (190, ⟨.other, 1, 0, .unit, [.undef]⟩),
  (191, ⟨.other, 1, 0, .unit, [.undef]⟩),
  (192, ⟨.other, 1, 0, .unit, [.undef]⟩),
  (193, ⟨.other, 1, 0, .unit, [.undef]⟩),
  (194, ⟨.other, 1, 0, .unit, [.undef]⟩),
  (195, ⟨.other, 1, 0, .unit, [.undef]⟩),
  (196, ⟨.other, 1, 0, .unit, [.undef]⟩),
  (197, ⟨.other, 1, 0, .unit, [.undef]⟩),
  (198, ⟨.other, 1, 0, .unit, [.undef]⟩),
  (199, ⟨.other, 1, 0, .unit, [.undef]⟩),
  (205, ⟨.other, 1, 0, .unit, [.undef]⟩),
  (206, ⟨.int .u32, 1, 0, (.int .u32), [.int .u32 0]⟩),
  (207, ⟨.int .u8, 1, 0, (.int .u8), [.int .u8 0]⟩),
  (208, ⟨.int .u8, 1, 0, (.int .u8), [.int .u8 0]⟩),
  (209, ⟨.other, 1, 0, .unit, [.undef]⟩),
  (210, ⟨.other, 1, 0, .unit, [.undef]⟩),
  (211, ⟨.int .i32, 1, 0, (.int .i32), [.int .i32 0]⟩),
  (212, ⟨.int .i32, 1, 0, (.int .i32), [.int .i32 0]⟩)]
theorem tabOk : TabOk Try.prog tab := tabB_ok (by kernel_rfl)
theorem mixed : Try.prog.follows .mixedOrders = true := by kernel_rfl
/-! loop.example/g00486/laws.szEventS -/
def laws_szEventS (a0 : (List T_Event.D)) (a1 : Int) : Option Int :=
 bif decide ((IntKind.wrap .i64 (a1 - (a0.length : Int))) < 0) then (
 some (-1))
 else (
 some (IntKind.wrap .i64 (a1 - (a0.length : Int))))
def laws_szEventS_c : Ct := .pure true false (.pair (.slice T_Event) (.pair (.int .i64) .unit)) (.int .i64) (fun x => laws_szEventS x.1 x.2.1)
theorem laws_szEventS_ct : CtOk Try.prog 69 laws_szEventS_c := pure_ct (E := { T := tab, G := [] }) (EnvOk.nil tabOk) mixed (fn := Try.f69) _ _ _ _ _ .none Try.func69 (by kernel_rfl) (fun x => by kernel_rfl)
/-! loop.example/g00486/laws.szAct -/
def laws_szAct (a0 : T_Act.D) (a1 : Int) : Option Int :=
(laws_szEventS a0.2.2.2.2.2.2.1 a1).bind fun y1 =>
 bif decide (y1 < 0) then (
 some (-1))
 else (
 some y1)
def laws_szAct_c : Ct := .pure true false (.pair T_Act (.pair (.int .i64) .unit)) (.int .i64) (fun x => laws_szAct x.1 x.2.1)
theorem laws_szAct_ct : CtOk Try.prog 182 laws_szAct_c := pure_ct (E := { T := tab, G := [(69, laws_szEventS_c)] }) (EnvOk.cons laws_szEventS_ct (EnvOk.nil tabOk)) mixed (fn := Try.f182) _ _ _ _ _ .none Try.func182 (by kernel_rfl) (fun x => by kernel_rfl)
/-! loop.example/g00486/laws.szEffect -/
def laws_szEffect (a0 : T_Effect.D) (a1 : Int) : Option Int :=
(laws_szAct a0.2.2.2.2.2.2.1 a1).bind fun y1 =>
 bif decide (y1 < 0) then (
 some (-1))
 else (
 some y1)
def laws_szEffect_c : Ct := .pure true false (.pair T_Effect (.pair (.int .i64) .unit)) (.int .i64) (fun x => laws_szEffect x.1 x.2.1)
theorem laws_szEffect_ct : CtOk Try.prog 144 laws_szEffect_c := pure_ct (E := { T := tab, G := [(182, laws_szAct_c)] }) (EnvOk.cons laws_szAct_ct (EnvOk.nil tabOk)) mixed (fn := Try.f144) _ _ _ _ _ .none Try.func144 (by kernel_rfl) (fun x => by kernel_rfl)
/-! loop.example/g00486/laws.szEffectS -/
def laws_szEffectS_l1 (a0 : (List T_Effect.D)) : (Int × Int) → Option ((Int × Int) ⊕ ((Int × Int) ⊕ Int)) := fun s1 =>
 bif decide (s1.2 < (a0.length : Int)) then (
 idx a0 s1.2 fun x2 =>
(laws_szEffect x2 s1.1).bind fun y3 =>
 bif decide (y3 < 0) then (
 some (.inr (.inr (-1))))
 else (
 some (.inl (y3, IntKind.wrap .i64 (s1.2 + 1)))))
 else (
 some (.inr (.inl s1)))
def laws_szEffectS (a0 : (List T_Effect.D)) (a1 : Int) : Option Int :=
 bif decide ((IntKind.wrap .i64 (a1 - (a0.length : Int))) < 0) then (
 some (-1))
 else (
(while_ (laws_szEffectS_l1 a0) (IntKind.wrap .i64 (a1 - (a0.length : Int)), 0)).bind fun o4 =>
 match o4 with
| .inl s5 => (
 some s5.1)
| .inr o6 => (
 some o6))
def laws_szEffectS_h : Hints := (.node none none .none (.node none none .none (.node none none .none (.node none none (.node none none .none (.node none none (.node none (some ⟨[.tmp 1 (.int .i64), .tmp 5 (.int .i64)], [some 0], some [.tmp 4 (.int .i64)], []⟩) .none .none) .none)) .none))))
def laws_szEffectS_c : Ct := .pure true false (.pair (.slice T_Effect) (.pair (.int .i64) .unit)) (.int .i64) (fun x => laws_szEffectS x.1 x.2.1)
theorem laws_szEffectS_ct : CtOk Try.prog 70 laws_szEffectS_c := pure_ct (E := { T := tab, G := [(144, laws_szEffect_c)] }) (EnvOk.cons laws_szEffect_ct (EnvOk.nil tabOk)) mixed (fn := Try.f70) _ _ _ _ _ laws_szEffectS_h Try.func70 (by kernel_rfl) (fun x => by kernel_rfl)
/-! loop.example/g00486/laws.szIntS -/
def laws_szIntS (a0 : (List Int)) (a1 : Int) : Option Int :=
 bif decide ((IntKind.wrap .i64 (a1 - (a0.length : Int))) < 0) then (
 some (-1))
 else (
 some (IntKind.wrap .i64 (a1 - (a0.length : Int))))
def laws_szIntS_c : Ct := .pure true false (.pair (.slice (.int .i64)) (.pair (.int .i64) .unit)) (.int .i64) (fun x => laws_szIntS x.1 x.2.1)
theorem laws_szIntS_ct : CtOk Try.prog 71 laws_szIntS_c := pure_ct (E := { T := tab, G := [] }) (EnvOk.nil tabOk) mixed (fn := Try.f71) _ _ _ _ _ .none Try.func71 (by kernel_rfl) (fun x => by kernel_rfl)
/-! loop.example/g00486/laws.szTurn -/
def laws_szTurn (a0 : T_Turn.D) (a1 : Int) : Option Int :=
(laws_szEventS a0.2.2.2.2.2.1 a1).bind fun y1 =>
 bif decide (y1 < 0) then (
 some (-1))
 else (
 some y1)
def laws_szTurn_c : Ct := .pure true false (.pair T_Turn (.pair (.int .i64) .unit)) (.int .i64) (fun x => laws_szTurn x.1 x.2.1)
theorem laws_szTurn_ct : CtOk Try.prog 145 laws_szTurn_c := pure_ct (E := { T := tab, G := [(69, laws_szEventS_c)] }) (EnvOk.cons laws_szEventS_ct (EnvOk.nil tabOk)) mixed (fn := Try.f145) _ _ _ _ _ .none Try.func145 (by kernel_rfl) (fun x => by kernel_rfl)
/-! loop.example/g00486/laws.szTurnS -/
def laws_szTurnS_l1 (a0 : (List T_Turn.D)) : (Int × Int) → Option ((Int × Int) ⊕ ((Int × Int) ⊕ Int)) := fun s1 =>
 bif decide (s1.2 < (a0.length : Int)) then (
 idx a0 s1.2 fun x2 =>
(laws_szTurn x2 s1.1).bind fun y3 =>
 bif decide (y3 < 0) then (
 some (.inr (.inr (-1))))
 else (
 some (.inl (y3, IntKind.wrap .i64 (s1.2 + 1)))))
 else (
 some (.inr (.inl s1)))
def laws_szTurnS (a0 : (List T_Turn.D)) (a1 : Int) : Option Int :=
 bif decide ((IntKind.wrap .i64 (a1 - (a0.length : Int))) < 0) then (
 some (-1))
 else (
(while_ (laws_szTurnS_l1 a0) (IntKind.wrap .i64 (a1 - (a0.length : Int)), 0)).bind fun o4 =>
 match o4 with
| .inl s5 => (
 some s5.1)
| .inr o6 => (
 some o6))
def laws_szTurnS_h : Hints := (.node none none .none (.node none none .none (.node none none .none (.node none none (.node none none .none (.node none none (.node none (some ⟨[.tmp 1 (.int .i64), .tmp 5 (.int .i64)], [some 0], some [.tmp 4 (.int .i64)], []⟩) .none .none) .none)) .none))))
def laws_szTurnS_c : Ct := .pure true false (.pair (.slice T_Turn) (.pair (.int .i64) .unit)) (.int .i64) (fun x => laws_szTurnS x.1 x.2.1)
theorem laws_szTurnS_ct : CtOk Try.prog 72 laws_szTurnS_c := pure_ct (E := { T := tab, G := [(145, laws_szTurn_c)] }) (EnvOk.cons laws_szTurn_ct (EnvOk.nil tabOk)) mixed (fn := Try.f72) _ _ _ _ _ laws_szTurnS_h Try.func72 (by kernel_rfl) (fun x => by kernel_rfl)
/-! loop.example/g00486/laws.szFate -/
def laws_szFate (a0 : T_Fate.D) (a1 : Int) : Option Int :=
(laws_szEventS a0.1 a1).bind fun y1 =>
 bif decide (y1 < 0) then (
 some (-1))
 else (
(laws_szEffectS a0.2.1 y1).bind fun y2 =>
 bif decide (y2 < 0) then (
 some (-1))
 else (
(laws_szIntS a0.2.2.1 y2).bind fun y3 =>
 bif decide (y3 < 0) then (
 some (-1))
 else (
(laws_szTurnS a0.2.2.2.1 y3).bind fun y4 =>
 bif decide (y4 < 0) then (
 some (-1))
 else (
 some y4))))
def laws_szFate_c : Ct := .pure true false (.pair T_Fate (.pair (.int .i64) .unit)) (.int .i64) (fun x => laws_szFate x.1 x.2.1)
theorem laws_szFate_ct : CtOk Try.prog 19 laws_szFate_c := pure_ct (E := { T := tab, G := [(69, laws_szEventS_c), (70, laws_szEffectS_c), (71, laws_szIntS_c), (72, laws_szTurnS_c)] }) (EnvOk.cons laws_szEventS_ct (EnvOk.cons laws_szEffectS_ct (EnvOk.cons laws_szIntS_ct (EnvOk.cons laws_szTurnS_ct (EnvOk.nil tabOk))))) mixed (fn := Try.f19) _ _ _ _ _ .none Try.func19 (by kernel_rfl) (fun x => by kernel_rfl)
/-! loop.example/g00486/laws.toEvent -/
def laws_toEvent (a0 : T_Event.D) : Option T_Event.D :=
 some a0
def laws_toEvent_c : Ct := .pure true false (.pair T_Event .unit) T_Event (fun x => laws_toEvent x.1)
theorem laws_toEvent_ct : CtOk Try.prog 32 laws_toEvent_c := pure_ct (E := { T := tab, G := [] }) (EnvOk.nil tabOk) mixed (fn := Try.f32) _ _ _ _ _ .none Try.func32 (by kernel_rfl) (fun x => by kernel_rfl)
/-! loop.example/g00486/laws.toEventS -/
def laws_toEventS_l1 (a0 : (List T_Event.D)) : ((List T_Event.D) × Int) → Option (((List T_Event.D) × Int) ⊕ ((List T_Event.D) × Int)) := fun s2 =>
 bif decide (s2.2 < (a0.length : Int)) then (
 idx a0 s2.2 fun x3 =>
(laws_toEvent x3).bind fun y4 =>
 idx s2.1 s2.2 fun _ =>
(s2.1[(s2.2 : Int).toNat]?).bind fun x5 =>
 let u6 : (List T_Event.D) := s2.1.set (s2.2 : Int).toNat y4
 some (.inl (u6, IntKind.wrap .i64 (s2.2 + 1))))
 else (
 some (.inr s2))
def laws_toEventS (a0 : (List T_Event.D)) : Option (List T_Event.D) :=
 if 0 ≤ (a0.length : Int) then (if ((a0.length : Int)).toNat * (24 * 7) ≤ room then (
(while_ (laws_toEventS_l1 a0) ((List.replicate ((a0.length : Int)).toNat (0, 0, 0, 0, 0, 0, false, ())), 0)).bind fun o7 =>
 some o7.1) else none) else none
def laws_toEventS_h : Hints := (.node none none .none (.node none none .none (.node none none (.node none none .none (.node none none (.node none (some ⟨[.tmpO 3 0 (.slice T_Event), .tmp 4 (.int .i64)], [some 0], none, []⟩) .none .none) .none)) .none)))
def laws_toEventS_c : Ct := .pure true false (.pair (.slice T_Event) .unit) (.slice T_Event) (fun x => laws_toEventS x.1)
theorem laws_toEventS_ct : CtOk Try.prog 73 laws_toEventS_c := pure_ct (E := { T := tab, G := [(32, laws_toEvent_c)] }) (EnvOk.cons laws_toEvent_ct (EnvOk.nil tabOk)) mixed (fn := Try.f73) _ _ _ _ _ laws_toEventS_h Try.func73 (by kernel_rfl) (fun x => by kernel_rfl)
def laws_toEventS_fresh_c : Ct := .pure true true (.pair (.slice T_Event) .unit) (.slice T_Event) (fun x => laws_toEventS x.1)
theorem laws_toEventS_fresh_ct : CtOk Try.prog 73 laws_toEventS_fresh_c := pure_ct (E := { T := tab, G := [(32, laws_toEvent_c)] }) (EnvOk.cons laws_toEvent_ct (EnvOk.nil tabOk)) mixed (fn := Try.f73) _ _ _ _ _ laws_toEventS_h Try.func73 (by kernel_rfl) (fun x => by kernel_rfl)
/-! loop.example/g00486/laws.toPat -/
def laws_toPat (a0 : T_Pat.D) : Option T_Pat.D :=
 some a0
def laws_toPat_c : Ct := .pure true false (.pair T_Pat .unit) T_Pat (fun x => laws_toPat x.1)
theorem laws_toPat_ct : CtOk Try.prog 183 laws_toPat_c := pure_ct (E := { T := tab, G := [] }) (EnvOk.nil tabOk) mixed (fn := Try.f183) _ _ _ _ _ .none Try.func183 (by kernel_rfl) (fun x => by kernel_rfl)
/-! loop.example/g00486/laws.toGuard -/
def laws_toGuard (a0 : T_Guard.D) : Option T_Guard.D :=
 some a0
def laws_toGuard_c : Ct := .pure true false (.pair T_Guard .unit) T_Guard (fun x => laws_toGuard x.1)
theorem laws_toGuard_ct : CtOk Try.prog 184 laws_toGuard_c := pure_ct (E := { T := tab, G := [] }) (EnvOk.nil tabOk) mixed (fn := Try.f184) _ _ _ _ _ .none Try.func184 (by kernel_rfl) (fun x => by kernel_rfl)
/-! loop.example/g00486/laws.toAct -/
def laws_toAct (a0 : T_Act.D) : Option T_Act.D :=
(laws_toEventS a0.2.2.2.2.2.2.1).bind fun y1 =>
 some (a0.1, a0.2.1, a0.2.2.1, a0.2.2.2.1, a0.2.2.2.2.1, a0.2.2.2.2.2.1, y1, ())
def laws_toAct_c : Ct := .pure true false (.pair T_Act .unit) T_Act (fun x => laws_toAct x.1)
theorem laws_toAct_ct : CtOk Try.prog 185 laws_toAct_c := pure_ct (E := { T := tab, G := [(73, laws_toEventS_fresh_c)] }) (EnvOk.cons laws_toEventS_fresh_ct (EnvOk.nil tabOk)) mixed (fn := Try.f185) _ _ _ _ _ .none Try.func185 (by kernel_rfl) (fun x => by kernel_rfl)
def laws_toAct_fresh_c : Ct := .pure true true (.pair T_Act .unit) T_Act (fun x => laws_toAct x.1)
theorem laws_toAct_fresh_ct : CtOk Try.prog 185 laws_toAct_fresh_c := pure_ct (E := { T := tab, G := [(73, laws_toEventS_fresh_c)] }) (EnvOk.cons laws_toEventS_fresh_ct (EnvOk.nil tabOk)) mixed (fn := Try.f185) _ _ _ _ _ .none Try.func185 (by kernel_rfl) (fun x => by kernel_rfl)
/-! loop.example/g00486/laws.toEffect -/
def laws_toEffect (a0 : T_Effect.D) : Option T_Effect.D :=
(laws_toPat a0.2.2.2.2.1).bind fun y1 =>
(laws_toGuard a0.2.2.2.2.2.1).bind fun y2 =>
(laws_toAct a0.2.2.2.2.2.2.1).bind fun y3 =>
 some (a0.1, a0.2.1, a0.2.2.1, a0.2.2.2.1, y1, y2, y3, a0.2.2.2.2.2.2.2)
def laws_toEffect_c : Ct := .pure true false (.pair T_Effect .unit) T_Effect (fun x => laws_toEffect x.1)
theorem laws_toEffect_ct : CtOk Try.prog 146 laws_toEffect_c := pure_ct (E := { T := tab, G := [(183, laws_toPat_c), (184, laws_toGuard_c), (185, laws_toAct_fresh_c)] }) (EnvOk.cons laws_toPat_ct (EnvOk.cons laws_toGuard_ct (EnvOk.cons laws_toAct_fresh_ct (EnvOk.nil tabOk)))) mixed (fn := Try.f146) _ _ _ _ _ .none Try.func146 (by kernel_rfl) (fun x => by kernel_rfl)
def laws_toEffect_fresh_c : Ct := .pure true true (.pair T_Effect .unit) T_Effect (fun x => laws_toEffect x.1)
theorem laws_toEffect_fresh_ct : CtOk Try.prog 146 laws_toEffect_fresh_c := pure_ct (E := { T := tab, G := [(183, laws_toPat_c), (184, laws_toGuard_c), (185, laws_toAct_fresh_c)] }) (EnvOk.cons laws_toPat_ct (EnvOk.cons laws_toGuard_ct (EnvOk.cons laws_toAct_fresh_ct (EnvOk.nil tabOk)))) mixed (fn := Try.f146) _ _ _ _ _ .none Try.func146 (by kernel_rfl) (fun x => by kernel_rfl)
/-! loop.example/g00486/laws.toEffectS -/
def laws_toEffectS_l1 (a0 : (List T_Effect.D)) : ((List T_Effect.D) × Int) → Option (((List T_Effect.D) × Int) ⊕ ((List T_Effect.D) × Int)) := fun s2 =>
 bif decide (s2.2 < (a0.length : Int)) then (
 idx a0 s2.2 fun x3 =>
(laws_toEffect x3).bind fun y4 =>
 idx s2.1 s2.2 fun _ =>
(s2.1[(s2.2 : Int).toNat]?).bind fun x5 =>
 let u6 : (List T_Effect.D) := s2.1.set (s2.2 : Int).toNat y4
 some (.inl (u6, IntKind.wrap .i64 (s2.2 + 1))))
 else (
 some (.inr s2))
def laws_toEffectS (a0 : (List T_Effect.D)) : Option (List T_Effect.D) :=
 if 0 ≤ (a0.length : Int) then (if ((a0.length : Int)).toNat * (24 * 22) ≤ room then (
(while_ (laws_toEffectS_l1 a0) ((List.replicate ((a0.length : Int)).toNat (0, 0, 0, 0, (0, 0, 0, 0, 0, 0, 0, ()), (0, 0, ()), (0, 0, 0, 0, 0, false, [], ()), 0, 0, ())), 0)).bind fun o7 =>
 some o7.1) else none) else none
def laws_toEffectS_h : Hints := (.node none none .none (.node none none .none (.node none none (.node none none .none (.node none none (.node none (some ⟨[.tmpO 3 0 (.slice T_Effect), .tmp 4 (.int .i64)], [some 0], none, []⟩) .none .none) .none)) .none)))
def laws_toEffectS_c : Ct := .pure true false (.pair (.slice T_Effect) .unit) (.slice T_Effect) (fun x => laws_toEffectS x.1)
theorem laws_toEffectS_ct : CtOk Try.prog 74 laws_toEffectS_c := pure_ct (E := { T := tab, G := [(146, laws_toEffect_fresh_c)] }) (EnvOk.cons laws_toEffect_fresh_ct (EnvOk.nil tabOk)) mixed (fn := Try.f74) _ _ _ _ _ laws_toEffectS_h Try.func74 (by kernel_rfl) (fun x => by kernel_rfl)
def laws_toEffectS_fresh_c : Ct := .pure true true (.pair (.slice T_Effect) .unit) (.slice T_Effect) (fun x => laws_toEffectS x.1)
theorem laws_toEffectS_fresh_ct : CtOk Try.prog 74 laws_toEffectS_fresh_c := pure_ct (E := { T := tab, G := [(146, laws_toEffect_fresh_c)] }) (EnvOk.cons laws_toEffect_fresh_ct (EnvOk.nil tabOk)) mixed (fn := Try.f74) _ _ _ _ _ laws_toEffectS_h Try.func74 (by kernel_rfl) (fun x => by kernel_rfl)
/-! loop.example/g00486/laws.toIntS -/
def laws_toIntS_l1 (a0 : (List Int)) : ((List Int) × Int) → Option (((List Int) × Int) ⊕ ((List Int) × Int)) := fun s2 =>
 bif decide (s2.2 < (a0.length : Int)) then (
 idx a0 s2.2 fun x3 =>
 idx s2.1 s2.2 fun _ =>
(s2.1[(s2.2 : Int).toNat]?).bind fun x4 =>
 let u5 : (List Int) := s2.1.set (s2.2 : Int).toNat x3
 some (.inl (u5, IntKind.wrap .i64 (s2.2 + 1))))
 else (
 some (.inr s2))
def laws_toIntS (a0 : (List Int)) : Option (List Int) :=
 if 0 ≤ (a0.length : Int) then (if ((a0.length : Int)).toNat * (24 * 1) ≤ room then (
(while_ (laws_toIntS_l1 a0) ((List.replicate ((a0.length : Int)).toNat 0), 0)).bind fun o6 =>
 some o6.1) else none) else none
def laws_toIntS_h : Hints := (.node none none .none (.node none none .none (.node none none (.node none none .none (.node none none (.node none (some ⟨[.tmpO 3 0 (.slice (.int .i64)), .tmp 4 (.int .i64)], [some 0], none, []⟩) .none .none) .none)) .none)))
def laws_toIntS_c : Ct := .pure true false (.pair (.slice (.int .i64)) .unit) (.slice (.int .i64)) (fun x => laws_toIntS x.1)
theorem laws_toIntS_ct : CtOk Try.prog 44 laws_toIntS_c := pure_ct (E := { T := tab, G := [] }) (EnvOk.nil tabOk) mixed (fn := Try.f44) _ _ _ _ _ laws_toIntS_h Try.func44 (by kernel_rfl) (fun x => by kernel_rfl)
def laws_toIntS_fresh_c : Ct := .pure true true (.pair (.slice (.int .i64)) .unit) (.slice (.int .i64)) (fun x => laws_toIntS x.1)
theorem laws_toIntS_fresh_ct : CtOk Try.prog 44 laws_toIntS_fresh_c := pure_ct (E := { T := tab, G := [] }) (EnvOk.nil tabOk) mixed (fn := Try.f44) _ _ _ _ _ laws_toIntS_h Try.func44 (by kernel_rfl) (fun x => by kernel_rfl)
/-! loop.example/g00486/laws.toTurn -/
def laws_toTurn (a0 : T_Turn.D) : Option T_Turn.D :=
(laws_toEvent a0.2.2.2.2.1).bind fun y1 =>
(laws_toEventS a0.2.2.2.2.2.1).bind fun y2 =>
 some (a0.1, a0.2.1, a0.2.2.1, a0.2.2.2.1, y1, y2, a0.2.2.2.2.2.2)
def laws_toTurn_c : Ct := .pure true false (.pair T_Turn .unit) T_Turn (fun x => laws_toTurn x.1)
theorem laws_toTurn_ct : CtOk Try.prog 147 laws_toTurn_c := pure_ct (E := { T := tab, G := [(32, laws_toEvent_c), (73, laws_toEventS_fresh_c)] }) (EnvOk.cons laws_toEvent_ct (EnvOk.cons laws_toEventS_fresh_ct (EnvOk.nil tabOk))) mixed (fn := Try.f147) _ _ _ _ _ .none Try.func147 (by kernel_rfl) (fun x => by kernel_rfl)
def laws_toTurn_fresh_c : Ct := .pure true true (.pair T_Turn .unit) T_Turn (fun x => laws_toTurn x.1)
theorem laws_toTurn_fresh_ct : CtOk Try.prog 147 laws_toTurn_fresh_c := pure_ct (E := { T := tab, G := [(32, laws_toEvent_c), (73, laws_toEventS_fresh_c)] }) (EnvOk.cons laws_toEvent_ct (EnvOk.cons laws_toEventS_fresh_ct (EnvOk.nil tabOk))) mixed (fn := Try.f147) _ _ _ _ _ .none Try.func147 (by kernel_rfl) (fun x => by kernel_rfl)
/-! loop.example/g00486/laws.toTurnS -/
def laws_toTurnS_l1 (a0 : (List T_Turn.D)) : ((List T_Turn.D) × Int) → Option (((List T_Turn.D) × Int) ⊕ ((List T_Turn.D) × Int)) := fun s2 =>
 bif decide (s2.2 < (a0.length : Int)) then (
 idx a0 s2.2 fun x3 =>
(laws_toTurn x3).bind fun y4 =>
 idx s2.1 s2.2 fun _ =>
(s2.1[(s2.2 : Int).toNat]?).bind fun x5 =>
 let u6 : (List T_Turn.D) := s2.1.set (s2.2 : Int).toNat y4
 some (.inl (u6, IntKind.wrap .i64 (s2.2 + 1))))
 else (
 some (.inr s2))
def laws_toTurnS (a0 : (List T_Turn.D)) : Option (List T_Turn.D) :=
 if 0 ≤ (a0.length : Int) then (if ((a0.length : Int)).toNat * (24 * 14) ≤ room then (
(while_ (laws_toTurnS_l1 a0) ((List.replicate ((a0.length : Int)).toNat (0, 0, 0, 0, (0, 0, 0, 0, 0, 0, false, ()), [], 0, 0, ())), 0)).bind fun o7 =>
 some o7.1) else none) else none
def laws_toTurnS_h : Hints := (.node none none .none (.node none none .none (.node none none (.node none none .none (.node none none (.node none (some ⟨[.tmpO 3 0 (.slice T_Turn), .tmp 4 (.int .i64)], [some 0], none, []⟩) .none .none) .none)) .none)))
def laws_toTurnS_c : Ct := .pure true false (.pair (.slice T_Turn) .unit) (.slice T_Turn) (fun x => laws_toTurnS x.1)
theorem laws_toTurnS_ct : CtOk Try.prog 75 laws_toTurnS_c := pure_ct (E := { T := tab, G := [(147, laws_toTurn_fresh_c)] }) (EnvOk.cons laws_toTurn_fresh_ct (EnvOk.nil tabOk)) mixed (fn := Try.f75) _ _ _ _ _ laws_toTurnS_h Try.func75 (by kernel_rfl) (fun x => by kernel_rfl)
def laws_toTurnS_fresh_c : Ct := .pure true true (.pair (.slice T_Turn) .unit) (.slice T_Turn) (fun x => laws_toTurnS x.1)
theorem laws_toTurnS_fresh_ct : CtOk Try.prog 75 laws_toTurnS_fresh_c := pure_ct (E := { T := tab, G := [(147, laws_toTurn_fresh_c)] }) (EnvOk.cons laws_toTurn_fresh_ct (EnvOk.nil tabOk)) mixed (fn := Try.f75) _ _ _ _ _ laws_toTurnS_h Try.func75 (by kernel_rfl) (fun x => by kernel_rfl)
/-! loop.example/g00486/laws.toFate -/
def laws_toFate (a0 : T_Fate.D) : Option T_Fate.D :=
(laws_toEventS a0.1).bind fun y1 =>
(laws_toEffectS a0.2.1).bind fun y2 =>
(laws_toIntS a0.2.2.1).bind fun y3 =>
(laws_toTurnS a0.2.2.2.1).bind fun y4 =>
 some (y1, y2, y3, y4, ())
def laws_toFate_c : Ct := .pure true false (.pair T_Fate .unit) T_Fate (fun x => laws_toFate x.1)
theorem laws_toFate_ct : CtOk Try.prog 21 laws_toFate_c := pure_ct (E := { T := tab, G := [(44, laws_toIntS_fresh_c), (73, laws_toEventS_fresh_c), (74, laws_toEffectS_fresh_c), (75, laws_toTurnS_fresh_c)] }) (EnvOk.cons laws_toIntS_fresh_ct (EnvOk.cons laws_toEventS_fresh_ct (EnvOk.cons laws_toEffectS_fresh_ct (EnvOk.cons laws_toTurnS_fresh_ct (EnvOk.nil tabOk))))) mixed (fn := Try.f21) _ _ _ _ _ .none Try.func21 (by kernel_rfl) (fun x => by kernel_rfl)
def laws_toFate_fresh_c : Ct := .pure true true (.pair T_Fate .unit) T_Fate (fun x => laws_toFate x.1)
theorem laws_toFate_fresh_ct : CtOk Try.prog 21 laws_toFate_fresh_c := pure_ct (E := { T := tab, G := [(44, laws_toIntS_fresh_c), (73, laws_toEventS_fresh_c), (74, laws_toEffectS_fresh_c), (75, laws_toTurnS_fresh_c)] }) (EnvOk.cons laws_toIntS_fresh_ct (EnvOk.cons laws_toEventS_fresh_ct (EnvOk.cons laws_toEffectS_fresh_ct (EnvOk.cons laws_toTurnS_fresh_ct (EnvOk.nil tabOk))))) mixed (fn := Try.f21) _ _ _ _ _ .none Try.func21 (by kernel_rfl) (fun x => by kernel_rfl)
/-! loop.example/g00486/spec.Chain -/
def spec_Chain_l1 (a0 : T_Fate.D) : (Int × Int) → Option ((Int × Int) ⊕ (Int × Int)) := fun s1 =>
 bif decide (s1.2 < (a0.2.2.2.1.length : Int)) then (
((idx a0.2.2.2.1 s1.2 fun x2 =>
 bif decide (x2.2.2.2.2.2.2.2.1 ≥ s1.1) then (
 idx a0.2.2.2.1 s1.2 fun x3 =>
 some (decide ((IntKind.wrap .i64 (x3.2.2.2.2.2.2.2.1 + 1)) > 0)))
 else (
 some false)) : Option Bool).bind fun o4 =>
((bif o4 then (
 idx a0.2.2.2.1 s1.2 fun x5 =>
 some (IntKind.wrap .i64 (x5.2.2.2.2.2.2.2.1 + 1)))
 else (
 some s1.1)) : Option Int).bind fun o6 =>
 some (.inl (o6, IntKind.wrap .i64 (s1.2 + 1))))
 else (
 some (.inr s1))
def spec_Chain (a0 : T_Fate.D) : Option Int :=
(while_ (spec_Chain_l1 a0) (0, 0)).bind fun o7 =>
 some o7.1
def spec_Chain_h : Hints := (.node none none .none (.node none none .none (.node none none (.node none none .none (.node none none (.node none (some ⟨[.tmp 3 (.int .i64), .tmp 4 (.int .i64)], [some 0], none, []⟩) (.node none none .none (.node none none (.node none none (.node none none (.node (some ⟨[.tmp 29 .bool], [none], none, []⟩) none .none .none) (.node (some ⟨[.tmp 3 (.int .i64)], [none], none, []⟩) none .none .none)) .none) .none)) .none) .none)) .none)))
def spec_Chain_c : Ct := .pure true false (.pair T_Fate .unit) (.int .i64) (fun x => spec_Chain x.1)
theorem spec_Chain_ct : CtOk Try.prog 20 spec_Chain_c := pure_ct (E := { T := tab, G := [] }) (EnvOk.nil tabOk) mixed (fn := Try.f20) _ _ _ _ _ spec_Chain_h Try.func20 (by kernel_rfl) (fun x => by kernel_rfl)
/-! loop.example/g00486/impl.Chain -/
def impl_Chain_l1 (a0 : T_Fate.D) : (Int × Int) → Option ((Int × Int) ⊕ (Int × Int)) := fun s1 =>
 bif decide (s1.2 < (a0.2.2.2.1.length : Int)) then (
 idx a0.2.2.2.1 s1.2 fun x2 =>
 some (.inl ((if (IntKind.wrap .i64 (x2.2.2.2.2.2.2.2.1 + 1)) > s1.1 then (IntKind.wrap .i64 (x2.2.2.2.2.2.2.2.1 + 1)) else s1.1), IntKind.wrap .i64 (s1.2 + 1))))
 else (
 some (.inr s1))
def impl_Chain (a0 : T_Fate.D) : Option Int :=
(while_ (impl_Chain_l1 a0) (0, 0)).bind fun o3 =>
 some o3.1
def impl_Chain_h : Hints := (.node none none .none (.node none none .none (.node none none (.node none none .none (.node none none (.node none (some ⟨[.tmp 3 (.int .i64), .tmp 9 (.int .i64)], [some 0], none, []⟩) .none .none) .none)) .none)))
def impl_Chain_c : Ct := .pure true false (.pair T_Fate .unit) (.int .i64) (fun x => impl_Chain x.1)
theorem impl_Chain_ct : CtOk Try.prog 22 impl_Chain_c := pure_ct (E := { T := tab, G := [] }) (EnvOk.nil tabOk) mixed (fn := Try.f22) _ _ _ _ _ impl_Chain_h Try.func22 (by kernel_rfl) (fun x => by kernel_rfl)
/-! loop.example/g00486/laws.eqEvent -/
def laws_eqEvent (a0 : T_Event.D) (a1 : T_Event.D) : Option Bool :=
 bif (a0.1 != a1.1) then (
 some false)
 else (
 bif (a0.2.1 != a1.2.1) then (
 some false)
 else (
 bif (a0.2.2.1 != a1.2.2.1) then (
 some false)
 else (
 bif (a0.2.2.2.1 != a1.2.2.2.1) then (
 some false)
 else (
 bif (a0.2.2.2.2.1 != a1.2.2.2.2.1) then (
 some false)
 else (
 bif (a0.2.2.2.2.2.1 != a1.2.2.2.2.2.1) then (
 some false)
 else (
 bif (a0.2.2.2.2.2.2.1 != a1.2.2.2.2.2.2.1) then (
 some false)
 else (
 some true)))))))
def laws_eqEvent_c : Ct := .pure true false (.pair T_Event (.pair T_Event .unit)) .bool (fun x => laws_eqEvent x.1 x.2.1)
theorem laws_eqEvent_ct : CtOk Try.prog 148 laws_eqEvent_c := pure_ct (E := { T := tab, G := [] }) (EnvOk.nil tabOk) mixed (fn := Try.f148) _ _ _ _ _ .none Try.func148 (by kernel_rfl) (fun x => by kernel_rfl)
/-! loop.example/g00486/laws.eqEventS -/
def laws_eqEventS_l1 (a0 : (List T_Event.D)) (a1 : (List T_Event.D)) : Int → Option (Int ⊕ (Int ⊕ Bool)) := fun s1 =>
 bif decide (s1 < (a0.length : Int)) then (
 idx a0 s1 fun x2 =>
 idx a1 s1 fun x3 =>
(laws_eqEvent x2 x3).bind fun y4 =>
 bif (!y4) then (
 some (.inr (.inr false)))
 else (
 some (.inl (IntKind.wrap .i64 (s1 + 1)))))
 else (
 some (.inr (.inl s1)))
def laws_eqEventS (a0 : (List T_Event.D)) (a1 : (List T_Event.D)) : Option Bool :=
 bif ((a0.length : Int) != (a1.length : Int)) then (
 some false)
 else (
(while_ (laws_eqEventS_l1 a0 a1) 0).bind fun o5 =>
 match o5 with
| .inl s6 => (
 some true)
| .inr o7 => (
 some o7))
def laws_eqEventS_h : Hints := (.node none none .none (.node none none .none (.node none none (.node none none .none (.node none none (.node none (some ⟨[.tmp 5 (.int .i64)], [some 0], some [.tmp 4 .bool], []⟩) .none .none) .none)) .none)))
def laws_eqEventS_c : Ct := .pure true false (.pair (.slice T_Event) (.pair (.slice T_Event) .unit)) .bool (fun x => laws_eqEventS x.1 x.2.1)
theorem laws_eqEventS_ct : CtOk Try.prog 76 laws_eqEventS_c := pure_ct (E := { T := tab, G := [(148, laws_eqEvent_c)] }) (EnvOk.cons laws_eqEvent_ct (EnvOk.nil tabOk)) mixed (fn := Try.f76) _ _ _ _ _ laws_eqEventS_h Try.func76 (by kernel_rfl) (fun x => by kernel_rfl)
/-! loop.example/g00486/laws.eqPat -/
def laws_eqPat (a0 : T_Pat.D) (a1 : T_Pat.D) : Option Bool :=
 bif (a0.1 != a1.1) then (
 some false)
 else (
 bif (a0.2.1 != a1.2.1) then (
 some false)
 else (
 bif (a0.2.2.1 != a1.2.2.1) then (
 some false)
 else (
 bif (a0.2.2.2.1 != a1.2.2.2.1) then (
 some false)
 else (
 bif (a0.2.2.2.2.1 != a1.2.2.2.2.1) then (
 some false)
 else (
 bif (a0.2.2.2.2.2.1 != a1.2.2.2.2.2.1) then (
 some false)
 else (
 bif (a0.2.2.2.2.2.2.1 != a1.2.2.2.2.2.2.1) then (
 some false)
 else (
 some true)))))))
def laws_eqPat_c : Ct := .pure true false (.pair T_Pat (.pair T_Pat .unit)) .bool (fun x => laws_eqPat x.1 x.2.1)
theorem laws_eqPat_ct : CtOk Try.prog 186 laws_eqPat_c := pure_ct (E := { T := tab, G := [] }) (EnvOk.nil tabOk) mixed (fn := Try.f186) _ _ _ _ _ .none Try.func186 (by kernel_rfl) (fun x => by kernel_rfl)
/-! loop.example/g00486/laws.eqGuard -/
def laws_eqGuard (a0 : T_Guard.D) (a1 : T_Guard.D) : Option Bool :=
 bif (a0.1 != a1.1) then (
 some false)
 else (
 bif (a0.2.1 != a1.2.1) then (
 some false)
 else (
 some true))
def laws_eqGuard_c : Ct := .pure true false (.pair T_Guard (.pair T_Guard .unit)) .bool (fun x => laws_eqGuard x.1 x.2.1)
theorem laws_eqGuard_ct : CtOk Try.prog 187 laws_eqGuard_c := pure_ct (E := { T := tab, G := [] }) (EnvOk.nil tabOk) mixed (fn := Try.f187) _ _ _ _ _ .none Try.func187 (by kernel_rfl) (fun x => by kernel_rfl)
/-! loop.example/g00486/laws.eqAct -/
def laws_eqAct (a0 : T_Act.D) (a1 : T_Act.D) : Option Bool :=
 bif (a0.1 != a1.1) then (
 some false)
 else (
 bif (a0.2.1 != a1.2.1) then (
 some false)
 else (
 bif (a0.2.2.1 != a1.2.2.1) then (
 some false)
 else (
 bif (a0.2.2.2.1 != a1.2.2.2.1) then (
 some false)
 else (
 bif (a0.2.2.2.2.1 != a1.2.2.2.2.1) then (
 some false)
 else (
 bif (a0.2.2.2.2.2.1 != a1.2.2.2.2.2.1) then (
 some false)
 else (
(laws_eqEventS a0.2.2.2.2.2.2.1 a1.2.2.2.2.2.2.1).bind fun y1 =>
 bif (!y1) then (
 some false)
 else (
 some true)))))))
def laws_eqAct_c : Ct := .pure true false (.pair T_Act (.pair T_Act .unit)) .bool (fun x => laws_eqAct x.1 x.2.1)
theorem laws_eqAct_ct : CtOk Try.prog 188 laws_eqAct_c := pure_ct (E := { T := tab, G := [(76, laws_eqEventS_c)] }) (EnvOk.cons laws_eqEventS_ct (EnvOk.nil tabOk)) mixed (fn := Try.f188) _ _ _ _ _ .none Try.func188 (by kernel_rfl) (fun x => by kernel_rfl)
/-! loop.example/g00486/laws.eqEffect -/
def laws_eqEffect (a0 : T_Effect.D) (a1 : T_Effect.D) : Option Bool :=
 bif (a0.1 != a1.1) then (
 some false)
 else (
 bif (a0.2.1 != a1.2.1) then (
 some false)
 else (
 bif (a0.2.2.1 != a1.2.2.1) then (
 some false)
 else (
 bif (a0.2.2.2.1 != a1.2.2.2.1) then (
 some false)
 else (
(laws_eqPat a0.2.2.2.2.1 a1.2.2.2.2.1).bind fun y1 =>
 bif (!y1) then (
 some false)
 else (
(laws_eqGuard a0.2.2.2.2.2.1 a1.2.2.2.2.2.1).bind fun y2 =>
 bif (!y2) then (
 some false)
 else (
(laws_eqAct a0.2.2.2.2.2.2.1 a1.2.2.2.2.2.2.1).bind fun y3 =>
 bif (!y3) then (
 some false)
 else (
 bif (a0.2.2.2.2.2.2.2.1 != a1.2.2.2.2.2.2.2.1) then (
 some false)
 else (
 bif (a0.2.2.2.2.2.2.2.2.1 != a1.2.2.2.2.2.2.2.2.1) then (
 some false)
 else (
 some true)))))))))
def laws_eqEffect_c : Ct := .pure true false (.pair T_Effect (.pair T_Effect .unit)) .bool (fun x => laws_eqEffect x.1 x.2.1)
theorem laws_eqEffect_ct : CtOk Try.prog 149 laws_eqEffect_c := pure_ct (E := { T := tab, G := [(186, laws_eqPat_c), (187, laws_eqGuard_c), (188, laws_eqAct_c)] }) (EnvOk.cons laws_eqPat_ct (EnvOk.cons laws_eqGuard_ct (EnvOk.cons laws_eqAct_ct (EnvOk.nil tabOk)))) mixed (fn := Try.f149) _ _ _ _ _ .none Try.func149 (by kernel_rfl) (fun x => by kernel_rfl)
/-! loop.example/g00486/laws.eqEffectS -/
def laws_eqEffectS_l1 (a0 : (List T_Effect.D)) (a1 : (List T_Effect.D)) : Int → Option (Int ⊕ (Int ⊕ Bool)) := fun s1 =>
 bif decide (s1 < (a0.length : Int)) then (
 idx a0 s1 fun x2 =>
 idx a1 s1 fun x3 =>
(laws_eqEffect x2 x3).bind fun y4 =>
 bif (!y4) then (
 some (.inr (.inr false)))
 else (
 some (.inl (IntKind.wrap .i64 (s1 + 1)))))
 else (
 some (.inr (.inl s1)))
def laws_eqEffectS (a0 : (List T_Effect.D)) (a1 : (List T_Effect.D)) : Option Bool :=
 bif ((a0.length : Int) != (a1.length : Int)) then (
 some false)
 else (
(while_ (laws_eqEffectS_l1 a0 a1) 0).bind fun o5 =>
 match o5 with
| .inl s6 => (
 some true)
| .inr o7 => (
 some o7))
def laws_eqEffectS_h : Hints := (.node none none .none (.node none none .none (.node none none (.node none none .none (.node none none (.node none (some ⟨[.tmp 5 (.int .i64)], [some 0], some [.tmp 4 .bool], []⟩) .none .none) .none)) .none)))
def laws_eqEffectS_c : Ct := .pure true false (.pair (.slice T_Effect) (.pair (.slice T_Effect) .unit)) .bool (fun x => laws_eqEffectS x.1 x.2.1)
theorem laws_eqEffectS_ct : CtOk Try.prog 77 laws_eqEffectS_c := pure_ct (E := { T := tab, G := [(149, laws_eqEffect_c)] }) (EnvOk.cons laws_eqEffect_ct (EnvOk.nil tabOk)) mixed (fn := Try.f77) _ _ _ _ _ laws_eqEffectS_h Try.func77 (by kernel_rfl) (fun x => by kernel_rfl)
/-! loop.example/g00486/laws.eqIntS -/
def laws_eqIntS_l1 (a0 : (List Int)) (a1 : (List Int)) : Int → Option (Int ⊕ (Int ⊕ Bool)) := fun s1 =>
 bif decide (s1 < (a0.length : Int)) then (
 idx a0 s1 fun x2 =>
 idx a1 s1 fun x3 =>
 bif (x2 != x3) then (
 some (.inr (.inr false)))
 else (
 some (.inl (IntKind.wrap .i64 (s1 + 1)))))
 else (
 some (.inr (.inl s1)))
def laws_eqIntS (a0 : (List Int)) (a1 : (List Int)) : Option Bool :=
 bif ((a0.length : Int) != (a1.length : Int)) then (
 some false)
 else (
(while_ (laws_eqIntS_l1 a0 a1) 0).bind fun o4 =>
 match o4 with
| .inl s5 => (
 some true)
| .inr o6 => (
 some o6))
def laws_eqIntS_h : Hints := (.node none none .none (.node none none .none (.node none none (.node none none .none (.node none none (.node none (some ⟨[.tmp 5 (.int .i64)], [some 0], some [.tmp 4 .bool], []⟩) .none .none) .none)) .none)))
def laws_eqIntS_c : Ct := .pure true false (.pair (.slice (.int .i64)) (.pair (.slice (.int .i64)) .unit)) .bool (fun x => laws_eqIntS x.1 x.2.1)
theorem laws_eqIntS_ct : CtOk Try.prog 47 laws_eqIntS_c := pure_ct (E := { T := tab, G := [] }) (EnvOk.nil tabOk) mixed (fn := Try.f47) _ _ _ _ _ laws_eqIntS_h Try.func47 (by kernel_rfl) (fun x => by kernel_rfl)
/-! loop.example/g00486/laws.eqTurn -/
def laws_eqTurn (a0 : T_Turn.D) (a1 : T_Turn.D) : Option Bool :=
 bif (a0.1 != a1.1) then (
 some false)
 else (
 bif (a0.2.1 != a1.2.1) then (
 some false)
 else (
 bif (a0.2.2.1 != a1.2.2.1) then (
 some false)
 else (
 bif (a0.2.2.2.1 != a1.2.2.2.1) then (
 some false)
 else (
(laws_eqEvent a0.2.2.2.2.1 a1.2.2.2.2.1).bind fun y1 =>
 bif (!y1) then (
 some false)
 else (
(laws_eqEventS a0.2.2.2.2.2.1 a1.2.2.2.2.2.1).bind fun y2 =>
 bif (!y2) then (
 some false)
 else (
 bif (a0.2.2.2.2.2.2.1 != a1.2.2.2.2.2.2.1) then (
 some false)
 else (
 bif (a0.2.2.2.2.2.2.2.1 != a1.2.2.2.2.2.2.2.1) then (
 some false)
 else (
 some true))))))))
def laws_eqTurn_c : Ct := .pure true false (.pair T_Turn (.pair T_Turn .unit)) .bool (fun x => laws_eqTurn x.1 x.2.1)
theorem laws_eqTurn_ct : CtOk Try.prog 150 laws_eqTurn_c := pure_ct (E := { T := tab, G := [(76, laws_eqEventS_c), (148, laws_eqEvent_c)] }) (EnvOk.cons laws_eqEventS_ct (EnvOk.cons laws_eqEvent_ct (EnvOk.nil tabOk))) mixed (fn := Try.f150) _ _ _ _ _ .none Try.func150 (by kernel_rfl) (fun x => by kernel_rfl)
/-! loop.example/g00486/laws.eqTurnS -/
def laws_eqTurnS_l1 (a0 : (List T_Turn.D)) (a1 : (List T_Turn.D)) : Int → Option (Int ⊕ (Int ⊕ Bool)) := fun s1 =>
 bif decide (s1 < (a0.length : Int)) then (
 idx a0 s1 fun x2 =>
 idx a1 s1 fun x3 =>
(laws_eqTurn x2 x3).bind fun y4 =>
 bif (!y4) then (
 some (.inr (.inr false)))
 else (
 some (.inl (IntKind.wrap .i64 (s1 + 1)))))
 else (
 some (.inr (.inl s1)))
def laws_eqTurnS (a0 : (List T_Turn.D)) (a1 : (List T_Turn.D)) : Option Bool :=
 bif ((a0.length : Int) != (a1.length : Int)) then (
 some false)
 else (
(while_ (laws_eqTurnS_l1 a0 a1) 0).bind fun o5 =>
 match o5 with
| .inl s6 => (
 some true)
| .inr o7 => (
 some o7))
def laws_eqTurnS_h : Hints := (.node none none .none (.node none none .none (.node none none (.node none none .none (.node none none (.node none (some ⟨[.tmp 5 (.int .i64)], [some 0], some [.tmp 4 .bool], []⟩) .none .none) .none)) .none)))
def laws_eqTurnS_c : Ct := .pure true false (.pair (.slice T_Turn) (.pair (.slice T_Turn) .unit)) .bool (fun x => laws_eqTurnS x.1 x.2.1)
theorem laws_eqTurnS_ct : CtOk Try.prog 78 laws_eqTurnS_c := pure_ct (E := { T := tab, G := [(150, laws_eqTurn_c)] }) (EnvOk.cons laws_eqTurn_ct (EnvOk.nil tabOk)) mixed (fn := Try.f78) _ _ _ _ _ laws_eqTurnS_h Try.func78 (by kernel_rfl) (fun x => by kernel_rfl)
/-! loop.example/g00486/laws.eqFate -/
def laws_eqFate (a0 : T_Fate.D) (a1 : T_Fate.D) : Option Bool :=
(laws_eqEventS a0.1 a1.1).bind fun y1 =>
 bif (!y1) then (
 some false)
 else (
(laws_eqEffectS a0.2.1 a1.2.1).bind fun y2 =>
 bif (!y2) then (
 some false)
 else (
(laws_eqIntS a0.2.2.1 a1.2.2.1).bind fun y3 =>
 bif (!y3) then (
 some false)
 else (
(laws_eqTurnS a0.2.2.2.1 a1.2.2.2.1).bind fun y4 =>
 bif (!y4) then (
 some false)
 else (
 some true))))
def laws_eqFate_c : Ct := .pure true false (.pair T_Fate (.pair T_Fate .unit)) .bool (fun x => laws_eqFate x.1 x.2.1)
theorem laws_eqFate_ct : CtOk Try.prog 23 laws_eqFate_c := pure_ct (E := { T := tab, G := [(47, laws_eqIntS_c), (76, laws_eqEventS_c), (77, laws_eqEffectS_c), (78, laws_eqTurnS_c)] }) (EnvOk.cons laws_eqIntS_ct (EnvOk.cons laws_eqEventS_ct (EnvOk.cons laws_eqEffectS_ct (EnvOk.cons laws_eqTurnS_ct (EnvOk.nil tabOk))))) mixed (fn := Try.f23) _ _ _ _ _ .none Try.func23 (by kernel_rfl) (fun x => by kernel_rfl)
/-! loop.example/g00486/laws.FnExactChain -/
def laws_FnExactChain (a0 : T_Fate.D) : Option Bool :=
(laws_szFate a0 1048576).bind fun y1 =>
 bif decide (y1 < 0) then (
 some true)
 else (
(laws_toFate a0).bind fun y2 =>
(spec_Chain y2).bind fun y3 =>
(laws_toFate a0).bind fun y4 =>
(impl_Chain y4).bind fun y5 =>
 bif (y5 != y3) then (
 some false)
 else (
(laws_toFate a0).bind fun y6 =>
(laws_eqFate y4 y6).bind fun y7 =>
 bif (!y7) then (
 some false)
 else (
 some true)))
def laws_FnExactChain_c : Ct := .pure true false (.pair T_Fate .unit) .bool (fun x => laws_FnExactChain x.1)
theorem laws_FnExactChain_ct : CtOk Try.prog 4 laws_FnExactChain_c := pure_ct (E := { T := tab, G := [(19, laws_szFate_c), (20, spec_Chain_c), (21, laws_toFate_fresh_c), (22, impl_Chain_c), (23, laws_eqFate_c)] }) (EnvOk.cons laws_szFate_ct (EnvOk.cons spec_Chain_ct (EnvOk.cons laws_toFate_fresh_ct (EnvOk.cons impl_Chain_ct (EnvOk.cons laws_eqFate_ct (EnvOk.nil tabOk)))))) mixed (fn := Try.f4) _ _ _ _ _ .none Try.func4 (by kernel_rfl) (fun x => by kernel_rfl)
/-! loop.example/g00486/spec.SameEvents -/
def spec_SameEvents_l1 (a0 : (List T_Event.D)) (a1 : (List T_Event.D)) : Int → Option (Int ⊕ (Int ⊕ Bool)) := fun s1 =>
 bif decide (s1 < (a0.length : Int)) then (
 idx a0 s1 fun x2 =>
 idx a1 s1 fun x3 =>
 bif (!((x2.1 == x3.1) && ((x2.2.1 == x3.2.1) && ((x2.2.2.1 == x3.2.2.1) && ((x2.2.2.2.1 == x3.2.2.2.1) && ((x2.2.2.2.2.1 == x3.2.2.2.2.1) && ((x2.2.2.2.2.2.1 == x3.2.2.2.2.2.1) && ((x2.2.2.2.2.2.2.1 == x3.2.2.2.2.2.2.1) && true)))))))) then (
 some (.inr (.inr false)))
 else (
 some (.inl (IntKind.wrap .i64 (s1 + 1)))))
 else (
 some (.inr (.inl s1)))
def spec_SameEvents (a0 : (List T_Event.D)) (a1 : (List T_Event.D)) : Option Bool :=
 bif ((a0.length : Int) != (a1.length : Int)) then (
 some false)
 else (
(while_ (spec_SameEvents_l1 a0 a1) 0).bind fun o4 =>
 match o4 with
| .inl s5 => (
 some true)
| .inr o6 => (
 some o6))
def spec_SameEvents_h : Hints := (.node none none .none (.node none none .none (.node none none (.node none none .none (.node none none (.node none (some ⟨[.tmp 5 (.int .i64)], [some 0], some [.tmp 4 .bool], []⟩) .none .none) .none)) .none)))
def spec_SameEvents_c : Ct := .pure true false (.pair (.slice T_Event) (.pair (.slice T_Event) .unit)) .bool (fun x => spec_SameEvents x.1 x.2.1)
theorem spec_SameEvents_ct : CtOk Try.prog 79 spec_SameEvents_c := pure_ct (E := { T := tab, G := [] }) (EnvOk.nil tabOk) mixed (fn := Try.f79) _ _ _ _ _ spec_SameEvents_h Try.func79 (by kernel_rfl) (fun x => by kernel_rfl)
/-! loop.example/g00486/spec.SameEffect -/
def spec_SameEffect_l1 (a0 : T_Effect.D) (a1 : T_Effect.D) : Int → Option (Int ⊕ (Int ⊕ Bool)) := fun s3 =>
 bif decide (s3 < (a0.2.2.2.2.2.2.1.2.2.2.2.2.2.1.length : Int)) then (
 idx a0.2.2.2.2.2.2.1.2.2.2.2.2.2.1 s3 fun x4 =>
 idx a1.2.2.2.2.2.2.1.2.2.2.2.2.2.1 s3 fun x5 =>
 bif (!((x4.1 == x5.1) && ((x4.2.1 == x5.2.1) && ((x4.2.2.1 == x5.2.2.1) && ((x4.2.2.2.1 == x5.2.2.2.1) && ((x4.2.2.2.2.1 == x5.2.2.2.2.1) && ((x4.2.2.2.2.2.1 == x5.2.2.2.2.2.1) && ((x4.2.2.2.2.2.2.1 == x5.2.2.2.2.2.2.1) && true)))))))) then (
 some (.inr (.inr false)))
 else (
 some (.inl (IntKind.wrap .i64 (s3 + 1)))))
 else (
 some (.inr (.inl s3)))
def spec_SameEffect (a0 : T_Effect.D) (a1 : T_Effect.D) : Option Bool :=
((bif (a0.1 != a1.1) then (
 some true)
 else (
 bif (a0.2.1 != a1.2.1) then (
 some true)
 else (
 bif (a0.2.2.1 != a1.2.2.1) then (
 some true)
 else (
 bif (a0.2.2.2.1 != a1.2.2.2.1) then (
 some true)
 else (
 bif (!((a0.2.2.2.2.1.1 == a1.2.2.2.2.1.1) && ((a0.2.2.2.2.1.2.1 == a1.2.2.2.2.1.2.1) && ((a0.2.2.2.2.1.2.2.1 == a1.2.2.2.2.1.2.2.1) && ((a0.2.2.2.2.1.2.2.2.1 == a1.2.2.2.2.1.2.2.2.1) && ((a0.2.2.2.2.1.2.2.2.2.1 == a1.2.2.2.2.1.2.2.2.2.1) && ((a0.2.2.2.2.1.2.2.2.2.2.1 == a1.2.2.2.2.1.2.2.2.2.2.1) && ((a0.2.2.2.2.1.2.2.2.2.2.2.1 == a1.2.2.2.2.1.2.2.2.2.2.2.1) && true)))))))) then (
 some true)
 else (
 bif (!((a0.2.2.2.2.2.1.1 == a1.2.2.2.2.2.1.1) && ((a0.2.2.2.2.2.1.2.1 == a1.2.2.2.2.2.1.2.1) && true))) then (
 some true)
 else (
 bif (a0.2.2.2.2.2.2.2.1 != a1.2.2.2.2.2.2.2.1) then (
 some true)
 else (
 some (a0.2.2.2.2.2.2.2.2.1 != a1.2.2.2.2.2.2.2.2.1))))))))) : Option Bool).bind fun o1 =>
 bif o1 then (
 some false)
 else (
((bif (a0.2.2.2.2.2.2.1.1 != a1.2.2.2.2.2.2.1.1) then (
 some true)
 else (
 bif (a0.2.2.2.2.2.2.1.2.1 != a1.2.2.2.2.2.2.1.2.1) then (
 some true)
 else (
 bif (a0.2.2.2.2.2.2.1.2.2.1 != a1.2.2.2.2.2.2.1.2.2.1) then (
 some true)
 else (
 bif (a0.2.2.2.2.2.2.1.2.2.2.1 != a1.2.2.2.2.2.2.1.2.2.2.1) then (
 some true)
 else (
 bif (a0.2.2.2.2.2.2.1.2.2.2.2.1 != a1.2.2.2.2.2.2.1.2.2.2.2.1) then (
 some true)
 else (
 bif (a0.2.2.2.2.2.2.1.2.2.2.2.2.1 != a1.2.2.2.2.2.2.1.2.2.2.2.2.1) then (
 some true)
 else (
 some ((a0.2.2.2.2.2.2.1.2.2.2.2.2.2.1.length : Int) != (a1.2.2.2.2.2.2.1.2.2.2.2.2.2.1.length : Int))))))))) : Option Bool).bind fun o2 =>
 bif o2 then (
 some false)
 else (
(while_ (spec_SameEffect_l1 a0 a1) 0).bind fun o6 =>
 match o6 with
| .inl s7 => (
 some true)
| .inr o8 => (
 some o8)))
def spec_SameEffect_h : Hints := (.node none none .none (.node none none (.node none none (.node (some ⟨[.tmp 61 .bool], [none], none, []⟩) none .none .none) .none) (.node none none .none (.node none none .none (.node none none (.node none none (.node (some ⟨[.tmp 114 .bool], [none], none, []⟩) none .none .none) .none) (.node none none (.node none none .none (.node none none (.node none (some ⟨[.tmp 7 (.int .i64)], [some 0], some [.tmp 4 .bool], []⟩) .none .none) .none)) .none))))))
def spec_SameEffect_c : Ct := .pure true false (.pair T_Effect (.pair T_Effect .unit)) .bool (fun x => spec_SameEffect x.1 x.2.1)
theorem spec_SameEffect_ct : CtOk Try.prog 151 spec_SameEffect_c := pure_ct (E := { T := tab, G := [] }) (EnvOk.nil tabOk) mixed (fn := Try.f151) _ _ _ _ _ spec_SameEffect_h Try.func151 (by kernel_rfl) (fun x => by kernel_rfl)
/-! loop.example/g00486/spec.SameTable -/
def spec_SameTable_l1 (a0 : (List T_Effect.D)) (a1 : (List T_Effect.D)) : Int → Option (Int ⊕ (Int ⊕ Bool)) := fun s1 =>
 bif decide (s1 < (a0.length : Int)) then (
 idx a0 s1 fun x2 =>
 idx a1 s1 fun x3 =>
(spec_SameEffect x2 x3).bind fun y4 =>
 bif (!y4) then (
 some (.inr (.inr false)))
 else (
 some (.inl (IntKind.wrap .i64 (s1 + 1)))))
 else (
 some (.inr (.inl s1)))
def spec_SameTable (a0 : (List T_Effect.D)) (a1 : (List T_Effect.D)) : Option Bool :=
 bif ((a0.length : Int) != (a1.length : Int)) then (
 some false)
 else (
(while_ (spec_SameTable_l1 a0 a1) 0).bind fun o5 =>
 match o5 with
| .inl s6 => (
 some true)
| .inr o7 => (
 some o7))
def spec_SameTable_h : Hints := (.node none none .none (.node none none .none (.node none none (.node none none .none (.node none none (.node none (some ⟨[.tmp 5 (.int .i64)], [some 0], some [.tmp 4 .bool], []⟩) .none .none) .none)) .none)))
def spec_SameTable_c : Ct := .pure true false (.pair (.slice T_Effect) (.pair (.slice T_Effect) .unit)) .bool (fun x => spec_SameTable x.1 x.2.1)
theorem spec_SameTable_ct : CtOk Try.prog 80 spec_SameTable_c := pure_ct (E := { T := tab, G := [(151, spec_SameEffect_c)] }) (EnvOk.cons spec_SameEffect_ct (EnvOk.nil tabOk)) mixed (fn := Try.f80) _ _ _ _ _ spec_SameTable_h Try.func80 (by kernel_rfl) (fun x => by kernel_rfl)
/-! loop.example/g00486/spec.l15SameInts -/
def spec_l15SameInts_l1 (a0 : (List Int)) (a1 : (List Int)) : Int → Option (Int ⊕ (Int ⊕ Bool)) := fun s1 =>
 bif decide (s1 < (a0.length : Int)) then (
 idx a0 s1 fun x2 =>
 idx a1 s1 fun x3 =>
 bif (x2 != x3) then (
 some (.inr (.inr false)))
 else (
 some (.inl (IntKind.wrap .i64 (s1 + 1)))))
 else (
 some (.inr (.inl s1)))
def spec_l15SameInts (a0 : (List Int)) (a1 : (List Int)) : Option Bool :=
 bif ((a0.length : Int) != (a1.length : Int)) then (
 some false)
 else (
(while_ (spec_l15SameInts_l1 a0 a1) 0).bind fun o4 =>
 match o4 with
| .inl s5 => (
 some true)
| .inr o6 => (
 some o6))
def spec_l15SameInts_h : Hints := (.node none none .none (.node none none .none (.node none none (.node none none .none (.node none none (.node none (some ⟨[.tmp 5 (.int .i64)], [some 0], some [.tmp 4 .bool], []⟩) .none .none) .none)) .none)))
def spec_l15SameInts_c : Ct := .pure true false (.pair (.slice (.int .i64)) (.pair (.slice (.int .i64)) .unit)) .bool (fun x => spec_l15SameInts x.1 x.2.1)
theorem spec_l15SameInts_ct : CtOk Try.prog 81 spec_l15SameInts_c := pure_ct (E := { T := tab, G := [] }) (EnvOk.nil tabOk) mixed (fn := Try.f81) _ _ _ _ _ spec_l15SameInts_h Try.func81 (by kernel_rfl) (fun x => by kernel_rfl)
/-! loop.example/g00486/spec.SameTurn -/
def spec_SameTurn_l1 (a0 : T_Turn.D) (a1 : T_Turn.D) : Int → Option (Int ⊕ (Int ⊕ Bool)) := fun s2 =>
 bif decide (s2 < (a0.2.2.2.2.2.1.length : Int)) then (
 idx a0.2.2.2.2.2.1 s2 fun x3 =>
 idx a1.2.2.2.2.2.1 s2 fun x4 =>
 bif (!((x3.1 == x4.1) && ((x3.2.1 == x4.2.1) && ((x3.2.2.1 == x4.2.2.1) && ((x3.2.2.2.1 == x4.2.2.2.1) && ((x3.2.2.2.2.1 == x4.2.2.2.2.1) && ((x3.2.2.2.2.2.1 == x4.2.2.2.2.2.1) && ((x3.2.2.2.2.2.2.1 == x4.2.2.2.2.2.2.1) && true)))))))) then (
 some (.inr (.inr false)))
 else (
 some (.inl (IntKind.wrap .i64 (s2 + 1)))))
 else (
 some (.inr (.inl s2)))
def spec_SameTurn (a0 : T_Turn.D) (a1 : T_Turn.D) : Option Bool :=
((bif (a0.1 != a1.1) then (
 some true)
 else (
 bif (a0.2.1 != a1.2.1) then (
 some true)
 else (
 bif (a0.2.2.1 != a1.2.2.1) then (
 some true)
 else (
 bif (a0.2.2.2.1 != a1.2.2.2.1) then (
 some true)
 else (
 bif (!((a0.2.2.2.2.1.1 == a1.2.2.2.2.1.1) && ((a0.2.2.2.2.1.2.1 == a1.2.2.2.2.1.2.1) && ((a0.2.2.2.2.1.2.2.1 == a1.2.2.2.2.1.2.2.1) && ((a0.2.2.2.2.1.2.2.2.1 == a1.2.2.2.2.1.2.2.2.1) && ((a0.2.2.2.2.1.2.2.2.2.1 == a1.2.2.2.2.1.2.2.2.2.1) && ((a0.2.2.2.2.1.2.2.2.2.2.1 == a1.2.2.2.2.1.2.2.2.2.2.1) && ((a0.2.2.2.2.1.2.2.2.2.2.2.1 == a1.2.2.2.2.1.2.2.2.2.2.2.1) && true)))))))) then (
 some true)
 else (
 bif (a0.2.2.2.2.2.2.1 != a1.2.2.2.2.2.2.1) then (
 some true)
 else (
 bif (a0.2.2.2.2.2.2.2.1 != a1.2.2.2.2.2.2.2.1) then (
 some true)
 else (
 some ((a0.2.2.2.2.2.1.length : Int) != (a1.2.2.2.2.2.1.length : Int)))))))))) : Option Bool).bind fun o1 =>
 bif o1 then (
 some false)
 else (
(while_ (spec_SameTurn_l1 a0 a1) 0).bind fun o5 =>
 match o5 with
| .inl s6 => (
 some true)
| .inr o7 => (
 some o7))
def spec_SameTurn_h : Hints := (.node none none .none (.node none none (.node none none (.node (some ⟨[.tmp 61 .bool], [none], none, []⟩) none .none .none) .none) (.node none none (.node none none .none (.node none none (.node none (some ⟨[.tmp 5 (.int .i64)], [some 0], some [.tmp 4 .bool], []⟩) .none .none) .none)) .none)))
def spec_SameTurn_c : Ct := .pure true false (.pair T_Turn (.pair T_Turn .unit)) .bool (fun x => spec_SameTurn x.1 x.2.1)
theorem spec_SameTurn_ct : CtOk Try.prog 152 spec_SameTurn_c := pure_ct (E := { T := tab, G := [] }) (EnvOk.nil tabOk) mixed (fn := Try.f152) _ _ _ _ _ spec_SameTurn_h Try.func152 (by kernel_rfl) (fun x => by kernel_rfl)
/-! loop.example/g00486/spec.l15SameTurns -/
def spec_l15SameTurns_l1 (a0 : (List T_Turn.D)) (a1 : (List T_Turn.D)) : Int → Option (Int ⊕ (Int ⊕ Bool)) := fun s1 =>
 bif decide (s1 < (a0.length : Int)) then (
 idx a0 s1 fun x2 =>
 idx a1 s1 fun x3 =>
(spec_SameTurn x2 x3).bind fun y4 =>
 bif (!y4) then (
 some (.inr (.inr false)))
 else (
 some (.inl (IntKind.wrap .i64 (s1 + 1)))))
 else (
 some (.inr (.inl s1)))
def spec_l15SameTurns (a0 : (List T_Turn.D)) (a1 : (List T_Turn.D)) : Option Bool :=
 bif ((a0.length : Int) != (a1.length : Int)) then (
 some false)
 else (
(while_ (spec_l15SameTurns_l1 a0 a1) 0).bind fun o5 =>
 match o5 with
| .inl s6 => (
 some true)
| .inr o7 => (
 some o7))
def spec_l15SameTurns_h : Hints := (.node none none .none (.node none none .none (.node none none (.node none none .none (.node none none (.node none (some ⟨[.tmp 5 (.int .i64)], [some 0], some [.tmp 4 .bool], []⟩) .none .none) .none)) .none)))
def spec_l15SameTurns_c : Ct := .pure true false (.pair (.slice T_Turn) (.pair (.slice T_Turn) .unit)) .bool (fun x => spec_l15SameTurns x.1 x.2.1)
theorem spec_l15SameTurns_ct : CtOk Try.prog 82 spec_l15SameTurns_c := pure_ct (E := { T := tab, G := [(152, spec_SameTurn_c)] }) (EnvOk.cons spec_SameTurn_ct (EnvOk.nil tabOk)) mixed (fn := Try.f82) _ _ _ _ _ spec_l15SameTurns_h Try.func82 (by kernel_rfl) (fun x => by kernel_rfl)
/-! loop.example/g00486/spec.SameFate -/
def spec_SameFate (a0 : T_Fate.D) (a1 : T_Fate.D) : Option Bool :=
(spec_SameEvents a0.1 a1.1).bind fun y1 =>
 bif y1 then (
(spec_SameTable a0.2.1 a1.2.1).bind fun y2 =>
 bif y2 then (
(spec_l15SameInts a0.2.2.1 a1.2.2.1).bind fun y3 =>
 bif y3 then (
(spec_l15SameTurns a0.2.2.2.1 a1.2.2.2.1).bind fun y4 =>
 some y4)
 else (
 some false))
 else (
 some false))
 else (
 some false)
def spec_SameFate_c : Ct := .pure true false (.pair T_Fate (.pair T_Fate .unit)) .bool (fun x => spec_SameFate x.1 x.2.1)
theorem spec_SameFate_ct : CtOk Try.prog 24 spec_SameFate_c := pure_ct (E := { T := tab, G := [(79, spec_SameEvents_c), (80, spec_SameTable_c), (81, spec_l15SameInts_c), (82, spec_l15SameTurns_c)] }) (EnvOk.cons spec_SameEvents_ct (EnvOk.cons spec_SameTable_ct (EnvOk.cons spec_l15SameInts_ct (EnvOk.cons spec_l15SameTurns_ct (EnvOk.nil tabOk))))) mixed (fn := Try.f24) _ _ _ _ _ .none Try.func24 (by kernel_rfl) (fun x => by kernel_rfl)
/-! slices.Equal[[]loop.example/g00486/impl.Event,loop.example/g00486/impl.Event] -/
def slices_Equal_impl_Event_l1 (a0 : (List T_Event.D)) (a1 : (List T_Event.D)) : Int → Option (Int ⊕ (Int ⊕ Bool)) := fun s1 =>
 bif decide (s1 < (a0.length : Int)) then (
 idx a0 s1 fun x2 =>
 idx a1 s1 fun x3 =>
 bif (!((x2.1 == x3.1) && ((x2.2.1 == x3.2.1) && ((x2.2.2.1 == x3.2.2.1) && ((x2.2.2.2.1 == x3.2.2.2.1) && ((x2.2.2.2.2.1 == x3.2.2.2.2.1) && ((x2.2.2.2.2.2.1 == x3.2.2.2.2.2.1) && ((x2.2.2.2.2.2.2.1 == x3.2.2.2.2.2.2.1) && true)))))))) then (
 some (.inr (.inr false)))
 else (
 some (.inl (IntKind.wrap .i64 (s1 + 1)))))
 else (
 some (.inr (.inl s1)))
def slices_Equal_impl_Event (a0 : (List T_Event.D)) (a1 : (List T_Event.D)) : Option Bool :=
 bif ((a0.length : Int) != (a1.length : Int)) then (
 some false)
 else (
(while_ (slices_Equal_impl_Event_l1 a0 a1) 0).bind fun o4 =>
 match o4 with
| .inl s5 => (
 some true)
| .inr o6 => (
 some o6))
def slices_Equal_impl_Event_h : Hints := (.node none none .none (.node none none .none (.node none none (.node none none .none (.node none none (.node none (some ⟨[.tmp 13 (.int .i64)], [some 0], some [.tmp 4 .bool], []⟩) .none .none) .none)) .none)))
def slices_Equal_impl_Event_c : Ct := .pure true false (.pair (.slice T_Event) (.pair (.slice T_Event) .unit)) .bool (fun x => slices_Equal_impl_Event x.1 x.2.1)
theorem slices_Equal_impl_Event_ct : CtOk Try.prog 153 slices_Equal_impl_Event_c := pure_ct (E := { T := tab, G := [] }) (EnvOk.nil tabOk) mixed (fn := Try.f153) _ _ _ _ _ slices_Equal_impl_Event_h Try.func153 (by kernel_rfl) (fun x => by kernel_rfl)
/-! loop.example/g00486/impl.SameEvents -/
def impl_SameEvents (a0 : (List T_Event.D)) (a1 : (List T_Event.D)) : Option Bool :=
(slices_Equal_impl_Event a0 a1).bind fun y1 =>
 some y1
def impl_SameEvents_c : Ct := .pure true false (.pair (.slice T_Event) (.pair (.slice T_Event) .unit)) .bool (fun x => impl_SameEvents x.1 x.2.1)
theorem impl_SameEvents_ct : CtOk Try.prog 83 impl_SameEvents_c := pure_ct (E := { T := tab, G := [(153, slices_Equal_impl_Event_c)] }) (EnvOk.cons slices_Equal_impl_Event_ct (EnvOk.nil tabOk)) mixed (fn := Try.f83) _ _ _ _ _ .none Try.func83 (by kernel_rfl) (fun x => by kernel_rfl)
/-! slices.EqualFunc[[]loop.example/g00486/impl.Effect,[]loop.example/g00486/impl.Effect,loop.example/g00486/impl.Effect,loop.example/g00486/impl.Effect] -/
def slices_EqualFunc_impl_Effect_l1 (a0 : (List T_Effect.D)) (a1 : (List T_Effect.D)) (a2 : ((T_Effect.D × (T_Effect.D × Unit)) → Option Bool)) : Int → Option (Int ⊕ (Int ⊕ Bool)) := fun s1 =>
 bif decide (s1 < (a0.length : Int)) then (
 idx a0 s1 fun x2 =>
 idx a1 s1 fun x3 =>
(a2 (x2, x3, ())).bind fun y4 =>
 bif (!y4) then (
 some (.inr (.inr false)))
 else (
 some (.inl (IntKind.wrap .i64 (s1 + 1)))))
 else (
 some (.inr (.inl s1)))
def slices_EqualFunc_impl_Effect (a0 : (List T_Effect.D)) (a1 : (List T_Effect.D)) (a2 : ((T_Effect.D × (T_Effect.D × Unit)) → Option Bool)) : Option Bool :=
 bif ((a0.length : Int) != (a1.length : Int)) then (
 some false)
 else (
(while_ (slices_EqualFunc_impl_Effect_l1 a0 a1 a2) 0).bind fun o5 =>
 match o5 with
| .inl s6 => (
 some true)
| .inr o7 => (
 some o7))
def slices_EqualFunc_impl_Effect_h : Hints := (.node none none .none (.node none none .none (.node none none (.node none none .none (.node none none (.node none (some ⟨[.tmp 17 (.int .i64)], [some 0], some [.tmp 6 .bool], []⟩) .none .none) .none)) .none)))
def slices_EqualFunc_impl_Effect_c : Ct := .pure true false (.pair (.slice T_Effect) (.pair (.slice T_Effect) (.pair (.fn (.pair T_Effect (.pair T_Effect .unit)) .bool) .unit))) .bool (fun x => slices_EqualFunc_impl_Effect x.1 x.2.1 x.2.2.1)
theorem slices_EqualFunc_impl_Effect_ct : CtOk Try.prog 154 slices_EqualFunc_impl_Effect_c := pure_ct (E := { T := tab, G := [] }) (EnvOk.nil tabOk) mixed (fn := Try.f154) _ _ _ _ _ slices_EqualFunc_impl_Effect_h Try.func154 (by kernel_rfl) (fun x => by kernel_rfl)
/-! loop.example/g00486/impl.sameAct -/
def impl_sameAct (a0 : T_Act.D) (a1 : T_Act.D) : Option Bool :=
 bif (a0.1 == a1.1) then (
 bif (a0.2.1 == a1.2.1) then (
 bif (a0.2.2.1 == a1.2.2.1) then (
 bif (a0.2.2.2.1 == a1.2.2.2.1) then (
 bif (a0.2.2.2.2.1 == a1.2.2.2.2.1) then (
 bif (a0.2.2.2.2.2.1 == a1.2.2.2.2.2.1) then (
(slices_Equal_impl_Event a0.2.2.2.2.2.2.1 a1.2.2.2.2.2.2.1).bind fun y1 =>
 some y1)
 else (
 some false))
 else (
 some false))
 else (
 some false))
 else (
 some false))
 else (
 some false))
 else (
 some false)
def impl_sameAct_c : Ct := .pure true false (.pair T_Act (.pair T_Act .unit)) .bool (fun x => impl_sameAct x.1 x.2.1)
theorem impl_sameAct_ct : CtOk Try.prog 189 impl_sameAct_c := pure_ct (E := { T := tab, G := [(153, slices_Equal_impl_Event_c)] }) (EnvOk.cons slices_Equal_impl_Event_ct (EnvOk.nil tabOk)) mixed (fn := Try.f189) _ _ _ _ _ .none Try.func189 (by kernel_rfl) (fun x => by kernel_rfl)
/-! loop.example/g00486/impl.SameEffect -/
def impl_SameEffect (a0 : T_Effect.D) (a1 : T_Effect.D) : Option Bool :=
 bif (a0.1 == a1.1) then (
 bif (a0.2.1 == a1.2.1) then (
 bif (a0.2.2.1 == a1.2.2.1) then (
 bif (a0.2.2.2.1 == a1.2.2.2.1) then (
 bif ((a0.2.2.2.2.1.1 == a1.2.2.2.2.1.1) && ((a0.2.2.2.2.1.2.1 == a1.2.2.2.2.1.2.1) && ((a0.2.2.2.2.1.2.2.1 == a1.2.2.2.2.1.2.2.1) && ((a0.2.2.2.2.1.2.2.2.1 == a1.2.2.2.2.1.2.2.2.1) && ((a0.2.2.2.2.1.2.2.2.2.1 == a1.2.2.2.2.1.2.2.2.2.1) && ((a0.2.2.2.2.1.2.2.2.2.2.1 == a1.2.2.2.2.1.2.2.2.2.2.1) && ((a0.2.2.2.2.1.2.2.2.2.2.2.1 == a1.2.2.2.2.1.2.2.2.2.2.2.1) && true))))))) then (
 bif ((a0.2.2.2.2.2.1.1 == a1.2.2.2.2.2.1.1) && ((a0.2.2.2.2.2.1.2.1 == a1.2.2.2.2.2.1.2.1) && true)) then (
(impl_sameAct a0.2.2.2.2.2.2.1 a1.2.2.2.2.2.2.1).bind fun y1 =>
 bif y1 then (
 bif (a0.2.2.2.2.2.2.2.1 == a1.2.2.2.2.2.2.2.1) then (
 some (a0.2.2.2.2.2.2.2.2.1 == a1.2.2.2.2.2.2.2.2.1))
 else (
 some false))
 else (
 some false))
 else (
 some false))
 else (
 some false))
 else (
 some false))
 else (
 some false))
 else (
 some false))
 else (
 some false)
def impl_SameEffect_c : Ct := .pure true false (.pair T_Effect (.pair T_Effect .unit)) .bool (fun x => impl_SameEffect x.1 x.2.1)
theorem impl_SameEffect_ct : CtOk Try.prog 155 impl_SameEffect_c := pure_ct (E := { T := tab, G := [(189, impl_sameAct_c)] }) (EnvOk.cons impl_sameAct_ct (EnvOk.nil tabOk)) mixed (fn := Try.f155) _ _ _ _ _ .none Try.func155 (by kernel_rfl) (fun x => by kernel_rfl)
/-! loop.example/g00486/impl.SameTable -/
def impl_SameTable (a0 : (List T_Effect.D)) (a1 : (List T_Effect.D)) : Option Bool :=
(slices_EqualFunc_impl_Effect a0 a1 (fun q => impl_SameEffect q.1 q.2.1)).bind fun y1 =>
 some y1
def impl_SameTable_c : Ct := .pure true false (.pair (.slice T_Effect) (.pair (.slice T_Effect) .unit)) .bool (fun x => impl_SameTable x.1 x.2.1)
theorem impl_SameTable_ct : CtOk Try.prog 84 impl_SameTable_c := pure_ct (E := { T := tab, G := [(154, slices_EqualFunc_impl_Effect_c), (155, impl_SameEffect_c)] }) (EnvOk.cons slices_EqualFunc_impl_Effect_ct (EnvOk.cons impl_SameEffect_ct (EnvOk.nil tabOk))) mixed (fn := Try.f84) _ _ _ _ _ .none Try.func84 (by kernel_rfl) (fun x => by kernel_rfl)
/-! slices.Equal[[]int,int] -/
def slices_Equal_int_l1 (a0 : (List Int)) (a1 : (List Int)) : Int → Option (Int ⊕ (Int ⊕ Bool)) := fun s1 =>
 bif decide (s1 < (a0.length : Int)) then (
 idx a0 s1 fun x2 =>
 idx a1 s1 fun x3 =>
 bif (x2 != x3) then (
 some (.inr (.inr false)))
 else (
 some (.inl (IntKind.wrap .i64 (s1 + 1)))))
 else (
 some (.inr (.inl s1)))
def slices_Equal_int (a0 : (List Int)) (a1 : (List Int)) : Option Bool :=
 bif ((a0.length : Int) != (a1.length : Int)) then (
 some false)
 else (
(while_ (slices_Equal_int_l1 a0 a1) 0).bind fun o4 =>
 match o4 with
| .inl s5 => (
 some true)
| .inr o6 => (
 some o6))
def slices_Equal_int_h : Hints := (.node none none .none (.node none none .none (.node none none (.node none none .none (.node none none (.node none (some ⟨[.tmp 13 (.int .i64)], [some 0], some [.tmp 4 .bool], []⟩) .none .none) .none)) .none)))
def slices_Equal_int_c : Ct := .pure true false (.pair (.slice (.int .i64)) (.pair (.slice (.int .i64)) .unit)) .bool (fun x => slices_Equal_int x.1 x.2.1)
theorem slices_Equal_int_ct : CtOk Try.prog 85 slices_Equal_int_c := pure_ct (E := { T := tab, G := [] }) (EnvOk.nil tabOk) mixed (fn := Try.f85) _ _ _ _ _ slices_Equal_int_h Try.func85 (by kernel_rfl) (fun x => by kernel_rfl)
/-! slices.EqualFunc[[]loop.example/g00486/impl.Turn,[]loop.example/g00486/impl.Turn,loop.example/g00486/impl.Turn,loop.example/g00486/impl.Turn] -/
def slices_EqualFunc_impl_Turn_l1 (a0 : (List T_Turn.D)) (a1 : (List T_Turn.D)) (a2 : ((T_Turn.D × (T_Turn.D × Unit)) → Option Bool)) : Int → Option (Int ⊕ (Int ⊕ Bool)) := fun s1 =>
 bif decide (s1 < (a0.length : Int)) then (
 idx a0 s1 fun x2 =>
 idx a1 s1 fun x3 =>
(a2 (x2, x3, ())).bind fun y4 =>
 bif (!y4) then (
 some (.inr (.inr false)))
 else (
 some (.inl (IntKind.wrap .i64 (s1 + 1)))))
 else (
 some (.inr (.inl s1)))
def slices_EqualFunc_impl_Turn (a0 : (List T_Turn.D)) (a1 : (List T_Turn.D)) (a2 : ((T_Turn.D × (T_Turn.D × Unit)) → Option Bool)) : Option Bool :=
 bif ((a0.length : Int) != (a1.length : Int)) then (
 some false)
 else (
(while_ (slices_EqualFunc_impl_Turn_l1 a0 a1 a2) 0).bind fun o5 =>
 match o5 with
| .inl s6 => (
 some true)
| .inr o7 => (
 some o7))
def slices_EqualFunc_impl_Turn_h : Hints := (.node none none .none (.node none none .none (.node none none (.node none none .none (.node none none (.node none (some ⟨[.tmp 17 (.int .i64)], [some 0], some [.tmp 6 .bool], []⟩) .none .none) .none)) .none)))
def slices_EqualFunc_impl_Turn_c : Ct := .pure true false (.pair (.slice T_Turn) (.pair (.slice T_Turn) (.pair (.fn (.pair T_Turn (.pair T_Turn .unit)) .bool) .unit))) .bool (fun x => slices_EqualFunc_impl_Turn x.1 x.2.1 x.2.2.1)
theorem slices_EqualFunc_impl_Turn_ct : CtOk Try.prog 86 slices_EqualFunc_impl_Turn_c := pure_ct (E := { T := tab, G := [] }) (EnvOk.nil tabOk) mixed (fn := Try.f86) _ _ _ _ _ slices_EqualFunc_impl_Turn_h Try.func86 (by kernel_rfl) (fun x => by kernel_rfl)
/-! loop.example/g00486/impl.SameTurn -/
def impl_SameTurn (a0 : T_Turn.D) (a1 : T_Turn.D) : Option Bool :=
 bif (a0.1 == a1.1) then (
 bif (a0.2.1 == a1.2.1) then (
 bif (a0.2.2.1 == a1.2.2.1) then (
 bif (a0.2.2.2.1 == a1.2.2.2.1) then (
 bif ((a0.2.2.2.2.1.1 == a1.2.2.2.2.1.1) && ((a0.2.2.2.2.1.2.1 == a1.2.2.2.2.1.2.1) && ((a0.2.2.2.2.1.2.2.1 == a1.2.2.2.2.1.2.2.1) && ((a0.2.2.2.2.1.2.2.2.1 == a1.2.2.2.2.1.2.2.2.1) && ((a0.2.2.2.2.1.2.2.2.2.1 == a1.2.2.2.2.1.2.2.2.2.1) && ((a0.2.2.2.2.1.2.2.2.2.2.1 == a1.2.2.2.2.1.2.2.2.2.2.1) && ((a0.2.2.2.2.1.2.2.2.2.2.2.1 == a1.2.2.2.2.1.2.2.2.2.2.2.1) && true))))))) then (
(slices_Equal_impl_Event a0.2.2.2.2.2.1 a1.2.2.2.2.2.1).bind fun y1 =>
 bif y1 then (
 bif (a0.2.2.2.2.2.2.1 == a1.2.2.2.2.2.2.1) then (
 some (a0.2.2.2.2.2.2.2.1 == a1.2.2.2.2.2.2.2.1))
 else (
 some false))
 else (
 some false))
 else (
 some false))
 else (
 some false))
 else (
 some false))
 else (
 some false))
 else (
 some false)
def impl_SameTurn_c : Ct := .pure true false (.pair T_Turn (.pair T_Turn .unit)) .bool (fun x => impl_SameTurn x.1 x.2.1)
theorem impl_SameTurn_ct : CtOk Try.prog 87 impl_SameTurn_c := pure_ct (E := { T := tab, G := [(153, slices_Equal_impl_Event_c)] }) (EnvOk.cons slices_Equal_impl_Event_ct (EnvOk.nil tabOk)) mixed (fn := Try.f87) _ _ _ _ _ .none Try.func87 (by kernel_rfl) (fun x => by kernel_rfl)
/-! loop.example/g00486/impl.SameFate -/
def impl_SameFate (a0 : T_Fate.D) (a1 : T_Fate.D) : Option Bool :=
(impl_SameEvents a0.1 a1.1).bind fun y1 =>
 bif y1 then (
(impl_SameTable a0.2.1 a1.2.1).bind fun y2 =>
 bif y2 then (
(slices_Equal_int a0.2.2.1 a1.2.2.1).bind fun y3 =>
 bif y3 then (
(slices_EqualFunc_impl_Turn a0.2.2.2.1 a1.2.2.2.1 (fun q => impl_SameTurn q.1 q.2.1)).bind fun y4 =>
 some y4)
 else (
 some false))
 else (
 some false))
 else (
 some false)
def impl_SameFate_c : Ct := .pure true false (.pair T_Fate (.pair T_Fate .unit)) .bool (fun x => impl_SameFate x.1 x.2.1)
theorem impl_SameFate_ct : CtOk Try.prog 25 impl_SameFate_c := pure_ct (E := { T := tab, G := [(83, impl_SameEvents_c), (84, impl_SameTable_c), (85, slices_Equal_int_c), (86, slices_EqualFunc_impl_Turn_c), (87, impl_SameTurn_c)] }) (EnvOk.cons impl_SameEvents_ct (EnvOk.cons impl_SameTable_ct (EnvOk.cons slices_Equal_int_ct (EnvOk.cons slices_EqualFunc_impl_Turn_ct (EnvOk.cons impl_SameTurn_ct (EnvOk.nil tabOk)))))) mixed (fn := Try.f25) _ _ _ _ _ .none Try.func25 (by kernel_rfl) (fun x => by kernel_rfl)
/-! loop.example/g00486/laws.FnExactSameFate -/
def laws_FnExactSameFate (a0 : T_Fate.D) (a1 : T_Fate.D) : Option Bool :=
(laws_szFate a0 1048576).bind fun y1 =>
 bif decide (y1 < 0) then (
 some true)
 else (
(laws_szFate a1 y1).bind fun y2 =>
 bif decide (y2 < 0) then (
 some true)
 else (
(laws_toFate a0).bind fun y3 =>
(laws_toFate a1).bind fun y4 =>
(spec_SameFate y3 y4).bind fun y5 =>
(laws_toFate a0).bind fun y6 =>
(laws_toFate a1).bind fun y7 =>
(impl_SameFate y6 y7).bind fun y8 =>
 bif (y8 != y5) then (
 some false)
 else (
(laws_toFate a0).bind fun y9 =>
(laws_eqFate y6 y9).bind fun y10 =>
 bif (!y10) then (
 some false)
 else (
(laws_toFate a1).bind fun y11 =>
(laws_eqFate y7 y11).bind fun y12 =>
 bif (!y12) then (
 some false)
 else (
 some true)))))
def laws_FnExactSameFate_c : Ct := .pure true false (.pair T_Fate (.pair T_Fate .unit)) .bool (fun x => laws_FnExactSameFate x.1 x.2.1)
theorem laws_FnExactSameFate_ct : CtOk Try.prog 5 laws_FnExactSameFate_c := pure_ct (E := { T := tab, G := [(19, laws_szFate_c), (21, laws_toFate_fresh_c), (23, laws_eqFate_c), (24, spec_SameFate_c), (25, impl_SameFate_c)] }) (EnvOk.cons laws_szFate_ct (EnvOk.cons laws_toFate_fresh_ct (EnvOk.cons laws_eqFate_ct (EnvOk.cons spec_SameFate_ct (EnvOk.cons impl_SameFate_ct (EnvOk.nil tabOk)))))) mixed (fn := Try.f5) _ _ _ _ _ .none Try.func5 (by kernel_rfl) (fun x => by kernel_rfl)
/-! loop.example/g00486/laws.szPieceS -/
def laws_szPieceS (a0 : (List T_Piece.D)) (a1 : Int) : Option Int :=
 bif decide ((IntKind.wrap .i64 (a1 - (a0.length : Int))) < 0) then (
 some (-1))
 else (
 some (IntKind.wrap .i64 (a1 - (a0.length : Int))))
def laws_szPieceS_c : Ct := .pure true false (.pair (.slice T_Piece) (.pair (.int .i64) .unit)) (.int .i64) (fun x => laws_szPieceS x.1 x.2.1)
theorem laws_szPieceS_ct : CtOk Try.prog 63 laws_szPieceS_c := pure_ct (E := { T := tab, G := [] }) (EnvOk.nil tabOk) mixed (fn := Try.f63) _ _ _ _ _ .none Try.func63 (by kernel_rfl) (fun x => by kernel_rfl)
/-! loop.example/g00486/laws.szSideS -/
def laws_szSideS (a0 : (List T_Side.D)) (a1 : Int) : Option Int :=
 bif decide ((IntKind.wrap .i64 (a1 - (a0.length : Int))) < 0) then (
 some (-1))
 else (
 some (IntKind.wrap .i64 (a1 - (a0.length : Int))))
def laws_szSideS_c : Ct := .pure true false (.pair (.slice T_Side) (.pair (.int .i64) .unit)) (.int .i64) (fun x => laws_szSideS x.1 x.2.1)
theorem laws_szSideS_ct : CtOk Try.prog 64 laws_szSideS_c := pure_ct (E := { T := tab, G := [] }) (EnvOk.nil tabOk) mixed (fn := Try.f64) _ _ _ _ _ .none Try.func64 (by kernel_rfl) (fun x => by kernel_rfl)
/-! loop.example/g00486/laws.szState -/
def laws_szState (a0 : T_State.D) (a1 : Int) : Option Int :=
(laws_szPieceS a0.1 a1).bind fun y1 =>
 bif decide (y1 < 0) then (
 some (-1))
 else (
(laws_szSideS a0.2.1 y1).bind fun y2 =>
 bif decide (y2 < 0) then (
 some (-1))
 else (
 some y2))
def laws_szState_c : Ct := .pure true false (.pair T_State (.pair (.int .i64) .unit)) (.int .i64) (fun x => laws_szState x.1 x.2.1)
theorem laws_szState_ct : CtOk Try.prog 14 laws_szState_c := pure_ct (E := { T := tab, G := [(63, laws_szPieceS_c), (64, laws_szSideS_c)] }) (EnvOk.cons laws_szPieceS_ct (EnvOk.cons laws_szSideS_ct (EnvOk.nil tabOk))) mixed (fn := Try.f14) _ _ _ _ _ .none Try.func14 (by kernel_rfl) (fun x => by kernel_rfl)
/-! loop.example/g00486/laws.szTriggerS -/
def laws_szTriggerS (a0 : (List T_Trigger.D)) (a1 : Int) : Option Int :=
 bif decide ((IntKind.wrap .i64 (a1 - (a0.length : Int))) < 0) then (
 some (-1))
 else (
 some (IntKind.wrap .i64 (a1 - (a0.length : Int))))
def laws_szTriggerS_c : Ct := .pure true false (.pair (.slice T_Trigger) (.pair (.int .i64) .unit)) (.int .i64) (fun x => laws_szTriggerS x.1 x.2.1)
theorem laws_szTriggerS_ct : CtOk Try.prog 41 laws_szTriggerS_c := pure_ct (E := { T := tab, G := [] }) (EnvOk.nil tabOk) mixed (fn := Try.f41) _ _ _ _ _ .none Try.func41 (by kernel_rfl) (fun x => by kernel_rfl)
/-! loop.example/g00486/laws.szNoteS -/
def laws_szNoteS (a0 : (List T_Note.D)) (a1 : Int) : Option Int :=
 bif decide ((IntKind.wrap .i64 (a1 - (a0.length : Int))) < 0) then (
 some (-1))
 else (
 some (IntKind.wrap .i64 (a1 - (a0.length : Int))))
def laws_szNoteS_c : Ct := .pure true false (.pair (.slice T_Note) (.pair (.int .i64) .unit)) (.int .i64) (fun x => laws_szNoteS x.1 x.2.1)
theorem laws_szNoteS_ct : CtOk Try.prog 52 laws_szNoteS_c := pure_ct (E := { T := tab, G := [] }) (EnvOk.nil tabOk) mixed (fn := Try.f52) _ _ _ _ _ .none Try.func52 (by kernel_rfl) (fun x => by kernel_rfl)
/-! loop.example/g00486/laws.szGame -/
def laws_szGame (a0 : T_Game.D) (a1 : Int) : Option Int :=
(laws_szState a0.1 a1).bind fun y1 =>
 bif decide (y1 < 0) then (
 some (-1))
 else (
(laws_szEffectS a0.2.1 y1).bind fun y2 =>
 bif decide (y2 < 0) then (
 some (-1))
 else (
(laws_szIntS a0.2.2.1 y2).bind fun y3 =>
 bif decide (y3 < 0) then (
 some (-1))
 else (
(laws_szTriggerS a0.2.2.2.1 y3).bind fun y4 =>
 bif decide (y4 < 0) then (
 some (-1))
 else (
(laws_szNoteS a0.2.2.2.2.1 y4).bind fun y5 =>
 bif decide (y5 < 0) then (
 some (-1))
 else (
(laws_szTurnS a0.2.2.2.2.2.1 y5).bind fun y6 =>
 bif decide (y6 < 0) then (
 some (-1))
 else (
 some y6))))))
def laws_szGame_c : Ct := .pure true false (.pair T_Game (.pair (.int .i64) .unit)) (.int .i64) (fun x => laws_szGame x.1 x.2.1)
theorem laws_szGame_ct : CtOk Try.prog 26 laws_szGame_c := pure_ct (E := { T := tab, G := [(14, laws_szState_c), (41, laws_szTriggerS_c), (52, laws_szNoteS_c), (70, laws_szEffectS_c), (71, laws_szIntS_c), (72, laws_szTurnS_c)] }) (EnvOk.cons laws_szState_ct (EnvOk.cons laws_szTriggerS_ct (EnvOk.cons laws_szNoteS_ct (EnvOk.cons laws_szEffectS_ct (EnvOk.cons laws_szIntS_ct (EnvOk.cons laws_szTurnS_ct (EnvOk.nil tabOk))))))) mixed (fn := Try.f26) _ _ _ _ _ .none Try.func26 (by kernel_rfl) (fun x => by kernel_rfl)
/-! loop.example/g00486/laws.toPiece -/
def laws_toPiece (a0 : T_Piece.D) : Option T_Piece.D :=
 some a0
def laws_toPiece_c : Ct := .pure true false (.pair T_Piece .unit) T_Piece (fun x => laws_toPiece x.1)
theorem laws_toPiece_ct : CtOk Try.prog 39 laws_toPiece_c := pure_ct (E := { T := tab, G := [] }) (EnvOk.nil tabOk) mixed (fn := Try.f39) _ _ _ _ _ .none Try.func39 (by kernel_rfl) (fun x => by kernel_rfl)
/-! loop.example/g00486/laws.toPieceS -/
def laws_toPieceS_l1 (a0 : (List T_Piece.D)) : ((List T_Piece.D) × Int) → Option (((List T_Piece.D) × Int) ⊕ ((List T_Piece.D) × Int)) := fun s2 =>
 bif decide (s2.2 < (a0.length : Int)) then (
 idx a0 s2.2 fun x3 =>
(laws_toPiece x3).bind fun y4 =>
 idx s2.1 s2.2 fun _ =>
(s2.1[(s2.2 : Int).toNat]?).bind fun x5 =>
 let u6 : (List T_Piece.D) := s2.1.set (s2.2 : Int).toNat y4
 some (.inl (u6, IntKind.wrap .i64 (s2.2 + 1))))
 else (
 some (.inr s2))
def laws_toPieceS (a0 : (List T_Piece.D)) : Option (List T_Piece.D) :=
 if 0 ≤ (a0.length : Int) then (if ((a0.length : Int)).toNat * (24 * 13) ≤ room then (
(while_ (laws_toPieceS_l1 a0) ((List.replicate ((a0.length : Int)).toNat (0, 0, 0, 0, 0, 0, 0, 0, 0, 0, 0, false, false, ())), 0)).bind fun o7 =>
 some o7.1) else none) else none
def laws_toPieceS_h : Hints := (.node none none .none (.node none none .none (.node none none (.node none none .none (.node none none (.node none (some ⟨[.tmpO 3 0 (.slice T_Piece), .tmp 4 (.int .i64)], [some 0], none, []⟩) .none .none) .none)) .none)))
def laws_toPieceS_c : Ct := .pure true false (.pair (.slice T_Piece) .unit) (.slice T_Piece) (fun x => laws_toPieceS x.1)
theorem laws_toPieceS_ct : CtOk Try.prog 65 laws_toPieceS_c := pure_ct (E := { T := tab, G := [(39, laws_toPiece_c)] }) (EnvOk.cons laws_toPiece_ct (EnvOk.nil tabOk)) mixed (fn := Try.f65) _ _ _ _ _ laws_toPieceS_h Try.func65 (by kernel_rfl) (fun x => by kernel_rfl)
def laws_toPieceS_fresh_c : Ct := .pure true true (.pair (.slice T_Piece) .unit) (.slice T_Piece) (fun x => laws_toPieceS x.1)
theorem laws_toPieceS_fresh_ct : CtOk Try.prog 65 laws_toPieceS_fresh_c := pure_ct (E := { T := tab, G := [(39, laws_toPiece_c)] }) (EnvOk.cons laws_toPiece_ct (EnvOk.nil tabOk)) mixed (fn := Try.f65) _ _ _ _ _ laws_toPieceS_h Try.func65 (by kernel_rfl) (fun x => by kernel_rfl)
/-! loop.example/g00486/laws.toSide -/
def laws_toSide (a0 : T_Side.D) : Option T_Side.D :=
 some a0
def laws_toSide_c : Ct := .pure true false (.pair T_Side .unit) T_Side (fun x => laws_toSide x.1)
theorem laws_toSide_ct : CtOk Try.prog 141 laws_toSide_c := pure_ct (E := { T := tab, G := [] }) (EnvOk.nil tabOk) mixed (fn := Try.f141) _ _ _ _ _ .none Try.func141 (by kernel_rfl) (fun x => by kernel_rfl)
/-! loop.example/g00486/laws.toSideS -/
def laws_toSideS_l1 (a0 : (List T_Side.D)) : ((List T_Side.D) × Int) → Option (((List T_Side.D) × Int) ⊕ ((List T_Side.D) × Int)) := fun s2 =>
 bif decide (s2.2 < (a0.length : Int)) then (
 idx a0 s2.2 fun x3 =>
(laws_toSide x3).bind fun y4 =>
 idx s2.1 s2.2 fun _ =>
(s2.1[(s2.2 : Int).toNat]?).bind fun x5 =>
 let u6 : (List T_Side.D) := s2.1.set (s2.2 : Int).toNat y4
 some (.inl (u6, IntKind.wrap .i64 (s2.2 + 1))))
 else (
 some (.inr s2))
def laws_toSideS (a0 : (List T_Side.D)) : Option (List T_Side.D) :=
 if 0 ≤ (a0.length : Int) then (if ((a0.length : Int)).toNat * (24 * 3) ≤ room then (
(while_ (laws_toSideS_l1 a0) ((List.replicate ((a0.length : Int)).toNat (0, 0, false, ())), 0)).bind fun o7 =>
 some o7.1) else none) else none
def laws_toSideS_h : Hints := (.node none none .none (.node none none .none (.node none none (.node none none .none (.node none none (.node none (some ⟨[.tmpO 3 0 (.slice T_Side), .tmp 4 (.int .i64)], [some 0], none, []⟩) .none .none) .none)) .none)))
def laws_toSideS_c : Ct := .pure true false (.pair (.slice T_Side) .unit) (.slice T_Side) (fun x => laws_toSideS x.1)
theorem laws_toSideS_ct : CtOk Try.prog 66 laws_toSideS_c := pure_ct (E := { T := tab, G := [(141, laws_toSide_c)] }) (EnvOk.cons laws_toSide_ct (EnvOk.nil tabOk)) mixed (fn := Try.f66) _ _ _ _ _ laws_toSideS_h Try.func66 (by kernel_rfl) (fun x => by kernel_rfl)
def laws_toSideS_fresh_c : Ct := .pure true true (.pair (.slice T_Side) .unit) (.slice T_Side) (fun x => laws_toSideS x.1)
theorem laws_toSideS_fresh_ct : CtOk Try.prog 66 laws_toSideS_fresh_c := pure_ct (E := { T := tab, G := [(141, laws_toSide_c)] }) (EnvOk.cons laws_toSide_ct (EnvOk.nil tabOk)) mixed (fn := Try.f66) _ _ _ _ _ laws_toSideS_h Try.func66 (by kernel_rfl) (fun x => by kernel_rfl)
/-! loop.example/g00486/laws.toState -/
def laws_toState (a0 : T_State.D) : Option T_State.D :=
(laws_toPieceS a0.1).bind fun y1 =>
(laws_toSideS a0.2.1).bind fun y2 =>
 some (y1, y2, a0.2.2)
def laws_toState_c : Ct := .pure true false (.pair T_State .unit) T_State (fun x => laws_toState x.1)
theorem laws_toState_ct : CtOk Try.prog 16 laws_toState_c := pure_ct (E := { T := tab, G := [(65, laws_toPieceS_fresh_c), (66, laws_toSideS_fresh_c)] }) (EnvOk.cons laws_toPieceS_fresh_ct (EnvOk.cons laws_toSideS_fresh_ct (EnvOk.nil tabOk))) mixed (fn := Try.f16) _ _ _ _ _ .none Try.func16 (by kernel_rfl) (fun x => by kernel_rfl)
def laws_toState_fresh_c : Ct := .pure true true (.pair T_State .unit) T_State (fun x => laws_toState x.1)
theorem laws_toState_fresh_ct : CtOk Try.prog 16 laws_toState_fresh_c := pure_ct (E := { T := tab, G := [(65, laws_toPieceS_fresh_c), (66, laws_toSideS_fresh_c)] }) (EnvOk.cons laws_toPieceS_fresh_ct (EnvOk.cons laws_toSideS_fresh_ct (EnvOk.nil tabOk))) mixed (fn := Try.f16) _ _ _ _ _ .none Try.func16 (by kernel_rfl) (fun x => by kernel_rfl)
/-! loop.example/g00486/laws.toTrigger -/
def laws_toTrigger (a0 : T_Trigger.D) : Option T_Trigger.D :=
(laws_toPiece a0.2.2.2.1).bind fun y1 =>
 some (a0.1, a0.2.1, a0.2.2.1, y1, ())
def laws_toTrigger_c : Ct := .pure true false (.pair T_Trigger .unit) T_Trigger (fun x => laws_toTrigger x.1)
theorem laws_toTrigger_ct : CtOk Try.prog 122 laws_toTrigger_c := pure_ct (E := { T := tab, G := [(39, laws_toPiece_c)] }) (EnvOk.cons laws_toPiece_ct (EnvOk.nil tabOk)) mixed (fn := Try.f122) _ _ _ _ _ .none Try.func122 (by kernel_rfl) (fun x => by kernel_rfl)
/-! loop.example/g00486/laws.toTriggerS -/
def laws_toTriggerS_l1 (a0 : (List T_Trigger.D)) : ((List T_Trigger.D) × Int) → Option (((List T_Trigger.D) × Int) ⊕ ((List T_Trigger.D) × Int)) := fun s2 =>
 bif decide (s2.2 < (a0.length : Int)) then (
 idx a0 s2.2 fun x3 =>
(laws_toTrigger x3).bind fun y4 =>
 idx s2.1 s2.2 fun _ =>
(s2.1[(s2.2 : Int).toNat]?).bind fun x5 =>
 let u6 : (List T_Trigger.D) := s2.1.set (s2.2 : Int).toNat y4
 some (.inl (u6, IntKind.wrap .i64 (s2.2 + 1))))
 else (
 some (.inr s2))
def laws_toTriggerS (a0 : (List T_Trigger.D)) : Option (List T_Trigger.D) :=
 if 0 ≤ (a0.length : Int) then (if ((a0.length : Int)).toNat * (24 * 16) ≤ room then (
(while_ (laws_toTriggerS_l1 a0) ((List.replicate ((a0.length : Int)).toNat (0, 0, 0, (0, 0, 0, 0, 0, 0, 0, 0, 0, 0, 0, false, false, ()), ())), 0)).bind fun o7 =>
 some o7.1) else none) else none
def laws_toTriggerS_h : Hints := (.node none none .none (.node none none .none (.node none none (.node none none .none (.node none none (.node none (some ⟨[.tmpO 3 0 (.slice T_Trigger), .tmp 4 (.int .i64)], [some 0], none, []⟩) .none .none) .none)) .none)))
def laws_toTriggerS_c : Ct := .pure true false (.pair (.slice T_Trigger) .unit) (.slice T_Trigger) (fun x => laws_toTriggerS x.1)
theorem laws_toTriggerS_ct : CtOk Try.prog 43 laws_toTriggerS_c := pure_ct (E := { T := tab, G := [(122, laws_toTrigger_c)] }) (EnvOk.cons laws_toTrigger_ct (EnvOk.nil tabOk)) mixed (fn := Try.f43) _ _ _ _ _ laws_toTriggerS_h Try.func43 (by kernel_rfl) (fun x => by kernel_rfl)
def laws_toTriggerS_fresh_c : Ct := .pure true true (.pair (.slice T_Trigger) .unit) (.slice T_Trigger) (fun x => laws_toTriggerS x.1)
theorem laws_toTriggerS_fresh_ct : CtOk Try.prog 43 laws_toTriggerS_fresh_c := pure_ct (E := { T := tab, G := [(122, laws_toTrigger_c)] }) (EnvOk.cons laws_toTrigger_ct (EnvOk.nil tabOk)) mixed (fn := Try.f43) _ _ _ _ _ laws_toTriggerS_h Try.func43 (by kernel_rfl) (fun x => by kernel_rfl)
/-! loop.example/g00486/laws.toNote -/
def laws_toNote (a0 : T_Note.D) : Option T_Note.D :=
(laws_toEvent a0.2.1).bind fun y1 =>
(laws_toPiece a0.2.2.2.2.1).bind fun y2 =>
 some (a0.1, y1, a0.2.2.1, a0.2.2.2.1, y2, ())
def laws_toNote_c : Ct := .pure true false (.pair T_Note .unit) T_Note (fun x => laws_toNote x.1)
theorem laws_toNote_ct : CtOk Try.prog 134 laws_toNote_c := pure_ct (E := { T := tab, G := [(32, laws_toEvent_c), (39, laws_toPiece_c)] }) (EnvOk.cons laws_toEvent_ct (EnvOk.cons laws_toPiece_ct (EnvOk.nil tabOk))) mixed (fn := Try.f134) _ _ _ _ _ .none Try.func134 (by kernel_rfl) (fun x => by kernel_rfl)
/-! loop.example/g00486/laws.toNoteS -/
def laws_toNoteS_l1 (a0 : (List T_Note.D)) : ((List T_Note.D) × Int) → Option (((List T_Note.D) × Int) ⊕ ((List T_Note.D) × Int)) := fun s2 =>
 bif decide (s2.2 < (a0.length : Int)) then (
 idx a0 s2.2 fun x3 =>
(laws_toNote x3).bind fun y4 =>
 idx s2.1 s2.2 fun _ =>
(s2.1[(s2.2 : Int).toNat]?).bind fun x5 =>
 let u6 : (List T_Note.D) := s2.1.set (s2.2 : Int).toNat y4
 some (.inl (u6, IntKind.wrap .i64 (s2.2 + 1))))
 else (
 some (.inr s2))
def laws_toNoteS (a0 : (List T_Note.D)) : Option (List T_Note.D) :=
 if 0 ≤ (a0.length : Int) then (if ((a0.length : Int)).toNat * (24 * 23) ≤ room then (
(while_ (laws_toNoteS_l1 a0) ((List.replicate ((a0.length : Int)).toNat (0, (0, 0, 0, 0, 0, 0, false, ()), 0, 0, (0, 0, 0, 0, 0, 0, 0, 0, 0, 0, 0, false, false, ()), ())), 0)).bind fun o7 =>
 some o7.1) else none) else none
def laws_toNoteS_h : Hints := (.node none none .none (.node none none .none (.node none none (.node none none .none (.node none none (.node none (some ⟨[.tmpO 3 0 (.slice T_Note), .tmp 4 (.int .i64)], [some 0], none, []⟩) .none .none) .none)) .none)))
def laws_toNoteS_c : Ct := .pure true false (.pair (.slice T_Note) .unit) (.slice T_Note) (fun x => laws_toNoteS x.1)
theorem laws_toNoteS_ct : CtOk Try.prog 54 laws_toNoteS_c := pure_ct (E := { T := tab, G := [(134, laws_toNote_c)] }) (EnvOk.cons laws_toNote_ct (EnvOk.nil tabOk)) mixed (fn := Try.f54) _ _ _ _ _ laws_toNoteS_h Try.func54 (by kernel_rfl) (fun x => by kernel_rfl)
def laws_toNoteS_fresh_c : Ct := .pure true true (.pair (.slice T_Note) .unit) (.slice T_Note) (fun x => laws_toNoteS x.1)
theorem laws_toNoteS_fresh_ct : CtOk Try.prog 54 laws_toNoteS_fresh_c := pure_ct (E := { T := tab, G := [(134, laws_toNote_c)] }) (EnvOk.cons laws_toNote_ct (EnvOk.nil tabOk)) mixed (fn := Try.f54) _ _ _ _ _ laws_toNoteS_h Try.func54 (by kernel_rfl) (fun x => by kernel_rfl)
/-! loop.example/g00486/laws.toGame -/
def laws_toGame (a0 : T_Game.D) : Option T_Game.D :=
(laws_toState a0.1).bind fun y1 =>
(laws_toEffectS a0.2.1).bind fun y2 =>
(laws_toIntS a0.2.2.1).bind fun y3 =>
(laws_toTriggerS a0.2.2.2.1).bind fun y4 =>
(laws_toNoteS a0.2.2.2.2.1).bind fun y5 =>
(laws_toTurnS a0.2.2.2.2.2.1).bind fun y6 =>
 some (y1, y2, y3, y4, y5, y6, ())
def laws_toGame_c : Ct := .pure true false (.pair T_Game .unit) T_Game (fun x => laws_toGame x.1)
theorem laws_toGame_ct : CtOk Try.prog 28 laws_toGame_c := pure_ct (E := { T := tab, G := [(16, laws_toState_fresh_c), (43, laws_toTriggerS_fresh_c), (44, laws_toIntS_fresh_c), (54, laws_toNoteS_fresh_c), (74, laws_toEffectS_fresh_c), (75, laws_toTurnS_fresh_c)] }) (EnvOk.cons laws_toState_fresh_ct (EnvOk.cons laws_toTriggerS_fresh_ct (EnvOk.cons laws_toIntS_fresh_ct (EnvOk.cons laws_toNoteS_fresh_ct (EnvOk.cons laws_toEffectS_fresh_ct (EnvOk.cons laws_toTurnS_fresh_ct (EnvOk.nil tabOk))))))) mixed (fn := Try.f28) _ _ _ _ _ .none Try.func28 (by kernel_rfl) (fun x => by kernel_rfl)
def laws_toGame_fresh_c : Ct := .pure true true (.pair T_Game .unit) T_Game (fun x => laws_toGame x.1)
theorem laws_toGame_fresh_ct : CtOk Try.prog 28 laws_toGame_fresh_c := pure_ct (E := { T := tab, G := [(16, laws_toState_fresh_c), (43, laws_toTriggerS_fresh_c), (44, laws_toIntS_fresh_c), (54, laws_toNoteS_fresh_c), (74, laws_toEffectS_fresh_c), (75, laws_toTurnS_fresh_c)] }) (EnvOk.cons laws_toState_fresh_ct (EnvOk.cons laws_toTriggerS_fresh_ct (EnvOk.cons laws_toIntS_fresh_ct (EnvOk.cons laws_toNoteS_fresh_ct (EnvOk.cons laws_toEffectS_fresh_ct (EnvOk.cons laws_toTurnS_fresh_ct (EnvOk.nil tabOk))))))) mixed (fn := Try.f28) _ _ _ _ _ .none Try.func28 (by kernel_rfl) (fun x => by kernel_rfl)
/-! loop.example/g00486/spec.SameState -/
def spec_SameState_l1 (a0 : T_State.D) (a1 : T_State.D) : Int → Option (Int ⊕ (Int ⊕ Bool)) := fun s2 =>
 bif decide (s2 < (a0.1.length : Int)) then (
 idx a0.1 s2 fun x3 =>
 idx a1.1 s2 fun x4 =>
 bif (!((x3.1 == x4.1) && ((x3.2.1 == x4.2.1) && ((x3.2.2.1 == x4.2.2.1) && ((x3.2.2.2.1 == x4.2.2.2.1) && ((x3.2.2.2.2.1 == x4.2.2.2.2.1) && ((x3.2.2.2.2.2.1 == x4.2.2.2.2.2.1) && ((x3.2.2.2.2.2.2.1 == x4.2.2.2.2.2.2.1) && ((x3.2.2.2.2.2.2.2.1 == x4.2.2.2.2.2.2.2.1) && ((x3.2.2.2.2.2.2.2.2.1 == x4.2.2.2.2.2.2.2.2.1) && ((x3.2.2.2.2.2.2.2.2.2.1 == x4.2.2.2.2.2.2.2.2.2.1) && ((x3.2.2.2.2.2.2.2.2.2.2.1 == x4.2.2.2.2.2.2.2.2.2.2.1) && ((x3.2.2.2.2.2.2.2.2.2.2.2.1 == x4.2.2.2.2.2.2.2.2.2.2.2.1) && ((x3.2.2.2.2.2.2.2.2.2.2.2.2.1 == x4.2.2.2.2.2.2.2.2.2.2.2.2.1) && true)))))))))))))) then (
 some (.inr (.inr false)))
 else (
 some (.inl (IntKind.wrap .i64 (s2 + 1)))))
 else (
 some (.inr (.inl s2)))
def spec_SameState_l2 (a0 : T_State.D) (a1 : T_State.D) : Int → Option (Int ⊕ (Int ⊕ Bool)) := fun s8 =>
 bif decide (s8 < (a0.2.1.length : Int)) then (
 idx a0.2.1 s8 fun x9 =>
 idx a1.2.1 s8 fun x10 =>
 bif (!((x9.1 == x10.1) && ((x9.2.1 == x10.2.1) && ((x9.2.2.1 == x10.2.2.1) && true)))) then (
 some (.inr (.inr false)))
 else (
 some (.inl (IntKind.wrap .i64 (s8 + 1)))))
 else (
 some (.inr (.inl s8)))
def spec_SameState (a0 : T_State.D) (a1 : T_State.D) : Option Bool :=
((bif ((a0.1.length : Int) != (a1.1.length : Int)) then (
 some true)
 else (
 bif ((a0.2.1.length : Int) != (a1.2.1.length : Int)) then (
 some true)
 else (
 bif (a0.2.2.1 != a1.2.2.1) then (
 some true)
 else (
 some (a0.2.2.2.1 != a1.2.2.2.1))))) : Option Bool).bind fun o1 =>
 bif o1 then (
 some false)
 else (
(while_ (spec_SameState_l1 a0 a1) 0).bind fun o5 =>
 match o5 with
| .inl s6 => (
(while_ (spec_SameState_l2 a0 a1) 0).bind fun o11 =>
 match o11 with
| .inl s12 => (
 some true)
| .inr o13 => (
 some o13))
| .inr o7 => (
 some o7))
def spec_SameState_h : Hints := (.node none none .none (.node none none (.node none none (.node (some ⟨[.tmp 36 .bool], [none], none, []⟩) none .none .none) .none) (.node none none (.node none none .none (.node none none (.node none (some ⟨[.tmp 5 (.int .i64)], [some 0], some [.tmp 4 .bool], []⟩) .none .none) .none)) (.node none none (.node none none .none (.node none none (.node none (some ⟨[.tmp 6 (.int .i64)], [some 2], some [.tmp 4 .bool], []⟩) .none .none) .none)) .none))))
def spec_SameState_c : Ct := .pure true false (.pair T_State (.pair T_State .unit)) .bool (fun x => spec_SameState x.1 x.2.1)
theorem spec_SameState_ct : CtOk Try.prog 88 spec_SameState_c := pure_ct (E := { T := tab, G := [] }) (EnvOk.nil tabOk) mixed (fn := Try.f88) _ _ _ _ _ spec_SameState_h Try.func88 (by kernel_rfl) (fun x => by kernel_rfl)
/-! loop.example/g00486/spec.SameTriggers -/
def spec_SameTriggers_l1 (a0 : (List T_Trigger.D)) (a1 : (List T_Trigger.D)) : Int → Option (Int ⊕ (Int ⊕ Bool)) := fun s1 =>
 bif decide (s1 < (a0.length : Int)) then (
 idx a0 s1 fun x2 =>
 idx a1 s1 fun x3 =>
 bif (!((x2.1 == x3.1) && ((x2.2.1 == x3.2.1) && ((x2.2.2.1 == x3.2.2.1) && (((x2.2.2.2.1.1 == x3.2.2.2.1.1) && ((x2.2.2.2.1.2.1 == x3.2.2.2.1.2.1) && ((x2.2.2.2.1.2.2.1 == x3.2.2.2.1.2.2.1) && ((x2.2.2.2.1.2.2.2.1 == x3.2.2.2.1.2.2.2.1) && ((x2.2.2.2.1.2.2.2.2.1 == x3.2.2.2.1.2.2.2.2.1) && ((x2.2.2.2.1.2.2.2.2.2.1 == x3.2.2.2.1.2.2.2.2.2.1) && ((x2.2.2.2.1.2.2.2.2.2.2.1 == x3.2.2.2.1.2.2.2.2.2.2.1) && ((x2.2.2.2.1.2.2.2.2.2.2.2.1 == x3.2.2.2.1.2.2.2.2.2.2.2.1) && ((x2.2.2.2.1.2.2.2.2.2.2.2.2.1 == x3.2.2.2.1.2.2.2.2.2.2.2.2.1) && ((x2.2.2.2.1.2.2.2.2.2.2.2.2.2.1 == x3.2.2.2.1.2.2.2.2.2.2.2.2.2.1) && ((x2.2.2.2.1.2.2.2.2.2.2.2.2.2.2.1 == x3.2.2.2.1.2.2.2.2.2.2.2.2.2.2.1) && ((x2.2.2.2.1.2.2.2.2.2.2.2.2.2.2.2.1 == x3.2.2.2.1.2.2.2.2.2.2.2.2.2.2.2.1) && ((x2.2.2.2.1.2.2.2.2.2.2.2.2.2.2.2.2.1 == x3.2.2.2.1.2.2.2.2.2.2.2.2.2.2.2.2.1) && true))))))))))))) && true))))) then (
 some (.inr (.inr false)))
 else (
 some (.inl (IntKind.wrap .i64 (s1 + 1)))))
 else (
 some (.inr (.inl s1)))
def spec_SameTriggers (a0 : (List T_Trigger.D)) (a1 : (List T_Trigger.D)) : Option Bool :=
 bif ((a0.length : Int) != (a1.length : Int)) then (
 some false)
 else (
(while_ (spec_SameTriggers_l1 a0 a1) 0).bind fun o4 =>
 match o4 with
| .inl s5 => (
 some true)
| .inr o6 => (
 some o6))
def spec_SameTriggers_h : Hints := (.node none none .none (.node none none .none (.node none none (.node none none .none (.node none none (.node none (some ⟨[.tmp 5 (.int .i64)], [some 0], some [.tmp 4 .bool], []⟩) .none .none) .none)) .none)))
def spec_SameTriggers_c : Ct := .pure true false (.pair (.slice T_Trigger) (.pair (.slice T_Trigger) .unit)) .bool (fun x => spec_SameTriggers x.1 x.2.1)
theorem spec_SameTriggers_ct : CtOk Try.prog 89 spec_SameTriggers_c := pure_ct (E := { T := tab, G := [] }) (EnvOk.nil tabOk) mixed (fn := Try.f89) _ _ _ _ _ spec_SameTriggers_h Try.func89 (by kernel_rfl) (fun x => by kernel_rfl)
/-! loop.example/g00486/spec.SameNotes -/
def spec_SameNotes_l1 (a0 : (List T_Note.D)) (a1 : (List T_Note.D)) : Int → Option (Int ⊕ (Int ⊕ Bool)) := fun s1 =>
 bif decide (s1 < (a0.length : Int)) then (
 idx a0 s1 fun x2 =>
 idx a1 s1 fun x3 =>
 bif (!((x2.1 == x3.1) && (((x2.2.1.1 == x3.2.1.1) && ((x2.2.1.2.1 == x3.2.1.2.1) && ((x2.2.1.2.2.1 == x3.2.1.2.2.1) && ((x2.2.1.2.2.2.1 == x3.2.1.2.2.2.1) && ((x2.2.1.2.2.2.2.1 == x3.2.1.2.2.2.2.1) && ((x2.2.1.2.2.2.2.2.1 == x3.2.1.2.2.2.2.2.1) && ((x2.2.1.2.2.2.2.2.2.1 == x3.2.1.2.2.2.2.2.2.1) && true))))))) && ((x2.2.2.1 == x3.2.2.1) && ((x2.2.2.2.1 == x3.2.2.2.1) && (((x2.2.2.2.2.1.1 == x3.2.2.2.2.1.1) && ((x2.2.2.2.2.1.2.1 == x3.2.2.2.2.1.2.1) && ((x2.2.2.2.2.1.2.2.1 == x3.2.2.2.2.1.2.2.1) && ((x2.2.2.2.2.1.2.2.2.1 == x3.2.2.2.2.1.2.2.2.1) && ((x2.2.2.2.2.1.2.2.2.2.1 == x3.2.2.2.2.1.2.2.2.2.1) && ((x2.2.2.2.2.1.2.2.2.2.2.1 == x3.2.2.2.2.1.2.2.2.2.2.1) && ((x2.2.2.2.2.1.2.2.2.2.2.2.1 == x3.2.2.2.2.1.2.2.2.2.2.2.1) && ((x2.2.2.2.2.1.2.2.2.2.2.2.2.1 == x3.2.2.2.2.1.2.2.2.2.2.2.2.1) && ((x2.2.2.2.2.1.2.2.2.2.2.2.2.2.1 == x3.2.2.2.2.1.2.2.2.2.2.2.2.2.1) && ((x2.2.2.2.2.1.2.2.2.2.2.2.2.2.2.1 == x3.2.2.2.2.1.2.2.2.2.2.2.2.2.2.1) && ((x2.2.2.2.2.1.2.2.2.2.2.2.2.2.2.2.1 == x3.2.2.2.2.1.2.2.2.2.2.2.2.2.2.2.1) && ((x2.2.2.2.2.1.2.2.2.2.2.2.2.2.2.2.2.1 == x3.2.2.2.2.1.2.2.2.2.2.2.2.2.2.2.2.1) && ((x2.2.2.2.2.1.2.2.2.2.2.2.2.2.2.2.2.2.1 == x3.2.2.2.2.1.2.2.2.2.2.2.2.2.2.2.2.2.1) && true))))))))))))) && true)))))) then (
 some (.inr (.inr false)))
 else (
 some (.inl (IntKind.wrap .i64 (s1 + 1)))))
 else (
 some (.inr (.inl s1)))
def spec_SameNotes (a0 : (List T_Note.D)) (a1 : (List T_Note.D)) : Option Bool :=
 bif ((a0.length : Int) != (a1.length : Int)) then (
 some false)
 else (
(while_ (spec_SameNotes_l1 a0 a1) 0).bind fun o4 =>
 match o4 with
| .inl s5 => (
 some true)
| .inr o6 => (
 some o6))
def spec_SameNotes_h : Hints := (.node none none .none (.node none none .none (.node none none (.node none none .none (.node none none (.node none (some ⟨[.tmp 5 (.int .i64)], [some 0], some [.tmp 4 .bool], []⟩) .none .none) .none)) .none)))
def spec_SameNotes_c : Ct := .pure true false (.pair (.slice T_Note) (.pair (.slice T_Note) .unit)) .bool (fun x => spec_SameNotes x.1 x.2.1)
theorem spec_SameNotes_ct : CtOk Try.prog 90 spec_SameNotes_c := pure_ct (E := { T := tab, G := [] }) (EnvOk.nil tabOk) mixed (fn := Try.f90) _ _ _ _ _ spec_SameNotes_h Try.func90 (by kernel_rfl) (fun x => by kernel_rfl)
/-! loop.example/g00486/spec.SameGame -/
def spec_SameGame (a0 : T_Game.D) (a1 : T_Game.D) : Option Bool :=
(spec_SameState a0.1 a1.1).bind fun y1 =>
 bif y1 then (
(spec_SameTable a0.2.1 a1.2.1).bind fun y2 =>
 bif y2 then (
(spec_l15SameInts a0.2.2.1 a1.2.2.1).bind fun y3 =>
 bif y3 then (
(spec_SameTriggers a0.2.2.2.1 a1.2.2.2.1).bind fun y4 =>
 bif y4 then (
(spec_SameNotes a0.2.2.2.2.1 a1.2.2.2.2.1).bind fun y5 =>
 bif y5 then (
(spec_l15SameTurns a0.2.2.2.2.2.1 a1.2.2.2.2.2.1).bind fun y6 =>
 some y6)
 else (
 some false))
 else (
 some false))
 else (
 some false))
 else (
 some false))
 else (
 some false)
def spec_SameGame_c : Ct := .pure true false (.pair T_Game (.pair T_Game .unit)) .bool (fun x => spec_SameGame x.1 x.2.1)
theorem spec_SameGame_ct : CtOk Try.prog 27 spec_SameGame_c := pure_ct (E := { T := tab, G := [(80, spec_SameTable_c), (81, spec_l15SameInts_c), (82, spec_l15SameTurns_c), (88, spec_SameState_c), (89, spec_SameTriggers_c), (90, spec_SameNotes_c)] }) (EnvOk.cons spec_SameTable_ct (EnvOk.cons spec_l15SameInts_ct (EnvOk.cons spec_l15SameTurns_ct (EnvOk.cons spec_SameState_ct (EnvOk.cons spec_SameTriggers_ct (EnvOk.cons spec_SameNotes_ct (EnvOk.nil tabOk))))))) mixed (fn := Try.f27) _ _ _ _ _ .none Try.func27 (by kernel_rfl) (fun x => by kernel_rfl)
/-! slices.Equal[[]loop.example/g00486/impl.Piece,loop.example/g00486/impl.Piece] -/
def slices_Equal_impl_Piece_l1 (a0 : (List T_Piece.D)) (a1 : (List T_Piece.D)) : Int → Option (Int ⊕ (Int ⊕ Bool)) := fun s1 =>
 bif decide (s1 < (a0.length : Int)) then (
 idx a0 s1 fun x2 =>
 idx a1 s1 fun x3 =>
 bif (!((x2.1 == x3.1) && ((x2.2.1 == x3.2.1) && ((x2.2.2.1 == x3.2.2.1) && ((x2.2.2.2.1 == x3.2.2.2.1) && ((x2.2.2.2.2.1 == x3.2.2.2.2.1) && ((x2.2.2.2.2.2.1 == x3.2.2.2.2.2.1) && ((x2.2.2.2.2.2.2.1 == x3.2.2.2.2.2.2.1) && ((x2.2.2.2.2.2.2.2.1 == x3.2.2.2.2.2.2.2.1) && ((x2.2.2.2.2.2.2.2.2.1 == x3.2.2.2.2.2.2.2.2.1) && ((x2.2.2.2.2.2.2.2.2.2.1 == x3.2.2.2.2.2.2.2.2.2.1) && ((x2.2.2.2.2.2.2.2.2.2.2.1 == x3.2.2.2.2.2.2.2.2.2.2.1) && ((x2.2.2.2.2.2.2.2.2.2.2.2.1 == x3.2.2.2.2.2.2.2.2.2.2.2.1) && ((x2.2.2.2.2.2.2.2.2.2.2.2.2.1 == x3.2.2.2.2.2.2.2.2.2.2.2.2.1) && true)))))))))))))) then (
 some (.inr (.inr false)))
 else (
 some (.inl (IntKind.wrap .i64 (s1 + 1)))))
 else (
 some (.inr (.inl s1)))
def slices_Equal_impl_Piece (a0 : (List T_Piece.D)) (a1 : (List T_Piece.D)) : Option Bool :=
 bif ((a0.length : Int) != (a1.length : Int)) then (
 some false)
 else (
(while_ (slices_Equal_impl_Piece_l1 a0 a1) 0).bind fun o4 =>
 match o4 with
| .inl s5 => (
 some true)
| .inr o6 => (
 some o6))
def slices_Equal_impl_Piece_h : Hints := (.node none none .none (.node none none .none (.node none none (.node none none .none (.node none none (.node none (some ⟨[.tmp 13 (.int .i64)], [some 0], some [.tmp 4 .bool], []⟩) .none .none) .none)) .none)))
def slices_Equal_impl_Piece_c : Ct := .pure true false (.pair (.slice T_Piece) (.pair (.slice T_Piece) .unit)) .bool (fun x => slices_Equal_impl_Piece x.1 x.2.1)
theorem slices_Equal_impl_Piece_ct : CtOk Try.prog 156 slices_Equal_impl_Piece_c := pure_ct (E := { T := tab, G := [] }) (EnvOk.nil tabOk) mixed (fn := Try.f156) _ _ _ _ _ slices_Equal_impl_Piece_h Try.func156 (by kernel_rfl) (fun x => by kernel_rfl)
/-! slices.Equal[[]loop.example/g00486/impl.Side,loop.example/g00486/impl.Side] -/
def slices_Equal_impl_Side_l1 (a0 : (List T_Side.D)) (a1 : (List T_Side.D)) : Int → Option (Int ⊕ (Int ⊕ Bool)) := fun s1 =>
 bif decide (s1 < (a0.length : Int)) then (
 idx a0 s1 fun x2 =>
 idx a1 s1 fun x3 =>
 bif (!((x2.1 == x3.1) && ((x2.2.1 == x3.2.1) && ((x2.2.2.1 == x3.2.2.1) && true)))) then (
 some (.inr (.inr false)))
 else (
 some (.inl (IntKind.wrap .i64 (s1 + 1)))))
 else (
 some (.inr (.inl s1)))
def slices_Equal_impl_Side (a0 : (List T_Side.D)) (a1 : (List T_Side.D)) : Option Bool :=
 bif ((a0.length : Int) != (a1.length : Int)) then (
 some false)
 else (
(while_ (slices_Equal_impl_Side_l1 a0 a1) 0).bind fun o4 =>
 match o4 with
| .inl s5 => (
 some true)
| .inr o6 => (
 some o6))
def slices_Equal_impl_Side_h : Hints := (.node none none .none (.node none none .none (.node none none (.node none none .none (.node none none (.node none (some ⟨[.tmp 13 (.int .i64)], [some 0], some [.tmp 4 .bool], []⟩) .none .none) .none)) .none)))
def slices_Equal_impl_Side_c : Ct := .pure true false (.pair (.slice T_Side) (.pair (.slice T_Side) .unit)) .bool (fun x => slices_Equal_impl_Side x.1 x.2.1)
theorem slices_Equal_impl_Side_ct : CtOk Try.prog 157 slices_Equal_impl_Side_c := pure_ct (E := { T := tab, G := [] }) (EnvOk.nil tabOk) mixed (fn := Try.f157) _ _ _ _ _ slices_Equal_impl_Side_h Try.func157 (by kernel_rfl) (fun x => by kernel_rfl)
/-! loop.example/g00486/impl.SameState -/
def impl_SameState (a0 : T_State.D) (a1 : T_State.D) : Option Bool :=
 bif (a0.2.2.1 == a1.2.2.1) then (
 bif (a0.2.2.2.1 == a1.2.2.2.1) then (
(slices_Equal_impl_Piece a0.1 a1.1).bind fun y1 =>
 bif y1 then (
(slices_Equal_impl_Side a0.2.1 a1.2.1).bind fun y2 =>
 some y2)
 else (
 some false))
 else (
 some false))
 else (
 some false)
def impl_SameState_c : Ct := .pure true false (.pair T_State (.pair T_State .unit)) .bool (fun x => impl_SameState x.1 x.2.1)
theorem impl_SameState_ct : CtOk Try.prog 91 impl_SameState_c := pure_ct (E := { T := tab, G := [(156, slices_Equal_impl_Piece_c), (157, slices_Equal_impl_Side_c)] }) (EnvOk.cons slices_Equal_impl_Piece_ct (EnvOk.cons slices_Equal_impl_Side_ct (EnvOk.nil tabOk))) mixed (fn := Try.f91) _ _ _ _ _ .none Try.func91 (by kernel_rfl) (fun x => by kernel_rfl)
/-! slices.Equal[[]loop.example/g00486/impl.Trigger,loop.example/g00486/impl.Trigger] -/
def slices_Equal_impl_Trigger_l1 (a0 : (List T_Trigger.D)) (a1 : (List T_Trigger.D)) : Int → Option (Int ⊕ (Int ⊕ Bool)) := fun s1 =>
 bif decide (s1 < (a0.length : Int)) then (
 idx a0 s1 fun x2 =>
 idx a1 s1 fun x3 =>
 bif (!((x2.1 == x3.1) && ((x2.2.1 == x3.2.1) && ((x2.2.2.1 == x3.2.2.1) && (((x2.2.2.2.1.1 == x3.2.2.2.1.1) && ((x2.2.2.2.1.2.1 == x3.2.2.2.1.2.1) && ((x2.2.2.2.1.2.2.1 == x3.2.2.2.1.2.2.1) && ((x2.2.2.2.1.2.2.2.1 == x3.2.2.2.1.2.2.2.1) && ((x2.2.2.2.1.2.2.2.2.1 == x3.2.2.2.1.2.2.2.2.1) && ((x2.2.2.2.1.2.2.2.2.2.1 == x3.2.2.2.1.2.2.2.2.2.1) && ((x2.2.2.2.1.2.2.2.2.2.2.1 == x3.2.2.2.1.2.2.2.2.2.2.1) && ((x2.2.2.2.1.2.2.2.2.2.2.2.1 == x3.2.2.2.1.2.2.2.2.2.2.2.1) && ((x2.2.2.2.1.2.2.2.2.2.2.2.2.1 == x3.2.2.2.1.2.2.2.2.2.2.2.2.1) && ((x2.2.2.2.1.2.2.2.2.2.2.2.2.2.1 == x3.2.2.2.1.2.2.2.2.2.2.2.2.2.1) && ((x2.2.2.2.1.2.2.2.2.2.2.2.2.2.2.1 == x3.2.2.2.1.2.2.2.2.2.2.2.2.2.2.1) && ((x2.2.2.2.1.2.2.2.2.2.2.2.2.2.2.2.1 == x3.2.2.2.1.2.2.2.2.2.2.2.2.2.2.2.1) && ((x2.2.2.2.1.2.2.2.2.2.2.2.2.2.2.2.2.1 == x3.2.2.2.1.2.2.2.2.2.2.2.2.2.2.2.2.1) && true))))))))))))) && true))))) then (
 some (.inr (.inr false)))
 else (
 some (.inl (IntKind.wrap .i64 (s1 + 1)))))
 else (
 some (.inr (.inl s1)))
def slices_Equal_impl_Trigger (a0 : (List T_Trigger.D)) (a1 : (List T_Trigger.D)) : Option Bool :=
 bif ((a0.length : Int) != (a1.length : Int)) then (
 some false)
 else (
(while_ (slices_Equal_impl_Trigger_l1 a0 a1) 0).bind fun o4 =>
 match o4 with
| .inl s5 => (
 some true)
| .inr o6 => (
 some o6))
def slices_Equal_impl_Trigger_h : Hints := (.node none none .none (.node none none .none (.node none none (.node none none .none (.node none none (.node none (some ⟨[.tmp 13 (.int .i64)], [some 0], some [.tmp 4 .bool], []⟩) .none .none) .none)) .none)))
def slices_Equal_impl_Trigger_c : Ct := .pure true false (.pair (.slice T_Trigger) (.pair (.slice T_Trigger) .unit)) .bool (fun x => slices_Equal_impl_Trigger x.1 x.2.1)
theorem slices_Equal_impl_Trigger_ct : CtOk Try.prog 158 slices_Equal_impl_Trigger_c := pure_ct (E := { T := tab, G := [] }) (EnvOk.nil tabOk) mixed (fn := Try.f158) _ _ _ _ _ slices_Equal_impl_Trigger_h Try.func158 (by kernel_rfl) (fun x => by kernel_rfl)
/-! loop.example/g00486/impl.SameTriggers -/
def impl_SameTriggers (a0 : (List T_Trigger.D)) (a1 : (List T_Trigger.D)) : Option Bool :=
(slices_Equal_impl_Trigger a0 a1).bind fun y1 =>
 some y1
def impl_SameTriggers_c : Ct := .pure true false (.pair (.slice T_Trigger) (.pair (.slice T_Trigger) .unit)) .bool (fun x => impl_SameTriggers x.1 x.2.1)
theorem impl_SameTriggers_ct : CtOk Try.prog 92 impl_SameTriggers_c := pure_ct (E := { T := tab, G := [(158, slices_Equal_impl_Trigger_c)] }) (EnvOk.cons slices_Equal_impl_Trigger_ct (EnvOk.nil tabOk)) mixed (fn := Try.f92) _ _ _ _ _ .none Try.func92 (by kernel_rfl) (fun x => by kernel_rfl)
/-! slices.Equal[[]loop.example/g00486/impl.Note,loop.example/g00486/impl.Note] -/
def slices_Equal_impl_Note_l1 (a0 : (List T_Note.D)) (a1 : (List T_Note.D)) : Int → Option (Int ⊕ (Int ⊕ Bool)) := fun s1 =>
 bif decide (s1 < (a0.length : Int)) then (
 idx a0 s1 fun x2 =>
 idx a1 s1 fun x3 =>
 bif (!((x2.1 == x3.1) && (((x2.2.1.1 == x3.2.1.1) && ((x2.2.1.2.1 == x3.2.1.2.1) && ((x2.2.1.2.2.1 == x3.2.1.2.2.1) && ((x2.2.1.2.2.2.1 == x3.2.1.2.2.2.1) && ((x2.2.1.2.2.2.2.1 == x3.2.1.2.2.2.2.1) && ((x2.2.1.2.2.2.2.2.1 == x3.2.1.2.2.2.2.2.1) && ((x2.2.1.2.2.2.2.2.2.1 == x3.2.1.2.2.2.2.2.2.1) && true))))))) && ((x2.2.2.1 == x3.2.2.1) && ((x2.2.2.2.1 == x3.2.2.2.1) && (((x2.2.2.2.2.1.1 == x3.2.2.2.2.1.1) && ((x2.2.2.2.2.1.2.1 == x3.2.2.2.2.1.2.1) && ((x2.2.2.2.2.1.2.2.1 == x3.2.2.2.2.1.2.2.1) && ((x2.2.2.2.2.1.2.2.2.1 == x3.2.2.2.2.1.2.2.2.1) && ((x2.2.2.2.2.1.2.2.2.2.1 == x3.2.2.2.2.1.2.2.2.2.1) && ((x2.2.2.2.2.1.2.2.2.2.2.1 == x3.2.2.2.2.1.2.2.2.2.2.1) && ((x2.2.2.2.2.1.2.2.2.2.2.2.1 == x3.2.2.2.2.1.2.2.2.2.2.2.1) && ((x2.2.2.2.2.1.2.2.2.2.2.2.2.1 == x3.2.2.2.2.1.2.2.2.2.2.2.2.1) && ((x2.2.2.2.2.1.2.2.2.2.2.2.2.2.1 == x3.2.2.2.2.1.2.2.2.2.2.2.2.2.1) && ((x2.2.2.2.2.1.2.2.2.2.2.2.2.2.2.1 == x3.2.2.2.2.1.2.2.2.2.2.2.2.2.2.1) && ((x2.2.2.2.2.1.2.2.2.2.2.2.2.2.2.2.1 == x3.2.2.2.2.1.2.2.2.2.2.2.2.2.2.2.1) && ((x2.2.2.2.2.1.2.2.2.2.2.2.2.2.2.2.2.1 == x3.2.2.2.2.1.2.2.2.2.2.2.2.2.2.2.2.1) && ((x2.2.2.2.2.1.2.2.2.2.2.2.2.2.2.2.2.2.1 == x3.2.2.2.2.1.2.2.2.2.2.2.2.2.2.2.2.2.1) && true))))))))))))) && true)))))) then (
 some (.inr (.inr false)))
 else (
 some (.inl (IntKind.wrap .i64 (s1 + 1)))))
 else (
 some (.inr (.inl s1)))
def slices_Equal_impl_Note (a0 : (List T_Note.D)) (a1 : (List T_Note.D)) : Option Bool :=
 bif ((a0.length : Int) != (a1.length : Int)) then (
 some false)
 else (
(while_ (slices_Equal_impl_Note_l1 a0 a1) 0).bind fun o4 =>
 match o4 with
| .inl s5 => (
 some true)
| .inr o6 => (
 some o6))
def slices_Equal_impl_Note_h : Hints := (.node none none .none (.node none none .none (.node none none (.node none none .none (.node none none (.node none (some ⟨[.tmp 13 (.int .i64)], [some 0], some [.tmp 4 .bool], []⟩) .none .none) .none)) .none)))
def slices_Equal_impl_Note_c : Ct := .pure true false (.pair (.slice T_Note) (.pair (.slice T_Note) .unit)) .bool (fun x => slices_Equal_impl_Note x.1 x.2.1)
theorem slices_Equal_impl_Note_ct : CtOk Try.prog 159 slices_Equal_impl_Note_c := pure_ct (E := { T := tab, G := [] }) (EnvOk.nil tabOk) mixed (fn := Try.f159) _ _ _ _ _ slices_Equal_impl_Note_h Try.func159 (by kernel_rfl) (fun x => by kernel_rfl)
/-! loop.example/g00486/impl.SameNotes -/
def impl_SameNotes (a0 : (List T_Note.D)) (a1 : (List T_Note.D)) : Option Bool :=
(slices_Equal_impl_Note a0 a1).bind fun y1 =>
 some y1
def impl_SameNotes_c : Ct := .pure true false (.pair (.slice T_Note) (.pair (.slice T_Note) .unit)) .bool (fun x => impl_SameNotes x.1 x.2.1)
theorem impl_SameNotes_ct : CtOk Try.prog 93 impl_SameNotes_c := pure_ct (E := { T := tab, G := [(159, slices_Equal_impl_Note_c)] }) (EnvOk.cons slices_Equal_impl_Note_ct (EnvOk.nil tabOk)) mixed (fn := Try.f93) _ _ _ _ _ .none Try.func93 (by kernel_rfl) (fun x => by kernel_rfl)
/-! loop.example/g00486/impl.SameGame -/
def impl_SameGame (a0 : T_Game.D) (a1 : T_Game.D) : Option Bool :=
(impl_SameState a0.1 a1.1).bind fun y1 =>
 bif y1 then (
(impl_SameTable a0.2.1 a1.2.1).bind fun y2 =>
 bif y2 then (
(slices_Equal_int a0.2.2.1 a1.2.2.1).bind fun y3 =>
 bif y3 then (
(impl_SameTriggers a0.2.2.2.1 a1.2.2.2.1).bind fun y4 =>
 bif y4 then (
(impl_SameNotes a0.2.2.2.2.1 a1.2.2.2.2.1).bind fun y5 =>
 bif y5 then (
(slices_EqualFunc_impl_Turn a0.2.2.2.2.2.1 a1.2.2.2.2.2.1 (fun q => impl_SameTurn q.1 q.2.1)).bind fun y6 =>
 some y6)
 else (
 some false))
 else (
 some false))
 else (
 some false))
 else (
 some false))
 else (
 some false)
def impl_SameGame_c : Ct := .pure true false (.pair T_Game (.pair T_Game .unit)) .bool (fun x => impl_SameGame x.1 x.2.1)
theorem impl_SameGame_ct : CtOk Try.prog 29 impl_SameGame_c := pure_ct (E := { T := tab, G := [(84, impl_SameTable_c), (85, slices_Equal_int_c), (86, slices_EqualFunc_impl_Turn_c), (87, impl_SameTurn_c), (91, impl_SameState_c), (92, impl_SameTriggers_c), (93, impl_SameNotes_c)] }) (EnvOk.cons impl_SameTable_ct (EnvOk.cons slices_Equal_int_ct (EnvOk.cons slices_EqualFunc_impl_Turn_ct (EnvOk.cons impl_SameTurn_ct (EnvOk.cons impl_SameState_ct (EnvOk.cons impl_SameTriggers_ct (EnvOk.cons impl_SameNotes_ct (EnvOk.nil tabOk)))))))) mixed (fn := Try.f29) _ _ _ _ _ .none Try.func29 (by kernel_rfl) (fun x => by kernel_rfl)
/-! loop.example/g00486/laws.eqPiece -/
def laws_eqPiece (a0 : T_Piece.D) (a1 : T_Piece.D) : Option Bool :=
 bif (a0.1 != a1.1) then (
 some false)
 else (
 bif (a0.2.1 != a1.2.1) then (
 some false)
 else (
 bif (a0.2.2.1 != a1.2.2.1) then (
 some false)
 else (
 bif (a0.2.2.2.1 != a1.2.2.2.1) then (
 some false)
 else (
 bif (a0.2.2.2.2.1 != a1.2.2.2.2.1) then (
 some false)
 else (
 bif (a0.2.2.2.2.2.1 != a1.2.2.2.2.2.1) then (
 some false)
 else (
 bif (a0.2.2.2.2.2.2.1 != a1.2.2.2.2.2.2.1) then (
 some false)
 else (
 bif (a0.2.2.2.2.2.2.2.1 != a1.2.2.2.2.2.2.2.1) then (
 some false)
 else (
 bif (a0.2.2.2.2.2.2.2.2.1 != a1.2.2.2.2.2.2.2.2.1) then (
 some false)
 else (
 bif (a0.2.2.2.2.2.2.2.2.2.1 != a1.2.2.2.2.2.2.2.2.2.1) then (
 some false)
 else (
 bif (a0.2.2.2.2.2.2.2.2.2.2.1 != a1.2.2.2.2.2.2.2.2.2.2.1) then (
 some false)
 else (
 bif (a0.2.2.2.2.2.2.2.2.2.2.2.1 != a1.2.2.2.2.2.2.2.2.2.2.2.1) then (
 some false)
 else (
 bif (a0.2.2.2.2.2.2.2.2.2.2.2.2.1 != a1.2.2.2.2.2.2.2.2.2.2.2.2.1) then (
 some false)
 else (
 some true)))))))))))))
def laws_eqPiece_c : Ct := .pure true false (.pair T_Piece (.pair T_Piece .unit)) .bool (fun x => laws_eqPiece x.1 x.2.1)
theorem laws_eqPiece_ct : CtOk Try.prog 142 laws_eqPiece_c := pure_ct (E := { T := tab, G := [] }) (EnvOk.nil tabOk) mixed (fn := Try.f142) _ _ _ _ _ .none Try.func142 (by kernel_rfl) (fun x => by kernel_rfl)
/-! loop.example/g00486/laws.eqPieceS -/
def laws_eqPieceS_l1 (a0 : (List T_Piece.D)) (a1 : (List T_Piece.D)) : Int → Option (Int ⊕ (Int ⊕ Bool)) := fun s1 =>
 bif decide (s1 < (a0.length : Int)) then (
 idx a0 s1 fun x2 =>
 idx a1 s1 fun x3 =>
(laws_eqPiece x2 x3).bind fun y4 =>
 bif (!y4) then (
 some (.inr (.inr false)))
 else (
 some (.inl (IntKind.wrap .i64 (s1 + 1)))))
 else (
 some (.inr (.inl s1)))
def laws_eqPieceS (a0 : (List T_Piece.D)) (a1 : (List T_Piece.D)) : Option Bool :=
 bif ((a0.length : Int) != (a1.length : Int)) then (
 some false)
 else (
(while_ (laws_eqPieceS_l1 a0 a1) 0).bind fun o5 =>
 match o5 with
| .inl s6 => (
 some true)
| .inr o7 => (
 some o7))
def laws_eqPieceS_h : Hints := (.node none none .none (.node none none .none (.node none none (.node none none .none (.node none none (.node none (some ⟨[.tmp 5 (.int .i64)], [some 0], some [.tmp 4 .bool], []⟩) .none .none) .none)) .none)))
def laws_eqPieceS_c : Ct := .pure true false (.pair (.slice T_Piece) (.pair (.slice T_Piece) .unit)) .bool (fun x => laws_eqPieceS x.1 x.2.1)
theorem laws_eqPieceS_ct : CtOk Try.prog 67 laws_eqPieceS_c := pure_ct (E := { T := tab, G := [(142, laws_eqPiece_c)] }) (EnvOk.cons laws_eqPiece_ct (EnvOk.nil tabOk)) mixed (fn := Try.f67) _ _ _ _ _ laws_eqPieceS_h Try.func67 (by kernel_rfl) (fun x => by kernel_rfl)
/-! loop.example/g00486/laws.eqSide -/
def laws_eqSide (a0 : T_Side.D) (a1 : T_Side.D) : Option Bool :=
 bif (a0.1 != a1.1) then (
 some false)
 else (
 bif (a0.2.1 != a1.2.1) then (
 some false)
 else (
 bif (a0.2.2.1 != a1.2.2.1) then (
 some false)
 else (
 some true)))
def laws_eqSide_c : Ct := .pure true false (.pair T_Side (.pair T_Side .unit)) .bool (fun x => laws_eqSide x.1 x.2.1)
theorem laws_eqSide_ct : CtOk Try.prog 143 laws_eqSide_c := pure_ct (E := { T := tab, G := [] }) (EnvOk.nil tabOk) mixed (fn := Try.f143) _ _ _ _ _ .none Try.func143 (by kernel_rfl) (fun x => by kernel_rfl)
/-! loop.example/g00486/laws.eqSideS -/
def laws_eqSideS_l1 (a0 : (List T_Side.D)) (a1 : (List T_Side.D)) : Int → Option (Int ⊕ (Int ⊕ Bool)) := fun s1 =>
 bif decide (s1 < (a0.length : Int)) then (
 idx a0 s1 fun x2 =>
 idx a1 s1 fun x3 =>
(laws_eqSide x2 x3).bind fun y4 =>
 bif (!y4) then (
 some (.inr (.inr false)))
 else (
 some (.inl (IntKind.wrap .i64 (s1 + 1)))))
 else (
 some (.inr (.inl s1)))
def laws_eqSideS (a0 : (List T_Side.D)) (a1 : (List T_Side.D)) : Option Bool :=
 bif ((a0.length : Int) != (a1.length : Int)) then (
 some false)
 else (
(while_ (laws_eqSideS_l1 a0 a1) 0).bind fun o5 =>
 match o5 with
| .inl s6 => (
 some true)
| .inr o7 => (
 some o7))
def laws_eqSideS_h : Hints := (.node none none .none (.node none none .none (.node none none (.node none none .none (.node none none (.node none (some ⟨[.tmp 5 (.int .i64)], [some 0], some [.tmp 4 .bool], []⟩) .none .none) .none)) .none)))
def laws_eqSideS_c : Ct := .pure true false (.pair (.slice T_Side) (.pair (.slice T_Side) .unit)) .bool (fun x => laws_eqSideS x.1 x.2.1)
theorem laws_eqSideS_ct : CtOk Try.prog 68 laws_eqSideS_c := pure_ct (E := { T := tab, G := [(143, laws_eqSide_c)] }) (EnvOk.cons laws_eqSide_ct (EnvOk.nil tabOk)) mixed (fn := Try.f68) _ _ _ _ _ laws_eqSideS_h Try.func68 (by kernel_rfl) (fun x => by kernel_rfl)
/-! loop.example/g00486/laws.eqState -/
def laws_eqState (a0 : T_State.D) (a1 : T_State.D) : Option Bool :=
(laws_eqPieceS a0.1 a1.1).bind fun y1 =>
 bif (!y1) then (
 some false)
 else (
(laws_eqSideS a0.2.1 a1.2.1).bind fun y2 =>
 bif (!y2) then (
 some false)
 else (
 bif (a0.2.2.1 != a1.2.2.1) then (
 some false)
 else (
 bif (a0.2.2.2.1 != a1.2.2.2.1) then (
 some false)
 else (
 some true))))
def laws_eqState_c : Ct := .pure true false (.pair T_State (.pair T_State .unit)) .bool (fun x => laws_eqState x.1 x.2.1)
theorem laws_eqState_ct : CtOk Try.prog 18 laws_eqState_c := pure_ct (E := { T := tab, G := [(67, laws_eqPieceS_c), (68, laws_eqSideS_c)] }) (EnvOk.cons laws_eqPieceS_ct (EnvOk.cons laws_eqSideS_ct (EnvOk.nil tabOk))) mixed (fn := Try.f18) _ _ _ _ _ .none Try.func18 (by kernel_rfl) (fun x => by kernel_rfl)
/-! loop.example/g00486/laws.eqTrigger -/
def laws_eqTrigger (a0 : T_Trigger.D) (a1 : T_Trigger.D) : Option Bool :=
 bif (a0.1 != a1.1) then (
 some false)
 else (
 bif (a0.2.1 != a1.2.1) then (
 some false)
 else (
 bif (a0.2.2.1 != a1.2.2.1) then (
 some false)
 else (
(laws_eqPiece a0.2.2.2.1 a1.2.2.2.1).bind fun y1 =>
 bif (!y1) then (
 some false)
 else (
 some true))))
def laws_eqTrigger_c : Ct := .pure true false (.pair T_Trigger (.pair T_Trigger .unit)) .bool (fun x => laws_eqTrigger x.1 x.2.1)
theorem laws_eqTrigger_ct : CtOk Try.prog 131 laws_eqTrigger_c := pure_ct (E := { T := tab, G := [(142, laws_eqPiece_c)] }) (EnvOk.cons laws_eqPiece_ct (EnvOk.nil tabOk)) mixed (fn := Try.f131) _ _ _ _ _ .none Try.func131 (by kernel_rfl) (fun x => by kernel_rfl)
/-! loop.example/g00486/laws.eqTriggerS -/
def laws_eqTriggerS_l1 (a0 : (List T_Trigger.D)) (a1 : (List T_Trigger.D)) : Int → Option (Int ⊕ (Int ⊕ Bool)) := fun s1 =>
 bif decide (s1 < (a0.length : Int)) then (
 idx a0 s1 fun x2 =>
 idx a1 s1 fun x3 =>
(laws_eqTrigger x2 x3).bind fun y4 =>
 bif (!y4) then (
 some (.inr (.inr false)))
 else (
 some (.inl (IntKind.wrap .i64 (s1 + 1)))))
 else (
 some (.inr (.inl s1)))
def laws_eqTriggerS (a0 : (List T_Trigger.D)) (a1 : (List T_Trigger.D)) : Option Bool :=
 bif ((a0.length : Int) != (a1.length : Int)) then (
 some false)
 else (
(while_ (laws_eqTriggerS_l1 a0 a1) 0).bind fun o5 =>
 match o5 with
| .inl s6 => (
 some true)
| .inr o7 => (
 some o7))
def laws_eqTriggerS_h : Hints := (.node none none .none (.node none none .none (.node none none (.node none none .none (.node none none (.node none (some ⟨[.tmp 5 (.int .i64)], [some 0], some [.tmp 4 .bool], []⟩) .none .none) .none)) .none)))
def laws_eqTriggerS_c : Ct := .pure true false (.pair (.slice T_Trigger) (.pair (.slice T_Trigger) .unit)) .bool (fun x => laws_eqTriggerS x.1 x.2.1)
theorem laws_eqTriggerS_ct : CtOk Try.prog 46 laws_eqTriggerS_c := pure_ct (E := { T := tab, G := [(131, laws_eqTrigger_c)] }) (EnvOk.cons laws_eqTrigger_ct (EnvOk.nil tabOk)) mixed (fn := Try.f46) _ _ _ _ _ laws_eqTriggerS_h Try.func46 (by kernel_rfl) (fun x => by kernel_rfl)
/-! loop.example/g00486/laws.eqNote -/
def laws_eqNote (a0 : T_Note.D) (a1 : T_Note.D) : Option Bool :=
 bif (a0.1 != a1.1) then (
 some false)
 else (
(laws_eqEvent a0.2.1 a1.2.1).bind fun y1 =>
 bif (!y1) then (
 some false)
 else (
 bif (a0.2.2.1 != a1.2.2.1) then (
 some false)
 else (
 bif (a0.2.2.2.1 != a1.2.2.2.1) then (
 some false)
 else (
(laws_eqPiece a0.2.2.2.2.1 a1.2.2.2.2.1).bind fun y2 =>
 bif (!y2) then (
 some false)
 else (
 some true)))))
def laws_eqNote_c : Ct := .pure true false (.pair T_Note (.pair T_Note .unit)) .bool (fun x => laws_eqNote x.1 x.2.1)
theorem laws_eqNote_ct : CtOk Try.prog 137 laws_eqNote_c := pure_ct (E := { T := tab, G := [(142, laws_eqPiece_c), (148, laws_eqEvent_c)] }) (EnvOk.cons laws_eqPiece_ct (EnvOk.cons laws_eqEvent_ct (EnvOk.nil tabOk))) mixed (fn := Try.f137) _ _ _ _ _ .none Try.func137 (by kernel_rfl) (fun x => by kernel_rfl)
/-! loop.example/g00486/laws.eqNoteS -/
def laws_eqNoteS_l1 (a0 : (List T_Note.D)) (a1 : (List T_Note.D)) : Int → Option (Int ⊕ (Int ⊕ Bool)) := fun s1 =>
 bif decide (s1 < (a0.length : Int)) then (
 idx a0 s1 fun x2 =>
 idx a1 s1 fun x3 =>
(laws_eqNote x2 x3).bind fun y4 =>
 bif (!y4) then (
 some (.inr (.inr false)))
 else (
 some (.inl (IntKind.wrap .i64 (s1 + 1)))))
 else (
 some (.inr (.inl s1)))
def laws_eqNoteS (a0 : (List T_Note.D)) (a1 : (List T_Note.D)) : Option Bool :=
 bif ((a0.length : Int) != (a1.length : Int)) then (
 some false)
 else (
(while_ (laws_eqNoteS_l1 a0 a1) 0).bind fun o5 =>
 match o5 with
| .inl s6 => (
 some true)
| .inr o7 => (
 some o7))
def laws_eqNoteS_h : Hints := (.node none none .none (.node none none .none (.node none none (.node none none .none (.node none none (.node none (some ⟨[.tmp 5 (.int .i64)], [some 0], some [.tmp 4 .bool], []⟩) .none .none) .none)) .none)))
def laws_eqNoteS_c : Ct := .pure true false (.pair (.slice T_Note) (.pair (.slice T_Note) .unit)) .bool (fun x => laws_eqNoteS x.1 x.2.1)
theorem laws_eqNoteS_ct : CtOk Try.prog 56 laws_eqNoteS_c := pure_ct (E := { T := tab, G := [(137, laws_eqNote_c)] }) (EnvOk.cons laws_eqNote_ct (EnvOk.nil tabOk)) mixed (fn := Try.f56) _ _ _ _ _ laws_eqNoteS_h Try.func56 (by kernel_rfl) (fun x => by kernel_rfl)
/-! loop.example/g00486/laws.eqGame -/
def laws_eqGame (a0 : T_Game.D) (a1 : T_Game.D) : Option Bool :=
(laws_eqState a0.1 a1.1).bind fun y1 =>
 bif (!y1) then (
 some false)
 else (
(laws_eqEffectS a0.2.1 a1.2.1).bind fun y2 =>
 bif (!y2) then (
 some false)
 else (
(laws_eqIntS a0.2.2.1 a1.2.2.1).bind fun y3 =>
 bif (!y3) then (
 some false)
 else (
(laws_eqTriggerS a0.2.2.2.1 a1.2.2.2.1).bind fun y4 =>
 bif (!y4) then (
 some false)
 else (
(laws_eqNoteS a0.2.2.2.2.1 a1.2.2.2.2.1).bind fun y5 =>
 bif (!y5) then (
 some false)
 else (
(laws_eqTurnS a0.2.2.2.2.2.1 a1.2.2.2.2.2.1).bind fun y6 =>
 bif (!y6) then (
 some false)
 else (
 some true))))))
def laws_eqGame_c : Ct := .pure true false (.pair T_Game (.pair T_Game .unit)) .bool (fun x => laws_eqGame x.1 x.2.1)
theorem laws_eqGame_ct : CtOk Try.prog 30 laws_eqGame_c := pure_ct (E := { T := tab, G := [(18, laws_eqState_c), (46, laws_eqTriggerS_c), (47, laws_eqIntS_c), (56, laws_eqNoteS_c), (77, laws_eqEffectS_c), (78, laws_eqTurnS_c)] }) (EnvOk.cons laws_eqState_ct (EnvOk.cons laws_eqTriggerS_ct (EnvOk.cons laws_eqIntS_ct (EnvOk.cons laws_eqNoteS_ct (EnvOk.cons laws_eqEffectS_ct (EnvOk.cons laws_eqTurnS_ct (EnvOk.nil tabOk))))))) mixed (fn := Try.f30) _ _ _ _ _ .none Try.func30 (by kernel_rfl) (fun x => by kernel_rfl)
/-! loop.example/g00486/laws.FnExactSameGame -/
def laws_FnExactSameGame (a0 : T_Game.D) (a1 : T_Game.D) : Option Bool :=
(laws_szGame a0 1048576).bind fun y1 =>
 bif decide (y1 < 0) then (
 some true)
 else (
(laws_szGame a1 y1).bind fun y2 =>
 bif decide (y2 < 0) then (
 some true)
 else (
(laws_toGame a0).bind fun y3 =>
(laws_toGame a1).bind fun y4 =>
(spec_SameGame y3 y4).bind fun y5 =>
(laws_toGame a0).bind fun y6 =>
(laws_toGame a1).bind fun y7 =>
(impl_SameGame y6 y7).bind fun y8 =>
 bif (y8 != y5) then (
 some false)
 else (
(laws_toGame a0).bind fun y9 =>
(laws_eqGame y6 y9).bind fun y10 =>
 bif (!y10) then (
 some false)
 else (
(laws_toGame a1).bind fun y11 =>
(laws_eqGame y7 y11).bind fun y12 =>
 bif (!y12) then (
 some false)
 else (
 some true)))))
def laws_FnExactSameGame_c : Ct := .pure true false (.pair T_Game (.pair T_Game .unit)) .bool (fun x => laws_FnExactSameGame x.1 x.2.1)
theorem laws_FnExactSameGame_ct : CtOk Try.prog 6 laws_FnExactSameGame_c := pure_ct (E := { T := tab, G := [(26, laws_szGame_c), (27, spec_SameGame_c), (28, laws_toGame_fresh_c), (29, impl_SameGame_c), (30, laws_eqGame_c)] }) (EnvOk.cons laws_szGame_ct (EnvOk.cons spec_SameGame_ct (EnvOk.cons laws_toGame_fresh_ct (EnvOk.cons impl_SameGame_ct (EnvOk.cons laws_eqGame_ct (EnvOk.nil tabOk)))))) mixed (fn := Try.f6) _ _ _ _ _ .none Try.func6 (by kernel_rfl) (fun x => by kernel_rfl)
end
end Go.Abs
