import Derived.Test.YtocdfakhhnbagaaProg
import Derived.Test.YtocdfakhhnbagaaAbsTab
set_option linter.unusedVariables false
set_option linter.unusedSimpArgs false
namespace Go.Abs
open Go.Proofs
set_option maxRecDepth 100000
noncomputable section
@[reducible] def T_Piece : Ty := (.pair (.int .i64) (.pair (.int .i64) (.pair (.int .i64) (.pair (.int .i64) (.pair (.int .i64) (.pair (.int .i64) (.pair (.int .i64) (.pair (.int .i64) (.pair (.int .i64) (.pair (.int .i64) (.pair (.int .i64) (.pair .bool (.pair .bool .unit)))))))))))))
@[reducible] def T_Side : Ty := (.pair (.int .i64) (.pair (.int .i64) (.pair .bool .unit)))
@[reducible] def T_State : Ty := (.pair (.slice T_Piece) (.pair (.slice T_Side) (.pair (.int .i64) (.pair (.int .i64) .unit))))
@[reducible] def T_Trigger : Ty := (.pair (.int .i64) (.pair (.int .i64) (.pair (.int .i64) (.pair T_Piece .unit))))
@[reducible] def T_Event : Ty := (.pair (.int .i64) (.pair (.int .i64) (.pair (.int .i64) (.pair (.int .i64) (.pair (.int .i64) (.pair (.int .i64) (.pair .bool .unit)))))))
@[reducible] def T_Note : Ty := (.pair (.int .i64) (.pair T_Event (.pair (.int .i64) (.pair (.int .i64) (.pair T_Piece .unit)))))
@[reducible] def T_S7 : Ty := (.pair (.int .i64) (.pair (.int .i64) (.pair .bool (.pair (.int .u8) .unit))))
@[reducible] def T_Pat : Ty := (.pair (.int .i64) (.pair (.int .i64) (.pair (.int .i64) (.pair (.int .i64) (.pair (.int .i64) (.pair (.int .i64) (.pair (.int .i64) .unit)))))))
@[reducible] def T_Guard : Ty := (.pair (.int .i64) (.pair (.int .i64) .unit))
@[reducible] def T_Act : Ty := (.pair (.int .i64) (.pair (.int .i64) (.pair (.int .i64) (.pair (.int .i64) (.pair (.int .i64) (.pair .bool (.pair (.slice T_Event) .unit)))))))
@[reducible] def T_Effect : Ty := (.pair (.int .i64) (.pair (.int .i64) (.pair (.int .i64) (.pair (.int .i64) (.pair T_Pat (.pair T_Guard (.pair T_Act (.pair (.int .i64) (.pair (.int .i64) .unit)))))))))
@[reducible] def T_Turn : Ty := (.pair (.int .i64) (.pair (.int .i64) (.pair (.int .i64) (.pair (.int .i64) (.pair T_Event (.pair (.slice T_Event) (.pair (.int .i64) (.pair (.int .i64) .unit))))))))
@[reducible] def T_S39 : Ty := (.pair (.slice T_Event) (.pair (.slice T_Effect) (.pair (.slice (.int .i64)) (.pair (.slice T_Turn) .unit))))
@[reducible] def T_S54 : Ty := (.pair T_State (.pair (.slice T_Effect) (.pair (.slice (.int .i64)) (.pair (.slice T_Trigger) (.pair (.slice T_Note) (.pair (.slice T_Turn) .unit))))))
def tab : Tab := [
  (1, ⟨.other, 1, 0, .unit, [.undef]⟩),
  (2, ⟨.int .i64, 1, 0, (.int .i64), [.int .i64 0]⟩),
  (3, ⟨.int .i64, 1, 0, (.int .i64), [.int .i64 0]⟩),
  (4, ⟨.bool, 1, 0, .bool, [.bool false]⟩),
  (5, ⟨.int .u8, 1, 0, (.int .u8), [.int .u8 0]⟩),
  (6, ⟨.int .u8, 1, 0, (.int .u8), [.int .u8 0]⟩),
  (7, ⟨.struct [(0, 2), (1, 3), (2, 4), (3, 6)], 4, 0, T_S7, [.int .i64 0, .int .i64 0, .bool false, .int .u8 0]⟩),
  (8, ⟨.struct [(0, 2), (1, 3), (2, 4), (3, 6)], 4, 0, T_S7, [.int .i64 0, .int .i64 0, .bool false, .int .u8 0]⟩),
  (12, ⟨.int .u64, 1, 0, (.int .u64), [.int .u64 0]⟩),
  (15, ⟨.other, 1, 0, .unit, [.undef]⟩),
  (16, ⟨.other, 1, 0, .unit, [.undef]⟩),
  (17, ⟨.other, 1, 0, .unit, [.undef]⟩),
  (21, ⟨.int .i32, 1, 0, (.int .i32), [.int .i32 0]⟩),
  (22, ⟨.slice 73, 1, 0, (.slice T_Piece), [.nil]⟩),
  (23, ⟨.slice 156, 1, 0, (.slice T_Side), [.nil]⟩),
  (24, ⟨.struct [(0, 22), (1, 23), (2, 3), (3, 3)], 4, 0, T_State, [.nil, .nil, .int .i64 0, .int .i64 0]⟩),
  (25, ⟨.struct [(0, 22), (1, 23), (2, 3), (3, 3)], 4, 0, T_State, [.nil, .nil, .int .i64 0, .int .i64 0]⟩),
  (26, ⟨.other, 1, 0, .unit, [.undef]⟩),
  (27, ⟨.other, 1, 0, .unit, [.undef]⟩),
  (28, ⟨.slice 76, 1, 0, (.slice T_Piece), [.nil]⟩),
  (29, ⟨.slice 125, 1, 0, (.slice T_Side), [.nil]⟩),
  (30, ⟨.struct [(0, 28), (1, 29), (2, 3), (3, 3)], 4, 0, T_State, [.nil, .nil, .int .i64 0, .int .i64 0]⟩),
  (31, ⟨.struct [(0, 28), (1, 29), (2, 3), (3, 3)], 4, 0, T_State, [.nil, .nil, .int .i64 0, .int .i64 0]⟩),
  (32, ⟨.other, 1, 0, .unit, [.undef]⟩),
  (33, ⟨.other, 1, 0, .unit, [.undef]⟩),
  (34, ⟨.other, 1, 0, .unit, [.undef]⟩),
  (35, ⟨.slice 65, 1, 0, (.slice T_Event), [.nil]⟩),
  (36, ⟨.slice 167, 1, 0, (.slice T_Effect), [.nil]⟩),
  (37, ⟨.slice 3, 1, 0, (.slice (.int .i64)), [.nil]⟩),
  (38, ⟨.slice 170, 1, 0, (.slice T_Turn), [.nil]⟩),
  (39, ⟨.struct [(0, 35), (1, 36), (2, 37), (3, 38)], 4, 0, T_S39, [.nil, .nil, .nil, .nil]⟩),
  (40, ⟨.struct [(0, 35), (1, 36), (2, 37), (3, 38)], 4, 0, T_S39, [.nil, .nil, .nil, .nil]⟩),
  (41, ⟨.other, 1, 0, .unit, [.undef]⟩),
  (42, ⟨.other, 1, 0, .unit, [.undef]⟩),
  (43, ⟨.slice 68, 1, 0, (.slice T_Event), [.nil]⟩),
  (44, ⟨.slice 176, 1, 0, (.slice T_Effect), [.nil]⟩),
  (45, ⟨.slice 109, 1, 0, (.slice T_Turn), [.nil]⟩),
  (46, ⟨.struct [(0, 43), (1, 44), (2, 37), (3, 45)], 4, 0, T_S39, [.nil, .nil, .nil, .nil]⟩),
  (47, ⟨.struct [(0, 43), (1, 44), (2, 37), (3, 45)], 4, 0, T_S39, [.nil, .nil, .nil, .nil]⟩),
  (48, ⟨.other, 1, 0, .unit, [.undef]⟩),
  (49, ⟨.other, 1, 0, .unit, [.undef]⟩),
  (50, ⟨.other, 1, 0, .unit, [.undef]⟩),
  (51, ⟨.other, 1, 0, .unit, [.undef]⟩),
  (52, ⟨.slice 140, 1, 0, (.slice T_Trigger), [.nil]⟩),
  (53, ⟨.slice 152, 1, 0, (.slice T_Note), [.nil]⟩),
  (54, ⟨.struct [(0, 25), (4, 36), (5, 37), (6, 52), (7, 53), (8, 38)], 9, 0, T_S54, [.nil, .nil, .int .i64 0, .int .i64 0, .nil, .nil, .nil, .nil, .nil]⟩),
  (55, ⟨.struct [(0, 25), (4, 36), (5, 37), (6, 52), (7, 53), (8, 38)], 9, 0, T_S54, [.nil, .nil, .int .i64 0, .int .i64 0, .nil, .nil, .nil, .nil, .nil]⟩),
  (56, ⟨.other, 1, 0, .unit, [.undef]⟩),
  (57, ⟨.other, 1, 0, .unit, [.undef]⟩),
  (58, ⟨.slice 136, 1, 0, (.slice T_Trigger), [.nil]⟩),
  (59, ⟨.slice 147, 1, 0, (.slice T_Note), [.nil]⟩),
  (60, ⟨.struct [(0, 31), (4, 44), (5, 37), (6, 58), (7, 59), (8, 45)], 9, 0, T_S54, [.nil, .nil, .int .i64 0, .int .i64 0, .nil, .nil, .nil, .nil, .nil]⟩),
  (61, ⟨.struct [(0, 31), (4, 44), (5, 37), (6, 58), (7, 59), (8, 45)], 9, 0, T_S54, [.nil, .nil, .int .i64 0, .int .i64 0, .nil, .nil, .nil, .nil, .nil]⟩),
  (62, ⟨.other, 1, 0, .unit, [.undef]⟩),
  (63, ⟨.other, 1, 0, .unit, [.undef]⟩),
  (64, ⟨.struct [(0, 3), (1, 3), (2, 3), (3, 3), (4, 3), (5, 3), (6, 4)], 7, 0, T_Event, [.int .i64 0, .int .i64 0, .int .i64 0, .int .i64 0, .int .i64 0, .int .i64 0, .bool false]⟩),
  (65, ⟨.struct [(0, 3), (1, 3), (2, 3), (3, 3), (4, 3), (5, 3), (6, 4)], 7, 0, T_Event, [.int .i64 0, .int .i64 0, .int .i64 0, .int .i64 0, .int .i64 0, .int .i64 0, .bool false]⟩),
  (67, ⟨.other, 1, 0, .unit, [.undef]⟩),
  (68, ⟨.struct [(0, 3), (1, 3), (2, 3), (3, 3), (4, 3), (5, 3), (6, 4)], 7, 0, T_Event, [.int .i64 0, .int .i64 0, .int .i64 0, .int .i64 0, .int .i64 0, .int .i64 0, .bool false]⟩),
  (69, ⟨.other, 1, 0, .unit, [.undef]⟩),
  (70, ⟨.other, 1, 0, .unit, [.undef]⟩),
  (71, ⟨.other, 1, 0, .unit, [.undef]⟩),
  (72, ⟨.struct [(0, 3), (1, 3), (2, 3), (3, 3), (4, 3), (5, 3), (6, 3), (7, 3), (8, 3), (9, 3), (10, 3), (11, 4), (12, 4)], 13, 0, T_Piece, [.int .i64 0, .int .i64 0, .int .i64 0, .int .i64 0, .int .i64 0, .int .i64 0, .int .i64 0, .int .i64 0, .int .i64 0, .int .i64 0, .int .i64 0, .bool false, .bool false]⟩),
  (73, ⟨.struct [(0, 3), (1, 3), (2, 3), (3, 3), (4, 3), (5, 3), (6, 3), (7, 3), (8, 3), (9, 3), (10, 3), (11, 4), (12, 4)], 13, 0, T_Piece, [.int .i64 0, .int .i64 0, .int .i64 0, .int .i64 0, .int .i64 0, .int .i64 0, .int .i64 0, .int .i64 0, .int .i64 0, .int .i64 0, .int .i64 0, .bool false, .bool false]⟩),
  (75, ⟨.other, 1, 0, .unit, [.undef]⟩),
  (76, ⟨.struct [(0, 3), (1, 3), (2, 3), (3, 3), (4, 3), (5, 3), (6, 3), (7, 3), (8, 3), (9, 3), (10, 3), (11, 4), (12, 4)], 13, 0, T_Piece, [.int .i64 0, .int .i64 0, .int .i64 0, .int .i64 0, .int .i64 0, .int .i64 0, .int .i64 0, .int .i64 0, .int .i64 0, .int .i64 0, .int .i64 0, .bool false, .bool false]⟩),
  (77, ⟨.other, 1, 0, .unit, [.undef]⟩),
  (78, ⟨.other, 1, 0, .unit, [.undef]⟩),
  (79, ⟨.other, 1, 0, .unit, [.undef]⟩),
  (81, ⟨.other, 1, 0, .unit, [.undef]⟩),
  (82, ⟨.other, 1, 0, .unit, [.undef]⟩),
  (83, ⟨.other, 1, 0, .unit, [.undef]⟩),
  (84, ⟨.other, 1, 0, .unit, [.undef]⟩),
  (85, ⟨.other, 1, 0, .unit, [.undef]⟩),
  (86, ⟨.other, 1, 0, .unit, [.undef]⟩),
  (87, ⟨.other, 1, 0, .unit, [.undef]⟩),
  (88, ⟨.other, 1, 0, .unit, [.undef]⟩),
  (89, ⟨.other, 1, 0, .unit, [.undef]⟩),
  (90, ⟨.other, 1, 0, .unit, [.undef]⟩),
  (91, ⟨.other, 1, 0, .unit, [.undef]⟩),
  (92, ⟨.other, 1, 0, .unit, [.undef]⟩),
  (93, ⟨.other, 1, 0, .unit, [.undef]⟩),
  (94, ⟨.other, 1, 0, .unit, [.undef]⟩),
  (96, ⟨.other, 1, 0, .unit, [.undef]⟩),
  (98, ⟨.other, 1, 0, .unit, [.undef]⟩),
  (99, ⟨.other, 1, 0, .unit, [.undef]⟩),
  (100, ⟨.other, 1, 0, .unit, [.undef]⟩),
  (101, ⟨.other, 1, 0, .unit, [.undef]⟩),
  (102, ⟨.other, 1, 0, .unit, [.undef]⟩),
  (103, ⟨.other, 1, 0, .unit, [.undef]⟩),
  (104, ⟨.other, 1, 0, .unit, [.undef]⟩),
  (105, ⟨.other, 1, 0, .unit, [.undef]⟩),
  (106, ⟨.other, 1, 0, .unit, [.undef]⟩),
  (107, ⟨.other, 1, 0, .unit, [.undef]⟩),
  (108, ⟨.struct [(0, 3), (1, 3), (2, 3), (3, 3), (4, 68), (11, 43), (12, 3), (13, 3)], 14, 0, T_Turn, [.int .i64 0, .int .i64 0, .int .i64 0, .int .i64 0, .int .i64 0, .int .i64 0, .int .i64 0, .int .i64 0, .int .i64 0, .int .i64 0, .bool false, .nil, .int .i64 0, .int .i64 0]⟩),
  (109, ⟨.struct [(0, 3), (1, 3), (2, 3), (3, 3), (4, 68), (11, 43), (12, 3), (13, 3)], 14, 0, T_Turn, [.int .i64 0, .int .i64 0, .int .i64 0, .int .i64 0, .int .i64 0, .int .i64 0, .int .i64 0, .int .i64 0, .int .i64 0, .int .i64 0, .bool false, .nil, .int .i64 0, .int .i64 0]⟩),
  (110, ⟨.other, 1, 0, .unit, [.undef]⟩),
  (111, ⟨.other, 1, 0, .unit, [.undef]⟩),
  (112, ⟨.other, 1, 0, .unit, [.undef]⟩),
  (113, ⟨.other, 1, 0, .unit, [.undef]⟩),
  (114, ⟨.other, 1, 0, .unit, [.undef]⟩),
  (115, ⟨.other, 1, 0, .unit, [.undef]⟩),
  (116, ⟨.other, 1, 0, .unit, [.undef]⟩),
  (117, ⟨.other, 1, 0, .unit, [.undef]⟩),
  (118, ⟨.other, 1, 0, .unit, [.undef]⟩),
  (119, ⟨.other, 1, 0, .unit, [.undef]⟩),
  (120, ⟨.other, 1, 0, .unit, [.undef]⟩),
  (121, ⟨.other, 1, 0, .unit, [.undef]⟩),
  (122, ⟨.other, 1, 0, .unit, [.undef]⟩),
  (123, ⟨.other, 1, 0, .unit, [.undef]⟩),
  (124, ⟨.struct [(0, 3), (1, 3), (2, 4)], 3, 0, T_Side, [.int .i64 0, .int .i64 0, .bool false]⟩),
  (125, ⟨.struct [(0, 3), (1, 3), (2, 4)], 3, 0, T_Side, [.int .i64 0, .int .i64 0, .bool false]⟩),
  (126, ⟨.other, 1, 0, .unit, [.undef]⟩),
  (127, ⟨.other, 1, 0, .unit, [.undef]⟩),
  (128, ⟨.other, 1, 0, .unit, [.undef]⟩),
  (129, ⟨.other, 1, 0, .unit, [.undef]⟩),
  (130, ⟨.other, 1, 0, .unit, [.undef]⟩),
  (131, ⟨.other, 1, 0, .unit, [.undef]⟩),
  (132, ⟨.other, 1, 0, .unit, [.undef]⟩),
  (134, ⟨.other, 1, 0, .unit, [.undef]⟩),
  (135, ⟨.struct [(0, 3), (1, 3), (2, 3), (3, 76)], 16, 0, T_Trigger, [.int .i64 0, .int .i64 0, .int .i64 0, .int .i64 0, .int .i64 0, .int .i64 0, .int .i64 0, .int .i64 0, .int .i64 0, .int .i64 0, .int .i64 0, .int .i64 0, .int .i64 0, .int .i64 0, .bool false, .bool false]⟩),
  (136, ⟨.struct [(0, 3), (1, 3), (2, 3), (3, 76)], 16, 0, T_Trigger, [.int .i64 0, .int .i64 0, .int .i64 0, .int .i64 0, .int .i64 0, .int .i64 0, .int .i64 0, .int .i64 0, .int .i64 0, .int .i64 0, .int .i64 0, .int .i64 0, .int .i64 0, .int .i64 0, .bool false, .bool false]⟩),
  (137, ⟨.other, 1, 0, .unit, [.undef]⟩),
  (138, ⟨.other, 1, 0, .unit, [.undef]⟩),
  (139, ⟨.struct [(0, 3), (1, 3), (2, 3), (3, 73)], 16, 0, T_Trigger, [.int .i64 0, .int .i64 0, .int .i64 0, .int .i64 0, .int .i64 0, .int .i64 0, .int .i64 0, .int .i64 0, .int .i64 0, .int .i64 0, .int .i64 0, .int .i64 0, .int .i64 0, .int .i64 0, .bool false, .bool false]⟩),
  (140, ⟨.struct [(0, 3), (1, 3), (2, 3), (3, 73)], 16, 0, T_Trigger, [.int .i64 0, .int .i64 0, .int .i64 0, .int .i64 0, .int .i64 0, .int .i64 0, .int .i64 0, .int .i64 0, .int .i64 0, .int .i64 0, .int .i64 0, .int .i64 0, .int .i64 0, .int .i64 0, .bool false, .bool false]⟩),
  (141, ⟨.other, 1, 0, .unit, [.undef]⟩),
  (142, ⟨.other, 1, 0, .unit, [.undef]⟩),
  (143, ⟨.other, 1, 0, .unit, [.undef]⟩),
  (144, ⟨.other, 1, 0, .unit, [.undef]⟩),
  (145, ⟨.other, 1, 0, .unit, [.undef]⟩),
  (146, ⟨.struct [(0, 3), (1, 68), (8, 3), (9, 3), (10, 76)], 23, 0, T_Note, [.int .i64 0, .int .i64 0, .int .i64 0, .int .i64 0, .int .i64 0, .int .i64 0, .int .i64 0, .bool false, .int .i64 0, .int .i64 0, .int .i64 0, .int .i64 0, .int .i64 0, .int .i64 0, .int .i64 0, .int .i64 0, .int .i64 0, .int .i64 0, .int .i64 0, .int .i64 0, .int .i64 0, .bool false, .bool false]⟩),
  (147, ⟨.struct [(0, 3), (1, 68), (8, 3), (9, 3), (10, 76)], 23, 0, T_Note, [.int .i64 0, .int .i64 0, .int .i64 0, .int .i64 0, .int .i64 0, .int .i64 0, .int .i64 0, .bool false, .int .i64 0, .int .i64 0, .int .i64 0, .int .i64 0, .int .i64 0, .int .i64 0, .int .i64 0, .int .i64 0, .int .i64 0, .int .i64 0, .int .i64 0, .int .i64 0, .int .i64 0, .bool false, .bool false]⟩),
  (148, ⟨.other, 1, 0, .unit, [.undef]⟩),
  (149, ⟨.other, 1, 0, .unit, [.undef]⟩),
  (150, ⟨.other, 1, 0, .unit, [.undef]⟩),
  (151, ⟨.struct [(0, 3), (1, 65), (8, 3), (9, 3), (10, 73)], 23, 0, T_Note, [.int .i64 0, .int .i64 0, .int .i64 0, .int .i64 0, .int .i64 0, .int .i64 0, .int .i64 0, .bool false, .int .i64 0, .int .i64 0, .int .i64 0, .int .i64 0, .int .i64 0, .int .i64 0, .int .i64 0, .int .i64 0, .int .i64 0, .int .i64 0, .int .i64 0, .int .i64 0, .int .i64 0, .bool false, .bool false]⟩),
  (152, ⟨.struct [(0, 3), (1, 65), (8, 3), (9, 3), (10, 73)], 23, 0, T_Note, [.int .i64 0, .int .i64 0, .int .i64 0, .int .i64 0, .int .i64 0, .int .i64 0, .int .i64 0, .bool false, .int .i64 0, .int .i64 0, .int .i64 0, .int .i64 0, .int .i64 0, .int .i64 0, .int .i64 0, .int .i64 0, .int .i64 0, .int .i64 0, .int .i64 0, .int .i64 0, .int .i64 0, .bool false, .bool false]⟩),
  (153, ⟨.other, 1, 0, .unit, [.undef]⟩),
  (154, ⟨.other, 1, 0, .unit, [.undef]⟩),
  (155, ⟨.other, 1, 0, .unit, [.undef]⟩),
  (156, ⟨.struct [(0, 3), (1, 3), (2, 4)], 3, 0, T_Side, [.int .i64 0, .int .i64 0, .bool false]⟩),
  (157, ⟨.other, 1, 0, .unit, [.undef]⟩),
  (158, ⟨.other, 1, 0, .unit, [.undef]⟩),
  (159, ⟨.other, 1, 0, .unit, [.undef]⟩),
  (160, ⟨.struct [(0, 3), (1, 3), (2, 3), (3, 3), (4, 3), (5, 3), (6, 3)], 7, 0, T_Pat, [.int .i64 0, .int .i64 0, .int .i64 0, .int .i64 0, .int .i64 0, .int .i64 0, .int .i64 0]⟩),
  (161, ⟨.struct [(0, 3), (1, 3), (2, 3), (3, 3), (4, 3), (5, 3), (6, 3)], 7, 0, T_Pat, [.int .i64 0, .int .i64 0, .int .i64 0, .int .i64 0, .int .i64 0, .int .i64 0, .int .i64 0]⟩),
  (162, ⟨.struct [(0, 3), (1, 3)], 2, 0, T_Guard, [.int .i64 0, .int .i64 0]⟩),
  (163, ⟨.struct [(0, 3), (1, 3)], 2, 0, T_Guard, [.int .i64 0, .int .i64 0]⟩),
  (164, ⟨.struct [(0, 3), (1, 3), (2, 3), (3, 3), (4, 3), (5, 4), (6, 35)], 7, 0, T_Act, [.int .i64 0, .int .i64 0, .int .i64 0, .int .i64 0, .int .i64 0, .bool false, .nil]⟩),
  (165, ⟨.struct [(0, 3), (1, 3), (2, 3), (3, 3), (4, 3), (5, 4), (6, 35)], 7, 0, T_Act, [.int .i64 0, .int .i64 0, .int .i64 0, .int .i64 0, .int .i64 0, .bool false, .nil]⟩),
  (166, ⟨.struct [(0, 3), (1, 3), (2, 3), (3, 3), (4, 161), (11, 163), (13, 165), (20, 3), (21, 3)], 22, 0, T_Effect, [.int .i64 0, .int .i64 0, .int .i64 0, .int .i64 0, .int .i64 0, .int .i64 0, .int .i64 0, .int .i64 0, .int .i64 0, .int .i64 0, .int .i64 0, .int .i64 0, .int .i64 0, .int .i64 0, .int .i64 0, .int .i64 0, .int .i64 0, .int .i64 0, .bool false, .nil, .int .i64 0, .int .i64 0]⟩),
  (167, ⟨.struct [(0, 3), (1, 3), (2, 3), (3, 3), (4, 161), (11, 163), (13, 165), (20, 3), (21, 3)], 22, 0, T_Effect, [.int .i64 0, .int .i64 0, .int .i64 0, .int .i64 0, .int .i64 0, .int .i64 0, .int .i64 0, .int .i64 0, .int .i64 0, .int .i64 0, .int .i64 0, .int .i64 0, .int .i64 0, .int .i64 0, .int .i64 0, .int .i64 0, .int .i64 0, .int .i64 0, .bool false, .nil, .int .i64 0, .int .i64 0]⟩),
  (168, ⟨.other, 1, 0, .unit, [.undef]⟩),
  (169, ⟨.struct [(0, 3), (1, 3), (2, 3), (3, 3), (4, 65), (11, 35), (12, 3), (13, 3)], 14, 0, T_Turn, [.int .i64 0, .int .i64 0, .int .i64 0, .int .i64 0, .int .i64 0, .int .i64 0, .int .i64 0, .int .i64 0, .int .i64 0, .int .i64 0, .bool false, .nil, .int .i64 0, .int .i64 0]⟩),
  (170, ⟨.struct [(0, 3), (1, 3), (2, 3), (3, 3), (4, 65), (11, 35), (12, 3), (13, 3)], 14, 0, T_Turn, [.int .i64 0, .int .i64 0, .int .i64 0, .int .i64 0, .int .i64 0, .int .i64 0, .int .i64 0, .int .i64 0, .int .i64 0, .int .i64 0, .bool false, .nil, .int .i64 0, .int .i64 0]⟩),
  (171, ⟨.struct [(0, 3), (1, 3), (2, 3), (3, 3), (4, 3), (5, 3), (6, 3)], 7, 0, T_Pat, [.int .i64 0, .int .i64 0, .int .i64 0, .int .i64 0, .int .i64 0, .int .i64 0, .int .i64 0]⟩),
  (172, ⟨.struct [(0, 3), (1, 3)], 2, 0, T_Guard, [.int .i64 0, .int .i64 0]⟩),
  (173, ⟨.struct [(0, 3), (1, 3), (2, 3), (3, 3), (4, 3), (5, 4), (6, 43)], 7, 0, T_Act, [.int .i64 0, .int .i64 0, .int .i64 0, .int .i64 0, .int .i64 0, .bool false, .nil]⟩),
  (174, ⟨.struct [(0, 3), (1, 3), (2, 3), (3, 3), (4, 3), (5, 4), (6, 43)], 7, 0, T_Act, [.int .i64 0, .int .i64 0, .int .i64 0, .int .i64 0, .int .i64 0, .bool false, .nil]⟩),
  (175, ⟨.struct [(0, 3), (1, 3), (2, 3), (3, 3), (4, 171), (11, 172), (13, 174), (20, 3), (21, 3)], 22, 0, T_Effect, [.int .i64 0, .int .i64 0, .int .i64 0, .int .i64 0, .int .i64 0, .int .i64 0, .int .i64 0, .int .i64 0, .int .i64 0, .int .i64 0, .int .i64 0, .int .i64 0, .int .i64 0, .int .i64 0, .int .i64 0, .int .i64 0, .int .i64 0, .int .i64 0, .bool false, .nil, .int .i64 0, .int .i64 0]⟩),
  (176, ⟨.struct [(0, 3), (1, 3), (2, 3), (3, 3), (4, 171), (11, 172), (13, 174), (20, 3), (21, 3)], 22, 0, T_Effect, [.int .i64 0, .int .i64 0, .int .i64 0, .int .i64 0, .int .i64 0, .int .i64 0, .int .i64 0, .int .i64 0, .int .i64 0, .int .i64 0, .int .i64 0, .int .i64 0, .int .i64 0, .int .i64 0, .int .i64 0, .int .i64 0, .int .i64 0, .int .i64 0, .bool false, .nil, .int .i64 0, .int .i64 0]⟩),
  (177, ⟨.other, 1, 0, .unit, [.undef]⟩),
  (178, ⟨.other, 1, 0, .unit, [.undef]⟩),
  (179, ⟨.other, 1, 0, .unit, [.undef]⟩),
  (180, ⟨.other, 1, 0, .unit, [.undef]⟩),
  (181, ⟨.other, 1, 0, .unit, [.undef]⟩),
  (182, ⟨.other, 1, 0, .unit, [.undef]⟩),
  (183, ⟨.other, 1, 0, .unit, [.undef]⟩),
  (184, ⟨.other, 1, 0, .unit, [.undef]⟩),
  (185, ⟨.other, 1, 0, .unit, [.undef]⟩),
  (186, ⟨.other, 1, 0, .unit, [.undef]⟩),
  (187, ⟨.other, 1, 0, .unit, [.undef]⟩),
  (188, ⟨.other, 1, 0, .unit, [.undef]⟩),
  (189, ⟨.other, 1, 0, .unit, [.undef]⟩),
  (190, ⟨.other, 1, 0, .unit, [.undef]⟩),
  (191, ⟨.other, 1, 0, .unit, [.undef]⟩),
  (192, ⟨.other, 1, 0, .unit, [.undef]⟩),
  (193, ⟨.other, 1, 0, .unit, [.undef]⟩),
  (194, ⟨.other, 1, 0, .unit, [.undef]⟩),
  (195, ⟨.other, 1, 0, .unit, [.undef]⟩),
  (196, ⟨.other, 1, 0, .unit, [.undef]⟩),
  (197, ⟨.other, 1, 0, .unit, [.undef]⟩),
  (198, ⟨.other, 1, 0, .unit, [.undef]⟩),
  (199, ⟨.other, 1, 0, .unit, [.undef]⟩),
  (205, ⟨.other, 1, 0, .unit, [.undef]⟩),
  (206, ⟨.int .u32, 1, 0, (.int .u32), [.int .u32 0]⟩),
  (207, ⟨.int .u8, 1, 0, (.int .u8), [.int .u8 0]⟩),
  (208, ⟨.int .u8, 1, 0, (.int .u8), [.int .u8 0]⟩),
  (209, ⟨.other, 1, 0, .unit, [.undef]⟩),
  (210, ⟨.other, 1, 0, .unit, [.undef]⟩),
  (211, ⟨.int .i32, 1, 0, (.int .i32), [.int .i32 0]⟩),
  (212, ⟨.int .i32, 1, 0, (.int .i32), [.int .i32 0]⟩)]
theorem tabOk : TabOk Try.prog tab := tabB_ok (by kernel_rfl)
theorem mixed : Try.prog.follows .mixedOrders = true := by kernel_rfl
/-! loop.example/g00486/laws.szPieceS -/
def laws_szPieceS (a0 : (List T_Piece.D)) (a1 : Int) : Option Int :=
 bif decide ((IntKind.wrap .i64 (a1 - (a0.length : Int))) < 0) then (
 some (-1))
 else (
 some (IntKind.wrap .i64 (a1 - (a0.length : Int))))
def laws_szPieceS_c : Ct := .pure true false (.pair (.slice T_Piece) (.pair (.int .i64) .unit)) (.int .i64) (fun x => laws_szPieceS x.1 x.2.1)
theorem laws_szPieceS_ct : CtOk Try.prog 63 laws_szPieceS_c := pure_ct (E := { T := tab, G := [] }) (EnvOk.nil tabOk) mixed (fn := Try.f63) _ _ _ _ _ .none Try.func63 (by kernel_rfl) (fun x => by kernel_rfl)
/-! loop.example/g00486/laws.szSideS -/
def laws_szSideS (a0 : (List T_Side.D)) (a1 : Int) : Option Int :=
 bif decide ((IntKind.wrap .i64 (a1 - (a0.length : Int))) < 0) then (
 some (-1))
 else (
 some (IntKind.wrap .i64 (a1 - (a0.length : Int))))
def laws_szSideS_c : Ct := .pure true false (.pair (.slice T_Side) (.pair (.int .i64) .unit)) (.int .i64) (fun x => laws_szSideS x.1 x.2.1)
theorem laws_szSideS_ct : CtOk Try.prog 64 laws_szSideS_c := pure_ct (E := { T := tab, G := [] }) (EnvOk.nil tabOk) mixed (fn := Try.f64) _ _ _ _ _ .none Try.func64 (by kernel_rfl) (fun x => by kernel_rfl)
/-! loop.example/g00486/laws.szState -/
def laws_szState (a0 : T_State.D) (a1 : Int) : Option Int :=
(laws_szPieceS a0.1 a1).bind fun y1 =>
 bif decide (y1 < 0) then (
 some (-1))
 else (
(laws_szSideS a0.2.1 y1).bind fun y2 =>
 bif decide (y2 < 0) then (
 some (-1))
 else (
 some y2))
def laws_szState_c : Ct := .pure true false (.pair T_State (.pair (.int .i64) .unit)) (.int .i64) (fun x => laws_szState x.1 x.2.1)
theorem laws_szState_ct : CtOk Try.prog 14 laws_szState_c := pure_ct (E := { T := tab, G := [(63, laws_szPieceS_c), (64, laws_szSideS_c)] }) (EnvOk.cons laws_szPieceS_ct (EnvOk.cons laws_szSideS_ct (EnvOk.nil tabOk))) mixed (fn := Try.f14) _ _ _ _ _ .none Try.func14 (by kernel_rfl) (fun x => by kernel_rfl)
/-! loop.example/g00486/laws.szTriggerS -/
def laws_szTriggerS (a0 : (List T_Trigger.D)) (a1 : Int) : Option Int :=
 bif decide ((IntKind.wrap .i64 (a1 - (a0.length : Int))) < 0) then (
 some (-1))
 else (
 some (IntKind.wrap .i64 (a1 - (a0.length : Int))))
def laws_szTriggerS_c : Ct := .pure true false (.pair (.slice T_Trigger) (.pair (.int .i64) .unit)) (.int .i64) (fun x => laws_szTriggerS x.1 x.2.1)
theorem laws_szTriggerS_ct : CtOk Try.prog 41 laws_szTriggerS_c := pure_ct (E := { T := tab, G := [] }) (EnvOk.nil tabOk) mixed (fn := Try.f41) _ _ _ _ _ .none Try.func41 (by kernel_rfl) (fun x => by kernel_rfl)
/-! loop.example/g00486/laws.toPiece -/
def laws_toPiece (a0 : T_Piece.D) : Option T_Piece.D :=
 some a0
def laws_toPiece_c : Ct := .pure true false (.pair T_Piece .unit) T_Piece (fun x => laws_toPiece x.1)
theorem laws_toPiece_ct : CtOk Try.prog 39 laws_toPiece_c := pure_ct (E := { T := tab, G := [] }) (EnvOk.nil tabOk) mixed (fn := Try.f39) _ _ _ _ _ .none Try.func39 (by kernel_rfl) (fun x => by kernel_rfl)
/-! loop.example/g00486/laws.toPieceS -/
def laws_toPieceS_l1 (a0 : (List T_Piece.D)) : ((List T_Piece.D) × Int) → Option (((List T_Piece.D) × Int) ⊕ ((List T_Piece.D) × Int)) := fun s2 =>
 bif decide (s2.2 < (a0.length : Int)) then (
 idx a0 s2.2 fun x3 =>
(laws_toPiece x3).bind fun y4 =>
 idx s2.1 s2.2 fun _ =>
(s2.1[(s2.2 : Int).toNat]?).bind fun x5 =>
 let u6 : (List T_Piece.D) := s2.1.set (s2.2 : Int).toNat y4
 some (.inl (u6, IntKind.wrap .i64 (s2.2 + 1))))
 else (
 some (.inr s2))
def laws_toPieceS (a0 : (List T_Piece.D)) : Option (List T_Piece.D) :=
 if 0 ≤ (a0.length : Int) then (if ((a0.length : Int)).toNat * (24 * 13) ≤ room then (
(while_ (laws_toPieceS_l1 a0) ((List.replicate ((a0.length : Int)).toNat (0, 0, 0, 0, 0, 0, 0, 0, 0, 0, 0, false, false, ())), 0)).bind fun o7 =>
 some o7.1) else none) else none
def laws_toPieceS_h : Hints := (.node none none .none (.node none none .none (.node none none (.node none none .none (.node none none (.node none (some ⟨[.tmpO 3 0 (.slice T_Piece), .tmp 4 (.int .i64)], [some 0], none, []⟩) .none .none) .none)) .none)))
def laws_toPieceS_c : Ct := .pure true false (.pair (.slice T_Piece) .unit) (.slice T_Piece) (fun x => laws_toPieceS x.1)
theorem laws_toPieceS_ct : CtOk Try.prog 65 laws_toPieceS_c := pure_ct (E := { T := tab, G := [(39, laws_toPiece_c)] }) (EnvOk.cons laws_toPiece_ct (EnvOk.nil tabOk)) mixed (fn := Try.f65) _ _ _ _ _ laws_toPieceS_h Try.func65 (by kernel_rfl) (fun x => by kernel_rfl)
def laws_toPieceS_fresh_c : Ct := .pure true true (.pair (.slice T_Piece) .unit) (.slice T_Piece) (fun x => laws_toPieceS x.1)
theorem laws_toPieceS_fresh_ct : CtOk Try.prog 65 laws_toPieceS_fresh_c := pure_ct (E := { T := tab, G := [(39, laws_toPiece_c)] }) (EnvOk.cons laws_toPiece_ct (EnvOk.nil tabOk)) mixed (fn := Try.f65) _ _ _ _ _ laws_toPieceS_h Try.func65 (by kernel_rfl) (fun x => by kernel_rfl)
/-! loop.example/g00486/laws.toSide -/
def laws_toSide (a0 : T_Side.D) : Option T_Side.D :=
 some a0
def laws_toSide_c : Ct := .pure true false (.pair T_Side .unit) T_Side (fun x => laws_toSide x.1)
theorem laws_toSide_ct : CtOk Try.prog 141 laws_toSide_c := pure_ct (E := { T := tab, G := [] }) (EnvOk.nil tabOk) mixed (fn := Try.f141) _ _ _ _ _ .none Try.func141 (by kernel_rfl) (fun x => by kernel_rfl)
/-! loop.example/g00486/laws.toSideS -/
def laws_toSideS_l1 (a0 : (List T_Side.D)) : ((List T_Side.D) × Int) → Option (((List T_Side.D) × Int) ⊕ ((List T_Side.D) × Int)) := fun s2 =>
 bif decide (s2.2 < (a0.length : Int)) then (
 idx a0 s2.2 fun x3 =>
(laws_toSide x3).bind fun y4 =>
 idx s2.1 s2.2 fun _ =>
(s2.1[(s2.2 : Int).toNat]?).bind fun x5 =>
 let u6 : (List T_Side.D) := s2.1.set (s2.2 : Int).toNat y4
 some (.inl (u6, IntKind.wrap .i64 (s2.2 + 1))))
 else (
 some (.inr s2))
def laws_toSideS (a0 : (List T_Side.D)) : Option (List T_Side.D) :=
 if 0 ≤ (a0.length : Int) then (if ((a0.length : Int)).toNat * (24 * 3) ≤ room then (
(while_ (laws_toSideS_l1 a0) ((List.replicate ((a0.length : Int)).toNat (0, 0, false, ())), 0)).bind fun o7 =>
 some o7.1) else none) else none
def laws_toSideS_h : Hints := (.node none none .none (.node none none .none (.node none none (.node none none .none (.node none none (.node none (some ⟨[.tmpO 3 0 (.slice T_Side), .tmp 4 (.int .i64)], [some 0], none, []⟩) .none .none) .none)) .none)))
def laws_toSideS_c : Ct := .pure true false (.pair (.slice T_Side) .unit) (.slice T_Side) (fun x => laws_toSideS x.1)
theorem laws_toSideS_ct : CtOk Try.prog 66 laws_toSideS_c := pure_ct (E := { T := tab, G := [(141, laws_toSide_c)] }) (EnvOk.cons laws_toSide_ct (EnvOk.nil tabOk)) mixed (fn := Try.f66) _ _ _ _ _ laws_toSideS_h Try.func66 (by kernel_rfl) (fun x => by kernel_rfl)
def laws_toSideS_fresh_c : Ct := .pure true true (.pair (.slice T_Side) .unit) (.slice T_Side) (fun x => laws_toSideS x.1)
theorem laws_toSideS_fresh_ct : CtOk Try.prog 66 laws_toSideS_fresh_c := pure_ct (E := { T := tab, G := [(141, laws_toSide_c)] }) (EnvOk.cons laws_toSide_ct (EnvOk.nil tabOk)) mixed (fn := Try.f66) _ _ _ _ _ laws_toSideS_h Try.func66 (by kernel_rfl) (fun x => by kernel_rfl)
/-! loop.example/g00486/laws.toState -/
def laws_toState (a0 : T_State.D) : Option T_State.D :=
(laws_toPieceS a0.1).bind fun y1 =>
(laws_toSideS a0.2.1).bind fun y2 =>
 some (y1, y2, a0.2.2)
def laws_toState_c : Ct := .pure true false (.pair T_State .unit) T_State (fun x => laws_toState x.1)
theorem laws_toState_ct : CtOk Try.prog 16 laws_toState_c := pure_ct (E := { T := tab, G := [(65, laws_toPieceS_fresh_c), (66, laws_toSideS_fresh_c)] }) (EnvOk.cons laws_toPieceS_fresh_ct (EnvOk.cons laws_toSideS_fresh_ct (EnvOk.nil tabOk))) mixed (fn := Try.f16) _ _ _ _ _ .none Try.func16 (by kernel_rfl) (fun x => by kernel_rfl)
def laws_toState_fresh_c : Ct := .pure true true (.pair T_State .unit) T_State (fun x => laws_toState x.1)
theorem laws_toState_fresh_ct : CtOk Try.prog 16 laws_toState_fresh_c := pure_ct (E := { T := tab, G := [(65, laws_toPieceS_fresh_c), (66, laws_toSideS_fresh_c)] }) (EnvOk.cons laws_toPieceS_fresh_ct (EnvOk.cons laws_toSideS_fresh_ct (EnvOk.nil tabOk))) mixed (fn := Try.f16) _ _ _ _ _ .none Try.func16 (by kernel_rfl) (fun x => by kernel_rfl)
/-! loop.example/g00486/laws.toTrigger -/
def laws_toTrigger (a0 : T_Trigger.D) : Option T_Trigger.D :=
(laws_toPiece a0.2.2.2.1).bind fun y1 =>
 some (a0.1, a0.2.1, a0.2.2.1, y1, ())
def laws_toTrigger_c : Ct := .pure true false (.pair T_Trigger .unit) T_Trigger (fun x => laws_toTrigger x.1)
theorem laws_toTrigger_ct : CtOk Try.prog 122 laws_toTrigger_c := pure_ct (E := { T := tab, G := [(39, laws_toPiece_c)] }) (EnvOk.cons laws_toPiece_ct (EnvOk.nil tabOk)) mixed (fn := Try.f122) _ _ _ _ _ .none Try.func122 (by kernel_rfl) (fun x => by kernel_rfl)
/-! loop.example/g00486/laws.toTriggerS -/
def laws_toTriggerS_l1 (a0 : (List T_Trigger.D)) : ((List T_Trigger.D) × Int) → Option (((List T_Trigger.D) × Int) ⊕ ((List T_Trigger.D) × Int)) := fun s2 =>
 bif decide (s2.2 < (a0.length : Int)) then (
 idx a0 s2.2 fun x3 =>
(laws_toTrigger x3).bind fun y4 =>
 idx s2.1 s2.2 fun _ =>
(s2.1[(s2.2 : Int).toNat]?).bind fun x5 =>
 let u6 : (List T_Trigger.D) := s2.1.set (s2.2 : Int).toNat y4
 some (.inl (u6, IntKind.wrap .i64 (s2.2 + 1))))
 else (
 some (.inr s2))
def laws_toTriggerS (a0 : (List T_Trigger.D)) : Option (List T_Trigger.D) :=
 if 0 ≤ (a0.length : Int) then (if ((a0.length : Int)).toNat * (24 * 16) ≤ room then (
(while_ (laws_toTriggerS_l1 a0) ((List.replicate ((a0.length : Int)).toNat (0, 0, 0, (0, 0, 0, 0, 0, 0, 0, 0, 0, 0, 0, false, false, ()), ())), 0)).bind fun o7 =>
 some o7.1) else none) else none
def laws_toTriggerS_h : Hints := (.node none none .none (.node none none .none (.node none none (.node none none .none (.node none none (.node none (some ⟨[.tmpO 3 0 (.slice T_Trigger), .tmp 4 (.int .i64)], [some 0], none, []⟩) .none .none) .none)) .none)))
def laws_toTriggerS_c : Ct := .pure true false (.pair (.slice T_Trigger) .unit) (.slice T_Trigger) (fun x => laws_toTriggerS x.1)
theorem laws_toTriggerS_ct : CtOk Try.prog 43 laws_toTriggerS_c := pure_ct (E := { T := tab, G := [(122, laws_toTrigger_c)] }) (EnvOk.cons laws_toTrigger_ct (EnvOk.nil tabOk)) mixed (fn := Try.f43) _ _ _ _ _ laws_toTriggerS_h Try.func43 (by kernel_rfl) (fun x => by kernel_rfl)
def laws_toTriggerS_fresh_c : Ct := .pure true true (.pair (.slice T_Trigger) .unit) (.slice T_Trigger) (fun x => laws_toTriggerS x.1)
theorem laws_toTriggerS_fresh_ct : CtOk Try.prog 43 laws_toTriggerS_fresh_c := pure_ct (E := { T := tab, G := [(122, laws_toTrigger_c)] }) (EnvOk.cons laws_toTrigger_ct (EnvOk.nil tabOk)) mixed (fn := Try.f43) _ _ _ _ _ laws_toTriggerS_h Try.func43 (by kernel_rfl) (fun x => by kernel_rfl)
/-! loop.example/g00486/laws.toIntS -/
def laws_toIntS_l1 (a0 : (List Int)) : ((List Int) × Int) → Option (((List Int) × Int) ⊕ ((List Int) × Int)) := fun s2 =>
 bif decide (s2.2 < (a0.length : Int)) then (
 idx a0 s2.2 fun x3 =>
 idx s2.1 s2.2 fun _ =>
(s2.1[(s2.2 : Int).toNat]?).bind fun x4 =>
 let u5 : (List Int) := s2.1.set (s2.2 : Int).toNat x3
 some (.inl (u5, IntKind.wrap .i64 (s2.2 + 1))))
 else (
 some (.inr s2))
def laws_toIntS (a0 : (List Int)) : Option (List Int) :=
 if 0 ≤ (a0.length : Int) then (if ((a0.length : Int)).toNat * (24 * 1) ≤ room then (
(while_ (laws_toIntS_l1 a0) ((List.replicate ((a0.length : Int)).toNat 0), 0)).bind fun o6 =>
 some o6.1) else none) else none
def laws_toIntS_h : Hints := (.node none none .none (.node none none .none (.node none none (.node none none .none (.node none none (.node none (some ⟨[.tmpO 3 0 (.slice (.int .i64)), .tmp 4 (.int .i64)], [some 0], none, []⟩) .none .none) .none)) .none)))
def laws_toIntS_c : Ct := .pure true false (.pair (.slice (.int .i64)) .unit) (.slice (.int .i64)) (fun x => laws_toIntS x.1)
theorem laws_toIntS_ct : CtOk Try.prog 44 laws_toIntS_c := pure_ct (E := { T := tab, G := [] }) (EnvOk.nil tabOk) mixed (fn := Try.f44) _ _ _ _ _ laws_toIntS_h Try.func44 (by kernel_rfl) (fun x => by kernel_rfl)
def laws_toIntS_fresh_c : Ct := .pure true true (.pair (.slice (.int .i64)) .unit) (.slice (.int .i64)) (fun x => laws_toIntS x.1)
theorem laws_toIntS_fresh_ct : CtOk Try.prog 44 laws_toIntS_fresh_c := pure_ct (E := { T := tab, G := [] }) (EnvOk.nil tabOk) mixed (fn := Try.f44) _ _ _ _ _ laws_toIntS_h Try.func44 (by kernel_rfl) (fun x => by kernel_rfl)
/-! loop.example/g00486/spec.l1In -/
def spec_l1In (a0 : Int) (a1 : Int) (a2 : Int) : Option Bool :=
 bif decide (a0 ≥ a1) then (
 some (decide (a0 ≤ a2)))
 else (
 some false)
def spec_l1In_c : Ct := .pure true false (.pair (.int .i64) (.pair (.int .i64) (.pair (.int .i64) .unit))) .bool (fun x => spec_l1In x.1 x.2.1 x.2.2.1)
theorem spec_l1In_ct : CtOk Try.prog 115 spec_l1In_c := pure_ct (E := { T := tab, G := [] }) (EnvOk.nil tabOk) mixed (fn := Try.f115) _ _ _ _ _ .none Try.func115 (by kernel_rfl) (fun x => by kernel_rfl)
/-! loop.example/g00486/spec.TurnOrder -/
def spec_TurnOrder_l1 (a0 : T_State.D) : ((List Int) × Int) → Option (((List Int) × Int) ⊕ ((List Int) × Int)) := fun s1 =>
((bif decide (s1.2 < (a0.2.1.length : Int)) then (
(spec_l1In a0.2.2.1 0 (IntKind.wrap .i64 ((a0.2.1.length : Int) - 1))).bind fun y2 =>
 some y2)
 else (
 some false)) : Option Bool).bind fun o3 =>
 bif o3 then (
 if (a0.2.1.length : Int) = 0 then none else (
 let k4 : Int := (IntKind.wrap .i64 (a0.2.2.1 + s1.2)).tmod (a0.2.1.length : Int)
 if (s1.1.length + [k4].length) * (24 * 1) ≤ room then (
 some (.inl ((s1.1 ++ [k4]), IntKind.wrap .i64 (s1.2 + 1)))) else none))
 else (
 some (.inr s1))
def spec_TurnOrder (a0 : T_State.D) : Option (List Int) :=
(while_ (spec_TurnOrder_l1 a0) ([], 0)).bind fun o5 =>
 some o5.1
def spec_TurnOrder_h : Hints := (.node none none .none (.node none none .none (.node none none (.node none none .none (.node none none (.node none (some ⟨[.tmpO 3 0 (.slice (.int .i64)), .tmp 4 (.int .i64)], [some 0], none, []⟩) (.node none none (.node none none (.node (some ⟨[.tmp 19 .bool], [none], none, []⟩) none .none .none) .none) .none) .none) .none)) .none)))
def spec_TurnOrder_c : Ct := .pure true false (.pair T_State .unit) (.slice (.int .i64)) (fun x => spec_TurnOrder x.1)
theorem spec_TurnOrder_ct : CtOk Try.prog 118 spec_TurnOrder_c := pure_ct (E := { T := tab, G := [(115, spec_l1In_c)] }) (EnvOk.cons spec_l1In_ct (EnvOk.nil tabOk)) mixed (fn := Try.f118) _ _ _ _ _ spec_TurnOrder_h Try.func118 (by kernel_rfl) (fun x => by kernel_rfl)
def spec_TurnOrder_fresh_c : Ct := .pure true true (.pair T_State .unit) (.slice (.int .i64)) (fun x => spec_TurnOrder x.1)
theorem spec_TurnOrder_fresh_ct : CtOk Try.prog 118 spec_TurnOrder_fresh_c := pure_ct (E := { T := tab, G := [(115, spec_l1In_c)] }) (EnvOk.cons spec_l1In_ct (EnvOk.nil tabOk)) mixed (fn := Try.f118) _ _ _ _ _ spec_TurnOrder_h Try.func118 (by kernel_rfl) (fun x => by kernel_rfl)
/-! loop.example/g00486/spec.TriggersOf -/
def spec_TriggersOf_l1 (a0 : (List T_Trigger.D)) (a1 : Int) : ((List T_Trigger.D) × Int) → Option (((List T_Trigger.D) × Int) ⊕ ((List T_Trigger.D) × Int)) := fun s1 =>
 bif decide (s1.2 < (a0.length : Int)) then (
 idx a0 s1.2 fun x2 =>
((bif (x2.2.1 == a1) then (
 idx a0 s1.2 fun x3 =>
 if (s1.1.length + [x3].length) * (24 * 16) ≤ room then (
 some (s1.1 ++ [x3])) else none)
 else (
 some s1.1)) : Option (List T_Trigger.D)).bind fun o4 =>
 some (.inl (o4, IntKind.wrap .i64 (s1.2 + 1))))
 else (
 some (.inr s1))
def spec_TriggersOf (a0 : (List T_Trigger.D)) (a1 : Int) : Option (List T_Trigger.D) :=
(while_ (spec_TriggersOf_l1 a0 a1) ([], 0)).bind fun o5 =>
 some o5.1
def spec_TriggersOf_h : Hints := (.node none none .none (.node none none .none (.node none none (.node none none .none (.node none none (.node none (some ⟨[.tmpO 5 0 (.slice T_Trigger), .tmp 6 (.int .i64)], [some 0], none, []⟩) (.node none none .none (.node none none (.node none none (.node none none .none (.node (some ⟨[.tmpO 5 1 (.slice T_Trigger)], [none], none, [(5, 0)]⟩) none .none .none)) .none) .none)) .none) .none)) .none)))
def spec_TriggersOf_c : Ct := .pure true false (.pair (.slice T_Trigger) (.pair (.int .i64) .unit)) (.slice T_Trigger) (fun x => spec_TriggersOf x.1 x.2.1)
theorem spec_TriggersOf_ct : CtOk Try.prog 119 spec_TriggersOf_c := pure_ct (E := { T := tab, G := [] }) (EnvOk.nil tabOk) mixed (fn := Try.f119) _ _ _ _ _ spec_TriggersOf_h Try.func119 (by kernel_rfl) (fun x => by kernel_rfl)
def spec_TriggersOf_fresh_c : Ct := .pure true true (.pair (.slice T_Trigger) (.pair (.int .i64) .unit)) (.slice T_Trigger) (fun x => spec_TriggersOf x.1 x.2.1)
theorem spec_TriggersOf_fresh_ct : CtOk Try.prog 119 spec_TriggersOf_fresh_c := pure_ct (E := { T := tab, G := [] }) (EnvOk.nil tabOk) mixed (fn := Try.f119) _ _ _ _ _ spec_TriggersOf_h Try.func119 (by kernel_rfl) (fun x => by kernel_rfl)
/-! loop.example/g00486/spec.Pick -/
def spec_Pick (a0 : (List Int)) (a1 : Int) : Option (Int × ((List Int) × Unit)) :=
((bif decide (a1 < 2) then (
 some true)
 else (
 some ((a0.length : Int) == 0))) : Option Bool).bind fun o1 =>
 bif o1 then (
 if (([] : List Int).length + a0.length) * (24 * 1) ≤ room then (
 some (0, ([] ++ a0), ())) else none)
 else (
 idx a0 0 fun x2 =>
 if a1 = 0 then none else (
((bif decide ((x2.tmod a1) < 0) then (
 some (IntKind.wrap .i64 ((x2.tmod a1) + a1)))
 else (
 some (x2.tmod a1))) : Option Int).bind fun o3 =>
 if 0 ≤ (1 : Int) then (if (1 : Int) ≤ (a0.length : Int) then (if (a0.length : Int) ≤ (a0.length : Int) then (
 if (([] : List Int).length + ((a0.take (a0.length : Int).toNat).drop (1 : Int).toNat).length) * (24 * 1) ≤ room then (
 some (o3, ([] ++ ((a0.take (a0.length : Int).toNat).drop (1 : Int).toNat)), ())) else none) else none) else none) else none))
def spec_Pick_h : Hints := (.node none none .none (.node none none (.node none none (.node (some ⟨[.tmp 13 .bool], [none], none, []⟩) none .none .none) .none) (.node none none .none (.node none none (.node none none .none (.node (some ⟨[.tmp 6 (.int .i64)], [none], none, []⟩) none .none .none)) .none))))
def spec_Pick_c : Ct := .pure false false (.pair (.slice (.int .i64)) (.pair (.int .i64) .unit)) (.pair (.int .i64) (.pair (.slice (.int .i64)) .unit)) (fun x => spec_Pick x.1 x.2.1)
theorem spec_Pick_ct : CtOk Try.prog 120 spec_Pick_c := pure_ct (E := { T := tab, G := [] }) (EnvOk.nil tabOk) mixed (fn := Try.f120) _ _ _ _ _ spec_Pick_h Try.func120 (by kernel_rfl) (fun x => by kernel_rfl)
def spec_Pick_fresh_c : Ct := .pure false true (.pair (.slice (.int .i64)) (.pair (.int .i64) .unit)) (.pair (.int .i64) (.pair (.slice (.int .i64)) .unit)) (fun x => spec_Pick x.1 x.2.1)
theorem spec_Pick_fresh_ct : CtOk Try.prog 120 spec_Pick_fresh_c := pure_ct (E := { T := tab, G := [] }) (EnvOk.nil tabOk) mixed (fn := Try.f120) _ _ _ _ _ spec_Pick_h Try.func120 (by kernel_rfl) (fun x => by kernel_rfl)
/-! loop.example/g00486/spec.Has -/
def spec_Has_l1 (a0 : (List Int)) (a1 : Int) : Int → Option (Int ⊕ (Int ⊕ Bool)) := fun s1 =>
 bif decide (s1 < (a0.length : Int)) then (
 idx a0 s1 fun x2 =>
 bif (x2 == a1) then (
 some (.inr (.inr true)))
 else (
 some (.inl (IntKind.wrap .i64 (s1 + 1)))))
 else (
 some (.inr (.inl s1)))
def spec_Has (a0 : (List Int)) (a1 : Int) : Option Bool :=
(while_ (spec_Has_l1 a0 a1) 0).bind fun o3 =>
 match o3 with
| .inl s4 => (
 some false)
| .inr o5 => (
 some o5)
def spec_Has_h : Hints := (.node none none .none (.node none none (.node none none .none (.node none none (.node none (some ⟨[.tmp 5 (.int .i64)], [some 0], some [.tmp 4 .bool], []⟩) .none .none) .none)) .none))
def spec_Has_c : Ct := .pure true false (.pair (.slice (.int .i64)) (.pair (.int .i64) .unit)) .bool (fun x => spec_Has x.1 x.2.1)
theorem spec_Has_ct : CtOk Try.prog 121 spec_Has_c := pure_ct (E := { T := tab, G := [] }) (EnvOk.nil tabOk) mixed (fn := Try.f121) _ _ _ _ _ spec_Has_h Try.func121 (by kernel_rfl) (fun x => by kernel_rfl)
/-! loop.example/g00486/spec.Arrange -/
def spec_Arrange_l1 : ((List T_Trigger.D) × ((List Int) × (List T_Trigger.D))) → Option (((List T_Trigger.D) × ((List Int) × (List T_Trigger.D))) ⊕ ((List T_Trigger.D) × ((List Int) × (List T_Trigger.D)))) := fun s5 =>
 bif decide ((s5.2.2.length : Int) > 0) then (
(spec_Pick s5.2.1 (s5.2.2.length : Int)).bind fun y6 =>
 idx s5.2.2 y6.1 fun _ =>
(s5.2.2[(y6.1 : Int).toNat]?).bind fun x7 =>
 if (s5.1.length + [x7].length) * (24 * 16) ≤ room then (
 if 0 ≤ (0 : Int) then (if (0 : Int) ≤ y6.1 then (if y6.1 ≤ (s5.2.2.length : Int) then (
 if (([] : List T_Trigger.D).length + ((s5.2.2.take (y6.1.toNat)).drop ((0 : Int).toNat)).length) * (24 * 16) ≤ room then (
 if 0 ≤ (IntKind.wrap .i64 (y6.1 + 1)) then (if (IntKind.wrap .i64 (y6.1 + 1)) ≤ (s5.2.2.length : Int) then (if (s5.2.2.length : Int) ≤ (s5.2.2.length : Int) then (
 if (([] ++ ((s5.2.2.take (y6.1.toNat)).drop ((0 : Int).toNat))).length + ((s5.2.2.take ((s5.2.2.length : Int).toNat)).drop ((IntKind.wrap .i64 (y6.1 + 1)).toNat)).length) * (24 * 16) ≤ room then (
 some (.inl ((s5.1 ++ [x7]), y6.2.1, (([] ++ ((s5.2.2.take (y6.1.toNat)).drop ((0 : Int).toNat))) ++ ((s5.2.2.take ((s5.2.2.length : Int).toNat)).drop ((IntKind.wrap .i64 (y6.1 + 1)).toNat)))))) else none) else none) else none) else none) else none) else none) else none) else none) else none)
 else (
 some (.inr s5))
def spec_Arrange_l2 (a1 : (List T_Trigger.D)) (y1 : (List Int)) : ((List T_Trigger.D) × ((List Int) × Int)) → Option (((List T_Trigger.D) × ((List Int) × Int)) ⊕ ((List T_Trigger.D) × ((List Int) × Int))) := fun s2 =>
 bif decide (s2.2.2 < (y1.length : Int)) then (
 idx y1 s2.2.2 fun _ =>
(y1[(s2.2.2 : Int).toNat]?).bind fun x3 =>
(spec_TriggersOf a1 x3).bind fun y4 =>
(while_ (spec_Arrange_l1) (s2.1, s2.2.1, y4)).bind fun o8 =>
 some (.inl (o8.1, o8.2.1, IntKind.wrap .i64 (s2.2.2 + 1))))
 else (
 some (.inr s2))
def spec_Arrange_l3 (a1 : (List T_Trigger.D)) (y1 : (List Int)) : ((List T_Trigger.D) × Int) → Option (((List T_Trigger.D) × Int) ⊕ ((List T_Trigger.D) × Int)) := fun s10 =>
 bif decide (s10.2 < (a1.length : Int)) then (
 idx a1 s10.2 fun x11 =>
(spec_Has y1 x11.2.1).bind fun y12 =>
((bif (!y12) then (
 idx a1 s10.2 fun x13 =>
 if (s10.1.length + [x13].length) * (24 * 16) ≤ room then (
 some (s10.1 ++ [x13])) else none)
 else (
 some s10.1)) : Option (List T_Trigger.D)).bind fun o14 =>
 some (.inl (o14, IntKind.wrap .i64 (s10.2 + 1))))
 else (
 some (.inr s10))
def spec_Arrange (a0 : T_State.D) (a1 : (List T_Trigger.D)) (a2 : (List Int)) : Option ((List T_Trigger.D) × ((List Int) × Unit)) :=
 if (([] : List Int).length + a2.length) * (24 * 1) ≤ room then (
(spec_TurnOrder a0).bind fun y1 =>
(while_ (spec_Arrange_l2 a1 y1) ([], ([] ++ a2), 0)).bind fun o9 =>
(while_ (spec_Arrange_l3 a1 y1) (o9.1, 0)).bind fun o15 =>
 some (o15.1, o9.2.1, ())) else none
def spec_Arrange_h : Hints := (.node none none .none (.node none none .none (.node none none .none (.node none none .none (.node none none (.node none none .none (.node none none (.node none (some ⟨[.tmpO 8 0 (.slice T_Trigger), .tmpO 9 0 (.slice (.int .i64)), .tmp 11 (.int .i64)], [some 0], none, []⟩) (.node none none .none (.node none none (.node none none (.node none none .none (.node none none (.node none (some ⟨[.tmpO 8 1 (.slice T_Trigger), .tmpO 9 1 (.slice (.int .i64)), .tmpO 12 0 (.slice T_Trigger)], [some 2], none, []⟩) .none .none) .none)) .none) .none)) .none) .none)) (.node none none (.node none none .none (.node none none (.node none (some ⟨[.tmpO 8 1 (.slice T_Trigger), .tmp 15 (.int .i64)], [some 4], none, []⟩) (.node none none .none (.node none none (.node none none (.node none none .none (.node (some ⟨[.tmpO 8 2 (.slice T_Trigger)], [none], none, [(8, 1)]⟩) none .none .none)) .none) .none)) .none) .none)) .none))))))
def spec_Arrange_c : Ct := .pure false false (.pair T_State (.pair (.slice T_Trigger) (.pair (.slice (.int .i64)) .unit))) (.pair (.slice T_Trigger) (.pair (.slice (.int .i64)) .unit)) (fun x => spec_Arrange x.1 x.2.1 x.2.2.1)
theorem spec_Arrange_ct : CtOk Try.prog 42 spec_Arrange_c := pure_ct (E := { T := tab, G := [(118, spec_TurnOrder_fresh_c), (119, spec_TriggersOf_fresh_c), (120, spec_Pick_fresh_c), (121, spec_Has_c)] }) (EnvOk.cons spec_TurnOrder_fresh_ct (EnvOk.cons spec_TriggersOf_fresh_ct (EnvOk.cons spec_Pick_fresh_ct (EnvOk.cons spec_Has_ct (EnvOk.nil tabOk))))) mixed (fn := Try.f42) _ _ _ _ _ spec_Arrange_h Try.func42 (by kernel_rfl) (fun x => by kernel_rfl)
def spec_Arrange_fresh_c : Ct := .pure false true (.pair T_State (.pair (.slice T_Trigger) (.pair (.slice (.int .i64)) .unit))) (.pair (.slice T_Trigger) (.pair (.slice (.int .i64)) .unit)) (fun x => spec_Arrange x.1 x.2.1 x.2.2.1)
theorem spec_Arrange_fresh_ct : CtOk Try.prog 42 spec_Arrange_fresh_c := pure_ct (E := { T := tab, G := [(118, spec_TurnOrder_fresh_c), (119, spec_TriggersOf_fresh_c), (120, spec_Pick_fresh_c), (121, spec_Has_c)] }) (EnvOk.cons spec_TurnOrder_fresh_ct (EnvOk.cons spec_TriggersOf_fresh_ct (EnvOk.cons spec_Pick_fresh_ct (EnvOk.cons spec_Has_ct (EnvOk.nil tabOk))))) mixed (fn := Try.f42) _ _ _ _ _ spec_Arrange_h Try.func42 (by kernel_rfl) (fun x => by kernel_rfl)
/-! slices.Clone[[]loop.example/g00486/impl.Trigger,loop.example/g00486/impl.Trigger] -/
def slices_Clone_impl_Trigger (a0 : (List T_Trigger.D)) : Option (List T_Trigger.D) :=
 if (([] : List T_Trigger.D).length + a0.length) * (24 * 16) ≤ room then (
 some ([] ++ a0)) else none
def slices_Clone_impl_Trigger_c : Ct := .pure true false (.pair (.slice T_Trigger) .unit) (.slice T_Trigger) (fun x => slices_Clone_impl_Trigger x.1)
theorem slices_Clone_impl_Trigger_ct : CtOk Try.prog 123 slices_Clone_impl_Trigger_c := nil_ct (E := { T := tab, G := [] }) (EnvOk.nil tabOk) mixed (fn := Try.f123) _ _ T_Trigger _ _ .none .none Try.func123 (by kernel_rfl) (by kernel_rfl) (fun x => by kernel_rfl)
def slices_Clone_impl_Trigger_fresh_c : Ct := .pure true true (.pair (.slice T_Trigger) .unit) (.slice T_Trigger) (fun x => slices_Clone_impl_Trigger x.1)
theorem slices_Clone_impl_Trigger_fresh_ct : CtOk Try.prog 123 slices_Clone_impl_Trigger_fresh_c := nil_ct (E := { T := tab, G := [] }) (EnvOk.nil tabOk) mixed (fn := Try.f123) _ _ T_Trigger _ _ .none .none Try.func123 (by kernel_rfl) (by kernel_rfl) (fun x => by kernel_rfl)
/-! slices.Clone[[]int,int] -/
def slices_Clone_int (a0 : (List Int)) : Option (List Int) :=
 if (([] : List Int).length + a0.length) * (24 * 1) ≤ room then (
 some ([] ++ a0)) else none
def slices_Clone_int_c : Ct := .pure true false (.pair (.slice (.int .i64)) .unit) (.slice (.int .i64)) (fun x => slices_Clone_int x.1)
theorem slices_Clone_int_ct : CtOk Try.prog 124 slices_Clone_int_c := nil_ct (E := { T := tab, G := [] }) (EnvOk.nil tabOk) mixed (fn := Try.f124) _ _ (.int .i64) _ _ .none .none Try.func124 (by kernel_rfl) (by kernel_rfl) (fun x => by kernel_rfl)
def slices_Clone_int_fresh_c : Ct := .pure true true (.pair (.slice (.int .i64)) .unit) (.slice (.int .i64)) (fun x => slices_Clone_int x.1)
theorem slices_Clone_int_fresh_ct : CtOk Try.prog 124 slices_Clone_int_fresh_c := nil_ct (E := { T := tab, G := [] }) (EnvOk.nil tabOk) mixed (fn := Try.f124) _ _ (.int .i64) _ _ .none .none Try.func124 (by kernel_rfl) (by kernel_rfl) (fun x => by kernel_rfl)
/-! loop.example/g00486/impl.from -/
def impl_from (a0 : Int) (a1 : Int) (a2 : Int) : Option Bool :=
 bif decide (a0 ≥ a1) then (
 some (decide (a0 ≤ a2)))
 else (
 some false)
def impl_from_c : Ct := .pure true false (.pair (.int .i64) (.pair (.int .i64) (.pair (.int .i64) .unit))) .bool (fun x => impl_from x.1 x.2.1 x.2.2.1)
theorem impl_from_ct : CtOk Try.prog 166 impl_from_c := pure_ct (E := { T := tab, G := [] }) (EnvOk.nil tabOk) mixed (fn := Try.f166) _ _ _ _ _ .none Try.func166 (by kernel_rfl) (fun x => by kernel_rfl)
/-! loop.example/g00486/impl.isSide -/
def impl_isSide (a0 : T_State.D) (a1 : Int) : Option Bool :=
(impl_from a1 0 (IntKind.wrap .i64 ((a0.2.1.length : Int) - 1))).bind fun y1 =>
 some y1
def impl_isSide_c : Ct := .pure true false (.pair T_State (.pair (.int .i64) .unit)) .bool (fun x => impl_isSide x.1 x.2.1)
theorem impl_isSide_ct : CtOk Try.prog 117 impl_isSide_c := pure_ct (E := { T := tab, G := [(166, impl_from_c)] }) (EnvOk.cons impl_from_ct (EnvOk.nil tabOk)) mixed (fn := Try.f117) _ _ _ _ _ .none Try.func117 (by kernel_rfl) (fun x => by kernel_rfl)
/-! loop.example/g00486/impl.TurnOrder -/
def impl_TurnOrder_l1 (a0 : T_State.D) : ((List Int) × Int) → Option (((List Int) × Int) ⊕ ((List Int) × Int)) := fun s2 =>
 bif decide (s2.2 < (a0.2.1.length : Int)) then (
 if (a0.2.1.length : Int) = 0 then none else (
 let k3 : Int := (IntKind.wrap .i64 (a0.2.2.1 + s2.2)).tmod (a0.2.1.length : Int)
 if (s2.1.length + [k3].length) * (24 * 1) ≤ room then (
 some (.inl ((s2.1 ++ [k3]), IntKind.wrap .i64 (s2.2 + 1)))) else none))
 else (
 some (.inr s2))
def impl_TurnOrder (a0 : T_State.D) : Option (List Int) :=
(impl_isSide a0 a0.2.2.1).bind fun y1 =>
 bif (!y1) then (
 some [])
 else (
(while_ (impl_TurnOrder_l1 a0) ([], 0)).bind fun o4 =>
 some o4.1)
def impl_TurnOrder_h : Hints := (.node none none .none (.node none none .none (.node none none .none (.node none none (.node none none .none (.node none none (.node none (some ⟨[.tmpO 3 0 (.slice (.int .i64)), .tmp 15 (.int .i64)], [some 0], none, []⟩) .none .none) .none)) .none))))
def impl_TurnOrder_c : Ct := .pure true false (.pair T_State .unit) (.slice (.int .i64)) (fun x => impl_TurnOrder x.1)
theorem impl_TurnOrder_ct : CtOk Try.prog 125 impl_TurnOrder_c := pure_ct (E := { T := tab, G := [(117, impl_isSide_c)] }) (EnvOk.cons impl_isSide_ct (EnvOk.nil tabOk)) mixed (fn := Try.f125) _ _ _ _ _ impl_TurnOrder_h Try.func125 (by kernel_rfl) (fun x => by kernel_rfl)
def impl_TurnOrder_fresh_c : Ct := .pure true true (.pair T_State .unit) (.slice (.int .i64)) (fun x => impl_TurnOrder x.1)
theorem impl_TurnOrder_fresh_ct : CtOk Try.prog 125 impl_TurnOrder_fresh_c := pure_ct (E := { T := tab, G := [(117, impl_isSide_c)] }) (EnvOk.cons impl_isSide_ct (EnvOk.nil tabOk)) mixed (fn := Try.f125) _ _ _ _ _ impl_TurnOrder_h Try.func125 (by kernel_rfl) (fun x => by kernel_rfl)
/-! slices.IndexFunc[[]loop.example/g00486/impl.Trigger,loop.example/g00486/impl.Trigger] -/
def slices_IndexFunc_impl_Trigger_l1 (a0 : (List T_Trigger.D)) (a1 : ((T_Trigger.D × Unit) → Option Bool)) : Int → Option (Int ⊕ (Int ⊕ Int)) := fun s1 =>
 bif decide (s1 < (a0.length : Int)) then (
 idx a0 s1 fun x2 =>
(a1 (x2, ())).bind fun y3 =>
 bif y3 then (
 some (.inr (.inr s1)))
 else (
 some (.inl (IntKind.wrap .i64 (s1 + 1)))))
 else (
 some (.inr (.inl s1)))
def slices_IndexFunc_impl_Trigger (a0 : (List T_Trigger.D)) (a1 : ((T_Trigger.D × Unit) → Option Bool)) : Option Int :=
(while_ (slices_IndexFunc_impl_Trigger_l1 a0 a1) 0).bind fun o4 =>
 match o4 with
| .inl s5 => (
 some (-1))
| .inr o6 => (
 some o6)
def slices_IndexFunc_impl_Trigger_h : Hints := (.node none none .none (.node none none (.node none none .none (.node none none (.node none (some ⟨[.tmp 8 (.int .i64)], [some 0], some [.tmp 4 (.int .i64)], []⟩) .none .none) .none)) .none))
def slices_IndexFunc_impl_Trigger_c : Ct := .pure true false (.pair (.slice T_Trigger) (.pair (.fn (.pair T_Trigger .unit) .bool) .unit)) (.int .i64) (fun x => slices_IndexFunc_impl_Trigger x.1 x.2.1)
theorem slices_IndexFunc_impl_Trigger_ct : CtOk Try.prog 179 slices_IndexFunc_impl_Trigger_c := pure_ct (E := { T := tab, G := [] }) (EnvOk.nil tabOk) mixed (fn := Try.f179) _ _ _ _ _ slices_IndexFunc_impl_Trigger_h Try.func179 (by kernel_rfl) (fun x => by kernel_rfl)
/-! slices.DeleteFunc[[]loop.example/g00486/impl.Trigger,loop.example/g00486/impl.Trigger] -/
def slices_DeleteFunc_impl_Trigger_l1 (a1 : ((T_Trigger.D × Unit) → Option Bool)) : ((List T_Trigger.D) × (Int × Int)) → Option (((List T_Trigger.D) × (Int × Int)) ⊕ ((List T_Trigger.D) × (Int × Int))) := fun s3 =>
 bif decide (s3.2.2 < (s3.1.length : Int)) then (
 idx s3.1 s3.2.2 fun _ =>
(s3.1[(s3.2.2 : Int).toNat]?).bind fun x4 =>
(a1 (x4, ())).bind fun y5 =>
((bif (!y5) then (
 idx s3.1 s3.2.1 fun _ =>
(s3.1[(s3.2.1 : Int).toNat]?).bind fun x6 =>
 let u7 : (List T_Trigger.D) := s3.1.set (s3.2.1 : Int).toNat x4
 some (u7, IntKind.wrap .i64 (s3.2.1 + 1)))
 else (
 some (s3.1, s3.2.1))) : Option ((List T_Trigger.D) × Int)).bind fun o8 =>
 some (.inl (o8.1, o8.2, IntKind.wrap .i64 (s3.2.2 + 1))))
 else (
 some (.inr s3))
def slices_DeleteFunc_impl_Trigger (a0 : (List T_Trigger.D)) (a1 : ((T_Trigger.D × Unit) → Option Bool)) : Option ((List T_Trigger.D) × Unit) :=
(slices_IndexFunc_impl_Trigger a0 a1).bind fun y1 =>
 bif (y1 == (-1)) then (
 some (a0, ()))
 else (
(while_ (slices_DeleteFunc_impl_Trigger_l1 a1) (a0, y1, IntKind.wrap .i64 (y1 + 1))).bind fun o9 =>
 if 0 ≤ o9.2.1 then (if o9.2.1 ≤ (o9.1.length : Int) then (if (o9.1.length : Int) ≤ (o9.1.length : Int) then (
 if 0 ≤ (0 : Int) then (if (0 : Int) ≤ o9.2.1 then (if o9.2.1 ≤ ((o9.1.take (o9.2.1.toNat) ++ List.replicate ((o9.1.length : Int).toNat - o9.2.1.toNat) (0, 0, 0, (0, 0, 0, 0, 0, 0, 0, 0, 0, 0, 0, false, false, ()), ()) ++ o9.1.drop ((o9.1.length : Int).toNat)).length : Int) then (
 some ((((o9.1.take (o9.2.1.toNat) ++ List.replicate ((o9.1.length : Int).toNat - o9.2.1.toNat) (0, 0, 0, (0, 0, 0, 0, 0, 0, 0, 0, 0, 0, 0, false, false, ()), ()) ++ o9.1.drop ((o9.1.length : Int).toNat)).take (o9.2.1.toNat)).drop ((0 : Int).toNat)), ())) else none) else none) else none) else none) else none) else none)
def slices_DeleteFunc_impl_Trigger_h : Hints := (.node none none .none (.node none none .none (.node none none .none (.node none none (.node none none .none (.node none none (.node none (some ⟨[.tmpO 0 1 (.slice T_Trigger), .tmp 5 (.int .i64), .tmp 6 (.int .i64)], [some 0], none, []⟩) (.node none none .none (.node none none (.node none none (.node none none .none (.node none none .none (.node (some ⟨[.tmpO 0 2 (.slice T_Trigger), .tmp 5 (.int .i64)], [none], none, [(0, 1)]⟩) none .none .none))) .none) .none)) .none) .none)) .none))))
def slices_DeleteFunc_impl_Trigger_fresh_c : Ct := .mut [.tk, .rd] true true (.pair (.slice T_Trigger) (.pair (.fn (.pair T_Trigger .unit) .bool) .unit)) (.slice T_Trigger) (fun x => slices_DeleteFunc_impl_Trigger x.1 x.2.1)
theorem slices_DeleteFunc_impl_Trigger_fresh_ct : CtOk Try.prog 127 slices_DeleteFunc_impl_Trigger_fresh_c := mut_ct (E := { T := tab, G := [(179, slices_IndexFunc_impl_Trigger_c)] }) (EnvOk.cons slices_IndexFunc_impl_Trigger_ct (EnvOk.nil tabOk)) mixed (fn := Try.f127) _ _ _ _ _ _ slices_DeleteFunc_impl_Trigger_h Try.func127 (by kernel_rfl) (fun x => by kernel_rfl)
/-! loop.example/g00486/impl.TriggersOf$1 -/
def impl_TriggersOf_1 (z0 : Int) (a0 : T_Trigger.D) : Option Bool :=
 some (a0.2.1 != z0)
def impl_TriggersOf_1_c : Ct := .clo (.pair T_Trigger .unit) (.pair (.int .i64) .unit) .bool (fun z x => impl_TriggersOf_1 z.1 x.1)
theorem impl_TriggersOf_1_ct : CtOk Try.prog 178 impl_TriggersOf_1_c := clo_ct (E := { T := tab, G := [] }) (EnvOk.nil tabOk) mixed (fn := Try.f178) _ _ _ _ .none Try.func178 (by kernel_rfl) (fun z x => by kernel_rfl)
/-! loop.example/g00486/impl.TriggersOf -/
def impl_TriggersOf (a0 : (List T_Trigger.D)) (a1 : Int) : Option (List T_Trigger.D) :=
(slices_Clone_impl_Trigger a0).bind fun y1 =>
(slices_DeleteFunc_impl_Trigger y1 (fun q => impl_TriggersOf_1 a1 q.1)).bind fun y2 =>
 some y2.1
def impl_TriggersOf_c : Ct := .pure true false (.pair (.slice T_Trigger) (.pair (.int .i64) .unit)) (.slice T_Trigger) (fun x => impl_TriggersOf x.1 x.2.1)
theorem impl_TriggersOf_ct : CtOk Try.prog 126 impl_TriggersOf_c := pure_ct (E := { T := tab, G := [(123, slices_Clone_impl_Trigger_fresh_c), (127, slices_DeleteFunc_impl_Trigger_fresh_c), (178, impl_TriggersOf_1_c)] }) (EnvOk.cons slices_Clone_impl_Trigger_fresh_ct (EnvOk.cons slices_DeleteFunc_impl_Trigger_fresh_ct (EnvOk.cons impl_TriggersOf_1_ct (EnvOk.nil tabOk)))) mixed (fn := Try.f126) _ _ _ _ _ .none Try.func126 (by kernel_rfl) (fun x => by kernel_rfl)
def impl_TriggersOf_fresh_c : Ct := .pure true true (.pair (.slice T_Trigger) (.pair (.int .i64) .unit)) (.slice T_Trigger) (fun x => impl_TriggersOf x.1 x.2.1)
theorem impl_TriggersOf_fresh_ct : CtOk Try.prog 126 impl_TriggersOf_fresh_c := pure_ct (E := { T := tab, G := [(123, slices_Clone_impl_Trigger_fresh_c), (127, slices_DeleteFunc_impl_Trigger_fresh_c), (178, impl_TriggersOf_1_c)] }) (EnvOk.cons slices_Clone_impl_Trigger_fresh_ct (EnvOk.cons slices_DeleteFunc_impl_Trigger_fresh_ct (EnvOk.cons impl_TriggersOf_1_ct (EnvOk.nil tabOk)))) mixed (fn := Try.f126) _ _ _ _ _ .none Try.func126 (by kernel_rfl) (fun x => by kernel_rfl)
/-! loop.example/g00486/impl.Arrange$1 -/
def impl_Arrange_1 (z0 : Int) (a0 : T_Trigger.D) : Option Bool :=
 some (a0.2.1 == z0)
def impl_Arrange_1_c : Ct := .clo (.pair T_Trigger .unit) (.pair (.int .i64) .unit) .bool (fun z x => impl_Arrange_1 z.1 x.1)
theorem impl_Arrange_1_ct : CtOk Try.prog 128 impl_Arrange_1_c := clo_ct (E := { T := tab, G := [] }) (EnvOk.nil tabOk) mixed (fn := Try.f128) _ _ _ _ .none Try.func128 (by kernel_rfl) (fun z x => by kernel_rfl)
/-! loop.example/g00486/impl.Pick -/
def impl_Pick (a0 : (List Int)) (a1 : Int) : Option (Int × ((List Int) × Unit)) :=
((bif decide (a1 < 2) then (
 some true)
 else (
 some ((a0.length : Int) == 0))) : Option Bool).bind fun o1 =>
 bif o1 then (
(slices_Clone_int a0).bind fun y2 =>
 some (0, y2, ()))
 else (
 idx a0 0 fun x3 =>
 if a1 = 0 then none else (
((bif decide ((x3.tmod a1) < 0) then (
 some (IntKind.wrap .i64 ((x3.tmod a1) + a1)))
 else (
 some (x3.tmod a1))) : Option Int).bind fun o4 =>
 if 0 ≤ (1 : Int) then (if (1 : Int) ≤ (a0.length : Int) then (if (a0.length : Int) ≤ (a0.length : Int) then (
(slices_Clone_int ((a0.take (a0.length : Int).toNat).drop (1 : Int).toNat)).bind fun y5 =>
 some (o4, y5, ())) else none) else none) else none))
def impl_Pick_h : Hints := (.node none none .none (.node none none (.node none none (.node (some ⟨[.tmp 13 .bool], [none], none, []⟩) none .none .none) .none) (.node none none .none (.node none none (.node none none .none (.node (some ⟨[.tmp 6 (.int .i64)], [none], none, []⟩) none .none .none)) .none))))
def impl_Pick_c : Ct := .pure false false (.pair (.slice (.int .i64)) (.pair (.int .i64) .unit)) (.pair (.int .i64) (.pair (.slice (.int .i64)) .unit)) (fun x => impl_Pick x.1 x.2.1)
theorem impl_Pick_ct : CtOk Try.prog 129 impl_Pick_c := pure_ct (E := { T := tab, G := [(124, slices_Clone_int_fresh_c)] }) (EnvOk.cons slices_Clone_int_fresh_ct (EnvOk.nil tabOk)) mixed (fn := Try.f129) _ _ _ _ _ impl_Pick_h Try.func129 (by kernel_rfl) (fun x => by kernel_rfl)
def impl_Pick_fresh_c : Ct := .pure false true (.pair (.slice (.int .i64)) (.pair (.int .i64) .unit)) (.pair (.int .i64) (.pair (.slice (.int .i64)) .unit)) (fun x => impl_Pick x.1 x.2.1)
theorem impl_Pick_fresh_ct : CtOk Try.prog 129 impl_Pick_fresh_c := pure_ct (E := { T := tab, G := [(124, slices_Clone_int_fresh_c)] }) (EnvOk.cons slices_Clone_int_fresh_ct (EnvOk.nil tabOk)) mixed (fn := Try.f129) _ _ _ _ _ impl_Pick_h Try.func129 (by kernel_rfl) (fun x => by kernel_rfl)
/-! slices.Delete[[]loop.example/g00486/impl.Trigger,loop.example/g00486/impl.Trigger] -/
def slices_Delete_impl_Trigger (a0 : (List T_Trigger.D)) (a1 : Int) (a2 : Int) : Option ((List T_Trigger.D) × Unit) :=
 if 0 ≤ a1 then (if a1 ≤ a2 then (if a2 ≤ (a0.length : Int) then (
 if a2 ≤ (a0.length : Int) then (if (a0.length : Int) ≤ (a0.length : Int) then (
 bif (a1 == a2) then (
 some (a0, ()))
 else (
 if 0 ≤ (0 : Int) then (if (0 : Int) ≤ a1 then (if a1 ≤ (a0.length : Int) then (
 if 0 ≤ a2 then (if a2 ≤ (a0.length : Int) then (if (a0.length : Int) ≤ (a0.length : Int) then (
 if ((a0.take (a1.toNat)).length + ((a0.take ((a0.length : Int).toNat)).drop (a2.toNat)).length) * (24 * 16) ≤ room then (
 if 0 ≤ (((a0.take (a1.toNat)) ++ ((a0.take ((a0.length : Int).toNat)).drop (a2.toNat))).length : Int) then (if (((a0.take (a1.toNat)) ++ ((a0.take ((a0.length : Int).toNat)).drop (a2.toNat))).length : Int) ≤ (a0.length : Int) then (if (a0.length : Int) ≤ (((a0.take (a1.toNat)) ++ ((a0.take ((a0.length : Int).toNat)).drop (a2.toNat))).length : Int) then (
 some ((((a0.take (a1.toNat)) ++ ((a0.take ((a0.length : Int).toNat)).drop (a2.toNat))).take ((((a0.take (a1.toNat)) ++ ((a0.take ((a0.length : Int).toNat)).drop (a2.toNat))).length : Int).toNat) ++ List.replicate ((a0.length : Int).toNat - (((a0.take (a1.toNat)) ++ ((a0.take ((a0.length : Int).toNat)).drop (a2.toNat))).length : Int).toNat) (0, 0, 0, (0, 0, 0, 0, 0, 0, 0, 0, 0, 0, 0, false, false, ()), ()) ++ ((a0.take (a1.toNat)) ++ ((a0.take ((a0.length : Int).toNat)).drop (a2.toNat))).drop ((a0.length : Int).toNat)), ())) else none) else none) else none) else none) else none) else none) else none) else none) else none) else none)) else none) else none) else none) else none) else none
def slices_Delete_impl_Trigger_fresh_c : Ct := .mut [.tk, .rd, .rd] true true (.pair (.slice T_Trigger) (.pair (.int .i64) (.pair (.int .i64) .unit))) (.slice T_Trigger) (fun x => slices_Delete_impl_Trigger x.1 x.2.1 x.2.2.1)
theorem slices_Delete_impl_Trigger_fresh_ct : CtOk Try.prog 130 slices_Delete_impl_Trigger_fresh_c := mut_ct (E := { T := tab, G := [] }) (EnvOk.nil tabOk) mixed (fn := Try.f130) _ _ _ _ _ _ .none Try.func130 (by kernel_rfl) (fun x => by kernel_rfl)
/-! loop.example/g00486/impl.Arrange -/
def impl_Arrange_l1 : ((List Int) × ((List T_Trigger.D) × (List T_Trigger.D))) → Option (((List Int) × ((List T_Trigger.D) × (List T_Trigger.D))) ⊕ ((List Int) × ((List T_Trigger.D) × (List T_Trigger.D)))) := fun s8 =>
 bif decide ((s8.2.2.length : Int) > 0) then (
(impl_Pick s8.1 (s8.2.2.length : Int)).bind fun y9 =>
 idx s8.2.2 y9.1 fun _ =>
(s8.2.2[(y9.1 : Int).toNat]?).bind fun x10 =>
 if (s8.2.1.length + [x10].length) * (24 * 16) ≤ room then (
(slices_Delete_impl_Trigger s8.2.2 y9.1 (IntKind.wrap .i64 (y9.1 + 1))).bind fun y11 =>
 some (.inl (y9.2.1, (s8.2.1 ++ [x10]), y11.1))) else none)
 else (
 some (.inr s8))
def impl_Arrange_l2 (y3 : (List Int)) : ((List Int) × ((List T_Trigger.D) × ((List T_Trigger.D) × Int))) → Option (((List Int) × ((List T_Trigger.D) × ((List T_Trigger.D) × Int))) ⊕ ((List Int) × ((List T_Trigger.D) × ((List T_Trigger.D) × Int)))) := fun s4 =>
 bif decide (s4.2.2.2 < (y3.length : Int)) then (
 idx y3 s4.2.2.2 fun _ =>
(y3[(s4.2.2.2 : Int).toNat]?).bind fun x5 =>
(impl_TriggersOf s4.2.2.1 x5).bind fun y6 =>
(slices_DeleteFunc_impl_Trigger s4.2.2.1 (fun q => impl_Arrange_1 x5 q.1)).bind fun y7 =>
(while_ (impl_Arrange_l1) (s4.1, s4.2.1, y6)).bind fun o12 =>
 some (.inl (o12.1, o12.2.1, y7.1, IntKind.wrap .i64 (s4.2.2.2 + 1))))
 else (
 some (.inr s4))
def impl_Arrange (a0 : T_State.D) (a1 : (List T_Trigger.D)) (a2 : (List Int)) : Option ((List T_Trigger.D) × ((List Int) × Unit)) :=
(slices_Clone_impl_Trigger a1).bind fun y1 =>
(slices_Clone_int a2).bind fun y2 =>
(impl_TurnOrder a0).bind fun y3 =>
(while_ (impl_Arrange_l2 y3) (y2, [], y1, 0)).bind fun o13 =>
 if (o13.2.1.length + o13.2.2.1.length) * (24 * 16) ≤ room then (
 some ((o13.2.1 ++ o13.2.2.1), o13.1, ())) else none
def impl_Arrange_h : Hints := (.node none none .none (.node none none .none (.node none none .none (.node none none .none (.node none none (.node none none .none (.node none none (.node none (some ⟨[.tmpO 2 0 (.slice (.int .i64)), .tmpO 8 0 (.slice T_Trigger), .tmpO 9 0 (.slice T_Trigger), .tmp 23 (.int .i64)], [some 0], none, []⟩) (.node none none .none (.node none none .none (.node none none (.node none none (.node none none .none (.node none none .none (.node none none .none (.node none none (.node none (some ⟨[.tmpO 2 1 (.slice (.int .i64)), .tmpO 8 1 (.slice T_Trigger), .tmpO 12 0 (.slice T_Trigger)], [some 2], none, []⟩) .none .none) .none)))) .none) .none))) .none) .none)) .none)))))
def impl_Arrange_c : Ct := .pure false false (.pair T_State (.pair (.slice T_Trigger) (.pair (.slice (.int .i64)) .unit))) (.pair (.slice T_Trigger) (.pair (.slice (.int .i64)) .unit)) (fun x => impl_Arrange x.1 x.2.1 x.2.2.1)
theorem impl_Arrange_ct : CtOk Try.prog 45 impl_Arrange_c := pure_ct (E := { T := tab, G := [(123, slices_Clone_impl_Trigger_fresh_c), (124, slices_Clone_int_fresh_c), (125, impl_TurnOrder_fresh_c), (126, impl_TriggersOf_fresh_c), (127, slices_DeleteFunc_impl_Trigger_fresh_c), (128, impl_Arrange_1_c), (129, impl_Pick_fresh_c), (130, slices_Delete_impl_Trigger_fresh_c)] }) (EnvOk.cons slices_Clone_impl_Trigger_fresh_ct (EnvOk.cons slices_Clone_int_fresh_ct (EnvOk.cons impl_TurnOrder_fresh_ct (EnvOk.cons impl_TriggersOf_fresh_ct (EnvOk.cons slices_DeleteFunc_impl_Trigger_fresh_ct (EnvOk.cons impl_Arrange_1_ct (EnvOk.cons impl_Pick_fresh_ct (EnvOk.cons slices_Delete_impl_Trigger_fresh_ct (EnvOk.nil tabOk))))))))) mixed (fn := Try.f45) _ _ _ _ _ impl_Arrange_h Try.func45 (by kernel_rfl) (fun x => by kernel_rfl)
def impl_Arrange_fresh_c : Ct := .pure false true (.pair T_State (.pair (.slice T_Trigger) (.pair (.slice (.int .i64)) .unit))) (.pair (.slice T_Trigger) (.pair (.slice (.int .i64)) .unit)) (fun x => impl_Arrange x.1 x.2.1 x.2.2.1)
theorem impl_Arrange_fresh_ct : CtOk Try.prog 45 impl_Arrange_fresh_c := pure_ct (E := { T := tab, G := [(123, slices_Clone_impl_Trigger_fresh_c), (124, slices_Clone_int_fresh_c), (125, impl_TurnOrder_fresh_c), (126, impl_TriggersOf_fresh_c), (127, slices_DeleteFunc_impl_Trigger_fresh_c), (128, impl_Arrange_1_c), (129, impl_Pick_fresh_c), (130, slices_Delete_impl_Trigger_fresh_c)] }) (EnvOk.cons slices_Clone_impl_Trigger_fresh_ct (EnvOk.cons slices_Clone_int_fresh_ct (EnvOk.cons impl_TurnOrder_fresh_ct (EnvOk.cons impl_TriggersOf_fresh_ct (EnvOk.cons slices_DeleteFunc_impl_Trigger_fresh_ct (EnvOk.cons impl_Arrange_1_ct (EnvOk.cons impl_Pick_fresh_ct (EnvOk.cons slices_Delete_impl_Trigger_fresh_ct (EnvOk.nil tabOk))))))))) mixed (fn := Try.f45) _ _ _ _ _ impl_Arrange_h Try.func45 (by kernel_rfl) (fun x => by kernel_rfl)
/-! loop.example/g00486/laws.eqPiece -/
def laws_eqPiece (a0 : T_Piece.D) (a1 : T_Piece.D) : Option Bool :=
 bif (a0.1 != a1.1) then (
 some false)
 else (
 bif (a0.2.1 != a1.2.1) then (
 some false)
 else (
 bif (a0.2.2.1 != a1.2.2.1) then (
 some false)
 else (
 bif (a0.2.2.2.1 != a1.2.2.2.1) then (
 some false)
 else (
 bif (a0.2.2.2.2.1 != a1.2.2.2.2.1) then (
 some false)
 else (
 bif (a0.2.2.2.2.2.1 != a1.2.2.2.2.2.1) then (
 some false)
 else (
 bif (a0.2.2.2.2.2.2.1 != a1.2.2.2.2.2.2.1) then (
 some false)
 else (
 bif (a0.2.2.2.2.2.2.2.1 != a1.2.2.2.2.2.2.2.1) then (
 some false)
 else (
 bif (a0.2.2.2.2.2.2.2.2.1 != a1.2.2.2.2.2.2.2.2.1) then (
 some false)
 else (
 bif (a0.2.2.2.2.2.2.2.2.2.1 != a1.2.2.2.2.2.2.2.2.2.1) then (
 some false)
 else (
 bif (a0.2.2.2.2.2.2.2.2.2.2.1 != a1.2.2.2.2.2.2.2.2.2.2.1) then (
 some false)
 else (
 bif (a0.2.2.2.2.2.2.2.2.2.2.2.1 != a1.2.2.2.2.2.2.2.2.2.2.2.1) then (
 some false)
 else (
 bif (a0.2.2.2.2.2.2.2.2.2.2.2.2.1 != a1.2.2.2.2.2.2.2.2.2.2.2.2.1) then (
 some false)
 else (
 some true)))))))))))))
def laws_eqPiece_c : Ct := .pure true false (.pair T_Piece (.pair T_Piece .unit)) .bool (fun x => laws_eqPiece x.1 x.2.1)
theorem laws_eqPiece_ct : CtOk Try.prog 142 laws_eqPiece_c := pure_ct (E := { T := tab, G := [] }) (EnvOk.nil tabOk) mixed (fn := Try.f142) _ _ _ _ _ .none Try.func142 (by kernel_rfl) (fun x => by kernel_rfl)
/-! loop.example/g00486/laws.eqTrigger -/
def laws_eqTrigger (a0 : T_Trigger.D) (a1 : T_Trigger.D) : Option Bool :=
 bif (a0.1 != a1.1) then (
 some false)
 else (
 bif (a0.2.1 != a1.2.1) then (
 some false)
 else (
 bif (a0.2.2.1 != a1.2.2.1) then (
 some false)
 else (
(laws_eqPiece a0.2.2.2.1 a1.2.2.2.1).bind fun y1 =>
 bif (!y1) then (
 some false)
 else (
 some true))))
def laws_eqTrigger_c : Ct := .pure true false (.pair T_Trigger (.pair T_Trigger .unit)) .bool (fun x => laws_eqTrigger x.1 x.2.1)
theorem laws_eqTrigger_ct : CtOk Try.prog 131 laws_eqTrigger_c := pure_ct (E := { T := tab, G := [(142, laws_eqPiece_c)] }) (EnvOk.cons laws_eqPiece_ct (EnvOk.nil tabOk)) mixed (fn := Try.f131) _ _ _ _ _ .none Try.func131 (by kernel_rfl) (fun x => by kernel_rfl)
/-! loop.example/g00486/laws.eqTriggerS -/
def laws_eqTriggerS_l1 (a0 : (List T_Trigger.D)) (a1 : (List T_Trigger.D)) : Int → Option (Int ⊕ (Int ⊕ Bool)) := fun s1 =>
 bif decide (s1 < (a0.length : Int)) then (
 idx a0 s1 fun x2 =>
 idx a1 s1 fun x3 =>
(laws_eqTrigger x2 x3).bind fun y4 =>
 bif (!y4) then (
 some (.inr (.inr false)))
 else (
 some (.inl (IntKind.wrap .i64 (s1 + 1)))))
 else (
 some (.inr (.inl s1)))
def laws_eqTriggerS (a0 : (List T_Trigger.D)) (a1 : (List T_Trigger.D)) : Option Bool :=
 bif ((a0.length : Int) != (a1.length : Int)) then (
 some false)
 else (
(while_ (laws_eqTriggerS_l1 a0 a1) 0).bind fun o5 =>
 match o5 with
| .inl s6 => (
 some true)
| .inr o7 => (
 some o7))
def laws_eqTriggerS_h : Hints := (.node none none .none (.node none none .none (.node none none (.node none none .none (.node none none (.node none (some ⟨[.tmp 5 (.int .i64)], [some 0], some [.tmp 4 .bool], []⟩) .none .none) .none)) .none)))
def laws_eqTriggerS_c : Ct := .pure true false (.pair (.slice T_Trigger) (.pair (.slice T_Trigger) .unit)) .bool (fun x => laws_eqTriggerS x.1 x.2.1)
theorem laws_eqTriggerS_ct : CtOk Try.prog 46 laws_eqTriggerS_c := pure_ct (E := { T := tab, G := [(131, laws_eqTrigger_c)] }) (EnvOk.cons laws_eqTrigger_ct (EnvOk.nil tabOk)) mixed (fn := Try.f46) _ _ _ _ _ laws_eqTriggerS_h Try.func46 (by kernel_rfl) (fun x => by kernel_rfl)
/-! loop.example/g00486/laws.eqIntS -/
def laws_eqIntS_l1 (a0 : (List Int)) (a1 : (List Int)) : Int → Option (Int ⊕ (Int ⊕ Bool)) := fun s1 =>
 bif decide (s1 < (a0.length : Int)) then (
 idx a0 s1 fun x2 =>
 idx a1 s1 fun x3 =>
 bif (x2 != x3) then (
 some (.inr (.inr false)))
 else (
 some (.inl (IntKind.wrap .i64 (s1 + 1)))))
 else (
 some (.inr (.inl s1)))
def laws_eqIntS (a0 : (List Int)) (a1 : (List Int)) : Option Bool :=
 bif ((a0.length : Int) != (a1.length : Int)) then (
 some false)
 else (
(while_ (laws_eqIntS_l1 a0 a1) 0).bind fun o4 =>
 match o4 with
| .inl s5 => (
 some true)
| .inr o6 => (
 some o6))
def laws_eqIntS_h : Hints := (.node none none .none (.node none none .none (.node none none (.node none none .none (.node none none (.node none (some ⟨[.tmp 5 (.int .i64)], [some 0], some [.tmp 4 .bool], []⟩) .none .none) .none)) .none)))
def laws_eqIntS_c : Ct := .pure true false (.pair (.slice (.int .i64)) (.pair (.slice (.int .i64)) .unit)) .bool (fun x => laws_eqIntS x.1 x.2.1)
theorem laws_eqIntS_ct : CtOk Try.prog 47 laws_eqIntS_c := pure_ct (E := { T := tab, G := [] }) (EnvOk.nil tabOk) mixed (fn := Try.f47) _ _ _ _ _ laws_eqIntS_h Try.func47 (by kernel_rfl) (fun x => by kernel_rfl)
/-! loop.example/g00486/laws.eqPieceS -/
def laws_eqPieceS_l1 (a0 : (List T_Piece.D)) (a1 : (List T_Piece.D)) : Int → Option (Int ⊕ (Int ⊕ Bool)) := fun s1 =>
 bif decide (s1 < (a0.length : Int)) then (
 idx a0 s1 fun x2 =>
 idx a1 s1 fun x3 =>
(laws_eqPiece x2 x3).bind fun y4 =>
 bif (!y4) then (
 some (.inr (.inr false)))
 else (
 some (.inl (IntKind.wrap .i64 (s1 + 1)))))
 else (
 some (.inr (.inl s1)))
def laws_eqPieceS (a0 : (List T_Piece.D)) (a1 : (List T_Piece.D)) : Option Bool :=
 bif ((a0.length : Int) != (a1.length : Int)) then (
 some false)
 else (
(while_ (laws_eqPieceS_l1 a0 a1) 0).bind fun o5 =>
 match o5 with
| .inl s6 => (
 some true)
| .inr o7 => (
 some o7))
def laws_eqPieceS_h : Hints := (.node none none .none (.node none none .none (.node none none (.node none none .none (.node none none (.node none (some ⟨[.tmp 5 (.int .i64)], [some 0], some [.tmp 4 .bool], []⟩) .none .none) .none)) .none)))
def laws_eqPieceS_c : Ct := .pure true false (.pair (.slice T_Piece) (.pair (.slice T_Piece) .unit)) .bool (fun x => laws_eqPieceS x.1 x.2.1)
theorem laws_eqPieceS_ct : CtOk Try.prog 67 laws_eqPieceS_c := pure_ct (E := { T := tab, G := [(142, laws_eqPiece_c)] }) (EnvOk.cons laws_eqPiece_ct (EnvOk.nil tabOk)) mixed (fn := Try.f67) _ _ _ _ _ laws_eqPieceS_h Try.func67 (by kernel_rfl) (fun x => by kernel_rfl)
/-! loop.example/g00486/laws.eqSide -/
def laws_eqSide (a0 : T_Side.D) (a1 : T_Side.D) : Option Bool :=
 bif (a0.1 != a1.1) then (
 some false)
 else (
 bif (a0.2.1 != a1.2.1) then (
 some false)
 else (
 bif (a0.2.2.1 != a1.2.2.1) then (
 some false)
 else (
 some true)))
def laws_eqSide_c : Ct := .pure true false (.pair T_Side (.pair T_Side .unit)) .bool (fun x => laws_eqSide x.1 x.2.1)
theorem laws_eqSide_ct : CtOk Try.prog 143 laws_eqSide_c := pure_ct (E := { T := tab, G := [] }) (EnvOk.nil tabOk) mixed (fn := Try.f143) _ _ _ _ _ .none Try.func143 (by kernel_rfl) (fun x => by kernel_rfl)
/-! loop.example/g00486/laws.eqSideS -/
def laws_eqSideS_l1 (a0 : (List T_Side.D)) (a1 : (List T_Side.D)) : Int → Option (Int ⊕ (Int ⊕ Bool)) := fun s1 =>
 bif decide (s1 < (a0.length : Int)) then (
 idx a0 s1 fun x2 =>
 idx a1 s1 fun x3 =>
(laws_eqSide x2 x3).bind fun y4 =>
 bif (!y4) then (
 some (.inr (.inr false)))
 else (
 some (.inl (IntKind.wrap .i64 (s1 + 1)))))
 else (
 some (.inr (.inl s1)))
def laws_eqSideS (a0 : (List T_Side.D)) (a1 : (List T_Side.D)) : Option Bool :=
 bif ((a0.length : Int) != (a1.length : Int)) then (
 some false)
 else (
(while_ (laws_eqSideS_l1 a0 a1) 0).bind fun o5 =>
 match o5 with
| .inl s6 => (
 some true)
| .inr o7 => (
 some o7))
def laws_eqSideS_h : Hints := (.node none none .none (.node none none .none (.node none none (.node none none .none (.node none none (.node none (some ⟨[.tmp 5 (.int .i64)], [some 0], some [.tmp 4 .bool], []⟩) .none .none) .none)) .none)))
def laws_eqSideS_c : Ct := .pure true false (.pair (.slice T_Side) (.pair (.slice T_Side) .unit)) .bool (fun x => laws_eqSideS x.1 x.2.1)
theorem laws_eqSideS_ct : CtOk Try.prog 68 laws_eqSideS_c := pure_ct (E := { T := tab, G := [(143, laws_eqSide_c)] }) (EnvOk.cons laws_eqSide_ct (EnvOk.nil tabOk)) mixed (fn := Try.f68) _ _ _ _ _ laws_eqSideS_h Try.func68 (by kernel_rfl) (fun x => by kernel_rfl)
/-! loop.example/g00486/laws.eqState -/
def laws_eqState (a0 : T_State.D) (a1 : T_State.D) : Option Bool :=
(laws_eqPieceS a0.1 a1.1).bind fun y1 =>
 bif (!y1) then (
 some false)
 else (
(laws_eqSideS a0.2.1 a1.2.1).bind fun y2 =>
 bif (!y2) then (
 some false)
 else (
 bif (a0.2.2.1 != a1.2.2.1) then (
 some false)
 else (
 bif (a0.2.2.2.1 != a1.2.2.2.1) then (
 some false)
 else (
 some true))))
def laws_eqState_c : Ct := .pure true false (.pair T_State (.pair T_State .unit)) .bool (fun x => laws_eqState x.1 x.2.1)
theorem laws_eqState_ct : CtOk Try.prog 18 laws_eqState_c := pure_ct (E := { T := tab, G := [(67, laws_eqPieceS_c), (68, laws_eqSideS_c)] }) (EnvOk.cons laws_eqPieceS_ct (EnvOk.cons laws_eqSideS_ct (EnvOk.nil tabOk))) mixed (fn := Try.f18) _ _ _ _ _ .none Try.func18 (by kernel_rfl) (fun x => by kernel_rfl)
/-! loop.example/g00486/laws.markPieceS -/
def laws_markPieceS_l1 : ((List T_Piece.D) × (Int × Int)) → Option (((List T_Piece.D) × (Int × Int)) ⊕ ((List T_Piece.D) × (Int × Int))) := fun s2 =>
 bif decide (s2.2.2 < (s2.1.length : Int)) then (
 idx s2.1 s2.2.2 fun _ =>
(s2.1[(s2.2.2 : Int).toNat]?).bind fun x3 =>
 let u4 : (List T_Piece.D) := s2.1.set (s2.2.2 : Int).toNat (s2.2.1, x3.2)
 idx u4 s2.2.2 fun _ =>
(u4[(s2.2.2 : Int).toNat]?).bind fun x5 =>
 let u6 : (List T_Piece.D) := u4.set (s2.2.2 : Int).toNat (x5.1, IntKind.wrap .i64 (s2.2.1 + 1), x5.2.2)
 idx u6 s2.2.2 fun _ =>
(u6[(s2.2.2 : Int).toNat]?).bind fun x7 =>
 let u8 : (List T_Piece.D) := u6.set (s2.2.2 : Int).toNat (x7.1, x7.2.1, IntKind.wrap .i64 ((IntKind.wrap .i64 (s2.2.1 + 1)) + 1), x7.2.2.2)
 let k9 : Int := IntKind.wrap .i64 ((IntKind.wrap .i64 ((IntKind.wrap .i64 (s2.2.1 + 1)) + 1)) + 1)
 idx u8 s2.2.2 fun _ =>
(u8[(s2.2.2 : Int).toNat]?).bind fun x10 =>
 let u11 : (List T_Piece.D) := u8.set (s2.2.2 : Int).toNat (x10.1, x10.2.1, x10.2.2.1, k9, x10.2.2.2.2)
 idx u11 s2.2.2 fun _ =>
(u11[(s2.2.2 : Int).toNat]?).bind fun x12 =>
 let u13 : (List T_Piece.D) := u11.set (s2.2.2 : Int).toNat (x12.1, x12.2.1, x12.2.2.1, x12.2.2.2.1, IntKind.wrap .i64 (k9 + 1), x12.2.2.2.2.2)
 idx u13 s2.2.2 fun _ =>
(u13[(s2.2.2 : Int).toNat]?).bind fun x14 =>
 let u15 : (List T_Piece.D) := u13.set (s2.2.2 : Int).toNat (x14.1, x14.2.1, x14.2.2.1, x14.2.2.2.1, x14.2.2.2.2.1, IntKind.wrap .i64 ((IntKind.wrap .i64 (k9 + 1)) + 1), x14.2.2.2.2.2.2)
 let k16 : Int := IntKind.wrap .i64 ((IntKind.wrap .i64 ((IntKind.wrap .i64 (k9 + 1)) + 1)) + 1)
 idx u15 s2.2.2 fun _ =>
(u15[(s2.2.2 : Int).toNat]?).bind fun x17 =>
 let u18 : (List T_Piece.D) := u15.set (s2.2.2 : Int).toNat (x17.1, x17.2.1, x17.2.2.1, x17.2.2.2.1, x17.2.2.2.2.1, x17.2.2.2.2.2.1, k16, x17.2.2.2.2.2.2.2)
 idx u18 s2.2.2 fun _ =>
(u18[(s2.2.2 : Int).toNat]?).bind fun x19 =>
 let u20 : (List T_Piece.D) := u18.set (s2.2.2 : Int).toNat (x19.1, x19.2.1, x19.2.2.1, x19.2.2.2.1, x19.2.2.2.2.1, x19.2.2.2.2.2.1, x19.2.2.2.2.2.2.1, IntKind.wrap .i64 (k16 + 1), x19.2.2.2.2.2.2.2.2)
 idx u20 s2.2.2 fun _ =>
(u20[(s2.2.2 : Int).toNat]?).bind fun x21 =>
 let u22 : (List T_Piece.D) := u20.set (s2.2.2 : Int).toNat (x21.1, x21.2.1, x21.2.2.1, x21.2.2.2.1, x21.2.2.2.2.1, x21.2.2.2.2.2.1, x21.2.2.2.2.2.2.1, x21.2.2.2.2.2.2.2.1, IntKind.wrap .i64 ((IntKind.wrap .i64 (k16 + 1)) + 1), x21.2.2.2.2.2.2.2.2.2)
 let k23 : Int := IntKind.wrap .i64 ((IntKind.wrap .i64 ((IntKind.wrap .i64 (k16 + 1)) + 1)) + 1)
 idx u22 s2.2.2 fun _ =>
(u22[(s2.2.2 : Int).toNat]?).bind fun x24 =>
 let u25 : (List T_Piece.D) := u22.set (s2.2.2 : Int).toNat (x24.1, x24.2.1, x24.2.2.1, x24.2.2.2.1, x24.2.2.2.2.1, x24.2.2.2.2.2.1, x24.2.2.2.2.2.2.1, x24.2.2.2.2.2.2.2.1, x24.2.2.2.2.2.2.2.2.1, k23, x24.2.2.2.2.2.2.2.2.2.2)
 idx u25 s2.2.2 fun _ =>
(u25[(s2.2.2 : Int).toNat]?).bind fun x26 =>
 let u27 : (List T_Piece.D) := u25.set (s2.2.2 : Int).toNat (x26.1, x26.2.1, x26.2.2.1, x26.2.2.2.1, x26.2.2.2.2.1, x26.2.2.2.2.2.1, x26.2.2.2.2.2.2.1, x26.2.2.2.2.2.2.2.1, x26.2.2.2.2.2.2.2.2.1, x26.2.2.2.2.2.2.2.2.2.1, IntKind.wrap .i64 (k23 + 1), x26.2.2.2.2.2.2.2.2.2.2.2)
 if 3 = 0 then none else (
 let k28 : Int := (IntKind.wrap .i64 ((IntKind.wrap .i64 (k23 + 1)) + 1)).tmod 3
 idx u27 s2.2.2 fun _ =>
(u27[(s2.2.2 : Int).toNat]?).bind fun x29 =>
 let u30 : (List T_Piece.D) := u27.set (s2.2.2 : Int).toNat (x29.1, x29.2.1, x29.2.2.1, x29.2.2.2.1, x29.2.2.2.2.1, x29.2.2.2.2.2.1, x29.2.2.2.2.2.2.1, x29.2.2.2.2.2.2.2.1, x29.2.2.2.2.2.2.2.2.1, x29.2.2.2.2.2.2.2.2.2.1, x29.2.2.2.2.2.2.2.2.2.2.1, (k28 == 0), x29.2.2.2.2.2.2.2.2.2.2.2.2)
 let k31 : Int := IntKind.wrap .i64 ((IntKind.wrap .i64 ((IntKind.wrap .i64 (k23 + 1)) + 1)) + 1)
 if 3 = 0 then none else (
 idx u30 s2.2.2 fun _ =>
(u30[(s2.2.2 : Int).toNat]?).bind fun x32 =>
 let u33 : (List T_Piece.D) := u30.set (s2.2.2 : Int).toNat (x32.1, x32.2.1, x32.2.2.1, x32.2.2.2.1, x32.2.2.2.2.1, x32.2.2.2.2.2.1, x32.2.2.2.2.2.2.1, x32.2.2.2.2.2.2.2.1, x32.2.2.2.2.2.2.2.2.1, x32.2.2.2.2.2.2.2.2.2.1, x32.2.2.2.2.2.2.2.2.2.2.1, x32.2.2.2.2.2.2.2.2.2.2.2.1, ((k31.tmod 3) == 0), ())
 some (.inl (u33, IntKind.wrap .i64 (k31 + 1), IntKind.wrap .i64 (s2.2.2 + 1))))))
 else (
 some (.inr s2))
def laws_markPieceS (a0 : (List T_Piece.D)) (a1 : Int) : Option (Int × ((List T_Piece.D) × Unit)) :=
(while_ (laws_markPieceS_l1) (a0, a1, 0)).bind fun o34 =>
 some (o34.2.1, (o34.1, ()))
def laws_markPieceS_h : Hints := (.node none none .none (.node none none (.node none none .none (.node none none (.node none (some ⟨[.tmpO 0 1 (.slice T_Piece), .tmp 1 (.int .i64), .tmp 5 (.int .i64)], [some 0], none, []⟩) .none .none) .none)) .none))
def laws_markPieceS_c : Ct := .mut [.lent, .rd] true true (.pair (.slice T_Piece) (.pair (.int .i64) .unit)) (.int .i64) (fun x => laws_markPieceS x.1 x.2.1)
theorem laws_markPieceS_ct : CtOk Try.prog 104 laws_markPieceS_c := mut_ct (E := { T := tab, G := [] }) (EnvOk.nil tabOk) mixed (fn := Try.f104) _ _ _ _ _ _ laws_markPieceS_h Try.func104 (by kernel_rfl) (fun x => by kernel_rfl)
/-! loop.example/g00486/laws.markSideS -/
def laws_markSideS_l1 : ((List T_Side.D) × (Int × Int)) → Option (((List T_Side.D) × (Int × Int)) ⊕ ((List T_Side.D) × (Int × Int))) := fun s2 =>
 bif decide (s2.2.2 < (s2.1.length : Int)) then (
 idx s2.1 s2.2.2 fun _ =>
(s2.1[(s2.2.2 : Int).toNat]?).bind fun x3 =>
 let u4 : (List T_Side.D) := s2.1.set (s2.2.2 : Int).toNat (s2.2.1, x3.2)
 idx u4 s2.2.2 fun _ =>
(u4[(s2.2.2 : Int).toNat]?).bind fun x5 =>
 let u6 : (List T_Side.D) := u4.set (s2.2.2 : Int).toNat (x5.1, IntKind.wrap .i64 (s2.2.1 + 1), x5.2.2)
 if 3 = 0 then none else (
 let k7 : Int := (IntKind.wrap .i64 ((IntKind.wrap .i64 (s2.2.1 + 1)) + 1)).tmod 3
 idx u6 s2.2.2 fun _ =>
(u6[(s2.2.2 : Int).toNat]?).bind fun x8 =>
 let u9 : (List T_Side.D) := u6.set (s2.2.2 : Int).toNat (x8.1, x8.2.1, (k7 == 0), ())
 let k10 : Int := IntKind.wrap .i64 ((IntKind.wrap .i64 ((IntKind.wrap .i64 (s2.2.1 + 1)) + 1)) + 1)
 some (.inl (u9, k10, IntKind.wrap .i64 (s2.2.2 + 1)))))
 else (
 some (.inr s2))
def laws_markSideS (a0 : (List T_Side.D)) (a1 : Int) : Option (Int × ((List T_Side.D) × Unit)) :=
(while_ (laws_markSideS_l1) (a0, a1, 0)).bind fun o11 =>
 some (o11.2.1, (o11.1, ()))
def laws_markSideS_h : Hints := (.node none none .none (.node none none (.node none none .none (.node none none (.node none (some ⟨[.tmpO 0 1 (.slice T_Side), .tmp 1 (.int .i64), .tmp 5 (.int .i64)], [some 0], none, []⟩) .none .none) .none)) .none))
def laws_markSideS_c : Ct := .mut [.lent, .rd] true true (.pair (.slice T_Side) (.pair (.int .i64) .unit)) (.int .i64) (fun x => laws_markSideS x.1 x.2.1)
theorem laws_markSideS_ct : CtOk Try.prog 105 laws_markSideS_c := mut_ct (E := { T := tab, G := [] }) (EnvOk.nil tabOk) mixed (fn := Try.f105) _ _ _ _ _ _ laws_markSideS_h Try.func105 (by kernel_rfl) (fun x => by kernel_rfl)
/-! loop.example/g00486/laws.markState -/
def laws_markState (a0 : T_State.D) (a1 : Int) : Option (Int × (T_State.D × Unit)) :=
(laws_markPieceS a0.1 a1).bind fun y1 =>
(laws_markSideS a0.2.1 y1.1).bind fun y2 =>
 some (y2.1, ((y1.2.1, y2.2.1, a0.2.2), ()))
def laws_markState_c : Ct := .mut [.lent, .rd] true true (.pair T_State (.pair (.int .i64) .unit)) (.int .i64) (fun x => laws_markState x.1 x.2.1)
theorem laws_markState_ct : CtOk Try.prog 34 laws_markState_c := mut_ct (E := { T := tab, G := [(104, laws_markPieceS_c), (105, laws_markSideS_c)] }) (EnvOk.cons laws_markPieceS_ct (EnvOk.cons laws_markSideS_ct (EnvOk.nil tabOk))) mixed (fn := Try.f34) _ _ _ _ _ _ .none Try.func34 (by kernel_rfl) (fun x => by kernel_rfl)
/-! loop.example/g00486/laws.markTriggerS -/
def laws_markTriggerS_l1 : ((List T_Trigger.D) × (Int × Int)) → Option (((List T_Trigger.D) × (Int × Int)) ⊕ ((List T_Trigger.D) × (Int × Int))) := fun s2 =>
 bif decide (s2.2.2 < (s2.1.length : Int)) then (
 idx s2.1 s2.2.2 fun _ =>
(s2.1[(s2.2.2 : Int).toNat]?).bind fun x3 =>
 let u4 : (List T_Trigger.D) := s2.1.set (s2.2.2 : Int).toNat (s2.2.1, x3.2)
 idx u4 s2.2.2 fun _ =>
(u4[(s2.2.2 : Int).toNat]?).bind fun x5 =>
 let u6 : (List T_Trigger.D) := u4.set (s2.2.2 : Int).toNat (x5.1, IntKind.wrap .i64 (s2.2.1 + 1), x5.2.2)
 idx u6 s2.2.2 fun _ =>
(u6[(s2.2.2 : Int).toNat]?).bind fun x7 =>
 let u8 : (List T_Trigger.D) := u6.set (s2.2.2 : Int).toNat (x7.1, x7.2.1, IntKind.wrap .i64 ((IntKind.wrap .i64 (s2.2.1 + 1)) + 1), x7.2.2.2)
 let k9 : Int := IntKind.wrap .i64 ((IntKind.wrap .i64 ((IntKind.wrap .i64 (s2.2.1 + 1)) + 1)) + 1)
 idx u8 s2.2.2 fun _ =>
(u8[(s2.2.2 : Int).toNat]?).bind fun x10 =>
 let u11 : (List T_Trigger.D) := u8.set (s2.2.2 : Int).toNat (x10.1, x10.2.1, x10.2.2.1, (k9, x10.2.2.2.1.2), ())
 idx u11 s2.2.2 fun _ =>
(u11[(s2.2.2 : Int).toNat]?).bind fun x12 =>
 let u13 : (List T_Trigger.D) := u11.set (s2.2.2 : Int).toNat (x12.1, x12.2.1, x12.2.2.1, (x12.2.2.2.1.1, IntKind.wrap .i64 (k9 + 1), x12.2.2.2.1.2.2), ())
 idx u13 s2.2.2 fun _ =>
(u13[(s2.2.2 : Int).toNat]?).bind fun x14 =>
 let u15 : (List T_Trigger.D) := u13.set (s2.2.2 : Int).toNat (x14.1, x14.2.1, x14.2.2.1, (x14.2.2.2.1.1, x14.2.2.2.1.2.1, IntKind.wrap .i64 ((IntKind.wrap .i64 (k9 + 1)) + 1), x14.2.2.2.1.2.2.2), ())
 let k16 : Int := IntKind.wrap .i64 ((IntKind.wrap .i64 ((IntKind.wrap .i64 (k9 + 1)) + 1)) + 1)
 idx u15 s2.2.2 fun _ =>
(u15[(s2.2.2 : Int).toNat]?).bind fun x17 =>
 let u18 : (List T_Trigger.D) := u15.set (s2.2.2 : Int).toNat (x17.1, x17.2.1, x17.2.2.1, (x17.2.2.2.1.1, x17.2.2.2.1.2.1, x17.2.2.2.1.2.2.1, k16, x17.2.2.2.1.2.2.2.2), ())
 idx u18 s2.2.2 fun _ =>
(u18[(s2.2.2 : Int).toNat]?).bind fun x19 =>
 let u20 : (List T_Trigger.D) := u18.set (s2.2.2 : Int).toNat (x19.1, x19.2.1, x19.2.2.1, (x19.2.2.2.1.1, x19.2.2.2.1.2.1, x19.2.2.2.1.2.2.1, x19.2.2.2.1.2.2.2.1, IntKind.wrap .i64 (k16 + 1), x19.2.2.2.1.2.2.2.2.2), ())
 idx u20 s2.2.2 fun _ =>
(u20[(s2.2.2 : Int).toNat]?).bind fun x21 =>
 let u22 : (List T_Trigger.D) := u20.set (s2.2.2 : Int).toNat (x21.1, x21.2.1, x21.2.2.1, (x21.2.2.2.1.1, x21.2.2.2.1.2.1, x21.2.2.2.1.2.2.1, x21.2.2.2.1.2.2.2.1, x21.2.2.2.1.2.2.2.2.1, IntKind.wrap .i64 ((IntKind.wrap .i64 (k16 + 1)) + 1), x21.2.2.2.1.2.2.2.2.2.2), ())
 let k23 : Int := IntKind.wrap .i64 ((IntKind.wrap .i64 ((IntKind.wrap .i64 (k16 + 1)) + 1)) + 1)
 idx u22 s2.2.2 fun _ =>
(u22[(s2.2.2 : Int).toNat]?).bind fun x24 =>
 let u25 : (List T_Trigger.D) := u22.set (s2.2.2 : Int).toNat (x24.1, x24.2.1, x24.2.2.1, (x24.2.2.2.1.1, x24.2.2.2.1.2.1, x24.2.2.2.1.2.2.1, x24.2.2.2.1.2.2.2.1, x24.2.2.2.1.2.2.2.2.1, x24.2.2.2.1.2.2.2.2.2.1, k23, x24.2.2.2.1.2.2.2.2.2.2.2), ())
 idx u25 s2.2.2 fun _ =>
(u25[(s2.2.2 : Int).toNat]?).bind fun x26 =>
 let u27 : (List T_Trigger.D) := u25.set (s2.2.2 : Int).toNat (x26.1, x26.2.1, x26.2.2.1, (x26.2.2.2.1.1, x26.2.2.2.1.2.1, x26.2.2.2.1.2.2.1, x26.2.2.2.1.2.2.2.1, x26.2.2.2.1.2.2.2.2.1, x26.2.2.2.1.2.2.2.2.2.1, x26.2.2.2.1.2.2.2.2.2.2.1, IntKind.wrap .i64 (k23 + 1), x26.2.2.2.1.2.2.2.2.2.2.2.2), ())
 idx u27 s2.2.2 fun _ =>
(u27[(s2.2.2 : Int).toNat]?).bind fun x28 =>
 let u29 : (List T_Trigger.D) := u27.set (s2.2.2 : Int).toNat (x28.1, x28.2.1, x28.2.2.1, (x28.2.2.2.1.1, x28.2.2.2.1.2.1, x28.2.2.2.1.2.2.1, x28.2.2.2.1.2.2.2.1, x28.2.2.2.1.2.2.2.2.1, x28.2.2.2.1.2.2.2.2.2.1, x28.2.2.2.1.2.2.2.2.2.2.1, x28.2.2.2.1.2.2.2.2.2.2.2.1, IntKind.wrap .i64 ((IntKind.wrap .i64 (k23 + 1)) + 1), x28.2.2.2.1.2.2.2.2.2.2.2.2.2), ())
 let k30 : Int := IntKind.wrap .i64 ((IntKind.wrap .i64 ((IntKind.wrap .i64 (k23 + 1)) + 1)) + 1)
 idx u29 s2.2.2 fun _ =>
(u29[(s2.2.2 : Int).toNat]?).bind fun x31 =>
 let u32 : (List T_Trigger.D) := u29.set (s2.2.2 : Int).toNat (x31.1, x31.2.1, x31.2.2.1, (x31.2.2.2.1.1, x31.2.2.2.1.2.1, x31.2.2.2.1.2.2.1, x31.2.2.2.1.2.2.2.1, x31.2.2.2.1.2.2.2.2.1, x31.2.2.2.1.2.2.2.2.2.1, x31.2.2.2.1.2.2.2.2.2.2.1, x31.2.2.2.1.2.2.2.2.2.2.2.1, x31.2.2.2.1.2.2.2.2.2.2.2.2.1, k30, x31.2.2.2.1.2.2.2.2.2.2.2.2.2.2), ())
 idx u32 s2.2.2 fun _ =>
(u32[(s2.2.2 : Int).toNat]?).bind fun x33 =>
 let u34 : (List T_Trigger.D) := u32.set (s2.2.2 : Int).toNat (x33.1, x33.2.1, x33.2.2.1, (x33.2.2.2.1.1, x33.2.2.2.1.2.1, x33.2.2.2.1.2.2.1, x33.2.2.2.1.2.2.2.1, x33.2.2.2.1.2.2.2.2.1, x33.2.2.2.1.2.2.2.2.2.1, x33.2.2.2.1.2.2.2.2.2.2.1, x33.2.2.2.1.2.2.2.2.2.2.2.1, x33.2.2.2.1.2.2.2.2.2.2.2.2.1, x33.2.2.2.1.2.2.2.2.2.2.2.2.2.1, IntKind.wrap .i64 (k30 + 1), x33.2.2.2.1.2.2.2.2.2.2.2.2.2.2.2), ())
 if 3 = 0 then none else (
 let k35 : Int := (IntKind.wrap .i64 ((IntKind.wrap .i64 (k30 + 1)) + 1)).tmod 3
 idx u34 s2.2.2 fun _ =>
(u34[(s2.2.2 : Int).toNat]?).bind fun x36 =>
 let u37 : (List T_Trigger.D) := u34.set (s2.2.2 : Int).toNat (x36.1, x36.2.1, x36.2.2.1, (x36.2.2.2.1.1, x36.2.2.2.1.2.1, x36.2.2.2.1.2.2.1, x36.2.2.2.1.2.2.2.1, x36.2.2.2.1.2.2.2.2.1, x36.2.2.2.1.2.2.2.2.2.1, x36.2.2.2.1.2.2.2.2.2.2.1, x36.2.2.2.1.2.2.2.2.2.2.2.1, x36.2.2.2.1.2.2.2.2.2.2.2.2.1, x36.2.2.2.1.2.2.2.2.2.2.2.2.2.1, x36.2.2.2.1.2.2.2.2.2.2.2.2.2.2.1, (k35 == 0), x36.2.2.2.1.2.2.2.2.2.2.2.2.2.2.2.2), ())
 let k38 : Int := IntKind.wrap .i64 ((IntKind.wrap .i64 ((IntKind.wrap .i64 (k30 + 1)) + 1)) + 1)
 if 3 = 0 then none else (
 idx u37 s2.2.2 fun _ =>
(u37[(s2.2.2 : Int).toNat]?).bind fun x39 =>
 let u40 : (List T_Trigger.D) := u37.set (s2.2.2 : Int).toNat (x39.1, x39.2.1, x39.2.2.1, (x39.2.2.2.1.1, x39.2.2.2.1.2.1, x39.2.2.2.1.2.2.1, x39.2.2.2.1.2.2.2.1, x39.2.2.2.1.2.2.2.2.1, x39.2.2.2.1.2.2.2.2.2.1, x39.2.2.2.1.2.2.2.2.2.2.1, x39.2.2.2.1.2.2.2.2.2.2.2.1, x39.2.2.2.1.2.2.2.2.2.2.2.2.1, x39.2.2.2.1.2.2.2.2.2.2.2.2.2.1, x39.2.2.2.1.2.2.2.2.2.2.2.2.2.2.1, x39.2.2.2.1.2.2.2.2.2.2.2.2.2.2.2.1, ((k38.tmod 3) == 0), ()), ())
 some (.inl (u40, IntKind.wrap .i64 (k38 + 1), IntKind.wrap .i64 (s2.2.2 + 1))))))
 else (
 some (.inr s2))
def laws_markTriggerS (a0 : (List T_Trigger.D)) (a1 : Int) : Option (Int × ((List T_Trigger.D) × Unit)) :=
(while_ (laws_markTriggerS_l1) (a0, a1, 0)).bind fun o41 =>
 some (o41.2.1, (o41.1, ()))
def laws_markTriggerS_h : Hints := (.node none none .none (.node none none (.node none none .none (.node none none (.node none (some ⟨[.tmpO 0 1 (.slice T_Trigger), .tmp 1 (.int .i64), .tmp 5 (.int .i64)], [some 0], none, []⟩) .none .none) .none)) .none))
def laws_markTriggerS_c : Ct := .mut [.lent, .rd] true true (.pair (.slice T_Trigger) (.pair (.int .i64) .unit)) (.int .i64) (fun x => laws_markTriggerS x.1 x.2.1)
theorem laws_markTriggerS_ct : CtOk Try.prog 48 laws_markTriggerS_c := mut_ct (E := { T := tab, G := [] }) (EnvOk.nil tabOk) mixed (fn := Try.f48) _ _ _ _ _ _ laws_markTriggerS_h Try.func48 (by kernel_rfl) (fun x => by kernel_rfl)
/-! loop.example/g00486/laws.markIntS -/
def laws_markIntS_l1 : ((List Int) × (Int × Int)) → Option (((List Int) × (Int × Int)) ⊕ ((List Int) × (Int × Int))) := fun s2 =>
 bif decide (s2.2.2 < (s2.1.length : Int)) then (
 idx s2.1 s2.2.2 fun _ =>
(s2.1[(s2.2.2 : Int).toNat]?).bind fun x3 =>
 let u4 : (List Int) := s2.1.set (s2.2.2 : Int).toNat s2.2.1
 some (.inl (u4, IntKind.wrap .i64 (s2.2.1 + 1), IntKind.wrap .i64 (s2.2.2 + 1))))
 else (
 some (.inr s2))
def laws_markIntS (a0 : (List Int)) (a1 : Int) : Option (Int × ((List Int) × Unit)) :=
(while_ (laws_markIntS_l1) (a0, a1, 0)).bind fun o5 =>
 some (o5.2.1, (o5.1, ()))
def laws_markIntS_h : Hints := (.node none none .none (.node none none (.node none none .none (.node none none (.node none (some ⟨[.tmpO 0 1 (.slice (.int .i64)), .tmp 1 (.int .i64), .tmp 5 (.int .i64)], [some 0], none, []⟩) .none .none) .none)) .none))
def laws_markIntS_c : Ct := .mut [.lent, .rd] true true (.pair (.slice (.int .i64)) (.pair (.int .i64) .unit)) (.int .i64) (fun x => laws_markIntS x.1 x.2.1)
theorem laws_markIntS_ct : CtOk Try.prog 49 laws_markIntS_c := mut_ct (E := { T := tab, G := [] }) (EnvOk.nil tabOk) mixed (fn := Try.f49) _ _ _ _ _ _ laws_markIntS_h Try.func49 (by kernel_rfl) (fun x => by kernel_rfl)
/-! loop.example/g00486/laws.heldTriggerS -/
def laws_heldTriggerS_l1 (a0 : (List T_Trigger.D)) : (Int × Int) → Option ((Int × Int) ⊕ ((Int × Int) ⊕ Int)) := fun s1 =>
 bif decide (s1.2 < (a0.length : Int)) then (
 idx a0 s1.2 fun x2 =>
 bif (x2.1 != s1.1) then (
 some (.inr (.inr (-1))))
 else (
 idx a0 s1.2 fun x3 =>
 bif (x3.2.1 != (IntKind.wrap .i64 (s1.1 + 1))) then (
 some (.inr (.inr (-1))))
 else (
 idx a0 s1.2 fun x4 =>
 bif (x4.2.2.1 != (IntKind.wrap .i64 ((IntKind.wrap .i64 (s1.1 + 1)) + 1))) then (
 some (.inr (.inr (-1))))
 else (
 let k5 : Int := IntKind.wrap .i64 ((IntKind.wrap .i64 ((IntKind.wrap .i64 (s1.1 + 1)) + 1)) + 1)
 idx a0 s1.2 fun x6 =>
 bif (x6.2.2.2.1.1 != k5) then (
 some (.inr (.inr (-1))))
 else (
 idx a0 s1.2 fun x7 =>
 bif (x7.2.2.2.1.2.1 != (IntKind.wrap .i64 (k5 + 1))) then (
 some (.inr (.inr (-1))))
 else (
 idx a0 s1.2 fun x8 =>
 bif (x8.2.2.2.1.2.2.1 != (IntKind.wrap .i64 ((IntKind.wrap .i64 (k5 + 1)) + 1))) then (
 some (.inr (.inr (-1))))
 else (
 let k9 : Int := IntKind.wrap .i64 ((IntKind.wrap .i64 ((IntKind.wrap .i64 (k5 + 1)) + 1)) + 1)
 idx a0 s1.2 fun x10 =>
 bif (x10.2.2.2.1.2.2.2.1 != k9) then (
 some (.inr (.inr (-1))))
 else (
 idx a0 s1.2 fun x11 =>
 bif (x11.2.2.2.1.2.2.2.2.1 != (IntKind.wrap .i64 (k9 + 1))) then (
 some (.inr (.inr (-1))))
 else (
 idx a0 s1.2 fun x12 =>
 bif (x12.2.2.2.1.2.2.2.2.2.1 != (IntKind.wrap .i64 ((IntKind.wrap .i64 (k9 + 1)) + 1))) then (
 some (.inr (.inr (-1))))
 else (
 let k13 : Int := IntKind.wrap .i64 ((IntKind.wrap .i64 ((IntKind.wrap .i64 (k9 + 1)) + 1)) + 1)
 idx a0 s1.2 fun x14 =>
 bif (x14.2.2.2.1.2.2.2.2.2.2.1 != k13) then (
 some (.inr (.inr (-1))))
 else (
 idx a0 s1.2 fun x15 =>
 bif (x15.2.2.2.1.2.2.2.2.2.2.2.1 != (IntKind.wrap .i64 (k13 + 1))) then (
 some (.inr (.inr (-1))))
 else (
 idx a0 s1.2 fun x16 =>
 bif (x16.2.2.2.1.2.2.2.2.2.2.2.2.1 != (IntKind.wrap .i64 ((IntKind.wrap .i64 (k13 + 1)) + 1))) then (
 some (.inr (.inr (-1))))
 else (
 let k17 : Int := IntKind.wrap .i64 ((IntKind.wrap .i64 ((IntKind.wrap .i64 (k13 + 1)) + 1)) + 1)
 idx a0 s1.2 fun x18 =>
 bif (x18.2.2.2.1.2.2.2.2.2.2.2.2.2.1 != k17) then (
 some (.inr (.inr (-1))))
 else (
 idx a0 s1.2 fun x19 =>
 bif (x19.2.2.2.1.2.2.2.2.2.2.2.2.2.2.1 != (IntKind.wrap .i64 (k17 + 1))) then (
 some (.inr (.inr (-1))))
 else (
 idx a0 s1.2 fun x20 =>
 if 3 = 0 then none else (
 let k21 : Int := (IntKind.wrap .i64 ((IntKind.wrap .i64 (k17 + 1)) + 1)).tmod 3
 bif (x20.2.2.2.1.2.2.2.2.2.2.2.2.2.2.2.1 != (k21 == 0)) then (
 some (.inr (.inr (-1))))
 else (
 let k22 : Int := IntKind.wrap .i64 ((IntKind.wrap .i64 ((IntKind.wrap .i64 (k17 + 1)) + 1)) + 1)
 idx a0 s1.2 fun x23 =>
 if 3 = 0 then none else (
 bif (x23.2.2.2.1.2.2.2.2.2.2.2.2.2.2.2.2.1 != ((k22.tmod 3) == 0)) then (
 some (.inr (.inr (-1))))
 else (
 some (.inl (IntKind.wrap .i64 (k22 + 1), IntKind.wrap .i64 (s1.2 + 1))))))))))))))))))))))
 else (
 some (.inr (.inl s1)))
def laws_heldTriggerS (a0 : (List T_Trigger.D)) (a1 : Int) : Option Int :=
(while_ (laws_heldTriggerS_l1 a0) (a1, 0)).bind fun o24 =>
 match o24 with
| .inl s25 => (
 some s25.1)
| .inr o26 => (
 some o26)
def laws_heldTriggerS_h : Hints := (.node none none .none (.node none none (.node none none .none (.node none none (.node none (some ⟨[.tmp 1 (.int .i64), .tmp 5 (.int .i64)], [some 0], some [.tmp 4 (.int .i64)], []⟩) .none .none) .none)) .none))
def laws_heldTriggerS_c : Ct := .pure true false (.pair (.slice T_Trigger) (.pair (.int .i64) .unit)) (.int .i64) (fun x => laws_heldTriggerS x.1 x.2.1)
theorem laws_heldTriggerS_ct : CtOk Try.prog 50 laws_heldTriggerS_c := pure_ct (E := { T := tab, G := [] }) (EnvOk.nil tabOk) mixed (fn := Try.f50) _ _ _ _ _ laws_heldTriggerS_h Try.func50 (by kernel_rfl) (fun x => by kernel_rfl)
/-! loop.example/g00486/laws.heldIntS -/
def laws_heldIntS_l1 (a0 : (List Int)) : (Int × Int) → Option ((Int × Int) ⊕ ((Int × Int) ⊕ Int)) := fun s1 =>
 bif decide (s1.2 < (a0.length : Int)) then (
 idx a0 s1.2 fun x2 =>
 bif (x2 != s1.1) then (
 some (.inr (.inr (-1))))
 else (
 some (.inl (IntKind.wrap .i64 (s1.1 + 1), IntKind.wrap .i64 (s1.2 + 1)))))
 else (
 some (.inr (.inl s1)))
def laws_heldIntS (a0 : (List Int)) (a1 : Int) : Option Int :=
(while_ (laws_heldIntS_l1 a0) (a1, 0)).bind fun o3 =>
 match o3 with
| .inl s4 => (
 some s4.1)
| .inr o5 => (
 some o5)
def laws_heldIntS_h : Hints := (.node none none .none (.node none none (.node none none .none (.node none none (.node none (some ⟨[.tmp 1 (.int .i64), .tmp 5 (.int .i64)], [some 0], some [.tmp 4 (.int .i64)], []⟩) .none .none) .none)) .none))
def laws_heldIntS_c : Ct := .pure true false (.pair (.slice (.int .i64)) (.pair (.int .i64) .unit)) (.int .i64) (fun x => laws_heldIntS x.1 x.2.1)
theorem laws_heldIntS_ct : CtOk Try.prog 51 laws_heldIntS_c := pure_ct (E := { T := tab, G := [] }) (EnvOk.nil tabOk) mixed (fn := Try.f51) _ _ _ _ _ laws_heldIntS_h Try.func51 (by kernel_rfl) (fun x => by kernel_rfl)
/-! loop.example/g00486/laws.FnExactArrange -/
def laws_FnExactArrange (a0 : T_State.D) (a1 : (List T_Trigger.D)) (a2 : (List Int)) : Option Bool :=
 bif decide ((a2.length : Int) > 1048576) then (
 some true)
 else (
(laws_szState a0 1048576).bind fun y1 =>
 bif decide (y1 < 0) then (
 some true)
 else (
(laws_szTriggerS a1 y1).bind fun y2 =>
 bif decide (y2 < 0) then (
 some true)
 else (
(laws_toState a0).bind fun y3 =>
(laws_toTriggerS a1).bind fun y4 =>
(laws_toIntS a2).bind fun y5 =>
(spec_Arrange y3 y4 y5).bind fun y6 =>
(laws_toState a0).bind fun y7 =>
(laws_toTriggerS a1).bind fun y8 =>
(laws_toIntS a2).bind fun y9 =>
(impl_Arrange y7 y8 y9).bind fun y10 =>
(((laws_eqTriggerS y10.1 y6.1).bind fun y11 =>
 bif (!y11) then (
 some true)
 else (
(laws_eqIntS y10.2.1 y6.2.1).bind fun y12 =>
 some (!y12))) : Option Bool).bind fun o13 =>
 bif o13 then (
 some false)
 else (
(laws_toState a0).bind fun y14 =>
(laws_eqState y7 y14).bind fun y15 =>
 bif (!y15) then (
 some false)
 else (
(laws_toTriggerS a1).bind fun y16 =>
(laws_eqTriggerS y8 y16).bind fun y17 =>
 bif (!y17) then (
 some false)
 else (
(laws_toIntS a2).bind fun y18 =>
(laws_eqIntS y9 y18).bind fun y19 =>
 bif (!y19) then (
 some false)
 else (
(laws_markState y7 1).bind fun y20 =>
(laws_markTriggerS y8 y20.1).bind fun y21 =>
(laws_markIntS y9 y21.1).bind fun y22 =>
((bif decide (y22.1 < 0) then (
 some true)
 else (
(laws_eqTriggerS y10.1 y6.1).bind fun y23 =>
 bif (!y23) then (
 some true)
 else (
(laws_eqIntS y10.2.1 y6.2.1).bind fun y24 =>
 some (!y24)))) : Option Bool).bind fun o25 =>
 bif o25 then (
 some false)
 else (
(laws_markTriggerS y10.1 1).bind fun y26 =>
(laws_markIntS y10.2.1 y26.1).bind fun y27 =>
(laws_heldTriggerS y26.2.1 1).bind fun y28 =>
 bif decide (y28 < 0) then (
 some false)
 else (
(laws_heldIntS y27.2.1 y28).bind fun y29 =>
 bif decide (y29 < 0) then (
 some false)
 else (
 bif (y29 != y27.1) then (
 some false)
 else (
(laws_toState a0).bind fun y30 =>
(laws_toTriggerS a1).bind fun y31 =>
(laws_toIntS a2).bind fun y32 =>
(impl_Arrange y30 y31 y32).bind fun y33 =>
(((laws_eqTriggerS y33.1 y6.1).bind fun y34 =>
 bif (!y34) then (
 some true)
 else (
(laws_eqIntS y33.2.1 y6.2.1).bind fun y35 =>
 some (!y35))) : Option Bool).bind fun o36 =>
 bif o36 then (
 some false)
 else (
(laws_heldTriggerS y26.2.1 1).bind fun y37 =>
 bif decide (y37 < 0) then (
 some false)
 else (
(laws_heldIntS y27.2.1 y37).bind fun y38 =>
 bif decide (y38 < 0) then (
 some false)
 else (
 bif (y38 != y27.1) then (
 some false)
 else (
 some true)))))))))))))))
def laws_FnExactArrange_h : Hints := (.node none none .none (.node none none .none (.node none none .none (.node none none .none (.node none none .none (.node none none .none (.node none none .none (.node none none .none (.node none none .none (.node none none .none (.node none none .none (.node none none .none (.node none none (.node none none (.node (some ⟨[.tmp 65 .bool], [none], none, []⟩) none .none .none) .none) (.node none none .none (.node none none .none (.node none none .none (.node none none .none (.node none none .none (.node none none .none (.node none none .none (.node none none (.node none none (.node (some ⟨[.tmp 103 .bool], [none], none, []⟩) none .none .none) .none) (.node none none .none (.node none none .none (.node none none .none (.node none none .none (.node none none .none (.node none none .none (.node none none .none (.node none none .none (.node none none .none (.node none none .none (.node none none (.node none none (.node (some ⟨[.tmp 142 .bool], [none], none, []⟩) none .none .none) .none) .none))))))))))))))))))))))))))))))))
def laws_FnExactArrange_c : Ct := .pure true false (.pair T_State (.pair (.slice T_Trigger) (.pair (.slice (.int .i64)) .unit))) .bool (fun x => laws_FnExactArrange x.1 x.2.1 x.2.2.1)
theorem laws_FnExactArrange_ct : CtOk Try.prog 10 laws_FnExactArrange_c := pure_ct (E := { T := tab, G := [(14, laws_szState_c), (16, laws_toState_fresh_c), (18, laws_eqState_c), (34, laws_markState_c), (41, laws_szTriggerS_c), (42, spec_Arrange_fresh_c), (43, laws_toTriggerS_fresh_c), (44, laws_toIntS_fresh_c), (45, impl_Arrange_fresh_c), (46, laws_eqTriggerS_c), (47, laws_eqIntS_c), (48, laws_markTriggerS_c), (49, laws_markIntS_c), (50, laws_heldTriggerS_c), (51, laws_heldIntS_c)] }) (EnvOk.cons laws_szState_ct (EnvOk.cons laws_toState_fresh_ct (EnvOk.cons laws_eqState_ct (EnvOk.cons laws_markState_ct (EnvOk.cons laws_szTriggerS_ct (EnvOk.cons spec_Arrange_fresh_ct (EnvOk.cons laws_toTriggerS_fresh_ct (EnvOk.cons laws_toIntS_fresh_ct (EnvOk.cons impl_Arrange_fresh_ct (EnvOk.cons laws_eqTriggerS_ct (EnvOk.cons laws_eqIntS_ct (EnvOk.cons laws_markTriggerS_ct (EnvOk.cons laws_markIntS_ct (EnvOk.cons laws_heldTriggerS_ct (EnvOk.cons laws_heldIntS_ct (EnvOk.nil tabOk)))))))))))))))) mixed (fn := Try.f10) _ _ _ _ _ laws_FnExactArrange_h Try.func10 (by kernel_rfl) (fun x => by kernel_rfl)
/-! loop.example/g00486/laws.szNoteS -/
def laws_szNoteS (a0 : (List T_Note.D)) (a1 : Int) : Option Int :=
 bif decide ((IntKind.wrap .i64 (a1 - (a0.length : Int))) < 0) then (
 some (-1))
 else (
 some (IntKind.wrap .i64 (a1 - (a0.length : Int))))
def laws_szNoteS_c : Ct := .pure true false (.pair (.slice T_Note) (.pair (.int .i64) .unit)) (.int .i64) (fun x => laws_szNoteS x.1 x.2.1)
theorem laws_szNoteS_ct : CtOk Try.prog 52 laws_szNoteS_c := pure_ct (E := { T := tab, G := [] }) (EnvOk.nil tabOk) mixed (fn := Try.f52) _ _ _ _ _ .none Try.func52 (by kernel_rfl) (fun x => by kernel_rfl)
/-! loop.example/g00486/laws.toEvent -/
def laws_toEvent (a0 : T_Event.D) : Option T_Event.D :=
 some a0
def laws_toEvent_c : Ct := .pure true false (.pair T_Event .unit) T_Event (fun x => laws_toEvent x.1)
theorem laws_toEvent_ct : CtOk Try.prog 32 laws_toEvent_c := pure_ct (E := { T := tab, G := [] }) (EnvOk.nil tabOk) mixed (fn := Try.f32) _ _ _ _ _ .none Try.func32 (by kernel_rfl) (fun x => by kernel_rfl)
/-! loop.example/g00486/laws.toNote -/
def laws_toNote (a0 : T_Note.D) : Option T_Note.D :=
(laws_toEvent a0.2.1).bind fun y1 =>
(laws_toPiece a0.2.2.2.2.1).bind fun y2 =>
 some (a0.1, y1, a0.2.2.1, a0.2.2.2.1, y2, ())
def laws_toNote_c : Ct := .pure true false (.pair T_Note .unit) T_Note (fun x => laws_toNote x.1)
theorem laws_toNote_ct : CtOk Try.prog 134 laws_toNote_c := pure_ct (E := { T := tab, G := [(32, laws_toEvent_c), (39, laws_toPiece_c)] }) (EnvOk.cons laws_toEvent_ct (EnvOk.cons laws_toPiece_ct (EnvOk.nil tabOk))) mixed (fn := Try.f134) _ _ _ _ _ .none Try.func134 (by kernel_rfl) (fun x => by kernel_rfl)
/-! loop.example/g00486/laws.toNoteS -/
def laws_toNoteS_l1 (a0 : (List T_Note.D)) : ((List T_Note.D) × Int) → Option (((List T_Note.D) × Int) ⊕ ((List T_Note.D) × Int)) := fun s2 =>
 bif decide (s2.2 < (a0.length : Int)) then (
 idx a0 s2.2 fun x3 =>
(laws_toNote x3).bind fun y4 =>
 idx s2.1 s2.2 fun _ =>
(s2.1[(s2.2 : Int).toNat]?).bind fun x5 =>
 let u6 : (List T_Note.D) := s2.1.set (s2.2 : Int).toNat y4
 some (.inl (u6, IntKind.wrap .i64 (s2.2 + 1))))
 else (
 some (.inr s2))
def laws_toNoteS (a0 : (List T_Note.D)) : Option (List T_Note.D) :=
 if 0 ≤ (a0.length : Int) then (if ((a0.length : Int)).toNat * (24 * 23) ≤ room then (
(while_ (laws_toNoteS_l1 a0) ((List.replicate ((a0.length : Int)).toNat (0, (0, 0, 0, 0, 0, 0, false, ()), 0, 0, (0, 0, 0, 0, 0, 0, 0, 0, 0, 0, 0, false, false, ()), ())), 0)).bind fun o7 =>
 some o7.1) else none) else none
def laws_toNoteS_h : Hints := (.node none none .none (.node none none .none (.node none none (.node none none .none (.node none none (.node none (some ⟨[.tmpO 3 0 (.slice T_Note), .tmp 4 (.int .i64)], [some 0], none, []⟩) .none .none) .none)) .none)))
def laws_toNoteS_c : Ct := .pure true false (.pair (.slice T_Note) .unit) (.slice T_Note) (fun x => laws_toNoteS x.1)
theorem laws_toNoteS_ct : CtOk Try.prog 54 laws_toNoteS_c := pure_ct (E := { T := tab, G := [(134, laws_toNote_c)] }) (EnvOk.cons laws_toNote_ct (EnvOk.nil tabOk)) mixed (fn := Try.f54) _ _ _ _ _ laws_toNoteS_h Try.func54 (by kernel_rfl) (fun x => by kernel_rfl)
def laws_toNoteS_fresh_c : Ct := .pure true true (.pair (.slice T_Note) .unit) (.slice T_Note) (fun x => laws_toNoteS x.1)
theorem laws_toNoteS_fresh_ct : CtOk Try.prog 54 laws_toNoteS_fresh_c := pure_ct (E := { T := tab, G := [(134, laws_toNote_c)] }) (EnvOk.cons laws_toNote_ct (EnvOk.nil tabOk)) mixed (fn := Try.f54) _ _ _ _ _ laws_toNoteS_h Try.func54 (by kernel_rfl) (fun x => by kernel_rfl)
/-! loop.example/g00486/spec.l18Left -/
def spec_l18Left (a0 : T_Note.D) : Option Bool :=
 bif (a0.1 == 6) then (
 some true)
 else (
 bif (a0.1 == 3) then (
 bif (a0.2.2.2.2.1.2.2.2.1 == 2) then (
 some (a0.2.1.2.2.2.2.2.1 != 2))
 else (
 some false))
 else (
 some false))
def spec_l18Left_c : Ct := .pure true false (.pair T_Note .unit) .bool (fun x => spec_l18Left x.1)
theorem spec_l18Left_ct : CtOk Try.prog 132 spec_l18Left_c := pure_ct (E := { T := tab, G := [] }) (EnvOk.nil tabOk) mixed (fn := Try.f132) _ _ _ _ _ .none Try.func132 (by kernel_rfl) (fun x => by kernel_rfl)
/-! loop.example/g00486/spec.HasTrait -/
def spec_HasTrait (a0 : T_Piece.D) (a1 : Int) : Option Bool :=
 bif (a1 == 1) then (
 let k1 : Int := IntKind.wrap .i64 (BitVec.ofInt (IntKind.bits .i64) a0.2.2.2.2.2.2.2.1 &&& BitVec.ofInt (IntKind.bits .i64) a1).toNat
 some (k1 != 0))
 else (
 bif (a1 == 2) then (
 let k2 : Int := IntKind.wrap .i64 (BitVec.ofInt (IntKind.bits .i64) a0.2.2.2.2.2.2.2.1 &&& BitVec.ofInt (IntKind.bits .i64) a1).toNat
 some (k2 != 0))
 else (
 bif (a1 == 4) then (
 let k3 : Int := IntKind.wrap .i64 (BitVec.ofInt (IntKind.bits .i64) a0.2.2.2.2.2.2.2.1 &&& BitVec.ofInt (IntKind.bits .i64) a1).toNat
 some (k3 != 0))
 else (
 bif (a1 == 8) then (
 let k4 : Int := IntKind.wrap .i64 (BitVec.ofInt (IntKind.bits .i64) a0.2.2.2.2.2.2.2.1 &&& BitVec.ofInt (IntKind.bits .i64) a1).toNat
 some (k4 != 0))
 else (
 bif (a1 == 16) then (
 let k5 : Int := IntKind.wrap .i64 (BitVec.ofInt (IntKind.bits .i64) a0.2.2.2.2.2.2.2.1 &&& BitVec.ofInt (IntKind.bits .i64) a1).toNat
 some (k5 != 0))
 else (
 bif (a1 == 32) then (
 let k6 : Int := IntKind.wrap .i64 (BitVec.ofInt (IntKind.bits .i64) a0.2.2.2.2.2.2.2.1 &&& BitVec.ofInt (IntKind.bits .i64) a1).toNat
 some (k6 != 0))
 else (
 some false))))))
def spec_HasTrait_c : Ct := .pure true false (.pair T_Piece (.pair (.int .i64) .unit)) .bool (fun x => spec_HasTrait x.1 x.2.1)
theorem spec_HasTrait_ct : CtOk Try.prog 114 spec_HasTrait_c := pure_ct (E := { T := tab, G := [] }) (EnvOk.nil tabOk) mixed (fn := Try.f114) _ _ _ _ _ .none Try.func114 (by kernel_rfl) (fun x => by kernel_rfl)
/-! loop.example/g00486/spec.PieceAt -/
def spec_PieceAt_l1 (a0 : T_State.D) (a1 : Int) : Int → Option (Int ⊕ (Int ⊕ Int)) := fun s1 =>
 bif decide (s1 < (a0.1.length : Int)) then (
 idx a0.1 s1 fun x2 =>
 bif (x2.1 == a1) then (
 some (.inr (.inr s1)))
 else (
 some (.inl (IntKind.wrap .i64 (s1 + 1)))))
 else (
 some (.inr (.inl s1)))
def spec_PieceAt (a0 : T_State.D) (a1 : Int) : Option Int :=
(while_ (spec_PieceAt_l1 a0 a1) 0).bind fun o3 =>
 match o3 with
| .inl s4 => (
 some (-1))
| .inr o5 => (
 some o5)
def spec_PieceAt_h : Hints := (.node none none .none (.node none none (.node none none .none (.node none none (.node none (some ⟨[.tmp 5 (.int .i64)], [some 0], some [.tmp 4 (.int .i64)], []⟩) .none .none) .none)) .none))
def spec_PieceAt_c : Ct := .pure true false (.pair T_State (.pair (.int .i64) .unit)) (.int .i64) (fun x => spec_PieceAt x.1 x.2.1)
theorem spec_PieceAt_ct : CtOk Try.prog 95 spec_PieceAt_c := pure_ct (E := { T := tab, G := [] }) (EnvOk.nil tabOk) mixed (fn := Try.f95) _ _ _ _ _ spec_PieceAt_h Try.func95 (by kernel_rfl) (fun x => by kernel_rfl)
/-! loop.example/g00486/spec.Source -/
def spec_Source (a0 : T_State.D) (a1 : T_Event.D) : Option T_Piece.D :=
(spec_PieceAt a0 a1.2.1).bind fun y1 =>
((bif (a1.1 != 1) then (
 some true)
 else (
 some (decide (y1 < 0)))) : Option Bool).bind fun o2 =>
 bif o2 then (
 some (0, 0, 0, 0, 0, 0, 0, 0, 0, 0, 0, false, false, ()))
 else (
 idx a0.1 y1 fun x3 =>
 some x3)
def spec_Source_h : Hints := (.node none none .none (.node none none .none (.node none none (.node none none (.node (some ⟨[.tmp 16 .bool], [none], none, []⟩) none .none .none) .none) .none)))
def spec_Source_c : Ct := .pure true false (.pair T_State (.pair T_Event .unit)) T_Piece (fun x => spec_Source x.1 x.2.1)
theorem spec_Source_ct : CtOk Try.prog 133 spec_Source_c := pure_ct (E := { T := tab, G := [(95, spec_PieceAt_c)] }) (EnvOk.cons spec_PieceAt_ct (EnvOk.nil tabOk)) mixed (fn := Try.f133) _ _ _ _ _ spec_Source_h Try.func133 (by kernel_rfl) (fun x => by kernel_rfl)
/-! loop.example/g00486/spec.Seen -/
def spec_Seen_l1 (a0 : T_State.D) (a1 : (List T_Note.D)) : ((List T_Trigger.D) × Int) → Option (((List T_Trigger.D) × Int) ⊕ ((List T_Trigger.D) × Int)) := fun s1 =>
 bif decide (s1.2 < (a1.length : Int)) then (
 idx a1 s1.2 fun x2 =>
(((spec_l18Left x2).bind fun y3 =>
 bif y3 then (
(spec_HasTrait x2.2.2.2.2.1 16).bind fun y4 =>
 some y4)
 else (
 some false)) : Option Bool).bind fun o5 =>
((bif o5 then (
 if (s1.1.length + ([(1, x2.2.2.2.2.1.2.2.1, 0, x2.2.2.2.2)] : List T_Trigger.D).length) * (24 * 16) ≤ room then (
 some (s1.1 ++ ([(1, x2.2.2.2.2.1.2.2.1, 0, x2.2.2.2.2)] : List T_Trigger.D))) else none)
 else (
 some s1.1)) : Option (List T_Trigger.D)).bind fun o6 =>
((bif (x2.1 == 1) then (
 some (decide (x2.2.2.1 ≥ 1)))
 else (
 some false)) : Option Bool).bind fun o7 =>
((bif o7 then (
(spec_Source a0 x2.2.1).bind fun y8 =>
(spec_HasTrait y8 32).bind fun y9 =>
((bif y9 then (
 if (o6.length + ([(2, y8.2.2.1, x2.2.2.1, y8, ())] : List T_Trigger.D).length) * (24 * 16) ≤ room then (
 some (o6 ++ ([(2, y8.2.2.1, x2.2.2.1, y8, ())] : List T_Trigger.D))) else none)
 else (
 some o6)) : Option (List T_Trigger.D)).bind fun o10 =>
 some o10)
 else (
 some o6)) : Option (List T_Trigger.D)).bind fun o11 =>
 some (.inl (o11, IntKind.wrap .i64 (s1.2 + 1))))
 else (
 some (.inr s1))
def spec_Seen (a0 : T_State.D) (a1 : (List T_Note.D)) : Option (List T_Trigger.D) :=
(while_ (spec_Seen_l1 a0 a1) ([], 0)).bind fun o12 =>
 some o12.1
def spec_Seen_h : Hints := (.node none none .none (.node none none .none (.node none none (.node none none .none (.node none none (.node none (some ⟨[.tmpO 5 0 (.slice T_Trigger), .tmp 6 (.int .i64)], [some 0], none, []⟩) (.node none none .none (.node none none (.node none none (.node none none .none (.node none none (.node none none (.node (some ⟨[.tmp 26 .bool], [none], none, []⟩) none .none .none) (.node (some ⟨[.tmpO 5 1 (.slice T_Trigger)], [none], none, [(5, 0)]⟩) none .none .none)) (.node none none (.node (some ⟨[.tmp 43 .bool], [none], none, []⟩) none .none .none) (.node (some ⟨[.tmpO 5 2 (.slice T_Trigger)], [none], none, [(5, 1)]⟩) none (.node none none .none (.node none none .none (.node (some ⟨[.tmpO 5 2 (.slice T_Trigger)], [none], none, [(5, 1)]⟩) none .none .none))) .none)))) .none) .none)) .none) .none)) .none)))
def spec_Seen_c : Ct := .pure true false (.pair T_State (.pair (.slice T_Note) .unit)) (.slice T_Trigger) (fun x => spec_Seen x.1 x.2.1)
theorem spec_Seen_ct : CtOk Try.prog 53 spec_Seen_c := pure_ct (E := { T := tab, G := [(114, spec_HasTrait_c), (132, spec_l18Left_c), (133, spec_Source_c)] }) (EnvOk.cons spec_HasTrait_ct (EnvOk.cons spec_l18Left_ct (EnvOk.cons spec_Source_ct (EnvOk.nil tabOk)))) mixed (fn := Try.f53) _ _ _ _ _ spec_Seen_h Try.func53 (by kernel_rfl) (fun x => by kernel_rfl)
def spec_Seen_fresh_c : Ct := .pure true true (.pair T_State (.pair (.slice T_Note) .unit)) (.slice T_Trigger) (fun x => spec_Seen x.1 x.2.1)
theorem spec_Seen_fresh_ct : CtOk Try.prog 53 spec_Seen_fresh_c := pure_ct (E := { T := tab, G := [(114, spec_HasTrait_c), (132, spec_l18Left_c), (133, spec_Source_c)] }) (EnvOk.cons spec_HasTrait_ct (EnvOk.cons spec_l18Left_ct (EnvOk.cons spec_Source_ct (EnvOk.nil tabOk)))) mixed (fn := Try.f53) _ _ _ _ _ spec_Seen_h Try.func53 (by kernel_rfl) (fun x => by kernel_rfl)
/-! slices.IndexFunc[[]loop.example/g00486/impl.Piece,loop.example/g00486/impl.Piece] -/
def slices_IndexFunc_impl_Piece_l1 (a0 : (List T_Piece.D)) (a1 : ((T_Piece.D × Unit) → Option Bool)) : Int → Option (Int ⊕ (Int ⊕ Int)) := fun s1 =>
 bif decide (s1 < (a0.length : Int)) then (
 idx a0 s1 fun x2 =>
(a1 (x2, ())).bind fun y3 =>
 bif y3 then (
 some (.inr (.inr s1)))
 else (
 some (.inl (IntKind.wrap .i64 (s1 + 1)))))
 else (
 some (.inr (.inl s1)))
def slices_IndexFunc_impl_Piece (a0 : (List T_Piece.D)) (a1 : ((T_Piece.D × Unit) → Option Bool)) : Option Int :=
(while_ (slices_IndexFunc_impl_Piece_l1 a0 a1) 0).bind fun o4 =>
 match o4 with
| .inl s5 => (
 some (-1))
| .inr o6 => (
 some o6)
def slices_IndexFunc_impl_Piece_h : Hints := (.node none none .none (.node none none (.node none none .none (.node none none (.node none (some ⟨[.tmp 8 (.int .i64)], [some 0], some [.tmp 4 (.int .i64)], []⟩) .none .none) .none)) .none))
def slices_IndexFunc_impl_Piece_c : Ct := .pure true false (.pair (.slice T_Piece) (.pair (.fn (.pair T_Piece .unit) .bool) .unit)) (.int .i64) (fun x => slices_IndexFunc_impl_Piece x.1 x.2.1)
theorem slices_IndexFunc_impl_Piece_ct : CtOk Try.prog 164 slices_IndexFunc_impl_Piece_c := pure_ct (E := { T := tab, G := [] }) (EnvOk.nil tabOk) mixed (fn := Try.f164) _ _ _ _ _ slices_IndexFunc_impl_Piece_h Try.func164 (by kernel_rfl) (fun x => by kernel_rfl)
/-! loop.example/g00486/impl.PieceAt$1 -/
def impl_PieceAt_1 (z0 : Int) (a0 : T_Piece.D) : Option Bool :=
 some (a0.1 == z0)
def impl_PieceAt_1_c : Ct := .clo (.pair T_Piece .unit) (.pair (.int .i64) .unit) .bool (fun z x => impl_PieceAt_1 z.1 x.1)
theorem impl_PieceAt_1_ct : CtOk Try.prog 165 impl_PieceAt_1_c := clo_ct (E := { T := tab, G := [] }) (EnvOk.nil tabOk) mixed (fn := Try.f165) _ _ _ _ .none Try.func165 (by kernel_rfl) (fun z x => by kernel_rfl)
/-! loop.example/g00486/impl.PieceAt -/
def impl_PieceAt (a0 : T_State.D) (a1 : Int) : Option Int :=
(slices_IndexFunc_impl_Piece a0.1 (fun q => impl_PieceAt_1 a1 q.1)).bind fun y1 =>
 some y1
def impl_PieceAt_c : Ct := .pure true false (.pair T_State (.pair (.int .i64) .unit)) (.int .i64) (fun x => impl_PieceAt x.1 x.2.1)
theorem impl_PieceAt_ct : CtOk Try.prog 100 impl_PieceAt_c := pure_ct (E := { T := tab, G := [(164, slices_IndexFunc_impl_Piece_c), (165, impl_PieceAt_1_c)] }) (EnvOk.cons slices_IndexFunc_impl_Piece_ct (EnvOk.cons impl_PieceAt_1_ct (EnvOk.nil tabOk))) mixed (fn := Try.f100) _ _ _ _ _ .none Try.func100 (by kernel_rfl) (fun x => by kernel_rfl)
/-! loop.example/g00486/impl.Source -/
def impl_Source (a0 : T_State.D) (a1 : T_Event.D) : Option T_Piece.D :=
(impl_PieceAt a0 a1.2.1).bind fun y1 =>
((bif (a1.1 != 1) then (
 some true)
 else (
 some (decide (y1 < 0)))) : Option Bool).bind fun o2 =>
 bif o2 then (
 some (0, 0, 0, 0, 0, 0, 0, 0, 0, 0, 0, false, false, ()))
 else (
 idx a0.1 y1 fun x3 =>
 some x3)
def impl_Source_h : Hints := (.node none none .none (.node none none .none (.node none none (.node none none (.node (some ⟨[.tmp 16 .bool], [none], none, []⟩) none .none .none) .none) .none)))
def impl_Source_c : Ct := .pure true false (.pair T_State (.pair T_Event .unit)) T_Piece (fun x => impl_Source x.1 x.2.1)
theorem impl_Source_ct : CtOk Try.prog 135 impl_Source_c := pure_ct (E := { T := tab, G := [(100, impl_PieceAt_c)] }) (EnvOk.cons impl_PieceAt_ct (EnvOk.nil tabOk)) mixed (fn := Try.f135) _ _ _ _ _ impl_Source_h Try.func135 (by kernel_rfl) (fun x => by kernel_rfl)
/-! loop.example/g00486/impl.left -/
def impl_left (a0 : T_Note.D) : Option Bool :=
 bif (a0.1 == 6) then (
 some true)
 else (
 bif (a0.1 == 3) then (
 bif (a0.2.2.2.2.1.2.2.2.1 == 2) then (
 some (a0.2.1.2.2.2.2.2.1 != 2))
 else (
 some false))
 else (
 some false))
def impl_left_c : Ct := .pure true false (.pair T_Note .unit) .bool (fun x => impl_left x.1)
theorem impl_left_ct : CtOk Try.prog 136 impl_left_c := pure_ct (E := { T := tab, G := [] }) (EnvOk.nil tabOk) mixed (fn := Try.f136) _ _ _ _ _ .none Try.func136 (by kernel_rfl) (fun x => by kernel_rfl)
/-! loop.example/g00486/impl.HasTrait -/
def impl_HasTrait (a0 : T_Piece.D) (a1 : Int) : Option Bool :=
((bif (a1 == 1) then (
 some (a1 == 1))
 else (
((bif (a1 == 2) then (
 some (a1 == 2))
 else (
((bif (a1 == 4) then (
 some (a1 == 4))
 else (
((bif (a1 == 8) then (
 some (a1 == 8))
 else (
((bif (a1 == 16) then (
 some (a1 == 16))
 else (
 some (a1 == 32))) : Option Bool).bind fun o1 =>
 some o1)) : Option Bool).bind fun o2 =>
 some o2)) : Option Bool).bind fun o3 =>
 some o3)) : Option Bool).bind fun o4 =>
 some o4)) : Option Bool).bind fun o5 =>
 bif o5 then (
 let k6 : Int := IntKind.wrap .i64 (BitVec.ofInt (IntKind.bits .i64) a0.2.2.2.2.2.2.2.1 &&& BitVec.ofInt (IntKind.bits .i64) a1).toNat
 some (k6 != 0))
 else (
 some false)
def impl_HasTrait_h : Hints := (.node none none .none (.node none none (.node none none .none (.node none none (.node none none (.node none none .none (.node (some ⟨[.tmp 6 .bool], [none], none, []⟩) none .none (.node none none .none (.node (some ⟨[.tmp 6 .bool], [none], none, []⟩) none .none (.node none none .none (.node (some ⟨[.tmp 6 .bool], [none], none, []⟩) none .none (.node none none .none (.node (some ⟨[.tmp 6 .bool], [none], none, []⟩) none .none (.node none none .none (.node (some ⟨[.tmp 6 .bool], [none], none, []⟩) none .none .none)))))))))) .none) .none)) .none))
def impl_HasTrait_c : Ct := .pure true false (.pair T_Piece (.pair (.int .i64) .unit)) .bool (fun x => impl_HasTrait x.1 x.2.1)
theorem impl_HasTrait_ct : CtOk Try.prog 116 impl_HasTrait_c := pure_ct (E := { T := tab, G := [] }) (EnvOk.nil tabOk) mixed (fn := Try.f116) _ _ _ _ _ impl_HasTrait_h Try.func116 (by kernel_rfl) (fun x => by kernel_rfl)
/-! loop.example/g00486/impl.Seen -/
def impl_Seen_l1 (a0 : T_State.D) (a1 : (List T_Note.D)) : ((List T_Trigger.D) × Int) → Option (((List T_Trigger.D) × Int) ⊕ ((List T_Trigger.D) × Int)) := fun s1 =>
 bif decide (s1.2 < (a1.length : Int)) then (
 idx a1 s1.2 fun x2 =>
(impl_Source a0 x2.2.1).bind fun y3 =>
(((impl_left x2).bind fun y4 =>
 bif y4 then (
(impl_HasTrait x2.2.2.2.2.1 16).bind fun y5 =>
 some y5)
 else (
 some false)) : Option Bool).bind fun o6 =>
 bif o6 then (
 if (s1.1.length + ([(1, x2.2.2.2.2.1.2.2.1, 0, x2.2.2.2.2)] : List T_Trigger.D).length) * (24 * 16) ≤ room then (
 some (.inl ((s1.1 ++ ([(1, x2.2.2.2.2.1.2.2.1, 0, x2.2.2.2.2)] : List T_Trigger.D)), IntKind.wrap .i64 (s1.2 + 1)))) else none)
 else (
((bif (x2.1 == 1) then (
 bif decide (x2.2.2.1 ≥ 1) then (
(impl_HasTrait y3 32).bind fun y7 =>
 some y7)
 else (
 some false))
 else (
 some false)) : Option Bool).bind fun o8 =>
 bif o8 then (
 if (s1.1.length + ([(2, y3.2.2.1, x2.2.2.1, y3, ())] : List T_Trigger.D).length) * (24 * 16) ≤ room then (
 some (.inl ((s1.1 ++ ([(2, y3.2.2.1, x2.2.2.1, y3, ())] : List T_Trigger.D)), IntKind.wrap .i64 (s1.2 + 1)))) else none)
 else (
 some (.inl (s1.1, IntKind.wrap .i64 (s1.2 + 1))))))
 else (
 some (.inr s1))
def impl_Seen (a0 : T_State.D) (a1 : (List T_Note.D)) : Option (List T_Trigger.D) :=
(while_ (impl_Seen_l1 a0 a1) ([], 0)).bind fun o9 =>
 some o9.1
def impl_Seen_h : Hints := (.node none none .none (.node none none .none (.node none none (.node none none .none (.node none none (.node none (some ⟨[.tmpO 5 0 (.slice T_Trigger), .tmp 12 (.int .i64)], [some 0], none, []⟩) (.node none none .none (.node none none .none (.node none none (.node none none (.node none none .none (.node none none .none (.node none none (.node none none (.node (some ⟨[.tmp 20 .bool], [none], none, []⟩) none .none .none) (.node none none .none (.node none none (.node (some ⟨[.tmp 37 .bool], [none], none, []⟩) none .none .none) .none))) .none))) .none) .none))) .none) .none)) .none)))
def impl_Seen_c : Ct := .pure true false (.pair T_State (.pair (.slice T_Note) .unit)) (.slice T_Trigger) (fun x => impl_Seen x.1 x.2.1)
theorem impl_Seen_ct : CtOk Try.prog 55 impl_Seen_c := pure_ct (E := { T := tab, G := [(116, impl_HasTrait_c), (135, impl_Source_c), (136, impl_left_c)] }) (EnvOk.cons impl_HasTrait_ct (EnvOk.cons impl_Source_ct (EnvOk.cons impl_left_ct (EnvOk.nil tabOk)))) mixed (fn := Try.f55) _ _ _ _ _ impl_Seen_h Try.func55 (by kernel_rfl) (fun x => by kernel_rfl)
def impl_Seen_fresh_c : Ct := .pure true true (.pair T_State (.pair (.slice T_Note) .unit)) (.slice T_Trigger) (fun x => impl_Seen x.1 x.2.1)
theorem impl_Seen_fresh_ct : CtOk Try.prog 55 impl_Seen_fresh_c := pure_ct (E := { T := tab, G := [(116, impl_HasTrait_c), (135, impl_Source_c), (136, impl_left_c)] }) (EnvOk.cons impl_HasTrait_ct (EnvOk.cons impl_Source_ct (EnvOk.cons impl_left_ct (EnvOk.nil tabOk)))) mixed (fn := Try.f55) _ _ _ _ _ impl_Seen_h Try.func55 (by kernel_rfl) (fun x => by kernel_rfl)
/-! loop.example/g00486/laws.eqEvent -/
def laws_eqEvent (a0 : T_Event.D) (a1 : T_Event.D) : Option Bool :=
 bif (a0.1 != a1.1) then (
 some false)
 else (
 bif (a0.2.1 != a1.2.1) then (
 some false)
 else (
 bif (a0.2.2.1 != a1.2.2.1) then (
 some false)
 else (
 bif (a0.2.2.2.1 != a1.2.2.2.1) then (
 some false)
 else (
 bif (a0.2.2.2.2.1 != a1.2.2.2.2.1) then (
 some false)
 else (
 bif (a0.2.2.2.2.2.1 != a1.2.2.2.2.2.1) then (
 some false)
 else (
 bif (a0.2.2.2.2.2.2.1 != a1.2.2.2.2.2.2.1) then (
 some false)
 else (
 some true)))))))
def laws_eqEvent_c : Ct := .pure true false (.pair T_Event (.pair T_Event .unit)) .bool (fun x => laws_eqEvent x.1 x.2.1)
theorem laws_eqEvent_ct : CtOk Try.prog 148 laws_eqEvent_c := pure_ct (E := { T := tab, G := [] }) (EnvOk.nil tabOk) mixed (fn := Try.f148) _ _ _ _ _ .none Try.func148 (by kernel_rfl) (fun x => by kernel_rfl)
/-! loop.example/g00486/laws.eqNote -/
def laws_eqNote (a0 : T_Note.D) (a1 : T_Note.D) : Option Bool :=
 bif (a0.1 != a1.1) then (
 some false)
 else (
(laws_eqEvent a0.2.1 a1.2.1).bind fun y1 =>
 bif (!y1) then (
 some false)
 else (
 bif (a0.2.2.1 != a1.2.2.1) then (
 some false)
 else (
 bif (a0.2.2.2.1 != a1.2.2.2.1) then (
 some false)
 else (
(laws_eqPiece a0.2.2.2.2.1 a1.2.2.2.2.1).bind fun y2 =>
 bif (!y2) then (
 some false)
 else (
 some true)))))
def laws_eqNote_c : Ct := .pure true false (.pair T_Note (.pair T_Note .unit)) .bool (fun x => laws_eqNote x.1 x.2.1)
theorem laws_eqNote_ct : CtOk Try.prog 137 laws_eqNote_c := pure_ct (E := { T := tab, G := [(142, laws_eqPiece_c), (148, laws_eqEvent_c)] }) (EnvOk.cons laws_eqPiece_ct (EnvOk.cons laws_eqEvent_ct (EnvOk.nil tabOk))) mixed (fn := Try.f137) _ _ _ _ _ .none Try.func137 (by kernel_rfl) (fun x => by kernel_rfl)
/-! loop.example/g00486/laws.eqNoteS -/
def laws_eqNoteS_l1 (a0 : (List T_Note.D)) (a1 : (List T_Note.D)) : Int → Option (Int ⊕ (Int ⊕ Bool)) := fun s1 =>
 bif decide (s1 < (a0.length : Int)) then (
 idx a0 s1 fun x2 =>
 idx a1 s1 fun x3 =>
(laws_eqNote x2 x3).bind fun y4 =>
 bif (!y4) then (
 some (.inr (.inr false)))
 else (
 some (.inl (IntKind.wrap .i64 (s1 + 1)))))
 else (
 some (.inr (.inl s1)))
def laws_eqNoteS (a0 : (List T_Note.D)) (a1 : (List T_Note.D)) : Option Bool :=
 bif ((a0.length : Int) != (a1.length : Int)) then (
 some false)
 else (
(while_ (laws_eqNoteS_l1 a0 a1) 0).bind fun o5 =>
 match o5 with
| .inl s6 => (
 some true)
| .inr o7 => (
 some o7))
def laws_eqNoteS_h : Hints := (.node none none .none (.node none none .none (.node none none (.node none none .none (.node none none (.node none (some ⟨[.tmp 5 (.int .i64)], [some 0], some [.tmp 4 .bool], []⟩) .none .none) .none)) .none)))
def laws_eqNoteS_c : Ct := .pure true false (.pair (.slice T_Note) (.pair (.slice T_Note) .unit)) .bool (fun x => laws_eqNoteS x.1 x.2.1)
theorem laws_eqNoteS_ct : CtOk Try.prog 56 laws_eqNoteS_c := pure_ct (E := { T := tab, G := [(137, laws_eqNote_c)] }) (EnvOk.cons laws_eqNote_ct (EnvOk.nil tabOk)) mixed (fn := Try.f56) _ _ _ _ _ laws_eqNoteS_h Try.func56 (by kernel_rfl) (fun x => by kernel_rfl)
/-! loop.example/g00486/laws.markNoteS -/
def laws_markNoteS_l1 : ((List T_Note.D) × (Int × Int)) → Option (((List T_Note.D) × (Int × Int)) ⊕ ((List T_Note.D) × (Int × Int))) := fun s2 =>
 bif decide (s2.2.2 < (s2.1.length : Int)) then (
 idx s2.1 s2.2.2 fun _ =>
(s2.1[(s2.2.2 : Int).toNat]?).bind fun x3 =>
 let u4 : (List T_Note.D) := s2.1.set (s2.2.2 : Int).toNat (s2.2.1, x3.2)
 idx u4 s2.2.2 fun _ =>
(u4[(s2.2.2 : Int).toNat]?).bind fun x5 =>
 let u6 : (List T_Note.D) := u4.set (s2.2.2 : Int).toNat (x5.1, (IntKind.wrap .i64 (s2.2.1 + 1), x5.2.1.2), x5.2.2)
 idx u6 s2.2.2 fun _ =>
(u6[(s2.2.2 : Int).toNat]?).bind fun x7 =>
 let u8 : (List T_Note.D) := u6.set (s2.2.2 : Int).toNat (x7.1, (x7.2.1.1, IntKind.wrap .i64 ((IntKind.wrap .i64 (s2.2.1 + 1)) + 1), x7.2.1.2.2), x7.2.2)
 let k9 : Int := IntKind.wrap .i64 ((IntKind.wrap .i64 ((IntKind.wrap .i64 (s2.2.1 + 1)) + 1)) + 1)
 idx u8 s2.2.2 fun _ =>
(u8[(s2.2.2 : Int).toNat]?).bind fun x10 =>
 let u11 : (List T_Note.D) := u8.set (s2.2.2 : Int).toNat (x10.1, (x10.2.1.1, x10.2.1.2.1, k9, x10.2.1.2.2.2), x10.2.2)
 idx u11 s2.2.2 fun _ =>
(u11[(s2.2.2 : Int).toNat]?).bind fun x12 =>
 let u13 : (List T_Note.D) := u11.set (s2.2.2 : Int).toNat (x12.1, (x12.2.1.1, x12.2.1.2.1, x12.2.1.2.2.1, IntKind.wrap .i64 (k9 + 1), x12.2.1.2.2.2.2), x12.2.2)
 idx u13 s2.2.2 fun _ =>
(u13[(s2.2.2 : Int).toNat]?).bind fun x14 =>
 let u15 : (List T_Note.D) := u13.set (s2.2.2 : Int).toNat (x14.1, (x14.2.1.1, x14.2.1.2.1, x14.2.1.2.2.1, x14.2.1.2.2.2.1, IntKind.wrap .i64 ((IntKind.wrap .i64 (k9 + 1)) + 1), x14.2.1.2.2.2.2.2), x14.2.2)
 let k16 : Int := IntKind.wrap .i64 ((IntKind.wrap .i64 ((IntKind.wrap .i64 (k9 + 1)) + 1)) + 1)
 idx u15 s2.2.2 fun _ =>
(u15[(s2.2.2 : Int).toNat]?).bind fun x17 =>
 let u18 : (List T_Note.D) := u15.set (s2.2.2 : Int).toNat (x17.1, (x17.2.1.1, x17.2.1.2.1, x17.2.1.2.2.1, x17.2.1.2.2.2.1, x17.2.1.2.2.2.2.1, k16, x17.2.1.2.2.2.2.2.2), x17.2.2)
 if 3 = 0 then none else (
 idx u18 s2.2.2 fun _ =>
(u18[(s2.2.2 : Int).toNat]?).bind fun x19 =>
 let u20 : (List T_Note.D) := u18.set (s2.2.2 : Int).toNat (x19.1, (x19.2.1.1, x19.2.1.2.1, x19.2.1.2.2.1, x19.2.1.2.2.2.1, x19.2.1.2.2.2.2.1, x19.2.1.2.2.2.2.2.1, (((IntKind.wrap .i64 (k16 + 1)).tmod 3) == 0), ()), x19.2.2)
 idx u20 s2.2.2 fun _ =>
(u20[(s2.2.2 : Int).toNat]?).bind fun x21 =>
 let u22 : (List T_Note.D) := u20.set (s2.2.2 : Int).toNat (x21.1, x21.2.1, IntKind.wrap .i64 ((IntKind.wrap .i64 (k16 + 1)) + 1), x21.2.2.2)
 let k23 : Int := IntKind.wrap .i64 ((IntKind.wrap .i64 ((IntKind.wrap .i64 (k16 + 1)) + 1)) + 1)
 idx u22 s2.2.2 fun _ =>
(u22[(s2.2.2 : Int).toNat]?).bind fun x24 =>
 let u25 : (List T_Note.D) := u22.set (s2.2.2 : Int).toNat (x24.1, x24.2.1, x24.2.2.1, k23, x24.2.2.2.2)
 idx u25 s2.2.2 fun _ =>
(u25[(s2.2.2 : Int).toNat]?).bind fun x26 =>
 let u27 : (List T_Note.D) := u25.set (s2.2.2 : Int).toNat (x26.1, x26.2.1, x26.2.2.1, x26.2.2.2.1, (IntKind.wrap .i64 (k23 + 1), x26.2.2.2.2.1.2), ())
 idx u27 s2.2.2 fun _ =>
(u27[(s2.2.2 : Int).toNat]?).bind fun x28 =>
 let u29 : (List T_Note.D) := u27.set (s2.2.2 : Int).toNat (x28.1, x28.2.1, x28.2.2.1, x28.2.2.2.1, (x28.2.2.2.2.1.1, IntKind.wrap .i64 ((IntKind.wrap .i64 (k23 + 1)) + 1), x28.2.2.2.2.1.2.2), ())
 let k30 : Int := IntKind.wrap .i64 ((IntKind.wrap .i64 ((IntKind.wrap .i64 (k23 + 1)) + 1)) + 1)
 idx u29 s2.2.2 fun _ =>
(u29[(s2.2.2 : Int).toNat]?).bind fun x31 =>
 let u32 : (List T_Note.D) := u29.set (s2.2.2 : Int).toNat (x31.1, x31.2.1, x31.2.2.1, x31.2.2.2.1, (x31.2.2.2.2.1.1, x31.2.2.2.2.1.2.1, k30, x31.2.2.2.2.1.2.2.2), ())
 idx u32 s2.2.2 fun _ =>
(u32[(s2.2.2 : Int).toNat]?).bind fun x33 =>
 let u34 : (List T_Note.D) := u32.set (s2.2.2 : Int).toNat (x33.1, x33.2.1, x33.2.2.1, x33.2.2.2.1, (x33.2.2.2.2.1.1, x33.2.2.2.2.1.2.1, x33.2.2.2.2.1.2.2.1, IntKind.wrap .i64 (k30 + 1), x33.2.2.2.2.1.2.2.2.2), ())
 idx u34 s2.2.2 fun _ =>
(u34[(s2.2.2 : Int).toNat]?).bind fun x35 =>
 let u36 : (List T_Note.D) := u34.set (s2.2.2 : Int).toNat (x35.1, x35.2.1, x35.2.2.1, x35.2.2.2.1, (x35.2.2.2.2.1.1, x35.2.2.2.2.1.2.1, x35.2.2.2.2.1.2.2.1, x35.2.2.2.2.1.2.2.2.1, IntKind.wrap .i64 ((IntKind.wrap .i64 (k30 + 1)) + 1), x35.2.2.2.2.1.2.2.2.2.2), ())
 let k37 : Int := IntKind.wrap .i64 ((IntKind.wrap .i64 ((IntKind.wrap .i64 (k30 + 1)) + 1)) + 1)
 idx u36 s2.2.2 fun _ =>
(u36[(s2.2.2 : Int).toNat]?).bind fun x38 =>
 let u39 : (List T_Note.D) := u36.set (s2.2.2 : Int).toNat (x38.1, x38.2.1, x38.2.2.1, x38.2.2.2.1, (x38.2.2.2.2.1.1, x38.2.2.2.2.1.2.1, x38.2.2.2.2.1.2.2.1, x38.2.2.2.2.1.2.2.2.1, x38.2.2.2.2.1.2.2.2.2.1, k37, x38.2.2.2.2.1.2.2.2.2.2.2), ())
 idx u39 s2.2.2 fun _ =>
(u39[(s2.2.2 : Int).toNat]?).bind fun x40 =>
 let u41 : (List T_Note.D) := u39.set (s2.2.2 : Int).toNat (x40.1, x40.2.1, x40.2.2.1, x40.2.2.2.1, (x40.2.2.2.2.1.1, x40.2.2.2.2.1.2.1, x40.2.2.2.2.1.2.2.1, x40.2.2.2.2.1.2.2.2.1, x40.2.2.2.2.1.2.2.2.2.1, x40.2.2.2.2.1.2.2.2.2.2.1, IntKind.wrap .i64 (k37 + 1), x40.2.2.2.2.1.2.2.2.2.2.2.2), ())
 idx u41 s2.2.2 fun _ =>
(u41[(s2.2.2 : Int).toNat]?).bind fun x42 =>
 let u43 : (List T_Note.D) := u41.set (s2.2.2 : Int).toNat (x42.1, x42.2.1, x42.2.2.1, x42.2.2.2.1, (x42.2.2.2.2.1.1, x42.2.2.2.2.1.2.1, x42.2.2.2.2.1.2.2.1, x42.2.2.2.2.1.2.2.2.1, x42.2.2.2.2.1.2.2.2.2.1, x42.2.2.2.2.1.2.2.2.2.2.1, x42.2.2.2.2.1.2.2.2.2.2.2.1, IntKind.wrap .i64 ((IntKind.wrap .i64 (k37 + 1)) + 1), x42.2.2.2.2.1.2.2.2.2.2.2.2.2), ())
 let k44 : Int := IntKind.wrap .i64 ((IntKind.wrap .i64 ((IntKind.wrap .i64 (k37 + 1)) + 1)) + 1)
 idx u43 s2.2.2 fun _ =>
(u43[(s2.2.2 : Int).toNat]?).bind fun x45 =>
 let u46 : (List T_Note.D) := u43.set (s2.2.2 : Int).toNat (x45.1, x45.2.1, x45.2.2.1, x45.2.2.2.1, (x45.2.2.2.2.1.1, x45.2.2.2.2.1.2.1, x45.2.2.2.2.1.2.2.1, x45.2.2.2.2.1.2.2.2.1, x45.2.2.2.2.1.2.2.2.2.1, x45.2.2.2.2.1.2.2.2.2.2.1, x45.2.2.2.2.1.2.2.2.2.2.2.1, x45.2.2.2.2.1.2.2.2.2.2.2.2.1, k44, x45.2.2.2.2.1.2.2.2.2.2.2.2.2.2), ())
 idx u46 s2.2.2 fun _ =>
(u46[(s2.2.2 : Int).toNat]?).bind fun x47 =>
 let u48 : (List T_Note.D) := u46.set (s2.2.2 : Int).toNat (x47.1, x47.2.1, x47.2.2.1, x47.2.2.2.1, (x47.2.2.2.2.1.1, x47.2.2.2.2.1.2.1, x47.2.2.2.2.1.2.2.1, x47.2.2.2.2.1.2.2.2.1, x47.2.2.2.2.1.2.2.2.2.1, x47.2.2.2.2.1.2.2.2.2.2.1, x47.2.2.2.2.1.2.2.2.2.2.2.1, x47.2.2.2.2.1.2.2.2.2.2.2.2.1, x47.2.2.2.2.1.2.2.2.2.2.2.2.2.1, IntKind.wrap .i64 (k44 + 1), x47.2.2.2.2.1.2.2.2.2.2.2.2.2.2.2), ())
 idx u48 s2.2.2 fun _ =>
(u48[(s2.2.2 : Int).toNat]?).bind fun x49 =>
 let u50 : (List T_Note.D) := u48.set (s2.2.2 : Int).toNat (x49.1, x49.2.1, x49.2.2.1, x49.2.2.2.1, (x49.2.2.2.2.1.1, x49.2.2.2.2.1.2.1, x49.2.2.2.2.1.2.2.1, x49.2.2.2.2.1.2.2.2.1, x49.2.2.2.2.1.2.2.2.2.1, x49.2.2.2.2.1.2.2.2.2.2.1, x49.2.2.2.2.1.2.2.2.2.2.2.1, x49.2.2.2.2.1.2.2.2.2.2.2.2.1, x49.2.2.2.2.1.2.2.2.2.2.2.2.2.1, x49.2.2.2.2.1.2.2.2.2.2.2.2.2.2.1, IntKind.wrap .i64 ((IntKind.wrap .i64 (k44 + 1)) + 1), x49.2.2.2.2.1.2.2.2.2.2.2.2.2.2.2.2), ())
 let k51 : Int := IntKind.wrap .i64 ((IntKind.wrap .i64 ((IntKind.wrap .i64 (k44 + 1)) + 1)) + 1)
 if 3 = 0 then none else (
 idx u50 s2.2.2 fun _ =>
(u50[(s2.2.2 : Int).toNat]?).bind fun x52 =>
 let u53 : (List T_Note.D) := u50.set (s2.2.2 : Int).toNat (x52.1, x52.2.1, x52.2.2.1, x52.2.2.2.1, (x52.2.2.2.2.1.1, x52.2.2.2.2.1.2.1, x52.2.2.2.2.1.2.2.1, x52.2.2.2.2.1.2.2.2.1, x52.2.2.2.2.1.2.2.2.2.1, x52.2.2.2.2.1.2.2.2.2.2.1, x52.2.2.2.2.1.2.2.2.2.2.2.1, x52.2.2.2.2.1.2.2.2.2.2.2.2.1, x52.2.2.2.2.1.2.2.2.2.2.2.2.2.1, x52.2.2.2.2.1.2.2.2.2.2.2.2.2.2.1, x52.2.2.2.2.1.2.2.2.2.2.2.2.2.2.2.1, ((k51.tmod 3) == 0), x52.2.2.2.2.1.2.2.2.2.2.2.2.2.2.2.2.2), ())
 if 3 = 0 then none else (
 idx u53 s2.2.2 fun _ =>
(u53[(s2.2.2 : Int).toNat]?).bind fun x54 =>
 let u55 : (List T_Note.D) := u53.set (s2.2.2 : Int).toNat (x54.1, x54.2.1, x54.2.2.1, x54.2.2.2.1, (x54.2.2.2.2.1.1, x54.2.2.2.2.1.2.1, x54.2.2.2.2.1.2.2.1, x54.2.2.2.2.1.2.2.2.1, x54.2.2.2.2.1.2.2.2.2.1, x54.2.2.2.2.1.2.2.2.2.2.1, x54.2.2.2.2.1.2.2.2.2.2.2.1, x54.2.2.2.2.1.2.2.2.2.2.2.2.1, x54.2.2.2.2.1.2.2.2.2.2.2.2.2.1, x54.2.2.2.2.1.2.2.2.2.2.2.2.2.2.1, x54.2.2.2.2.1.2.2.2.2.2.2.2.2.2.2.1, x54.2.2.2.2.1.2.2.2.2.2.2.2.2.2.2.2.1, (((IntKind.wrap .i64 (k51 + 1)).tmod 3) == 0), ()), ())
 some (.inl (u55, IntKind.wrap .i64 ((IntKind.wrap .i64 (k51 + 1)) + 1), IntKind.wrap .i64 (s2.2.2 + 1)))))))
 else (
 some (.inr s2))
def laws_markNoteS (a0 : (List T_Note.D)) (a1 : Int) : Option (Int × ((List T_Note.D) × Unit)) :=
(while_ (laws_markNoteS_l1) (a0, a1, 0)).bind fun o56 =>
 some (o56.2.1, (o56.1, ()))
def laws_markNoteS_h : Hints := (.node none none .none (.node none none (.node none none .none (.node none none (.node none (some ⟨[.tmpO 0 1 (.slice T_Note), .tmp 1 (.int .i64), .tmp 5 (.int .i64)], [some 0], none, []⟩) .none .none) .none)) .none))
def laws_markNoteS_c : Ct := .mut [.lent, .rd] true true (.pair (.slice T_Note) (.pair (.int .i64) .unit)) (.int .i64) (fun x => laws_markNoteS x.1 x.2.1)
theorem laws_markNoteS_ct : CtOk Try.prog 57 laws_markNoteS_c := mut_ct (E := { T := tab, G := [] }) (EnvOk.nil tabOk) mixed (fn := Try.f57) _ _ _ _ _ _ laws_markNoteS_h Try.func57 (by kernel_rfl) (fun x => by kernel_rfl)
/-! loop.example/g00486/laws.FnExactSeen -/
def laws_FnExactSeen (a0 : T_State.D) (a1 : (List T_Note.D)) : Option Bool :=
(laws_szState a0 1048576).bind fun y1 =>
 bif decide (y1 < 0) then (
 some true)
 else (
(laws_szNoteS a1 y1).bind fun y2 =>
 bif decide (y2 < 0) then (
 some true)
 else (
(laws_toState a0).bind fun y3 =>
(laws_toNoteS a1).bind fun y4 =>
(spec_Seen y3 y4).bind fun y5 =>
(laws_toState a0).bind fun y6 =>
(laws_toNoteS a1).bind fun y7 =>
(impl_Seen y6 y7).bind fun y8 =>
(laws_eqTriggerS y8 y5).bind fun y9 =>
 bif (!y9) then (
 some false)
 else (
(laws_toState a0).bind fun y10 =>
(laws_eqState y6 y10).bind fun y11 =>
 bif (!y11) then (
 some false)
 else (
(laws_toNoteS a1).bind fun y12 =>
(laws_eqNoteS y7 y12).bind fun y13 =>
 bif (!y13) then (
 some false)
 else (
(laws_markState y6 1).bind fun y14 =>
(laws_markNoteS y7 y14.1).bind fun y15 =>
((bif decide (y15.1 < 0) then (
 some true)
 else (
(laws_eqTriggerS y8 y5).bind fun y16 =>
 some (!y16))) : Option Bool).bind fun o17 =>
 bif o17 then (
 some false)
 else (
(laws_markTriggerS y8 1).bind fun y18 =>
(laws_heldTriggerS y18.2.1 1).bind fun y19 =>
 bif decide (y19 < 0) then (
 some false)
 else (
 bif (y19 != y18.1) then (
 some false)
 else (
(laws_toState a0).bind fun y20 =>
(laws_toNoteS a1).bind fun y21 =>
(impl_Seen y20 y21).bind fun y22 =>
(laws_eqTriggerS y22 y5).bind fun y23 =>
 bif (!y23) then (
 some false)
 else (
(laws_heldTriggerS y18.2.1 1).bind fun y24 =>
 bif decide (y24 < 0) then (
 some false)
 else (
 bif (y24 != y18.1) then (
 some false)
 else (
 some true)))))))))))
def laws_FnExactSeen_h : Hints := (.node none none .none (.node none none .none (.node none none .none (.node none none .none (.node none none .none (.node none none .none (.node none none .none (.node none none .none (.node none none .none (.node none none .none (.node none none .none (.node none none .none (.node none none .none (.node none none .none (.node none none .none (.node none none .none (.node none none (.node none none (.node (some ⟨[.tmp 63 .bool], [none], none, []⟩) none .none .none) .none) .none)))))))))))))))))
def laws_FnExactSeen_c : Ct := .pure true false (.pair T_State (.pair (.slice T_Note) .unit)) .bool (fun x => laws_FnExactSeen x.1 x.2.1)
theorem laws_FnExactSeen_ct : CtOk Try.prog 11 laws_FnExactSeen_c := pure_ct (E := { T := tab, G := [(14, laws_szState_c), (16, laws_toState_fresh_c), (18, laws_eqState_c), (34, laws_markState_c), (46, laws_eqTriggerS_c), (48, laws_markTriggerS_c), (50, laws_heldTriggerS_c), (52, laws_szNoteS_c), (53, spec_Seen_fresh_c), (54, laws_toNoteS_fresh_c), (55, impl_Seen_fresh_c), (56, laws_eqNoteS_c), (57, laws_markNoteS_c)] }) (EnvOk.cons laws_szState_ct (EnvOk.cons laws_toState_fresh_ct (EnvOk.cons laws_eqState_ct (EnvOk.cons laws_markState_ct (EnvOk.cons laws_eqTriggerS_ct (EnvOk.cons laws_markTriggerS_ct (EnvOk.cons laws_heldTriggerS_ct (EnvOk.cons laws_szNoteS_ct (EnvOk.cons spec_Seen_fresh_ct (EnvOk.cons laws_toNoteS_fresh_ct (EnvOk.cons impl_Seen_fresh_ct (EnvOk.cons laws_eqNoteS_ct (EnvOk.cons laws_markNoteS_ct (EnvOk.nil tabOk)))))))))))))) mixed (fn := Try.f11) _ _ _ _ _ laws_FnExactSeen_h Try.func11 (by kernel_rfl) (fun x => by kernel_rfl)
end
end Go.Abs
