import Derived.Test.YtocdfakhhnbagaaProg
import Derived.Test.YtocdfakhhnbagaaAbsTab
set_option linter.unusedVariables false
set_option linter.unusedSimpArgs false
namespace Go.Abs
open Go.Proofs
set_option maxRecDepth 100000
noncomputable section
@[reducible] def T_Piece : Ty := (.pair (.int .i64) (.pair (.int .i64) (.pair (.int .i64) (.pair (.int .i64) (.pair (.int .i64) (.pair (.int .i64) (.pair (.int .i64) (.pair (.int .i64) (.pair (.int .i64) (.pair (.int .i64) (.pair (.int .i64) (.pair .bool (.pair .bool .unit)))))))))))))
@[reducible] def T_Side : Ty := (.pair (.int .i64) (.pair (.int .i64) (.pair .bool .unit)))
@[reducible] def T_State : Ty := (.pair (.slice T_Piece) (.pair (.slice T_Side) (.pair (.int .i64) (.pair (.int .i64) .unit))))
@[reducible] def T_Event : Ty := (.pair (.int .i64) (.pair (.int .i64) (.pair (.int .i64) (.pair (.int .i64) (.pair (.int .i64) (.pair (.int .i64) (.pair .bool .unit)))))))
@[reducible] def T_Note : Ty := (.pair (.int .i64) (.pair T_Event (.pair (.int .i64) (.pair (.int .i64) (.pair T_Piece .unit)))))
@[reducible] def T_S7 : Ty := (.pair (.int .i64) (.pair (.int .i64) (.pair .bool (.pair (.int .u8) .unit))))
@[reducible] def T_Pat : Ty := (.pair (.int .i64) (.pair (.int .i64) (.pair (.int .i64) (.pair (.int .i64) (.pair (.int .i64) (.pair (.int .i64) (.pair (.int .i64) .unit)))))))
@[reducible] def T_Guard : Ty := (.pair (.int .i64) (.pair (.int .i64) .unit))
@[reducible] def T_Act : Ty := (.pair (.int .i64) (.pair (.int .i64) (.pair (.int .i64) (.pair (.int .i64) (.pair (.int .i64) (.pair .bool (.pair (.slice T_Event) .unit)))))))
@[reducible] def T_Effect : Ty := (.pair (.int .i64) (.pair (.int .i64) (.pair (.int .i64) (.pair (.int .i64) (.pair T_Pat (.pair T_Guard (.pair T_Act (.pair (.int .i64) (.pair (.int .i64) .unit)))))))))
@[reducible] def T_Turn : Ty := (.pair (.int .i64) (.pair (.int .i64) (.pair (.int .i64) (.pair (.int .i64) (.pair T_Event (.pair (.slice T_Event) (.pair (.int .i64) (.pair (.int .i64) .unit))))))))
@[reducible] def T_S39 : Ty := (.pair (.slice T_Event) (.pair (.slice T_Effect) (.pair (.slice (.int .i64)) (.pair (.slice T_Turn) .unit))))
@[reducible] def T_Trigger : Ty := (.pair (.int .i64) (.pair (.int .i64) (.pair (.int .i64) (.pair T_Piece .unit))))
@[reducible] def T_S54 : Ty := (.pair T_State (.pair (.slice T_Effect) (.pair (.slice (.int .i64)) (.pair (.slice T_Trigger) (.pair (.slice T_Note) (.pair (.slice T_Turn) .unit))))))
def tab : Tab := [
  (1, ⟨.other, 1, 0, .unit, [.undef]⟩),
  (2, ⟨.int .i64, 1, 0, (.int .i64), [.int .i64 0]⟩),
  (3, ⟨.int .i64, 1, 0, (.int .i64), [.int .i64 0]⟩),
  (4, ⟨.bool, 1, 0, .bool, [.bool false]⟩),
  (5, ⟨.int .u8, 1, 0, (.int .u8), [.int .u8 0]⟩),
  (6, ⟨.int .u8, 1, 0, (.int .u8), [.int .u8 0]⟩),
  (7, ⟨.struct [(0, 2), (1, 3), (2, 4), (3, 6)], 4, 0, T_S7, [.int .i64 0, .int .i64 0, .bool false, .int .u8 0]⟩),
  (8, ⟨.struct [(0, 2), (1, 3), (2, 4), (3, 6)], 4, 0, T_S7, [.int .i64 0, .int .i64 0, .bool false, .int .u8 0]⟩),
  (12, ⟨.int .u64, 1, 0, (.int .u64), [.int .u64 0]⟩),
  (15, ⟨.other, 1, 0, .unit, [.undef]⟩),
  (16, ⟨.other, 1, 0, .unit, [.undef]⟩),
  (17, ⟨.other, 1, 0, .unit, [.undef]⟩),
  (21, ⟨.int .i32, 1, 0, (.int .i32), [.int .i32 0]⟩),
  (22, ⟨.slice 73, 1, 0, (.slice T_Piece), [.nil]⟩),
  (23, ⟨.slice 156, 1, 0, (.slice T_Side), [.nil]⟩),
  (24, ⟨.struct [(0, 22), (1, 23), (2, 3), (3, 3)], 4, 0, T_State, [.nil, .nil, .int .i64 0, .int .i64 0]⟩),
  (25, ⟨.struct [(0, 22), (1, 23), (2, 3), (3, 3)], 4, 0, T_State, [.nil, .nil, .int .i64 0, .int .i64 0]⟩),
  (26, ⟨.other, 1, 0, .unit, [.undef]⟩),
  (27, ⟨.other, 1, 0, .unit, [.undef]⟩),
  (28, ⟨.slice 76, 1, 0, (.slice T_Piece), [.nil]⟩),
  (29, ⟨.slice 125, 1, 0, (.slice T_Side), [.nil]⟩),
  (30, ⟨.struct [(0, 28), (1, 29), (2, 3), (3, 3)], 4, 0, T_State, [.nil, .nil, .int .i64 0, .int .i64 0]⟩),
  (31, ⟨.struct [(0, 28), (1, 29), (2, 3), (3, 3)], 4, 0, T_State, [.nil, .nil, .int .i64 0, .int .i64 0]⟩),
  (32, ⟨.other, 1, 0, .unit, [.undef]⟩),
  (33, ⟨.other, 1, 0, .unit, [.undef]⟩),
  (34, ⟨.other, 1, 0, .unit, [.undef]⟩),
  (35, ⟨.slice 65, 1, 0, (.slice T_Event), [.nil]⟩),
  (36, ⟨.slice 167, 1, 0, (.slice T_Effect), [.nil]⟩),
  (37, ⟨.slice 3, 1, 0, (.slice (.int .i64)), [.nil]⟩),
  (38, ⟨.slice 170, 1, 0, (.slice T_Turn), [.nil]⟩),
  (39, ⟨.struct [(0, 35), (1, 36), (2, 37), (3, 38)], 4, 0, T_S39, [.nil, .nil, .nil, .nil]⟩),
  (40, ⟨.struct [(0, 35), (1, 36), (2, 37), (3, 38)], 4, 0, T_S39, [.nil, .nil, .nil, .nil]⟩),
  (41, ⟨.other, 1, 0, .unit, [.undef]⟩),
  (42, ⟨.other, 1, 0, .unit, [.undef]⟩),
  (43, ⟨.slice 68, 1, 0, (.slice T_Event), [.nil]⟩),
  (44, ⟨.slice 176, 1, 0, (.slice T_Effect), [.nil]⟩),
  (45, ⟨.slice 109, 1, 0, (.slice T_Turn), [.nil]⟩),
  (46, ⟨.struct [(0, 43), (1, 44), (2, 37), (3, 45)], 4, 0, T_S39, [.nil, .nil, .nil, .nil]⟩),
  (47, ⟨.struct [(0, 43), (1, 44), (2, 37), (3, 45)], 4, 0, T_S39, [.nil, .nil, .nil, .nil]⟩),
  (48, ⟨.other, 1, 0, .unit, [.undef]⟩),
  (49, ⟨.other, 1, 0, .unit, [.undef]⟩),
  (50, ⟨.other, 1, 0, .unit, [.undef]⟩),
  (51, ⟨.other, 1, 0, .unit, [.undef]⟩),
  (52, ⟨.slice 140, 1, 0, (.slice T_Trigger), [.nil]⟩),
  (53, ⟨.slice 152, 1, 0, (.slice T_Note), [.nil]⟩),
  (54, ⟨.struct [(0, 25), (4, 36), (5, 37), (6, 52), (7, 53), (8, 38)], 9, 0, T_S54, [.nil, .nil, .int .i64 0, .int .i64 0, .nil, .nil, .nil, .nil, .nil]⟩),
  (55, ⟨.struct [(0, 25), (4, 36), (5, 37), (6, 52), (7, 53), (8, 38)], 9, 0, T_S54, [.nil, .nil, .int .i64 0, .int .i64 0, .nil, .nil, .nil, .nil, .nil]⟩),
  (56, ⟨.other, 1, 0, .unit, [.undef]⟩),
  (57, ⟨.other, 1, 0, .unit, [.undef]⟩),
  (58, ⟨.slice 136, 1, 0, (.slice T_Trigger), [.nil]⟩),
  (59, ⟨.slice 147, 1, 0, (.slice T_Note), [.nil]⟩),
  (60, ⟨.struct [(0, 31), (4, 44), (5, 37), (6, 58), (7, 59), (8, 45)], 9, 0, T_S54, [.nil, .nil, .int .i64 0, .int .i64 0, .nil, .nil, .nil, .nil, .nil]⟩),
  (61, ⟨.struct [(0, 31), (4, 44), (5, 37), (6, 58), (7, 59), (8, 45)], 9, 0, T_S54, [.nil, .nil, .int .i64 0, .int .i64 0, .nil, .nil, .nil, .nil, .nil]⟩),
  (62, ⟨.other, 1, 0, .unit, [.undef]⟩),
  (63, ⟨.other, 1, 0, .unit, [.undef]⟩),
  (64, ⟨.struct [(0, 3), (1, 3), (2, 3), (3, 3), (4, 3), (5, 3), (6, 4)], 7, 0, T_Event, [.int .i64 0, .int .i64 0, .int .i64 0, .int .i64 0, .int .i64 0, .int .i64 0, .bool false]⟩),
  (65, ⟨.struct [(0, 3), (1, 3), (2, 3), (3, 3), (4, 3), (5, 3), (6, 4)], 7, 0, T_Event, [.int .i64 0, .int .i64 0, .int .i64 0, .int .i64 0, .int .i64 0, .int .i64 0, .bool false]⟩),
  (67, ⟨.other, 1, 0, .unit, [.undef]⟩),
  (68, ⟨.struct [(0, 3), (1, 3), (2, 3), (3, 3), (4, 3), (5, 3), (6, 4)], 7, 0, T_Event, [.int .i64 0, .int .i64 0, .int .i64 0, .int .i64 0, .int .i64 0, .int .i64 0, .bool false]⟩),
  (69, ⟨.other, 1, 0, .unit, [.undef]⟩),
  (70, ⟨.other, 1, 0, .unit, [.undef]⟩),
  (71, ⟨.other, 1, 0, .unit, [.undef]⟩),
  (72, ⟨.struct [(0, 3), (1, 3), (2, 3), (3, 3), (4, 3), (5, 3), (6, 3), (7, 3), (8, 3), (9, 3), (10, 3), (11, 4), (12, 4)], 13, 0, T_Piece, [.int .i64 0, .int .i64 0, .int .i64 0, .int .i64 0, .int .i64 0, .int .i64 0, .int .i64 0, .int .i64 0, .int .i64 0, .int .i64 0, .int .i64 0, .bool false, .bool false]⟩),
  (73, ⟨.struct [(0, 3), (1, 3), (2, 3), (3, 3), (4, 3), (5, 3), (6, 3), (7, 3), (8, 3), (9, 3), (10, 3), (11, 4), (12, 4)], 13, 0, T_Piece, [.int .i64 0, .int .i64 0, .int .i64 0, .int .i64 0, .int .i64 0, .int .i64 0, .int .i64 0, .int .i64 0, .int .i64 0, .int .i64 0, .int .i64 0, .bool false, .bool false]⟩),
  (75, ⟨.other, 1, 0, .unit, [.undef]⟩),
  (76, ⟨.struct [(0, 3), (1, 3), (2, 3), (3, 3), (4, 3), (5, 3), (6, 3), (7, 3), (8, 3), (9, 3), (10, 3), (11, 4), (12, 4)], 13, 0, T_Piece, [.int .i64 0, .int .i64 0, .int .i64 0, .int .i64 0, .int .i64 0, .int .i64 0, .int .i64 0, .int .i64 0, .int .i64 0, .int .i64 0, .int .i64 0, .bool false, .bool false]⟩),
  (77, ⟨.other, 1, 0, .unit, [.undef]⟩),
  (78, ⟨.other, 1, 0, .unit, [.undef]⟩),
  (79, ⟨.other, 1, 0, .unit, [.undef]⟩),
  (81, ⟨.other, 1, 0, .unit, [.undef]⟩),
  (82, ⟨.other, 1, 0, .unit, [.undef]⟩),
  (83, ⟨.other, 1, 0, .unit, [.undef]⟩),
  (84, ⟨.other, 1, 0, .unit, [.undef]⟩),
  (85, ⟨.other, 1, 0, .unit, [.undef]⟩),
  (86, ⟨.other, 1, 0, .unit, [.undef]⟩),
  (87, ⟨.other, 1, 0, .unit, [.undef]⟩),
  (88, ⟨.other, 1, 0, .unit, [.undef]⟩),
  (89, ⟨.other, 1, 0, .unit, [.undef]⟩),
  (90, ⟨.other, 1, 0, .unit, [.undef]⟩),
  (91, ⟨.other, 1, 0, .unit, [.undef]⟩),
  (92, ⟨.other, 1, 0, .unit, [.undef]⟩),
  (93, ⟨.other, 1, 0, .unit, [.undef]⟩),
  (94, ⟨.other, 1, 0, .unit, [.undef]⟩),
  (96, ⟨.other, 1, 0, .unit, [.undef]⟩),
  (98, ⟨.other, 1, 0, .unit, [.undef]⟩),
  (99, ⟨.other, 1, 0, .unit, [.undef]⟩),
  (100, ⟨.other, 1, 0, .unit, [.undef]⟩),
  (101, ⟨.other, 1, 0, .unit, [.undef]⟩),
  (102, ⟨.other, 1, 0, .unit, [.undef]⟩),
  (103, ⟨.other, 1, 0, .unit, [.undef]⟩),
  (104, ⟨.other, 1, 0, .unit, [.undef]⟩),
  (105, ⟨.other, 1, 0, .unit, [.undef]⟩),
  (106, ⟨.other, 1, 0, .unit, [.undef]⟩),
  (107, ⟨.other, 1, 0, .unit, [.undef]⟩),
  (108, ⟨.struct [(0, 3), (1, 3), (2, 3), (3, 3), (4, 68), (11, 43), (12, 3), (13, 3)], 14, 0, T_Turn, [.int .i64 0, .int .i64 0, .int .i64 0, .int .i64 0, .int .i64 0, .int .i64 0, .int .i64 0, .int .i64 0, .int .i64 0, .int .i64 0, .bool false, .nil, .int .i64 0, .int .i64 0]⟩),
  (109, ⟨.struct [(0, 3), (1, 3), (2, 3), (3, 3), (4, 68), (11, 43), (12, 3), (13, 3)], 14, 0, T_Turn, [.int .i64 0, .int .i64 0, .int .i64 0, .int .i64 0, .int .i64 0, .int .i64 0, .int .i64 0, .int .i64 0, .int .i64 0, .int .i64 0, .bool false, .nil, .int .i64 0, .int .i64 0]⟩),
  (110, ⟨.other, 1, 0, .unit, [.undef]⟩),
  (111, ⟨.other, 1, 0, .unit, [.undef]⟩),
  (112, ⟨.other, 1, 0, .unit, [.undef]⟩),
  (113, ⟨.other, 1, 0, .unit, [.undef]⟩),
  (114, ⟨.other, 1, 0, .unit, [.undef]⟩),
  (115, ⟨.other, 1, 0, .unit, [.undef]⟩),
  (116, ⟨.other, 1, 0, .unit, [.undef]⟩),
  (117, ⟨.other, 1, 0, .unit, [.undef]⟩),
  (118, ⟨.other, 1, 0, .unit, [.undef]⟩),
  (119, ⟨.other, 1, 0, .unit, [.undef]⟩),
  (120, ⟨.other, 1, 0, .unit, [.undef]⟩),
  (121, ⟨.other, 1, 0, .unit, [.undef]⟩),
  (122, ⟨.other, 1, 0, .unit, [.undef]⟩),
  (123, ⟨.other, 1, 0, .unit, [.undef]⟩),
  (124, ⟨.struct [(0, 3), (1, 3), (2, 4)], 3, 0, T_Side, [.int .i64 0, .int .i64 0, .bool false]⟩),
  (125, ⟨.struct [(0, 3), (1, 3), (2, 4)], 3, 0, T_Side, [.int .i64 0, .int .i64 0, .bool false]⟩),
  (126, ⟨.other, 1, 0, .unit, [.undef]⟩),
  (127, ⟨.other, 1, 0, .unit, [.undef]⟩),
  (128, ⟨.other, 1, 0, .unit, [.undef]⟩),
  (129, ⟨.other, 1, 0, .unit, [.undef]⟩),
  (130, ⟨.other, 1, 0, .unit, [.undef]⟩),
  (131, ⟨.other, 1, 0, .unit, [.undef]⟩),
  (132, ⟨.other, 1, 0, .unit, [.undef]⟩),
  (134, ⟨.other, 1, 0, .unit, [.undef]⟩),
  (135, ⟨.struct [(0, 3), (1, 3), (2, 3), (3, 76)], 16, 0, T_Trigger, [.int .i64 0, .int .i64 0, .int .i64 0, .int .i64 0, .int .i64 0, .int .i64 0, .int .i64 0, .int .i64 0, .int .i64 0, .int .i64 0, .int .i64 0, .int .i64 0, .int .i64 0, .int .i64 0, .bool false, .bool false]⟩),
  (136, ⟨.struct [(0, 3), (1, 3), (2, 3), (3, 76)], 16, 0, T_Trigger, [.int .i64 0, .int .i64 0, .int .i64 0, .int .i64 0, .int .i64 0, .int .i64 0, .int .i64 0, .int .i64 0, .int .i64 0, .int .i64 0, .int .i64 0, .int .i64 0, .int .i64 0, .int .i64 0, .bool false, .bool false]⟩),
  (137, ⟨.other, 1, 0, .unit, [.undef]⟩),
  (138, ⟨.other, 1, 0, .unit, [.undef]⟩),
  (139, ⟨.struct [(0, 3), (1, 3), (2, 3), (3, 73)], 16, 0, T_Trigger, [.int .i64 0, .int .i64 0, .int .i64 0, .int .i64 0, .int .i64 0, .int .i64 0, .int .i64 0, .int .i64 0, .int .i64 0, .int .i64 0, .int .i64 0, .int .i64 0, .int .i64 0, .int .i64 0, .bool false, .bool false]⟩),
  (140, ⟨.struct [(0, 3), (1, 3), (2, 3), (3, 73)], 16, 0, T_Trigger, [.int .i64 0, .int .i64 0, .int .i64 0, .int .i64 0, .int .i64 0, .int .i64 0, .int .i64 0, .int .i64 0, .int .i64 0, .int .i64 0, .int .i64 0, .int .i64 0, .int .i64 0, .int .i64 0, .bool false, .bool false]⟩),
  (141, ⟨.other, 1, 0, .unit, [.undef]⟩),
  (142, ⟨.other, 1, 0, .unit, [.undef]⟩),
  (143, ⟨.other, 1, 0, .unit, [.undef]⟩),
  (144, ⟨.other, 1, 0, .unit, [.undef]⟩),
  (145, ⟨.other, 1, 0, .unit, [.undef]⟩),
  (146, ⟨.struct [(0, 3), (1, 68), (8, 3), (9, 3), (10, 76)], 23, 0, T_Note, [.int .i64 0, .int .i64 0, .int .i64 0, .int .i64 0, .int .i64 0, .int .i64 0, .int .i64 0, .bool false, .int .i64 0, .int .i64 0, .int .i64 0, .int .i64 0, .int .i64 0, .int .i64 0, .int .i64 0, .int .i64 0, .int .i64 0, .int .i64 0, .int .i64 0, .int .i64 0, .int .i64 0, .bool false, .bool false]⟩),
  (147, ⟨.struct [(0, 3), (1, 68), (8, 3), (9, 3), (10, 76)], 23, 0, T_Note, [.int .i64 0, .int .i64 0, .int .i64 0, .int .i64 0, .int .i64 0, .int .i64 0, .int .i64 0, .bool false, .int .i64 0, .int .i64 0, .int .i64 0, .int .i64 0, .int .i64 0, .int .i64 0, .int .i64 0, .int .i64 0, .int .i64 0, .int .i64 0, .int .i64 0, .int .i64 0, .int .i64 0, .bool false, .bool false]⟩),
  (148, ⟨.other, 1, 0, .unit, [.undef]⟩),
  (149, ⟨.other, 1, 0, .unit, [.undef]⟩),
  (150, ⟨.other, 1, 0, .unit, [.undef]⟩),
  (151, ⟨.struct [(0, 3), (1, 65), (8, 3), (9, 3), (10, 73)], 23, 0, T_Note, [.int .i64 0, .int .i64 0, .int .i64 0, .int .i64 0, .int .i64 0, .int .i64 0, .int .i64 0, .bool false, .int .i64 0, .int .i64 0, .int .i64 0, .int .i64 0, .int .i64 0, .int .i64 0, .int .i64 0, .int .i64 0, .int .i64 0, .int .i64 0, .int .i64 0, .int .i64 0, .int .i64 0, .bool false, .bool false]⟩),
  (152, ⟨.struct [(0, 3), (1, 65), (8, 3), (9, 3), (10, 73)], 23, 0, T_Note, [.int .i64 0, .int .i64 0, .int .i64 0, .int .i64 0, .int .i64 0, .int .i64 0, .int .i64 0, .bool false, .int .i64 0, .int .i64 0, .int .i64 0, .int .i64 0, .int .i64 0, .int .i64 0, .int .i64 0, .int .i64 0, .int .i64 0, .int .i64 0, .int .i64 0, .int .i64 0, .int .i64 0, .bool false, .bool false]⟩),
  (153, ⟨.other, 1, 0, .unit, [.undef]⟩),
  (154, ⟨.other, 1, 0, .unit, [.undef]⟩),
  (155, ⟨.other, 1, 0, .unit, [.undef]⟩),
  (156, ⟨.struct [(0, 3), (1, 3), (2, 4)], 3, 0, T_Side, [.int .i64 0, .int .i64 0, .bool false]⟩),
  (157, ⟨.other, 1, 0, .unit, [.undef]⟩),
  (158, ⟨.other, 1, 0, .unit, [.undef]⟩),
  (159, ⟨.other, 1, 0, .unit, [.undef]⟩),
  (160, ⟨.struct [(0, 3), (1, 3), (2, 3), (3, 3), (4, 3), (5, 3), (6, 3)], 7, 0, T_Pat, [.int .i64 0, .int .i64 0, .int .i64 0, .int .i64 0, .int .i64 0, .int .i64 0, .int .i64 0]⟩),
  (161, ⟨.struct [(0, 3), (1, 3), (2, 3), (3, 3), (4, 3), (5, 3), (6, 3)], 7, 0, T_Pat, [.int .i64 0, .int .i64 0, .int .i64 0, .int .i64 0, .int .i64 0, .int .i64 0, .int .i64 0]⟩),
  (162, ⟨.struct [(0, 3), (1, 3)], 2, 0, T_Guard, [.int .i64 0, .int .i64 0]⟩),
  (163, ⟨.struct [(0, 3), (1, 3)], 2, 0, T_Guard, [.int .i64 0, .int .i64 0]⟩),
  (164, ⟨.struct [(0, 3), (1, 3), (2, 3), (3, 3), (4, 3), (5, 4), (6, 35)], 7, 0, T_Act, [.int .i64 0, .int .i64 0, .int .i64 0, .int .i64 0, .int .i64 0, .bool false, .nil]⟩),
  (165, ⟨.struct [(0, 3), (1, 3), (2, 3), (3, 3), (4, 3), (5, 4), (6, 35)], 7, 0, T_Act, [.int .i64 0, .int .i64 0, .int .i64 0, .int .i64 0, .int .i64 0, .bool false, .nil]⟩),
  (166, ⟨.struct [(0, 3), (1, 3), (2, 3), (3, 3), (4, 161), (11, 163), (13, 165), (20, 3), (21, 3)], 22, 0, T_Effect, [.int .i64 0, .int .i64 0, .int .i64 0, .int .i64 0, .int .i64 0, .int .i64 0, .int .i64 0, .int .i64 0, .int .i64 0, .int .i64 0, .int .i64 0, .int .i64 0, .int .i64 0, .int .i64 0, .int .i64 0, .int .i64 0, .int .i64 0, .int .i64 0, .bool false, .nil, .int .i64 0, .int .i64 0]⟩),
  (167, ⟨.struct [(0, 3), (1, 3), (2, 3), (3, 3), (4, 161), (11, 163), (13, 165), (20, 3), (21, 3)], 22, 0, T_Effect, [.int .i64 0, .int .i64 0, .int .i64 0, .int .i64 0, .int .i64 0, .int .i64 0, .int .i64 0, .int .i64 0, .int .i64 0, .int .i64 0, .int .i64 0, .int .i64 0, .int .i64 0, .int .i64 0, .int .i64 0, .int .i64 0, .int .i64 0, .int .i64 0, .bool false, .nil, .int .i64 0, .int .i64 0]⟩),
  (168, ⟨.other, 1, 0, .unit, [.undef]⟩),
  (169, ⟨.struct [(0, 3), (1, 3), (2, 3), (3, 3), (4, 65), (11, 35), (12, 3), (13, 3)], 14, 0, T_Turn, [.int .i64 0, .int .i64 0, .int .i64 0, .int .i64 0, .int .i64 0, .int .i64 0, .int .i64 0, .int .i64 0, .int .i64 0, .int .i64 0, .bool false, .nil, .int .i64 0, .int .i64 0]⟩),
  (170, ⟨.struct [(0, 3), (1, 3), (2, 3), (3, 3), (4, 65), (11, 35), (12, 3), (13, 3)], 14, 0, T_Turn, [.int .i64 0, .int .i64 0, .int .i64 0, .int .i64 0, .int .i64 0, .int .i64 0, .int .i64 0, .int .i64 0, .int .i64 0, .int .i64 0, .bool false, .nil, .int .i64 0, .int .i64 0]⟩),
  (171, ⟨.struct [(0, 3), (1, 3), (2, 3), (3, 3), (4, 3), (5, 3), (6, 3)], 7, 0, T_Pat, [.int .i64 0, .int .i64 0, .int .i64 0, .int .i64 0, .int .i64 0, .int .i64 0, .int .i64 0]⟩),
  (172, ⟨.struct [(0, 3), (1, 3)], 2, 0, T_Guard, [.int .i64 0, .int .i64 0]⟩),
  (173, ⟨.struct [(0, 3), (1, 3), (2, 3), (3, 3), (4, 3), (5, 4), (6, 43)], 7, 0, T_Act, [.int .i64 0, .int .i64 0, .int .i64 0, .int .i64 0, .int .i64 0, .bool false, .nil]⟩),
  (174, ⟨.struct [(0, 3), (1, 3), (2, 3), (3, 3), (4, 3), (5, 4), (6, 43)], 7, 0, T_Act, [.int .i64 0, .int .i64 0, .int .i64 0, .int .i64 0, .int .i64 0, .bool false, .nil]⟩),
  (175, ⟨.struct [(0, 3), (1, 3), (2, 3), (3, 3), (4, 171), (11, 172), (13, 174), (20, 3), (21, 3)], 22, 0, T_Effect, [.int .i64 0, .int .i64 0, .int .i64 0, .int .i64 0, .int .i64 0, .int .i64 0, .int .i64 0, .int .i64 0, .int .i64 0, .int .i64 0, .int .i64 0, .int .i64 0, .int .i64 0, .int .i64 0, .int .i64 0, .int .i64 0, .int .i64 0, .int .i64 0, .bool false, .nil, .int .i64 0, .int .i64 0]⟩),
  (176, ⟨.struct [(0, 3), (1, 3), (2, 3), (3, 3), (4, 171), (11, 172), (13, 174), (20, 3), (21, 3)], 22, 0, T_Effect, [.int .i64 0, .int .i64 0, .int .i64 0, .int .i64 0, .int .i64 0, .int .i64 0, .int .i64 0, .int .i64 0, .int .i64 0, .int .i64 0, .int .i64 0, .int .i64 0, .int .i64 0, .int .i64 0, .int .i64 0, .int .i64 0, .int .i64 0, .int .i64 0, .bool false, .nil, .int .i64 0, .int .i64 0]⟩),
  (177, ⟨.other, 1, 0, .unit, [.undef]⟩),
  (178, ⟨.other, 1, 0, .unit, [.undef]⟩),
  (179, ⟨.other, 1, 0, .unit, [.undef]⟩),
  (180, ⟨.other, 1, 0, .unit, [.undef]⟩),
  (181, ⟨.other, 1, 0, .unit, [.undef]⟩),
  (182, ⟨.other, 1, 0, .unit, [.undef]⟩),
  (183, ⟨.other, 1, 0, .unit, [.undef]⟩),
  (184, ⟨.other, 1, 0, .unit, [.undef]⟩),
  (185, ⟨.other, 1, 0, .unit, [.undef]⟩),
  (186, ⟨.other, 1, 0, .unit, [.undef]⟩),
  (187, ⟨.other, 1, 0, .unit, [.undef]⟩),
  (188, ⟨.other, 1, 0, .unit, [.undef]⟩),
  (189, ⟨.other, 1, 0, .unit, [.undef]⟩),
  (190, ⟨.other, 1, 0, .unit, [.undef]⟩),
  (191, ⟨.other, 1, 0, .unit, [.undef]⟩),
  (192, ⟨.other, 1, 0, .unit, [.undef]⟩),
  (193, ⟨.other, 1, 0, .unit, [.undef]⟩),
  (194, ⟨.other, 1, 0, .unit, [.undef]⟩),
  (195, ⟨.other, 1, 0, .unit, [.undef]⟩),
  (196, ⟨.other, 1, 0, .unit, [.undef]⟩),
  (197, ⟨.other, 1, 0, .unit, [.undef]⟩),
  (198, ⟨.other, 1, 0, .unit, [.undef]⟩),
  (199, ⟨.other, 1, 0, .unit, [.undef]⟩),
  (205, ⟨.other, 1, 0, .unit, [.undef]⟩),
  (206, ⟨.int .u32, 1, 0, (.int .u32), [.int .u32 0]⟩),
  (207, ⟨.int .u8, 1, 0, (.int .u8), [.int .u8 0]⟩),
  (208, ⟨.int .u8, 1, 0, (.int .u8), [.int .u8 0]⟩),
  (209, ⟨.other, 1, 0, .unit, [.undef]⟩),
  (210, ⟨.other, 1, 0, .unit, [.undef]⟩),
  (211, ⟨.int .i32, 1, 0, (.int .i32), [.int .i32 0]⟩),
  (212, ⟨.int .i32, 1, 0, (.int .i32), [.int .i32 0]⟩)]
theorem tabOk : TabOk Try.prog tab := tabB_ok (by kernel_rfl)
theorem mixed : Try.prog.follows .mixedOrders = true := by kernel_rfl
/-! loop.example/g00486/laws.szPieceS -/
def laws_szPieceS (a0 : (List T_Piece.D)) (a1 : Int) : Option Int :=
 bif decide ((IntKind.wrap .i64 (a1 - (a0.length : Int))) < 0) then (
 some (-1))
 else (
 some (IntKind.wrap .i64 (a1 - (a0.length : Int))))
def laws_szPieceS_c : Ct := .pure true false (.pair (.slice T_Piece) (.pair (.int .i64) .unit)) (.int .i64) (fun x => laws_szPieceS x.1 x.2.1)
theorem laws_szPieceS_ct : CtOk Try.prog 63 laws_szPieceS_c := pure_ct (E := { T := tab, G := [] }) (EnvOk.nil tabOk) mixed (fn := Try.f63) _ _ _ _ _ .none Try.func63 (by kernel_rfl) (fun x => by kernel_rfl)
/-! loop.example/g00486/laws.szSideS -/
def laws_szSideS (a0 : (List T_Side.D)) (a1 : Int) : Option Int :=
 bif decide ((IntKind.wrap .i64 (a1 - (a0.length : Int))) < 0) then (
 some (-1))
 else (
 some (IntKind.wrap .i64 (a1 - (a0.length : Int))))
def laws_szSideS_c : Ct := .pure true false (.pair (.slice T_Side) (.pair (.int .i64) .unit)) (.int .i64) (fun x => laws_szSideS x.1 x.2.1)
theorem laws_szSideS_ct : CtOk Try.prog 64 laws_szSideS_c := pure_ct (E := { T := tab, G := [] }) (EnvOk.nil tabOk) mixed (fn := Try.f64) _ _ _ _ _ .none Try.func64 (by kernel_rfl) (fun x => by kernel_rfl)
/-! loop.example/g00486/laws.szState -/
def laws_szState (a0 : T_State.D) (a1 : Int) : Option Int :=
(laws_szPieceS a0.1 a1).bind fun y1 =>
 bif decide (y1 < 0) then (
 some (-1))
 else (
(laws_szSideS a0.2.1 y1).bind fun y2 =>
 bif decide (y2 < 0) then (
 some (-1))
 else (
 some y2))
def laws_szState_c : Ct := .pure true false (.pair T_State (.pair (.int .i64) .unit)) (.int .i64) (fun x => laws_szState x.1 x.2.1)
theorem laws_szState_ct : CtOk Try.prog 14 laws_szState_c := pure_ct (E := { T := tab, G := [(63, laws_szPieceS_c), (64, laws_szSideS_c)] }) (EnvOk.cons laws_szPieceS_ct (EnvOk.cons laws_szSideS_ct (EnvOk.nil tabOk))) mixed (fn := Try.f14) _ _ _ _ _ .none Try.func14 (by kernel_rfl) (fun x => by kernel_rfl)
/-! loop.example/g00486/laws.toPiece -/
def laws_toPiece (a0 : T_Piece.D) : Option T_Piece.D :=
 some a0
def laws_toPiece_c : Ct := .pure true false (.pair T_Piece .unit) T_Piece (fun x => laws_toPiece x.1)
theorem laws_toPiece_ct : CtOk Try.prog 39 laws_toPiece_c := pure_ct (E := { T := tab, G := [] }) (EnvOk.nil tabOk) mixed (fn := Try.f39) _ _ _ _ _ .none Try.func39 (by kernel_rfl) (fun x => by kernel_rfl)
/-! loop.example/g00486/laws.toPieceS -/
def laws_toPieceS_l1 (a0 : (List T_Piece.D)) : ((List T_Piece.D) × Int) → Option (((List T_Piece.D) × Int) ⊕ ((List T_Piece.D) × Int)) := fun s2 =>
 bif decide (s2.2 < (a0.length : Int)) then (
 idx a0 s2.2 fun x3 =>
(laws_toPiece x3).bind fun y4 =>
 idx s2.1 s2.2 fun _ =>
(s2.1[(s2.2 : Int).toNat]?).bind fun x5 =>
 let u6 : (List T_Piece.D) := s2.1.set (s2.2 : Int).toNat y4
 some (.inl (u6, IntKind.wrap .i64 (s2.2 + 1))))
 else (
 some (.inr s2))
def laws_toPieceS (a0 : (List T_Piece.D)) : Option (List T_Piece.D) :=
 if 0 ≤ (a0.length : Int) then (if ((a0.length : Int)).toNat * (24 * 13) ≤ room then (
(while_ (laws_toPieceS_l1 a0) ((List.replicate ((a0.length : Int)).toNat (0, 0, 0, 0, 0, 0, 0, 0, 0, 0, 0, false, false, ())), 0)).bind fun o7 =>
 some o7.1) else none) else none
def laws_toPieceS_h : Hints := (.node none none .none (.node none none .none (.node none none (.node none none .none (.node none none (.node none (some ⟨[.tmpO 3 0 (.slice T_Piece), .tmp 4 (.int .i64)], [some 0], none, []⟩) .none .none) .none)) .none)))
def laws_toPieceS_c : Ct := .pure true false (.pair (.slice T_Piece) .unit) (.slice T_Piece) (fun x => laws_toPieceS x.1)
theorem laws_toPieceS_ct : CtOk Try.prog 65 laws_toPieceS_c := pure_ct (E := { T := tab, G := [(39, laws_toPiece_c)] }) (EnvOk.cons laws_toPiece_ct (EnvOk.nil tabOk)) mixed (fn := Try.f65) _ _ _ _ _ laws_toPieceS_h Try.func65 (by kernel_rfl) (fun x => by kernel_rfl)
def laws_toPieceS_fresh_c : Ct := .pure true true (.pair (.slice T_Piece) .unit) (.slice T_Piece) (fun x => laws_toPieceS x.1)
theorem laws_toPieceS_fresh_ct : CtOk Try.prog 65 laws_toPieceS_fresh_c := pure_ct (E := { T := tab, G := [(39, laws_toPiece_c)] }) (EnvOk.cons laws_toPiece_ct (EnvOk.nil tabOk)) mixed (fn := Try.f65) _ _ _ _ _ laws_toPieceS_h Try.func65 (by kernel_rfl) (fun x => by kernel_rfl)
/-! loop.example/g00486/laws.toSide -/
def laws_toSide (a0 : T_Side.D) : Option T_Side.D :=
 some a0
def laws_toSide_c : Ct := .pure true false (.pair T_Side .unit) T_Side (fun x => laws_toSide x.1)
theorem laws_toSide_ct : CtOk Try.prog 141 laws_toSide_c := pure_ct (E := { T := tab, G := [] }) (EnvOk.nil tabOk) mixed (fn := Try.f141) _ _ _ _ _ .none Try.func141 (by kernel_rfl) (fun x => by kernel_rfl)
/-! loop.example/g00486/laws.toSideS -/
def laws_toSideS_l1 (a0 : (List T_Side.D)) : ((List T_Side.D) × Int) → Option (((List T_Side.D) × Int) ⊕ ((List T_Side.D) × Int)) := fun s2 =>
 bif decide (s2.2 < (a0.length : Int)) then (
 idx a0 s2.2 fun x3 =>
(laws_toSide x3).bind fun y4 =>
 idx s2.1 s2.2 fun _ =>
(s2.1[(s2.2 : Int).toNat]?).bind fun x5 =>
 let u6 : (List T_Side.D) := s2.1.set (s2.2 : Int).toNat y4
 some (.inl (u6, IntKind.wrap .i64 (s2.2 + 1))))
 else (
 some (.inr s2))
def laws_toSideS (a0 : (List T_Side.D)) : Option (List T_Side.D) :=
 if 0 ≤ (a0.length : Int) then (if ((a0.length : Int)).toNat * (24 * 3) ≤ room then (
(while_ (laws_toSideS_l1 a0) ((List.replicate ((a0.length : Int)).toNat (0, 0, false, ())), 0)).bind fun o7 =>
 some o7.1) else none) else none
def laws_toSideS_h : Hints := (.node none none .none (.node none none .none (.node none none (.node none none .none (.node none none (.node none (some ⟨[.tmpO 3 0 (.slice T_Side), .tmp 4 (.int .i64)], [some 0], none, []⟩) .none .none) .none)) .none)))
def laws_toSideS_c : Ct := .pure true false (.pair (.slice T_Side) .unit) (.slice T_Side) (fun x => laws_toSideS x.1)
theorem laws_toSideS_ct : CtOk Try.prog 66 laws_toSideS_c := pure_ct (E := { T := tab, G := [(141, laws_toSide_c)] }) (EnvOk.cons laws_toSide_ct (EnvOk.nil tabOk)) mixed (fn := Try.f66) _ _ _ _ _ laws_toSideS_h Try.func66 (by kernel_rfl) (fun x => by kernel_rfl)
def laws_toSideS_fresh_c : Ct := .pure true true (.pair (.slice T_Side) .unit) (.slice T_Side) (fun x => laws_toSideS x.1)
theorem laws_toSideS_fresh_ct : CtOk Try.prog 66 laws_toSideS_fresh_c := pure_ct (E := { T := tab, G := [(141, laws_toSide_c)] }) (EnvOk.cons laws_toSide_ct (EnvOk.nil tabOk)) mixed (fn := Try.f66) _ _ _ _ _ laws_toSideS_h Try.func66 (by kernel_rfl) (fun x => by kernel_rfl)
/-! loop.example/g00486/laws.toState -/
def laws_toState (a0 : T_State.D) : Option T_State.D :=
(laws_toPieceS a0.1).bind fun y1 =>
(laws_toSideS a0.2.1).bind fun y2 =>
 some (y1, y2, a0.2.2)
def laws_toState_c : Ct := .pure true false (.pair T_State .unit) T_State (fun x => laws_toState x.1)
theorem laws_toState_ct : CtOk Try.prog 16 laws_toState_c := pure_ct (E := { T := tab, G := [(65, laws_toPieceS_fresh_c), (66, laws_toSideS_fresh_c)] }) (EnvOk.cons laws_toPieceS_fresh_ct (EnvOk.cons laws_toSideS_fresh_ct (EnvOk.nil tabOk))) mixed (fn := Try.f16) _ _ _ _ _ .none Try.func16 (by kernel_rfl) (fun x => by kernel_rfl)
def laws_toState_fresh_c : Ct := .pure true true (.pair T_State .unit) T_State (fun x => laws_toState x.1)
theorem laws_toState_fresh_ct : CtOk Try.prog 16 laws_toState_fresh_c := pure_ct (E := { T := tab, G := [(65, laws_toPieceS_fresh_c), (66, laws_toSideS_fresh_c)] }) (EnvOk.cons laws_toPieceS_fresh_ct (EnvOk.cons laws_toSideS_fresh_ct (EnvOk.nil tabOk))) mixed (fn := Try.f16) _ _ _ _ _ .none Try.func16 (by kernel_rfl) (fun x => by kernel_rfl)
/-! loop.example/g00486/spec.l5Copy -/
def spec_l5Copy (a0 : T_State.D) : Option T_State.D :=
 if (([] : List T_Piece.D).length + a0.1.length) * (24 * 13) ≤ room then (
 if (([] : List T_Side.D).length + a0.2.1.length) * (24 * 3) ≤ room then (
 some (([] ++ a0.1), ([] ++ a0.2.1), a0.2.2)) else none) else none
def spec_l5Copy_c : Ct := .pure true false (.pair T_State .unit) T_State (fun x => spec_l5Copy x.1)
theorem spec_l5Copy_ct : CtOk Try.prog 94 spec_l5Copy_c := pure_ct (E := { T := tab, G := [] }) (EnvOk.nil tabOk) mixed (fn := Try.f94) _ _ _ _ _ .none Try.func94 (by kernel_rfl) (fun x => by kernel_rfl)
def spec_l5Copy_fresh_c : Ct := .pure true true (.pair T_State .unit) T_State (fun x => spec_l5Copy x.1)
theorem spec_l5Copy_fresh_ct : CtOk Try.prog 94 spec_l5Copy_fresh_c := pure_ct (E := { T := tab, G := [] }) (EnvOk.nil tabOk) mixed (fn := Try.f94) _ _ _ _ _ .none Try.func94 (by kernel_rfl) (fun x => by kernel_rfl)
/-! loop.example/g00486/spec.l1In -/
def spec_l1In (a0 : Int) (a1 : Int) (a2 : Int) : Option Bool :=
 bif decide (a0 ≥ a1) then (
 some (decide (a0 ≤ a2)))
 else (
 some false)
def spec_l1In_c : Ct := .pure true false (.pair (.int .i64) (.pair (.int .i64) (.pair (.int .i64) .unit))) .bool (fun x => spec_l1In x.1 x.2.1 x.2.2.1)
theorem spec_l1In_ct : CtOk Try.prog 115 spec_l1In_c := pure_ct (E := { T := tab, G := [] }) (EnvOk.nil tabOk) mixed (fn := Try.f115) _ _ _ _ _ .none Try.func115 (by kernel_rfl) (fun x => by kernel_rfl)
/-! loop.example/g00486/spec.PieceOk -/
def spec_PieceOk (a0 : T_Piece.D) : Option Bool :=
(((spec_l1In a0.1 1 99).bind fun y1 =>
 bif (!y1) then (
 some true)
 else (
(spec_l1In a0.2.1 0 2).bind fun y2 =>
 bif (!y2) then (
 some true)
 else (
(spec_l1In a0.2.2.1 0 2).bind fun y3 =>
 bif (!y3) then (
 some true)
 else (
(spec_l1In a0.2.2.2.1 1 4).bind fun y4 =>
 bif (!y4) then (
 some true)
 else (
(spec_l1In a0.2.2.2.2.1 0 9999).bind fun y5 =>
 bif (!y5) then (
 some true)
 else (
(spec_l1In a0.2.2.2.2.2.1 0 999).bind fun y6 =>
 bif (!y6) then (
 some true)
 else (
(spec_l1In a0.2.2.2.2.2.2.1 0 999).bind fun y7 =>
 bif (!y7) then (
 some true)
 else (
(spec_l1In a0.2.2.2.2.2.2.2.1 0 63).bind fun y8 =>
 some (!y8))))))))) : Option Bool).bind fun o9 =>
 bif o9 then (
 some false)
 else (
(((spec_l1In a0.2.2.2.2.2.2.2.2.1 0 2147483647).bind fun y10 =>
 bif (!y10) then (
 some true)
 else (
(spec_l1In a0.2.2.2.2.2.2.2.2.2.1 0 2147483647).bind fun y11 =>
 bif (!y11) then (
 some true)
 else (
(spec_l1In a0.2.2.2.2.2.2.2.2.2.2.1 0 2147483647).bind fun y12 =>
 some (!y12)))) : Option Bool).bind fun o13 =>
 bif o13 then (
 some false)
 else (
 bif (a0.2.2.2.1 == 2) then (
 some true)
 else (
 bif (a0.2.2.1 == a0.2.1) then (
 bif (a0.2.2.2.2.2.2.2.2.1 == 0) then (
 bif (a0.2.2.2.2.2.2.2.2.2.1 == 0) then (
 bif (a0.2.2.2.2.2.2.2.2.2.2.1 == 0) then (
 bif (!a0.2.2.2.2.2.2.2.2.2.2.2.1) then (
 some (!a0.2.2.2.2.2.2.2.2.2.2.2.2.1))
 else (
 some false))
 else (
 some false))
 else (
 some false))
 else (
 some false))
 else (
 some false))))
def spec_PieceOk_h : Hints := (.node none none .none (.node none none (.node none none (.node (some ⟨[.tmp 48 .bool], [none], none, []⟩) none .none .none) .none) (.node none none (.node none none (.node (some ⟨[.tmp 64 .bool], [none], none, []⟩) none .none .none) .none) .none)))
def spec_PieceOk_c : Ct := .pure true false (.pair T_Piece .unit) .bool (fun x => spec_PieceOk x.1)
theorem spec_PieceOk_ct : CtOk Try.prog 160 spec_PieceOk_c := pure_ct (E := { T := tab, G := [(115, spec_l1In_c)] }) (EnvOk.cons spec_l1In_ct (EnvOk.nil tabOk)) mixed (fn := Try.f160) _ _ _ _ _ spec_PieceOk_h Try.func160 (by kernel_rfl) (fun x => by kernel_rfl)
/-! loop.example/g00486/spec.l5Side -/
def spec_l5Side (a0 : T_Side.D) : Option Bool :=
(spec_l1In a0.1 (-2147483647) 2147483647).bind fun y1 =>
 bif y1 then (
(spec_l1In a0.2.1 0 2147483647).bind fun y2 =>
 some y2)
 else (
 some false)
def spec_l5Side_c : Ct := .pure true false (.pair T_Side .unit) .bool (fun x => spec_l5Side x.1)
theorem spec_l5Side_ct : CtOk Try.prog 161 spec_l5Side_c := pure_ct (E := { T := tab, G := [(115, spec_l1In_c)] }) (EnvOk.cons spec_l1In_ct (EnvOk.nil tabOk)) mixed (fn := Try.f161) _ _ _ _ _ .none Try.func161 (by kernel_rfl) (fun x => by kernel_rfl)
/-! loop.example/g00486/spec.StateOk -/
def spec_StateOk_l1 (a0 : T_State.D) : Int → Option (Int ⊕ (Int ⊕ Bool)) := fun s5 =>
 bif decide (s5 < (a0.1.length : Int)) then (
 idx a0.1 s5 fun x6 =>
(((spec_PieceOk x6).bind fun y7 =>
 bif (!y7) then (
 some true)
 else (
 bif decide (s5 > 0) then (
 idx a0.1 (IntKind.wrap .i64 (s5 - 1)) fun x8 =>
 bif decide (x8.1 ≥ x6.1) then (
 some true)
 else (
 bif decide (x6.2.1 ≥ (a0.2.1.length : Int)) then (
 some true)
 else (
 bif decide (x6.2.2.1 ≥ (a0.2.1.length : Int)) then (
 some true)
 else (
 some (decide (x6.2.2.2.2.1 > a0.2.2.2.1))))))
 else (
 bif decide (x6.2.1 ≥ (a0.2.1.length : Int)) then (
 some true)
 else (
 bif decide (x6.2.2.1 ≥ (a0.2.1.length : Int)) then (
 some true)
 else (
 some (decide (x6.2.2.2.2.1 > a0.2.2.2.1))))))) : Option Bool).bind fun o9 =>
 bif o9 then (
 some (.inr (.inr false)))
 else (
 some (.inl (IntKind.wrap .i64 (s5 + 1)))))
 else (
 some (.inr (.inl s5)))
def spec_StateOk_l2 (a0 : T_State.D) : Int → Option (Int ⊕ (Int ⊕ Bool)) := fun s13 =>
 bif decide (s13 < (a0.2.1.length : Int)) then (
 idx a0.2.1 s13 fun x14 =>
(spec_l5Side x14).bind fun y15 =>
 bif (!y15) then (
 some (.inr (.inr false)))
 else (
 some (.inl (IntKind.wrap .i64 (s13 + 1)))))
 else (
 some (.inr (.inl s13)))
def spec_StateOk (a0 : T_State.D) : Option Bool :=
((bif decide ((a0.1.length : Int) > 8) then (
 some true)
 else (
(spec_l1In (a0.2.1.length : Int) 2 3).bind fun y1 =>
 bif (!y1) then (
 some true)
 else (
(spec_l1In a0.2.2.1 0 (IntKind.wrap .i64 ((a0.2.1.length : Int) - 1))).bind fun y2 =>
 bif (!y2) then (
 some true)
 else (
(spec_l1In a0.2.2.2.1 0 9999).bind fun y3 =>
 some (!y3))))) : Option Bool).bind fun o4 =>
 bif o4 then (
 some false)
 else (
(while_ (spec_StateOk_l1 a0) 0).bind fun o10 =>
 match o10 with
| .inl s11 => (
(while_ (spec_StateOk_l2 a0) 0).bind fun o16 =>
 match o16 with
| .inl s17 => (
 some true)
| .inr o18 => (
 some o18))
| .inr o12 => (
 some o12))
def spec_StateOk_h : Hints := (.node none none .none (.node none none (.node none none (.node (some ⟨[.tmp 32 .bool], [none], none, []⟩) none .none .none) .none) (.node none none (.node none none .none (.node none none (.node none (some ⟨[.tmp 3 (.int .i64)], [some 0], some [.tmp 2 .bool], []⟩) (.node none none .none (.node none none (.node none none (.node none none .none (.node none none (.node (some ⟨[.tmp 86 .bool], [none], none, []⟩) none .none .none) .none)) .none) .none)) .none) .none)) (.node none none (.node none none .none (.node none none (.node none (some ⟨[.tmp 5 (.int .i64)], [some 2], some [.tmp 2 .bool], []⟩) .none .none) .none)) .none))))
def spec_StateOk_c : Ct := .pure true false (.pair T_State .unit) .bool (fun x => spec_StateOk x.1)
theorem spec_StateOk_ct : CtOk Try.prog 96 spec_StateOk_c := pure_ct (E := { T := tab, G := [(115, spec_l1In_c), (160, spec_PieceOk_c), (161, spec_l5Side_c)] }) (EnvOk.cons spec_l1In_ct (EnvOk.cons spec_PieceOk_ct (EnvOk.cons spec_l5Side_ct (EnvOk.nil tabOk)))) mixed (fn := Try.f96) _ _ _ _ _ spec_StateOk_h Try.func96 (by kernel_rfl) (fun x => by kernel_rfl)
/-! loop.example/g00486/spec.Bound -/
def spec_Bound (a0 : Int) : Option Int :=
 bif decide (a0 > 2147483647) then (
 some 2147483647)
 else (
 bif decide (a0 < (-2147483647)) then (
 some (-2147483647))
 else (
 some a0))
def spec_Bound_c : Ct := .pure true false (.pair (.int .i64) .unit) (.int .i64) (fun x => spec_Bound x.1)
theorem spec_Bound_ct : CtOk Try.prog 177 spec_Bound_c := pure_ct (E := { T := tab, G := [] }) (EnvOk.nil tabOk) mixed (fn := Try.f177) _ _ _ _ _ .none Try.func177 (by kernel_rfl) (fun x => by kernel_rfl)
/-! loop.example/g00486/spec.Plus -/
def spec_Plus (a0 : Int) (a1 : Int) : Option Int :=
(spec_Bound a0).bind fun y1 =>
(spec_Bound a1).bind fun y2 =>
(spec_Bound (IntKind.wrap .i64 (y1 + y2))).bind fun y3 =>
 some y3
def spec_Plus_c : Ct := .pure true false (.pair (.int .i64) (.pair (.int .i64) .unit)) (.int .i64) (fun x => spec_Plus x.1 x.2.1)
theorem spec_Plus_ct : CtOk Try.prog 108 spec_Plus_c := pure_ct (E := { T := tab, G := [(177, spec_Bound_c)] }) (EnvOk.cons spec_Bound_ct (EnvOk.nil tabOk)) mixed (fn := Try.f108) _ _ _ _ _ .none Try.func108 (by kernel_rfl) (fun x => by kernel_rfl)
/-! loop.example/g00486/spec.Less -/
def spec_Less (a0 : Int) (a1 : Int) : Option Int :=
(spec_Bound a0).bind fun y1 =>
(spec_Bound a1).bind fun y2 =>
(spec_Bound (IntKind.wrap .i64 (y1 - y2))).bind fun y3 =>
 some y3
def spec_Less_c : Ct := .pure true false (.pair (.int .i64) (.pair (.int .i64) .unit)) (.int .i64) (fun x => spec_Less x.1 x.2.1)
theorem spec_Less_ct : CtOk Try.prog 109 spec_Less_c := pure_ct (E := { T := tab, G := [(177, spec_Bound_c)] }) (EnvOk.cons spec_Bound_ct (EnvOk.nil tabOk)) mixed (fn := Try.f109) _ _ _ _ _ .none Try.func109 (by kernel_rfl) (fun x => by kernel_rfl)
/-! loop.example/g00486/spec.ToughOf -/
def spec_ToughOf (a0 : T_Piece.D) : Option Int :=
(spec_Plus a0.2.2.2.2.2.2.1 a0.2.2.2.2.2.2.2.2.1).bind fun y1 =>
(spec_Less y1 a0.2.2.2.2.2.2.2.2.2.1).bind fun y2 =>
 some y2
def spec_ToughOf_c : Ct := .pure true false (.pair T_Piece .unit) (.int .i64) (fun x => spec_ToughOf x.1)
theorem spec_ToughOf_ct : CtOk Try.prog 180 spec_ToughOf_c := pure_ct (E := { T := tab, G := [(108, spec_Plus_c), (109, spec_Less_c)] }) (EnvOk.cons spec_Plus_ct (EnvOk.cons spec_Less_ct (EnvOk.nil tabOk))) mixed (fn := Try.f180) _ _ _ _ _ .none Try.func180 (by kernel_rfl) (fun x => by kernel_rfl)
/-! loop.example/g00486/spec.HasTrait -/
def spec_HasTrait (a0 : T_Piece.D) (a1 : Int) : Option Bool :=
 bif (a1 == 1) then (
 let k1 : Int := IntKind.wrap .i64 (BitVec.ofInt (IntKind.bits .i64) a0.2.2.2.2.2.2.2.1 &&& BitVec.ofInt (IntKind.bits .i64) a1).toNat
 some (k1 != 0))
 else (
 bif (a1 == 2) then (
 let k2 : Int := IntKind.wrap .i64 (BitVec.ofInt (IntKind.bits .i64) a0.2.2.2.2.2.2.2.1 &&& BitVec.ofInt (IntKind.bits .i64) a1).toNat
 some (k2 != 0))
 else (
 bif (a1 == 4) then (
 let k3 : Int := IntKind.wrap .i64 (BitVec.ofInt (IntKind.bits .i64) a0.2.2.2.2.2.2.2.1 &&& BitVec.ofInt (IntKind.bits .i64) a1).toNat
 some (k3 != 0))
 else (
 bif (a1 == 8) then (
 let k4 : Int := IntKind.wrap .i64 (BitVec.ofInt (IntKind.bits .i64) a0.2.2.2.2.2.2.2.1 &&& BitVec.ofInt (IntKind.bits .i64) a1).toNat
 some (k4 != 0))
 else (
 bif (a1 == 16) then (
 let k5 : Int := IntKind.wrap .i64 (BitVec.ofInt (IntKind.bits .i64) a0.2.2.2.2.2.2.2.1 &&& BitVec.ofInt (IntKind.bits .i64) a1).toNat
 some (k5 != 0))
 else (
 bif (a1 == 32) then (
 let k6 : Int := IntKind.wrap .i64 (BitVec.ofInt (IntKind.bits .i64) a0.2.2.2.2.2.2.2.1 &&& BitVec.ofInt (IntKind.bits .i64) a1).toNat
 some (k6 != 0))
 else (
 some false))))))
def spec_HasTrait_c : Ct := .pure true false (.pair T_Piece (.pair (.int .i64) .unit)) .bool (fun x => spec_HasTrait x.1 x.2.1)
theorem spec_HasTrait_ct : CtOk Try.prog 114 spec_HasTrait_c := pure_ct (E := { T := tab, G := [] }) (EnvOk.nil tabOk) mixed (fn := Try.f114) _ _ _ _ _ .none Try.func114 (by kernel_rfl) (fun x => by kernel_rfl)
/-! loop.example/g00486/spec.Doomed -/
def spec_Doomed (a0 : T_Piece.D) : Option Bool :=
 bif (a0.2.2.2.1 != 2) then (
 some false)
 else (
(spec_ToughOf a0).bind fun y1 =>
 bif decide (y1 ≤ 0) then (
 some true)
 else (
(spec_HasTrait a0 8).bind fun y2 =>
 bif (!y2) then (
 bif a0.2.2.2.2.2.2.2.2.2.2.2.1 then (
 some true)
 else (
 some (decide (a0.2.2.2.2.2.2.2.2.2.2.1 ≥ y1))))
 else (
 some false)))
def spec_Doomed_c : Ct := .pure true false (.pair T_Piece .unit) .bool (fun x => spec_Doomed x.1)
theorem spec_Doomed_ct : CtOk Try.prog 138 spec_Doomed_c := pure_ct (E := { T := tab, G := [(114, spec_HasTrait_c), (180, spec_ToughOf_c)] }) (EnvOk.cons spec_HasTrait_ct (EnvOk.cons spec_ToughOf_ct (EnvOk.nil tabOk))) mixed (fn := Try.f138) _ _ _ _ _ .none Try.func138 (by kernel_rfl) (fun x => by kernel_rfl)
/-! loop.example/g00486/spec.Moved -/
def spec_Moved (a0 : T_Piece.D) (a1 : Int) (a2 : Int) : Option T_Piece.D :=
 some (a0.1, a0.2.1, a0.2.1, a1, a2, a0.2.2.2.2.2.1, a0.2.2.2.2.2.2.1, a0.2.2.2.2.2.2.2.1, 0, 0, 0, false, false, ())
def spec_Moved_c : Ct := .pure true false (.pair T_Piece (.pair (.int .i64) (.pair (.int .i64) .unit))) T_Piece (fun x => spec_Moved x.1 x.2.1 x.2.2.1)
theorem spec_Moved_ct : CtOk Try.prog 98 spec_Moved_c := pure_ct (E := { T := tab, G := [] }) (EnvOk.nil tabOk) mixed (fn := Try.f98) _ _ _ _ _ .none Try.func98 (by kernel_rfl) (fun x => by kernel_rfl)
/-! loop.example/g00486/spec.Upto -/
def spec_Upto (a0 : Int) (a1 : Int) : Option Int :=
((bif decide (a1 < a0) then (
 some a1)
 else (
 some a0)) : Option Int).bind fun o1 =>
 bif decide (o1 < 0) then (
 some 0)
 else (
 some o1)
def spec_Upto_h : Hints := (.node none none .none (.node none none .none (.node none none (.node none none .none (.node (some ⟨[.tmp 5 (.int .i64)], [none], none, []⟩) none .none .none)) .none)))
def spec_Upto_c : Ct := .pure true false (.pair (.int .i64) (.pair (.int .i64) .unit)) (.int .i64) (fun x => spec_Upto x.1 x.2.1)
theorem spec_Upto_ct : CtOk Try.prog 139 spec_Upto_c := pure_ct (E := { T := tab, G := [] }) (EnvOk.nil tabOk) mixed (fn := Try.f139) _ _ _ _ _ spec_Upto_h Try.func139 (by kernel_rfl) (fun x => by kernel_rfl)
/-! loop.example/g00486/spec.Round -/
def spec_Round_l1 (a0 : T_State.D) : ((List T_Note.D) × (Int × ((List T_Piece.D) × ((List T_Side.D) × (Int × (Int × Unit)))))) → Option (((List T_Note.D) × (Int × ((List T_Piece.D) × ((List T_Side.D) × (Int × (Int × Unit)))))) ⊕ ((List T_Note.D) × (Int × ((List T_Piece.D) × ((List T_Side.D) × (Int × (Int × Unit))))))) := fun s4 =>
 bif decide (s4.2.1 < (a0.2.1.length : Int)) then (
 idx a0.2.1 s4.2.1 fun x5 =>
((bif (!x5.2.2.1) then (
 bif decide (x5.1 ≤ 0) then (
 some true)
 else (
 some (decide (x5.2.1 ≥ 10))))
 else (
 some false)) : Option Bool).bind fun o6 =>
((bif o6 then (
 idx s4.2.2.2.1 s4.2.1 fun _ =>
(s4.2.2.2.1[(s4.2.1 : Int).toNat]?).bind fun x7 =>
 let u8 : (List T_Side.D) := s4.2.2.2.1.set (s4.2.1 : Int).toNat (x7.1, x7.2.1, true, ())
 if (s4.1.length + ([(5, (0, 0, 0, 0, 0, 0, false, ()), 0, s4.2.1, (0, 0, 0, 0, 0, 0, 0, 0, 0, 0, 0, false, false, ()), ())] : List T_Note.D).length) * (24 * 23) ≤ room then (
 some ((s4.1 ++ ([(5, (0, 0, 0, 0, 0, 0, false, ()), 0, s4.2.1, (0, 0, 0, 0, 0, 0, 0, 0, 0, 0, 0, false, false, ()), ())] : List T_Note.D)), s4.2.2.1, u8, s4.2.2.2.2)) else none)
 else (
 some (s4.1, s4.2.2))) : Option ((List T_Note.D) × ((List T_Piece.D) × ((List T_Side.D) × (Int × (Int × Unit)))))).bind fun o9 =>
 some (.inl (o9.1, IntKind.wrap .i64 (s4.2.1 + 1), o9.2)))
 else (
 some (.inr s4))
def spec_Round_l2 (a0 : T_State.D) : ((List T_Note.D) × (Int × ((List T_Piece.D) × ((List T_Side.D) × (Int × (Int × Unit)))))) → Option (((List T_Note.D) × (Int × ((List T_Piece.D) × ((List T_Side.D) × (Int × (Int × Unit)))))) ⊕ ((List T_Note.D) × (Int × ((List T_Piece.D) × ((List T_Side.D) × (Int × (Int × Unit))))))) := fun s12 =>
 bif decide (s12.2.1 < (a0.1.length : Int)) then (
((idx a0.1 s12.2.1 fun x13 =>
(spec_Doomed x13).bind fun y14 =>
 bif y14 then (
(spec_Moved x13 3 a0.2.2.2.1).bind fun y15 =>
 idx s12.2.2.1 s12.2.1 fun _ =>
(s12.2.2.1[(s12.2.1 : Int).toNat]?).bind fun x16 =>
 let u17 : (List T_Piece.D) := s12.2.2.1.set (s12.2.1 : Int).toNat y15
 if (s12.1.length + ([(6, (0, 0, 0, 0, 0, 0, false, ()), 0, 0, x13, ())] : List T_Note.D).length) * (24 * 23) ≤ room then (
 some ((s12.1 ++ ([(6, (0, 0, 0, 0, 0, 0, false, ()), 0, 0, x13, ())] : List T_Note.D)), u17, s12.2.2.2)) else none)
 else (
(spec_Upto x13.2.2.2.2.2.2.2.2.1 x13.2.2.2.2.2.2.2.2.2.1).bind fun y18 =>
((bif (x13.2.2.2.1 == 2) then (
 some (decide (y18 > 0)))
 else (
 some false)) : Option Bool).bind fun o19 =>
((bif o19 then (
 idx s12.2.2.1 s12.2.1 fun _ =>
(s12.2.2.1[(s12.2.1 : Int).toNat]?).bind fun x20 =>
 let u21 : (List T_Piece.D) := s12.2.2.1.set (s12.2.1 : Int).toNat (x20.1, x20.2.1, x20.2.2.1, x20.2.2.2.1, x20.2.2.2.2.1, x20.2.2.2.2.2.1, x20.2.2.2.2.2.2.1, x20.2.2.2.2.2.2.2.1, IntKind.wrap .i64 (x13.2.2.2.2.2.2.2.2.1 - y18), x20.2.2.2.2.2.2.2.2.2)
 idx u21 s12.2.1 fun _ =>
(u21[(s12.2.1 : Int).toNat]?).bind fun x22 =>
 let u23 : (List T_Piece.D) := u21.set (s12.2.1 : Int).toNat (x22.1, x22.2.1, x22.2.2.1, x22.2.2.2.1, x22.2.2.2.2.1, x22.2.2.2.2.2.1, x22.2.2.2.2.2.2.1, x22.2.2.2.2.2.2.2.1, x22.2.2.2.2.2.2.2.2.1, IntKind.wrap .i64 (x13.2.2.2.2.2.2.2.2.2.1 - y18), x22.2.2.2.2.2.2.2.2.2.2)
 if (s12.1.length + ([(7, (0, 0, 0, 0, 0, 0, false, ()), y18, 0, x13, ())] : List T_Note.D).length) * (24 * 23) ≤ room then (
 some ((s12.1 ++ ([(7, (0, 0, 0, 0, 0, 0, false, ()), y18, 0, x13, ())] : List T_Note.D)), u23, s12.2.2.2)) else none)
 else (
 some (s12.1, s12.2.2))) : Option ((List T_Note.D) × ((List T_Piece.D) × ((List T_Side.D) × (Int × (Int × Unit)))))).bind fun o24 =>
 some o24)) : Option ((List T_Note.D) × ((List T_Piece.D) × ((List T_Side.D) × (Int × (Int × Unit)))))).bind fun o25 =>
 some (.inl (o25.1, IntKind.wrap .i64 (s12.2.1 + 1), o25.2)))
 else (
 some (.inr s12))
def spec_Round (a0 : T_State.D) : Option (T_State.D × ((List T_Note.D) × Unit)) :=
(spec_l5Copy a0).bind fun y1 =>
(spec_StateOk a0).bind fun y2 =>
 bif (!y2) then (
 some (y1, [], ()))
 else (
(while_ (spec_Round_l1 a0) ([], 0, y1)).bind fun o10 =>
(while_ (spec_Round_l2 a0) (o10.1, 0, o10.2.2)).bind fun o26 =>
 some (o26.2.2, o26.1, ()))
def spec_Round_h : Hints := (.node none none .none (.node none none .none (.node none none .none (.node none none .none (.node none none (.node none none .none (.node none none (.node none (some ⟨[.tmpO 5 0 (.slice T_Note), .tmp 6 (.int .i64), .boxO 4 0 1 T_State], [some 0], none, []⟩) (.node none none .none (.node none none (.node none none (.node none none .none (.node none none (.node (some ⟨[.tmp 43 .bool], [none], none, []⟩) none .none .none) (.node (some ⟨[.tmpO 5 1 (.slice T_Note), .boxO 4 0 3 T_State], [none], none, [(4, 2), (4, 0), (5, 0), (4, 1)]⟩) none .none .none))) .none) .none)) .none) .none)) (.node none none (.node none none .none (.node none none (.node none (some ⟨[.tmpO 5 1 (.slice T_Note), .tmp 8 (.int .i64), .boxO 4 0 3 T_State], [some 2], none, []⟩) (.node none none .none (.node none none (.node (some ⟨[.tmpO 5 2 (.slice T_Note), .boxO 4 0 5 T_State], [none], none, [(4, 3), (4, 0), (5, 1), (4, 4)]⟩) none (.node none none .none (.node none none .none (.node none none .none (.node none none (.node (some ⟨[.tmp 92 .bool], [none], none, []⟩) none .none .none) (.node (some ⟨[.tmpO 5 2 (.slice T_Note), .boxO 4 0 5 T_State], [none], none, [(4, 3), (4, 0), (5, 1), (4, 4)]⟩) none .none .none))))) .none) .none)) .none) .none)) .none))))))
def spec_Round_c : Ct := .pure false false (.pair T_State .unit) (.pair T_State (.pair (.slice T_Note) .unit)) (fun x => spec_Round x.1)
theorem spec_Round_ct : CtOk Try.prog 58 spec_Round_c := pure_ct (E := { T := tab, G := [(94, spec_l5Copy_fresh_c), (96, spec_StateOk_c), (98, spec_Moved_c), (138, spec_Doomed_c), (139, spec_Upto_c)] }) (EnvOk.cons spec_l5Copy_fresh_ct (EnvOk.cons spec_StateOk_ct (EnvOk.cons spec_Moved_ct (EnvOk.cons spec_Doomed_ct (EnvOk.cons spec_Upto_ct (EnvOk.nil tabOk)))))) mixed (fn := Try.f58) _ _ _ _ _ spec_Round_h Try.func58 (by kernel_rfl) (fun x => by kernel_rfl)
def spec_Round_fresh_c : Ct := .pure false true (.pair T_State .unit) (.pair T_State (.pair (.slice T_Note) .unit)) (fun x => spec_Round x.1)
theorem spec_Round_fresh_ct : CtOk Try.prog 58 spec_Round_fresh_c := pure_ct (E := { T := tab, G := [(94, spec_l5Copy_fresh_c), (96, spec_StateOk_c), (98, spec_Moved_c), (138, spec_Doomed_c), (139, spec_Upto_c)] }) (EnvOk.cons spec_l5Copy_fresh_ct (EnvOk.cons spec_StateOk_ct (EnvOk.cons spec_Moved_ct (EnvOk.cons spec_Doomed_ct (EnvOk.cons spec_Upto_ct (EnvOk.nil tabOk)))))) mixed (fn := Try.f58) _ _ _ _ _ spec_Round_h Try.func58 (by kernel_rfl) (fun x => by kernel_rfl)
/-! loop.example/g00486/spec.Quiet -/
def spec_Quiet (a0 : T_State.D) : Option Bool :=
(spec_Round a0).bind fun y1 =>
 some ((y1.2.1.length : Int) == 0)
def spec_Quiet_c : Ct := .pure true false (.pair T_State .unit) .bool (fun x => spec_Quiet x.1)
theorem spec_Quiet_ct : CtOk Try.prog 15 spec_Quiet_c := pure_ct (E := { T := tab, G := [(58, spec_Round_fresh_c)] }) (EnvOk.cons spec_Round_fresh_ct (EnvOk.nil tabOk)) mixed (fn := Try.f15) _ _ _ _ _ .none Try.func15 (by kernel_rfl) (fun x => by kernel_rfl)
/-! slices.Clone[[]loop.example/g00486/impl.Piece,loop.example/g00486/impl.Piece] -/
def slices_Clone_impl_Piece (a0 : (List T_Piece.D)) : Option (List T_Piece.D) :=
 if (([] : List T_Piece.D).length + a0.length) * (24 * 13) ≤ room then (
 some ([] ++ a0)) else none
def slices_Clone_impl_Piece_c : Ct := .pure true false (.pair (.slice T_Piece) .unit) (.slice T_Piece) (fun x => slices_Clone_impl_Piece x.1)
theorem slices_Clone_impl_Piece_ct : CtOk Try.prog 162 slices_Clone_impl_Piece_c := nil_ct (E := { T := tab, G := [] }) (EnvOk.nil tabOk) mixed (fn := Try.f162) _ _ T_Piece _ _ .none .none Try.func162 (by kernel_rfl) (by kernel_rfl) (fun x => by kernel_rfl)
def slices_Clone_impl_Piece_fresh_c : Ct := .pure true true (.pair (.slice T_Piece) .unit) (.slice T_Piece) (fun x => slices_Clone_impl_Piece x.1)
theorem slices_Clone_impl_Piece_fresh_ct : CtOk Try.prog 162 slices_Clone_impl_Piece_fresh_c := nil_ct (E := { T := tab, G := [] }) (EnvOk.nil tabOk) mixed (fn := Try.f162) _ _ T_Piece _ _ .none .none Try.func162 (by kernel_rfl) (by kernel_rfl) (fun x => by kernel_rfl)
/-! slices.Clone[[]loop.example/g00486/impl.Side,loop.example/g00486/impl.Side] -/
def slices_Clone_impl_Side (a0 : (List T_Side.D)) : Option (List T_Side.D) :=
 if (([] : List T_Side.D).length + a0.length) * (24 * 3) ≤ room then (
 some ([] ++ a0)) else none
def slices_Clone_impl_Side_c : Ct := .pure true false (.pair (.slice T_Side) .unit) (.slice T_Side) (fun x => slices_Clone_impl_Side x.1)
theorem slices_Clone_impl_Side_ct : CtOk Try.prog 163 slices_Clone_impl_Side_c := nil_ct (E := { T := tab, G := [] }) (EnvOk.nil tabOk) mixed (fn := Try.f163) _ _ T_Side _ _ .none .none Try.func163 (by kernel_rfl) (by kernel_rfl) (fun x => by kernel_rfl)
def slices_Clone_impl_Side_fresh_c : Ct := .pure true true (.pair (.slice T_Side) .unit) (.slice T_Side) (fun x => slices_Clone_impl_Side x.1)
theorem slices_Clone_impl_Side_fresh_ct : CtOk Try.prog 163 slices_Clone_impl_Side_fresh_c := nil_ct (E := { T := tab, G := [] }) (EnvOk.nil tabOk) mixed (fn := Try.f163) _ _ T_Side _ _ .none .none Try.func163 (by kernel_rfl) (by kernel_rfl) (fun x => by kernel_rfl)
/-! loop.example/g00486/impl.copyState -/
def impl_copyState (a0 : T_State.D) : Option T_State.D :=
(slices_Clone_impl_Piece a0.1).bind fun y1 =>
(slices_Clone_impl_Side a0.2.1).bind fun y2 =>
 some (y1, y2, a0.2.2)
def impl_copyState_c : Ct := .pure true false (.pair T_State .unit) T_State (fun x => impl_copyState x.1)
theorem impl_copyState_ct : CtOk Try.prog 99 impl_copyState_c := pure_ct (E := { T := tab, G := [(162, slices_Clone_impl_Piece_fresh_c), (163, slices_Clone_impl_Side_fresh_c)] }) (EnvOk.cons slices_Clone_impl_Piece_fresh_ct (EnvOk.cons slices_Clone_impl_Side_fresh_ct (EnvOk.nil tabOk))) mixed (fn := Try.f99) _ _ _ _ _ .none Try.func99 (by kernel_rfl) (fun x => by kernel_rfl)
def impl_copyState_fresh_c : Ct := .pure true true (.pair T_State .unit) T_State (fun x => impl_copyState x.1)
theorem impl_copyState_fresh_ct : CtOk Try.prog 99 impl_copyState_fresh_c := pure_ct (E := { T := tab, G := [(162, slices_Clone_impl_Piece_fresh_c), (163, slices_Clone_impl_Side_fresh_c)] }) (EnvOk.cons slices_Clone_impl_Piece_fresh_ct (EnvOk.cons slices_Clone_impl_Side_fresh_ct (EnvOk.nil tabOk))) mixed (fn := Try.f99) _ _ _ _ _ .none Try.func99 (by kernel_rfl) (fun x => by kernel_rfl)
/-! loop.example/g00486/impl.from -/
def impl_from (a0 : Int) (a1 : Int) (a2 : Int) : Option Bool :=
 bif decide (a0 ≥ a1) then (
 some (decide (a0 ≤ a2)))
 else (
 some false)
def impl_from_c : Ct := .pure true false (.pair (.int .i64) (.pair (.int .i64) (.pair (.int .i64) .unit))) .bool (fun x => impl_from x.1 x.2.1 x.2.2.1)
theorem impl_from_ct : CtOk Try.prog 166 impl_from_c := pure_ct (E := { T := tab, G := [] }) (EnvOk.nil tabOk) mixed (fn := Try.f166) _ _ _ _ _ .none Try.func166 (by kernel_rfl) (fun x => by kernel_rfl)
/-! loop.example/g00486/impl.isSide -/
def impl_isSide (a0 : T_State.D) (a1 : Int) : Option Bool :=
(impl_from a1 0 (IntKind.wrap .i64 ((a0.2.1.length : Int) - 1))).bind fun y1 =>
 some y1
def impl_isSide_c : Ct := .pure true false (.pair T_State (.pair (.int .i64) .unit)) .bool (fun x => impl_isSide x.1 x.2.1)
theorem impl_isSide_ct : CtOk Try.prog 117 impl_isSide_c := pure_ct (E := { T := tab, G := [(166, impl_from_c)] }) (EnvOk.cons impl_from_ct (EnvOk.nil tabOk)) mixed (fn := Try.f117) _ _ _ _ _ .none Try.func117 (by kernel_rfl) (fun x => by kernel_rfl)
/-! loop.example/g00486/impl.isTime -/
def impl_isTime (a0 : Int) : Option Bool :=
(impl_from a0 0 9999).bind fun y1 =>
 some y1
def impl_isTime_c : Ct := .pure true false (.pair (.int .i64) .unit) .bool (fun x => impl_isTime x.1)
theorem impl_isTime_ct : CtOk Try.prog 167 impl_isTime_c := pure_ct (E := { T := tab, G := [(166, impl_from_c)] }) (EnvOk.cons impl_from_ct (EnvOk.nil tabOk)) mixed (fn := Try.f167) _ _ _ _ _ .none Try.func167 (by kernel_rfl) (fun x => by kernel_rfl)
/-! loop.example/g00486/impl.isId -/
def impl_isId (a0 : Int) : Option Bool :=
(impl_from a0 1 99).bind fun y1 =>
 some y1
def impl_isId_c : Ct := .pure true false (.pair (.int .i64) .unit) .bool (fun x => impl_isId x.1)
theorem impl_isId_ct : CtOk Try.prog 173 impl_isId_c := pure_ct (E := { T := tab, G := [(166, impl_from_c)] }) (EnvOk.cons impl_from_ct (EnvOk.nil tabOk)) mixed (fn := Try.f173) _ _ _ _ _ .none Try.func173 (by kernel_rfl) (fun x => by kernel_rfl)
/-! loop.example/g00486/impl.isPlayer -/
def impl_isPlayer (a0 : Int) : Option Bool :=
(impl_from a0 0 2).bind fun y1 =>
 some y1
def impl_isPlayer_c : Ct := .pure true false (.pair (.int .i64) .unit) .bool (fun x => impl_isPlayer x.1)
theorem impl_isPlayer_ct : CtOk Try.prog 190 impl_isPlayer_c := pure_ct (E := { T := tab, G := [(166, impl_from_c)] }) (EnvOk.cons impl_from_ct (EnvOk.nil tabOk)) mixed (fn := Try.f190) _ _ _ _ _ .none Try.func190 (by kernel_rfl) (fun x => by kernel_rfl)
/-! loop.example/g00486/impl.isZone -/
def impl_isZone (a0 : Int) : Option Bool :=
(impl_from a0 1 4).bind fun y1 =>
 some y1
def impl_isZone_c : Ct := .pure true false (.pair (.int .i64) .unit) .bool (fun x => impl_isZone x.1)
theorem impl_isZone_ct : CtOk Try.prog 176 impl_isZone_c := pure_ct (E := { T := tab, G := [(166, impl_from_c)] }) (EnvOk.cons impl_from_ct (EnvOk.nil tabOk)) mixed (fn := Try.f176) _ _ _ _ _ .none Try.func176 (by kernel_rfl) (fun x => by kernel_rfl)
/-! loop.example/g00486/impl.isTraits -/
def impl_isTraits (a0 : Int) : Option Bool :=
(impl_from a0 0 63).bind fun y1 =>
 some y1
def impl_isTraits_c : Ct := .pure true false (.pair (.int .i64) .unit) .bool (fun x => impl_isTraits x.1)
theorem impl_isTraits_ct : CtOk Try.prog 191 impl_isTraits_c := pure_ct (E := { T := tab, G := [(166, impl_from_c)] }) (EnvOk.cons impl_from_ct (EnvOk.nil tabOk)) mixed (fn := Try.f191) _ _ _ _ _ .none Try.func191 (by kernel_rfl) (fun x => by kernel_rfl)
/-! loop.example/g00486/impl.isAmount -/
def impl_isAmount (a0 : Int) : Option Bool :=
(impl_from a0 0 2147483647).bind fun y1 =>
 some y1
def impl_isAmount_c : Ct := .pure true false (.pair (.int .i64) .unit) .bool (fun x => impl_isAmount x.1)
theorem impl_isAmount_ct : CtOk Try.prog 172 impl_isAmount_c := pure_ct (E := { T := tab, G := [(166, impl_from_c)] }) (EnvOk.cons impl_from_ct (EnvOk.nil tabOk)) mixed (fn := Try.f172) _ _ _ _ _ .none Try.func172 (by kernel_rfl) (fun x => by kernel_rfl)
/-! loop.example/g00486/impl.PieceOk -/
def impl_PieceOk (a0 : T_Piece.D) : Option Bool :=
(((impl_isId a0.1).bind fun y1 =>
 bif (!y1) then (
 some true)
 else (
(impl_isPlayer a0.2.1).bind fun y2 =>
 bif (!y2) then (
 some true)
 else (
(impl_isPlayer a0.2.2.1).bind fun y3 =>
 bif (!y3) then (
 some true)
 else (
(impl_isZone a0.2.2.2.1).bind fun y4 =>
 bif (!y4) then (
 some true)
 else (
(impl_isTime a0.2.2.2.2.1).bind fun y5 =>
 bif (!y5) then (
 some true)
 else (
(impl_from a0.2.2.2.2.2.1 0 999).bind fun y6 =>
 bif (!y6) then (
 some true)
 else (
(impl_from a0.2.2.2.2.2.2.1 0 999).bind fun y7 =>
 bif (!y7) then (
 some true)
 else (
(impl_isTraits a0.2.2.2.2.2.2.2.1).bind fun y8 =>
 some (!y8))))))))) : Option Bool).bind fun o9 =>
 bif o9 then (
 some false)
 else (
 bif (a0.2.2.2.1 != 2) then (
((bif (a0.2.2.1 == a0.2.1) then (
 bif (a0.2.2.2.2.2.2.2.2.1 == 0) then (
 bif (a0.2.2.2.2.2.2.2.2.2.1 == 0) then (
 bif (a0.2.2.2.2.2.2.2.2.2.2.1 == 0) then (
 bif (!a0.2.2.2.2.2.2.2.2.2.2.2.1) then (
 some (!a0.2.2.2.2.2.2.2.2.2.2.2.2.1))
 else (
 some false))
 else (
 some false))
 else (
 some false))
 else (
 some false))
 else (
 some false)) : Option Bool).bind fun o10 =>
 some o10)
 else (
(impl_isAmount a0.2.2.2.2.2.2.2.2.1).bind fun y11 =>
 bif y11 then (
(impl_isAmount a0.2.2.2.2.2.2.2.2.2.1).bind fun y12 =>
 bif y12 then (
(impl_isAmount a0.2.2.2.2.2.2.2.2.2.2.1).bind fun y13 =>
 some y13)
 else (
 some false))
 else (
 some false)))
def impl_PieceOk_h : Hints := (.node none none .none (.node none none (.node none none (.node (some ⟨[.tmp 48 .bool], [none], none, []⟩) none .none .none) .none) (.node none none (.node none none .none (.node none none (.node none none (.node (some ⟨[.tmp 2 .bool], [none], none, []⟩) none .none .none) .none) .none)) .none)))
def impl_PieceOk_c : Ct := .pure true false (.pair T_Piece .unit) .bool (fun x => impl_PieceOk x.1)
theorem impl_PieceOk_ct : CtOk Try.prog 168 impl_PieceOk_c := pure_ct (E := { T := tab, G := [(166, impl_from_c), (167, impl_isTime_c), (172, impl_isAmount_c), (173, impl_isId_c), (176, impl_isZone_c), (190, impl_isPlayer_c), (191, impl_isTraits_c)] }) (EnvOk.cons impl_from_ct (EnvOk.cons impl_isTime_ct (EnvOk.cons impl_isAmount_ct (EnvOk.cons impl_isId_ct (EnvOk.cons impl_isZone_ct (EnvOk.cons impl_isPlayer_ct (EnvOk.cons impl_isTraits_ct (EnvOk.nil tabOk)))))))) mixed (fn := Try.f168) _ _ _ _ _ impl_PieceOk_h Try.func168 (by kernel_rfl) (fun x => by kernel_rfl)
/-! slices.IndexFunc[[]loop.example/g00486/impl.Side,loop.example/g00486/impl.Side] -/
def slices_IndexFunc_impl_Side_l1 (a0 : (List T_Side.D)) (a1 : ((T_Side.D × Unit) → Option Bool)) : Int → Option (Int ⊕ (Int ⊕ Int)) := fun s1 =>
 bif decide (s1 < (a0.length : Int)) then (
 idx a0 s1 fun x2 =>
(a1 (x2, ())).bind fun y3 =>
 bif y3 then (
 some (.inr (.inr s1)))
 else (
 some (.inl (IntKind.wrap .i64 (s1 + 1)))))
 else (
 some (.inr (.inl s1)))
def slices_IndexFunc_impl_Side (a0 : (List T_Side.D)) (a1 : ((T_Side.D × Unit) → Option Bool)) : Option Int :=
(while_ (slices_IndexFunc_impl_Side_l1 a0 a1) 0).bind fun o4 =>
 match o4 with
| .inl s5 => (
 some (-1))
| .inr o6 => (
 some o6)
def slices_IndexFunc_impl_Side_h : Hints := (.node none none .none (.node none none (.node none none .none (.node none none (.node none (some ⟨[.tmp 8 (.int .i64)], [some 0], some [.tmp 4 (.int .i64)], []⟩) .none .none) .none)) .none))
def slices_IndexFunc_impl_Side_c : Ct := .pure true false (.pair (.slice T_Side) (.pair (.fn (.pair T_Side .unit) .bool) .unit)) (.int .i64) (fun x => slices_IndexFunc_impl_Side x.1 x.2.1)
theorem slices_IndexFunc_impl_Side_ct : CtOk Try.prog 192 slices_IndexFunc_impl_Side_c := pure_ct (E := { T := tab, G := [] }) (EnvOk.nil tabOk) mixed (fn := Try.f192) _ _ _ _ _ slices_IndexFunc_impl_Side_h Try.func192 (by kernel_rfl) (fun x => by kernel_rfl)
/-! slices.ContainsFunc[[]loop.example/g00486/impl.Side,loop.example/g00486/impl.Side] -/
def slices_ContainsFunc_impl_Side (a0 : (List T_Side.D)) (a1 : ((T_Side.D × Unit) → Option Bool)) : Option Bool :=
(slices_IndexFunc_impl_Side a0 a1).bind fun y1 =>
 some (decide (y1 ≥ 0))
def slices_ContainsFunc_impl_Side_c : Ct := .pure true false (.pair (.slice T_Side) (.pair (.fn (.pair T_Side .unit) .bool) .unit)) .bool (fun x => slices_ContainsFunc_impl_Side x.1 x.2.1)
theorem slices_ContainsFunc_impl_Side_ct : CtOk Try.prog 169 slices_ContainsFunc_impl_Side_c := pure_ct (E := { T := tab, G := [(192, slices_IndexFunc_impl_Side_c)] }) (EnvOk.cons slices_IndexFunc_impl_Side_ct (EnvOk.nil tabOk)) mixed (fn := Try.f169) _ _ _ _ _ .none Try.func169 (by kernel_rfl) (fun x => by kernel_rfl)
/-! loop.example/g00486/impl.Bound -/
def impl_Bound (a0 : Int) : Option Int :=
 some (if (if 2147483647 < a0 then 2147483647 else a0) > (-2147483647) then (if 2147483647 < a0 then 2147483647 else a0) else (-2147483647))
def impl_Bound_c : Ct := .pure true false (.pair (.int .i64) .unit) (.int .i64) (fun x => impl_Bound x.1)
theorem impl_Bound_ct : CtOk Try.prog 171 impl_Bound_c := pure_ct (E := { T := tab, G := [] }) (EnvOk.nil tabOk) mixed (fn := Try.f171) _ _ _ _ _ .none Try.func171 (by kernel_rfl) (fun x => by kernel_rfl)
/-! loop.example/g00486/impl.StateOk$1 -/
def impl_StateOk_1 (a0 : T_Side.D) : Option Bool :=
(impl_Bound a0.1).bind fun y1 =>
 bif (y1 != a0.1) then (
 some true)
 else (
(impl_isAmount a0.2.1).bind fun y2 =>
 some (!y2))
def impl_StateOk_1_c : Ct := .pure true false (.pair T_Side .unit) .bool (fun x => impl_StateOk_1 x.1)
theorem impl_StateOk_1_ct : CtOk Try.prog 170 impl_StateOk_1_c := pure_ct (E := { T := tab, G := [(171, impl_Bound_c), (172, impl_isAmount_c)] }) (EnvOk.cons impl_Bound_ct (EnvOk.cons impl_isAmount_ct (EnvOk.nil tabOk))) mixed (fn := Try.f170) _ _ _ _ _ .none Try.func170 (by kernel_rfl) (fun x => by kernel_rfl)
/-! loop.example/g00486/impl.StateOk -/
def impl_StateOk_l1 (a0 : T_State.D) : Int → Option (Int ⊕ (Int ⊕ Bool)) := fun s5 =>
 bif decide (s5 < (a0.1.length : Int)) then (
 idx a0.1 s5 fun x6 =>
(((impl_PieceOk x6).bind fun y7 =>
 bif (!y7) then (
 some true)
 else (
(impl_isSide a0 x6.2.1).bind fun y8 =>
 bif (!y8) then (
 some true)
 else (
(impl_isSide a0 x6.2.2.1).bind fun y9 =>
 bif (!y9) then (
 some true)
 else (
 bif decide (x6.2.2.2.2.1 > a0.2.2.2.1) then (
 some true)
 else (
 bif decide (s5 > 0) then (
 idx a0.1 (IntKind.wrap .i64 (s5 - 1)) fun x10 =>
 some (decide (x10.1 ≥ x6.1)))
 else (
 some false)))))) : Option Bool).bind fun o11 =>
 bif o11 then (
 some (.inr (.inr false)))
 else (
 some (.inl (IntKind.wrap .i64 (s5 + 1)))))
 else (
 some (.inr (.inl s5)))
def impl_StateOk (a0 : T_State.D) : Option Bool :=
((bif decide ((a0.1.length : Int) > 8) then (
 some true)
 else (
(impl_from (a0.2.1.length : Int) 2 3).bind fun y1 =>
 bif (!y1) then (
 some true)
 else (
(impl_isSide a0 a0.2.2.1).bind fun y2 =>
 bif (!y2) then (
 some true)
 else (
(impl_isTime a0.2.2.2.1).bind fun y3 =>
 some (!y3))))) : Option Bool).bind fun o4 =>
 bif o4 then (
 some false)
 else (
(while_ (impl_StateOk_l1 a0) 0).bind fun o12 =>
 match o12 with
| .inl s13 => (
(slices_ContainsFunc_impl_Side a0.2.1 (fun q => impl_StateOk_1 q.1)).bind fun y15 =>
 some (!y15))
| .inr o14 => (
 some o14))
def impl_StateOk_h : Hints := (.node none none .none (.node none none (.node none none (.node (some ⟨[.tmp 28 .bool], [none], none, []⟩) none .none .none) .none) (.node none none (.node none none .none (.node none none (.node none (some ⟨[.tmp 32 (.int .i64)], [some 0], some [.tmp 2 .bool], []⟩) (.node none none .none (.node none none .none (.node none none (.node none none (.node none none .none (.node none none (.node (some ⟨[.tmp 76 .bool], [none], none, []⟩) none .none .none) .none)) .none) .none))) .none) .none)) .none)))
def impl_StateOk_c : Ct := .pure true false (.pair T_State .unit) .bool (fun x => impl_StateOk x.1)
theorem impl_StateOk_ct : CtOk Try.prog 101 impl_StateOk_c := pure_ct (E := { T := tab, G := [(117, impl_isSide_c), (166, impl_from_c), (167, impl_isTime_c), (168, impl_PieceOk_c), (169, slices_ContainsFunc_impl_Side_c), (170, impl_StateOk_1_c)] }) (EnvOk.cons impl_isSide_ct (EnvOk.cons impl_from_ct (EnvOk.cons impl_isTime_ct (EnvOk.cons impl_PieceOk_ct (EnvOk.cons slices_ContainsFunc_impl_Side_ct (EnvOk.cons impl_StateOk_1_ct (EnvOk.nil tabOk))))))) mixed (fn := Try.f101) _ _ _ _ _ impl_StateOk_h Try.func101 (by kernel_rfl) (fun x => by kernel_rfl)
/-! loop.example/g00486/impl.Plus -/
def impl_Plus (a0 : Int) (a1 : Int) : Option Int :=
(impl_Bound a0).bind fun y1 =>
(impl_Bound a1).bind fun y2 =>
(impl_Bound (IntKind.wrap .i64 (y1 + y2))).bind fun y3 =>
 some y3
def impl_Plus_c : Ct := .pure true false (.pair (.int .i64) (.pair (.int .i64) .unit)) (.int .i64) (fun x => impl_Plus x.1 x.2.1)
theorem impl_Plus_ct : CtOk Try.prog 111 impl_Plus_c := pure_ct (E := { T := tab, G := [(171, impl_Bound_c)] }) (EnvOk.cons impl_Bound_ct (EnvOk.nil tabOk)) mixed (fn := Try.f111) _ _ _ _ _ .none Try.func111 (by kernel_rfl) (fun x => by kernel_rfl)
/-! loop.example/g00486/impl.Less -/
def impl_Less (a0 : Int) (a1 : Int) : Option Int :=
(impl_Bound a0).bind fun y1 =>
(impl_Bound a1).bind fun y2 =>
(impl_Bound (IntKind.wrap .i64 (y1 - y2))).bind fun y3 =>
 some y3
def impl_Less_c : Ct := .pure true false (.pair (.int .i64) (.pair (.int .i64) .unit)) (.int .i64) (fun x => impl_Less x.1 x.2.1)
theorem impl_Less_ct : CtOk Try.prog 112 impl_Less_c := pure_ct (E := { T := tab, G := [(171, impl_Bound_c)] }) (EnvOk.cons impl_Bound_ct (EnvOk.nil tabOk)) mixed (fn := Try.f112) _ _ _ _ _ .none Try.func112 (by kernel_rfl) (fun x => by kernel_rfl)
/-! loop.example/g00486/impl.ToughOf -/
def impl_ToughOf (a0 : T_Piece.D) : Option Int :=
(impl_Plus a0.2.2.2.2.2.2.1 a0.2.2.2.2.2.2.2.2.1).bind fun y1 =>
(impl_Less y1 a0.2.2.2.2.2.2.2.2.2.1).bind fun y2 =>
 some y2
def impl_ToughOf_c : Ct := .pure true false (.pair T_Piece .unit) (.int .i64) (fun x => impl_ToughOf x.1)
theorem impl_ToughOf_ct : CtOk Try.prog 181 impl_ToughOf_c := pure_ct (E := { T := tab, G := [(111, impl_Plus_c), (112, impl_Less_c)] }) (EnvOk.cons impl_Plus_ct (EnvOk.cons impl_Less_ct (EnvOk.nil tabOk))) mixed (fn := Try.f181) _ _ _ _ _ .none Try.func181 (by kernel_rfl) (fun x => by kernel_rfl)
/-! loop.example/g00486/impl.HasTrait -/
def impl_HasTrait (a0 : T_Piece.D) (a1 : Int) : Option Bool :=
((bif (a1 == 1) then (
 some (a1 == 1))
 else (
((bif (a1 == 2) then (
 some (a1 == 2))
 else (
((bif (a1 == 4) then (
 some (a1 == 4))
 else (
((bif (a1 == 8) then (
 some (a1 == 8))
 else (
((bif (a1 == 16) then (
 some (a1 == 16))
 else (
 some (a1 == 32))) : Option Bool).bind fun o1 =>
 some o1)) : Option Bool).bind fun o2 =>
 some o2)) : Option Bool).bind fun o3 =>
 some o3)) : Option Bool).bind fun o4 =>
 some o4)) : Option Bool).bind fun o5 =>
 bif o5 then (
 let k6 : Int := IntKind.wrap .i64 (BitVec.ofInt (IntKind.bits .i64) a0.2.2.2.2.2.2.2.1 &&& BitVec.ofInt (IntKind.bits .i64) a1).toNat
 some (k6 != 0))
 else (
 some false)
def impl_HasTrait_h : Hints := (.node none none .none (.node none none (.node none none .none (.node none none (.node none none (.node none none .none (.node (some ⟨[.tmp 6 .bool], [none], none, []⟩) none .none (.node none none .none (.node (some ⟨[.tmp 6 .bool], [none], none, []⟩) none .none (.node none none .none (.node (some ⟨[.tmp 6 .bool], [none], none, []⟩) none .none (.node none none .none (.node (some ⟨[.tmp 6 .bool], [none], none, []⟩) none .none (.node none none .none (.node (some ⟨[.tmp 6 .bool], [none], none, []⟩) none .none .none)))))))))) .none) .none)) .none))
def impl_HasTrait_c : Ct := .pure true false (.pair T_Piece (.pair (.int .i64) .unit)) .bool (fun x => impl_HasTrait x.1 x.2.1)
theorem impl_HasTrait_ct : CtOk Try.prog 116 impl_HasTrait_c := pure_ct (E := { T := tab, G := [] }) (EnvOk.nil tabOk) mixed (fn := Try.f116) _ _ _ _ _ impl_HasTrait_h Try.func116 (by kernel_rfl) (fun x => by kernel_rfl)
/-! loop.example/g00486/impl.Doomed -/
def impl_Doomed (a0 : T_Piece.D) : Option Bool :=
 bif (a0.2.2.2.1 == 2) then (
(impl_ToughOf a0).bind fun y1 =>
 bif decide (y1 ≤ 0) then (
 some true)
 else (
(impl_HasTrait a0 8).bind fun y2 =>
 bif (!y2) then (
 bif a0.2.2.2.2.2.2.2.2.2.2.2.1 then (
 some true)
 else (
(impl_ToughOf a0).bind fun y3 =>
 some (decide (a0.2.2.2.2.2.2.2.2.2.2.1 ≥ y3))))
 else (
 some false)))
 else (
 some false)
def impl_Doomed_c : Ct := .pure true false (.pair T_Piece .unit) .bool (fun x => impl_Doomed x.1)
theorem impl_Doomed_ct : CtOk Try.prog 140 impl_Doomed_c := pure_ct (E := { T := tab, G := [(116, impl_HasTrait_c), (181, impl_ToughOf_c)] }) (EnvOk.cons impl_HasTrait_ct (EnvOk.cons impl_ToughOf_ct (EnvOk.nil tabOk))) mixed (fn := Try.f140) _ _ _ _ _ .none Try.func140 (by kernel_rfl) (fun x => by kernel_rfl)
/-! loop.example/g00486/impl.Moved -/
def impl_Moved (a0 : T_Piece.D) (a1 : Int) (a2 : Int) : Option T_Piece.D :=
 some (a0.1, a0.2.1, a0.2.1, a1, a2, a0.2.2.2.2.2.1, a0.2.2.2.2.2.2.1, a0.2.2.2.2.2.2.2.1, 0, 0, 0, false, false, ())
def impl_Moved_c : Ct := .pure true false (.pair T_Piece (.pair (.int .i64) (.pair (.int .i64) .unit))) T_Piece (fun x => impl_Moved x.1 x.2.1 x.2.2.1)
theorem impl_Moved_ct : CtOk Try.prog 103 impl_Moved_c := pure_ct (E := { T := tab, G := [] }) (EnvOk.nil tabOk) mixed (fn := Try.f103) _ _ _ _ _ .none Try.func103 (by kernel_rfl) (fun x => by kernel_rfl)
/-! loop.example/g00486/impl.Round -/
def impl_Round_l1 (a0 : T_State.D) : ((List T_Note.D) × (Int × ((List T_Piece.D) × ((List T_Side.D) × (Int × (Int × Unit)))))) → Option (((List T_Note.D) × (Int × ((List T_Piece.D) × ((List T_Side.D) × (Int × (Int × Unit)))))) ⊕ ((List T_Note.D) × (Int × ((List T_Piece.D) × ((List T_Side.D) × (Int × (Int × Unit))))))) := fun s4 =>
 bif decide (s4.2.1 < (a0.2.1.length : Int)) then (
 idx a0.2.1 s4.2.1 fun x5 =>
((bif (!x5.2.2.1) then (
 bif decide (x5.1 ≤ 0) then (
 some true)
 else (
 some (decide (x5.2.1 ≥ 10))))
 else (
 some false)) : Option Bool).bind fun o6 =>
 bif o6 then (
 idx s4.2.2.2.1 s4.2.1 fun _ =>
(s4.2.2.2.1[(s4.2.1 : Int).toNat]?).bind fun x7 =>
 let u8 : (List T_Side.D) := s4.2.2.2.1.set (s4.2.1 : Int).toNat (x7.1, x7.2.1, true, ())
 if (s4.1.length + ([(5, (0, 0, 0, 0, 0, 0, false, ()), 0, s4.2.1, (0, 0, 0, 0, 0, 0, 0, 0, 0, 0, 0, false, false, ()), ())] : List T_Note.D).length) * (24 * 23) ≤ room then (
 some (.inl ((s4.1 ++ ([(5, (0, 0, 0, 0, 0, 0, false, ()), 0, s4.2.1, (0, 0, 0, 0, 0, 0, 0, 0, 0, 0, 0, false, false, ()), ())] : List T_Note.D)), IntKind.wrap .i64 (s4.2.1 + 1), s4.2.2.1, u8, s4.2.2.2.2))) else none)
 else (
 some (.inl (s4.1, IntKind.wrap .i64 (s4.2.1 + 1), s4.2.2))))
 else (
 some (.inr s4))
def impl_Round_l2 (a0 : T_State.D) : ((List T_Note.D) × (Int × ((List T_Piece.D) × ((List T_Side.D) × (Int × (Int × Unit)))))) → Option (((List T_Note.D) × (Int × ((List T_Piece.D) × ((List T_Side.D) × (Int × (Int × Unit)))))) ⊕ ((List T_Note.D) × (Int × ((List T_Piece.D) × ((List T_Side.D) × (Int × (Int × Unit))))))) := fun s11 =>
 bif decide (s11.2.1 < (a0.1.length : Int)) then (
 idx a0.1 s11.2.1 fun x12 =>
(impl_Doomed x12).bind fun y13 =>
 bif y13 then (
(impl_Moved x12 3 a0.2.2.2.1).bind fun y14 =>
 idx s11.2.2.1 s11.2.1 fun _ =>
(s11.2.2.1[(s11.2.1 : Int).toNat]?).bind fun x15 =>
 let u16 : (List T_Piece.D) := s11.2.2.1.set (s11.2.1 : Int).toNat y14
 if (s11.1.length + ([(6, (0, 0, 0, 0, 0, 0, false, ()), 0, 0, x12, ())] : List T_Note.D).length) * (24 * 23) ≤ room then (
 some (.inl ((s11.1 ++ ([(6, (0, 0, 0, 0, 0, 0, false, ()), 0, 0, x12, ())] : List T_Note.D)), IntKind.wrap .i64 (s11.2.1 + 1), u16, s11.2.2.2))) else none)
 else (
((bif (x12.2.2.2.1 == 2) then (
 some (decide ((if x12.2.2.2.2.2.2.2.2.2.1 < x12.2.2.2.2.2.2.2.2.1 then x12.2.2.2.2.2.2.2.2.2.1 else x12.2.2.2.2.2.2.2.2.1) > 0)))
 else (
 some false)) : Option Bool).bind fun o17 =>
 bif o17 then (
 idx s11.2.2.1 s11.2.1 fun _ =>
(s11.2.2.1[(s11.2.1 : Int).toNat]?).bind fun x18 =>
 let k19 : Int := IntKind.wrap .i64 (x18.2.2.2.2.2.2.2.2.1 - (if x12.2.2.2.2.2.2.2.2.2.1 < x12.2.2.2.2.2.2.2.2.1 then x12.2.2.2.2.2.2.2.2.2.1 else x12.2.2.2.2.2.2.2.2.1))
 idx s11.2.2.1 s11.2.1 fun _ =>
(s11.2.2.1[(s11.2.1 : Int).toNat]?).bind fun x20 =>
 let u21 : (List T_Piece.D) := s11.2.2.1.set (s11.2.1 : Int).toNat (x20.1, x20.2.1, x20.2.2.1, x20.2.2.2.1, x20.2.2.2.2.1, x20.2.2.2.2.2.1, x20.2.2.2.2.2.2.1, x20.2.2.2.2.2.2.2.1, k19, x20.2.2.2.2.2.2.2.2.2)
 idx u21 s11.2.1 fun _ =>
(u21[(s11.2.1 : Int).toNat]?).bind fun x22 =>
 let k23 : Int := IntKind.wrap .i64 (x22.2.2.2.2.2.2.2.2.2.1 - (if x12.2.2.2.2.2.2.2.2.2.1 < x12.2.2.2.2.2.2.2.2.1 then x12.2.2.2.2.2.2.2.2.2.1 else x12.2.2.2.2.2.2.2.2.1))
 idx u21 s11.2.1 fun _ =>
(u21[(s11.2.1 : Int).toNat]?).bind fun x24 =>
 let u25 : (List T_Piece.D) := u21.set (s11.2.1 : Int).toNat (x24.1, x24.2.1, x24.2.2.1, x24.2.2.2.1, x24.2.2.2.2.1, x24.2.2.2.2.2.1, x24.2.2.2.2.2.2.1, x24.2.2.2.2.2.2.2.1, x24.2.2.2.2.2.2.2.2.1, k23, x24.2.2.2.2.2.2.2.2.2.2)
 if (s11.1.length + ([(7, (0, 0, 0, 0, 0, 0, false, ()), (if x12.2.2.2.2.2.2.2.2.2.1 < x12.2.2.2.2.2.2.2.2.1 then x12.2.2.2.2.2.2.2.2.2.1 else x12.2.2.2.2.2.2.2.2.1), 0, x12, ())] : List T_Note.D).length) * (24 * 23) ≤ room then (
 some (.inl ((s11.1 ++ ([(7, (0, 0, 0, 0, 0, 0, false, ()), (if x12.2.2.2.2.2.2.2.2.2.1 < x12.2.2.2.2.2.2.2.2.1 then x12.2.2.2.2.2.2.2.2.2.1 else x12.2.2.2.2.2.2.2.2.1), 0, x12, ())] : List T_Note.D)), IntKind.wrap .i64 (s11.2.1 + 1), u25, s11.2.2.2))) else none)
 else (
 some (.inl (s11.1, IntKind.wrap .i64 (s11.2.1 + 1), s11.2.2)))))
 else (
 some (.inr s11))
def impl_Round (a0 : T_State.D) : Option (T_State.D × ((List T_Note.D) × Unit)) :=
(impl_copyState a0).bind fun y1 =>
(impl_StateOk a0).bind fun y2 =>
 bif (!y2) then (
 some (y1, [], ()))
 else (
(while_ (impl_Round_l1 a0) ([], 0, y1)).bind fun o9 =>
(while_ (impl_Round_l2 a0) (o9.1, 0, o9.2.2)).bind fun o26 =>
 some (o26.2.2, o26.1, ()))
def impl_Round_h : Hints := (.node none none .none (.node none none .none (.node none none .none (.node none none .none (.node none none (.node none none .none (.node none none (.node none (some ⟨[.tmpO 5 0 (.slice T_Note), .tmp 22 (.int .i64), .boxO 4 0 1 T_State], [some 0], none, []⟩) (.node none none .none (.node none none .none (.node none none (.node none none (.node none none .none (.node none none (.node (some ⟨[.tmp 39 .bool], [none], none, []⟩) none .none .none) .none)) .none) .none))) .none) .none)) (.node none none (.node none none .none (.node none none (.node none (some ⟨[.tmpO 5 1 (.slice T_Note), .tmp 54 (.int .i64), .boxO 4 0 3 T_State], [some 2], none, []⟩) (.node none none .none (.node none none .none (.node none none (.node none none (.node none none .none (.node none none .none (.node none none (.node none none .none (.node none none .none (.node none none (.node (some ⟨[.tmp 80 .bool], [none], none, []⟩) none .none .none) .none))) .none))) .none) .none))) .none) .none)) .none))))))
def impl_Round_c : Ct := .pure false false (.pair T_State .unit) (.pair T_State (.pair (.slice T_Note) .unit)) (fun x => impl_Round x.1)
theorem impl_Round_ct : CtOk Try.prog 59 impl_Round_c := pure_ct (E := { T := tab, G := [(99, impl_copyState_fresh_c), (101, impl_StateOk_c), (103, impl_Moved_c), (140, impl_Doomed_c)] }) (EnvOk.cons impl_copyState_fresh_ct (EnvOk.cons impl_StateOk_ct (EnvOk.cons impl_Moved_ct (EnvOk.cons impl_Doomed_ct (EnvOk.nil tabOk))))) mixed (fn := Try.f59) _ _ _ _ _ impl_Round_h Try.func59 (by kernel_rfl) (fun x => by kernel_rfl)
def impl_Round_fresh_c : Ct := .pure false true (.pair T_State .unit) (.pair T_State (.pair (.slice T_Note) .unit)) (fun x => impl_Round x.1)
theorem impl_Round_fresh_ct : CtOk Try.prog 59 impl_Round_fresh_c := pure_ct (E := { T := tab, G := [(99, impl_copyState_fresh_c), (101, impl_StateOk_c), (103, impl_Moved_c), (140, impl_Doomed_c)] }) (EnvOk.cons impl_copyState_fresh_ct (EnvOk.cons impl_StateOk_ct (EnvOk.cons impl_Moved_ct (EnvOk.cons impl_Doomed_ct (EnvOk.nil tabOk))))) mixed (fn := Try.f59) _ _ _ _ _ impl_Round_h Try.func59 (by kernel_rfl) (fun x => by kernel_rfl)
/-! loop.example/g00486/impl.Quiet -/
def impl_Quiet (a0 : T_State.D) : Option Bool :=
(impl_Round a0).bind fun y1 =>
 some ((y1.2.1.length : Int) == 0)
def impl_Quiet_c : Ct := .pure true false (.pair T_State .unit) .bool (fun x => impl_Quiet x.1)
theorem impl_Quiet_ct : CtOk Try.prog 17 impl_Quiet_c := pure_ct (E := { T := tab, G := [(59, impl_Round_fresh_c)] }) (EnvOk.cons impl_Round_fresh_ct (EnvOk.nil tabOk)) mixed (fn := Try.f17) _ _ _ _ _ .none Try.func17 (by kernel_rfl) (fun x => by kernel_rfl)
/-! loop.example/g00486/laws.eqPiece -/
def laws_eqPiece (a0 : T_Piece.D) (a1 : T_Piece.D) : Option Bool :=
 bif (a0.1 != a1.1) then (
 some false)
 else (
 bif (a0.2.1 != a1.2.1) then (
 some false)
 else (
 bif (a0.2.2.1 != a1.2.2.1) then (
 some false)
 else (
 bif (a0.2.2.2.1 != a1.2.2.2.1) then (
 some false)
 else (
 bif (a0.2.2.2.2.1 != a1.2.2.2.2.1) then (
 some false)
 else (
 bif (a0.2.2.2.2.2.1 != a1.2.2.2.2.2.1) then (
 some false)
 else (
 bif (a0.2.2.2.2.2.2.1 != a1.2.2.2.2.2.2.1) then (
 some false)
 else (
 bif (a0.2.2.2.2.2.2.2.1 != a1.2.2.2.2.2.2.2.1) then (
 some false)
 else (
 bif (a0.2.2.2.2.2.2.2.2.1 != a1.2.2.2.2.2.2.2.2.1) then (
 some false)
 else (
 bif (a0.2.2.2.2.2.2.2.2.2.1 != a1.2.2.2.2.2.2.2.2.2.1) then (
 some false)
 else (
 bif (a0.2.2.2.2.2.2.2.2.2.2.1 != a1.2.2.2.2.2.2.2.2.2.2.1) then (
 some false)
 else (
 bif (a0.2.2.2.2.2.2.2.2.2.2.2.1 != a1.2.2.2.2.2.2.2.2.2.2.2.1) then (
 some false)
 else (
 bif (a0.2.2.2.2.2.2.2.2.2.2.2.2.1 != a1.2.2.2.2.2.2.2.2.2.2.2.2.1) then (
 some false)
 else (
 some true)))))))))))))
def laws_eqPiece_c : Ct := .pure true false (.pair T_Piece (.pair T_Piece .unit)) .bool (fun x => laws_eqPiece x.1 x.2.1)
theorem laws_eqPiece_ct : CtOk Try.prog 142 laws_eqPiece_c := pure_ct (E := { T := tab, G := [] }) (EnvOk.nil tabOk) mixed (fn := Try.f142) _ _ _ _ _ .none Try.func142 (by kernel_rfl) (fun x => by kernel_rfl)
/-! loop.example/g00486/laws.eqPieceS -/
def laws_eqPieceS_l1 (a0 : (List T_Piece.D)) (a1 : (List T_Piece.D)) : Int → Option (Int ⊕ (Int ⊕ Bool)) := fun s1 =>
 bif decide (s1 < (a0.length : Int)) then (
 idx a0 s1 fun x2 =>
 idx a1 s1 fun x3 =>
(laws_eqPiece x2 x3).bind fun y4 =>
 bif (!y4) then (
 some (.inr (.inr false)))
 else (
 some (.inl (IntKind.wrap .i64 (s1 + 1)))))
 else (
 some (.inr (.inl s1)))
def laws_eqPieceS (a0 : (List T_Piece.D)) (a1 : (List T_Piece.D)) : Option Bool :=
 bif ((a0.length : Int) != (a1.length : Int)) then (
 some false)
 else (
(while_ (laws_eqPieceS_l1 a0 a1) 0).bind fun o5 =>
 match o5 with
| .inl s6 => (
 some true)
| .inr o7 => (
 some o7))
def laws_eqPieceS_h : Hints := (.node none none .none (.node none none .none (.node none none (.node none none .none (.node none none (.node none (some ⟨[.tmp 5 (.int .i64)], [some 0], some [.tmp 4 .bool], []⟩) .none .none) .none)) .none)))
def laws_eqPieceS_c : Ct := .pure true false (.pair (.slice T_Piece) (.pair (.slice T_Piece) .unit)) .bool (fun x => laws_eqPieceS x.1 x.2.1)
theorem laws_eqPieceS_ct : CtOk Try.prog 67 laws_eqPieceS_c := pure_ct (E := { T := tab, G := [(142, laws_eqPiece_c)] }) (EnvOk.cons laws_eqPiece_ct (EnvOk.nil tabOk)) mixed (fn := Try.f67) _ _ _ _ _ laws_eqPieceS_h Try.func67 (by kernel_rfl) (fun x => by kernel_rfl)
/-! loop.example/g00486/laws.eqSide -/
def laws_eqSide (a0 : T_Side.D) (a1 : T_Side.D) : Option Bool :=
 bif (a0.1 != a1.1) then (
 some false)
 else (
 bif (a0.2.1 != a1.2.1) then (
 some false)
 else (
 bif (a0.2.2.1 != a1.2.2.1) then (
 some false)
 else (
 some true)))
def laws_eqSide_c : Ct := .pure true false (.pair T_Side (.pair T_Side .unit)) .bool (fun x => laws_eqSide x.1 x.2.1)
theorem laws_eqSide_ct : CtOk Try.prog 143 laws_eqSide_c := pure_ct (E := { T := tab, G := [] }) (EnvOk.nil tabOk) mixed (fn := Try.f143) _ _ _ _ _ .none Try.func143 (by kernel_rfl) (fun x => by kernel_rfl)
/-! loop.example/g00486/laws.eqSideS -/
def laws_eqSideS_l1 (a0 : (List T_Side.D)) (a1 : (List T_Side.D)) : Int → Option (Int ⊕ (Int ⊕ Bool)) := fun s1 =>
 bif decide (s1 < (a0.length : Int)) then (
 idx a0 s1 fun x2 =>
 idx a1 s1 fun x3 =>
(laws_eqSide x2 x3).bind fun y4 =>
 bif (!y4) then (
 some (.inr (.inr false)))
 else (
 some (.inl (IntKind.wrap .i64 (s1 + 1)))))
 else (
 some (.inr (.inl s1)))
def laws_eqSideS (a0 : (List T_Side.D)) (a1 : (List T_Side.D)) : Option Bool :=
 bif ((a0.length : Int) != (a1.length : Int)) then (
 some false)
 else (
(while_ (laws_eqSideS_l1 a0 a1) 0).bind fun o5 =>
 match o5 with
| .inl s6 => (
 some true)
| .inr o7 => (
 some o7))
def laws_eqSideS_h : Hints := (.node none none .none (.node none none .none (.node none none (.node none none .none (.node none none (.node none (some ⟨[.tmp 5 (.int .i64)], [some 0], some [.tmp 4 .bool], []⟩) .none .none) .none)) .none)))
def laws_eqSideS_c : Ct := .pure true false (.pair (.slice T_Side) (.pair (.slice T_Side) .unit)) .bool (fun x => laws_eqSideS x.1 x.2.1)
theorem laws_eqSideS_ct : CtOk Try.prog 68 laws_eqSideS_c := pure_ct (E := { T := tab, G := [(143, laws_eqSide_c)] }) (EnvOk.cons laws_eqSide_ct (EnvOk.nil tabOk)) mixed (fn := Try.f68) _ _ _ _ _ laws_eqSideS_h Try.func68 (by kernel_rfl) (fun x => by kernel_rfl)
/-! loop.example/g00486/laws.eqState -/
def laws_eqState (a0 : T_State.D) (a1 : T_State.D) : Option Bool :=
(laws_eqPieceS a0.1 a1.1).bind fun y1 =>
 bif (!y1) then (
 some false)
 else (
(laws_eqSideS a0.2.1 a1.2.1).bind fun y2 =>
 bif (!y2) then (
 some false)
 else (
 bif (a0.2.2.1 != a1.2.2.1) then (
 some false)
 else (
 bif (a0.2.2.2.1 != a1.2.2.2.1) then (
 some false)
 else (
 some true))))
def laws_eqState_c : Ct := .pure true false (.pair T_State (.pair T_State .unit)) .bool (fun x => laws_eqState x.1 x.2.1)
theorem laws_eqState_ct : CtOk Try.prog 18 laws_eqState_c := pure_ct (E := { T := tab, G := [(67, laws_eqPieceS_c), (68, laws_eqSideS_c)] }) (EnvOk.cons laws_eqPieceS_ct (EnvOk.cons laws_eqSideS_ct (EnvOk.nil tabOk))) mixed (fn := Try.f18) _ _ _ _ _ .none Try.func18 (by kernel_rfl) (fun x => by kernel_rfl)
/-! loop.example/g00486/laws.FnExactQuiet -/
def laws_FnExactQuiet (a0 : T_State.D) : Option Bool :=
(laws_szState a0 1048576).bind fun y1 =>
 bif decide (y1 < 0) then (
 some true)
 else (
(laws_toState a0).bind fun y2 =>
(spec_Quiet y2).bind fun y3 =>
(laws_toState a0).bind fun y4 =>
(impl_Quiet y4).bind fun y5 =>
 bif (y5 != y3) then (
 some false)
 else (
(laws_toState a0).bind fun y6 =>
(laws_eqState y4 y6).bind fun y7 =>
 bif (!y7) then (
 some false)
 else (
 some true)))
def laws_FnExactQuiet_c : Ct := .pure true false (.pair T_State .unit) .bool (fun x => laws_FnExactQuiet x.1)
theorem laws_FnExactQuiet_ct : CtOk Try.prog 3 laws_FnExactQuiet_c := pure_ct (E := { T := tab, G := [(14, laws_szState_c), (15, spec_Quiet_c), (16, laws_toState_fresh_c), (17, impl_Quiet_c), (18, laws_eqState_c)] }) (EnvOk.cons laws_szState_ct (EnvOk.cons spec_Quiet_ct (EnvOk.cons laws_toState_fresh_ct (EnvOk.cons impl_Quiet_ct (EnvOk.cons laws_eqState_ct (EnvOk.nil tabOk)))))) mixed (fn := Try.f3) _ _ _ _ _ .none Try.func3 (by kernel_rfl) (fun x => by kernel_rfl)
/-! loop.example/g00486/laws.toEvent -/
def laws_toEvent (a0 : T_Event.D) : Option T_Event.D :=
 some a0
def laws_toEvent_c : Ct := .pure true false (.pair T_Event .unit) T_Event (fun x => laws_toEvent x.1)
theorem laws_toEvent_ct : CtOk Try.prog 32 laws_toEvent_c := pure_ct (E := { T := tab, G := [] }) (EnvOk.nil tabOk) mixed (fn := Try.f32) _ _ _ _ _ .none Try.func32 (by kernel_rfl) (fun x => by kernel_rfl)
/-! loop.example/g00486/spec.PieceAt -/
def spec_PieceAt_l1 (a0 : T_State.D) (a1 : Int) : Int → Option (Int ⊕ (Int ⊕ Int)) := fun s1 =>
 bif decide (s1 < (a0.1.length : Int)) then (
 idx a0.1 s1 fun x2 =>
 bif (x2.1 == a1) then (
 some (.inr (.inr s1)))
 else (
 some (.inl (IntKind.wrap .i64 (s1 + 1)))))
 else (
 some (.inr (.inl s1)))
def spec_PieceAt (a0 : T_State.D) (a1 : Int) : Option Int :=
(while_ (spec_PieceAt_l1 a0 a1) 0).bind fun o3 =>
 match o3 with
| .inl s4 => (
 some (-1))
| .inr o5 => (
 some o5)
def spec_PieceAt_h : Hints := (.node none none .none (.node none none (.node none none .none (.node none none (.node none (some ⟨[.tmp 5 (.int .i64)], [some 0], some [.tmp 4 (.int .i64)], []⟩) .none .none) .none)) .none))
def spec_PieceAt_c : Ct := .pure true false (.pair T_State (.pair (.int .i64) .unit)) (.int .i64) (fun x => spec_PieceAt x.1 x.2.1)
theorem spec_PieceAt_ct : CtOk Try.prog 95 spec_PieceAt_c := pure_ct (E := { T := tab, G := [] }) (EnvOk.nil tabOk) mixed (fn := Try.f95) _ _ _ _ _ spec_PieceAt_h Try.func95 (by kernel_rfl) (fun x => by kernel_rfl)
/-! loop.example/g00486/spec.EventOk -/
def spec_EventOk (a0 : T_Event.D) : Option Bool :=
(((spec_l1In a0.2.2.1 1 99).bind fun y1 =>
 bif y1 then (
 some (a0.2.2.2.1 == (-1)))
 else (
 some false)) : Option Bool).bind fun o2 =>
((bif (a0.2.2.1 == 0) then (
(spec_l1In a0.2.2.2.1 0 2).bind fun y3 =>
 some y3)
 else (
 some false)) : Option Bool).bind fun o4 =>
(spec_l1In a0.2.2.2.2.1 0 2147483647).bind fun y5 =>
 bif (!y5) then (
 some false)
 else (
 bif (a0.1 == 1) then (
(spec_l1In a0.2.1 1 99).bind fun y6 =>
 bif y6 then (
 bif o2 then (
 bif (a0.2.2.2.2.2.1 == 0) then (
 some (!a0.2.2.2.2.2.2.1))
 else (
 some false))
 else (
 bif o4 then (
 bif (a0.2.2.2.2.2.1 == 0) then (
 some (!a0.2.2.2.2.2.2.1))
 else (
 some false))
 else (
 some false)))
 else (
 some false))
 else (
 bif (a0.1 == 2) then (
 bif (a0.2.1 == 0) then (
 bif o2 then (
(spec_l1In a0.2.2.2.2.2.1 1 4).bind fun y7 =>
 bif y7 then (
 bif decide (a0.2.2.2.2.1 ≤ 99) then (
 bif (a0.2.2.2.2.2.1 == 2) then (
 some true)
 else (
 bif (a0.2.2.2.2.1 == 0) then (
 some (!a0.2.2.2.2.2.2.1))
 else (
 some false)))
 else (
 some false))
 else (
 some false))
 else (
 some false))
 else (
 some false))
 else (
((bif (a0.1 == 3) then (
 some (a0.1 == 3))
 else (
 some (a0.1 == 4))) : Option Bool).bind fun o8 =>
 bif o8 then (
 bif (a0.2.1 == 0) then (
 bif o4 then (
 bif (a0.2.2.2.2.2.1 == 0) then (
 some (!a0.2.2.2.2.2.2.1))
 else (
 some false))
 else (
 some false))
 else (
 some false))
 else (
((bif (a0.1 == 5) then (
 some (a0.1 == 5))
 else (
 some (a0.1 == 6))) : Option Bool).bind fun o9 =>
 bif o9 then (
 bif (a0.2.1 == 0) then (
 bif o2 then (
 bif (a0.2.2.2.2.2.1 == 0) then (
 some (!a0.2.2.2.2.2.2.1))
 else (
 some false))
 else (
 some false))
 else (
 some false))
 else (
 some false)))))
def spec_EventOk_h : Hints := (.node none none .none (.node none none (.node (some ⟨[.tmp 3 .bool], [none], none, []⟩) none .none .none) (.node none none (.node (some ⟨[.tmp 4 .bool], [none], none, []⟩) none .none .none) (.node none none .none (.node none none (.node none none .none (.node none none (.node none none .none (.node none none .none (.node none none .none (.node none none .none (.node none none (.node none none .none (.node (some ⟨[.tmp 81 .bool], [none], none, []⟩) none .none .none)) (.node none none .none (.node none none (.node none none .none (.node (some ⟨[.tmp 100 .bool], [none], none, []⟩) none .none .none)) .none))))))) .none)) .none)))))
def spec_EventOk_c : Ct := .pure true false (.pair T_Event .unit) .bool (fun x => spec_EventOk x.1)
theorem spec_EventOk_ct : CtOk Try.prog 97 spec_EventOk_c := pure_ct (E := { T := tab, G := [(115, spec_l1In_c)] }) (EnvOk.cons spec_l1In_ct (EnvOk.nil tabOk)) mixed (fn := Try.f97) _ _ _ _ _ spec_EventOk_h Try.func97 (by kernel_rfl) (fun x => by kernel_rfl)
/-! loop.example/g00486/spec.Carry -/
def spec_Carry (a0 : T_State.D) (a1 : T_Event.D) : Option (T_State.D × (Bool × Unit)) :=
(spec_l5Copy a0).bind fun y1 =>
(spec_PieceAt a0 a1.2.2.1).bind fun y2 =>
(((spec_StateOk a0).bind fun y3 =>
 bif (!y3) then (
 some true)
 else (
(spec_EventOk a1).bind fun y4 =>
 bif (!y4) then (
 some true)
 else (
 bif (a1.1 != 2) then (
 some true)
 else (
 bif decide (y2 < 0) then (
 some true)
 else (
 idx a0.1 y2 fun x5 =>
 some (x5.2.2.2.1 == a1.2.2.2.2.2.1)))))) : Option Bool).bind fun o6 =>
 bif o6 then (
 some (y1, false, ()))
 else (
 idx a0.1 y2 fun x7 =>
(spec_Moved x7 a1.2.2.2.2.2.1 a0.2.2.2.1).bind fun y8 =>
((bif (a1.2.2.2.2.2.1 == 2) then (
 some (y8.1, y8.2.1, y8.2.2.1, y8.2.2.2.1, y8.2.2.2.2.1, y8.2.2.2.2.2.1, y8.2.2.2.2.2.2.1, y8.2.2.2.2.2.2.2.1, a1.2.2.2.2.1, y8.2.2.2.2.2.2.2.2.2.1, y8.2.2.2.2.2.2.2.2.2.2.1, y8.2.2.2.2.2.2.2.2.2.2.2.1, a1.2.2.2.2.2.2))
 else (
 some y8)) : Option T_Piece.D).bind fun o9 =>
 idx y1.1 y2 fun _ =>
(y1.1[(y2 : Int).toNat]?).bind fun x10 =>
 let u11 : (List T_Piece.D) := y1.1.set (y2 : Int).toNat o9
 some ((u11, y1.2), true, ()))
def spec_Carry_h : Hints := (.node none none .none (.node none none .none (.node none none .none (.node none none (.node none none (.node (some ⟨[.tmp 42 .bool], [none], none, []⟩) none .none .none) .none) (.node none none .none (.node none none (.node none none .none (.node (some ⟨[.box 8 0 T_Piece], [none], none, [(8, 0)]⟩) none .none .none)) .none))))))
def spec_Carry_c : Ct := .pure false false (.pair T_State (.pair T_Event .unit)) (.pair T_State (.pair .bool .unit)) (fun x => spec_Carry x.1 x.2.1)
theorem spec_Carry_ct : CtOk Try.prog 31 spec_Carry_c := pure_ct (E := { T := tab, G := [(94, spec_l5Copy_fresh_c), (95, spec_PieceAt_c), (96, spec_StateOk_c), (97, spec_EventOk_c), (98, spec_Moved_c)] }) (EnvOk.cons spec_l5Copy_fresh_ct (EnvOk.cons spec_PieceAt_ct (EnvOk.cons spec_StateOk_ct (EnvOk.cons spec_EventOk_ct (EnvOk.cons spec_Moved_ct (EnvOk.nil tabOk)))))) mixed (fn := Try.f31) _ _ _ _ _ spec_Carry_h Try.func31 (by kernel_rfl) (fun x => by kernel_rfl)
def spec_Carry_fresh_c : Ct := .pure false true (.pair T_State (.pair T_Event .unit)) (.pair T_State (.pair .bool .unit)) (fun x => spec_Carry x.1 x.2.1)
theorem spec_Carry_fresh_ct : CtOk Try.prog 31 spec_Carry_fresh_c := pure_ct (E := { T := tab, G := [(94, spec_l5Copy_fresh_c), (95, spec_PieceAt_c), (96, spec_StateOk_c), (97, spec_EventOk_c), (98, spec_Moved_c)] }) (EnvOk.cons spec_l5Copy_fresh_ct (EnvOk.cons spec_PieceAt_ct (EnvOk.cons spec_StateOk_ct (EnvOk.cons spec_EventOk_ct (EnvOk.cons spec_Moved_ct (EnvOk.nil tabOk)))))) mixed (fn := Try.f31) _ _ _ _ _ spec_Carry_h Try.func31 (by kernel_rfl) (fun x => by kernel_rfl)
/-! slices.IndexFunc[[]loop.example/g00486/impl.Piece,loop.example/g00486/impl.Piece] -/
def slices_IndexFunc_impl_Piece_l1 (a0 : (List T_Piece.D)) (a1 : ((T_Piece.D × Unit) → Option Bool)) : Int → Option (Int ⊕ (Int ⊕ Int)) := fun s1 =>
 bif decide (s1 < (a0.length : Int)) then (
 idx a0 s1 fun x2 =>
(a1 (x2, ())).bind fun y3 =>
 bif y3 then (
 some (.inr (.inr s1)))
 else (
 some (.inl (IntKind.wrap .i64 (s1 + 1)))))
 else (
 some (.inr (.inl s1)))
def slices_IndexFunc_impl_Piece (a0 : (List T_Piece.D)) (a1 : ((T_Piece.D × Unit) → Option Bool)) : Option Int :=
(while_ (slices_IndexFunc_impl_Piece_l1 a0 a1) 0).bind fun o4 =>
 match o4 with
| .inl s5 => (
 some (-1))
| .inr o6 => (
 some o6)
def slices_IndexFunc_impl_Piece_h : Hints := (.node none none .none (.node none none (.node none none .none (.node none none (.node none (some ⟨[.tmp 8 (.int .i64)], [some 0], some [.tmp 4 (.int .i64)], []⟩) .none .none) .none)) .none))
def slices_IndexFunc_impl_Piece_c : Ct := .pure true false (.pair (.slice T_Piece) (.pair (.fn (.pair T_Piece .unit) .bool) .unit)) (.int .i64) (fun x => slices_IndexFunc_impl_Piece x.1 x.2.1)
theorem slices_IndexFunc_impl_Piece_ct : CtOk Try.prog 164 slices_IndexFunc_impl_Piece_c := pure_ct (E := { T := tab, G := [] }) (EnvOk.nil tabOk) mixed (fn := Try.f164) _ _ _ _ _ slices_IndexFunc_impl_Piece_h Try.func164 (by kernel_rfl) (fun x => by kernel_rfl)
/-! loop.example/g00486/impl.PieceAt$1 -/
def impl_PieceAt_1 (z0 : Int) (a0 : T_Piece.D) : Option Bool :=
 some (a0.1 == z0)
def impl_PieceAt_1_c : Ct := .clo (.pair T_Piece .unit) (.pair (.int .i64) .unit) .bool (fun z x => impl_PieceAt_1 z.1 x.1)
theorem impl_PieceAt_1_ct : CtOk Try.prog 165 impl_PieceAt_1_c := clo_ct (E := { T := tab, G := [] }) (EnvOk.nil tabOk) mixed (fn := Try.f165) _ _ _ _ .none Try.func165 (by kernel_rfl) (fun z x => by kernel_rfl)
/-! loop.example/g00486/impl.PieceAt -/
def impl_PieceAt (a0 : T_State.D) (a1 : Int) : Option Int :=
(slices_IndexFunc_impl_Piece a0.1 (fun q => impl_PieceAt_1 a1 q.1)).bind fun y1 =>
 some y1
def impl_PieceAt_c : Ct := .pure true false (.pair T_State (.pair (.int .i64) .unit)) (.int .i64) (fun x => impl_PieceAt x.1 x.2.1)
theorem impl_PieceAt_ct : CtOk Try.prog 100 impl_PieceAt_c := pure_ct (E := { T := tab, G := [(164, slices_IndexFunc_impl_Piece_c), (165, impl_PieceAt_1_c)] }) (EnvOk.cons slices_IndexFunc_impl_Piece_ct (EnvOk.cons impl_PieceAt_1_ct (EnvOk.nil tabOk))) mixed (fn := Try.f100) _ _ _ _ _ .none Try.func100 (by kernel_rfl) (fun x => by kernel_rfl)
/-! loop.example/g00486/impl.onPiece -/
def impl_onPiece (a0 : T_Event.D) : Option Bool :=
(impl_isId a0.2.2.1).bind fun y1 =>
 bif y1 then (
 some (a0.2.2.2.1 == (-1)))
 else (
 some false)
def impl_onPiece_c : Ct := .pure true false (.pair T_Event .unit) .bool (fun x => impl_onPiece x.1)
theorem impl_onPiece_ct : CtOk Try.prog 174 impl_onPiece_c := pure_ct (E := { T := tab, G := [(173, impl_isId_c)] }) (EnvOk.cons impl_isId_ct (EnvOk.nil tabOk)) mixed (fn := Try.f174) _ _ _ _ _ .none Try.func174 (by kernel_rfl) (fun x => by kernel_rfl)
/-! loop.example/g00486/impl.onPlayer -/
def impl_onPlayer (a0 : T_Event.D) : Option Bool :=
 bif (a0.2.2.1 == 0) then (
(impl_isPlayer a0.2.2.2.1).bind fun y1 =>
 some y1)
 else (
 some false)
def impl_onPlayer_c : Ct := .pure true false (.pair T_Event .unit) .bool (fun x => impl_onPlayer x.1)
theorem impl_onPlayer_ct : CtOk Try.prog 175 impl_onPlayer_c := pure_ct (E := { T := tab, G := [(190, impl_isPlayer_c)] }) (EnvOk.cons impl_isPlayer_ct (EnvOk.nil tabOk)) mixed (fn := Try.f175) _ _ _ _ _ .none Try.func175 (by kernel_rfl) (fun x => by kernel_rfl)
/-! loop.example/g00486/impl.EventOk -/
def impl_EventOk (a0 : T_Event.D) : Option Bool :=
(((impl_isAmount a0.2.2.2.2.1).bind fun y1 =>
 bif (!y1) then (
 some true)
 else (
 bif (a0.1 != 1) then (
 bif (a0.2.1 != 0) then (
 some true)
 else (
 bif (a0.1 != 2) then (
 bif (a0.2.2.2.2.2.1 != 0) then (
 some true)
 else (
 some a0.2.2.2.2.2.2.1))
 else (
 some false)))
 else (
 bif (a0.1 != 2) then (
 bif (a0.2.2.2.2.2.1 != 0) then (
 some true)
 else (
 some a0.2.2.2.2.2.2.1))
 else (
 some false)))) : Option Bool).bind fun o2 =>
 bif o2 then (
 some false)
 else (
 bif (a0.1 == 1) then (
(impl_isId a0.2.1).bind fun y3 =>
 bif y3 then (
(impl_onPiece a0).bind fun y4 =>
 bif y4 then (
 some true)
 else (
(impl_onPlayer a0).bind fun y5 =>
 some y5))
 else (
 some false))
 else (
 bif (a0.1 == 2) then (
 bif (a0.2.2.2.2.2.1 == 2) then (
(((impl_onPiece a0).bind fun y6 =>
 bif y6 then (
 some (decide (a0.2.2.2.2.1 ≤ 99)))
 else (
 some false)) : Option Bool).bind fun o7 =>
 some o7)
 else (
(impl_onPiece a0).bind fun y8 =>
 bif y8 then (
(impl_isZone a0.2.2.2.2.2.1).bind fun y9 =>
 bif y9 then (
 bif (a0.2.2.2.2.1 == 0) then (
 some (!a0.2.2.2.2.2.2.1))
 else (
 some false))
 else (
 some false))
 else (
 some false)))
 else (
((bif (a0.1 == 3) then (
 some (a0.1 == 3))
 else (
 some (a0.1 == 4))) : Option Bool).bind fun o10 =>
 bif o10 then (
(impl_onPlayer a0).bind fun y11 =>
 some y11)
 else (
((bif (a0.1 == 5) then (
 some (a0.1 == 5))
 else (
 some (a0.1 == 6))) : Option Bool).bind fun o12 =>
 bif o12 then (
(impl_onPiece a0).bind fun y13 =>
 some y13)
 else (
 some false)))))
def impl_EventOk_h : Hints := (.node none none .none (.node none none (.node none none (.node (some ⟨[.tmp 30 .bool], [none], none, []⟩) none .none .none) .none) (.node none none (.node none none .none (.node none none (.node none none .none (.node none none .none (.node none none .none (.node none none (.node none none (.node none none .none (.node none none (.node none none (.node (some ⟨[.tmp 2 .bool], [none], none, []⟩) none .none .none) .none) .none)) .none) (.node none none (.node none none .none (.node (some ⟨[.tmp 75 .bool], [none], none, []⟩) none .none .none)) (.node none none .none (.node none none (.node none none .none (.node (some ⟨[.tmp 80 .bool], [none], none, []⟩) none .none .none)) .none))))))) .none)) .none)))
def impl_EventOk_c : Ct := .pure true false (.pair T_Event .unit) .bool (fun x => impl_EventOk x.1)
theorem impl_EventOk_ct : CtOk Try.prog 102 impl_EventOk_c := pure_ct (E := { T := tab, G := [(172, impl_isAmount_c), (173, impl_isId_c), (174, impl_onPiece_c), (175, impl_onPlayer_c), (176, impl_isZone_c)] }) (EnvOk.cons impl_isAmount_ct (EnvOk.cons impl_isId_ct (EnvOk.cons impl_onPiece_ct (EnvOk.cons impl_onPlayer_ct (EnvOk.cons impl_isZone_ct (EnvOk.nil tabOk)))))) mixed (fn := Try.f102) _ _ _ _ _ impl_EventOk_h Try.func102 (by kernel_rfl) (fun x => by kernel_rfl)
/-! loop.example/g00486/impl.Carry -/
def impl_Carry (a0 : T_State.D) (a1 : T_Event.D) : Option (T_State.D × (Bool × Unit)) :=
(impl_copyState a0).bind fun y1 =>
(impl_PieceAt y1 a1.2.2.1).bind fun y2 =>
(((impl_StateOk y1).bind fun y3 =>
 bif (!y3) then (
 some true)
 else (
(impl_EventOk a1).bind fun y4 =>
 bif (!y4) then (
 some true)
 else (
 bif (a1.1 != 2) then (
 some true)
 else (
 bif decide (y2 < 0) then (
 some true)
 else (
 idx y1.1 y2 fun _ =>
(y1.1[(y2 : Int).toNat]?).bind fun x5 =>
 some (x5.2.2.2.1 == a1.2.2.2.2.2.1)))))) : Option Bool).bind fun o6 =>
 bif o6 then (
 some (y1, false, ()))
 else (
 idx y1.1 y2 fun _ =>
(y1.1[(y2 : Int).toNat]?).bind fun x7 =>
(impl_Moved x7 a1.2.2.2.2.2.1 y1.2.2.2.1).bind fun y8 =>
((bif (a1.2.2.2.2.2.1 == 2) then (
 some (y8.1, y8.2.1, y8.2.2.1, y8.2.2.2.1, y8.2.2.2.2.1, y8.2.2.2.2.2.1, y8.2.2.2.2.2.2.1, y8.2.2.2.2.2.2.2.1, a1.2.2.2.2.1, y8.2.2.2.2.2.2.2.2.2.1, y8.2.2.2.2.2.2.2.2.2.2.1, y8.2.2.2.2.2.2.2.2.2.2.2.1, a1.2.2.2.2.2.2))
 else (
 some y8)) : Option T_Piece.D).bind fun o9 =>
 idx y1.1 y2 fun _ =>
(y1.1[(y2 : Int).toNat]?).bind fun x10 =>
 let u11 : (List T_Piece.D) := y1.1.set (y2 : Int).toNat o9
 some ((u11, y1.2), true, ()))
def impl_Carry_h : Hints := (.node none none .none (.node none none .none (.node none none .none (.node none none (.node none none (.node (some ⟨[.tmp 41 .bool], [none], none, []⟩) none .none .none) .none) (.node none none .none (.node none none (.node none none .none (.node (some ⟨[.box 7 0 T_Piece], [none], none, [(7, 0)]⟩) none .none .none)) .none))))))
def impl_Carry_c : Ct := .pure false false (.pair T_State (.pair T_Event .unit)) (.pair T_State (.pair .bool .unit)) (fun x => impl_Carry x.1 x.2.1)
theorem impl_Carry_ct : CtOk Try.prog 33 impl_Carry_c := pure_ct (E := { T := tab, G := [(99, impl_copyState_fresh_c), (100, impl_PieceAt_c), (101, impl_StateOk_c), (102, impl_EventOk_c), (103, impl_Moved_c)] }) (EnvOk.cons impl_copyState_fresh_ct (EnvOk.cons impl_PieceAt_ct (EnvOk.cons impl_StateOk_ct (EnvOk.cons impl_EventOk_ct (EnvOk.cons impl_Moved_ct (EnvOk.nil tabOk)))))) mixed (fn := Try.f33) _ _ _ _ _ impl_Carry_h Try.func33 (by kernel_rfl) (fun x => by kernel_rfl)
def impl_Carry_fresh_c : Ct := .pure false true (.pair T_State (.pair T_Event .unit)) (.pair T_State (.pair .bool .unit)) (fun x => impl_Carry x.1 x.2.1)
theorem impl_Carry_fresh_ct : CtOk Try.prog 33 impl_Carry_fresh_c := pure_ct (E := { T := tab, G := [(99, impl_copyState_fresh_c), (100, impl_PieceAt_c), (101, impl_StateOk_c), (102, impl_EventOk_c), (103, impl_Moved_c)] }) (EnvOk.cons impl_copyState_fresh_ct (EnvOk.cons impl_PieceAt_ct (EnvOk.cons impl_StateOk_ct (EnvOk.cons impl_EventOk_ct (EnvOk.cons impl_Moved_ct (EnvOk.nil tabOk)))))) mixed (fn := Try.f33) _ _ _ _ _ impl_Carry_h Try.func33 (by kernel_rfl) (fun x => by kernel_rfl)
/-! loop.example/g00486/laws.markPieceS -/
def laws_markPieceS_l1 : ((List T_Piece.D) × (Int × Int)) → Option (((List T_Piece.D) × (Int × Int)) ⊕ ((List T_Piece.D) × (Int × Int))) := fun s2 =>
 bif decide (s2.2.2 < (s2.1.length : Int)) then (
 idx s2.1 s2.2.2 fun _ =>
(s2.1[(s2.2.2 : Int).toNat]?).bind fun x3 =>
 let u4 : (List T_Piece.D) := s2.1.set (s2.2.2 : Int).toNat (s2.2.1, x3.2)
 idx u4 s2.2.2 fun _ =>
(u4[(s2.2.2 : Int).toNat]?).bind fun x5 =>
 let u6 : (List T_Piece.D) := u4.set (s2.2.2 : Int).toNat (x5.1, IntKind.wrap .i64 (s2.2.1 + 1), x5.2.2)
 idx u6 s2.2.2 fun _ =>
(u6[(s2.2.2 : Int).toNat]?).bind fun x7 =>
 let u8 : (List T_Piece.D) := u6.set (s2.2.2 : Int).toNat (x7.1, x7.2.1, IntKind.wrap .i64 ((IntKind.wrap .i64 (s2.2.1 + 1)) + 1), x7.2.2.2)
 let k9 : Int := IntKind.wrap .i64 ((IntKind.wrap .i64 ((IntKind.wrap .i64 (s2.2.1 + 1)) + 1)) + 1)
 idx u8 s2.2.2 fun _ =>
(u8[(s2.2.2 : Int).toNat]?).bind fun x10 =>
 let u11 : (List T_Piece.D) := u8.set (s2.2.2 : Int).toNat (x10.1, x10.2.1, x10.2.2.1, k9, x10.2.2.2.2)
 idx u11 s2.2.2 fun _ =>
(u11[(s2.2.2 : Int).toNat]?).bind fun x12 =>
 let u13 : (List T_Piece.D) := u11.set (s2.2.2 : Int).toNat (x12.1, x12.2.1, x12.2.2.1, x12.2.2.2.1, IntKind.wrap .i64 (k9 + 1), x12.2.2.2.2.2)
 idx u13 s2.2.2 fun _ =>
(u13[(s2.2.2 : Int).toNat]?).bind fun x14 =>
 let u15 : (List T_Piece.D) := u13.set (s2.2.2 : Int).toNat (x14.1, x14.2.1, x14.2.2.1, x14.2.2.2.1, x14.2.2.2.2.1, IntKind.wrap .i64 ((IntKind.wrap .i64 (k9 + 1)) + 1), x14.2.2.2.2.2.2)
 let k16 : Int := IntKind.wrap .i64 ((IntKind.wrap .i64 ((IntKind.wrap .i64 (k9 + 1)) + 1)) + 1)
 idx u15 s2.2.2 fun _ =>
(u15[(s2.2.2 : Int).toNat]?).bind fun x17 =>
 let u18 : (List T_Piece.D) := u15.set (s2.2.2 : Int).toNat (x17.1, x17.2.1, x17.2.2.1, x17.2.2.2.1, x17.2.2.2.2.1, x17.2.2.2.2.2.1, k16, x17.2.2.2.2.2.2.2)
 idx u18 s2.2.2 fun _ =>
(u18[(s2.2.2 : Int).toNat]?).bind fun x19 =>
 let u20 : (List T_Piece.D) := u18.set (s2.2.2 : Int).toNat (x19.1, x19.2.1, x19.2.2.1, x19.2.2.2.1, x19.2.2.2.2.1, x19.2.2.2.2.2.1, x19.2.2.2.2.2.2.1, IntKind.wrap .i64 (k16 + 1), x19.2.2.2.2.2.2.2.2)
 idx u20 s2.2.2 fun _ =>
(u20[(s2.2.2 : Int).toNat]?).bind fun x21 =>
 let u22 : (List T_Piece.D) := u20.set (s2.2.2 : Int).toNat (x21.1, x21.2.1, x21.2.2.1, x21.2.2.2.1, x21.2.2.2.2.1, x21.2.2.2.2.2.1, x21.2.2.2.2.2.2.1, x21.2.2.2.2.2.2.2.1, IntKind.wrap .i64 ((IntKind.wrap .i64 (k16 + 1)) + 1), x21.2.2.2.2.2.2.2.2.2)
 let k23 : Int := IntKind.wrap .i64 ((IntKind.wrap .i64 ((IntKind.wrap .i64 (k16 + 1)) + 1)) + 1)
 idx u22 s2.2.2 fun _ =>
(u22[(s2.2.2 : Int).toNat]?).bind fun x24 =>
 let u25 : (List T_Piece.D) := u22.set (s2.2.2 : Int).toNat (x24.1, x24.2.1, x24.2.2.1, x24.2.2.2.1, x24.2.2.2.2.1, x24.2.2.2.2.2.1, x24.2.2.2.2.2.2.1, x24.2.2.2.2.2.2.2.1, x24.2.2.2.2.2.2.2.2.1, k23, x24.2.2.2.2.2.2.2.2.2.2)
 idx u25 s2.2.2 fun _ =>
(u25[(s2.2.2 : Int).toNat]?).bind fun x26 =>
 let u27 : (List T_Piece.D) := u25.set (s2.2.2 : Int).toNat (x26.1, x26.2.1, x26.2.2.1, x26.2.2.2.1, x26.2.2.2.2.1, x26.2.2.2.2.2.1, x26.2.2.2.2.2.2.1, x26.2.2.2.2.2.2.2.1, x26.2.2.2.2.2.2.2.2.1, x26.2.2.2.2.2.2.2.2.2.1, IntKind.wrap .i64 (k23 + 1), x26.2.2.2.2.2.2.2.2.2.2.2)
 if 3 = 0 then none else (
 let k28 : Int := (IntKind.wrap .i64 ((IntKind.wrap .i64 (k23 + 1)) + 1)).tmod 3
 idx u27 s2.2.2 fun _ =>
(u27[(s2.2.2 : Int).toNat]?).bind fun x29 =>
 let u30 : (List T_Piece.D) := u27.set (s2.2.2 : Int).toNat (x29.1, x29.2.1, x29.2.2.1, x29.2.2.2.1, x29.2.2.2.2.1, x29.2.2.2.2.2.1, x29.2.2.2.2.2.2.1, x29.2.2.2.2.2.2.2.1, x29.2.2.2.2.2.2.2.2.1, x29.2.2.2.2.2.2.2.2.2.1, x29.2.2.2.2.2.2.2.2.2.2.1, (k28 == 0), x29.2.2.2.2.2.2.2.2.2.2.2.2)
 let k31 : Int := IntKind.wrap .i64 ((IntKind.wrap .i64 ((IntKind.wrap .i64 (k23 + 1)) + 1)) + 1)
 if 3 = 0 then none else (
 idx u30 s2.2.2 fun _ =>
(u30[(s2.2.2 : Int).toNat]?).bind fun x32 =>
 let u33 : (List T_Piece.D) := u30.set (s2.2.2 : Int).toNat (x32.1, x32.2.1, x32.2.2.1, x32.2.2.2.1, x32.2.2.2.2.1, x32.2.2.2.2.2.1, x32.2.2.2.2.2.2.1, x32.2.2.2.2.2.2.2.1, x32.2.2.2.2.2.2.2.2.1, x32.2.2.2.2.2.2.2.2.2.1, x32.2.2.2.2.2.2.2.2.2.2.1, x32.2.2.2.2.2.2.2.2.2.2.2.1, ((k31.tmod 3) == 0), ())
 some (.inl (u33, IntKind.wrap .i64 (k31 + 1), IntKind.wrap .i64 (s2.2.2 + 1))))))
 else (
 some (.inr s2))
def laws_markPieceS (a0 : (List T_Piece.D)) (a1 : Int) : Option (Int × ((List T_Piece.D) × Unit)) :=
(while_ (laws_markPieceS_l1) (a0, a1, 0)).bind fun o34 =>
 some (o34.2.1, (o34.1, ()))
def laws_markPieceS_h : Hints := (.node none none .none (.node none none (.node none none .none (.node none none (.node none (some ⟨[.tmpO 0 1 (.slice T_Piece), .tmp 1 (.int .i64), .tmp 5 (.int .i64)], [some 0], none, []⟩) .none .none) .none)) .none))
def laws_markPieceS_c : Ct := .mut [.lent, .rd] true true (.pair (.slice T_Piece) (.pair (.int .i64) .unit)) (.int .i64) (fun x => laws_markPieceS x.1 x.2.1)
theorem laws_markPieceS_ct : CtOk Try.prog 104 laws_markPieceS_c := mut_ct (E := { T := tab, G := [] }) (EnvOk.nil tabOk) mixed (fn := Try.f104) _ _ _ _ _ _ laws_markPieceS_h Try.func104 (by kernel_rfl) (fun x => by kernel_rfl)
/-! loop.example/g00486/laws.markSideS -/
def laws_markSideS_l1 : ((List T_Side.D) × (Int × Int)) → Option (((List T_Side.D) × (Int × Int)) ⊕ ((List T_Side.D) × (Int × Int))) := fun s2 =>
 bif decide (s2.2.2 < (s2.1.length : Int)) then (
 idx s2.1 s2.2.2 fun _ =>
(s2.1[(s2.2.2 : Int).toNat]?).bind fun x3 =>
 let u4 : (List T_Side.D) := s2.1.set (s2.2.2 : Int).toNat (s2.2.1, x3.2)
 idx u4 s2.2.2 fun _ =>
(u4[(s2.2.2 : Int).toNat]?).bind fun x5 =>
 let u6 : (List T_Side.D) := u4.set (s2.2.2 : Int).toNat (x5.1, IntKind.wrap .i64 (s2.2.1 + 1), x5.2.2)
 if 3 = 0 then none else (
 let k7 : Int := (IntKind.wrap .i64 ((IntKind.wrap .i64 (s2.2.1 + 1)) + 1)).tmod 3
 idx u6 s2.2.2 fun _ =>
(u6[(s2.2.2 : Int).toNat]?).bind fun x8 =>
 let u9 : (List T_Side.D) := u6.set (s2.2.2 : Int).toNat (x8.1, x8.2.1, (k7 == 0), ())
 let k10 : Int := IntKind.wrap .i64 ((IntKind.wrap .i64 ((IntKind.wrap .i64 (s2.2.1 + 1)) + 1)) + 1)
 some (.inl (u9, k10, IntKind.wrap .i64 (s2.2.2 + 1)))))
 else (
 some (.inr s2))
def laws_markSideS (a0 : (List T_Side.D)) (a1 : Int) : Option (Int × ((List T_Side.D) × Unit)) :=
(while_ (laws_markSideS_l1) (a0, a1, 0)).bind fun o11 =>
 some (o11.2.1, (o11.1, ()))
def laws_markSideS_h : Hints := (.node none none .none (.node none none (.node none none .none (.node none none (.node none (some ⟨[.tmpO 0 1 (.slice T_Side), .tmp 1 (.int .i64), .tmp 5 (.int .i64)], [some 0], none, []⟩) .none .none) .none)) .none))
def laws_markSideS_c : Ct := .mut [.lent, .rd] true true (.pair (.slice T_Side) (.pair (.int .i64) .unit)) (.int .i64) (fun x => laws_markSideS x.1 x.2.1)
theorem laws_markSideS_ct : CtOk Try.prog 105 laws_markSideS_c := mut_ct (E := { T := tab, G := [] }) (EnvOk.nil tabOk) mixed (fn := Try.f105) _ _ _ _ _ _ laws_markSideS_h Try.func105 (by kernel_rfl) (fun x => by kernel_rfl)
/-! loop.example/g00486/laws.markState -/
def laws_markState (a0 : T_State.D) (a1 : Int) : Option (Int × (T_State.D × Unit)) :=
(laws_markPieceS a0.1 a1).bind fun y1 =>
(laws_markSideS a0.2.1 y1.1).bind fun y2 =>
 some (y2.1, ((y1.2.1, y2.2.1, a0.2.2), ()))
def laws_markState_c : Ct := .mut [.lent, .rd] true true (.pair T_State (.pair (.int .i64) .unit)) (.int .i64) (fun x => laws_markState x.1 x.2.1)
theorem laws_markState_ct : CtOk Try.prog 34 laws_markState_c := mut_ct (E := { T := tab, G := [(104, laws_markPieceS_c), (105, laws_markSideS_c)] }) (EnvOk.cons laws_markPieceS_ct (EnvOk.cons laws_markSideS_ct (EnvOk.nil tabOk))) mixed (fn := Try.f34) _ _ _ _ _ _ .none Try.func34 (by kernel_rfl) (fun x => by kernel_rfl)
/-! loop.example/g00486/laws.heldPieceS -/
def laws_heldPieceS_l1 (a0 : (List T_Piece.D)) : (Int × Int) → Option ((Int × Int) ⊕ ((Int × Int) ⊕ Int)) := fun s1 =>
 bif decide (s1.2 < (a0.length : Int)) then (
 idx a0 s1.2 fun x2 =>
 bif (x2.1 != s1.1) then (
 some (.inr (.inr (-1))))
 else (
 idx a0 s1.2 fun x3 =>
 bif (x3.2.1 != (IntKind.wrap .i64 (s1.1 + 1))) then (
 some (.inr (.inr (-1))))
 else (
 idx a0 s1.2 fun x4 =>
 bif (x4.2.2.1 != (IntKind.wrap .i64 ((IntKind.wrap .i64 (s1.1 + 1)) + 1))) then (
 some (.inr (.inr (-1))))
 else (
 let k5 : Int := IntKind.wrap .i64 ((IntKind.wrap .i64 ((IntKind.wrap .i64 (s1.1 + 1)) + 1)) + 1)
 idx a0 s1.2 fun x6 =>
 bif (x6.2.2.2.1 != k5) then (
 some (.inr (.inr (-1))))
 else (
 idx a0 s1.2 fun x7 =>
 bif (x7.2.2.2.2.1 != (IntKind.wrap .i64 (k5 + 1))) then (
 some (.inr (.inr (-1))))
 else (
 idx a0 s1.2 fun x8 =>
 bif (x8.2.2.2.2.2.1 != (IntKind.wrap .i64 ((IntKind.wrap .i64 (k5 + 1)) + 1))) then (
 some (.inr (.inr (-1))))
 else (
 let k9 : Int := IntKind.wrap .i64 ((IntKind.wrap .i64 ((IntKind.wrap .i64 (k5 + 1)) + 1)) + 1)
 idx a0 s1.2 fun x10 =>
 bif (x10.2.2.2.2.2.2.1 != k9) then (
 some (.inr (.inr (-1))))
 else (
 idx a0 s1.2 fun x11 =>
 bif (x11.2.2.2.2.2.2.2.1 != (IntKind.wrap .i64 (k9 + 1))) then (
 some (.inr (.inr (-1))))
 else (
 idx a0 s1.2 fun x12 =>
 bif (x12.2.2.2.2.2.2.2.2.1 != (IntKind.wrap .i64 ((IntKind.wrap .i64 (k9 + 1)) + 1))) then (
 some (.inr (.inr (-1))))
 else (
 let k13 : Int := IntKind.wrap .i64 ((IntKind.wrap .i64 ((IntKind.wrap .i64 (k9 + 1)) + 1)) + 1)
 idx a0 s1.2 fun x14 =>
 bif (x14.2.2.2.2.2.2.2.2.2.1 != k13) then (
 some (.inr (.inr (-1))))
 else (
 idx a0 s1.2 fun x15 =>
 bif (x15.2.2.2.2.2.2.2.2.2.2.1 != (IntKind.wrap .i64 (k13 + 1))) then (
 some (.inr (.inr (-1))))
 else (
 idx a0 s1.2 fun x16 =>
 if 3 = 0 then none else (
 let k17 : Int := (IntKind.wrap .i64 ((IntKind.wrap .i64 (k13 + 1)) + 1)).tmod 3
 bif (x16.2.2.2.2.2.2.2.2.2.2.2.1 != (k17 == 0)) then (
 some (.inr (.inr (-1))))
 else (
 let k18 : Int := IntKind.wrap .i64 ((IntKind.wrap .i64 ((IntKind.wrap .i64 (k13 + 1)) + 1)) + 1)
 idx a0 s1.2 fun x19 =>
 if 3 = 0 then none else (
 bif (x19.2.2.2.2.2.2.2.2.2.2.2.2.1 != ((k18.tmod 3) == 0)) then (
 some (.inr (.inr (-1))))
 else (
 some (.inl (IntKind.wrap .i64 (k18 + 1), IntKind.wrap .i64 (s1.2 + 1)))))))))))))))))))
 else (
 some (.inr (.inl s1)))
def laws_heldPieceS (a0 : (List T_Piece.D)) (a1 : Int) : Option Int :=
(while_ (laws_heldPieceS_l1 a0) (a1, 0)).bind fun o20 =>
 match o20 with
| .inl s21 => (
 some s21.1)
| .inr o22 => (
 some o22)
def laws_heldPieceS_h : Hints := (.node none none .none (.node none none (.node none none .none (.node none none (.node none (some ⟨[.tmp 1 (.int .i64), .tmp 5 (.int .i64)], [some 0], some [.tmp 4 (.int .i64)], []⟩) .none .none) .none)) .none))
def laws_heldPieceS_c : Ct := .pure true false (.pair (.slice T_Piece) (.pair (.int .i64) .unit)) (.int .i64) (fun x => laws_heldPieceS x.1 x.2.1)
theorem laws_heldPieceS_ct : CtOk Try.prog 106 laws_heldPieceS_c := pure_ct (E := { T := tab, G := [] }) (EnvOk.nil tabOk) mixed (fn := Try.f106) _ _ _ _ _ laws_heldPieceS_h Try.func106 (by kernel_rfl) (fun x => by kernel_rfl)
/-! loop.example/g00486/laws.heldSideS -/
def laws_heldSideS_l1 (a0 : (List T_Side.D)) : (Int × Int) → Option ((Int × Int) ⊕ ((Int × Int) ⊕ Int)) := fun s1 =>
 bif decide (s1.2 < (a0.length : Int)) then (
 idx a0 s1.2 fun x2 =>
 bif (x2.1 != s1.1) then (
 some (.inr (.inr (-1))))
 else (
 idx a0 s1.2 fun x3 =>
 bif (x3.2.1 != (IntKind.wrap .i64 (s1.1 + 1))) then (
 some (.inr (.inr (-1))))
 else (
 idx a0 s1.2 fun x4 =>
 if 3 = 0 then none else (
 let k5 : Int := (IntKind.wrap .i64 ((IntKind.wrap .i64 (s1.1 + 1)) + 1)).tmod 3
 bif (x4.2.2.1 != (k5 == 0)) then (
 some (.inr (.inr (-1))))
 else (
 let k6 : Int := IntKind.wrap .i64 ((IntKind.wrap .i64 ((IntKind.wrap .i64 (s1.1 + 1)) + 1)) + 1)
 some (.inl (k6, IntKind.wrap .i64 (s1.2 + 1))))))))
 else (
 some (.inr (.inl s1)))
def laws_heldSideS (a0 : (List T_Side.D)) (a1 : Int) : Option Int :=
(while_ (laws_heldSideS_l1 a0) (a1, 0)).bind fun o7 =>
 match o7 with
| .inl s8 => (
 some s8.1)
| .inr o9 => (
 some o9)
def laws_heldSideS_h : Hints := (.node none none .none (.node none none (.node none none .none (.node none none (.node none (some ⟨[.tmp 1 (.int .i64), .tmp 5 (.int .i64)], [some 0], some [.tmp 4 (.int .i64)], []⟩) .none .none) .none)) .none))
def laws_heldSideS_c : Ct := .pure true false (.pair (.slice T_Side) (.pair (.int .i64) .unit)) (.int .i64) (fun x => laws_heldSideS x.1 x.2.1)
theorem laws_heldSideS_ct : CtOk Try.prog 107 laws_heldSideS_c := pure_ct (E := { T := tab, G := [] }) (EnvOk.nil tabOk) mixed (fn := Try.f107) _ _ _ _ _ laws_heldSideS_h Try.func107 (by kernel_rfl) (fun x => by kernel_rfl)
/-! loop.example/g00486/laws.heldState -/
def laws_heldState (a0 : T_State.D) (a1 : Int) : Option Int :=
(laws_heldPieceS a0.1 a1).bind fun y1 =>
 bif decide (y1 < 0) then (
 some (-1))
 else (
(laws_heldSideS a0.2.1 y1).bind fun y2 =>
 bif decide (y2 < 0) then (
 some (-1))
 else (
 some y2))
def laws_heldState_c : Ct := .pure true false (.pair T_State (.pair (.int .i64) .unit)) (.int .i64) (fun x => laws_heldState x.1 x.2.1)
theorem laws_heldState_ct : CtOk Try.prog 35 laws_heldState_c := pure_ct (E := { T := tab, G := [(106, laws_heldPieceS_c), (107, laws_heldSideS_c)] }) (EnvOk.cons laws_heldPieceS_ct (EnvOk.cons laws_heldSideS_ct (EnvOk.nil tabOk))) mixed (fn := Try.f35) _ _ _ _ _ .none Try.func35 (by kernel_rfl) (fun x => by kernel_rfl)
/-! loop.example/g00486/laws.FnExactCarry -/
def laws_FnExactCarry (a0 : T_State.D) (a1 : T_Event.D) : Option Bool :=
(laws_szState a0 1048576).bind fun y1 =>
 bif decide (y1 < 0) then (
 some true)
 else (
(laws_toState a0).bind fun y2 =>
(laws_toEvent a1).bind fun y3 =>
(spec_Carry y2 y3).bind fun y4 =>
(laws_toState a0).bind fun y5 =>
(laws_toEvent a1).bind fun y6 =>
(impl_Carry y5 y6).bind fun y7 =>
(((laws_eqState y7.1 y4.1).bind fun y8 =>
 bif (!y8) then (
 some true)
 else (
 some (y7.2.1 != y4.2.1))) : Option Bool).bind fun o9 =>
 bif o9 then (
 some false)
 else (
(laws_toState a0).bind fun y10 =>
(laws_eqState y5 y10).bind fun y11 =>
 bif (!y11) then (
 some false)
 else (
(laws_markState y5 1).bind fun y12 =>
((bif decide (y12.1 < 0) then (
 some true)
 else (
(laws_eqState y7.1 y4.1).bind fun y13 =>
 bif (!y13) then (
 some true)
 else (
 some (y7.2.1 != y4.2.1)))) : Option Bool).bind fun o14 =>
 bif o14 then (
 some false)
 else (
(laws_markState y7.1 1).bind fun y15 =>
(laws_heldState (y15.2.1.1, y15.2.1.2.1, y7.1.2.2) 1).bind fun y16 =>
 bif decide (y16 < 0) then (
 some false)
 else (
 bif (y16 != y15.1) then (
 some false)
 else (
(laws_toState a0).bind fun y17 =>
(laws_toEvent a1).bind fun y18 =>
(impl_Carry y17 y18).bind fun y19 =>
(((laws_eqState y19.1 y4.1).bind fun y20 =>
 bif (!y20) then (
 some true)
 else (
 some (y19.2.1 != y4.2.1))) : Option Bool).bind fun o21 =>
 bif o21 then (
 some false)
 else (
(laws_heldState (y15.2.1.1, y15.2.1.2.1, y7.1.2.2) 1).bind fun y22 =>
 bif decide (y22 < 0) then (
 some false)
 else (
 bif (y22 != y15.1) then (
 some false)
 else (
 some true)))))))))
def laws_FnExactCarry_h : Hints := (.node none none .none (.node none none .none (.node none none .none (.node none none .none (.node none none .none (.node none none .none (.node none none .none (.node none none (.node none none (.node (some ⟨[.tmp 46 .bool], [none], none, []⟩) none .none .none) .none) (.node none none .none (.node none none .none (.node none none .none (.node none none (.node none none (.node (some ⟨[.tmp 67 .bool], [none], none, []⟩) none .none .none) .none) (.node none none .none (.node none none .none (.node none none .none (.node none none .none (.node none none .none (.node none none .none (.node none none .none (.node none none (.node none none (.node (some ⟨[.tmp 95 .bool], [none], none, []⟩) none .none .none) .none) .none))))))))))))))))))))
def laws_FnExactCarry_c : Ct := .pure true false (.pair T_State (.pair T_Event .unit)) .bool (fun x => laws_FnExactCarry x.1 x.2.1)
theorem laws_FnExactCarry_ct : CtOk Try.prog 7 laws_FnExactCarry_c := pure_ct (E := { T := tab, G := [(14, laws_szState_c), (16, laws_toState_fresh_c), (18, laws_eqState_c), (31, spec_Carry_fresh_c), (32, laws_toEvent_c), (33, impl_Carry_fresh_c), (34, laws_markState_c), (35, laws_heldState_c)] }) (EnvOk.cons laws_szState_ct (EnvOk.cons laws_toState_fresh_ct (EnvOk.cons laws_eqState_ct (EnvOk.cons spec_Carry_fresh_ct (EnvOk.cons laws_toEvent_ct (EnvOk.cons impl_Carry_fresh_ct (EnvOk.cons laws_markState_ct (EnvOk.cons laws_heldState_ct (EnvOk.nil tabOk))))))))) mixed (fn := Try.f7) _ _ _ _ _ laws_FnExactCarry_h Try.func7 (by kernel_rfl) (fun x => by kernel_rfl)
/-! loop.example/g00486/spec.Bear -/
def spec_Bear (a0 : T_State.D) (a1 : T_Event.D) : Option (T_State.D × (Bool × Unit)) :=
(spec_l5Copy a0).bind fun y1 =>
(((spec_StateOk a0).bind fun y2 =>
 bif (!y2) then (
 some true)
 else (
(spec_EventOk a1).bind fun y3 =>
 some (!y3))) : Option Bool).bind fun o4 =>
 bif o4 then (
 some (y1, false, ()))
 else (
((bif (a1.1 == 3) then (
 some (a1.1 == 3))
 else (
 some (a1.1 == 4))) : Option Bool).bind fun o5 =>
 bif o5 then (
 bif decide (a1.2.2.2.1 ≥ (a0.2.1.length : Int)) then (
 some (y1, false, ()))
 else (
((bif (a1.1 == 3) then (
 idx a0.2.1 a1.2.2.2.1 fun x6 =>
(spec_Plus x6.1 a1.2.2.2.2.1).bind fun y7 =>
 idx y1.2.1 a1.2.2.2.1 fun _ =>
(y1.2.1[(a1.2.2.2.1 : Int).toNat]?).bind fun x8 =>
 let u9 : (List T_Side.D) := y1.2.1.set (a1.2.2.2.1 : Int).toNat (y7, x8.2)
 some (y1.1, u9, y1.2.2))
 else (
 idx a0.2.1 a1.2.2.2.1 fun x10 =>
(spec_Less x10.1 a1.2.2.2.2.1).bind fun y11 =>
 idx y1.2.1 a1.2.2.2.1 fun _ =>
(y1.2.1[(a1.2.2.2.1 : Int).toNat]?).bind fun x12 =>
 let u13 : (List T_Side.D) := y1.2.1.set (a1.2.2.2.1 : Int).toNat (y11, x12.2)
 some (y1.1, u13, y1.2.2))) : Option T_State.D).bind fun o14 =>
 some (o14, true, ())))
 else (
((bif (a1.1 == 5) then (
 some (a1.1 == 5))
 else (
 some (a1.1 == 6))) : Option Bool).bind fun o15 =>
 bif o15 then (
(spec_PieceAt a0 a1.2.2.1).bind fun y16 =>
((bif decide (y16 < 0) then (
 some true)
 else (
 idx a0.1 y16 fun x17 =>
 some (x17.2.2.2.1 != 2))) : Option Bool).bind fun o18 =>
 bif o18 then (
 some (y1, false, ()))
 else (
((bif (a1.1 == 5) then (
 idx a0.1 y16 fun x19 =>
(spec_Plus x19.2.2.2.2.2.2.2.2.1 a1.2.2.2.2.1).bind fun y20 =>
 idx y1.1 y16 fun _ =>
(y1.1[(y16 : Int).toNat]?).bind fun x21 =>
 let u22 : (List T_Piece.D) := y1.1.set (y16 : Int).toNat (x21.1, x21.2.1, x21.2.2.1, x21.2.2.2.1, x21.2.2.2.2.1, x21.2.2.2.2.2.1, x21.2.2.2.2.2.2.1, x21.2.2.2.2.2.2.2.1, y20, x21.2.2.2.2.2.2.2.2.2)
 some (u22, y1.2))
 else (
 idx a0.1 y16 fun x23 =>
(spec_Plus x23.2.2.2.2.2.2.2.2.2.1 a1.2.2.2.2.1).bind fun y24 =>
 idx y1.1 y16 fun _ =>
(y1.1[(y16 : Int).toNat]?).bind fun x25 =>
 let u26 : (List T_Piece.D) := y1.1.set (y16 : Int).toNat (x25.1, x25.2.1, x25.2.2.1, x25.2.2.2.1, x25.2.2.2.2.1, x25.2.2.2.2.2.1, x25.2.2.2.2.2.2.1, x25.2.2.2.2.2.2.2.1, x25.2.2.2.2.2.2.2.2.1, y24, x25.2.2.2.2.2.2.2.2.2.2)
 some (u26, y1.2))) : Option T_State.D).bind fun o27 =>
 some (o27, true, ())))
 else (
 some (y1, false, ()))))
def spec_Bear_h : Hints := (.node none none .none (.node none none .none (.node none none (.node none none (.node (some ⟨[.tmp 17 .bool], [none], none, []⟩) none .none .none) .none) (.node none none (.node none none .none (.node none none (.node none none (.node none none .none (.node (some ⟨[.tmp 21 .bool], [none], none, []⟩) none .none .none)) (.node none none (.node none none .none (.node none none (.node none none .none (.node (some ⟨[.boxO 6 0 1 T_State], [none], none, [(9, 1), (6, 0), (9, 0)]⟩) none .none .none)) .none)) (.node none none (.node none none .none (.node (some ⟨[.tmp 67 .bool], [none], none, []⟩) none .none .none)) (.node none none (.node none none .none (.node none none (.node none none (.node (some ⟨[.tmp 84 .bool], [none], none, []⟩) none .none .none) .none) (.node none none (.node none none .none (.node (some ⟨[.boxO 6 0 1 T_State], [none], none, [(9, 0), (6, 0), (9, 1)]⟩) none .none .none)) .none))) .none)))) .none)) .none))))
def spec_Bear_c : Ct := .pure false false (.pair T_State (.pair T_Event .unit)) (.pair T_State (.pair .bool .unit)) (fun x => spec_Bear x.1 x.2.1)
theorem spec_Bear_ct : CtOk Try.prog 36 spec_Bear_c := pure_ct (E := { T := tab, G := [(94, spec_l5Copy_fresh_c), (95, spec_PieceAt_c), (96, spec_StateOk_c), (97, spec_EventOk_c), (108, spec_Plus_c), (109, spec_Less_c)] }) (EnvOk.cons spec_l5Copy_fresh_ct (EnvOk.cons spec_PieceAt_ct (EnvOk.cons spec_StateOk_ct (EnvOk.cons spec_EventOk_ct (EnvOk.cons spec_Plus_ct (EnvOk.cons spec_Less_ct (EnvOk.nil tabOk))))))) mixed (fn := Try.f36) _ _ _ _ _ spec_Bear_h Try.func36 (by kernel_rfl) (fun x => by kernel_rfl)
def spec_Bear_fresh_c : Ct := .pure false true (.pair T_State (.pair T_Event .unit)) (.pair T_State (.pair .bool .unit)) (fun x => spec_Bear x.1 x.2.1)
theorem spec_Bear_fresh_ct : CtOk Try.prog 36 spec_Bear_fresh_c := pure_ct (E := { T := tab, G := [(94, spec_l5Copy_fresh_c), (95, spec_PieceAt_c), (96, spec_StateOk_c), (97, spec_EventOk_c), (108, spec_Plus_c), (109, spec_Less_c)] }) (EnvOk.cons spec_l5Copy_fresh_ct (EnvOk.cons spec_PieceAt_ct (EnvOk.cons spec_StateOk_ct (EnvOk.cons spec_EventOk_ct (EnvOk.cons spec_Plus_ct (EnvOk.cons spec_Less_ct (EnvOk.nil tabOk))))))) mixed (fn := Try.f36) _ _ _ _ _ spec_Bear_h Try.func36 (by kernel_rfl) (fun x => by kernel_rfl)
/-! loop.example/g00486/impl.fieldAt -/
def impl_fieldAt (a0 : T_State.D) (a1 : Int) : Option Int :=
(impl_PieceAt a0 a1).bind fun y1 =>
((bif decide (y1 < 0) then (
 some true)
 else (
 idx a0.1 y1 fun x2 =>
 some (x2.2.2.2.1 != 2))) : Option Bool).bind fun o3 =>
 bif o3 then (
 some (-1))
 else (
 some y1)
def impl_fieldAt_h : Hints := (.node none none .none (.node none none .none (.node none none (.node none none (.node (some ⟨[.tmp 19 .bool], [none], none, []⟩) none .none .none) .none) .none)))
def impl_fieldAt_c : Ct := .pure true false (.pair T_State (.pair (.int .i64) .unit)) (.int .i64) (fun x => impl_fieldAt x.1 x.2.1)
theorem impl_fieldAt_ct : CtOk Try.prog 113 impl_fieldAt_c := pure_ct (E := { T := tab, G := [(100, impl_PieceAt_c)] }) (EnvOk.cons impl_PieceAt_ct (EnvOk.nil tabOk)) mixed (fn := Try.f113) _ _ _ _ _ impl_fieldAt_h Try.func113 (by kernel_rfl) (fun x => by kernel_rfl)
/-! loop.example/g00486/impl.reaches -/
def impl_reaches (a0 : T_State.D) (a1 : T_Event.D) : Option Bool :=
 bif (a1.2.2.1 == 0) then (
(impl_isSide a0 a1.2.2.2.1).bind fun y1 =>
 some y1)
 else (
(impl_fieldAt a0 a1.2.2.1).bind fun y2 =>
 some (decide (y2 ≥ 0)))
def impl_reaches_c : Ct := .pure true false (.pair T_State (.pair T_Event .unit)) .bool (fun x => impl_reaches x.1 x.2.1)
theorem impl_reaches_ct : CtOk Try.prog 110 impl_reaches_c := pure_ct (E := { T := tab, G := [(113, impl_fieldAt_c), (117, impl_isSide_c)] }) (EnvOk.cons impl_fieldAt_ct (EnvOk.cons impl_isSide_ct (EnvOk.nil tabOk))) mixed (fn := Try.f110) _ _ _ _ _ .none Try.func110 (by kernel_rfl) (fun x => by kernel_rfl)
/-! loop.example/g00486/impl.Bear -/
def impl_Bear (a0 : T_State.D) (a1 : T_Event.D) : Option (T_State.D × (Bool × Unit)) :=
(impl_copyState a0).bind fun y1 =>
(((impl_StateOk y1).bind fun y2 =>
 bif (!y2) then (
 some true)
 else (
(impl_EventOk a1).bind fun y3 =>
 bif (!y3) then (
 some true)
 else (
 bif (a1.1 == 1) then (
 some true)
 else (
 bif (a1.1 == 2) then (
 some true)
 else (
(impl_reaches y1 a1).bind fun y4 =>
 some (!y4)))))) : Option Bool).bind fun o5 =>
 bif o5 then (
 some (y1, false, ()))
 else (
((bif (a1.1 == 3) then (
 idx y1.2.1 a1.2.2.2.1 fun _ =>
(y1.2.1[(a1.2.2.2.1 : Int).toNat]?).bind fun x6 =>
(impl_Plus x6.1 a1.2.2.2.2.1).bind fun y7 =>
 idx y1.2.1 a1.2.2.2.1 fun _ =>
(y1.2.1[(a1.2.2.2.1 : Int).toNat]?).bind fun x8 =>
 let u9 : (List T_Side.D) := y1.2.1.set (a1.2.2.2.1 : Int).toNat (y7, x8.2)
 some (y1.1, u9, y1.2.2))
 else (
((bif (a1.1 == 4) then (
 idx y1.2.1 a1.2.2.2.1 fun _ =>
(y1.2.1[(a1.2.2.2.1 : Int).toNat]?).bind fun x10 =>
(impl_Less x10.1 a1.2.2.2.2.1).bind fun y11 =>
 idx y1.2.1 a1.2.2.2.1 fun _ =>
(y1.2.1[(a1.2.2.2.1 : Int).toNat]?).bind fun x12 =>
 let u13 : (List T_Side.D) := y1.2.1.set (a1.2.2.2.1 : Int).toNat (y11, x12.2)
 some (y1.1, u13, y1.2.2))
 else (
((bif (a1.1 == 5) then (
(impl_fieldAt y1 a1.2.2.1).bind fun y14 =>
 idx y1.1 y14 fun _ =>
(y1.1[(y14 : Int).toNat]?).bind fun x15 =>
(impl_Plus x15.2.2.2.2.2.2.2.2.1 a1.2.2.2.2.1).bind fun y16 =>
(y1.1[(y14 : Int).toNat]?).bind fun x17 =>
 let u18 : (List T_Piece.D) := y1.1.set (y14 : Int).toNat (x17.1, x17.2.1, x17.2.2.1, x17.2.2.2.1, x17.2.2.2.2.1, x17.2.2.2.2.2.1, x17.2.2.2.2.2.2.1, x17.2.2.2.2.2.2.2.1, y16, x17.2.2.2.2.2.2.2.2.2)
 some (u18, y1.2))
 else (
((bif (a1.1 == 6) then (
(impl_fieldAt y1 a1.2.2.1).bind fun y19 =>
 idx y1.1 y19 fun _ =>
(y1.1[(y19 : Int).toNat]?).bind fun x20 =>
(impl_Plus x20.2.2.2.2.2.2.2.2.2.1 a1.2.2.2.2.1).bind fun y21 =>
(y1.1[(y19 : Int).toNat]?).bind fun x22 =>
 let u23 : (List T_Piece.D) := y1.1.set (y19 : Int).toNat (x22.1, x22.2.1, x22.2.2.1, x22.2.2.2.1, x22.2.2.2.2.1, x22.2.2.2.2.2.1, x22.2.2.2.2.2.2.1, x22.2.2.2.2.2.2.2.1, x22.2.2.2.2.2.2.2.2.1, y21, x22.2.2.2.2.2.2.2.2.2.2)
 some (u23, y1.2))
 else (
 some y1)) : Option T_State.D).bind fun o24 =>
 some o24)) : Option T_State.D).bind fun o25 =>
 some o25)) : Option T_State.D).bind fun o26 =>
 some o26)) : Option T_State.D).bind fun o27 =>
 some (o27, true, ()))
def impl_Bear_h : Hints := (.node none none .none (.node none none .none (.node none none (.node none none (.node (some ⟨[.tmp 33 .bool], [none], none, []⟩) none .none .none) .none) (.node none none (.node none none .none (.node none none (.node none none .none (.node (some ⟨[.boxO 2 0 1 T_State], [none], none, [(9, 1), (2, 0), (9, 0)]⟩) none .none (.node none none .none (.node (some ⟨[.boxO 2 0 1 T_State], [none], none, [(9, 1), (2, 0), (9, 0)]⟩) none .none (.node none none .none (.node (some ⟨[.boxO 2 0 1 T_State], [none], none, [(9, 0), (2, 0), (9, 1)]⟩) none .none (.node none none .none (.node (some ⟨[.boxO 2 0 1 T_State], [none], none, [(9, 0), (2, 0), (9, 1)]⟩) none .none .none)))))))) .none)) .none))))
def impl_Bear_c : Ct := .pure false false (.pair T_State (.pair T_Event .unit)) (.pair T_State (.pair .bool .unit)) (fun x => impl_Bear x.1 x.2.1)
theorem impl_Bear_ct : CtOk Try.prog 37 impl_Bear_c := pure_ct (E := { T := tab, G := [(99, impl_copyState_fresh_c), (101, impl_StateOk_c), (102, impl_EventOk_c), (110, impl_reaches_c), (111, impl_Plus_c), (112, impl_Less_c), (113, impl_fieldAt_c)] }) (EnvOk.cons impl_copyState_fresh_ct (EnvOk.cons impl_StateOk_ct (EnvOk.cons impl_EventOk_ct (EnvOk.cons impl_reaches_ct (EnvOk.cons impl_Plus_ct (EnvOk.cons impl_Less_ct (EnvOk.cons impl_fieldAt_ct (EnvOk.nil tabOk)))))))) mixed (fn := Try.f37) _ _ _ _ _ impl_Bear_h Try.func37 (by kernel_rfl) (fun x => by kernel_rfl)
def impl_Bear_fresh_c : Ct := .pure false true (.pair T_State (.pair T_Event .unit)) (.pair T_State (.pair .bool .unit)) (fun x => impl_Bear x.1 x.2.1)
theorem impl_Bear_fresh_ct : CtOk Try.prog 37 impl_Bear_fresh_c := pure_ct (E := { T := tab, G := [(99, impl_copyState_fresh_c), (101, impl_StateOk_c), (102, impl_EventOk_c), (110, impl_reaches_c), (111, impl_Plus_c), (112, impl_Less_c), (113, impl_fieldAt_c)] }) (EnvOk.cons impl_copyState_fresh_ct (EnvOk.cons impl_StateOk_ct (EnvOk.cons impl_EventOk_ct (EnvOk.cons impl_reaches_ct (EnvOk.cons impl_Plus_ct (EnvOk.cons impl_Less_ct (EnvOk.cons impl_fieldAt_ct (EnvOk.nil tabOk)))))))) mixed (fn := Try.f37) _ _ _ _ _ impl_Bear_h Try.func37 (by kernel_rfl) (fun x => by kernel_rfl)
/-! loop.example/g00486/laws.FnExactBear -/
def laws_FnExactBear (a0 : T_State.D) (a1 : T_Event.D) : Option Bool :=
(laws_szState a0 1048576).bind fun y1 =>
 bif decide (y1 < 0) then (
 some true)
 else (
(laws_toState a0).bind fun y2 =>
(laws_toEvent a1).bind fun y3 =>
(spec_Bear y2 y3).bind fun y4 =>
(laws_toState a0).bind fun y5 =>
(laws_toEvent a1).bind fun y6 =>
(impl_Bear y5 y6).bind fun y7 =>
(((laws_eqState y7.1 y4.1).bind fun y8 =>
 bif (!y8) then (
 some true)
 else (
 some (y7.2.1 != y4.2.1))) : Option Bool).bind fun o9 =>
 bif o9 then (
 some false)
 else (
(laws_toState a0).bind fun y10 =>
(laws_eqState y5 y10).bind fun y11 =>
 bif (!y11) then (
 some false)
 else (
(laws_markState y5 1).bind fun y12 =>
((bif decide (y12.1 < 0) then (
 some true)
 else (
(laws_eqState y7.1 y4.1).bind fun y13 =>
 bif (!y13) then (
 some true)
 else (
 some (y7.2.1 != y4.2.1)))) : Option Bool).bind fun o14 =>
 bif o14 then (
 some false)
 else (
(laws_markState y7.1 1).bind fun y15 =>
(laws_heldState (y15.2.1.1, y15.2.1.2.1, y7.1.2.2) 1).bind fun y16 =>
 bif decide (y16 < 0) then (
 some false)
 else (
 bif (y16 != y15.1) then (
 some false)
 else (
(laws_toState a0).bind fun y17 =>
(laws_toEvent a1).bind fun y18 =>
(impl_Bear y17 y18).bind fun y19 =>
(((laws_eqState y19.1 y4.1).bind fun y20 =>
 bif (!y20) then (
 some true)
 else (
 some (y19.2.1 != y4.2.1))) : Option Bool).bind fun o21 =>
 bif o21 then (
 some false)
 else (
(laws_heldState (y15.2.1.1, y15.2.1.2.1, y7.1.2.2) 1).bind fun y22 =>
 bif decide (y22 < 0) then (
 some false)
 else (
 bif (y22 != y15.1) then (
 some false)
 else (
 some true)))))))))
def laws_FnExactBear_h : Hints := (.node none none .none (.node none none .none (.node none none .none (.node none none .none (.node none none .none (.node none none .none (.node none none .none (.node none none (.node none none (.node (some ⟨[.tmp 46 .bool], [none], none, []⟩) none .none .none) .none) (.node none none .none (.node none none .none (.node none none .none (.node none none (.node none none (.node (some ⟨[.tmp 67 .bool], [none], none, []⟩) none .none .none) .none) (.node none none .none (.node none none .none (.node none none .none (.node none none .none (.node none none .none (.node none none .none (.node none none .none (.node none none (.node none none (.node (some ⟨[.tmp 95 .bool], [none], none, []⟩) none .none .none) .none) .none))))))))))))))))))))
def laws_FnExactBear_c : Ct := .pure true false (.pair T_State (.pair T_Event .unit)) .bool (fun x => laws_FnExactBear x.1 x.2.1)
theorem laws_FnExactBear_ct : CtOk Try.prog 8 laws_FnExactBear_c := pure_ct (E := { T := tab, G := [(14, laws_szState_c), (16, laws_toState_fresh_c), (18, laws_eqState_c), (32, laws_toEvent_c), (34, laws_markState_c), (35, laws_heldState_c), (36, spec_Bear_fresh_c), (37, impl_Bear_fresh_c)] }) (EnvOk.cons laws_szState_ct (EnvOk.cons laws_toState_fresh_ct (EnvOk.cons laws_eqState_ct (EnvOk.cons laws_toEvent_ct (EnvOk.cons laws_markState_ct (EnvOk.cons laws_heldState_ct (EnvOk.cons spec_Bear_fresh_ct (EnvOk.cons impl_Bear_fresh_ct (EnvOk.nil tabOk))))))))) mixed (fn := Try.f8) _ _ _ _ _ laws_FnExactBear_h Try.func8 (by kernel_rfl) (fun x => by kernel_rfl)
/-! loop.example/g00486/spec.Strike -/
def spec_Strike (a0 : T_State.D) (a1 : T_Piece.D) (a2 : T_Event.D) : Option (T_State.D × (Int × Unit)) :=
(spec_l5Copy a0).bind fun y1 =>
(((spec_StateOk a0).bind fun y2 =>
 bif (!y2) then (
 some true)
 else (
(spec_EventOk a2).bind fun y3 =>
 bif (!y3) then (
 some true)
 else (
 some (a2.1 != 1)))) : Option Bool).bind fun o4 =>
 bif o4 then (
 some (y1, 0, ()))
 else (
(spec_HasTrait a1 2).bind fun y5 =>
((bif (a2.2.2.1 == 0) then (
 bif decide (a2.2.2.2.1 ≥ (a0.2.1.length : Int)) then (
 some (.inr ((0, y1))))
 else (
((bif y5 then (
 idx a0.2.1 a2.2.2.2.1 fun x6 =>
(spec_Plus x6.2.1 a2.2.2.2.2.1).bind fun y7 =>
 idx y1.2.1 a2.2.2.2.1 fun _ =>
(y1.2.1[(a2.2.2.2.1 : Int).toNat]?).bind fun x8 =>
 let u9 : (List T_Side.D) := y1.2.1.set (a2.2.2.2.1 : Int).toNat (x8.1, y7, x8.2.2)
 some (y1.1, u9, y1.2.2))
 else (
 idx a0.2.1 a2.2.2.2.1 fun x10 =>
(spec_Less x10.1 a2.2.2.2.2.1).bind fun y11 =>
 idx y1.2.1 a2.2.2.2.1 fun _ =>
(y1.2.1[(a2.2.2.2.1 : Int).toNat]?).bind fun x12 =>
 let u13 : (List T_Side.D) := y1.2.1.set (a2.2.2.2.1 : Int).toNat (y11, x12.2)
 some (y1.1, u13, y1.2.2))) : Option T_State.D).bind fun o14 =>
 some (.inl (([], [], 0, 0, ()), o14))))
 else (
(spec_PieceAt a0 a2.2.2.1).bind fun y15 =>
((bif decide (y15 < 0) then (
 some true)
 else (
 idx a0.1 y15 fun x16 =>
 some (x16.2.2.2.1 != 2))) : Option Bool).bind fun o17 =>
 bif o17 then (
 some (.inr ((0, y1))))
 else (
((bif y5 then (
 idx a0.1 y15 fun x18 =>
(spec_Plus x18.2.2.2.2.2.2.2.2.2.1 a2.2.2.2.2.1).bind fun y19 =>
 idx y1.1 y15 fun _ =>
(y1.1[(y15 : Int).toNat]?).bind fun x20 =>
 let u21 : (List T_Piece.D) := y1.1.set (y15 : Int).toNat (x20.1, x20.2.1, x20.2.2.1, x20.2.2.2.1, x20.2.2.2.2.1, x20.2.2.2.2.2.1, x20.2.2.2.2.2.2.1, x20.2.2.2.2.2.2.2.1, x20.2.2.2.2.2.2.2.2.1, y19, x20.2.2.2.2.2.2.2.2.2.2)
 some (u21, y1.2))
 else (
 idx a0.1 y15 fun x22 =>
(spec_Plus x22.2.2.2.2.2.2.2.2.2.2.1 a2.2.2.2.2.1).bind fun y23 =>
 idx y1.1 y15 fun _ =>
(y1.1[(y15 : Int).toNat]?).bind fun x24 =>
 let u25 : (List T_Piece.D) := y1.1.set (y15 : Int).toNat (x24.1, x24.2.1, x24.2.2.1, x24.2.2.2.1, x24.2.2.2.2.1, x24.2.2.2.2.2.1, x24.2.2.2.2.2.2.1, x24.2.2.2.2.2.2.2.1, x24.2.2.2.2.2.2.2.2.1, x24.2.2.2.2.2.2.2.2.2.1, y23, x24.2.2.2.2.2.2.2.2.2.2.2)
 some (u25, y1.2))) : Option T_State.D).bind fun o26 =>
(((spec_HasTrait a1 4).bind fun y27 =>
 bif y27 then (
 some (decide (a2.2.2.2.2.1 ≥ 1)))
 else (
 some false)) : Option Bool).bind fun o28 =>
((bif o28 then (
 idx o26.1 y15 fun _ =>
(o26.1[(y15 : Int).toNat]?).bind fun x29 =>
 let u30 : (List T_Piece.D) := o26.1.set (y15 : Int).toNat (x29.1, x29.2.1, x29.2.2.1, x29.2.2.2.1, x29.2.2.2.2.1, x29.2.2.2.2.2.1, x29.2.2.2.2.2.2.1, x29.2.2.2.2.2.2.2.1, x29.2.2.2.2.2.2.2.2.1, x29.2.2.2.2.2.2.2.2.2.1, x29.2.2.2.2.2.2.2.2.2.2.1, true, x29.2.2.2.2.2.2.2.2.2.2.2.2)
 some (u30, o26.2))
 else (
 some o26)) : Option T_State.D).bind fun o31 =>
 some (.inl (([], [], 0, 0, ()), o31))))) : Option ((T_State.D × ((List T_Piece.D) × ((List T_Side.D) × (Int × (Int × Unit))))) ⊕ (Int × ((List T_Piece.D) × ((List T_Side.D) × (Int × (Int × Unit))))))).bind fun o32 =>
 match o32 with
| .inl s33 => (
(((spec_HasTrait a1 1).bind fun y35 =>
 bif y35 then (
(spec_l1In a1.2.2.1 0 (IntKind.wrap .i64 ((a0.2.1.length : Int) - 1))).bind fun y36 =>
 some y36)
 else (
 some false)) : Option Bool).bind fun o37 =>
((bif o37 then (
 idx s33.2.2.1 a1.2.2.1 fun _ =>
(s33.2.2.1[(a1.2.2.1 : Int).toNat]?).bind fun x38 =>
(spec_Plus x38.1 a2.2.2.2.2.1).bind fun y39 =>
 idx s33.2.2.1 a1.2.2.1 fun _ =>
(s33.2.2.1[(a1.2.2.1 : Int).toNat]?).bind fun x40 =>
 let u41 : (List T_Side.D) := s33.2.2.1.set (a1.2.2.1 : Int).toNat (y39, x40.2)
 some (s33.2.1, u41, s33.2.2.2))
 else (
 some s33.2)) : Option T_State.D).bind fun o42 =>
 some (o42, a2.2.2.2.2.1, ()))
| .inr o34 => (
 some (o34.2, o34.1, ())))
def spec_Strike_h : Hints := (.node none none .none (.node none none .none (.node none none (.node none none (.node (some ⟨[.tmp 25 .bool], [none], none, []⟩) none .none .none) .none) (.node none none .none (.node none none (.node none none .none (.node (some ⟨[.boxO 6 0 1 T_State, .boxO 8 0 1 T_State], [none], some [.tmp 7 (.int .i64), .boxO 6 0 1 T_State], [(6, 0), (12, 1), (8, 0), (12, 0)]⟩) none (.node none none .none (.node none none .none (.node (some ⟨[.boxO 8 0 1 T_State], [none], none, [(12, 1), (8, 0), (12, 0)]⟩) none .none .none))) (.node none none .none (.node none none (.node none none (.node (some ⟨[.tmp 86 .bool], [none], none, []⟩) none .none .none) .none) (.node none none (.node none none .none (.node (some ⟨[.boxO 8 0 1 T_State], [none], none, [(12, 0), (8, 0), (12, 1)]⟩) none .none .none)) (.node none none (.node (some ⟨[.tmp 123 .bool], [none], none, []⟩) none .none .none) (.node (some ⟨[.boxO 8 0 3 T_State], [none], none, [(8, 1), (8, 0), (8, 2)]⟩) none .none .none))))))) (.node none none (.node none none (.node (some ⟨[.tmp 139 .bool], [none], none, []⟩) none .none .none) (.node (some ⟨[.boxO 8 0 3 T_State], [none], none, [(8, 2), (8, 0), (8, 1)]⟩) none .none .none)) .none))))))
def spec_Strike_c : Ct := .pure false false (.pair T_State (.pair T_Piece (.pair T_Event .unit))) (.pair T_State (.pair (.int .i64) .unit)) (fun x => spec_Strike x.1 x.2.1 x.2.2.1)
theorem spec_Strike_ct : CtOk Try.prog 38 spec_Strike_c := pure_ct (E := { T := tab, G := [(94, spec_l5Copy_fresh_c), (95, spec_PieceAt_c), (96, spec_StateOk_c), (97, spec_EventOk_c), (108, spec_Plus_c), (109, spec_Less_c), (114, spec_HasTrait_c), (115, spec_l1In_c)] }) (EnvOk.cons spec_l5Copy_fresh_ct (EnvOk.cons spec_PieceAt_ct (EnvOk.cons spec_StateOk_ct (EnvOk.cons spec_EventOk_ct (EnvOk.cons spec_Plus_ct (EnvOk.cons spec_Less_ct (EnvOk.cons spec_HasTrait_ct (EnvOk.cons spec_l1In_ct (EnvOk.nil tabOk))))))))) mixed (fn := Try.f38) _ _ _ _ _ spec_Strike_h Try.func38 (by kernel_rfl) (fun x => by kernel_rfl)
def spec_Strike_fresh_c : Ct := .pure false true (.pair T_State (.pair T_Piece (.pair T_Event .unit))) (.pair T_State (.pair (.int .i64) .unit)) (fun x => spec_Strike x.1 x.2.1 x.2.2.1)
theorem spec_Strike_fresh_ct : CtOk Try.prog 38 spec_Strike_fresh_c := pure_ct (E := { T := tab, G := [(94, spec_l5Copy_fresh_c), (95, spec_PieceAt_c), (96, spec_StateOk_c), (97, spec_EventOk_c), (108, spec_Plus_c), (109, spec_Less_c), (114, spec_HasTrait_c), (115, spec_l1In_c)] }) (EnvOk.cons spec_l5Copy_fresh_ct (EnvOk.cons spec_PieceAt_ct (EnvOk.cons spec_StateOk_ct (EnvOk.cons spec_EventOk_ct (EnvOk.cons spec_Plus_ct (EnvOk.cons spec_Less_ct (EnvOk.cons spec_HasTrait_ct (EnvOk.cons spec_l1In_ct (EnvOk.nil tabOk))))))))) mixed (fn := Try.f38) _ _ _ _ _ spec_Strike_h Try.func38 (by kernel_rfl) (fun x => by kernel_rfl)
/-! loop.example/g00486/impl.Strike -/
def impl_Strike (a0 : T_State.D) (a1 : T_Piece.D) (a2 : T_Event.D) : Option (T_State.D × (Int × Unit)) :=
(impl_copyState a0).bind fun y1 =>
(impl_StateOk y1).bind fun y2 =>
 bif (!y2) then (
 some (y1, 0, ()))
 else (
(impl_EventOk a2).bind fun y3 =>
 bif (!y3) then (
 some (y1, 0, ()))
 else (
 bif (a2.1 != 1) then (
 some (y1, 0, ()))
 else (
(impl_reaches y1 a2).bind fun y4 =>
 bif (!y4) then (
 some (y1, 0, ()))
 else (
(impl_HasTrait a1 2).bind fun y5 =>
 bif (a2.2.2.1 == 0) then (
 bif y5 then (
 idx y1.2.1 a2.2.2.2.1 fun _ =>
(y1.2.1[(a2.2.2.2.1 : Int).toNat]?).bind fun x6 =>
(impl_Plus x6.2.1 a2.2.2.2.2.1).bind fun y7 =>
 idx y1.2.1 a2.2.2.2.1 fun _ =>
(y1.2.1[(a2.2.2.2.1 : Int).toNat]?).bind fun x8 =>
 let u9 : (List T_Side.D) := y1.2.1.set (a2.2.2.2.1 : Int).toNat (x8.1, y7, x8.2.2)
(impl_HasTrait a1 1).bind fun y10 =>
 bif y10 then (
(impl_isSide (y1.1, u9, y1.2.2) a1.2.2.1).bind fun y11 =>
 bif y11 then (
 idx u9 a1.2.2.1 fun _ =>
(u9[(a1.2.2.1 : Int).toNat]?).bind fun x12 =>
(impl_Plus x12.1 a2.2.2.2.2.1).bind fun y13 =>
 idx u9 a1.2.2.1 fun _ =>
(u9[(a1.2.2.1 : Int).toNat]?).bind fun x14 =>
 let u15 : (List T_Side.D) := u9.set (a1.2.2.1 : Int).toNat (y13, x14.2)
 some ((y1.1, u15, y1.2.2), a2.2.2.2.2.1, ()))
 else (
 some ((y1.1, u9, y1.2.2), a2.2.2.2.2.1, ())))
 else (
 some ((y1.1, u9, y1.2.2), a2.2.2.2.2.1, ())))
 else (
 bif (a2.2.2.1 == 0) then (
 idx y1.2.1 a2.2.2.2.1 fun _ =>
(y1.2.1[(a2.2.2.2.1 : Int).toNat]?).bind fun x16 =>
(impl_Less x16.1 a2.2.2.2.2.1).bind fun y17 =>
 idx y1.2.1 a2.2.2.2.1 fun _ =>
(y1.2.1[(a2.2.2.2.1 : Int).toNat]?).bind fun x18 =>
 let u19 : (List T_Side.D) := y1.2.1.set (a2.2.2.2.1 : Int).toNat (y17, x18.2)
(impl_HasTrait a1 1).bind fun y20 =>
 bif y20 then (
(impl_isSide (y1.1, u19, y1.2.2) a1.2.2.1).bind fun y21 =>
 bif y21 then (
 idx u19 a1.2.2.1 fun _ =>
(u19[(a1.2.2.1 : Int).toNat]?).bind fun x22 =>
(impl_Plus x22.1 a2.2.2.2.2.1).bind fun y23 =>
 idx u19 a1.2.2.1 fun _ =>
(u19[(a1.2.2.1 : Int).toNat]?).bind fun x24 =>
 let u25 : (List T_Side.D) := u19.set (a1.2.2.1 : Int).toNat (y23, x24.2)
 some ((y1.1, u25, y1.2.2), a2.2.2.2.2.1, ()))
 else (
 some ((y1.1, u19, y1.2.2), a2.2.2.2.2.1, ())))
 else (
 some ((y1.1, u19, y1.2.2), a2.2.2.2.2.1, ())))
 else (
(impl_fieldAt y1 a2.2.2.1).bind fun y26 =>
 idx y1.1 y26 fun _ =>
 bif y5 then (
(y1.1[(y26 : Int).toNat]?).bind fun x27 =>
(impl_Plus x27.2.2.2.2.2.2.2.2.2.1 a2.2.2.2.2.1).bind fun y28 =>
(y1.1[(y26 : Int).toNat]?).bind fun x29 =>
 let u30 : (List T_Piece.D) := y1.1.set (y26 : Int).toNat (x29.1, x29.2.1, x29.2.2.1, x29.2.2.2.1, x29.2.2.2.2.1, x29.2.2.2.2.2.1, x29.2.2.2.2.2.2.1, x29.2.2.2.2.2.2.2.1, x29.2.2.2.2.2.2.2.2.1, y28, x29.2.2.2.2.2.2.2.2.2.2)
(u30[(y26 : Int).toNat]?).bind fun x31 =>
 bif x31.2.2.2.2.2.2.2.2.2.2.2.1 then (
(u30[(y26 : Int).toNat]?).bind fun x32 =>
 let u33 : (List T_Piece.D) := u30.set (y26 : Int).toNat (x32.1, x32.2.1, x32.2.2.1, x32.2.2.2.1, x32.2.2.2.2.1, x32.2.2.2.2.2.1, x32.2.2.2.2.2.2.1, x32.2.2.2.2.2.2.2.1, x32.2.2.2.2.2.2.2.2.1, x32.2.2.2.2.2.2.2.2.2.1, x32.2.2.2.2.2.2.2.2.2.2.1, true, x32.2.2.2.2.2.2.2.2.2.2.2.2)
(impl_HasTrait a1 1).bind fun y34 =>
 bif y34 then (
(impl_isSide (u33, y1.2) a1.2.2.1).bind fun y35 =>
 bif y35 then (
 idx y1.2.1 a1.2.2.1 fun _ =>
(y1.2.1[(a1.2.2.1 : Int).toNat]?).bind fun x36 =>
(impl_Plus x36.1 a2.2.2.2.2.1).bind fun y37 =>
 idx y1.2.1 a1.2.2.1 fun _ =>
(y1.2.1[(a1.2.2.1 : Int).toNat]?).bind fun x38 =>
 let u39 : (List T_Side.D) := y1.2.1.set (a1.2.2.1 : Int).toNat (y37, x38.2)
 some ((u33, u39, y1.2.2), a2.2.2.2.2.1, ()))
 else (
 some ((u33, y1.2), a2.2.2.2.2.1, ())))
 else (
 some ((u33, y1.2), a2.2.2.2.2.1, ())))
 else (
(impl_HasTrait a1 4).bind fun y40 =>
 bif y40 then (
(u30[(y26 : Int).toNat]?).bind fun x41 =>
 let u42 : (List T_Piece.D) := u30.set (y26 : Int).toNat (x41.1, x41.2.1, x41.2.2.1, x41.2.2.2.1, x41.2.2.2.2.1, x41.2.2.2.2.2.1, x41.2.2.2.2.2.2.1, x41.2.2.2.2.2.2.2.1, x41.2.2.2.2.2.2.2.2.1, x41.2.2.2.2.2.2.2.2.2.1, x41.2.2.2.2.2.2.2.2.2.2.1, decide (a2.2.2.2.2.1 ≥ 1), x41.2.2.2.2.2.2.2.2.2.2.2.2)
(impl_HasTrait a1 1).bind fun y43 =>
 bif y43 then (
(impl_isSide (u42, y1.2) a1.2.2.1).bind fun y44 =>
 bif y44 then (
 idx y1.2.1 a1.2.2.1 fun _ =>
(y1.2.1[(a1.2.2.1 : Int).toNat]?).bind fun x45 =>
(impl_Plus x45.1 a2.2.2.2.2.1).bind fun y46 =>
 idx y1.2.1 a1.2.2.1 fun _ =>
(y1.2.1[(a1.2.2.1 : Int).toNat]?).bind fun x47 =>
 let u48 : (List T_Side.D) := y1.2.1.set (a1.2.2.1 : Int).toNat (y46, x47.2)
 some ((u42, u48, y1.2.2), a2.2.2.2.2.1, ()))
 else (
 some ((u42, y1.2), a2.2.2.2.2.1, ())))
 else (
 some ((u42, y1.2), a2.2.2.2.2.1, ())))
 else (
(u30[(y26 : Int).toNat]?).bind fun x49 =>
 let u50 : (List T_Piece.D) := u30.set (y26 : Int).toNat (x49.1, x49.2.1, x49.2.2.1, x49.2.2.2.1, x49.2.2.2.2.1, x49.2.2.2.2.2.1, x49.2.2.2.2.2.2.1, x49.2.2.2.2.2.2.2.1, x49.2.2.2.2.2.2.2.2.1, x49.2.2.2.2.2.2.2.2.2.1, x49.2.2.2.2.2.2.2.2.2.2.1, false, x49.2.2.2.2.2.2.2.2.2.2.2.2)
(impl_HasTrait a1 1).bind fun y51 =>
 bif y51 then (
(impl_isSide (u50, y1.2) a1.2.2.1).bind fun y52 =>
 bif y52 then (
 idx y1.2.1 a1.2.2.1 fun _ =>
(y1.2.1[(a1.2.2.1 : Int).toNat]?).bind fun x53 =>
(impl_Plus x53.1 a2.2.2.2.2.1).bind fun y54 =>
 idx y1.2.1 a1.2.2.1 fun _ =>
(y1.2.1[(a1.2.2.1 : Int).toNat]?).bind fun x55 =>
 let u56 : (List T_Side.D) := y1.2.1.set (a1.2.2.1 : Int).toNat (y54, x55.2)
 some ((u50, u56, y1.2.2), a2.2.2.2.2.1, ()))
 else (
 some ((u50, y1.2), a2.2.2.2.2.1, ())))
 else (
 some ((u50, y1.2), a2.2.2.2.2.1, ())))))
 else (
(y1.1[(y26 : Int).toNat]?).bind fun x57 =>
(impl_Plus x57.2.2.2.2.2.2.2.2.2.2.1 a2.2.2.2.2.1).bind fun y58 =>
(y1.1[(y26 : Int).toNat]?).bind fun x59 =>
 let u60 : (List T_Piece.D) := y1.1.set (y26 : Int).toNat (x59.1, x59.2.1, x59.2.2.1, x59.2.2.2.1, x59.2.2.2.2.1, x59.2.2.2.2.2.1, x59.2.2.2.2.2.2.1, x59.2.2.2.2.2.2.2.1, x59.2.2.2.2.2.2.2.2.1, x59.2.2.2.2.2.2.2.2.2.1, y58, x59.2.2.2.2.2.2.2.2.2.2.2)
(u60[(y26 : Int).toNat]?).bind fun x61 =>
 bif x61.2.2.2.2.2.2.2.2.2.2.2.1 then (
(u60[(y26 : Int).toNat]?).bind fun x62 =>
 let u63 : (List T_Piece.D) := u60.set (y26 : Int).toNat (x62.1, x62.2.1, x62.2.2.1, x62.2.2.2.1, x62.2.2.2.2.1, x62.2.2.2.2.2.1, x62.2.2.2.2.2.2.1, x62.2.2.2.2.2.2.2.1, x62.2.2.2.2.2.2.2.2.1, x62.2.2.2.2.2.2.2.2.2.1, x62.2.2.2.2.2.2.2.2.2.2.1, true, x62.2.2.2.2.2.2.2.2.2.2.2.2)
(impl_HasTrait a1 1).bind fun y64 =>
 bif y64 then (
(impl_isSide (u63, y1.2) a1.2.2.1).bind fun y65 =>
 bif y65 then (
 idx y1.2.1 a1.2.2.1 fun _ =>
(y1.2.1[(a1.2.2.1 : Int).toNat]?).bind fun x66 =>
(impl_Plus x66.1 a2.2.2.2.2.1).bind fun y67 =>
 idx y1.2.1 a1.2.2.1 fun _ =>
(y1.2.1[(a1.2.2.1 : Int).toNat]?).bind fun x68 =>
 let u69 : (List T_Side.D) := y1.2.1.set (a1.2.2.1 : Int).toNat (y67, x68.2)
 some ((u63, u69, y1.2.2), a2.2.2.2.2.1, ()))
 else (
 some ((u63, y1.2), a2.2.2.2.2.1, ())))
 else (
 some ((u63, y1.2), a2.2.2.2.2.1, ())))
 else (
(impl_HasTrait a1 4).bind fun y70 =>
 bif y70 then (
(u60[(y26 : Int).toNat]?).bind fun x71 =>
 let u72 : (List T_Piece.D) := u60.set (y26 : Int).toNat (x71.1, x71.2.1, x71.2.2.1, x71.2.2.2.1, x71.2.2.2.2.1, x71.2.2.2.2.2.1, x71.2.2.2.2.2.2.1, x71.2.2.2.2.2.2.2.1, x71.2.2.2.2.2.2.2.2.1, x71.2.2.2.2.2.2.2.2.2.1, x71.2.2.2.2.2.2.2.2.2.2.1, decide (a2.2.2.2.2.1 ≥ 1), x71.2.2.2.2.2.2.2.2.2.2.2.2)
(impl_HasTrait a1 1).bind fun y73 =>
 bif y73 then (
(impl_isSide (u72, y1.2) a1.2.2.1).bind fun y74 =>
 bif y74 then (
 idx y1.2.1 a1.2.2.1 fun _ =>
(y1.2.1[(a1.2.2.1 : Int).toNat]?).bind fun x75 =>
(impl_Plus x75.1 a2.2.2.2.2.1).bind fun y76 =>
 idx y1.2.1 a1.2.2.1 fun _ =>
(y1.2.1[(a1.2.2.1 : Int).toNat]?).bind fun x77 =>
 let u78 : (List T_Side.D) := y1.2.1.set (a1.2.2.1 : Int).toNat (y76, x77.2)
 some ((u72, u78, y1.2.2), a2.2.2.2.2.1, ()))
 else (
 some ((u72, y1.2), a2.2.2.2.2.1, ())))
 else (
 some ((u72, y1.2), a2.2.2.2.2.1, ())))
 else (
(u60[(y26 : Int).toNat]?).bind fun x79 =>
 let u80 : (List T_Piece.D) := u60.set (y26 : Int).toNat (x79.1, x79.2.1, x79.2.2.1, x79.2.2.2.1, x79.2.2.2.2.1, x79.2.2.2.2.2.1, x79.2.2.2.2.2.2.1, x79.2.2.2.2.2.2.2.1, x79.2.2.2.2.2.2.2.2.1, x79.2.2.2.2.2.2.2.2.2.1, x79.2.2.2.2.2.2.2.2.2.2.1, false, x79.2.2.2.2.2.2.2.2.2.2.2.2)
(impl_HasTrait a1 1).bind fun y81 =>
 bif y81 then (
(impl_isSide (u80, y1.2) a1.2.2.1).bind fun y82 =>
 bif y82 then (
 idx y1.2.1 a1.2.2.1 fun _ =>
(y1.2.1[(a1.2.2.1 : Int).toNat]?).bind fun x83 =>
(impl_Plus x83.1 a2.2.2.2.2.1).bind fun y84 =>
 idx y1.2.1 a1.2.2.1 fun _ =>
(y1.2.1[(a1.2.2.1 : Int).toNat]?).bind fun x85 =>
 let u86 : (List T_Side.D) := y1.2.1.set (a1.2.2.1 : Int).toNat (y84, x85.2)
 some ((u80, u86, y1.2.2), a2.2.2.2.2.1, ()))
 else (
 some ((u80, y1.2), a2.2.2.2.2.1, ())))
 else (
 some ((u80, y1.2), a2.2.2.2.2.1, ()))))))))
 else (
 bif (a2.2.2.1 == 0) then (
 idx y1.2.1 a2.2.2.2.1 fun _ =>
(y1.2.1[(a2.2.2.2.1 : Int).toNat]?).bind fun x87 =>
(impl_Less x87.1 a2.2.2.2.2.1).bind fun y88 =>
 idx y1.2.1 a2.2.2.2.1 fun _ =>
(y1.2.1[(a2.2.2.2.1 : Int).toNat]?).bind fun x89 =>
 let u90 : (List T_Side.D) := y1.2.1.set (a2.2.2.2.1 : Int).toNat (y88, x89.2)
(impl_HasTrait a1 1).bind fun y91 =>
 bif y91 then (
(impl_isSide (y1.1, u90, y1.2.2) a1.2.2.1).bind fun y92 =>
 bif y92 then (
 idx u90 a1.2.2.1 fun _ =>
(u90[(a1.2.2.1 : Int).toNat]?).bind fun x93 =>
(impl_Plus x93.1 a2.2.2.2.2.1).bind fun y94 =>
 idx u90 a1.2.2.1 fun _ =>
(u90[(a1.2.2.1 : Int).toNat]?).bind fun x95 =>
 let u96 : (List T_Side.D) := u90.set (a1.2.2.1 : Int).toNat (y94, x95.2)
 some ((y1.1, u96, y1.2.2), a2.2.2.2.2.1, ()))
 else (
 some ((y1.1, u90, y1.2.2), a2.2.2.2.2.1, ())))
 else (
 some ((y1.1, u90, y1.2.2), a2.2.2.2.2.1, ())))
 else (
(impl_fieldAt y1 a2.2.2.1).bind fun y97 =>
 idx y1.1 y97 fun _ =>
 bif y5 then (
(y1.1[(y97 : Int).toNat]?).bind fun x98 =>
(impl_Plus x98.2.2.2.2.2.2.2.2.2.1 a2.2.2.2.2.1).bind fun y99 =>
(y1.1[(y97 : Int).toNat]?).bind fun x100 =>
 let u101 : (List T_Piece.D) := y1.1.set (y97 : Int).toNat (x100.1, x100.2.1, x100.2.2.1, x100.2.2.2.1, x100.2.2.2.2.1, x100.2.2.2.2.2.1, x100.2.2.2.2.2.2.1, x100.2.2.2.2.2.2.2.1, x100.2.2.2.2.2.2.2.2.1, y99, x100.2.2.2.2.2.2.2.2.2.2)
(u101[(y97 : Int).toNat]?).bind fun x102 =>
 bif x102.2.2.2.2.2.2.2.2.2.2.2.1 then (
(u101[(y97 : Int).toNat]?).bind fun x103 =>
 let u104 : (List T_Piece.D) := u101.set (y97 : Int).toNat (x103.1, x103.2.1, x103.2.2.1, x103.2.2.2.1, x103.2.2.2.2.1, x103.2.2.2.2.2.1, x103.2.2.2.2.2.2.1, x103.2.2.2.2.2.2.2.1, x103.2.2.2.2.2.2.2.2.1, x103.2.2.2.2.2.2.2.2.2.1, x103.2.2.2.2.2.2.2.2.2.2.1, true, x103.2.2.2.2.2.2.2.2.2.2.2.2)
(impl_HasTrait a1 1).bind fun y105 =>
 bif y105 then (
(impl_isSide (u104, y1.2) a1.2.2.1).bind fun y106 =>
 bif y106 then (
 idx y1.2.1 a1.2.2.1 fun _ =>
(y1.2.1[(a1.2.2.1 : Int).toNat]?).bind fun x107 =>
(impl_Plus x107.1 a2.2.2.2.2.1).bind fun y108 =>
 idx y1.2.1 a1.2.2.1 fun _ =>
(y1.2.1[(a1.2.2.1 : Int).toNat]?).bind fun x109 =>
 let u110 : (List T_Side.D) := y1.2.1.set (a1.2.2.1 : Int).toNat (y108, x109.2)
 some ((u104, u110, y1.2.2), a2.2.2.2.2.1, ()))
 else (
 some ((u104, y1.2), a2.2.2.2.2.1, ())))
 else (
 some ((u104, y1.2), a2.2.2.2.2.1, ())))
 else (
(impl_HasTrait a1 4).bind fun y111 =>
 bif y111 then (
(u101[(y97 : Int).toNat]?).bind fun x112 =>
 let u113 : (List T_Piece.D) := u101.set (y97 : Int).toNat (x112.1, x112.2.1, x112.2.2.1, x112.2.2.2.1, x112.2.2.2.2.1, x112.2.2.2.2.2.1, x112.2.2.2.2.2.2.1, x112.2.2.2.2.2.2.2.1, x112.2.2.2.2.2.2.2.2.1, x112.2.2.2.2.2.2.2.2.2.1, x112.2.2.2.2.2.2.2.2.2.2.1, decide (a2.2.2.2.2.1 ≥ 1), x112.2.2.2.2.2.2.2.2.2.2.2.2)
(impl_HasTrait a1 1).bind fun y114 =>
 bif y114 then (
(impl_isSide (u113, y1.2) a1.2.2.1).bind fun y115 =>
 bif y115 then (
 idx y1.2.1 a1.2.2.1 fun _ =>
(y1.2.1[(a1.2.2.1 : Int).toNat]?).bind fun x116 =>
(impl_Plus x116.1 a2.2.2.2.2.1).bind fun y117 =>
 idx y1.2.1 a1.2.2.1 fun _ =>
(y1.2.1[(a1.2.2.1 : Int).toNat]?).bind fun x118 =>
 let u119 : (List T_Side.D) := y1.2.1.set (a1.2.2.1 : Int).toNat (y117, x118.2)
 some ((u113, u119, y1.2.2), a2.2.2.2.2.1, ()))
 else (
 some ((u113, y1.2), a2.2.2.2.2.1, ())))
 else (
 some ((u113, y1.2), a2.2.2.2.2.1, ())))
 else (
(u101[(y97 : Int).toNat]?).bind fun x120 =>
 let u121 : (List T_Piece.D) := u101.set (y97 : Int).toNat (x120.1, x120.2.1, x120.2.2.1, x120.2.2.2.1, x120.2.2.2.2.1, x120.2.2.2.2.2.1, x120.2.2.2.2.2.2.1, x120.2.2.2.2.2.2.2.1, x120.2.2.2.2.2.2.2.2.1, x120.2.2.2.2.2.2.2.2.2.1, x120.2.2.2.2.2.2.2.2.2.2.1, false, x120.2.2.2.2.2.2.2.2.2.2.2.2)
(impl_HasTrait a1 1).bind fun y122 =>
 bif y122 then (
(impl_isSide (u121, y1.2) a1.2.2.1).bind fun y123 =>
 bif y123 then (
 idx y1.2.1 a1.2.2.1 fun _ =>
(y1.2.1[(a1.2.2.1 : Int).toNat]?).bind fun x124 =>
(impl_Plus x124.1 a2.2.2.2.2.1).bind fun y125 =>
 idx y1.2.1 a1.2.2.1 fun _ =>
(y1.2.1[(a1.2.2.1 : Int).toNat]?).bind fun x126 =>
 let u127 : (List T_Side.D) := y1.2.1.set (a1.2.2.1 : Int).toNat (y125, x126.2)
 some ((u121, u127, y1.2.2), a2.2.2.2.2.1, ()))
 else (
 some ((u121, y1.2), a2.2.2.2.2.1, ())))
 else (
 some ((u121, y1.2), a2.2.2.2.2.1, ())))))
 else (
(y1.1[(y97 : Int).toNat]?).bind fun x128 =>
(impl_Plus x128.2.2.2.2.2.2.2.2.2.2.1 a2.2.2.2.2.1).bind fun y129 =>
(y1.1[(y97 : Int).toNat]?).bind fun x130 =>
 let u131 : (List T_Piece.D) := y1.1.set (y97 : Int).toNat (x130.1, x130.2.1, x130.2.2.1, x130.2.2.2.1, x130.2.2.2.2.1, x130.2.2.2.2.2.1, x130.2.2.2.2.2.2.1, x130.2.2.2.2.2.2.2.1, x130.2.2.2.2.2.2.2.2.1, x130.2.2.2.2.2.2.2.2.2.1, y129, x130.2.2.2.2.2.2.2.2.2.2.2)
(u131[(y97 : Int).toNat]?).bind fun x132 =>
 bif x132.2.2.2.2.2.2.2.2.2.2.2.1 then (
(u131[(y97 : Int).toNat]?).bind fun x133 =>
 let u134 : (List T_Piece.D) := u131.set (y97 : Int).toNat (x133.1, x133.2.1, x133.2.2.1, x133.2.2.2.1, x133.2.2.2.2.1, x133.2.2.2.2.2.1, x133.2.2.2.2.2.2.1, x133.2.2.2.2.2.2.2.1, x133.2.2.2.2.2.2.2.2.1, x133.2.2.2.2.2.2.2.2.2.1, x133.2.2.2.2.2.2.2.2.2.2.1, true, x133.2.2.2.2.2.2.2.2.2.2.2.2)
(impl_HasTrait a1 1).bind fun y135 =>
 bif y135 then (
(impl_isSide (u134, y1.2) a1.2.2.1).bind fun y136 =>
 bif y136 then (
 idx y1.2.1 a1.2.2.1 fun _ =>
(y1.2.1[(a1.2.2.1 : Int).toNat]?).bind fun x137 =>
(impl_Plus x137.1 a2.2.2.2.2.1).bind fun y138 =>
 idx y1.2.1 a1.2.2.1 fun _ =>
(y1.2.1[(a1.2.2.1 : Int).toNat]?).bind fun x139 =>
 let u140 : (List T_Side.D) := y1.2.1.set (a1.2.2.1 : Int).toNat (y138, x139.2)
 some ((u134, u140, y1.2.2), a2.2.2.2.2.1, ()))
 else (
 some ((u134, y1.2), a2.2.2.2.2.1, ())))
 else (
 some ((u134, y1.2), a2.2.2.2.2.1, ())))
 else (
(impl_HasTrait a1 4).bind fun y141 =>
 bif y141 then (
(u131[(y97 : Int).toNat]?).bind fun x142 =>
 let u143 : (List T_Piece.D) := u131.set (y97 : Int).toNat (x142.1, x142.2.1, x142.2.2.1, x142.2.2.2.1, x142.2.2.2.2.1, x142.2.2.2.2.2.1, x142.2.2.2.2.2.2.1, x142.2.2.2.2.2.2.2.1, x142.2.2.2.2.2.2.2.2.1, x142.2.2.2.2.2.2.2.2.2.1, x142.2.2.2.2.2.2.2.2.2.2.1, decide (a2.2.2.2.2.1 ≥ 1), x142.2.2.2.2.2.2.2.2.2.2.2.2)
(impl_HasTrait a1 1).bind fun y144 =>
 bif y144 then (
(impl_isSide (u143, y1.2) a1.2.2.1).bind fun y145 =>
 bif y145 then (
 idx y1.2.1 a1.2.2.1 fun _ =>
(y1.2.1[(a1.2.2.1 : Int).toNat]?).bind fun x146 =>
(impl_Plus x146.1 a2.2.2.2.2.1).bind fun y147 =>
 idx y1.2.1 a1.2.2.1 fun _ =>
(y1.2.1[(a1.2.2.1 : Int).toNat]?).bind fun x148 =>
 let u149 : (List T_Side.D) := y1.2.1.set (a1.2.2.1 : Int).toNat (y147, x148.2)
 some ((u143, u149, y1.2.2), a2.2.2.2.2.1, ()))
 else (
 some ((u143, y1.2), a2.2.2.2.2.1, ())))
 else (
 some ((u143, y1.2), a2.2.2.2.2.1, ())))
 else (
(u131[(y97 : Int).toNat]?).bind fun x150 =>
 let u151 : (List T_Piece.D) := u131.set (y97 : Int).toNat (x150.1, x150.2.1, x150.2.2.1, x150.2.2.2.1, x150.2.2.2.2.1, x150.2.2.2.2.2.1, x150.2.2.2.2.2.2.1, x150.2.2.2.2.2.2.2.1, x150.2.2.2.2.2.2.2.2.1, x150.2.2.2.2.2.2.2.2.2.1, x150.2.2.2.2.2.2.2.2.2.2.1, false, x150.2.2.2.2.2.2.2.2.2.2.2.2)
(impl_HasTrait a1 1).bind fun y152 =>
 bif y152 then (
(impl_isSide (u151, y1.2) a1.2.2.1).bind fun y153 =>
 bif y153 then (
 idx y1.2.1 a1.2.2.1 fun _ =>
(y1.2.1[(a1.2.2.1 : Int).toNat]?).bind fun x154 =>
(impl_Plus x154.1 a2.2.2.2.2.1).bind fun y155 =>
 idx y1.2.1 a1.2.2.1 fun _ =>
(y1.2.1[(a1.2.2.1 : Int).toNat]?).bind fun x156 =>
 let u157 : (List T_Side.D) := y1.2.1.set (a1.2.2.1 : Int).toNat (y155, x156.2)
 some ((u151, u157, y1.2.2), a2.2.2.2.2.1, ()))
 else (
 some ((u151, y1.2), a2.2.2.2.2.1, ())))
 else (
 some ((u151, y1.2), a2.2.2.2.2.1, ())))))))))))
def impl_Strike_c : Ct := .pure false false (.pair T_State (.pair T_Piece (.pair T_Event .unit))) (.pair T_State (.pair (.int .i64) .unit)) (fun x => impl_Strike x.1 x.2.1 x.2.2.1)
theorem impl_Strike_ct : CtOk Try.prog 40 impl_Strike_c := pure_ct (E := { T := tab, G := [(99, impl_copyState_fresh_c), (101, impl_StateOk_c), (102, impl_EventOk_c), (110, impl_reaches_c), (111, impl_Plus_c), (112, impl_Less_c), (113, impl_fieldAt_c), (116, impl_HasTrait_c), (117, impl_isSide_c)] }) (EnvOk.cons impl_copyState_fresh_ct (EnvOk.cons impl_StateOk_ct (EnvOk.cons impl_EventOk_ct (EnvOk.cons impl_reaches_ct (EnvOk.cons impl_Plus_ct (EnvOk.cons impl_Less_ct (EnvOk.cons impl_fieldAt_ct (EnvOk.cons impl_HasTrait_ct (EnvOk.cons impl_isSide_ct (EnvOk.nil tabOk)))))))))) mixed (fn := Try.f40) _ _ _ _ _ .none Try.func40 (by kernel_rfl) (fun x => by kernel_rfl)
def impl_Strike_fresh_c : Ct := .pure false true (.pair T_State (.pair T_Piece (.pair T_Event .unit))) (.pair T_State (.pair (.int .i64) .unit)) (fun x => impl_Strike x.1 x.2.1 x.2.2.1)
theorem impl_Strike_fresh_ct : CtOk Try.prog 40 impl_Strike_fresh_c := pure_ct (E := { T := tab, G := [(99, impl_copyState_fresh_c), (101, impl_StateOk_c), (102, impl_EventOk_c), (110, impl_reaches_c), (111, impl_Plus_c), (112, impl_Less_c), (113, impl_fieldAt_c), (116, impl_HasTrait_c), (117, impl_isSide_c)] }) (EnvOk.cons impl_copyState_fresh_ct (EnvOk.cons impl_StateOk_ct (EnvOk.cons impl_EventOk_ct (EnvOk.cons impl_reaches_ct (EnvOk.cons impl_Plus_ct (EnvOk.cons impl_Less_ct (EnvOk.cons impl_fieldAt_ct (EnvOk.cons impl_HasTrait_ct (EnvOk.cons impl_isSide_ct (EnvOk.nil tabOk)))))))))) mixed (fn := Try.f40) _ _ _ _ _ .none Try.func40 (by kernel_rfl) (fun x => by kernel_rfl)
/-! loop.example/g00486/laws.FnExactStrike -/
def laws_FnExactStrike (a0 : T_State.D) (a1 : T_Piece.D) (a2 : T_Event.D) : Option Bool :=
(laws_szState a0 1048576).bind fun y1 =>
 bif decide (y1 < 0) then (
 some true)
 else (
(laws_toState a0).bind fun y2 =>
(laws_toPiece a1).bind fun y3 =>
(laws_toEvent a2).bind fun y4 =>
(spec_Strike y2 y3 y4).bind fun y5 =>
(laws_toState a0).bind fun y6 =>
(laws_toPiece a1).bind fun y7 =>
(laws_toEvent a2).bind fun y8 =>
(impl_Strike y6 y7 y8).bind fun y9 =>
(((laws_eqState y9.1 y5.1).bind fun y10 =>
 bif (!y10) then (
 some true)
 else (
 some (y9.2.1 != y5.2.1))) : Option Bool).bind fun o11 =>
 bif o11 then (
 some false)
 else (
(laws_toState a0).bind fun y12 =>
(laws_eqState y6 y12).bind fun y13 =>
 bif (!y13) then (
 some false)
 else (
(laws_markState y6 1).bind fun y14 =>
((bif decide (y14.1 < 0) then (
 some true)
 else (
(laws_eqState y9.1 y5.1).bind fun y15 =>
 bif (!y15) then (
 some true)
 else (
 some (y9.2.1 != y5.2.1)))) : Option Bool).bind fun o16 =>
 bif o16 then (
 some false)
 else (
(laws_markState y9.1 1).bind fun y17 =>
(laws_heldState (y17.2.1.1, y17.2.1.2.1, y9.1.2.2) 1).bind fun y18 =>
 bif decide (y18 < 0) then (
 some false)
 else (
 bif (y18 != y17.1) then (
 some false)
 else (
(laws_toState a0).bind fun y19 =>
(laws_toPiece a1).bind fun y20 =>
(laws_toEvent a2).bind fun y21 =>
(impl_Strike y19 y20 y21).bind fun y22 =>
(((laws_eqState y22.1 y5.1).bind fun y23 =>
 bif (!y23) then (
 some true)
 else (
 some (y22.2.1 != y5.2.1))) : Option Bool).bind fun o24 =>
 bif o24 then (
 some false)
 else (
(laws_heldState (y17.2.1.1, y17.2.1.2.1, y9.1.2.2) 1).bind fun y25 =>
 bif decide (y25 < 0) then (
 some false)
 else (
 bif (y25 != y17.1) then (
 some false)
 else (
 some true)))))))))
def laws_FnExactStrike_h : Hints := (.node none none .none (.node none none .none (.node none none .none (.node none none .none (.node none none .none (.node none none .none (.node none none .none (.node none none (.node none none (.node (some ⟨[.tmp 52 .bool], [none], none, []⟩) none .none .none) .none) (.node none none .none (.node none none .none (.node none none .none (.node none none (.node none none (.node (some ⟨[.tmp 73 .bool], [none], none, []⟩) none .none .none) .none) (.node none none .none (.node none none .none (.node none none .none (.node none none .none (.node none none .none (.node none none .none (.node none none .none (.node none none (.node none none (.node (some ⟨[.tmp 103 .bool], [none], none, []⟩) none .none .none) .none) .none))))))))))))))))))))
def laws_FnExactStrike_c : Ct := .pure true false (.pair T_State (.pair T_Piece (.pair T_Event .unit))) .bool (fun x => laws_FnExactStrike x.1 x.2.1 x.2.2.1)
theorem laws_FnExactStrike_ct : CtOk Try.prog 9 laws_FnExactStrike_c := pure_ct (E := { T := tab, G := [(14, laws_szState_c), (16, laws_toState_fresh_c), (18, laws_eqState_c), (32, laws_toEvent_c), (34, laws_markState_c), (35, laws_heldState_c), (38, spec_Strike_fresh_c), (39, laws_toPiece_c), (40, impl_Strike_fresh_c)] }) (EnvOk.cons laws_szState_ct (EnvOk.cons laws_toState_fresh_ct (EnvOk.cons laws_eqState_ct (EnvOk.cons laws_toEvent_ct (EnvOk.cons laws_markState_ct (EnvOk.cons laws_heldState_ct (EnvOk.cons spec_Strike_fresh_ct (EnvOk.cons laws_toPiece_ct (EnvOk.cons impl_Strike_fresh_ct (EnvOk.nil tabOk)))))))))) mixed (fn := Try.f9) _ _ _ _ _ laws_FnExactStrike_h Try.func9 (by kernel_rfl) (fun x => by kernel_rfl)
/-! loop.example/g00486/laws.eqEvent -/
def laws_eqEvent (a0 : T_Event.D) (a1 : T_Event.D) : Option Bool :=
 bif (a0.1 != a1.1) then (
 some false)
 else (
 bif (a0.2.1 != a1.2.1) then (
 some false)
 else (
 bif (a0.2.2.1 != a1.2.2.1) then (
 some false)
 else (
 bif (a0.2.2.2.1 != a1.2.2.2.1) then (
 some false)
 else (
 bif (a0.2.2.2.2.1 != a1.2.2.2.2.1) then (
 some false)
 else (
 bif (a0.2.2.2.2.2.1 != a1.2.2.2.2.2.1) then (
 some false)
 else (
 bif (a0.2.2.2.2.2.2.1 != a1.2.2.2.2.2.2.1) then (
 some false)
 else (
 some true)))))))
def laws_eqEvent_c : Ct := .pure true false (.pair T_Event (.pair T_Event .unit)) .bool (fun x => laws_eqEvent x.1 x.2.1)
theorem laws_eqEvent_ct : CtOk Try.prog 148 laws_eqEvent_c := pure_ct (E := { T := tab, G := [] }) (EnvOk.nil tabOk) mixed (fn := Try.f148) _ _ _ _ _ .none Try.func148 (by kernel_rfl) (fun x => by kernel_rfl)
/-! loop.example/g00486/laws.eqNote -/
def laws_eqNote (a0 : T_Note.D) (a1 : T_Note.D) : Option Bool :=
 bif (a0.1 != a1.1) then (
 some false)
 else (
(laws_eqEvent a0.2.1 a1.2.1).bind fun y1 =>
 bif (!y1) then (
 some false)
 else (
 bif (a0.2.2.1 != a1.2.2.1) then (
 some false)
 else (
 bif (a0.2.2.2.1 != a1.2.2.2.1) then (
 some false)
 else (
(laws_eqPiece a0.2.2.2.2.1 a1.2.2.2.2.1).bind fun y2 =>
 bif (!y2) then (
 some false)
 else (
 some true)))))
def laws_eqNote_c : Ct := .pure true false (.pair T_Note (.pair T_Note .unit)) .bool (fun x => laws_eqNote x.1 x.2.1)
theorem laws_eqNote_ct : CtOk Try.prog 137 laws_eqNote_c := pure_ct (E := { T := tab, G := [(142, laws_eqPiece_c), (148, laws_eqEvent_c)] }) (EnvOk.cons laws_eqPiece_ct (EnvOk.cons laws_eqEvent_ct (EnvOk.nil tabOk))) mixed (fn := Try.f137) _ _ _ _ _ .none Try.func137 (by kernel_rfl) (fun x => by kernel_rfl)
/-! loop.example/g00486/laws.eqNoteS -/
def laws_eqNoteS_l1 (a0 : (List T_Note.D)) (a1 : (List T_Note.D)) : Int → Option (Int ⊕ (Int ⊕ Bool)) := fun s1 =>
 bif decide (s1 < (a0.length : Int)) then (
 idx a0 s1 fun x2 =>
 idx a1 s1 fun x3 =>
(laws_eqNote x2 x3).bind fun y4 =>
 bif (!y4) then (
 some (.inr (.inr false)))
 else (
 some (.inl (IntKind.wrap .i64 (s1 + 1)))))
 else (
 some (.inr (.inl s1)))
def laws_eqNoteS (a0 : (List T_Note.D)) (a1 : (List T_Note.D)) : Option Bool :=
 bif ((a0.length : Int) != (a1.length : Int)) then (
 some false)
 else (
(while_ (laws_eqNoteS_l1 a0 a1) 0).bind fun o5 =>
 match o5 with
| .inl s6 => (
 some true)
| .inr o7 => (
 some o7))
def laws_eqNoteS_h : Hints := (.node none none .none (.node none none .none (.node none none (.node none none .none (.node none none (.node none (some ⟨[.tmp 5 (.int .i64)], [some 0], some [.tmp 4 .bool], []⟩) .none .none) .none)) .none)))
def laws_eqNoteS_c : Ct := .pure true false (.pair (.slice T_Note) (.pair (.slice T_Note) .unit)) .bool (fun x => laws_eqNoteS x.1 x.2.1)
theorem laws_eqNoteS_ct : CtOk Try.prog 56 laws_eqNoteS_c := pure_ct (E := { T := tab, G := [(137, laws_eqNote_c)] }) (EnvOk.cons laws_eqNote_ct (EnvOk.nil tabOk)) mixed (fn := Try.f56) _ _ _ _ _ laws_eqNoteS_h Try.func56 (by kernel_rfl) (fun x => by kernel_rfl)
/-! loop.example/g00486/laws.markNoteS -/
def laws_markNoteS_l1 : ((List T_Note.D) × (Int × Int)) → Option (((List T_Note.D) × (Int × Int)) ⊕ ((List T_Note.D) × (Int × Int))) := fun s2 =>
 bif decide (s2.2.2 < (s2.1.length : Int)) then (
 idx s2.1 s2.2.2 fun _ =>
(s2.1[(s2.2.2 : Int).toNat]?).bind fun x3 =>
 let u4 : (List T_Note.D) := s2.1.set (s2.2.2 : Int).toNat (s2.2.1, x3.2)
 idx u4 s2.2.2 fun _ =>
(u4[(s2.2.2 : Int).toNat]?).bind fun x5 =>
 let u6 : (List T_Note.D) := u4.set (s2.2.2 : Int).toNat (x5.1, (IntKind.wrap .i64 (s2.2.1 + 1), x5.2.1.2), x5.2.2)
 idx u6 s2.2.2 fun _ =>
(u6[(s2.2.2 : Int).toNat]?).bind fun x7 =>
 let u8 : (List T_Note.D) := u6.set (s2.2.2 : Int).toNat (x7.1, (x7.2.1.1, IntKind.wrap .i64 ((IntKind.wrap .i64 (s2.2.1 + 1)) + 1), x7.2.1.2.2), x7.2.2)
 let k9 : Int := IntKind.wrap .i64 ((IntKind.wrap .i64 ((IntKind.wrap .i64 (s2.2.1 + 1)) + 1)) + 1)
 idx u8 s2.2.2 fun _ =>
(u8[(s2.2.2 : Int).toNat]?).bind fun x10 =>
 let u11 : (List T_Note.D) := u8.set (s2.2.2 : Int).toNat (x10.1, (x10.2.1.1, x10.2.1.2.1, k9, x10.2.1.2.2.2), x10.2.2)
 idx u11 s2.2.2 fun _ =>
(u11[(s2.2.2 : Int).toNat]?).bind fun x12 =>
 let u13 : (List T_Note.D) := u11.set (s2.2.2 : Int).toNat (x12.1, (x12.2.1.1, x12.2.1.2.1, x12.2.1.2.2.1, IntKind.wrap .i64 (k9 + 1), x12.2.1.2.2.2.2), x12.2.2)
 idx u13 s2.2.2 fun _ =>
(u13[(s2.2.2 : Int).toNat]?).bind fun x14 =>
 let u15 : (List T_Note.D) := u13.set (s2.2.2 : Int).toNat (x14.1, (x14.2.1.1, x14.2.1.2.1, x14.2.1.2.2.1, x14.2.1.2.2.2.1, IntKind.wrap .i64 ((IntKind.wrap .i64 (k9 + 1)) + 1), x14.2.1.2.2.2.2.2), x14.2.2)
 let k16 : Int := IntKind.wrap .i64 ((IntKind.wrap .i64 ((IntKind.wrap .i64 (k9 + 1)) + 1)) + 1)
 idx u15 s2.2.2 fun _ =>
(u15[(s2.2.2 : Int).toNat]?).bind fun x17 =>
 let u18 : (List T_Note.D) := u15.set (s2.2.2 : Int).toNat (x17.1, (x17.2.1.1, x17.2.1.2.1, x17.2.1.2.2.1, x17.2.1.2.2.2.1, x17.2.1.2.2.2.2.1, k16, x17.2.1.2.2.2.2.2.2), x17.2.2)
 if 3 = 0 then none else (
 idx u18 s2.2.2 fun _ =>
(u18[(s2.2.2 : Int).toNat]?).bind fun x19 =>
 let u20 : (List T_Note.D) := u18.set (s2.2.2 : Int).toNat (x19.1, (x19.2.1.1, x19.2.1.2.1, x19.2.1.2.2.1, x19.2.1.2.2.2.1, x19.2.1.2.2.2.2.1, x19.2.1.2.2.2.2.2.1, (((IntKind.wrap .i64 (k16 + 1)).tmod 3) == 0), ()), x19.2.2)
 idx u20 s2.2.2 fun _ =>
(u20[(s2.2.2 : Int).toNat]?).bind fun x21 =>
 let u22 : (List T_Note.D) := u20.set (s2.2.2 : Int).toNat (x21.1, x21.2.1, IntKind.wrap .i64 ((IntKind.wrap .i64 (k16 + 1)) + 1), x21.2.2.2)
 let k23 : Int := IntKind.wrap .i64 ((IntKind.wrap .i64 ((IntKind.wrap .i64 (k16 + 1)) + 1)) + 1)
 idx u22 s2.2.2 fun _ =>
(u22[(s2.2.2 : Int).toNat]?).bind fun x24 =>
 let u25 : (List T_Note.D) := u22.set (s2.2.2 : Int).toNat (x24.1, x24.2.1, x24.2.2.1, k23, x24.2.2.2.2)
 idx u25 s2.2.2 fun _ =>
(u25[(s2.2.2 : Int).toNat]?).bind fun x26 =>
 let u27 : (List T_Note.D) := u25.set (s2.2.2 : Int).toNat (x26.1, x26.2.1, x26.2.2.1, x26.2.2.2.1, (IntKind.wrap .i64 (k23 + 1), x26.2.2.2.2.1.2), ())
 idx u27 s2.2.2 fun _ =>
(u27[(s2.2.2 : Int).toNat]?).bind fun x28 =>
 let u29 : (List T_Note.D) := u27.set (s2.2.2 : Int).toNat (x28.1, x28.2.1, x28.2.2.1, x28.2.2.2.1, (x28.2.2.2.2.1.1, IntKind.wrap .i64 ((IntKind.wrap .i64 (k23 + 1)) + 1), x28.2.2.2.2.1.2.2), ())
 let k30 : Int := IntKind.wrap .i64 ((IntKind.wrap .i64 ((IntKind.wrap .i64 (k23 + 1)) + 1)) + 1)
 idx u29 s2.2.2 fun _ =>
(u29[(s2.2.2 : Int).toNat]?).bind fun x31 =>
 let u32 : (List T_Note.D) := u29.set (s2.2.2 : Int).toNat (x31.1, x31.2.1, x31.2.2.1, x31.2.2.2.1, (x31.2.2.2.2.1.1, x31.2.2.2.2.1.2.1, k30, x31.2.2.2.2.1.2.2.2), ())
 idx u32 s2.2.2 fun _ =>
(u32[(s2.2.2 : Int).toNat]?).bind fun x33 =>
 let u34 : (List T_Note.D) := u32.set (s2.2.2 : Int).toNat (x33.1, x33.2.1, x33.2.2.1, x33.2.2.2.1, (x33.2.2.2.2.1.1, x33.2.2.2.2.1.2.1, x33.2.2.2.2.1.2.2.1, IntKind.wrap .i64 (k30 + 1), x33.2.2.2.2.1.2.2.2.2), ())
 idx u34 s2.2.2 fun _ =>
(u34[(s2.2.2 : Int).toNat]?).bind fun x35 =>
 let u36 : (List T_Note.D) := u34.set (s2.2.2 : Int).toNat (x35.1, x35.2.1, x35.2.2.1, x35.2.2.2.1, (x35.2.2.2.2.1.1, x35.2.2.2.2.1.2.1, x35.2.2.2.2.1.2.2.1, x35.2.2.2.2.1.2.2.2.1, IntKind.wrap .i64 ((IntKind.wrap .i64 (k30 + 1)) + 1), x35.2.2.2.2.1.2.2.2.2.2), ())
 let k37 : Int := IntKind.wrap .i64 ((IntKind.wrap .i64 ((IntKind.wrap .i64 (k30 + 1)) + 1)) + 1)
 idx u36 s2.2.2 fun _ =>
(u36[(s2.2.2 : Int).toNat]?).bind fun x38 =>
 let u39 : (List T_Note.D) := u36.set (s2.2.2 : Int).toNat (x38.1, x38.2.1, x38.2.2.1, x38.2.2.2.1, (x38.2.2.2.2.1.1, x38.2.2.2.2.1.2.1, x38.2.2.2.2.1.2.2.1, x38.2.2.2.2.1.2.2.2.1, x38.2.2.2.2.1.2.2.2.2.1, k37, x38.2.2.2.2.1.2.2.2.2.2.2), ())
 idx u39 s2.2.2 fun _ =>
(u39[(s2.2.2 : Int).toNat]?).bind fun x40 =>
 let u41 : (List T_Note.D) := u39.set (s2.2.2 : Int).toNat (x40.1, x40.2.1, x40.2.2.1, x40.2.2.2.1, (x40.2.2.2.2.1.1, x40.2.2.2.2.1.2.1, x40.2.2.2.2.1.2.2.1, x40.2.2.2.2.1.2.2.2.1, x40.2.2.2.2.1.2.2.2.2.1, x40.2.2.2.2.1.2.2.2.2.2.1, IntKind.wrap .i64 (k37 + 1), x40.2.2.2.2.1.2.2.2.2.2.2.2), ())
 idx u41 s2.2.2 fun _ =>
(u41[(s2.2.2 : Int).toNat]?).bind fun x42 =>
 let u43 : (List T_Note.D) := u41.set (s2.2.2 : Int).toNat (x42.1, x42.2.1, x42.2.2.1, x42.2.2.2.1, (x42.2.2.2.2.1.1, x42.2.2.2.2.1.2.1, x42.2.2.2.2.1.2.2.1, x42.2.2.2.2.1.2.2.2.1, x42.2.2.2.2.1.2.2.2.2.1, x42.2.2.2.2.1.2.2.2.2.2.1, x42.2.2.2.2.1.2.2.2.2.2.2.1, IntKind.wrap .i64 ((IntKind.wrap .i64 (k37 + 1)) + 1), x42.2.2.2.2.1.2.2.2.2.2.2.2.2), ())
 let k44 : Int := IntKind.wrap .i64 ((IntKind.wrap .i64 ((IntKind.wrap .i64 (k37 + 1)) + 1)) + 1)
 idx u43 s2.2.2 fun _ =>
(u43[(s2.2.2 : Int).toNat]?).bind fun x45 =>
 let u46 : (List T_Note.D) := u43.set (s2.2.2 : Int).toNat (x45.1, x45.2.1, x45.2.2.1, x45.2.2.2.1, (x45.2.2.2.2.1.1, x45.2.2.2.2.1.2.1, x45.2.2.2.2.1.2.2.1, x45.2.2.2.2.1.2.2.2.1, x45.2.2.2.2.1.2.2.2.2.1, x45.2.2.2.2.1.2.2.2.2.2.1, x45.2.2.2.2.1.2.2.2.2.2.2.1, x45.2.2.2.2.1.2.2.2.2.2.2.2.1, k44, x45.2.2.2.2.1.2.2.2.2.2.2.2.2.2), ())
 idx u46 s2.2.2 fun _ =>
(u46[(s2.2.2 : Int).toNat]?).bind fun x47 =>
 let u48 : (List T_Note.D) := u46.set (s2.2.2 : Int).toNat (x47.1, x47.2.1, x47.2.2.1, x47.2.2.2.1, (x47.2.2.2.2.1.1, x47.2.2.2.2.1.2.1, x47.2.2.2.2.1.2.2.1, x47.2.2.2.2.1.2.2.2.1, x47.2.2.2.2.1.2.2.2.2.1, x47.2.2.2.2.1.2.2.2.2.2.1, x47.2.2.2.2.1.2.2.2.2.2.2.1, x47.2.2.2.2.1.2.2.2.2.2.2.2.1, x47.2.2.2.2.1.2.2.2.2.2.2.2.2.1, IntKind.wrap .i64 (k44 + 1), x47.2.2.2.2.1.2.2.2.2.2.2.2.2.2.2), ())
 idx u48 s2.2.2 fun _ =>
(u48[(s2.2.2 : Int).toNat]?).bind fun x49 =>
 let u50 : (List T_Note.D) := u48.set (s2.2.2 : Int).toNat (x49.1, x49.2.1, x49.2.2.1, x49.2.2.2.1, (x49.2.2.2.2.1.1, x49.2.2.2.2.1.2.1, x49.2.2.2.2.1.2.2.1, x49.2.2.2.2.1.2.2.2.1, x49.2.2.2.2.1.2.2.2.2.1, x49.2.2.2.2.1.2.2.2.2.2.1, x49.2.2.2.2.1.2.2.2.2.2.2.1, x49.2.2.2.2.1.2.2.2.2.2.2.2.1, x49.2.2.2.2.1.2.2.2.2.2.2.2.2.1, x49.2.2.2.2.1.2.2.2.2.2.2.2.2.2.1, IntKind.wrap .i64 ((IntKind.wrap .i64 (k44 + 1)) + 1), x49.2.2.2.2.1.2.2.2.2.2.2.2.2.2.2.2), ())
 let k51 : Int := IntKind.wrap .i64 ((IntKind.wrap .i64 ((IntKind.wrap .i64 (k44 + 1)) + 1)) + 1)
 if 3 = 0 then none else (
 idx u50 s2.2.2 fun _ =>
(u50[(s2.2.2 : Int).toNat]?).bind fun x52 =>
 let u53 : (List T_Note.D) := u50.set (s2.2.2 : Int).toNat (x52.1, x52.2.1, x52.2.2.1, x52.2.2.2.1, (x52.2.2.2.2.1.1, x52.2.2.2.2.1.2.1, x52.2.2.2.2.1.2.2.1, x52.2.2.2.2.1.2.2.2.1, x52.2.2.2.2.1.2.2.2.2.1, x52.2.2.2.2.1.2.2.2.2.2.1, x52.2.2.2.2.1.2.2.2.2.2.2.1, x52.2.2.2.2.1.2.2.2.2.2.2.2.1, x52.2.2.2.2.1.2.2.2.2.2.2.2.2.1, x52.2.2.2.2.1.2.2.2.2.2.2.2.2.2.1, x52.2.2.2.2.1.2.2.2.2.2.2.2.2.2.2.1, ((k51.tmod 3) == 0), x52.2.2.2.2.1.2.2.2.2.2.2.2.2.2.2.2.2), ())
 if 3 = 0 then none else (
 idx u53 s2.2.2 fun _ =>
(u53[(s2.2.2 : Int).toNat]?).bind fun x54 =>
 let u55 : (List T_Note.D) := u53.set (s2.2.2 : Int).toNat (x54.1, x54.2.1, x54.2.2.1, x54.2.2.2.1, (x54.2.2.2.2.1.1, x54.2.2.2.2.1.2.1, x54.2.2.2.2.1.2.2.1, x54.2.2.2.2.1.2.2.2.1, x54.2.2.2.2.1.2.2.2.2.1, x54.2.2.2.2.1.2.2.2.2.2.1, x54.2.2.2.2.1.2.2.2.2.2.2.1, x54.2.2.2.2.1.2.2.2.2.2.2.2.1, x54.2.2.2.2.1.2.2.2.2.2.2.2.2.1, x54.2.2.2.2.1.2.2.2.2.2.2.2.2.2.1, x54.2.2.2.2.1.2.2.2.2.2.2.2.2.2.2.1, x54.2.2.2.2.1.2.2.2.2.2.2.2.2.2.2.2.1, (((IntKind.wrap .i64 (k51 + 1)).tmod 3) == 0), ()), ())
 some (.inl (u55, IntKind.wrap .i64 ((IntKind.wrap .i64 (k51 + 1)) + 1), IntKind.wrap .i64 (s2.2.2 + 1)))))))
 else (
 some (.inr s2))
def laws_markNoteS (a0 : (List T_Note.D)) (a1 : Int) : Option (Int × ((List T_Note.D) × Unit)) :=
(while_ (laws_markNoteS_l1) (a0, a1, 0)).bind fun o56 =>
 some (o56.2.1, (o56.1, ()))
def laws_markNoteS_h : Hints := (.node none none .none (.node none none (.node none none .none (.node none none (.node none (some ⟨[.tmpO 0 1 (.slice T_Note), .tmp 1 (.int .i64), .tmp 5 (.int .i64)], [some 0], none, []⟩) .none .none) .none)) .none))
def laws_markNoteS_c : Ct := .mut [.lent, .rd] true true (.pair (.slice T_Note) (.pair (.int .i64) .unit)) (.int .i64) (fun x => laws_markNoteS x.1 x.2.1)
theorem laws_markNoteS_ct : CtOk Try.prog 57 laws_markNoteS_c := mut_ct (E := { T := tab, G := [] }) (EnvOk.nil tabOk) mixed (fn := Try.f57) _ _ _ _ _ _ laws_markNoteS_h Try.func57 (by kernel_rfl) (fun x => by kernel_rfl)
/-! loop.example/g00486/laws.heldNoteS -/
def laws_heldNoteS_l1 (a0 : (List T_Note.D)) : (Int × Int) → Option ((Int × Int) ⊕ ((Int × Int) ⊕ Int)) := fun s1 =>
 bif decide (s1.2 < (a0.length : Int)) then (
 idx a0 s1.2 fun x2 =>
 bif (x2.1 != s1.1) then (
 some (.inr (.inr (-1))))
 else (
 idx a0 s1.2 fun x3 =>
 bif (x3.2.1.1 != (IntKind.wrap .i64 (s1.1 + 1))) then (
 some (.inr (.inr (-1))))
 else (
 idx a0 s1.2 fun x4 =>
 bif (x4.2.1.2.1 != (IntKind.wrap .i64 ((IntKind.wrap .i64 (s1.1 + 1)) + 1))) then (
 some (.inr (.inr (-1))))
 else (
 let k5 : Int := IntKind.wrap .i64 ((IntKind.wrap .i64 ((IntKind.wrap .i64 (s1.1 + 1)) + 1)) + 1)
 idx a0 s1.2 fun x6 =>
 bif (x6.2.1.2.2.1 != k5) then (
 some (.inr (.inr (-1))))
 else (
 idx a0 s1.2 fun x7 =>
 bif (x7.2.1.2.2.2.1 != (IntKind.wrap .i64 (k5 + 1))) then (
 some (.inr (.inr (-1))))
 else (
 idx a0 s1.2 fun x8 =>
 bif (x8.2.1.2.2.2.2.1 != (IntKind.wrap .i64 ((IntKind.wrap .i64 (k5 + 1)) + 1))) then (
 some (.inr (.inr (-1))))
 else (
 let k9 : Int := IntKind.wrap .i64 ((IntKind.wrap .i64 ((IntKind.wrap .i64 (k5 + 1)) + 1)) + 1)
 idx a0 s1.2 fun x10 =>
 bif (x10.2.1.2.2.2.2.2.1 != k9) then (
 some (.inr (.inr (-1))))
 else (
 idx a0 s1.2 fun x11 =>
 if 3 = 0 then none else (
 bif (x11.2.1.2.2.2.2.2.2.1 != (((IntKind.wrap .i64 (k9 + 1)).tmod 3) == 0)) then (
 some (.inr (.inr (-1))))
 else (
 idx a0 s1.2 fun x12 =>
 bif (x12.2.2.1 != (IntKind.wrap .i64 ((IntKind.wrap .i64 (k9 + 1)) + 1))) then (
 some (.inr (.inr (-1))))
 else (
 let k13 : Int := IntKind.wrap .i64 ((IntKind.wrap .i64 ((IntKind.wrap .i64 (k9 + 1)) + 1)) + 1)
 idx a0 s1.2 fun x14 =>
 bif (x14.2.2.2.1 != k13) then (
 some (.inr (.inr (-1))))
 else (
 idx a0 s1.2 fun x15 =>
 bif (x15.2.2.2.2.1.1 != (IntKind.wrap .i64 (k13 + 1))) then (
 some (.inr (.inr (-1))))
 else (
 idx a0 s1.2 fun x16 =>
 bif (x16.2.2.2.2.1.2.1 != (IntKind.wrap .i64 ((IntKind.wrap .i64 (k13 + 1)) + 1))) then (
 some (.inr (.inr (-1))))
 else (
 let k17 : Int := IntKind.wrap .i64 ((IntKind.wrap .i64 ((IntKind.wrap .i64 (k13 + 1)) + 1)) + 1)
 idx a0 s1.2 fun x18 =>
 bif (x18.2.2.2.2.1.2.2.1 != k17) then (
 some (.inr (.inr (-1))))
 else (
 idx a0 s1.2 fun x19 =>
 bif (x19.2.2.2.2.1.2.2.2.1 != (IntKind.wrap .i64 (k17 + 1))) then (
 some (.inr (.inr (-1))))
 else (
 idx a0 s1.2 fun x20 =>
 bif (x20.2.2.2.2.1.2.2.2.2.1 != (IntKind.wrap .i64 ((IntKind.wrap .i64 (k17 + 1)) + 1))) then (
 some (.inr (.inr (-1))))
 else (
 let k21 : Int := IntKind.wrap .i64 ((IntKind.wrap .i64 ((IntKind.wrap .i64 (k17 + 1)) + 1)) + 1)
 idx a0 s1.2 fun x22 =>
 bif (x22.2.2.2.2.1.2.2.2.2.2.1 != k21) then (
 some (.inr (.inr (-1))))
 else (
 idx a0 s1.2 fun x23 =>
 bif (x23.2.2.2.2.1.2.2.2.2.2.2.1 != (IntKind.wrap .i64 (k21 + 1))) then (
 some (.inr (.inr (-1))))
 else (
 idx a0 s1.2 fun x24 =>
 bif (x24.2.2.2.2.1.2.2.2.2.2.2.2.1 != (IntKind.wrap .i64 ((IntKind.wrap .i64 (k21 + 1)) + 1))) then (
 some (.inr (.inr (-1))))
 else (
 let k25 : Int := IntKind.wrap .i64 ((IntKind.wrap .i64 ((IntKind.wrap .i64 (k21 + 1)) + 1)) + 1)
 idx a0 s1.2 fun x26 =>
 bif (x26.2.2.2.2.1.2.2.2.2.2.2.2.2.1 != k25) then (
 some (.inr (.inr (-1))))
 else (
 idx a0 s1.2 fun x27 =>
 bif (x27.2.2.2.2.1.2.2.2.2.2.2.2.2.2.1 != (IntKind.wrap .i64 (k25 + 1))) then (
 some (.inr (.inr (-1))))
 else (
 idx a0 s1.2 fun x28 =>
 bif (x28.2.2.2.2.1.2.2.2.2.2.2.2.2.2.2.1 != (IntKind.wrap .i64 ((IntKind.wrap .i64 (k25 + 1)) + 1))) then (
 some (.inr (.inr (-1))))
 else (
 let k29 : Int := IntKind.wrap .i64 ((IntKind.wrap .i64 ((IntKind.wrap .i64 (k25 + 1)) + 1)) + 1)
 idx a0 s1.2 fun x30 =>
 if 3 = 0 then none else (
 bif (x30.2.2.2.2.1.2.2.2.2.2.2.2.2.2.2.2.1 != ((k29.tmod 3) == 0)) then (
 some (.inr (.inr (-1))))
 else (
 idx a0 s1.2 fun x31 =>
 if 3 = 0 then none else (
 bif (x31.2.2.2.2.1.2.2.2.2.2.2.2.2.2.2.2.2.1 != (((IntKind.wrap .i64 (k29 + 1)).tmod 3) == 0)) then (
 some (.inr (.inr (-1))))
 else (
 some (.inl (IntKind.wrap .i64 ((IntKind.wrap .i64 (k29 + 1)) + 1), IntKind.wrap .i64 (s1.2 + 1))))))))))))))))))))))))))))))
 else (
 some (.inr (.inl s1)))
def laws_heldNoteS (a0 : (List T_Note.D)) (a1 : Int) : Option Int :=
(while_ (laws_heldNoteS_l1 a0) (a1, 0)).bind fun o32 =>
 match o32 with
| .inl s33 => (
 some s33.1)
| .inr o34 => (
 some o34)
def laws_heldNoteS_h : Hints := (.node none none .none (.node none none (.node none none .none (.node none none (.node none (some ⟨[.tmp 1 (.int .i64), .tmp 5 (.int .i64)], [some 0], some [.tmp 4 (.int .i64)], []⟩) .none .none) .none)) .none))
def laws_heldNoteS_c : Ct := .pure true false (.pair (.slice T_Note) (.pair (.int .i64) .unit)) (.int .i64) (fun x => laws_heldNoteS x.1 x.2.1)
theorem laws_heldNoteS_ct : CtOk Try.prog 60 laws_heldNoteS_c := pure_ct (E := { T := tab, G := [] }) (EnvOk.nil tabOk) mixed (fn := Try.f60) _ _ _ _ _ laws_heldNoteS_h Try.func60 (by kernel_rfl) (fun x => by kernel_rfl)
/-! loop.example/g00486/laws.FnExactRound -/
def laws_FnExactRound (a0 : T_State.D) : Option Bool :=
(laws_szState a0 1048576).bind fun y1 =>
 bif decide (y1 < 0) then (
 some true)
 else (
(laws_toState a0).bind fun y2 =>
(spec_Round y2).bind fun y3 =>
(laws_toState a0).bind fun y4 =>
(impl_Round y4).bind fun y5 =>
(((laws_eqState y5.1 y3.1).bind fun y6 =>
 bif (!y6) then (
 some true)
 else (
(laws_eqNoteS y5.2.1 y3.2.1).bind fun y7 =>
 some (!y7))) : Option Bool).bind fun o8 =>
 bif o8 then (
 some false)
 else (
(laws_toState a0).bind fun y9 =>
(laws_eqState y4 y9).bind fun y10 =>
 bif (!y10) then (
 some false)
 else (
(laws_markState y4 1).bind fun y11 =>
((bif decide (y11.1 < 0) then (
 some true)
 else (
(laws_eqState y5.1 y3.1).bind fun y12 =>
 bif (!y12) then (
 some true)
 else (
(laws_eqNoteS y5.2.1 y3.2.1).bind fun y13 =>
 some (!y13)))) : Option Bool).bind fun o14 =>
 bif o14 then (
 some false)
 else (
(laws_markState y5.1 1).bind fun y15 =>
(laws_markNoteS y5.2.1 y15.1).bind fun y16 =>
(laws_heldState (y15.2.1.1, y15.2.1.2.1, y5.1.2.2) 1).bind fun y17 =>
 bif decide (y17 < 0) then (
 some false)
 else (
(laws_heldNoteS y16.2.1 y17).bind fun y18 =>
 bif decide (y18 < 0) then (
 some false)
 else (
 bif (y18 != y16.1) then (
 some false)
 else (
(laws_toState a0).bind fun y19 =>
(impl_Round y19).bind fun y20 =>
(((laws_eqState y20.1 y3.1).bind fun y21 =>
 bif (!y21) then (
 some true)
 else (
(laws_eqNoteS y20.2.1 y3.2.1).bind fun y22 =>
 some (!y22))) : Option Bool).bind fun o23 =>
 bif o23 then (
 some false)
 else (
(laws_heldState (y15.2.1.1, y15.2.1.2.1, y5.1.2.2) 1).bind fun y24 =>
 bif decide (y24 < 0) then (
 some false)
 else (
(laws_heldNoteS y16.2.1 y24).bind fun y25 =>
 bif decide (y25 < 0) then (
 some false)
 else (
 bif (y25 != y16.1) then (
 some false)
 else (
 some true)))))))))))
def laws_FnExactRound_h : Hints := (.node none none .none (.node none none .none (.node none none .none (.node none none .none (.node none none .none (.node none none .none (.node none none .none (.node none none (.node none none (.node (some ⟨[.tmp 41 .bool], [none], none, []⟩) none .none .none) .none) (.node none none .none (.node none none .none (.node none none .none (.node none none (.node none none (.node (some ⟨[.tmp 63 .bool], [none], none, []⟩) none .none .none) .none) (.node none none .none (.node none none .none (.node none none .none (.node none none .none (.node none none .none (.node none none .none (.node none none .none (.node none none .none (.node none none .none (.node none none .none (.node none none (.node none none (.node (some ⟨[.tmp 98 .bool], [none], none, []⟩) none .none .none) .none) .none)))))))))))))))))))))))
def laws_FnExactRound_c : Ct := .pure true false (.pair T_State .unit) .bool (fun x => laws_FnExactRound x.1)
theorem laws_FnExactRound_ct : CtOk Try.prog 12 laws_FnExactRound_c := pure_ct (E := { T := tab, G := [(14, laws_szState_c), (16, laws_toState_fresh_c), (18, laws_eqState_c), (34, laws_markState_c), (35, laws_heldState_c), (56, laws_eqNoteS_c), (57, laws_markNoteS_c), (58, spec_Round_fresh_c), (59, impl_Round_fresh_c), (60, laws_heldNoteS_c)] }) (EnvOk.cons laws_szState_ct (EnvOk.cons laws_toState_fresh_ct (EnvOk.cons laws_eqState_ct (EnvOk.cons laws_markState_ct (EnvOk.cons laws_heldState_ct (EnvOk.cons laws_eqNoteS_ct (EnvOk.cons laws_markNoteS_ct (EnvOk.cons spec_Round_fresh_ct (EnvOk.cons impl_Round_fresh_ct (EnvOk.cons laws_heldNoteS_ct (EnvOk.nil tabOk))))))))))) mixed (fn := Try.f12) _ _ _ _ _ laws_FnExactRound_h Try.func12 (by kernel_rfl) (fun x => by kernel_rfl)
/-! loop.example/g00486/spec.Settle -/
def spec_Settle_l1 : ((List T_Note.D) × (Int × (T_State.D × ((List T_Piece.D) × ((List T_Side.D) × (Int × (Int × Unit))))))) → Option (((List T_Note.D) × (Int × (T_State.D × ((List T_Piece.D) × ((List T_Side.D) × (Int × (Int × Unit))))))) ⊕ ((List T_Note.D) × (Int × ((List T_Piece.D) × ((List T_Side.D) × (Int × (Int × Unit))))))) := fun s4 =>
(spec_Round s4.2.2.2).bind fun y5 =>
 bif ((y5.2.1.length : Int) == 0) then (
 some (.inr (s4.1, s4.2.1, s4.2.2.2)))
 else (
 if (s4.1.length + y5.2.1.length) * (24 * 23) ≤ room then (
 some (.inl ((s4.1 ++ y5.2.1), IntKind.wrap .i64 (s4.2.1 + 1), s4.2.2.1, y5.1))) else none)
def spec_Settle (a0 : T_State.D) : Option (T_State.D × ((List T_Note.D) × (Int × Unit))) :=
(spec_l5Copy a0).bind fun y1 =>
(while_ (spec_Settle_l1) ([], 0, ([], [], 0, 0, ()), y1)).bind fun o6 =>
 some (o6.2.2, o6.1, o6.2.1, ())
def spec_Settle_h : Hints := (.node none none .none (.node none none .none (.node none none .none (.node none none .none (.node none none (.node none (some ⟨[.tmpO 6 0 (.slice T_Note), .tmp 7 (.int .i64), .boxO 2 0 1 T_State, .boxO 5 0 1 T_State], [], some [.tmpO 3 0 (.slice T_Note), .tmp 4 (.int .i64), .boxO 2 0 1 T_State], []⟩) .none .none) .none)))))
def spec_Settle_c : Ct := .pure false false (.pair T_State .unit) (.pair T_State (.pair (.slice T_Note) (.pair (.int .i64) .unit))) (fun x => spec_Settle x.1)
theorem spec_Settle_ct : CtOk Try.prog 61 spec_Settle_c := pure_ct (E := { T := tab, G := [(58, spec_Round_fresh_c), (94, spec_l5Copy_fresh_c)] }) (EnvOk.cons spec_Round_fresh_ct (EnvOk.cons spec_l5Copy_fresh_ct (EnvOk.nil tabOk))) mixed (fn := Try.f61) _ _ _ _ _ spec_Settle_h Try.func61 (by kernel_rfl) (fun x => by kernel_rfl)
def spec_Settle_fresh_c : Ct := .pure false true (.pair T_State .unit) (.pair T_State (.pair (.slice T_Note) (.pair (.int .i64) .unit))) (fun x => spec_Settle x.1)
theorem spec_Settle_fresh_ct : CtOk Try.prog 61 spec_Settle_fresh_c := pure_ct (E := { T := tab, G := [(58, spec_Round_fresh_c), (94, spec_l5Copy_fresh_c)] }) (EnvOk.cons spec_Round_fresh_ct (EnvOk.cons spec_l5Copy_fresh_ct (EnvOk.nil tabOk))) mixed (fn := Try.f61) _ _ _ _ _ spec_Settle_h Try.func61 (by kernel_rfl) (fun x => by kernel_rfl)
/-! loop.example/g00486/impl.Settle -/
def impl_Settle_l1 : ((List T_Note.D) × (Int × (T_State.D × ((List T_Piece.D) × ((List T_Side.D) × (Int × (Int × Unit))))))) → Option (((List T_Note.D) × (Int × (T_State.D × ((List T_Piece.D) × ((List T_Side.D) × (Int × (Int × Unit))))))) ⊕ ((List T_Note.D) × (Int × ((List T_Piece.D) × ((List T_Side.D) × (Int × (Int × Unit))))))) := fun s4 =>
(impl_Round s4.2.2.2).bind fun y5 =>
 bif ((y5.2.1.length : Int) == 0) then (
 some (.inr (s4.1, s4.2.1, s4.2.2.2)))
 else (
 if (s4.1.length + y5.2.1.length) * (24 * 23) ≤ room then (
 some (.inl ((s4.1 ++ y5.2.1), IntKind.wrap .i64 (s4.2.1 + 1), s4.2.2.1, y5.1))) else none)
def impl_Settle (a0 : T_State.D) : Option (T_State.D × ((List T_Note.D) × (Int × Unit))) :=
(impl_copyState a0).bind fun y1 =>
(while_ (impl_Settle_l1) ([], 0, ([], [], 0, 0, ()), y1)).bind fun o6 =>
 some (o6.2.2, o6.1, o6.2.1, ())
def impl_Settle_h : Hints := (.node none none .none (.node none none .none (.node none none .none (.node none none .none (.node none none (.node none (some ⟨[.tmpO 5 0 (.slice T_Note), .tmp 6 (.int .i64), .boxO 2 0 1 T_State, .boxO 1 0 1 T_State], [], some [.tmpO 3 0 (.slice T_Note), .tmp 4 (.int .i64), .boxO 2 0 1 T_State], []⟩) .none .none) .none)))))
def impl_Settle_c : Ct := .pure false false (.pair T_State .unit) (.pair T_State (.pair (.slice T_Note) (.pair (.int .i64) .unit))) (fun x => impl_Settle x.1)
theorem impl_Settle_ct : CtOk Try.prog 62 impl_Settle_c := pure_ct (E := { T := tab, G := [(59, impl_Round_fresh_c), (99, impl_copyState_fresh_c)] }) (EnvOk.cons impl_Round_fresh_ct (EnvOk.cons impl_copyState_fresh_ct (EnvOk.nil tabOk))) mixed (fn := Try.f62) _ _ _ _ _ impl_Settle_h Try.func62 (by kernel_rfl) (fun x => by kernel_rfl)
def impl_Settle_fresh_c : Ct := .pure false true (.pair T_State .unit) (.pair T_State (.pair (.slice T_Note) (.pair (.int .i64) .unit))) (fun x => impl_Settle x.1)
theorem impl_Settle_fresh_ct : CtOk Try.prog 62 impl_Settle_fresh_c := pure_ct (E := { T := tab, G := [(59, impl_Round_fresh_c), (99, impl_copyState_fresh_c)] }) (EnvOk.cons impl_Round_fresh_ct (EnvOk.cons impl_copyState_fresh_ct (EnvOk.nil tabOk))) mixed (fn := Try.f62) _ _ _ _ _ impl_Settle_h Try.func62 (by kernel_rfl) (fun x => by kernel_rfl)
/-! loop.example/g00486/laws.FnExactSettle -/
def laws_FnExactSettle (a0 : T_State.D) : Option Bool :=
(laws_szState a0 1048576).bind fun y1 =>
 bif decide (y1 < 0) then (
 some true)
 else (
(laws_toState a0).bind fun y2 =>
(spec_Settle y2).bind fun y3 =>
(laws_toState a0).bind fun y4 =>
(impl_Settle y4).bind fun y5 =>
(((laws_eqState y5.1 y3.1).bind fun y6 =>
 bif (!y6) then (
 some true)
 else (
(laws_eqNoteS y5.2.1 y3.2.1).bind fun y7 =>
 bif (!y7) then (
 some true)
 else (
 some (y5.2.2.1 != y3.2.2.1)))) : Option Bool).bind fun o8 =>
 bif o8 then (
 some false)
 else (
(laws_toState a0).bind fun y9 =>
(laws_eqState y4 y9).bind fun y10 =>
 bif (!y10) then (
 some false)
 else (
(laws_markState y4 1).bind fun y11 =>
((bif decide (y11.1 < 0) then (
 some true)
 else (
(laws_eqState y5.1 y3.1).bind fun y12 =>
 bif (!y12) then (
 some true)
 else (
(laws_eqNoteS y5.2.1 y3.2.1).bind fun y13 =>
 bif (!y13) then (
 some true)
 else (
 some (y5.2.2.1 != y3.2.2.1))))) : Option Bool).bind fun o14 =>
 bif o14 then (
 some false)
 else (
(laws_markState y5.1 1).bind fun y15 =>
(laws_markNoteS y5.2.1 y15.1).bind fun y16 =>
(laws_heldState (y15.2.1.1, y15.2.1.2.1, y5.1.2.2) 1).bind fun y17 =>
 bif decide (y17 < 0) then (
 some false)
 else (
(laws_heldNoteS y16.2.1 y17).bind fun y18 =>
 bif decide (y18 < 0) then (
 some false)
 else (
 bif (y18 != y16.1) then (
 some false)
 else (
(laws_toState a0).bind fun y19 =>
(impl_Settle y19).bind fun y20 =>
(((laws_eqState y20.1 y3.1).bind fun y21 =>
 bif (!y21) then (
 some true)
 else (
(laws_eqNoteS y20.2.1 y3.2.1).bind fun y22 =>
 bif (!y22) then (
 some true)
 else (
 some (y20.2.2.1 != y3.2.2.1)))) : Option Bool).bind fun o23 =>
 bif o23 then (
 some false)
 else (
(laws_heldState (y15.2.1.1, y15.2.1.2.1, y5.1.2.2) 1).bind fun y24 =>
 bif decide (y24 < 0) then (
 some false)
 else (
(laws_heldNoteS y16.2.1 y24).bind fun y25 =>
 bif decide (y25 < 0) then (
 some false)
 else (
 bif (y25 != y16.1) then (
 some false)
 else (
 some true)))))))))))
def laws_FnExactSettle_h : Hints := (.node none none .none (.node none none .none (.node none none .none (.node none none .none (.node none none .none (.node none none .none (.node none none .none (.node none none (.node none none (.node (some ⟨[.tmp 51 .bool], [none], none, []⟩) none .none .none) .none) (.node none none .none (.node none none .none (.node none none .none (.node none none (.node none none (.node (some ⟨[.tmp 78 .bool], [none], none, []⟩) none .none .none) .none) (.node none none .none (.node none none .none (.node none none .none (.node none none .none (.node none none .none (.node none none .none (.node none none .none (.node none none .none (.node none none .none (.node none none .none (.node none none (.node none none (.node (some ⟨[.tmp 119 .bool], [none], none, []⟩) none .none .none) .none) .none)))))))))))))))))))))))
def laws_FnExactSettle_c : Ct := .pure true false (.pair T_State .unit) .bool (fun x => laws_FnExactSettle x.1)
theorem laws_FnExactSettle_ct : CtOk Try.prog 13 laws_FnExactSettle_c := pure_ct (E := { T := tab, G := [(14, laws_szState_c), (16, laws_toState_fresh_c), (18, laws_eqState_c), (34, laws_markState_c), (35, laws_heldState_c), (56, laws_eqNoteS_c), (57, laws_markNoteS_c), (60, laws_heldNoteS_c), (61, spec_Settle_fresh_c), (62, impl_Settle_fresh_c)] }) (EnvOk.cons laws_szState_ct (EnvOk.cons laws_toState_fresh_ct (EnvOk.cons laws_eqState_ct (EnvOk.cons laws_markState_ct (EnvOk.cons laws_heldState_ct (EnvOk.cons laws_eqNoteS_ct (EnvOk.cons laws_markNoteS_ct (EnvOk.cons laws_heldNoteS_ct (EnvOk.cons spec_Settle_fresh_ct (EnvOk.cons impl_Settle_fresh_ct (EnvOk.nil tabOk))))))))))) mixed (fn := Try.f13) _ _ _ _ _ laws_FnExactSettle_h Try.func13 (by kernel_rfl) (fun x => by kernel_rfl)
end
end Go.Abs
