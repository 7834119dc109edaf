import Derived.Test.YtkhbmiajggfdcaaProg
import Derived.Test.YtkhbmiajggfdcaaAbsTab
set_option linter.unusedVariables false
set_option linter.unusedSimpArgs false
namespace Go.Abs
open Go.Proofs
set_option maxRecDepth 100000
noncomputable section
@[reducible] def T_Event : Ty := (.pair (.int .i64) (.pair (.int .i64) (.pair (.int .i64) (.pair (.int .i64) (.pair (.int .i64) (.pair (.int .i64) (.pair .bool .unit)))))))
@[reducible] def T_Piece : Ty := (.pair (.int .i64) (.pair (.int .i64) (.pair (.int .i64) (.pair (.int .i64) (.pair (.int .i64) (.pair (.int .i64) (.pair (.int .i64) (.pair (.int .i64) (.pair (.int .i64) (.pair (.int .i64) (.pair (.int .i64) (.pair .bool (.pair .bool .unit)))))))))))))
@[reducible] def T_Note : Ty := (.pair (.int .i64) (.pair T_Event (.pair (.int .i64) (.pair (.int .i64) (.pair T_Piece .unit)))))
@[reducible] def T_Side : Ty := (.pair (.int .i64) (.pair (.int .i64) (.pair .bool .unit)))
@[reducible] def T_State : Ty := (.pair (.slice T_Piece) (.pair (.slice T_Side) (.pair (.int .i64) (.pair (.int .i64) .unit))))
@[reducible] def T_Pat : Ty := (.pair (.int .i64) (.pair (.int .i64) (.pair (.int .i64) (.pair (.int .i64) (.pair (.int .i64) (.pair (.int .i64) (.pair (.int .i64) .unit)))))))
@[reducible] def T_Guard : Ty := (.pair (.int .i64) (.pair (.int .i64) .unit))
@[reducible] def T_Act : Ty := (.pair (.int .i64) (.pair (.int .i64) (.pair (.int .i64) (.pair (.int .i64) (.pair (.int .i64) (.pair .bool (.pair (.slice T_Event) .unit)))))))
@[reducible] def T_Effect : Ty := (.pair (.int .i64) (.pair (.int .i64) (.pair (.int .i64) (.pair (.int .i64) (.pair T_Pat (.pair T_Guard (.pair T_Act (.pair (.int .i64) (.pair (.int .i64) .unit)))))))))
@[reducible] def T_Trigger : Ty := (.pair (.int .i64) (.pair (.int .i64) (.pair (.int .i64) (.pair T_Piece .unit))))
@[reducible] def T_S7 : Ty := (.pair (.int .i64) (.pair (.int .i64) (.pair .bool (.pair (.int .u8) .unit))))
def tab : Tab := [
  (1, ⟨.other, 1, 0, .unit, [.undef]⟩),
  (2, ⟨.int .i64, 1, 0, (.int .i64), [.int .i64 0]⟩),
  (3, ⟨.int .i64, 1, 0, (.int .i64), [.int .i64 0]⟩),
  (4, ⟨.bool, 1, 0, .bool, [.bool false]⟩),
  (5, ⟨.int .u8, 1, 0, (.int .u8), [.int .u8 0]⟩),
  (6, ⟨.int .u8, 1, 0, (.int .u8), [.int .u8 0]⟩),
  (7, ⟨.struct [(0, 2), (1, 3), (2, 4), (3, 6)], 4, 0, T_S7, [.int .i64 0, .int .i64 0, .bool false, .int .u8 0]⟩),
  (8, ⟨.struct [(0, 2), (1, 3), (2, 4), (3, 6)], 4, 0, T_S7, [.int .i64 0, .int .i64 0, .bool false, .int .u8 0]⟩),
  (12, ⟨.int .u64, 1, 0, (.int .u64), [.int .u64 0]⟩),
  (15, ⟨.other, 1, 0, .unit, [.undef]⟩),
  (16, ⟨.other, 1, 0, .unit, [.undef]⟩),
  (17, ⟨.other, 1, 0, .unit, [.undef]⟩),
  (21, ⟨.int .i32, 1, 0, (.int .i32), [.int .i32 0]⟩),
  (22, ⟨.slice 85, 1, 0, (.slice T_Note), [.nil]⟩),
  (23, ⟨.other, 1, 0, .unit, [.undef]⟩),
  (24, ⟨.other, 1, 0, .unit, [.undef]⟩),
  (25, ⟨.slice 81, 1, 0, (.slice T_Note), [.nil]⟩),
  (26, ⟨.other, 1, 0, .unit, [.undef]⟩),
  (27, ⟨.other, 1, 0, .unit, [.undef]⟩),
  (28, ⟨.other, 1, 0, .unit, [.undef]⟩),
  (29, ⟨.other, 1, 0, .unit, [.undef]⟩),
  (30, ⟨.slice 83, 1, 0, (.slice T_Piece), [.nil]⟩),
  (31, ⟨.slice 133, 1, 0, (.slice T_Side), [.nil]⟩),
  (32, ⟨.struct [(0, 30), (1, 31), (2, 3), (3, 3)], 4, 0, T_State, [.nil, .nil, .int .i64 0, .int .i64 0]⟩),
  (33, ⟨.struct [(0, 30), (1, 31), (2, 3), (3, 3)], 4, 0, T_State, [.nil, .nil, .int .i64 0, .int .i64 0]⟩),
  (34, ⟨.other, 1, 0, .unit, [.undef]⟩),
  (35, ⟨.other, 1, 0, .unit, [.undef]⟩),
  (36, ⟨.slice 79, 1, 0, (.slice T_Piece), [.nil]⟩),
  (37, ⟨.slice 113, 1, 0, (.slice T_Side), [.nil]⟩),
  (38, ⟨.struct [(0, 36), (1, 37), (2, 3), (3, 3)], 4, 0, T_State, [.nil, .nil, .int .i64 0, .int .i64 0]⟩),
  (39, ⟨.struct [(0, 36), (1, 37), (2, 3), (3, 3)], 4, 0, T_State, [.nil, .nil, .int .i64 0, .int .i64 0]⟩),
  (40, ⟨.other, 1, 0, .unit, [.undef]⟩),
  (41, ⟨.other, 1, 0, .unit, [.undef]⟩),
  (42, ⟨.other, 1, 0, .unit, [.undef]⟩),
  (43, ⟨.struct [(0, 3), (1, 3), (2, 3), (3, 3), (4, 3), (5, 3), (6, 4)], 7, 0, T_Event, [.int .i64 0, .int .i64 0, .int .i64 0, .int .i64 0, .int .i64 0, .int .i64 0, .bool false]⟩),
  (44, ⟨.struct [(0, 3), (1, 3), (2, 3), (3, 3), (4, 3), (5, 3), (6, 4)], 7, 0, T_Event, [.int .i64 0, .int .i64 0, .int .i64 0, .int .i64 0, .int .i64 0, .int .i64 0, .bool false]⟩),
  (45, ⟨.other, 1, 0, .unit, [.undef]⟩),
  (46, ⟨.struct [(0, 3), (1, 3), (2, 3), (3, 3), (4, 3), (5, 3), (6, 4)], 7, 0, T_Event, [.int .i64 0, .int .i64 0, .int .i64 0, .int .i64 0, .int .i64 0, .int .i64 0, .bool false]⟩),
  (47, ⟨.other, 1, 0, .unit, [.undef]⟩),
  (48, ⟨.other, 1, 0, .unit, [.undef]⟩),
  (49, ⟨.slice 102, 1, 0, (.slice T_Effect), [.nil]⟩),
  (50, ⟨.other, 1, 0, .unit, [.undef]⟩),
  (51, ⟨.other, 1, 0, .unit, [.undef]⟩),
  (52, ⟨.slice 109, 1, 0, (.slice T_Effect), [.nil]⟩),
  (53, ⟨.other, 1, 0, .unit, [.undef]⟩),
  (54, ⟨.other, 1, 0, .unit, [.undef]⟩),
  (55, ⟨.other, 1, 0, .unit, [.undef]⟩),
  (56, ⟨.slice 3, 1, 0, (.slice (.int .i64)), [.nil]⟩),
  (57, ⟨.other, 1, 0, .unit, [.undef]⟩),
  (58, ⟨.other, 1, 0, .unit, [.undef]⟩),
  (59, ⟨.other, 1, 0, .unit, [.undef]⟩),
  (60, ⟨.other, 1, 0, .unit, [.undef]⟩),
  (61, ⟨.other, 1, 0, .unit, [.undef]⟩),
  (62, ⟨.slice 121, 1, 0, (.slice T_Trigger), [.nil]⟩),
  (63, ⟨.other, 1, 0, .unit, [.undef]⟩),
  (64, ⟨.slice 118, 1, 0, (.slice T_Trigger), [.nil]⟩),
  (65, ⟨.other, 1, 0, .unit, [.undef]⟩),
  (66, ⟨.other, 1, 0, .unit, [.undef]⟩),
  (67, ⟨.other, 1, 0, .unit, [.undef]⟩),
  (68, ⟨.other, 1, 0, .unit, [.undef]⟩),
  (69, ⟨.other, 1, 0, .unit, [.undef]⟩),
  (70, ⟨.other, 1, 0, .unit, [.undef]⟩),
  (71, ⟨.other, 1, 0, .unit, [.undef]⟩),
  (72, ⟨.other, 1, 0, .unit, [.undef]⟩),
  (73, ⟨.other, 1, 0, .unit, [.undef]⟩),
  (74, ⟨.other, 1, 0, .unit, [.undef]⟩),
  (75, ⟨.other, 1, 0, .unit, [.undef]⟩),
  (76, ⟨.other, 1, 0, .unit, [.undef]⟩),
  (77, ⟨.other, 1, 0, .unit, [.undef]⟩),
  (78, ⟨.struct [(0, 3), (1, 3), (2, 3), (3, 3), (4, 3), (5, 3), (6, 3), (7, 3), (8, 3), (9, 3), (10, 3), (11, 4), (12, 4)], 13, 0, T_Piece, [.int .i64 0, .int .i64 0, .int .i64 0, .int .i64 0, .int .i64 0, .int .i64 0, .int .i64 0, .int .i64 0, .int .i64 0, .int .i64 0, .int .i64 0, .bool false, .bool false]⟩),
  (79, ⟨.struct [(0, 3), (1, 3), (2, 3), (3, 3), (4, 3), (5, 3), (6, 3), (7, 3), (8, 3), (9, 3), (10, 3), (11, 4), (12, 4)], 13, 0, T_Piece, [.int .i64 0, .int .i64 0, .int .i64 0, .int .i64 0, .int .i64 0, .int .i64 0, .int .i64 0, .int .i64 0, .int .i64 0, .int .i64 0, .int .i64 0, .bool false, .bool false]⟩),
  (80, ⟨.struct [(0, 3), (1, 46), (8, 3), (9, 3), (10, 79)], 23, 0, T_Note, [.int .i64 0, .int .i64 0, .int .i64 0, .int .i64 0, .int .i64 0, .int .i64 0, .int .i64 0, .bool false, .int .i64 0, .int .i64 0, .int .i64 0, .int .i64 0, .int .i64 0, .int .i64 0, .int .i64 0, .int .i64 0, .int .i64 0, .int .i64 0, .int .i64 0, .int .i64 0, .int .i64 0, .bool false, .bool false]⟩),
  (81, ⟨.struct [(0, 3), (1, 46), (8, 3), (9, 3), (10, 79)], 23, 0, T_Note, [.int .i64 0, .int .i64 0, .int .i64 0, .int .i64 0, .int .i64 0, .int .i64 0, .int .i64 0, .bool false, .int .i64 0, .int .i64 0, .int .i64 0, .int .i64 0, .int .i64 0, .int .i64 0, .int .i64 0, .int .i64 0, .int .i64 0, .int .i64 0, .int .i64 0, .int .i64 0, .int .i64 0, .bool false, .bool false]⟩),
  (82, ⟨.other, 1, 0, .unit, [.undef]⟩),
  (83, ⟨.struct [(0, 3), (1, 3), (2, 3), (3, 3), (4, 3), (5, 3), (6, 3), (7, 3), (8, 3), (9, 3), (10, 3), (11, 4), (12, 4)], 13, 0, T_Piece, [.int .i64 0, .int .i64 0, .int .i64 0, .int .i64 0, .int .i64 0, .int .i64 0, .int .i64 0, .int .i64 0, .int .i64 0, .int .i64 0, .int .i64 0, .bool false, .bool false]⟩),
  (84, ⟨.struct [(0, 3), (1, 44), (8, 3), (9, 3), (10, 83)], 23, 0, T_Note, [.int .i64 0, .int .i64 0, .int .i64 0, .int .i64 0, .int .i64 0, .int .i64 0, .int .i64 0, .bool false, .int .i64 0, .int .i64 0, .int .i64 0, .int .i64 0, .int .i64 0, .int .i64 0, .int .i64 0, .int .i64 0, .int .i64 0, .int .i64 0, .int .i64 0, .int .i64 0, .int .i64 0, .bool false, .bool false]⟩),
  (85, ⟨.struct [(0, 3), (1, 44), (8, 3), (9, 3), (10, 83)], 23, 0, T_Note, [.int .i64 0, .int .i64 0, .int .i64 0, .int .i64 0, .int .i64 0, .int .i64 0, .int .i64 0, .bool false, .int .i64 0, .int .i64 0, .int .i64 0, .int .i64 0, .int .i64 0, .int .i64 0, .int .i64 0, .int .i64 0, .int .i64 0, .int .i64 0, .int .i64 0, .int .i64 0, .int .i64 0, .bool false, .bool false]⟩),
  (86, ⟨.other, 1, 0, .unit, [.undef]⟩),
  (87, ⟨.other, 1, 0, .unit, [.undef]⟩),
  (88, ⟨.other, 1, 0, .unit, [.undef]⟩),
  (89, ⟨.other, 1, 0, .unit, [.undef]⟩),
  (90, ⟨.other, 1, 0, .unit, [.undef]⟩),
  (91, ⟨.other, 1, 0, .unit, [.undef]⟩),
  (92, ⟨.other, 1, 0, .unit, [.undef]⟩),
  (93, ⟨.other, 1, 0, .unit, [.undef]⟩),
  (94, ⟨.struct [(0, 3), (1, 3), (2, 3), (3, 3), (4, 3), (5, 3), (6, 3)], 7, 0, T_Pat, [.int .i64 0, .int .i64 0, .int .i64 0, .int .i64 0, .int .i64 0, .int .i64 0, .int .i64 0]⟩),
  (95, ⟨.struct [(0, 3), (1, 3), (2, 3), (3, 3), (4, 3), (5, 3), (6, 3)], 7, 0, T_Pat, [.int .i64 0, .int .i64 0, .int .i64 0, .int .i64 0, .int .i64 0, .int .i64 0, .int .i64 0]⟩),
  (96, ⟨.struct [(0, 3), (1, 3)], 2, 0, T_Guard, [.int .i64 0, .int .i64 0]⟩),
  (97, ⟨.struct [(0, 3), (1, 3)], 2, 0, T_Guard, [.int .i64 0, .int .i64 0]⟩),
  (98, ⟨.slice 44, 1, 0, (.slice T_Event), [.nil]⟩),
  (99, ⟨.struct [(0, 3), (1, 3), (2, 3), (3, 3), (4, 3), (5, 4), (6, 98)], 7, 0, T_Act, [.int .i64 0, .int .i64 0, .int .i64 0, .int .i64 0, .int .i64 0, .bool false, .nil]⟩),
  (100, ⟨.struct [(0, 3), (1, 3), (2, 3), (3, 3), (4, 3), (5, 4), (6, 98)], 7, 0, T_Act, [.int .i64 0, .int .i64 0, .int .i64 0, .int .i64 0, .int .i64 0, .bool false, .nil]⟩),
  (101, ⟨.struct [(0, 3), (1, 3), (2, 3), (3, 3), (4, 95), (11, 97), (13, 100), (20, 3), (21, 3)], 22, 0, T_Effect, [.int .i64 0, .int .i64 0, .int .i64 0, .int .i64 0, .int .i64 0, .int .i64 0, .int .i64 0, .int .i64 0, .int .i64 0, .int .i64 0, .int .i64 0, .int .i64 0, .int .i64 0, .int .i64 0, .int .i64 0, .int .i64 0, .int .i64 0, .int .i64 0, .bool false, .nil, .int .i64 0, .int .i64 0]⟩),
  (102, ⟨.struct [(0, 3), (1, 3), (2, 3), (3, 3), (4, 95), (11, 97), (13, 100), (20, 3), (21, 3)], 22, 0, T_Effect, [.int .i64 0, .int .i64 0, .int .i64 0, .int .i64 0, .int .i64 0, .int .i64 0, .int .i64 0, .int .i64 0, .int .i64 0, .int .i64 0, .int .i64 0, .int .i64 0, .int .i64 0, .int .i64 0, .int .i64 0, .int .i64 0, .int .i64 0, .int .i64 0, .bool false, .nil, .int .i64 0, .int .i64 0]⟩),
  (103, ⟨.struct [(0, 3), (1, 3), (2, 3), (3, 3), (4, 3), (5, 3), (6, 3)], 7, 0, T_Pat, [.int .i64 0, .int .i64 0, .int .i64 0, .int .i64 0, .int .i64 0, .int .i64 0, .int .i64 0]⟩),
  (104, ⟨.struct [(0, 3), (1, 3)], 2, 0, T_Guard, [.int .i64 0, .int .i64 0]⟩),
  (105, ⟨.slice 46, 1, 0, (.slice T_Event), [.nil]⟩),
  (106, ⟨.struct [(0, 3), (1, 3), (2, 3), (3, 3), (4, 3), (5, 4), (6, 105)], 7, 0, T_Act, [.int .i64 0, .int .i64 0, .int .i64 0, .int .i64 0, .int .i64 0, .bool false, .nil]⟩),
  (107, ⟨.struct [(0, 3), (1, 3), (2, 3), (3, 3), (4, 3), (5, 4), (6, 105)], 7, 0, T_Act, [.int .i64 0, .int .i64 0, .int .i64 0, .int .i64 0, .int .i64 0, .bool false, .nil]⟩),
  (108, ⟨.struct [(0, 3), (1, 3), (2, 3), (3, 3), (4, 103), (11, 104), (13, 107), (20, 3), (21, 3)], 22, 0, T_Effect, [.int .i64 0, .int .i64 0, .int .i64 0, .int .i64 0, .int .i64 0, .int .i64 0, .int .i64 0, .int .i64 0, .int .i64 0, .int .i64 0, .int .i64 0, .int .i64 0, .int .i64 0, .int .i64 0, .int .i64 0, .int .i64 0, .int .i64 0, .int .i64 0, .bool false, .nil, .int .i64 0, .int .i64 0]⟩),
  (109, ⟨.struct [(0, 3), (1, 3), (2, 3), (3, 3), (4, 103), (11, 104), (13, 107), (20, 3), (21, 3)], 22, 0, T_Effect, [.int .i64 0, .int .i64 0, .int .i64 0, .int .i64 0, .int .i64 0, .int .i64 0, .int .i64 0, .int .i64 0, .int .i64 0, .int .i64 0, .int .i64 0, .int .i64 0, .int .i64 0, .int .i64 0, .int .i64 0, .int .i64 0, .int .i64 0, .int .i64 0, .bool false, .nil, .int .i64 0, .int .i64 0]⟩),
  (110, ⟨.other, 1, 0, .unit, [.undef]⟩),
  (111, ⟨.other, 1, 0, .unit, [.undef]⟩),
  (112, ⟨.struct [(0, 3), (1, 3), (2, 4)], 3, 0, T_Side, [.int .i64 0, .int .i64 0, .bool false]⟩),
  (113, ⟨.struct [(0, 3), (1, 3), (2, 4)], 3, 0, T_Side, [.int .i64 0, .int .i64 0, .bool false]⟩),
  (114, ⟨.other, 1, 0, .unit, [.undef]⟩),
  (115, ⟨.other, 1, 0, .unit, [.undef]⟩),
  (116, ⟨.other, 1, 0, .unit, [.undef]⟩),
  (117, ⟨.struct [(0, 3), (1, 3), (2, 3), (3, 79)], 16, 0, T_Trigger, [.int .i64 0, .int .i64 0, .int .i64 0, .int .i64 0, .int .i64 0, .int .i64 0, .int .i64 0, .int .i64 0, .int .i64 0, .int .i64 0, .int .i64 0, .int .i64 0, .int .i64 0, .int .i64 0, .bool false, .bool false]⟩),
  (118, ⟨.struct [(0, 3), (1, 3), (2, 3), (3, 79)], 16, 0, T_Trigger, [.int .i64 0, .int .i64 0, .int .i64 0, .int .i64 0, .int .i64 0, .int .i64 0, .int .i64 0, .int .i64 0, .int .i64 0, .int .i64 0, .int .i64 0, .int .i64 0, .int .i64 0, .int .i64 0, .bool false, .bool false]⟩),
  (119, ⟨.other, 1, 0, .unit, [.undef]⟩),
  (120, ⟨.struct [(0, 3), (1, 3), (2, 3), (3, 83)], 16, 0, T_Trigger, [.int .i64 0, .int .i64 0, .int .i64 0, .int .i64 0, .int .i64 0, .int .i64 0, .int .i64 0, .int .i64 0, .int .i64 0, .int .i64 0, .int .i64 0, .int .i64 0, .int .i64 0, .int .i64 0, .bool false, .bool false]⟩),
  (121, ⟨.struct [(0, 3), (1, 3), (2, 3), (3, 83)], 16, 0, T_Trigger, [.int .i64 0, .int .i64 0, .int .i64 0, .int .i64 0, .int .i64 0, .int .i64 0, .int .i64 0, .int .i64 0, .int .i64 0, .int .i64 0, .int .i64 0, .int .i64 0, .int .i64 0, .int .i64 0, .bool false, .bool false]⟩),
  (122, ⟨.other, 1, 0, .unit, [.undef]⟩),
  (123, ⟨.other, 1, 0, .unit, [.undef]⟩),
  (124, ⟨.other, 1, 0, .unit, [.undef]⟩),
  (125, ⟨.other, 1, 0, .unit, [.undef]⟩),
  (126, ⟨.other, 1, 0, .unit, [.undef]⟩),
  (127, ⟨.other, 1, 0, .unit, [.undef]⟩),
  (128, ⟨.other, 1, 0, .unit, [.undef]⟩),
  (129, ⟨.other, 1, 0, .unit, [.undef]⟩),
  (130, ⟨.other, 1, 0, .unit, [.undef]⟩),
  (131, ⟨.other, 1, 0, .unit, [.undef]⟩),
  (132, ⟨.other, 1, 0, .unit, [.undef]⟩),
  (133, ⟨.struct [(0, 3), (1, 3), (2, 4)], 3, 0, T_Side, [.int .i64 0, .int .i64 0, .bool false]⟩),
  (134, ⟨.other, 1, 0, .unit, [.undef]⟩),
  (135, ⟨.other, 1, 0, .unit, [.undef]⟩),
  (136, ⟨.other, 1, 0, .unit, [.undef]⟩),
  (137, ⟨.other, 1, 0, .unit, [.undef]⟩),
  (138, ⟨.other, 1, 0, .unit, [.undef]⟩),
  (139, ⟨.other, 1, 0, .unit, [.undef]⟩),
  (140, ⟨.other, 1, 0, .unit, [.undef]⟩),
  (141, ⟨.other, 1, 0, .unit, [.undef]⟩),
  (142, ⟨.other, 1, 0, .unit, [.undef]⟩),
  (143, ⟨.other, 1, 0, .unit, [.undef]⟩),
  (144, ⟨.other, 1, 0, .unit, [.undef]⟩),
  (145, ⟨.other, 1, 0, .unit, [.undef]⟩),
  (146, ⟨.other, 1, 0, .unit, [.undef]⟩),
  (147, ⟨.other, 1, 0, .unit, [.undef]⟩),
  (148, ⟨.other, 1, 0, .unit, [.undef]⟩),
  (149, ⟨.other, 1, 0, .unit, [.undef]⟩),
  (155, ⟨.other, 1, 0, .unit, [.undef]⟩),
  (156, ⟨.int .u32, 1, 0, (.int .u32), [.int .u32 0]⟩),
  (157, ⟨.int .u8, 1, 0, (.int .u8), [.int .u8 0]⟩),
  (158, ⟨.int .u8, 1, 0, (.int .u8), [.int .u8 0]⟩),
  (159, ⟨.other, 1, 0, .unit, [.undef]⟩),
  (160, ⟨.other, 1, 0, .unit, [.undef]⟩),
  (161, ⟨.int .i32, 1, 0, (.int .i32), [.int .i32 0]⟩),
  (162, ⟨.int .i32, 1, 0, (.int .i32), [.int .i32 0]⟩)]
theorem tabOk : TabOk Try.prog tab := tabB_ok (by kernel_rfl)
theorem mixed : Try.prog.follows .mixedOrders = true := by kernel_rfl
/-! loop.example/g00486/laws.szNoteS -/
def laws_szNoteS (a0 : (List T_Note.D)) (a1 : Int) : Option Int :=
 bif decide ((IntKind.wrap .i64 (a1 - (a0.length : Int))) < 0) then (
 some (-1))
 else (
 some (IntKind.wrap .i64 (a1 - (a0.length : Int))))
def laws_szNoteS_c : Ct := .pure true false (.pair (.slice T_Note) (.pair (.int .i64) .unit)) (.int .i64) (fun x => laws_szNoteS x.1 x.2.1)
theorem laws_szNoteS_ct : CtOk Try.prog 15 laws_szNoteS_c := pure_ct (E := { T := tab, G := [] }) (EnvOk.nil tabOk) mixed (fn := Try.f15) _ _ _ _ _ .none Try.func15 (by kernel_rfl) (fun x => by kernel_rfl)
/-! loop.example/g00486/laws.toEvent -/
def laws_toEvent (a0 : T_Event.D) : Option T_Event.D :=
 some a0
def laws_toEvent_c : Ct := .pure true false (.pair T_Event .unit) T_Event (fun x => laws_toEvent x.1)
theorem laws_toEvent_ct : CtOk Try.prog 28 laws_toEvent_c := pure_ct (E := { T := tab, G := [] }) (EnvOk.nil tabOk) mixed (fn := Try.f28) _ _ _ _ _ .none Try.func28 (by kernel_rfl) (fun x => by kernel_rfl)
/-! loop.example/g00486/laws.toPiece -/
def laws_toPiece (a0 : T_Piece.D) : Option T_Piece.D :=
 some a0
def laws_toPiece_c : Ct := .pure true false (.pair T_Piece .unit) T_Piece (fun x => laws_toPiece x.1)
theorem laws_toPiece_ct : CtOk Try.prog 94 laws_toPiece_c := pure_ct (E := { T := tab, G := [] }) (EnvOk.nil tabOk) mixed (fn := Try.f94) _ _ _ _ _ .none Try.func94 (by kernel_rfl) (fun x => by kernel_rfl)
/-! loop.example/g00486/laws.toNote -/
def laws_toNote (a0 : T_Note.D) : Option T_Note.D :=
(laws_toEvent a0.2.1).bind fun y1 =>
(laws_toPiece a0.2.2.2.2.1).bind fun y2 =>
 some (a0.1, y1, a0.2.2.1, a0.2.2.2.1, y2, ())
def laws_toNote_c : Ct := .pure true false (.pair T_Note .unit) T_Note (fun x => laws_toNote x.1)
theorem laws_toNote_ct : CtOk Try.prog 64 laws_toNote_c := pure_ct (E := { T := tab, G := [(28, laws_toEvent_c), (94, laws_toPiece_c)] }) (EnvOk.cons laws_toEvent_ct (EnvOk.cons laws_toPiece_ct (EnvOk.nil tabOk))) mixed (fn := Try.f64) _ _ _ _ _ .none Try.func64 (by kernel_rfl) (fun x => by kernel_rfl)
/-! loop.example/g00486/laws.toNoteS -/
def laws_toNoteS_l1 (a0 : (List T_Note.D)) : ((List T_Note.D) × Int) → Option (((List T_Note.D) × Int) ⊕ ((List T_Note.D) × Int)) := fun s2 =>
 bif decide (s2.2 < (a0.length : Int)) then (
 idx a0 s2.2 fun x3 =>
(laws_toNote x3).bind fun y4 =>
 idx s2.1 s2.2 fun _ =>
(s2.1[(s2.2 : Int).toNat]?).bind fun x5 =>
 let u6 : (List T_Note.D) := s2.1.set (s2.2 : Int).toNat y4
 some (.inl (u6, IntKind.wrap .i64 (s2.2 + 1))))
 else (
 some (.inr s2))
def laws_toNoteS (a0 : (List T_Note.D)) : Option (List T_Note.D) :=
 if 0 ≤ (a0.length : Int) then (if ((a0.length : Int)).toNat * (24 * 23) ≤ room then (
(while_ (laws_toNoteS_l1 a0) ((List.replicate ((a0.length : Int)).toNat (0, (0, 0, 0, 0, 0, 0, false, ()), 0, 0, (0, 0, 0, 0, 0, 0, 0, 0, 0, 0, 0, false, false, ()), ())), 0)).bind fun o7 =>
 some o7.1) else none) else none
def laws_toNoteS_h : Hints := (.node none none .none (.node none none .none (.node none none (.node none none .none (.node none none (.node none (some ⟨[.tmpO 3 0 (.slice T_Note), .tmp 4 (.int .i64)], [some 0], none, []⟩) .none .none) .none)) .none)))
def laws_toNoteS_c : Ct := .pure true false (.pair (.slice T_Note) .unit) (.slice T_Note) (fun x => laws_toNoteS x.1)
theorem laws_toNoteS_ct : CtOk Try.prog 17 laws_toNoteS_c := pure_ct (E := { T := tab, G := [(64, laws_toNote_c)] }) (EnvOk.cons laws_toNote_ct (EnvOk.nil tabOk)) mixed (fn := Try.f17) _ _ _ _ _ laws_toNoteS_h Try.func17 (by kernel_rfl) (fun x => by kernel_rfl)
def laws_toNoteS_fresh_c : Ct := .pure true true (.pair (.slice T_Note) .unit) (.slice T_Note) (fun x => laws_toNoteS x.1)
theorem laws_toNoteS_fresh_ct : CtOk Try.prog 17 laws_toNoteS_fresh_c := pure_ct (E := { T := tab, G := [(64, laws_toNote_c)] }) (EnvOk.cons laws_toNote_ct (EnvOk.nil tabOk)) mixed (fn := Try.f17) _ _ _ _ _ laws_toNoteS_h Try.func17 (by kernel_rfl) (fun x => by kernel_rfl)
/-! loop.example/g00486/spec.SameNotes -/
def spec_SameNotes_l1 (a0 : (List T_Note.D)) (a1 : (List T_Note.D)) : Int → Option (Int ⊕ (Int ⊕ Bool)) := fun s1 =>
 bif decide (s1 < (a0.length : Int)) then (
 idx a0 s1 fun x2 =>
 idx a1 s1 fun x3 =>
 bif (!((x2.1 == x3.1) && (((x2.2.1.1 == x3.2.1.1) && ((x2.2.1.2.1 == x3.2.1.2.1) && ((x2.2.1.2.2.1 == x3.2.1.2.2.1) && ((x2.2.1.2.2.2.1 == x3.2.1.2.2.2.1) && ((x2.2.1.2.2.2.2.1 == x3.2.1.2.2.2.2.1) && ((x2.2.1.2.2.2.2.2.1 == x3.2.1.2.2.2.2.2.1) && ((x2.2.1.2.2.2.2.2.2.1 == x3.2.1.2.2.2.2.2.2.1) && true))))))) && ((x2.2.2.1 == x3.2.2.1) && ((x2.2.2.2.1 == x3.2.2.2.1) && (((x2.2.2.2.2.1.1 == x3.2.2.2.2.1.1) && ((x2.2.2.2.2.1.2.1 == x3.2.2.2.2.1.2.1) && ((x2.2.2.2.2.1.2.2.1 == x3.2.2.2.2.1.2.2.1) && ((x2.2.2.2.2.1.2.2.2.1 == x3.2.2.2.2.1.2.2.2.1) && ((x2.2.2.2.2.1.2.2.2.2.1 == x3.2.2.2.2.1.2.2.2.2.1) && ((x2.2.2.2.2.1.2.2.2.2.2.1 == x3.2.2.2.2.1.2.2.2.2.2.1) && ((x2.2.2.2.2.1.2.2.2.2.2.2.1 == x3.2.2.2.2.1.2.2.2.2.2.2.1) && ((x2.2.2.2.2.1.2.2.2.2.2.2.2.1 == x3.2.2.2.2.1.2.2.2.2.2.2.2.1) && ((x2.2.2.2.2.1.2.2.2.2.2.2.2.2.1 == x3.2.2.2.2.1.2.2.2.2.2.2.2.2.1) && ((x2.2.2.2.2.1.2.2.2.2.2.2.2.2.2.1 == x3.2.2.2.2.1.2.2.2.2.2.2.2.2.2.1) && ((x2.2.2.2.2.1.2.2.2.2.2.2.2.2.2.2.1 == x3.2.2.2.2.1.2.2.2.2.2.2.2.2.2.2.1) && ((x2.2.2.2.2.1.2.2.2.2.2.2.2.2.2.2.2.1 == x3.2.2.2.2.1.2.2.2.2.2.2.2.2.2.2.2.1) && ((x2.2.2.2.2.1.2.2.2.2.2.2.2.2.2.2.2.2.1 == x3.2.2.2.2.1.2.2.2.2.2.2.2.2.2.2.2.2.1) && true))))))))))))) && true)))))) then (
 some (.inr (.inr false)))
 else (
 some (.inl (IntKind.wrap .i64 (s1 + 1)))))
 else (
 some (.inr (.inl s1)))
def spec_SameNotes (a0 : (List T_Note.D)) (a1 : (List T_Note.D)) : Option Bool :=
 bif ((a0.length : Int) != (a1.length : Int)) then (
 some false)
 else (
(while_ (spec_SameNotes_l1 a0 a1) 0).bind fun o4 =>
 match o4 with
| .inl s5 => (
 some true)
| .inr o6 => (
 some o6))
def spec_SameNotes_h : Hints := (.node none none .none (.node none none .none (.node none none (.node none none .none (.node none none (.node none (some ⟨[.tmp 5 (.int .i64)], [some 0], some [.tmp 4 .bool], []⟩) .none .none) .none)) .none)))
def spec_SameNotes_c : Ct := .pure true false (.pair (.slice T_Note) (.pair (.slice T_Note) .unit)) .bool (fun x => spec_SameNotes x.1 x.2.1)
theorem spec_SameNotes_ct : CtOk Try.prog 16 spec_SameNotes_c := pure_ct (E := { T := tab, G := [] }) (EnvOk.nil tabOk) mixed (fn := Try.f16) _ _ _ _ _ spec_SameNotes_h Try.func16 (by kernel_rfl) (fun x => by kernel_rfl)
/-! slices.Equal[[]loop.example/g00486/impl.Note,loop.example/g00486/impl.Note] -/
def slices_Equal_impl_Note_l1 (a0 : (List T_Note.D)) (a1 : (List T_Note.D)) : Int → Option (Int ⊕ (Int ⊕ Bool)) := fun s1 =>
 bif decide (s1 < (a0.length : Int)) then (
 idx a0 s1 fun x2 =>
 idx a1 s1 fun x3 =>
 bif (!((x2.1 == x3.1) && (((x2.2.1.1 == x3.2.1.1) && ((x2.2.1.2.1 == x3.2.1.2.1) && ((x2.2.1.2.2.1 == x3.2.1.2.2.1) && ((x2.2.1.2.2.2.1 == x3.2.1.2.2.2.1) && ((x2.2.1.2.2.2.2.1 == x3.2.1.2.2.2.2.1) && ((x2.2.1.2.2.2.2.2.1 == x3.2.1.2.2.2.2.2.1) && ((x2.2.1.2.2.2.2.2.2.1 == x3.2.1.2.2.2.2.2.2.1) && true))))))) && ((x2.2.2.1 == x3.2.2.1) && ((x2.2.2.2.1 == x3.2.2.2.1) && (((x2.2.2.2.2.1.1 == x3.2.2.2.2.1.1) && ((x2.2.2.2.2.1.2.1 == x3.2.2.2.2.1.2.1) && ((x2.2.2.2.2.1.2.2.1 == x3.2.2.2.2.1.2.2.1) && ((x2.2.2.2.2.1.2.2.2.1 == x3.2.2.2.2.1.2.2.2.1) && ((x2.2.2.2.2.1.2.2.2.2.1 == x3.2.2.2.2.1.2.2.2.2.1) && ((x2.2.2.2.2.1.2.2.2.2.2.1 == x3.2.2.2.2.1.2.2.2.2.2.1) && ((x2.2.2.2.2.1.2.2.2.2.2.2.1 == x3.2.2.2.2.1.2.2.2.2.2.2.1) && ((x2.2.2.2.2.1.2.2.2.2.2.2.2.1 == x3.2.2.2.2.1.2.2.2.2.2.2.2.1) && ((x2.2.2.2.2.1.2.2.2.2.2.2.2.2.1 == x3.2.2.2.2.1.2.2.2.2.2.2.2.2.1) && ((x2.2.2.2.2.1.2.2.2.2.2.2.2.2.2.1 == x3.2.2.2.2.1.2.2.2.2.2.2.2.2.2.1) && ((x2.2.2.2.2.1.2.2.2.2.2.2.2.2.2.2.1 == x3.2.2.2.2.1.2.2.2.2.2.2.2.2.2.2.1) && ((x2.2.2.2.2.1.2.2.2.2.2.2.2.2.2.2.2.1 == x3.2.2.2.2.1.2.2.2.2.2.2.2.2.2.2.2.1) && ((x2.2.2.2.2.1.2.2.2.2.2.2.2.2.2.2.2.2.1 == x3.2.2.2.2.1.2.2.2.2.2.2.2.2.2.2.2.2.1) && true))))))))))))) && true)))))) then (
 some (.inr (.inr false)))
 else (
 some (.inl (IntKind.wrap .i64 (s1 + 1)))))
 else (
 some (.inr (.inl s1)))
def slices_Equal_impl_Note (a0 : (List T_Note.D)) (a1 : (List T_Note.D)) : Option Bool :=
 bif ((a0.length : Int) != (a1.length : Int)) then (
 some false)
 else (
(while_ (slices_Equal_impl_Note_l1 a0 a1) 0).bind fun o4 =>
 match o4 with
| .inl s5 => (
 some true)
| .inr o6 => (
 some o6))
def slices_Equal_impl_Note_h : Hints := (.node none none .none (.node none none .none (.node none none (.node none none .none (.node none none (.node none (some ⟨[.tmp 13 (.int .i64)], [some 0], some [.tmp 4 .bool], []⟩) .none .none) .none)) .none)))
def slices_Equal_impl_Note_c : Ct := .pure true false (.pair (.slice T_Note) (.pair (.slice T_Note) .unit)) .bool (fun x => slices_Equal_impl_Note x.1 x.2.1)
theorem slices_Equal_impl_Note_ct : CtOk Try.prog 65 slices_Equal_impl_Note_c := pure_ct (E := { T := tab, G := [] }) (EnvOk.nil tabOk) mixed (fn := Try.f65) _ _ _ _ _ slices_Equal_impl_Note_h Try.func65 (by kernel_rfl) (fun x => by kernel_rfl)
/-! loop.example/g00486/impl.SameNotes -/
def impl_SameNotes (a0 : (List T_Note.D)) (a1 : (List T_Note.D)) : Option Bool :=
(slices_Equal_impl_Note a0 a1).bind fun y1 =>
 some y1
def impl_SameNotes_c : Ct := .pure true false (.pair (.slice T_Note) (.pair (.slice T_Note) .unit)) .bool (fun x => impl_SameNotes x.1 x.2.1)
theorem impl_SameNotes_ct : CtOk Try.prog 18 impl_SameNotes_c := pure_ct (E := { T := tab, G := [(65, slices_Equal_impl_Note_c)] }) (EnvOk.cons slices_Equal_impl_Note_ct (EnvOk.nil tabOk)) mixed (fn := Try.f18) _ _ _ _ _ .none Try.func18 (by kernel_rfl) (fun x => by kernel_rfl)
/-! loop.example/g00486/laws.eqEvent -/
def laws_eqEvent (a0 : T_Event.D) (a1 : T_Event.D) : Option Bool :=
 bif (a0.1 != a1.1) then (
 some false)
 else (
 bif (a0.2.1 != a1.2.1) then (
 some false)
 else (
 bif (a0.2.2.1 != a1.2.2.1) then (
 some false)
 else (
 bif (a0.2.2.2.1 != a1.2.2.2.1) then (
 some false)
 else (
 bif (a0.2.2.2.2.1 != a1.2.2.2.2.1) then (
 some false)
 else (
 bif (a0.2.2.2.2.2.1 != a1.2.2.2.2.2.1) then (
 some false)
 else (
 bif (a0.2.2.2.2.2.2.1 != a1.2.2.2.2.2.2.1) then (
 some false)
 else (
 some true)))))))
def laws_eqEvent_c : Ct := .pure true false (.pair T_Event (.pair T_Event .unit)) .bool (fun x => laws_eqEvent x.1 x.2.1)
theorem laws_eqEvent_ct : CtOk Try.prog 95 laws_eqEvent_c := pure_ct (E := { T := tab, G := [] }) (EnvOk.nil tabOk) mixed (fn := Try.f95) _ _ _ _ _ .none Try.func95 (by kernel_rfl) (fun x => by kernel_rfl)
/-! loop.example/g00486/laws.eqPiece -/
def laws_eqPiece (a0 : T_Piece.D) (a1 : T_Piece.D) : Option Bool :=
 bif (a0.1 != a1.1) then (
 some false)
 else (
 bif (a0.2.1 != a1.2.1) then (
 some false)
 else (
 bif (a0.2.2.1 != a1.2.2.1) then (
 some false)
 else (
 bif (a0.2.2.2.1 != a1.2.2.2.1) then (
 some false)
 else (
 bif (a0.2.2.2.2.1 != a1.2.2.2.2.1) then (
 some false)
 else (
 bif (a0.2.2.2.2.2.1 != a1.2.2.2.2.2.1) then (
 some false)
 else (
 bif (a0.2.2.2.2.2.2.1 != a1.2.2.2.2.2.2.1) then (
 some false)
 else (
 bif (a0.2.2.2.2.2.2.2.1 != a1.2.2.2.2.2.2.2.1) then (
 some false)
 else (
 bif (a0.2.2.2.2.2.2.2.2.1 != a1.2.2.2.2.2.2.2.2.1) then (
 some false)
 else (
 bif (a0.2.2.2.2.2.2.2.2.2.1 != a1.2.2.2.2.2.2.2.2.2.1) then (
 some false)
 else (
 bif (a0.2.2.2.2.2.2.2.2.2.2.1 != a1.2.2.2.2.2.2.2.2.2.2.1) then (
 some false)
 else (
 bif (a0.2.2.2.2.2.2.2.2.2.2.2.1 != a1.2.2.2.2.2.2.2.2.2.2.2.1) then (
 some false)
 else (
 bif (a0.2.2.2.2.2.2.2.2.2.2.2.2.1 != a1.2.2.2.2.2.2.2.2.2.2.2.2.1) then (
 some false)
 else (
 some true)))))))))))))
def laws_eqPiece_c : Ct := .pure true false (.pair T_Piece (.pair T_Piece .unit)) .bool (fun x => laws_eqPiece x.1 x.2.1)
theorem laws_eqPiece_ct : CtOk Try.prog 90 laws_eqPiece_c := pure_ct (E := { T := tab, G := [] }) (EnvOk.nil tabOk) mixed (fn := Try.f90) _ _ _ _ _ .none Try.func90 (by kernel_rfl) (fun x => by kernel_rfl)
/-! loop.example/g00486/laws.eqNote -/
def laws_eqNote (a0 : T_Note.D) (a1 : T_Note.D) : Option Bool :=
 bif (a0.1 != a1.1) then (
 some false)
 else (
(laws_eqEvent a0.2.1 a1.2.1).bind fun y1 =>
 bif (!y1) then (
 some false)
 else (
 bif (a0.2.2.1 != a1.2.2.1) then (
 some false)
 else (
 bif (a0.2.2.2.1 != a1.2.2.2.1) then (
 some false)
 else (
(laws_eqPiece a0.2.2.2.2.1 a1.2.2.2.2.1).bind fun y2 =>
 bif (!y2) then (
 some false)
 else (
 some true)))))
def laws_eqNote_c : Ct := .pure true false (.pair T_Note (.pair T_Note .unit)) .bool (fun x => laws_eqNote x.1 x.2.1)
theorem laws_eqNote_ct : CtOk Try.prog 66 laws_eqNote_c := pure_ct (E := { T := tab, G := [(90, laws_eqPiece_c), (95, laws_eqEvent_c)] }) (EnvOk.cons laws_eqPiece_ct (EnvOk.cons laws_eqEvent_ct (EnvOk.nil tabOk))) mixed (fn := Try.f66) _ _ _ _ _ .none Try.func66 (by kernel_rfl) (fun x => by kernel_rfl)
/-! loop.example/g00486/laws.eqNoteS -/
def laws_eqNoteS_l1 (a0 : (List T_Note.D)) (a1 : (List T_Note.D)) : Int → Option (Int ⊕ (Int ⊕ Bool)) := fun s1 =>
 bif decide (s1 < (a0.length : Int)) then (
 idx a0 s1 fun x2 =>
 idx a1 s1 fun x3 =>
(laws_eqNote x2 x3).bind fun y4 =>
 bif (!y4) then (
 some (.inr (.inr false)))
 else (
 some (.inl (IntKind.wrap .i64 (s1 + 1)))))
 else (
 some (.inr (.inl s1)))
def laws_eqNoteS (a0 : (List T_Note.D)) (a1 : (List T_Note.D)) : Option Bool :=
 bif ((a0.length : Int) != (a1.length : Int)) then (
 some false)
 else (
(while_ (laws_eqNoteS_l1 a0 a1) 0).bind fun o5 =>
 match o5 with
| .inl s6 => (
 some true)
| .inr o7 => (
 some o7))
def laws_eqNoteS_h : Hints := (.node none none .none (.node none none .none (.node none none (.node none none .none (.node none none (.node none (some ⟨[.tmp 5 (.int .i64)], [some 0], some [.tmp 4 .bool], []⟩) .none .none) .none)) .none)))
def laws_eqNoteS_c : Ct := .pure true false (.pair (.slice T_Note) (.pair (.slice T_Note) .unit)) .bool (fun x => laws_eqNoteS x.1 x.2.1)
theorem laws_eqNoteS_ct : CtOk Try.prog 19 laws_eqNoteS_c := pure_ct (E := { T := tab, G := [(66, laws_eqNote_c)] }) (EnvOk.cons laws_eqNote_ct (EnvOk.nil tabOk)) mixed (fn := Try.f19) _ _ _ _ _ laws_eqNoteS_h Try.func19 (by kernel_rfl) (fun x => by kernel_rfl)
/-! loop.example/g00486/laws.FnExactSameNotes -/
def laws_FnExactSameNotes (a0 : (List T_Note.D)) (a1 : (List T_Note.D)) : Option Bool :=
(laws_szNoteS a0 1048576).bind fun y1 =>
 bif decide (y1 < 0) then (
 some true)
 else (
(laws_szNoteS a1 y1).bind fun y2 =>
 bif decide (y2 < 0) then (
 some true)
 else (
(laws_toNoteS a0).bind fun y3 =>
(laws_toNoteS a1).bind fun y4 =>
(spec_SameNotes y3 y4).bind fun y5 =>
(laws_toNoteS a0).bind fun y6 =>
(laws_toNoteS a1).bind fun y7 =>
(impl_SameNotes y6 y7).bind fun y8 =>
 bif (y8 != y5) then (
 some false)
 else (
(laws_toNoteS a0).bind fun y9 =>
(laws_eqNoteS y6 y9).bind fun y10 =>
 bif (!y10) then (
 some false)
 else (
(laws_toNoteS a1).bind fun y11 =>
(laws_eqNoteS y7 y11).bind fun y12 =>
 bif (!y12) then (
 some false)
 else (
 some true)))))
def laws_FnExactSameNotes_c : Ct := .pure true false (.pair (.slice T_Note) (.pair (.slice T_Note) .unit)) .bool (fun x => laws_FnExactSameNotes x.1 x.2.1)
theorem laws_FnExactSameNotes_ct : CtOk Try.prog 3 laws_FnExactSameNotes_c := pure_ct (E := { T := tab, G := [(15, laws_szNoteS_c), (16, spec_SameNotes_c), (17, laws_toNoteS_fresh_c), (18, impl_SameNotes_c), (19, laws_eqNoteS_c)] }) (EnvOk.cons laws_szNoteS_ct (EnvOk.cons spec_SameNotes_ct (EnvOk.cons laws_toNoteS_fresh_ct (EnvOk.cons impl_SameNotes_ct (EnvOk.cons laws_eqNoteS_ct (EnvOk.nil tabOk)))))) mixed (fn := Try.f3) _ _ _ _ _ .none Try.func3 (by kernel_rfl) (fun x => by kernel_rfl)
/-! loop.example/g00486/spec.Upto -/
def spec_Upto (a0 : Int) (a1 : Int) : Option Int :=
((bif decide (a1 < a0) then (
 some a1)
 else (
 some a0)) : Option Int).bind fun o1 =>
 bif decide (o1 < 0) then (
 some 0)
 else (
 some o1)
def spec_Upto_h : Hints := (.node none none .none (.node none none .none (.node none none (.node none none .none (.node (some ⟨[.tmp 5 (.int .i64)], [none], none, []⟩) none .none .none)) .none)))
def spec_Upto_c : Ct := .pure true false T_Guard (.int .i64) (fun x => spec_Upto x.1 x.2.1)
theorem spec_Upto_ct : CtOk Try.prog 67 spec_Upto_c := pure_ct (E := { T := tab, G := [] }) (EnvOk.nil tabOk) mixed (fn := Try.f67) _ _ _ _ _ spec_Upto_h Try.func67 (by kernel_rfl) (fun x => by kernel_rfl)
/-! loop.example/g00486/spec.Dealt -/
def spec_Dealt_l1 (a0 : (List T_Note.D)) (a1 : Int) : (Int × Int) → Option ((Int × Int) ⊕ (Int × Int)) := fun s1 =>
 bif decide (s1.2 < (a0.length : Int)) then (
((idx a0 s1.2 fun x2 =>
 bif (x2.1 == 1) then (
 idx a0 s1.2 fun x3 =>
 some (x3.2.1.2.1 == a1))
 else (
 some false)) : Option Bool).bind fun o4 =>
((bif o4 then (
 idx a0 s1.2 fun x5 =>
(spec_Upto x5.2.2.1 2147483647).bind fun y6 =>
 some (IntKind.wrap .i64 (s1.1 + y6)))
 else (
 some s1.1)) : Option Int).bind fun o7 =>
 some (.inl (o7, IntKind.wrap .i64 (s1.2 + 1))))
 else (
 some (.inr s1))
def spec_Dealt (a0 : (List T_Note.D)) (a1 : Int) : Option Int :=
(while_ (spec_Dealt_l1 a0 a1) (0, 0)).bind fun o8 =>
 some o8.1
def spec_Dealt_h : Hints := (.node none none .none (.node none none .none (.node none none (.node none none .none (.node none none (.node none (some ⟨[.tmp 5 (.int .i64), .tmp 6 (.int .i64)], [some 0], none, []⟩) (.node none none .none (.node none none (.node none none (.node none none (.node (some ⟨[.tmp 28 .bool], [none], none, []⟩) none .none .none) (.node (some ⟨[.tmp 5 (.int .i64)], [none], none, []⟩) none .none .none)) .none) .none)) .none) .none)) .none)))
def spec_Dealt_c : Ct := .pure true false (.pair (.slice T_Note) (.pair (.int .i64) .unit)) (.int .i64) (fun x => spec_Dealt x.1 x.2.1)
theorem spec_Dealt_ct : CtOk Try.prog 20 spec_Dealt_c := pure_ct (E := { T := tab, G := [(67, spec_Upto_c)] }) (EnvOk.cons spec_Upto_ct (EnvOk.nil tabOk)) mixed (fn := Try.f20) _ _ _ _ _ spec_Dealt_h Try.func20 (by kernel_rfl) (fun x => by kernel_rfl)
/-! loop.example/g00486/impl.Upto -/
def impl_Upto (a0 : Int) (a1 : Int) : Option Int :=
 some (if (if a1 < a0 then a1 else a0) > 0 then (if a1 < a0 then a1 else a0) else 0)
def impl_Upto_c : Ct := .pure true false T_Guard (.int .i64) (fun x => impl_Upto x.1 x.2.1)
theorem impl_Upto_ct : CtOk Try.prog 68 impl_Upto_c := pure_ct (E := { T := tab, G := [] }) (EnvOk.nil tabOk) mixed (fn := Try.f68) _ _ _ _ _ .none Try.func68 (by kernel_rfl) (fun x => by kernel_rfl)
/-! loop.example/g00486/impl.Dealt -/
def impl_Dealt_l1 (a0 : (List T_Note.D)) (a1 : Int) : (Int × Int) → Option ((Int × Int) ⊕ (Int × Int)) := fun s1 =>
 bif decide (s1.2 < (a0.length : Int)) then (
 idx a0 s1.2 fun x2 =>
((bif (x2.1 == 1) then (
 some (x2.2.1.2.1 == a1))
 else (
 some false)) : Option Bool).bind fun o3 =>
 bif o3 then (
(impl_Upto x2.2.2.1 2147483647).bind fun y4 =>
 some (.inl (IntKind.wrap .i64 (s1.1 + y4), IntKind.wrap .i64 (s1.2 + 1))))
 else (
 some (.inl (s1.1, IntKind.wrap .i64 (s1.2 + 1)))))
 else (
 some (.inr s1))
def impl_Dealt (a0 : (List T_Note.D)) (a1 : Int) : Option Int :=
(while_ (impl_Dealt_l1 a0 a1) (0, 0)).bind fun o5 =>
 some o5.1
def impl_Dealt_h : Hints := (.node none none .none (.node none none .none (.node none none (.node none none .none (.node none none (.node none (some ⟨[.tmp 5 (.int .i64), .tmp 10 (.int .i64)], [some 0], none, []⟩) (.node none none .none (.node none none .none (.node none none (.node none none (.node none none .none (.node none none (.node (some ⟨[.tmp 23 .bool], [none], none, []⟩) none .none .none) .none)) .none) .none))) .none) .none)) .none)))
def impl_Dealt_c : Ct := .pure true false (.pair (.slice T_Note) (.pair (.int .i64) .unit)) (.int .i64) (fun x => impl_Dealt x.1 x.2.1)
theorem impl_Dealt_ct : CtOk Try.prog 21 impl_Dealt_c := pure_ct (E := { T := tab, G := [(68, impl_Upto_c)] }) (EnvOk.cons impl_Upto_ct (EnvOk.nil tabOk)) mixed (fn := Try.f21) _ _ _ _ _ impl_Dealt_h Try.func21 (by kernel_rfl) (fun x => by kernel_rfl)
/-! loop.example/g00486/laws.FnExactDealt -/
def laws_FnExactDealt (a0 : (List T_Note.D)) (a1 : Int) : Option Bool :=
(laws_szNoteS a0 1048576).bind fun y1 =>
 bif decide (y1 < 0) then (
 some true)
 else (
(laws_toNoteS a0).bind fun y2 =>
(spec_Dealt y2 a1).bind fun y3 =>
(laws_toNoteS a0).bind fun y4 =>
(impl_Dealt y4 a1).bind fun y5 =>
 bif (y5 != y3) then (
 some false)
 else (
(laws_toNoteS a0).bind fun y6 =>
(laws_eqNoteS y4 y6).bind fun y7 =>
 bif (!y7) then (
 some false)
 else (
 some true)))
def laws_FnExactDealt_c : Ct := .pure true false (.pair (.slice T_Note) (.pair (.int .i64) .unit)) .bool (fun x => laws_FnExactDealt x.1 x.2.1)
theorem laws_FnExactDealt_ct : CtOk Try.prog 4 laws_FnExactDealt_c := pure_ct (E := { T := tab, G := [(15, laws_szNoteS_c), (17, laws_toNoteS_fresh_c), (19, laws_eqNoteS_c), (20, spec_Dealt_c), (21, impl_Dealt_c)] }) (EnvOk.cons laws_szNoteS_ct (EnvOk.cons laws_toNoteS_fresh_ct (EnvOk.cons laws_eqNoteS_ct (EnvOk.cons spec_Dealt_ct (EnvOk.cons impl_Dealt_ct (EnvOk.nil tabOk)))))) mixed (fn := Try.f4) _ _ _ _ _ .none Try.func4 (by kernel_rfl) (fun x => by kernel_rfl)
/-! loop.example/g00486/laws.szPieceS -/
def laws_szPieceS (a0 : (List T_Piece.D)) (a1 : Int) : Option Int :=
 bif decide ((IntKind.wrap .i64 (a1 - (a0.length : Int))) < 0) then (
 some (-1))
 else (
 some (IntKind.wrap .i64 (a1 - (a0.length : Int))))
def laws_szPieceS_c : Ct := .pure true false (.pair (.slice T_Piece) (.pair (.int .i64) .unit)) (.int .i64) (fun x => laws_szPieceS x.1 x.2.1)
theorem laws_szPieceS_ct : CtOk Try.prog 69 laws_szPieceS_c := pure_ct (E := { T := tab, G := [] }) (EnvOk.nil tabOk) mixed (fn := Try.f69) _ _ _ _ _ .none Try.func69 (by kernel_rfl) (fun x => by kernel_rfl)
/-! loop.example/g00486/laws.szSideS -/
def laws_szSideS (a0 : (List T_Side.D)) (a1 : Int) : Option Int :=
 bif decide ((IntKind.wrap .i64 (a1 - (a0.length : Int))) < 0) then (
 some (-1))
 else (
 some (IntKind.wrap .i64 (a1 - (a0.length : Int))))
def laws_szSideS_c : Ct := .pure true false (.pair (.slice T_Side) (.pair (.int .i64) .unit)) (.int .i64) (fun x => laws_szSideS x.1 x.2.1)
theorem laws_szSideS_ct : CtOk Try.prog 70 laws_szSideS_c := pure_ct (E := { T := tab, G := [] }) (EnvOk.nil tabOk) mixed (fn := Try.f70) _ _ _ _ _ .none Try.func70 (by kernel_rfl) (fun x => by kernel_rfl)
/-! loop.example/g00486/laws.szState -/
def laws_szState (a0 : T_State.D) (a1 : Int) : Option Int :=
(laws_szPieceS a0.1 a1).bind fun y1 =>
 bif decide (y1 < 0) then (
 some (-1))
 else (
(laws_szSideS a0.2.1 y1).bind fun y2 =>
 bif decide (y2 < 0) then (
 some (-1))
 else (
 some y2))
def laws_szState_c : Ct := .pure true false (.pair T_State (.pair (.int .i64) .unit)) (.int .i64) (fun x => laws_szState x.1 x.2.1)
theorem laws_szState_ct : CtOk Try.prog 22 laws_szState_c := pure_ct (E := { T := tab, G := [(69, laws_szPieceS_c), (70, laws_szSideS_c)] }) (EnvOk.cons laws_szPieceS_ct (EnvOk.cons laws_szSideS_ct (EnvOk.nil tabOk))) mixed (fn := Try.f22) _ _ _ _ _ .none Try.func22 (by kernel_rfl) (fun x => by kernel_rfl)
/-! loop.example/g00486/laws.toPieceS -/
def laws_toPieceS_l1 (a0 : (List T_Piece.D)) : ((List T_Piece.D) × Int) → Option (((List T_Piece.D) × Int) ⊕ ((List T_Piece.D) × Int)) := fun s2 =>
 bif decide (s2.2 < (a0.length : Int)) then (
 idx a0 s2.2 fun x3 =>
(laws_toPiece x3).bind fun y4 =>
 idx s2.1 s2.2 fun _ =>
(s2.1[(s2.2 : Int).toNat]?).bind fun x5 =>
 let u6 : (List T_Piece.D) := s2.1.set (s2.2 : Int).toNat y4
 some (.inl (u6, IntKind.wrap .i64 (s2.2 + 1))))
 else (
 some (.inr s2))
def laws_toPieceS (a0 : (List T_Piece.D)) : Option (List T_Piece.D) :=
 if 0 ≤ (a0.length : Int) then (if ((a0.length : Int)).toNat * (24 * 13) ≤ room then (
(while_ (laws_toPieceS_l1 a0) ((List.replicate ((a0.length : Int)).toNat (0, 0, 0, 0, 0, 0, 0, 0, 0, 0, 0, false, false, ())), 0)).bind fun o7 =>
 some o7.1) else none) else none
def laws_toPieceS_h : Hints := (.node none none .none (.node none none .none (.node none none (.node none none .none (.node none none (.node none (some ⟨[.tmpO 3 0 (.slice T_Piece), .tmp 4 (.int .i64)], [some 0], none, []⟩) .none .none) .none)) .none)))
def laws_toPieceS_c : Ct := .pure true false (.pair (.slice T_Piece) .unit) (.slice T_Piece) (fun x => laws_toPieceS x.1)
theorem laws_toPieceS_ct : CtOk Try.prog 72 laws_toPieceS_c := pure_ct (E := { T := tab, G := [(94, laws_toPiece_c)] }) (EnvOk.cons laws_toPiece_ct (EnvOk.nil tabOk)) mixed (fn := Try.f72) _ _ _ _ _ laws_toPieceS_h Try.func72 (by kernel_rfl) (fun x => by kernel_rfl)
def laws_toPieceS_fresh_c : Ct := .pure true true (.pair (.slice T_Piece) .unit) (.slice T_Piece) (fun x => laws_toPieceS x.1)
theorem laws_toPieceS_fresh_ct : CtOk Try.prog 72 laws_toPieceS_fresh_c := pure_ct (E := { T := tab, G := [(94, laws_toPiece_c)] }) (EnvOk.cons laws_toPiece_ct (EnvOk.nil tabOk)) mixed (fn := Try.f72) _ _ _ _ _ laws_toPieceS_h Try.func72 (by kernel_rfl) (fun x => by kernel_rfl)
/-! loop.example/g00486/laws.toSide -/
def laws_toSide (a0 : T_Side.D) : Option T_Side.D :=
 some a0
def laws_toSide_c : Ct := .pure true false (.pair T_Side .unit) T_Side (fun x => laws_toSide x.1)
theorem laws_toSide_ct : CtOk Try.prog 96 laws_toSide_c := pure_ct (E := { T := tab, G := [] }) (EnvOk.nil tabOk) mixed (fn := Try.f96) _ _ _ _ _ .none Try.func96 (by kernel_rfl) (fun x => by kernel_rfl)
/-! loop.example/g00486/laws.toSideS -/
def laws_toSideS_l1 (a0 : (List T_Side.D)) : ((List T_Side.D) × Int) → Option (((List T_Side.D) × Int) ⊕ ((List T_Side.D) × Int)) := fun s2 =>
 bif decide (s2.2 < (a0.length : Int)) then (
 idx a0 s2.2 fun x3 =>
(laws_toSide x3).bind fun y4 =>
 idx s2.1 s2.2 fun _ =>
(s2.1[(s2.2 : Int).toNat]?).bind fun x5 =>
 let u6 : (List T_Side.D) := s2.1.set (s2.2 : Int).toNat y4
 some (.inl (u6, IntKind.wrap .i64 (s2.2 + 1))))
 else (
 some (.inr s2))
def laws_toSideS (a0 : (List T_Side.D)) : Option (List T_Side.D) :=
 if 0 ≤ (a0.length : Int) then (if ((a0.length : Int)).toNat * (24 * 3) ≤ room then (
(while_ (laws_toSideS_l1 a0) ((List.replicate ((a0.length : Int)).toNat (0, 0, false, ())), 0)).bind fun o7 =>
 some o7.1) else none) else none
def laws_toSideS_h : Hints := (.node none none .none (.node none none .none (.node none none (.node none none .none (.node none none (.node none (some ⟨[.tmpO 3 0 (.slice T_Side), .tmp 4 (.int .i64)], [some 0], none, []⟩) .none .none) .none)) .none)))
def laws_toSideS_c : Ct := .pure true false (.pair (.slice T_Side) .unit) (.slice T_Side) (fun x => laws_toSideS x.1)
theorem laws_toSideS_ct : CtOk Try.prog 73 laws_toSideS_c := pure_ct (E := { T := tab, G := [(96, laws_toSide_c)] }) (EnvOk.cons laws_toSide_ct (EnvOk.nil tabOk)) mixed (fn := Try.f73) _ _ _ _ _ laws_toSideS_h Try.func73 (by kernel_rfl) (fun x => by kernel_rfl)
def laws_toSideS_fresh_c : Ct := .pure true true (.pair (.slice T_Side) .unit) (.slice T_Side) (fun x => laws_toSideS x.1)
theorem laws_toSideS_fresh_ct : CtOk Try.prog 73 laws_toSideS_fresh_c := pure_ct (E := { T := tab, G := [(96, laws_toSide_c)] }) (EnvOk.cons laws_toSide_ct (EnvOk.nil tabOk)) mixed (fn := Try.f73) _ _ _ _ _ laws_toSideS_h Try.func73 (by kernel_rfl) (fun x => by kernel_rfl)
/-! loop.example/g00486/laws.toState -/
def laws_toState (a0 : T_State.D) : Option T_State.D :=
(laws_toPieceS a0.1).bind fun y1 =>
(laws_toSideS a0.2.1).bind fun y2 =>
 some (y1, y2, a0.2.2)
def laws_toState_c : Ct := .pure true false (.pair T_State .unit) T_State (fun x => laws_toState x.1)
theorem laws_toState_ct : CtOk Try.prog 24 laws_toState_c := pure_ct (E := { T := tab, G := [(72, laws_toPieceS_fresh_c), (73, laws_toSideS_fresh_c)] }) (EnvOk.cons laws_toPieceS_fresh_ct (EnvOk.cons laws_toSideS_fresh_ct (EnvOk.nil tabOk))) mixed (fn := Try.f24) _ _ _ _ _ .none Try.func24 (by kernel_rfl) (fun x => by kernel_rfl)
def laws_toState_fresh_c : Ct := .pure true true (.pair T_State .unit) T_State (fun x => laws_toState x.1)
theorem laws_toState_fresh_ct : CtOk Try.prog 24 laws_toState_fresh_c := pure_ct (E := { T := tab, G := [(72, laws_toPieceS_fresh_c), (73, laws_toSideS_fresh_c)] }) (EnvOk.cons laws_toPieceS_fresh_ct (EnvOk.cons laws_toSideS_fresh_ct (EnvOk.nil tabOk))) mixed (fn := Try.f24) _ _ _ _ _ .none Try.func24 (by kernel_rfl) (fun x => by kernel_rfl)
/-! loop.example/g00486/spec.PieceAt -/
def spec_PieceAt_l1 (a0 : T_State.D) (a1 : Int) : Int → Option (Int ⊕ (Int ⊕ Int)) := fun s1 =>
 bif decide (s1 < (a0.1.length : Int)) then (
 idx a0.1 s1 fun x2 =>
 bif (x2.1 == a1) then (
 some (.inr (.inr s1)))
 else (
 some (.inl (IntKind.wrap .i64 (s1 + 1)))))
 else (
 some (.inr (.inl s1)))
def spec_PieceAt (a0 : T_State.D) (a1 : Int) : Option Int :=
(while_ (spec_PieceAt_l1 a0 a1) 0).bind fun o3 =>
 match o3 with
| .inl s4 => (
 some (-1))
| .inr o5 => (
 some o5)
def spec_PieceAt_h : Hints := (.node none none .none (.node none none (.node none none .none (.node none none (.node none (some ⟨[.tmp 5 (.int .i64)], [some 0], some [.tmp 4 (.int .i64)], []⟩) .none .none) .none)) .none))
def spec_PieceAt_c : Ct := .pure true false (.pair T_State (.pair (.int .i64) .unit)) (.int .i64) (fun x => spec_PieceAt x.1 x.2.1)
theorem spec_PieceAt_ct : CtOk Try.prog 71 spec_PieceAt_c := pure_ct (E := { T := tab, G := [] }) (EnvOk.nil tabOk) mixed (fn := Try.f71) _ _ _ _ _ spec_PieceAt_h Try.func71 (by kernel_rfl) (fun x => by kernel_rfl)
/-! loop.example/g00486/spec.HurtOf -/
def spec_HurtOf (a0 : T_State.D) (a1 : Int) : Option Int :=
(spec_PieceAt a0 a1).bind fun y1 =>
 bif decide (y1 < 0) then (
 some 0)
 else (
 idx a0.1 y1 fun x2 =>
 some x2.2.2.2.2.2.2.2.2.2.2.1)
def spec_HurtOf_c : Ct := .pure true false (.pair T_State (.pair (.int .i64) .unit)) (.int .i64) (fun x => spec_HurtOf x.1 x.2.1)
theorem spec_HurtOf_ct : CtOk Try.prog 23 spec_HurtOf_c := pure_ct (E := { T := tab, G := [(71, spec_PieceAt_c)] }) (EnvOk.cons spec_PieceAt_ct (EnvOk.nil tabOk)) mixed (fn := Try.f23) _ _ _ _ _ .none Try.func23 (by kernel_rfl) (fun x => by kernel_rfl)
/-! slices.IndexFunc[[]loop.example/g00486/impl.Piece,loop.example/g00486/impl.Piece] -/
def slices_IndexFunc_impl_Piece_l1 (a0 : (List T_Piece.D)) (a1 : ((T_Piece.D × Unit) → Option Bool)) : Int → Option (Int ⊕ (Int ⊕ Int)) := fun s1 =>
 bif decide (s1 < (a0.length : Int)) then (
 idx a0 s1 fun x2 =>
(a1 (x2, ())).bind fun y3 =>
 bif y3 then (
 some (.inr (.inr s1)))
 else (
 some (.inl (IntKind.wrap .i64 (s1 + 1)))))
 else (
 some (.inr (.inl s1)))
def slices_IndexFunc_impl_Piece (a0 : (List T_Piece.D)) (a1 : ((T_Piece.D × Unit) → Option Bool)) : Option Int :=
(while_ (slices_IndexFunc_impl_Piece_l1 a0 a1) 0).bind fun o4 =>
 match o4 with
| .inl s5 => (
 some (-1))
| .inr o6 => (
 some o6)
def slices_IndexFunc_impl_Piece_h : Hints := (.node none none .none (.node none none (.node none none .none (.node none none (.node none (some ⟨[.tmp 8 (.int .i64)], [some 0], some [.tmp 4 (.int .i64)], []⟩) .none .none) .none)) .none))
def slices_IndexFunc_impl_Piece_c : Ct := .pure true false (.pair (.slice T_Piece) (.pair (.fn (.pair T_Piece .unit) .bool) .unit)) (.int .i64) (fun x => slices_IndexFunc_impl_Piece x.1 x.2.1)
theorem slices_IndexFunc_impl_Piece_ct : CtOk Try.prog 97 slices_IndexFunc_impl_Piece_c := pure_ct (E := { T := tab, G := [] }) (EnvOk.nil tabOk) mixed (fn := Try.f97) _ _ _ _ _ slices_IndexFunc_impl_Piece_h Try.func97 (by kernel_rfl) (fun x => by kernel_rfl)
/-! loop.example/g00486/impl.PieceAt$1 -/
def impl_PieceAt_1 (z0 : Int) (a0 : T_Piece.D) : Option Bool :=
 some (a0.1 == z0)
def impl_PieceAt_1_c : Ct := .clo (.pair T_Piece .unit) (.pair (.int .i64) .unit) .bool (fun z x => impl_PieceAt_1 z.1 x.1)
theorem impl_PieceAt_1_ct : CtOk Try.prog 98 impl_PieceAt_1_c := clo_ct (E := { T := tab, G := [] }) (EnvOk.nil tabOk) mixed (fn := Try.f98) _ _ _ _ .none Try.func98 (by kernel_rfl) (fun z x => by kernel_rfl)
/-! loop.example/g00486/impl.PieceAt -/
def impl_PieceAt (a0 : T_State.D) (a1 : Int) : Option Int :=
(slices_IndexFunc_impl_Piece a0.1 (fun q => impl_PieceAt_1 a1 q.1)).bind fun y1 =>
 some y1
def impl_PieceAt_c : Ct := .pure true false (.pair T_State (.pair (.int .i64) .unit)) (.int .i64) (fun x => impl_PieceAt x.1 x.2.1)
theorem impl_PieceAt_ct : CtOk Try.prog 74 impl_PieceAt_c := pure_ct (E := { T := tab, G := [(97, slices_IndexFunc_impl_Piece_c), (98, impl_PieceAt_1_c)] }) (EnvOk.cons slices_IndexFunc_impl_Piece_ct (EnvOk.cons impl_PieceAt_1_ct (EnvOk.nil tabOk))) mixed (fn := Try.f74) _ _ _ _ _ .none Try.func74 (by kernel_rfl) (fun x => by kernel_rfl)
/-! loop.example/g00486/impl.HurtOf -/
def impl_HurtOf (a0 : T_State.D) (a1 : Int) : Option Int :=
(impl_PieceAt a0 a1).bind fun y1 =>
 bif decide (y1 < 0) then (
 some 0)
 else (
 idx a0.1 y1 fun x2 =>
 some x2.2.2.2.2.2.2.2.2.2.2.1)
def impl_HurtOf_c : Ct := .pure true false (.pair T_State (.pair (.int .i64) .unit)) (.int .i64) (fun x => impl_HurtOf x.1 x.2.1)
theorem impl_HurtOf_ct : CtOk Try.prog 25 impl_HurtOf_c := pure_ct (E := { T := tab, G := [(74, impl_PieceAt_c)] }) (EnvOk.cons impl_PieceAt_ct (EnvOk.nil tabOk)) mixed (fn := Try.f25) _ _ _ _ _ .none Try.func25 (by kernel_rfl) (fun x => by kernel_rfl)
/-! loop.example/g00486/laws.eqPieceS -/
def laws_eqPieceS_l1 (a0 : (List T_Piece.D)) (a1 : (List T_Piece.D)) : Int → Option (Int ⊕ (Int ⊕ Bool)) := fun s1 =>
 bif decide (s1 < (a0.length : Int)) then (
 idx a0 s1 fun x2 =>
 idx a1 s1 fun x3 =>
(laws_eqPiece x2 x3).bind fun y4 =>
 bif (!y4) then (
 some (.inr (.inr false)))
 else (
 some (.inl (IntKind.wrap .i64 (s1 + 1)))))
 else (
 some (.inr (.inl s1)))
def laws_eqPieceS (a0 : (List T_Piece.D)) (a1 : (List T_Piece.D)) : Option Bool :=
 bif ((a0.length : Int) != (a1.length : Int)) then (
 some false)
 else (
(while_ (laws_eqPieceS_l1 a0 a1) 0).bind fun o5 =>
 match o5 with
| .inl s6 => (
 some true)
| .inr o7 => (
 some o7))
def laws_eqPieceS_h : Hints := (.node none none .none (.node none none .none (.node none none (.node none none .none (.node none none (.node none (some ⟨[.tmp 5 (.int .i64)], [some 0], some [.tmp 4 .bool], []⟩) .none .none) .none)) .none)))
def laws_eqPieceS_c : Ct := .pure true false (.pair (.slice T_Piece) (.pair (.slice T_Piece) .unit)) .bool (fun x => laws_eqPieceS x.1 x.2.1)
theorem laws_eqPieceS_ct : CtOk Try.prog 54 laws_eqPieceS_c := pure_ct (E := { T := tab, G := [(90, laws_eqPiece_c)] }) (EnvOk.cons laws_eqPiece_ct (EnvOk.nil tabOk)) mixed (fn := Try.f54) _ _ _ _ _ laws_eqPieceS_h Try.func54 (by kernel_rfl) (fun x => by kernel_rfl)
/-! loop.example/g00486/laws.eqSide -/
def laws_eqSide (a0 : T_Side.D) (a1 : T_Side.D) : Option Bool :=
 bif (a0.1 != a1.1) then (
 some false)
 else (
 bif (a0.2.1 != a1.2.1) then (
 some false)
 else (
 bif (a0.2.2.1 != a1.2.2.1) then (
 some false)
 else (
 some true)))
def laws_eqSide_c : Ct := .pure true false (.pair T_Side (.pair T_Side .unit)) .bool (fun x => laws_eqSide x.1 x.2.1)
theorem laws_eqSide_ct : CtOk Try.prog 99 laws_eqSide_c := pure_ct (E := { T := tab, G := [] }) (EnvOk.nil tabOk) mixed (fn := Try.f99) _ _ _ _ _ .none Try.func99 (by kernel_rfl) (fun x => by kernel_rfl)
/-! loop.example/g00486/laws.eqSideS -/
def laws_eqSideS_l1 (a0 : (List T_Side.D)) (a1 : (List T_Side.D)) : Int → Option (Int ⊕ (Int ⊕ Bool)) := fun s1 =>
 bif decide (s1 < (a0.length : Int)) then (
 idx a0 s1 fun x2 =>
 idx a1 s1 fun x3 =>
(laws_eqSide x2 x3).bind fun y4 =>
 bif (!y4) then (
 some (.inr (.inr false)))
 else (
 some (.inl (IntKind.wrap .i64 (s1 + 1)))))
 else (
 some (.inr (.inl s1)))
def laws_eqSideS (a0 : (List T_Side.D)) (a1 : (List T_Side.D)) : Option Bool :=
 bif ((a0.length : Int) != (a1.length : Int)) then (
 some false)
 else (
(while_ (laws_eqSideS_l1 a0 a1) 0).bind fun o5 =>
 match o5 with
| .inl s6 => (
 some true)
| .inr o7 => (
 some o7))
def laws_eqSideS_h : Hints := (.node none none .none (.node none none .none (.node none none (.node none none .none (.node none none (.node none (some ⟨[.tmp 5 (.int .i64)], [some 0], some [.tmp 4 .bool], []⟩) .none .none) .none)) .none)))
def laws_eqSideS_c : Ct := .pure true false (.pair (.slice T_Side) (.pair (.slice T_Side) .unit)) .bool (fun x => laws_eqSideS x.1 x.2.1)
theorem laws_eqSideS_ct : CtOk Try.prog 75 laws_eqSideS_c := pure_ct (E := { T := tab, G := [(99, laws_eqSide_c)] }) (EnvOk.cons laws_eqSide_ct (EnvOk.nil tabOk)) mixed (fn := Try.f75) _ _ _ _ _ laws_eqSideS_h Try.func75 (by kernel_rfl) (fun x => by kernel_rfl)
/-! loop.example/g00486/laws.eqState -/
def laws_eqState (a0 : T_State.D) (a1 : T_State.D) : Option Bool :=
(laws_eqPieceS a0.1 a1.1).bind fun y1 =>
 bif (!y1) then (
 some false)
 else (
(laws_eqSideS a0.2.1 a1.2.1).bind fun y2 =>
 bif (!y2) then (
 some false)
 else (
 bif (a0.2.2.1 != a1.2.2.1) then (
 some false)
 else (
 bif (a0.2.2.2.1 != a1.2.2.2.1) then (
 some false)
 else (
 some true))))
def laws_eqState_c : Ct := .pure true false (.pair T_State (.pair T_State .unit)) .bool (fun x => laws_eqState x.1 x.2.1)
theorem laws_eqState_ct : CtOk Try.prog 26 laws_eqState_c := pure_ct (E := { T := tab, G := [(54, laws_eqPieceS_c), (75, laws_eqSideS_c)] }) (EnvOk.cons laws_eqPieceS_ct (EnvOk.cons laws_eqSideS_ct (EnvOk.nil tabOk))) mixed (fn := Try.f26) _ _ _ _ _ .none Try.func26 (by kernel_rfl) (fun x => by kernel_rfl)
/-! loop.example/g00486/laws.FnExactHurtOf -/
def laws_FnExactHurtOf (a0 : T_State.D) (a1 : Int) : Option Bool :=
(laws_szState a0 1048576).bind fun y1 =>
 bif decide (y1 < 0) then (
 some true)
 else (
(laws_toState a0).bind fun y2 =>
(spec_HurtOf y2 a1).bind fun y3 =>
(laws_toState a0).bind fun y4 =>
(impl_HurtOf y4 a1).bind fun y5 =>
 bif (y5 != y3) then (
 some false)
 else (
(laws_toState a0).bind fun y6 =>
(laws_eqState y4 y6).bind fun y7 =>
 bif (!y7) then (
 some false)
 else (
 some true)))
def laws_FnExactHurtOf_c : Ct := .pure true false (.pair T_State (.pair (.int .i64) .unit)) .bool (fun x => laws_FnExactHurtOf x.1 x.2.1)
theorem laws_FnExactHurtOf_ct : CtOk Try.prog 5 laws_FnExactHurtOf_c := pure_ct (E := { T := tab, G := [(22, laws_szState_c), (23, spec_HurtOf_c), (24, laws_toState_fresh_c), (25, impl_HurtOf_c), (26, laws_eqState_c)] }) (EnvOk.cons laws_szState_ct (EnvOk.cons spec_HurtOf_ct (EnvOk.cons laws_toState_fresh_ct (EnvOk.cons impl_HurtOf_ct (EnvOk.cons laws_eqState_ct (EnvOk.nil tabOk)))))) mixed (fn := Try.f5) _ _ _ _ _ .none Try.func5 (by kernel_rfl) (fun x => by kernel_rfl)
/-! loop.example/g00486/spec.Leaves -/
def spec_Leaves (a0 : T_State.D) (a1 : T_Event.D) : Option Bool :=
(spec_PieceAt a0 a1.2.2.1).bind fun y1 =>
 bif (a1.1 == 2) then (
 bif decide (y1 ≥ 0) then (
 idx a0.1 y1 fun x2 =>
 bif (x2.2.2.2.1 == 2) then (
 some (a1.2.2.2.2.2.1 != 2))
 else (
 some false))
 else (
 some false))
 else (
 some false)
def spec_Leaves_c : Ct := .pure true false (.pair T_State (.pair T_Event .unit)) .bool (fun x => spec_Leaves x.1 x.2.1)
theorem spec_Leaves_ct : CtOk Try.prog 27 spec_Leaves_c := pure_ct (E := { T := tab, G := [(71, spec_PieceAt_c)] }) (EnvOk.cons spec_PieceAt_ct (EnvOk.nil tabOk)) mixed (fn := Try.f27) _ _ _ _ _ .none Try.func27 (by kernel_rfl) (fun x => by kernel_rfl)
/-! loop.example/g00486/impl.fieldAt -/
def impl_fieldAt (a0 : T_State.D) (a1 : Int) : Option Int :=
(impl_PieceAt a0 a1).bind fun y1 =>
((bif decide (y1 < 0) then (
 some true)
 else (
 idx a0.1 y1 fun x2 =>
 some (x2.2.2.2.1 != 2))) : Option Bool).bind fun o3 =>
 bif o3 then (
 some (-1))
 else (
 some y1)
def impl_fieldAt_h : Hints := (.node none none .none (.node none none .none (.node none none (.node none none (.node (some ⟨[.tmp 19 .bool], [none], none, []⟩) none .none .none) .none) .none)))
def impl_fieldAt_c : Ct := .pure true false (.pair T_State (.pair (.int .i64) .unit)) (.int .i64) (fun x => impl_fieldAt x.1 x.2.1)
theorem impl_fieldAt_ct : CtOk Try.prog 76 impl_fieldAt_c := pure_ct (E := { T := tab, G := [(74, impl_PieceAt_c)] }) (EnvOk.cons impl_PieceAt_ct (EnvOk.nil tabOk)) mixed (fn := Try.f76) _ _ _ _ _ impl_fieldAt_h Try.func76 (by kernel_rfl) (fun x => by kernel_rfl)
/-! loop.example/g00486/impl.Leaves -/
def impl_Leaves (a0 : T_State.D) (a1 : T_Event.D) : Option Bool :=
 bif (a1.1 == 2) then (
 bif (a1.2.2.2.2.2.1 != 2) then (
(impl_fieldAt a0 a1.2.2.1).bind fun y1 =>
 some (decide (y1 ≥ 0)))
 else (
 some false))
 else (
 some false)
def impl_Leaves_c : Ct := .pure true false (.pair T_State (.pair T_Event .unit)) .bool (fun x => impl_Leaves x.1 x.2.1)
theorem impl_Leaves_ct : CtOk Try.prog 29 impl_Leaves_c := pure_ct (E := { T := tab, G := [(76, impl_fieldAt_c)] }) (EnvOk.cons impl_fieldAt_ct (EnvOk.nil tabOk)) mixed (fn := Try.f29) _ _ _ _ _ .none Try.func29 (by kernel_rfl) (fun x => by kernel_rfl)
/-! loop.example/g00486/laws.FnExactLeaves -/
def laws_FnExactLeaves (a0 : T_State.D) (a1 : T_Event.D) : Option Bool :=
(laws_szState a0 1048576).bind fun y1 =>
 bif decide (y1 < 0) then (
 some true)
 else (
(laws_toState a0).bind fun y2 =>
(laws_toEvent a1).bind fun y3 =>
(spec_Leaves y2 y3).bind fun y4 =>
(laws_toState a0).bind fun y5 =>
(laws_toEvent a1).bind fun y6 =>
(impl_Leaves y5 y6).bind fun y7 =>
 bif (y7 != y4) then (
 some false)
 else (
(laws_toState a0).bind fun y8 =>
(laws_eqState y5 y8).bind fun y9 =>
 bif (!y9) then (
 some false)
 else (
 some true)))
def laws_FnExactLeaves_c : Ct := .pure true false (.pair T_State (.pair T_Event .unit)) .bool (fun x => laws_FnExactLeaves x.1 x.2.1)
theorem laws_FnExactLeaves_ct : CtOk Try.prog 6 laws_FnExactLeaves_c := pure_ct (E := { T := tab, G := [(22, laws_szState_c), (24, laws_toState_fresh_c), (26, laws_eqState_c), (27, spec_Leaves_c), (28, laws_toEvent_c), (29, impl_Leaves_c)] }) (EnvOk.cons laws_szState_ct (EnvOk.cons laws_toState_fresh_ct (EnvOk.cons laws_eqState_ct (EnvOk.cons spec_Leaves_ct (EnvOk.cons laws_toEvent_ct (EnvOk.cons impl_Leaves_ct (EnvOk.nil tabOk))))))) mixed (fn := Try.f6) _ _ _ _ _ .none Try.func6 (by kernel_rfl) (fun x => by kernel_rfl)
/-! loop.example/g00486/laws.szEventS -/
def laws_szEventS (a0 : (List T_Event.D)) (a1 : Int) : Option Int :=
 bif decide ((IntKind.wrap .i64 (a1 - (a0.length : Int))) < 0) then (
 some (-1))
 else (
 some (IntKind.wrap .i64 (a1 - (a0.length : Int))))
def laws_szEventS_c : Ct := .pure true false (.pair (.slice T_Event) (.pair (.int .i64) .unit)) (.int .i64) (fun x => laws_szEventS x.1 x.2.1)
theorem laws_szEventS_ct : CtOk Try.prog 110 laws_szEventS_c := pure_ct (E := { T := tab, G := [] }) (EnvOk.nil tabOk) mixed (fn := Try.f110) _ _ _ _ _ .none Try.func110 (by kernel_rfl) (fun x => by kernel_rfl)
/-! loop.example/g00486/laws.szAct -/
def laws_szAct (a0 : T_Act.D) (a1 : Int) : Option Int :=
(laws_szEventS a0.2.2.2.2.2.2.1 a1).bind fun y1 =>
 bif decide (y1 < 0) then (
 some (-1))
 else (
 some y1)
def laws_szAct_c : Ct := .pure true false (.pair T_Act (.pair (.int .i64) .unit)) (.int .i64) (fun x => laws_szAct x.1 x.2.1)
theorem laws_szAct_ct : CtOk Try.prog 100 laws_szAct_c := pure_ct (E := { T := tab, G := [(110, laws_szEventS_c)] }) (EnvOk.cons laws_szEventS_ct (EnvOk.nil tabOk)) mixed (fn := Try.f100) _ _ _ _ _ .none Try.func100 (by kernel_rfl) (fun x => by kernel_rfl)
/-! loop.example/g00486/laws.szEffect -/
def laws_szEffect (a0 : T_Effect.D) (a1 : Int) : Option Int :=
(laws_szAct a0.2.2.2.2.2.2.1 a1).bind fun y1 =>
 bif decide (y1 < 0) then (
 some (-1))
 else (
 some y1)
def laws_szEffect_c : Ct := .pure true false (.pair T_Effect (.pair (.int .i64) .unit)) (.int .i64) (fun x => laws_szEffect x.1 x.2.1)
theorem laws_szEffect_ct : CtOk Try.prog 77 laws_szEffect_c := pure_ct (E := { T := tab, G := [(100, laws_szAct_c)] }) (EnvOk.cons laws_szAct_ct (EnvOk.nil tabOk)) mixed (fn := Try.f77) _ _ _ _ _ .none Try.func77 (by kernel_rfl) (fun x => by kernel_rfl)
/-! loop.example/g00486/laws.szEffectS -/
def laws_szEffectS_l1 (a0 : (List T_Effect.D)) : (Int × Int) → Option ((Int × Int) ⊕ ((Int × Int) ⊕ Int)) := fun s1 =>
 bif decide (s1.2 < (a0.length : Int)) then (
 idx a0 s1.2 fun x2 =>
(laws_szEffect x2 s1.1).bind fun y3 =>
 bif decide (y3 < 0) then (
 some (.inr (.inr (-1))))
 else (
 some (.inl (y3, IntKind.wrap .i64 (s1.2 + 1)))))
 else (
 some (.inr (.inl s1)))
def laws_szEffectS (a0 : (List T_Effect.D)) (a1 : Int) : Option Int :=
 bif decide ((IntKind.wrap .i64 (a1 - (a0.length : Int))) < 0) then (
 some (-1))
 else (
(while_ (laws_szEffectS_l1 a0) (IntKind.wrap .i64 (a1 - (a0.length : Int)), 0)).bind fun o4 =>
 match o4 with
| .inl s5 => (
 some s5.1)
| .inr o6 => (
 some o6))
def laws_szEffectS_h : Hints := (.node none none .none (.node none none .none (.node none none .none (.node none none (.node none none .none (.node none none (.node none (some ⟨[.tmp 1 (.int .i64), .tmp 5 (.int .i64)], [some 0], some [.tmp 4 (.int .i64)], []⟩) .none .none) .none)) .none))))
def laws_szEffectS_c : Ct := .pure true false (.pair (.slice T_Effect) (.pair (.int .i64) .unit)) (.int .i64) (fun x => laws_szEffectS x.1 x.2.1)
theorem laws_szEffectS_ct : CtOk Try.prog 30 laws_szEffectS_c := pure_ct (E := { T := tab, G := [(77, laws_szEffect_c)] }) (EnvOk.cons laws_szEffect_ct (EnvOk.nil tabOk)) mixed (fn := Try.f30) _ _ _ _ _ laws_szEffectS_h Try.func30 (by kernel_rfl) (fun x => by kernel_rfl)
/-! loop.example/g00486/laws.toPat -/
def laws_toPat (a0 : T_Pat.D) : Option T_Pat.D :=
 some a0
def laws_toPat_c : Ct := .pure true false (.pair T_Pat .unit) T_Pat (fun x => laws_toPat x.1)
theorem laws_toPat_ct : CtOk Try.prog 101 laws_toPat_c := pure_ct (E := { T := tab, G := [] }) (EnvOk.nil tabOk) mixed (fn := Try.f101) _ _ _ _ _ .none Try.func101 (by kernel_rfl) (fun x => by kernel_rfl)
/-! loop.example/g00486/laws.toGuard -/
def laws_toGuard (a0 : T_Guard.D) : Option T_Guard.D :=
 some a0
def laws_toGuard_c : Ct := .pure true false (.pair T_Guard .unit) T_Guard (fun x => laws_toGuard x.1)
theorem laws_toGuard_ct : CtOk Try.prog 102 laws_toGuard_c := pure_ct (E := { T := tab, G := [] }) (EnvOk.nil tabOk) mixed (fn := Try.f102) _ _ _ _ _ .none Try.func102 (by kernel_rfl) (fun x => by kernel_rfl)
/-! loop.example/g00486/laws.toEventS -/
def laws_toEventS_l1 (a0 : (List T_Event.D)) : ((List T_Event.D) × Int) → Option (((List T_Event.D) × Int) ⊕ ((List T_Event.D) × Int)) := fun s2 =>
 bif decide (s2.2 < (a0.length : Int)) then (
 idx a0 s2.2 fun x3 =>
(laws_toEvent x3).bind fun y4 =>
 idx s2.1 s2.2 fun _ =>
(s2.1[(s2.2 : Int).toNat]?).bind fun x5 =>
 let u6 : (List T_Event.D) := s2.1.set (s2.2 : Int).toNat y4
 some (.inl (u6, IntKind.wrap .i64 (s2.2 + 1))))
 else (
 some (.inr s2))
def laws_toEventS (a0 : (List T_Event.D)) : Option (List T_Event.D) :=
 if 0 ≤ (a0.length : Int) then (if ((a0.length : Int)).toNat * (24 * 7) ≤ room then (
(while_ (laws_toEventS_l1 a0) ((List.replicate ((a0.length : Int)).toNat (0, 0, 0, 0, 0, 0, false, ())), 0)).bind fun o7 =>
 some o7.1) else none) else none
def laws_toEventS_h : Hints := (.node none none .none (.node none none .none (.node none none (.node none none .none (.node none none (.node none (some ⟨[.tmpO 3 0 (.slice T_Event), .tmp 4 (.int .i64)], [some 0], none, []⟩) .none .none) .none)) .none)))
def laws_toEventS_c : Ct := .pure true false (.pair (.slice T_Event) .unit) (.slice T_Event) (fun x => laws_toEventS x.1)
theorem laws_toEventS_ct : CtOk Try.prog 111 laws_toEventS_c := pure_ct (E := { T := tab, G := [(28, laws_toEvent_c)] }) (EnvOk.cons laws_toEvent_ct (EnvOk.nil tabOk)) mixed (fn := Try.f111) _ _ _ _ _ laws_toEventS_h Try.func111 (by kernel_rfl) (fun x => by kernel_rfl)
def laws_toEventS_fresh_c : Ct := .pure true true (.pair (.slice T_Event) .unit) (.slice T_Event) (fun x => laws_toEventS x.1)
theorem laws_toEventS_fresh_ct : CtOk Try.prog 111 laws_toEventS_fresh_c := pure_ct (E := { T := tab, G := [(28, laws_toEvent_c)] }) (EnvOk.cons laws_toEvent_ct (EnvOk.nil tabOk)) mixed (fn := Try.f111) _ _ _ _ _ laws_toEventS_h Try.func111 (by kernel_rfl) (fun x => by kernel_rfl)
/-! loop.example/g00486/laws.toAct -/
def laws_toAct (a0 : T_Act.D) : Option T_Act.D :=
(laws_toEventS a0.2.2.2.2.2.2.1).bind fun y1 =>
 some (a0.1, a0.2.1, a0.2.2.1, a0.2.2.2.1, a0.2.2.2.2.1, a0.2.2.2.2.2.1, y1, ())
def laws_toAct_c : Ct := .pure true false (.pair T_Act .unit) T_Act (fun x => laws_toAct x.1)
theorem laws_toAct_ct : CtOk Try.prog 103 laws_toAct_c := pure_ct (E := { T := tab, G := [(111, laws_toEventS_fresh_c)] }) (EnvOk.cons laws_toEventS_fresh_ct (EnvOk.nil tabOk)) mixed (fn := Try.f103) _ _ _ _ _ .none Try.func103 (by kernel_rfl) (fun x => by kernel_rfl)
def laws_toAct_fresh_c : Ct := .pure true true (.pair T_Act .unit) T_Act (fun x => laws_toAct x.1)
theorem laws_toAct_fresh_ct : CtOk Try.prog 103 laws_toAct_fresh_c := pure_ct (E := { T := tab, G := [(111, laws_toEventS_fresh_c)] }) (EnvOk.cons laws_toEventS_fresh_ct (EnvOk.nil tabOk)) mixed (fn := Try.f103) _ _ _ _ _ .none Try.func103 (by kernel_rfl) (fun x => by kernel_rfl)
/-! loop.example/g00486/laws.toEffect -/
def laws_toEffect (a0 : T_Effect.D) : Option T_Effect.D :=
(laws_toPat a0.2.2.2.2.1).bind fun y1 =>
(laws_toGuard a0.2.2.2.2.2.1).bind fun y2 =>
(laws_toAct a0.2.2.2.2.2.2.1).bind fun y3 =>
 some (a0.1, a0.2.1, a0.2.2.1, a0.2.2.2.1, y1, y2, y3, a0.2.2.2.2.2.2.2)
def laws_toEffect_c : Ct := .pure true false (.pair T_Effect .unit) T_Effect (fun x => laws_toEffect x.1)
theorem laws_toEffect_ct : CtOk Try.prog 78 laws_toEffect_c := pure_ct (E := { T := tab, G := [(101, laws_toPat_c), (102, laws_toGuard_c), (103, laws_toAct_fresh_c)] }) (EnvOk.cons laws_toPat_ct (EnvOk.cons laws_toGuard_ct (EnvOk.cons laws_toAct_fresh_ct (EnvOk.nil tabOk)))) mixed (fn := Try.f78) _ _ _ _ _ .none Try.func78 (by kernel_rfl) (fun x => by kernel_rfl)
def laws_toEffect_fresh_c : Ct := .pure true true (.pair T_Effect .unit) T_Effect (fun x => laws_toEffect x.1)
theorem laws_toEffect_fresh_ct : CtOk Try.prog 78 laws_toEffect_fresh_c := pure_ct (E := { T := tab, G := [(101, laws_toPat_c), (102, laws_toGuard_c), (103, laws_toAct_fresh_c)] }) (EnvOk.cons laws_toPat_ct (EnvOk.cons laws_toGuard_ct (EnvOk.cons laws_toAct_fresh_ct (EnvOk.nil tabOk)))) mixed (fn := Try.f78) _ _ _ _ _ .none Try.func78 (by kernel_rfl) (fun x => by kernel_rfl)
/-! loop.example/g00486/laws.toEffectS -/
def laws_toEffectS_l1 (a0 : (List T_Effect.D)) : ((List T_Effect.D) × Int) → Option (((List T_Effect.D) × Int) ⊕ ((List T_Effect.D) × Int)) := fun s2 =>
 bif decide (s2.2 < (a0.length : Int)) then (
 idx a0 s2.2 fun x3 =>
(laws_toEffect x3).bind fun y4 =>
 idx s2.1 s2.2 fun _ =>
(s2.1[(s2.2 : Int).toNat]?).bind fun x5 =>
 let u6 : (List T_Effect.D) := s2.1.set (s2.2 : Int).toNat y4
 some (.inl (u6, IntKind.wrap .i64 (s2.2 + 1))))
 else (
 some (.inr s2))
def laws_toEffectS (a0 : (List T_Effect.D)) : Option (List T_Effect.D) :=
 if 0 ≤ (a0.length : Int) then (if ((a0.length : Int)).toNat * (24 * 22) ≤ room then (
(while_ (laws_toEffectS_l1 a0) ((List.replicate ((a0.length : Int)).toNat (0, 0, 0, 0, (0, 0, 0, 0, 0, 0, 0, ()), (0, 0, ()), (0, 0, 0, 0, 0, false, [], ()), 0, 0, ())), 0)).bind fun o7 =>
 some o7.1) else none) else none
def laws_toEffectS_h : Hints := (.node none none .none (.node none none .none (.node none none (.node none none .none (.node none none (.node none (some ⟨[.tmpO 3 0 (.slice T_Effect), .tmp 4 (.int .i64)], [some 0], none, []⟩) .none .none) .none)) .none)))
def laws_toEffectS_c : Ct := .pure true false (.pair (.slice T_Effect) .unit) (.slice T_Effect) (fun x => laws_toEffectS x.1)
theorem laws_toEffectS_ct : CtOk Try.prog 32 laws_toEffectS_c := pure_ct (E := { T := tab, G := [(78, laws_toEffect_fresh_c)] }) (EnvOk.cons laws_toEffect_fresh_ct (EnvOk.nil tabOk)) mixed (fn := Try.f32) _ _ _ _ _ laws_toEffectS_h Try.func32 (by kernel_rfl) (fun x => by kernel_rfl)
def laws_toEffectS_fresh_c : Ct := .pure true true (.pair (.slice T_Effect) .unit) (.slice T_Effect) (fun x => laws_toEffectS x.1)
theorem laws_toEffectS_fresh_ct : CtOk Try.prog 32 laws_toEffectS_fresh_c := pure_ct (E := { T := tab, G := [(78, laws_toEffect_fresh_c)] }) (EnvOk.cons laws_toEffect_fresh_ct (EnvOk.nil tabOk)) mixed (fn := Try.f32) _ _ _ _ _ laws_toEffectS_h Try.func32 (by kernel_rfl) (fun x => by kernel_rfl)
/-! loop.example/g00486/spec.Usable -/
def spec_Usable_l1 (a0 : (List T_Effect.D)) : (Int × Int) → Option ((Int × Int) ⊕ (Int × Int)) := fun s1 =>
 bif decide (s1.2 < (a0.length : Int)) then (
 idx a0 s1.2 fun x2 =>
((bif (x2.2.2.2.2.2.2.2.2.1 != 0) then (
 some (IntKind.wrap .i64 (s1.1 + 1)))
 else (
 some s1.1)) : Option Int).bind fun o3 =>
 some (.inl (o3, IntKind.wrap .i64 (s1.2 + 1))))
 else (
 some (.inr s1))
def spec_Usable (a0 : (List T_Effect.D)) : Option Int :=
(while_ (spec_Usable_l1 a0) (0, 0)).bind fun o4 =>
 some o4.1
def spec_Usable_h : Hints := (.node none none .none (.node none none .none (.node none none (.node none none .none (.node none none (.node none (some ⟨[.tmp 3 (.int .i64), .tmp 4 (.int .i64)], [some 0], none, []⟩) (.node none none .none (.node none none (.node none none (.node none none .none (.node (some ⟨[.tmp 3 (.int .i64)], [none], none, []⟩) none .none .none)) .none) .none)) .none) .none)) .none)))
def spec_Usable_c : Ct := .pure true false (.pair (.slice T_Effect) .unit) (.int .i64) (fun x => spec_Usable x.1)
theorem spec_Usable_ct : CtOk Try.prog 31 spec_Usable_c := pure_ct (E := { T := tab, G := [] }) (EnvOk.nil tabOk) mixed (fn := Try.f31) _ _ _ _ _ spec_Usable_h Try.func31 (by kernel_rfl) (fun x => by kernel_rfl)
/-! loop.example/g00486/impl.Usable -/
def impl_Usable_l1 (a0 : (List T_Effect.D)) : (Int × Int) → Option ((Int × Int) ⊕ (Int × Int)) := fun s1 =>
 bif decide (s1.2 < (a0.length : Int)) then (
 idx a0 s1.2 fun x2 =>
 bif (x2.2.2.2.2.2.2.2.2.1 != 0) then (
 some (.inl (IntKind.wrap .i64 (s1.1 + 1), IntKind.wrap .i64 (s1.2 + 1))))
 else (
 some (.inl (s1.1, IntKind.wrap .i64 (s1.2 + 1)))))
 else (
 some (.inr s1))
def impl_Usable (a0 : (List T_Effect.D)) : Option Int :=
(while_ (impl_Usable_l1 a0) (0, 0)).bind fun o3 =>
 some o3.1
def impl_Usable_h : Hints := (.node none none .none (.node none none .none (.node none none (.node none none .none (.node none none (.node none (some ⟨[.tmp 3 (.int .i64), .tmp 8 (.int .i64)], [some 0], none, []⟩) .none .none) .none)) .none)))
def impl_Usable_c : Ct := .pure true false (.pair (.slice T_Effect) .unit) (.int .i64) (fun x => impl_Usable x.1)
theorem impl_Usable_ct : CtOk Try.prog 33 impl_Usable_c := pure_ct (E := { T := tab, G := [] }) (EnvOk.nil tabOk) mixed (fn := Try.f33) _ _ _ _ _ impl_Usable_h Try.func33 (by kernel_rfl) (fun x => by kernel_rfl)
/-! loop.example/g00486/laws.eqPat -/
def laws_eqPat (a0 : T_Pat.D) (a1 : T_Pat.D) : Option Bool :=
 bif (a0.1 != a1.1) then (
 some false)
 else (
 bif (a0.2.1 != a1.2.1) then (
 some false)
 else (
 bif (a0.2.2.1 != a1.2.2.1) then (
 some false)
 else (
 bif (a0.2.2.2.1 != a1.2.2.2.1) then (
 some false)
 else (
 bif (a0.2.2.2.2.1 != a1.2.2.2.2.1) then (
 some false)
 else (
 bif (a0.2.2.2.2.2.1 != a1.2.2.2.2.2.1) then (
 some false)
 else (
 bif (a0.2.2.2.2.2.2.1 != a1.2.2.2.2.2.2.1) then (
 some false)
 else (
 some true)))))))
def laws_eqPat_c : Ct := .pure true false (.pair T_Pat (.pair T_Pat .unit)) .bool (fun x => laws_eqPat x.1 x.2.1)
theorem laws_eqPat_ct : CtOk Try.prog 104 laws_eqPat_c := pure_ct (E := { T := tab, G := [] }) (EnvOk.nil tabOk) mixed (fn := Try.f104) _ _ _ _ _ .none Try.func104 (by kernel_rfl) (fun x => by kernel_rfl)
/-! loop.example/g00486/laws.eqGuard -/
def laws_eqGuard (a0 : T_Guard.D) (a1 : T_Guard.D) : Option Bool :=
 bif (a0.1 != a1.1) then (
 some false)
 else (
 bif (a0.2.1 != a1.2.1) then (
 some false)
 else (
 some true))
def laws_eqGuard_c : Ct := .pure true false (.pair T_Guard (.pair T_Guard .unit)) .bool (fun x => laws_eqGuard x.1 x.2.1)
theorem laws_eqGuard_ct : CtOk Try.prog 105 laws_eqGuard_c := pure_ct (E := { T := tab, G := [] }) (EnvOk.nil tabOk) mixed (fn := Try.f105) _ _ _ _ _ .none Try.func105 (by kernel_rfl) (fun x => by kernel_rfl)
/-! loop.example/g00486/laws.eqEventS -/
def laws_eqEventS_l1 (a0 : (List T_Event.D)) (a1 : (List T_Event.D)) : Int → Option (Int ⊕ (Int ⊕ Bool)) := fun s1 =>
 bif decide (s1 < (a0.length : Int)) then (
 idx a0 s1 fun x2 =>
 idx a1 s1 fun x3 =>
(laws_eqEvent x2 x3).bind fun y4 =>
 bif (!y4) then (
 some (.inr (.inr false)))
 else (
 some (.inl (IntKind.wrap .i64 (s1 + 1)))))
 else (
 some (.inr (.inl s1)))
def laws_eqEventS (a0 : (List T_Event.D)) (a1 : (List T_Event.D)) : Option Bool :=
 bif ((a0.length : Int) != (a1.length : Int)) then (
 some false)
 else (
(while_ (laws_eqEventS_l1 a0 a1) 0).bind fun o5 =>
 match o5 with
| .inl s6 => (
 some true)
| .inr o7 => (
 some o7))
def laws_eqEventS_h : Hints := (.node none none .none (.node none none .none (.node none none (.node none none .none (.node none none (.node none (some ⟨[.tmp 5 (.int .i64)], [some 0], some [.tmp 4 .bool], []⟩) .none .none) .none)) .none)))
def laws_eqEventS_c : Ct := .pure true false (.pair (.slice T_Event) (.pair (.slice T_Event) .unit)) .bool (fun x => laws_eqEventS x.1 x.2.1)
theorem laws_eqEventS_ct : CtOk Try.prog 112 laws_eqEventS_c := pure_ct (E := { T := tab, G := [(95, laws_eqEvent_c)] }) (EnvOk.cons laws_eqEvent_ct (EnvOk.nil tabOk)) mixed (fn := Try.f112) _ _ _ _ _ laws_eqEventS_h Try.func112 (by kernel_rfl) (fun x => by kernel_rfl)
/-! loop.example/g00486/laws.eqAct -/
def laws_eqAct (a0 : T_Act.D) (a1 : T_Act.D) : Option Bool :=
 bif (a0.1 != a1.1) then (
 some false)
 else (
 bif (a0.2.1 != a1.2.1) then (
 some false)
 else (
 bif (a0.2.2.1 != a1.2.2.1) then (
 some false)
 else (
 bif (a0.2.2.2.1 != a1.2.2.2.1) then (
 some false)
 else (
 bif (a0.2.2.2.2.1 != a1.2.2.2.2.1) then (
 some false)
 else (
 bif (a0.2.2.2.2.2.1 != a1.2.2.2.2.2.1) then (
 some false)
 else (
(laws_eqEventS a0.2.2.2.2.2.2.1 a1.2.2.2.2.2.2.1).bind fun y1 =>
 bif (!y1) then (
 some false)
 else (
 some true)))))))
def laws_eqAct_c : Ct := .pure true false (.pair T_Act (.pair T_Act .unit)) .bool (fun x => laws_eqAct x.1 x.2.1)
theorem laws_eqAct_ct : CtOk Try.prog 106 laws_eqAct_c := pure_ct (E := { T := tab, G := [(112, laws_eqEventS_c)] }) (EnvOk.cons laws_eqEventS_ct (EnvOk.nil tabOk)) mixed (fn := Try.f106) _ _ _ _ _ .none Try.func106 (by kernel_rfl) (fun x => by kernel_rfl)
/-! loop.example/g00486/laws.eqEffect -/
def laws_eqEffect (a0 : T_Effect.D) (a1 : T_Effect.D) : Option Bool :=
 bif (a0.1 != a1.1) then (
 some false)
 else (
 bif (a0.2.1 != a1.2.1) then (
 some false)
 else (
 bif (a0.2.2.1 != a1.2.2.1) then (
 some false)
 else (
 bif (a0.2.2.2.1 != a1.2.2.2.1) then (
 some false)
 else (
(laws_eqPat a0.2.2.2.2.1 a1.2.2.2.2.1).bind fun y1 =>
 bif (!y1) then (
 some false)
 else (
(laws_eqGuard a0.2.2.2.2.2.1 a1.2.2.2.2.2.1).bind fun y2 =>
 bif (!y2) then (
 some false)
 else (
(laws_eqAct a0.2.2.2.2.2.2.1 a1.2.2.2.2.2.2.1).bind fun y3 =>
 bif (!y3) then (
 some false)
 else (
 bif (a0.2.2.2.2.2.2.2.1 != a1.2.2.2.2.2.2.2.1) then (
 some false)
 else (
 bif (a0.2.2.2.2.2.2.2.2.1 != a1.2.2.2.2.2.2.2.2.1) then (
 some false)
 else (
 some true)))))))))
def laws_eqEffect_c : Ct := .pure true false (.pair T_Effect (.pair T_Effect .unit)) .bool (fun x => laws_eqEffect x.1 x.2.1)
theorem laws_eqEffect_ct : CtOk Try.prog 79 laws_eqEffect_c := pure_ct (E := { T := tab, G := [(104, laws_eqPat_c), (105, laws_eqGuard_c), (106, laws_eqAct_c)] }) (EnvOk.cons laws_eqPat_ct (EnvOk.cons laws_eqGuard_ct (EnvOk.cons laws_eqAct_ct (EnvOk.nil tabOk)))) mixed (fn := Try.f79) _ _ _ _ _ .none Try.func79 (by kernel_rfl) (fun x => by kernel_rfl)
/-! loop.example/g00486/laws.eqEffectS -/
def laws_eqEffectS_l1 (a0 : (List T_Effect.D)) (a1 : (List T_Effect.D)) : Int → Option (Int ⊕ (Int ⊕ Bool)) := fun s1 =>
 bif decide (s1 < (a0.length : Int)) then (
 idx a0 s1 fun x2 =>
 idx a1 s1 fun x3 =>
(laws_eqEffect x2 x3).bind fun y4 =>
 bif (!y4) then (
 some (.inr (.inr false)))
 else (
 some (.inl (IntKind.wrap .i64 (s1 + 1)))))
 else (
 some (.inr (.inl s1)))
def laws_eqEffectS (a0 : (List T_Effect.D)) (a1 : (List T_Effect.D)) : Option Bool :=
 bif ((a0.length : Int) != (a1.length : Int)) then (
 some false)
 else (
(while_ (laws_eqEffectS_l1 a0 a1) 0).bind fun o5 =>
 match o5 with
| .inl s6 => (
 some true)
| .inr o7 => (
 some o7))
def laws_eqEffectS_h : Hints := (.node none none .none (.node none none .none (.node none none (.node none none .none (.node none none (.node none (some ⟨[.tmp 5 (.int .i64)], [some 0], some [.tmp 4 .bool], []⟩) .none .none) .none)) .none)))
def laws_eqEffectS_c : Ct := .pure true false (.pair (.slice T_Effect) (.pair (.slice T_Effect) .unit)) .bool (fun x => laws_eqEffectS x.1 x.2.1)
theorem laws_eqEffectS_ct : CtOk Try.prog 34 laws_eqEffectS_c := pure_ct (E := { T := tab, G := [(79, laws_eqEffect_c)] }) (EnvOk.cons laws_eqEffect_ct (EnvOk.nil tabOk)) mixed (fn := Try.f34) _ _ _ _ _ laws_eqEffectS_h Try.func34 (by kernel_rfl) (fun x => by kernel_rfl)
/-! loop.example/g00486/laws.FnExactUsable -/
def laws_FnExactUsable (a0 : (List T_Effect.D)) : Option Bool :=
(laws_szEffectS a0 1048576).bind fun y1 =>
 bif decide (y1 < 0) then (
 some true)
 else (
(laws_toEffectS a0).bind fun y2 =>
(spec_Usable y2).bind fun y3 =>
(laws_toEffectS a0).bind fun y4 =>
(impl_Usable y4).bind fun y5 =>
 bif (y5 != y3) then (
 some false)
 else (
(laws_toEffectS a0).bind fun y6 =>
(laws_eqEffectS y4 y6).bind fun y7 =>
 bif (!y7) then (
 some false)
 else (
 some true)))
def laws_FnExactUsable_c : Ct := .pure true false (.pair (.slice T_Effect) .unit) .bool (fun x => laws_FnExactUsable x.1)
theorem laws_FnExactUsable_ct : CtOk Try.prog 7 laws_FnExactUsable_c := pure_ct (E := { T := tab, G := [(30, laws_szEffectS_c), (31, spec_Usable_c), (32, laws_toEffectS_fresh_c), (33, impl_Usable_c), (34, laws_eqEffectS_c)] }) (EnvOk.cons laws_szEffectS_ct (EnvOk.cons spec_Usable_ct (EnvOk.cons laws_toEffectS_fresh_ct (EnvOk.cons impl_Usable_ct (EnvOk.cons laws_eqEffectS_ct (EnvOk.nil tabOk)))))) mixed (fn := Try.f7) _ _ _ _ _ .none Try.func7 (by kernel_rfl) (fun x => by kernel_rfl)
/-! loop.example/g00486/spec.LostOf -/
def spec_LostOf_l1 (a0 : T_State.D) : ((List Int) × Int) → Option (((List Int) × Int) ⊕ ((List Int) × Int)) := fun s1 =>
 bif decide (s1.2 < (a0.2.1.length : Int)) then (
 idx a0.2.1 s1.2 fun x2 =>
((bif x2.2.2.1 then (
 if (s1.1.length + [s1.2].length) * (24 * 1) ≤ room then (
 some (s1.1 ++ [s1.2])) else none)
 else (
 some s1.1)) : Option (List Int)).bind fun o3 =>
 some (.inl (o3, IntKind.wrap .i64 (s1.2 + 1))))
 else (
 some (.inr s1))
def spec_LostOf (a0 : T_State.D) : Option (List Int) :=
(while_ (spec_LostOf_l1 a0) ([], 0)).bind fun o4 =>
 some o4.1
def spec_LostOf_h : Hints := (.node none none .none (.node none none .none (.node none none (.node none none .none (.node none none (.node none (some ⟨[.tmpO 3 0 (.slice (.int .i64)), .tmp 4 (.int .i64)], [some 0], none, []⟩) (.node none none .none (.node none none (.node none none (.node none none .none (.node (some ⟨[.tmpO 3 1 (.slice (.int .i64))], [none], none, [(3, 0)]⟩) none .none .none)) .none) .none)) .none) .none)) .none)))
def spec_LostOf_c : Ct := .pure true false (.pair T_State .unit) (.slice (.int .i64)) (fun x => spec_LostOf x.1)
theorem spec_LostOf_ct : CtOk Try.prog 35 spec_LostOf_c := pure_ct (E := { T := tab, G := [] }) (EnvOk.nil tabOk) mixed (fn := Try.f35) _ _ _ _ _ spec_LostOf_h Try.func35 (by kernel_rfl) (fun x => by kernel_rfl)
def spec_LostOf_fresh_c : Ct := .pure true true (.pair T_State .unit) (.slice (.int .i64)) (fun x => spec_LostOf x.1)
theorem spec_LostOf_fresh_ct : CtOk Try.prog 35 spec_LostOf_fresh_c := pure_ct (E := { T := tab, G := [] }) (EnvOk.nil tabOk) mixed (fn := Try.f35) _ _ _ _ _ spec_LostOf_h Try.func35 (by kernel_rfl) (fun x => by kernel_rfl)
/-! loop.example/g00486/impl.LostOf -/
def impl_LostOf_l1 (a0 : T_State.D) : ((List Int) × Int) → Option (((List Int) × Int) ⊕ ((List Int) × Int)) := fun s1 =>
 bif decide (s1.2 < (a0.2.1.length : Int)) then (
 idx a0.2.1 s1.2 fun x2 =>
 bif x2.2.2.1 then (
 if (s1.1.length + [s1.2].length) * (24 * 1) ≤ room then (
 some (.inl ((s1.1 ++ [s1.2]), IntKind.wrap .i64 (s1.2 + 1)))) else none)
 else (
 some (.inl (s1.1, IntKind.wrap .i64 (s1.2 + 1)))))
 else (
 some (.inr s1))
def impl_LostOf (a0 : T_State.D) : Option (List Int) :=
(while_ (impl_LostOf_l1 a0) ([], 0)).bind fun o3 =>
 some o3.1
def impl_LostOf_h : Hints := (.node none none .none (.node none none .none (.node none none (.node none none .none (.node none none (.node none (some ⟨[.tmpO 3 0 (.slice (.int .i64)), .tmp 10 (.int .i64)], [some 0], none, []⟩) .none .none) .none)) .none)))
def impl_LostOf_c : Ct := .pure true false (.pair T_State .unit) (.slice (.int .i64)) (fun x => impl_LostOf x.1)
theorem impl_LostOf_ct : CtOk Try.prog 36 impl_LostOf_c := pure_ct (E := { T := tab, G := [] }) (EnvOk.nil tabOk) mixed (fn := Try.f36) _ _ _ _ _ impl_LostOf_h Try.func36 (by kernel_rfl) (fun x => by kernel_rfl)
def impl_LostOf_fresh_c : Ct := .pure true true (.pair T_State .unit) (.slice (.int .i64)) (fun x => impl_LostOf x.1)
theorem impl_LostOf_fresh_ct : CtOk Try.prog 36 impl_LostOf_fresh_c := pure_ct (E := { T := tab, G := [] }) (EnvOk.nil tabOk) mixed (fn := Try.f36) _ _ _ _ _ impl_LostOf_h Try.func36 (by kernel_rfl) (fun x => by kernel_rfl)
/-! loop.example/g00486/laws.eqIntS -/
def laws_eqIntS_l1 (a0 : (List Int)) (a1 : (List Int)) : Int → Option (Int ⊕ (Int ⊕ Bool)) := fun s1 =>
 bif decide (s1 < (a0.length : Int)) then (
 idx a0 s1 fun x2 =>
 idx a1 s1 fun x3 =>
 bif (x2 != x3) then (
 some (.inr (.inr false)))
 else (
 some (.inl (IntKind.wrap .i64 (s1 + 1)))))
 else (
 some (.inr (.inl s1)))
def laws_eqIntS (a0 : (List Int)) (a1 : (List Int)) : Option Bool :=
 bif ((a0.length : Int) != (a1.length : Int)) then (
 some false)
 else (
(while_ (laws_eqIntS_l1 a0 a1) 0).bind fun o4 =>
 match o4 with
| .inl s5 => (
 some true)
| .inr o6 => (
 some o6))
def laws_eqIntS_h : Hints := (.node none none .none (.node none none .none (.node none none (.node none none .none (.node none none (.node none (some ⟨[.tmp 5 (.int .i64)], [some 0], some [.tmp 4 .bool], []⟩) .none .none) .none)) .none)))
def laws_eqIntS_c : Ct := .pure true false (.pair (.slice (.int .i64)) (.pair (.slice (.int .i64)) .unit)) .bool (fun x => laws_eqIntS x.1 x.2.1)
theorem laws_eqIntS_ct : CtOk Try.prog 37 laws_eqIntS_c := pure_ct (E := { T := tab, G := [] }) (EnvOk.nil tabOk) mixed (fn := Try.f37) _ _ _ _ _ laws_eqIntS_h Try.func37 (by kernel_rfl) (fun x => by kernel_rfl)
/-! loop.example/g00486/laws.markPieceS -/
def laws_markPieceS_l1 : ((List T_Piece.D) × (Int × Int)) → Option (((List T_Piece.D) × (Int × Int)) ⊕ ((List T_Piece.D) × (Int × Int))) := fun s2 =>
 bif decide (s2.2.2 < (s2.1.length : Int)) then (
 idx s2.1 s2.2.2 fun _ =>
(s2.1[(s2.2.2 : Int).toNat]?).bind fun x3 =>
 let u4 : (List T_Piece.D) := s2.1.set (s2.2.2 : Int).toNat (s2.2.1, x3.2)
 idx u4 s2.2.2 fun _ =>
(u4[(s2.2.2 : Int).toNat]?).bind fun x5 =>
 let u6 : (List T_Piece.D) := u4.set (s2.2.2 : Int).toNat (x5.1, IntKind.wrap .i64 (s2.2.1 + 1), x5.2.2)
 idx u6 s2.2.2 fun _ =>
(u6[(s2.2.2 : Int).toNat]?).bind fun x7 =>
 let u8 : (List T_Piece.D) := u6.set (s2.2.2 : Int).toNat (x7.1, x7.2.1, IntKind.wrap .i64 ((IntKind.wrap .i64 (s2.2.1 + 1)) + 1), x7.2.2.2)
 let k9 : Int := IntKind.wrap .i64 ((IntKind.wrap .i64 ((IntKind.wrap .i64 (s2.2.1 + 1)) + 1)) + 1)
 idx u8 s2.2.2 fun _ =>
(u8[(s2.2.2 : Int).toNat]?).bind fun x10 =>
 let u11 : (List T_Piece.D) := u8.set (s2.2.2 : Int).toNat (x10.1, x10.2.1, x10.2.2.1, k9, x10.2.2.2.2)
 idx u11 s2.2.2 fun _ =>
(u11[(s2.2.2 : Int).toNat]?).bind fun x12 =>
 let u13 : (List T_Piece.D) := u11.set (s2.2.2 : Int).toNat (x12.1, x12.2.1, x12.2.2.1, x12.2.2.2.1, IntKind.wrap .i64 (k9 + 1), x12.2.2.2.2.2)
 idx u13 s2.2.2 fun _ =>
(u13[(s2.2.2 : Int).toNat]?).bind fun x14 =>
 let u15 : (List T_Piece.D) := u13.set (s2.2.2 : Int).toNat (x14.1, x14.2.1, x14.2.2.1, x14.2.2.2.1, x14.2.2.2.2.1, IntKind.wrap .i64 ((IntKind.wrap .i64 (k9 + 1)) + 1), x14.2.2.2.2.2.2)
 let k16 : Int := IntKind.wrap .i64 ((IntKind.wrap .i64 ((IntKind.wrap .i64 (k9 + 1)) + 1)) + 1)
 idx u15 s2.2.2 fun _ =>
(u15[(s2.2.2 : Int).toNat]?).bind fun x17 =>
 let u18 : (List T_Piece.D) := u15.set (s2.2.2 : Int).toNat (x17.1, x17.2.1, x17.2.2.1, x17.2.2.2.1, x17.2.2.2.2.1, x17.2.2.2.2.2.1, k16, x17.2.2.2.2.2.2.2)
 idx u18 s2.2.2 fun _ =>
(u18[(s2.2.2 : Int).toNat]?).bind fun x19 =>
 let u20 : (List T_Piece.D) := u18.set (s2.2.2 : Int).toNat (x19.1, x19.2.1, x19.2.2.1, x19.2.2.2.1, x19.2.2.2.2.1, x19.2.2.2.2.2.1, x19.2.2.2.2.2.2.1, IntKind.wrap .i64 (k16 + 1), x19.2.2.2.2.2.2.2.2)
 idx u20 s2.2.2 fun _ =>
(u20[(s2.2.2 : Int).toNat]?).bind fun x21 =>
 let u22 : (List T_Piece.D) := u20.set (s2.2.2 : Int).toNat (x21.1, x21.2.1, x21.2.2.1, x21.2.2.2.1, x21.2.2.2.2.1, x21.2.2.2.2.2.1, x21.2.2.2.2.2.2.1, x21.2.2.2.2.2.2.2.1, IntKind.wrap .i64 ((IntKind.wrap .i64 (k16 + 1)) + 1), x21.2.2.2.2.2.2.2.2.2)
 let k23 : Int := IntKind.wrap .i64 ((IntKind.wrap .i64 ((IntKind.wrap .i64 (k16 + 1)) + 1)) + 1)
 idx u22 s2.2.2 fun _ =>
(u22[(s2.2.2 : Int).toNat]?).bind fun x24 =>
 let u25 : (List T_Piece.D) := u22.set (s2.2.2 : Int).toNat (x24.1, x24.2.1, x24.2.2.1, x24.2.2.2.1, x24.2.2.2.2.1, x24.2.2.2.2.2.1, x24.2.2.2.2.2.2.1, x24.2.2.2.2.2.2.2.1, x24.2.2.2.2.2.2.2.2.1, k23, x24.2.2.2.2.2.2.2.2.2.2)
 idx u25 s2.2.2 fun _ =>
(u25[(s2.2.2 : Int).toNat]?).bind fun x26 =>
 let u27 : (List T_Piece.D) := u25.set (s2.2.2 : Int).toNat (x26.1, x26.2.1, x26.2.2.1, x26.2.2.2.1, x26.2.2.2.2.1, x26.2.2.2.2.2.1, x26.2.2.2.2.2.2.1, x26.2.2.2.2.2.2.2.1, x26.2.2.2.2.2.2.2.2.1, x26.2.2.2.2.2.2.2.2.2.1, IntKind.wrap .i64 (k23 + 1), x26.2.2.2.2.2.2.2.2.2.2.2)
 if 3 = 0 then none else (
 let k28 : Int := (IntKind.wrap .i64 ((IntKind.wrap .i64 (k23 + 1)) + 1)).tmod 3
 idx u27 s2.2.2 fun _ =>
(u27[(s2.2.2 : Int).toNat]?).bind fun x29 =>
 let u30 : (List T_Piece.D) := u27.set (s2.2.2 : Int).toNat (x29.1, x29.2.1, x29.2.2.1, x29.2.2.2.1, x29.2.2.2.2.1, x29.2.2.2.2.2.1, x29.2.2.2.2.2.2.1, x29.2.2.2.2.2.2.2.1, x29.2.2.2.2.2.2.2.2.1, x29.2.2.2.2.2.2.2.2.2.1, x29.2.2.2.2.2.2.2.2.2.2.1, (k28 == 0), x29.2.2.2.2.2.2.2.2.2.2.2.2)
 let k31 : Int := IntKind.wrap .i64 ((IntKind.wrap .i64 ((IntKind.wrap .i64 (k23 + 1)) + 1)) + 1)
 if 3 = 0 then none else (
 idx u30 s2.2.2 fun _ =>
(u30[(s2.2.2 : Int).toNat]?).bind fun x32 =>
 let u33 : (List T_Piece.D) := u30.set (s2.2.2 : Int).toNat (x32.1, x32.2.1, x32.2.2.1, x32.2.2.2.1, x32.2.2.2.2.1, x32.2.2.2.2.2.1, x32.2.2.2.2.2.2.1, x32.2.2.2.2.2.2.2.1, x32.2.2.2.2.2.2.2.2.1, x32.2.2.2.2.2.2.2.2.2.1, x32.2.2.2.2.2.2.2.2.2.2.1, x32.2.2.2.2.2.2.2.2.2.2.2.1, ((k31.tmod 3) == 0), ())
 some (.inl (u33, IntKind.wrap .i64 (k31 + 1), IntKind.wrap .i64 (s2.2.2 + 1))))))
 else (
 some (.inr s2))
def laws_markPieceS (a0 : (List T_Piece.D)) (a1 : Int) : Option (Int × ((List T_Piece.D) × Unit)) :=
(while_ (laws_markPieceS_l1) (a0, a1, 0)).bind fun o34 =>
 some (o34.2.1, (o34.1, ()))
def laws_markPieceS_h : Hints := (.node none none .none (.node none none (.node none none .none (.node none none (.node none (some ⟨[.tmpO 0 1 (.slice T_Piece), .tmp 1 (.int .i64), .tmp 5 (.int .i64)], [some 0], none, []⟩) .none .none) .none)) .none))
def laws_markPieceS_c : Ct := .mut [.lent, .rd] true true (.pair (.slice T_Piece) (.pair (.int .i64) .unit)) (.int .i64) (fun x => laws_markPieceS x.1 x.2.1)
theorem laws_markPieceS_ct : CtOk Try.prog 56 laws_markPieceS_c := mut_ct (E := { T := tab, G := [] }) (EnvOk.nil tabOk) mixed (fn := Try.f56) _ _ _ _ _ _ laws_markPieceS_h Try.func56 (by kernel_rfl) (fun x => by kernel_rfl)
/-! loop.example/g00486/laws.markSideS -/
def laws_markSideS_l1 : ((List T_Side.D) × (Int × Int)) → Option (((List T_Side.D) × (Int × Int)) ⊕ ((List T_Side.D) × (Int × Int))) := fun s2 =>
 bif decide (s2.2.2 < (s2.1.length : Int)) then (
 idx s2.1 s2.2.2 fun _ =>
(s2.1[(s2.2.2 : Int).toNat]?).bind fun x3 =>
 let u4 : (List T_Side.D) := s2.1.set (s2.2.2 : Int).toNat (s2.2.1, x3.2)
 idx u4 s2.2.2 fun _ =>
(u4[(s2.2.2 : Int).toNat]?).bind fun x5 =>
 let u6 : (List T_Side.D) := u4.set (s2.2.2 : Int).toNat (x5.1, IntKind.wrap .i64 (s2.2.1 + 1), x5.2.2)
 if 3 = 0 then none else (
 let k7 : Int := (IntKind.wrap .i64 ((IntKind.wrap .i64 (s2.2.1 + 1)) + 1)).tmod 3
 idx u6 s2.2.2 fun _ =>
(u6[(s2.2.2 : Int).toNat]?).bind fun x8 =>
 let u9 : (List T_Side.D) := u6.set (s2.2.2 : Int).toNat (x8.1, x8.2.1, (k7 == 0), ())
 let k10 : Int := IntKind.wrap .i64 ((IntKind.wrap .i64 ((IntKind.wrap .i64 (s2.2.1 + 1)) + 1)) + 1)
 some (.inl (u9, k10, IntKind.wrap .i64 (s2.2.2 + 1)))))
 else (
 some (.inr s2))
def laws_markSideS (a0 : (List T_Side.D)) (a1 : Int) : Option (Int × ((List T_Side.D) × Unit)) :=
(while_ (laws_markSideS_l1) (a0, a1, 0)).bind fun o11 =>
 some (o11.2.1, (o11.1, ()))
def laws_markSideS_h : Hints := (.node none none .none (.node none none (.node none none .none (.node none none (.node none (some ⟨[.tmpO 0 1 (.slice T_Side), .tmp 1 (.int .i64), .tmp 5 (.int .i64)], [some 0], none, []⟩) .none .none) .none)) .none))
def laws_markSideS_c : Ct := .mut [.lent, .rd] true true (.pair (.slice T_Side) (.pair (.int .i64) .unit)) (.int .i64) (fun x => laws_markSideS x.1 x.2.1)
theorem laws_markSideS_ct : CtOk Try.prog 80 laws_markSideS_c := mut_ct (E := { T := tab, G := [] }) (EnvOk.nil tabOk) mixed (fn := Try.f80) _ _ _ _ _ _ laws_markSideS_h Try.func80 (by kernel_rfl) (fun x => by kernel_rfl)
/-! loop.example/g00486/laws.markState -/
def laws_markState (a0 : T_State.D) (a1 : Int) : Option (Int × (T_State.D × Unit)) :=
(laws_markPieceS a0.1 a1).bind fun y1 =>
(laws_markSideS a0.2.1 y1.1).bind fun y2 =>
 some (y2.1, ((y1.2.1, y2.2.1, a0.2.2), ()))
def laws_markState_c : Ct := .mut [.lent, .rd] true true (.pair T_State (.pair (.int .i64) .unit)) (.int .i64) (fun x => laws_markState x.1 x.2.1)
theorem laws_markState_ct : CtOk Try.prog 38 laws_markState_c := mut_ct (E := { T := tab, G := [(56, laws_markPieceS_c), (80, laws_markSideS_c)] }) (EnvOk.cons laws_markPieceS_ct (EnvOk.cons laws_markSideS_ct (EnvOk.nil tabOk))) mixed (fn := Try.f38) _ _ _ _ _ _ .none Try.func38 (by kernel_rfl) (fun x => by kernel_rfl)
/-! loop.example/g00486/laws.markIntS -/
def laws_markIntS_l1 : ((List Int) × (Int × Int)) → Option (((List Int) × (Int × Int)) ⊕ ((List Int) × (Int × Int))) := fun s2 =>
 bif decide (s2.2.2 < (s2.1.length : Int)) then (
 idx s2.1 s2.2.2 fun _ =>
(s2.1[(s2.2.2 : Int).toNat]?).bind fun x3 =>
 let u4 : (List Int) := s2.1.set (s2.2.2 : Int).toNat s2.2.1
 some (.inl (u4, IntKind.wrap .i64 (s2.2.1 + 1), IntKind.wrap .i64 (s2.2.2 + 1))))
 else (
 some (.inr s2))
def laws_markIntS (a0 : (List Int)) (a1 : Int) : Option (Int × ((List Int) × Unit)) :=
(while_ (laws_markIntS_l1) (a0, a1, 0)).bind fun o5 =>
 some (o5.2.1, (o5.1, ()))
def laws_markIntS_h : Hints := (.node none none .none (.node none none (.node none none .none (.node none none (.node none (some ⟨[.tmpO 0 1 (.slice (.int .i64)), .tmp 1 (.int .i64), .tmp 5 (.int .i64)], [some 0], none, []⟩) .none .none) .none)) .none))
def laws_markIntS_c : Ct := .mut [.lent, .rd] true true (.pair (.slice (.int .i64)) (.pair (.int .i64) .unit)) (.int .i64) (fun x => laws_markIntS x.1 x.2.1)
theorem laws_markIntS_ct : CtOk Try.prog 39 laws_markIntS_c := mut_ct (E := { T := tab, G := [] }) (EnvOk.nil tabOk) mixed (fn := Try.f39) _ _ _ _ _ _ laws_markIntS_h Try.func39 (by kernel_rfl) (fun x => by kernel_rfl)
/-! loop.example/g00486/laws.heldIntS -/
def laws_heldIntS_l1 (a0 : (List Int)) : (Int × Int) → Option ((Int × Int) ⊕ ((Int × Int) ⊕ Int)) := fun s1 =>
 bif decide (s1.2 < (a0.length : Int)) then (
 idx a0 s1.2 fun x2 =>
 bif (x2 != s1.1) then (
 some (.inr (.inr (-1))))
 else (
 some (.inl (IntKind.wrap .i64 (s1.1 + 1), IntKind.wrap .i64 (s1.2 + 1)))))
 else (
 some (.inr (.inl s1)))
def laws_heldIntS (a0 : (List Int)) (a1 : Int) : Option Int :=
(while_ (laws_heldIntS_l1 a0) (a1, 0)).bind fun o3 =>
 match o3 with
| .inl s4 => (
 some s4.1)
| .inr o5 => (
 some o5)
def laws_heldIntS_h : Hints := (.node none none .none (.node none none (.node none none .none (.node none none (.node none (some ⟨[.tmp 1 (.int .i64), .tmp 5 (.int .i64)], [some 0], some [.tmp 4 (.int .i64)], []⟩) .none .none) .none)) .none))
def laws_heldIntS_c : Ct := .pure true false (.pair (.slice (.int .i64)) (.pair (.int .i64) .unit)) (.int .i64) (fun x => laws_heldIntS x.1 x.2.1)
theorem laws_heldIntS_ct : CtOk Try.prog 40 laws_heldIntS_c := pure_ct (E := { T := tab, G := [] }) (EnvOk.nil tabOk) mixed (fn := Try.f40) _ _ _ _ _ laws_heldIntS_h Try.func40 (by kernel_rfl) (fun x => by kernel_rfl)
/-! loop.example/g00486/laws.FnExactLostOf -/
def laws_FnExactLostOf (a0 : T_State.D) : Option Bool :=
(laws_szState a0 1048576).bind fun y1 =>
 bif decide (y1 < 0) then (
 some true)
 else (
(laws_toState a0).bind fun y2 =>
(spec_LostOf y2).bind fun y3 =>
(laws_toState a0).bind fun y4 =>
(impl_LostOf y4).bind fun y5 =>
(laws_eqIntS y5 y3).bind fun y6 =>
 bif (!y6) then (
 some false)
 else (
(laws_toState a0).bind fun y7 =>
(laws_eqState y4 y7).bind fun y8 =>
 bif (!y8) then (
 some false)
 else (
(laws_markState y4 1).bind fun y9 =>
((bif decide (y9.1 < 0) then (
 some true)
 else (
(laws_eqIntS y5 y3).bind fun y10 =>
 some (!y10))) : Option Bool).bind fun o11 =>
 bif o11 then (
 some false)
 else (
(laws_markIntS y5 1).bind fun y12 =>
(laws_heldIntS y12.2.1 1).bind fun y13 =>
 bif decide (y13 < 0) then (
 some false)
 else (
 bif (y13 != y12.1) then (
 some false)
 else (
(laws_toState a0).bind fun y14 =>
(impl_LostOf y14).bind fun y15 =>
(laws_eqIntS y15 y3).bind fun y16 =>
 bif (!y16) then (
 some false)
 else (
(laws_heldIntS y12.2.1 1).bind fun y17 =>
 bif decide (y17 < 0) then (
 some false)
 else (
 bif (y17 != y12.1) then (
 some false)
 else (
 some true)))))))))
def laws_FnExactLostOf_h : Hints := (.node none none .none (.node none none .none (.node none none .none (.node none none .none (.node none none .none (.node none none .none (.node none none .none (.node none none .none (.node none none .none (.node none none .none (.node none none .none (.node none none (.node none none (.node (some ⟨[.tmp 42 .bool], [none], none, []⟩) none .none .none) .none) .none))))))))))))
def laws_FnExactLostOf_c : Ct := .pure true false (.pair T_State .unit) .bool (fun x => laws_FnExactLostOf x.1)
theorem laws_FnExactLostOf_ct : CtOk Try.prog 8 laws_FnExactLostOf_c := pure_ct (E := { T := tab, G := [(22, laws_szState_c), (24, laws_toState_fresh_c), (26, laws_eqState_c), (35, spec_LostOf_fresh_c), (36, impl_LostOf_fresh_c), (37, laws_eqIntS_c), (38, laws_markState_c), (39, laws_markIntS_c), (40, laws_heldIntS_c)] }) (EnvOk.cons laws_szState_ct (EnvOk.cons laws_toState_fresh_ct (EnvOk.cons laws_eqState_ct (EnvOk.cons spec_LostOf_fresh_ct (EnvOk.cons impl_LostOf_fresh_ct (EnvOk.cons laws_eqIntS_ct (EnvOk.cons laws_markState_ct (EnvOk.cons laws_markIntS_ct (EnvOk.cons laws_heldIntS_ct (EnvOk.nil tabOk)))))))))) mixed (fn := Try.f8) _ _ _ _ _ laws_FnExactLostOf_h Try.func8 (by kernel_rfl) (fun x => by kernel_rfl)
/-! loop.example/g00486/spec.Zoned -/
def spec_Zoned_l1 (a0 : T_State.D) (a1 : Int) : ((List Int) × Int) → Option (((List Int) × Int) ⊕ ((List Int) × Int)) := fun s1 =>
 bif decide (s1.2 < (a0.1.length : Int)) then (
 idx a0.1 s1.2 fun x2 =>
((bif (x2.2.2.2.1 == a1) then (
 idx a0.1 s1.2 fun x3 =>
 if (s1.1.length + [x3.1].length) * (24 * 1) ≤ room then (
 some (s1.1 ++ [x3.1])) else none)
 else (
 some s1.1)) : Option (List Int)).bind fun o4 =>
 some (.inl (o4, IntKind.wrap .i64 (s1.2 + 1))))
 else (
 some (.inr s1))
def spec_Zoned (a0 : T_State.D) (a1 : Int) : Option (List Int) :=
(while_ (spec_Zoned_l1 a0 a1) ([], 0)).bind fun o5 =>
 some o5.1
def spec_Zoned_h : Hints := (.node none none .none (.node none none .none (.node none none (.node none none .none (.node none none (.node none (some ⟨[.tmpO 5 0 (.slice (.int .i64)), .tmp 6 (.int .i64)], [some 0], none, []⟩) (.node none none .none (.node none none (.node none none (.node none none .none (.node (some ⟨[.tmpO 5 1 (.slice (.int .i64))], [none], none, [(5, 0)]⟩) none .none .none)) .none) .none)) .none) .none)) .none)))
def spec_Zoned_c : Ct := .pure true false (.pair T_State (.pair (.int .i64) .unit)) (.slice (.int .i64)) (fun x => spec_Zoned x.1 x.2.1)
theorem spec_Zoned_ct : CtOk Try.prog 41 spec_Zoned_c := pure_ct (E := { T := tab, G := [] }) (EnvOk.nil tabOk) mixed (fn := Try.f41) _ _ _ _ _ spec_Zoned_h Try.func41 (by kernel_rfl) (fun x => by kernel_rfl)
def spec_Zoned_fresh_c : Ct := .pure true true (.pair T_State (.pair (.int .i64) .unit)) (.slice (.int .i64)) (fun x => spec_Zoned x.1 x.2.1)
theorem spec_Zoned_fresh_ct : CtOk Try.prog 41 spec_Zoned_fresh_c := pure_ct (E := { T := tab, G := [] }) (EnvOk.nil tabOk) mixed (fn := Try.f41) _ _ _ _ _ spec_Zoned_h Try.func41 (by kernel_rfl) (fun x => by kernel_rfl)
/-! loop.example/g00486/impl.Zoned -/
def impl_Zoned_l1 (a0 : T_State.D) (a1 : Int) : ((List Int) × Int) → Option (((List Int) × Int) ⊕ ((List Int) × Int)) := fun s1 =>
 bif decide (s1.2 < (a0.1.length : Int)) then (
 idx a0.1 s1.2 fun x2 =>
 bif (x2.2.2.2.1 == a1) then (
 if (s1.1.length + [x2.1].length) * (24 * 1) ≤ room then (
 some (.inl ((s1.1 ++ [x2.1]), IntKind.wrap .i64 (s1.2 + 1)))) else none)
 else (
 some (.inl (s1.1, IntKind.wrap .i64 (s1.2 + 1)))))
 else (
 some (.inr s1))
def impl_Zoned (a0 : T_State.D) (a1 : Int) : Option (List Int) :=
(while_ (impl_Zoned_l1 a0 a1) ([], 0)).bind fun o3 =>
 some o3.1
def impl_Zoned_h : Hints := (.node none none .none (.node none none .none (.node none none (.node none none .none (.node none none (.node none (some ⟨[.tmpO 5 0 (.slice (.int .i64)), .tmp 12 (.int .i64)], [some 0], none, []⟩) .none .none) .none)) .none)))
def impl_Zoned_c : Ct := .pure true false (.pair T_State (.pair (.int .i64) .unit)) (.slice (.int .i64)) (fun x => impl_Zoned x.1 x.2.1)
theorem impl_Zoned_ct : CtOk Try.prog 42 impl_Zoned_c := pure_ct (E := { T := tab, G := [] }) (EnvOk.nil tabOk) mixed (fn := Try.f42) _ _ _ _ _ impl_Zoned_h Try.func42 (by kernel_rfl) (fun x => by kernel_rfl)
def impl_Zoned_fresh_c : Ct := .pure true true (.pair T_State (.pair (.int .i64) .unit)) (.slice (.int .i64)) (fun x => impl_Zoned x.1 x.2.1)
theorem impl_Zoned_fresh_ct : CtOk Try.prog 42 impl_Zoned_fresh_c := pure_ct (E := { T := tab, G := [] }) (EnvOk.nil tabOk) mixed (fn := Try.f42) _ _ _ _ _ impl_Zoned_h Try.func42 (by kernel_rfl) (fun x => by kernel_rfl)
/-! loop.example/g00486/laws.FnExactZoned -/
def laws_FnExactZoned (a0 : T_State.D) (a1 : Int) : Option Bool :=
(laws_szState a0 1048576).bind fun y1 =>
 bif decide (y1 < 0) then (
 some true)
 else (
(laws_toState a0).bind fun y2 =>
(spec_Zoned y2 a1).bind fun y3 =>
(laws_toState a0).bind fun y4 =>
(impl_Zoned y4 a1).bind fun y5 =>
(laws_eqIntS y5 y3).bind fun y6 =>
 bif (!y6) then (
 some false)
 else (
(laws_toState a0).bind fun y7 =>
(laws_eqState y4 y7).bind fun y8 =>
 bif (!y8) then (
 some false)
 else (
(laws_markState y4 1).bind fun y9 =>
((bif decide (y9.1 < 0) then (
 some true)
 else (
(laws_eqIntS y5 y3).bind fun y10 =>
 some (!y10))) : Option Bool).bind fun o11 =>
 bif o11 then (
 some false)
 else (
(laws_markIntS y5 1).bind fun y12 =>
(laws_heldIntS y12.2.1 1).bind fun y13 =>
 bif decide (y13 < 0) then (
 some false)
 else (
 bif (y13 != y12.1) then (
 some false)
 else (
(laws_toState a0).bind fun y14 =>
(impl_Zoned y14 a1).bind fun y15 =>
(laws_eqIntS y15 y3).bind fun y16 =>
 bif (!y16) then (
 some false)
 else (
(laws_heldIntS y12.2.1 1).bind fun y17 =>
 bif decide (y17 < 0) then (
 some false)
 else (
 bif (y17 != y12.1) then (
 some false)
 else (
 some true)))))))))
def laws_FnExactZoned_h : Hints := (.node none none .none (.node none none .none (.node none none .none (.node none none .none (.node none none .none (.node none none .none (.node none none .none (.node none none .none (.node none none .none (.node none none .none (.node none none .none (.node none none (.node none none (.node (some ⟨[.tmp 46 .bool], [none], none, []⟩) none .none .none) .none) .none))))))))))))
def laws_FnExactZoned_c : Ct := .pure true false (.pair T_State (.pair (.int .i64) .unit)) .bool (fun x => laws_FnExactZoned x.1 x.2.1)
theorem laws_FnExactZoned_ct : CtOk Try.prog 9 laws_FnExactZoned_c := pure_ct (E := { T := tab, G := [(22, laws_szState_c), (24, laws_toState_fresh_c), (26, laws_eqState_c), (37, laws_eqIntS_c), (38, laws_markState_c), (39, laws_markIntS_c), (40, laws_heldIntS_c), (41, spec_Zoned_fresh_c), (42, impl_Zoned_fresh_c)] }) (EnvOk.cons laws_szState_ct (EnvOk.cons laws_toState_fresh_ct (EnvOk.cons laws_eqState_ct (EnvOk.cons laws_eqIntS_ct (EnvOk.cons laws_markState_ct (EnvOk.cons laws_markIntS_ct (EnvOk.cons laws_heldIntS_ct (EnvOk.cons spec_Zoned_fresh_ct (EnvOk.cons impl_Zoned_fresh_ct (EnvOk.nil tabOk)))))))))) mixed (fn := Try.f9) _ _ _ _ _ laws_FnExactZoned_h Try.func9 (by kernel_rfl) (fun x => by kernel_rfl)
/-! loop.example/g00486/spec.l1In -/
def spec_l1In (a0 : Int) (a1 : Int) (a2 : Int) : Option Bool :=
 bif decide (a0 ≥ a1) then (
 some (decide (a0 ≤ a2)))
 else (
 some false)
def spec_l1In_c : Ct := .pure true false (.pair (.int .i64) (.pair (.int .i64) (.pair (.int .i64) .unit))) .bool (fun x => spec_l1In x.1 x.2.1 x.2.2.1)
theorem spec_l1In_ct : CtOk Try.prog 81 spec_l1In_c := pure_ct (E := { T := tab, G := [] }) (EnvOk.nil tabOk) mixed (fn := Try.f81) _ _ _ _ _ .none Try.func81 (by kernel_rfl) (fun x => by kernel_rfl)
/-! loop.example/g00486/spec.TurnOrder -/
def spec_TurnOrder_l1 (a0 : T_State.D) : ((List Int) × Int) → Option (((List Int) × Int) ⊕ ((List Int) × Int)) := fun s1 =>
((bif decide (s1.2 < (a0.2.1.length : Int)) then (
(spec_l1In a0.2.2.1 0 (IntKind.wrap .i64 ((a0.2.1.length : Int) - 1))).bind fun y2 =>
 some y2)
 else (
 some false)) : Option Bool).bind fun o3 =>
 bif o3 then (
 if (a0.2.1.length : Int) = 0 then none else (
 let k4 : Int := (IntKind.wrap .i64 (a0.2.2.1 + s1.2)).tmod (a0.2.1.length : Int)
 if (s1.1.length + [k4].length) * (24 * 1) ≤ room then (
 some (.inl ((s1.1 ++ [k4]), IntKind.wrap .i64 (s1.2 + 1)))) else none))
 else (
 some (.inr s1))
def spec_TurnOrder (a0 : T_State.D) : Option (List Int) :=
(while_ (spec_TurnOrder_l1 a0) ([], 0)).bind fun o5 =>
 some o5.1
def spec_TurnOrder_h : Hints := (.node none none .none (.node none none .none (.node none none (.node none none .none (.node none none (.node none (some ⟨[.tmpO 3 0 (.slice (.int .i64)), .tmp 4 (.int .i64)], [some 0], none, []⟩) (.node none none (.node none none (.node (some ⟨[.tmp 19 .bool], [none], none, []⟩) none .none .none) .none) .none) .none) .none)) .none)))
def spec_TurnOrder_c : Ct := .pure true false (.pair T_State .unit) (.slice (.int .i64)) (fun x => spec_TurnOrder x.1)
theorem spec_TurnOrder_ct : CtOk Try.prog 43 spec_TurnOrder_c := pure_ct (E := { T := tab, G := [(81, spec_l1In_c)] }) (EnvOk.cons spec_l1In_ct (EnvOk.nil tabOk)) mixed (fn := Try.f43) _ _ _ _ _ spec_TurnOrder_h Try.func43 (by kernel_rfl) (fun x => by kernel_rfl)
def spec_TurnOrder_fresh_c : Ct := .pure true true (.pair T_State .unit) (.slice (.int .i64)) (fun x => spec_TurnOrder x.1)
theorem spec_TurnOrder_fresh_ct : CtOk Try.prog 43 spec_TurnOrder_fresh_c := pure_ct (E := { T := tab, G := [(81, spec_l1In_c)] }) (EnvOk.cons spec_l1In_ct (EnvOk.nil tabOk)) mixed (fn := Try.f43) _ _ _ _ _ spec_TurnOrder_h Try.func43 (by kernel_rfl) (fun x => by kernel_rfl)
/-! loop.example/g00486/impl.from -/
def impl_from (a0 : Int) (a1 : Int) (a2 : Int) : Option Bool :=
 bif decide (a0 ≥ a1) then (
 some (decide (a0 ≤ a2)))
 else (
 some false)
def impl_from_c : Ct := .pure true false (.pair (.int .i64) (.pair (.int .i64) (.pair (.int .i64) .unit))) .bool (fun x => impl_from x.1 x.2.1 x.2.2.1)
theorem impl_from_ct : CtOk Try.prog 107 impl_from_c := pure_ct (E := { T := tab, G := [] }) (EnvOk.nil tabOk) mixed (fn := Try.f107) _ _ _ _ _ .none Try.func107 (by kernel_rfl) (fun x => by kernel_rfl)
/-! loop.example/g00486/impl.isSide -/
def impl_isSide (a0 : T_State.D) (a1 : Int) : Option Bool :=
(impl_from a1 0 (IntKind.wrap .i64 ((a0.2.1.length : Int) - 1))).bind fun y1 =>
 some y1
def impl_isSide_c : Ct := .pure true false (.pair T_State (.pair (.int .i64) .unit)) .bool (fun x => impl_isSide x.1 x.2.1)
theorem impl_isSide_ct : CtOk Try.prog 82 impl_isSide_c := pure_ct (E := { T := tab, G := [(107, impl_from_c)] }) (EnvOk.cons impl_from_ct (EnvOk.nil tabOk)) mixed (fn := Try.f82) _ _ _ _ _ .none Try.func82 (by kernel_rfl) (fun x => by kernel_rfl)
/-! loop.example/g00486/impl.TurnOrder -/
def impl_TurnOrder_l1 (a0 : T_State.D) : ((List Int) × Int) → Option (((List Int) × Int) ⊕ ((List Int) × Int)) := fun s2 =>
 bif decide (s2.2 < (a0.2.1.length : Int)) then (
 if (a0.2.1.length : Int) = 0 then none else (
 let k3 : Int := (IntKind.wrap .i64 (a0.2.2.1 + s2.2)).tmod (a0.2.1.length : Int)
 if (s2.1.length + [k3].length) * (24 * 1) ≤ room then (
 some (.inl ((s2.1 ++ [k3]), IntKind.wrap .i64 (s2.2 + 1)))) else none))
 else (
 some (.inr s2))
def impl_TurnOrder (a0 : T_State.D) : Option (List Int) :=
(impl_isSide a0 a0.2.2.1).bind fun y1 =>
 bif (!y1) then (
 some [])
 else (
(while_ (impl_TurnOrder_l1 a0) ([], 0)).bind fun o4 =>
 some o4.1)
def impl_TurnOrder_h : Hints := (.node none none .none (.node none none .none (.node none none .none (.node none none (.node none none .none (.node none none (.node none (some ⟨[.tmpO 3 0 (.slice (.int .i64)), .tmp 15 (.int .i64)], [some 0], none, []⟩) .none .none) .none)) .none))))
def impl_TurnOrder_c : Ct := .pure true false (.pair T_State .unit) (.slice (.int .i64)) (fun x => impl_TurnOrder x.1)
theorem impl_TurnOrder_ct : CtOk Try.prog 44 impl_TurnOrder_c := pure_ct (E := { T := tab, G := [(82, impl_isSide_c)] }) (EnvOk.cons impl_isSide_ct (EnvOk.nil tabOk)) mixed (fn := Try.f44) _ _ _ _ _ impl_TurnOrder_h Try.func44 (by kernel_rfl) (fun x => by kernel_rfl)
def impl_TurnOrder_fresh_c : Ct := .pure true true (.pair T_State .unit) (.slice (.int .i64)) (fun x => impl_TurnOrder x.1)
theorem impl_TurnOrder_fresh_ct : CtOk Try.prog 44 impl_TurnOrder_fresh_c := pure_ct (E := { T := tab, G := [(82, impl_isSide_c)] }) (EnvOk.cons impl_isSide_ct (EnvOk.nil tabOk)) mixed (fn := Try.f44) _ _ _ _ _ impl_TurnOrder_h Try.func44 (by kernel_rfl) (fun x => by kernel_rfl)
/-! loop.example/g00486/laws.FnExactTurnOrder -/
def laws_FnExactTurnOrder (a0 : T_State.D) : Option Bool :=
(laws_szState a0 1048576).bind fun y1 =>
 bif decide (y1 < 0) then (
 some true)
 else (
(laws_toState a0).bind fun y2 =>
(spec_TurnOrder y2).bind fun y3 =>
(laws_toState a0).bind fun y4 =>
(impl_TurnOrder y4).bind fun y5 =>
(laws_eqIntS y5 y3).bind fun y6 =>
 bif (!y6) then (
 some false)
 else (
(laws_toState a0).bind fun y7 =>
(laws_eqState y4 y7).bind fun y8 =>
 bif (!y8) then (
 some false)
 else (
(laws_markState y4 1).bind fun y9 =>
((bif decide (y9.1 < 0) then (
 some true)
 else (
(laws_eqIntS y5 y3).bind fun y10 =>
 some (!y10))) : Option Bool).bind fun o11 =>
 bif o11 then (
 some false)
 else (
(laws_markIntS y5 1).bind fun y12 =>
(laws_heldIntS y12.2.1 1).bind fun y13 =>
 bif decide (y13 < 0) then (
 some false)
 else (
 bif (y13 != y12.1) then (
 some false)
 else (
(laws_toState a0).bind fun y14 =>
(impl_TurnOrder y14).bind fun y15 =>
(laws_eqIntS y15 y3).bind fun y16 =>
 bif (!y16) then (
 some false)
 else (
(laws_heldIntS y12.2.1 1).bind fun y17 =>
 bif decide (y17 < 0) then (
 some false)
 else (
 bif (y17 != y12.1) then (
 some false)
 else (
 some true)))))))))
def laws_FnExactTurnOrder_h : Hints := (.node none none .none (.node none none .none (.node none none .none (.node none none .none (.node none none .none (.node none none .none (.node none none .none (.node none none .none (.node none none .none (.node none none .none (.node none none .none (.node none none (.node none none (.node (some ⟨[.tmp 42 .bool], [none], none, []⟩) none .none .none) .none) .none))))))))))))
def laws_FnExactTurnOrder_c : Ct := .pure true false (.pair T_State .unit) .bool (fun x => laws_FnExactTurnOrder x.1)
theorem laws_FnExactTurnOrder_ct : CtOk Try.prog 10 laws_FnExactTurnOrder_c := pure_ct (E := { T := tab, G := [(22, laws_szState_c), (24, laws_toState_fresh_c), (26, laws_eqState_c), (37, laws_eqIntS_c), (38, laws_markState_c), (39, laws_markIntS_c), (40, laws_heldIntS_c), (43, spec_TurnOrder_fresh_c), (44, impl_TurnOrder_fresh_c)] }) (EnvOk.cons laws_szState_ct (EnvOk.cons laws_toState_fresh_ct (EnvOk.cons laws_eqState_ct (EnvOk.cons laws_eqIntS_ct (EnvOk.cons laws_markState_ct (EnvOk.cons laws_markIntS_ct (EnvOk.cons laws_heldIntS_ct (EnvOk.cons spec_TurnOrder_fresh_ct (EnvOk.cons impl_TurnOrder_fresh_ct (EnvOk.nil tabOk)))))))))) mixed (fn := Try.f10) _ _ _ _ _ laws_FnExactTurnOrder_h Try.func10 (by kernel_rfl) (fun x => by kernel_rfl)
/-! loop.example/g00486/laws.szTriggerS -/
def laws_szTriggerS (a0 : (List T_Trigger.D)) (a1 : Int) : Option Int :=
 bif decide ((IntKind.wrap .i64 (a1 - (a0.length : Int))) < 0) then (
 some (-1))
 else (
 some (IntKind.wrap .i64 (a1 - (a0.length : Int))))
def laws_szTriggerS_c : Ct := .pure true false (.pair (.slice T_Trigger) (.pair (.int .i64) .unit)) (.int .i64) (fun x => laws_szTriggerS x.1 x.2.1)
theorem laws_szTriggerS_ct : CtOk Try.prog 45 laws_szTriggerS_c := pure_ct (E := { T := tab, G := [] }) (EnvOk.nil tabOk) mixed (fn := Try.f45) _ _ _ _ _ .none Try.func45 (by kernel_rfl) (fun x => by kernel_rfl)
/-! loop.example/g00486/laws.toTrigger -/
def laws_toTrigger (a0 : T_Trigger.D) : Option T_Trigger.D :=
(laws_toPiece a0.2.2.2.1).bind fun y1 =>
 some (a0.1, a0.2.1, a0.2.2.1, y1, ())
def laws_toTrigger_c : Ct := .pure true false (.pair T_Trigger .unit) T_Trigger (fun x => laws_toTrigger x.1)
theorem laws_toTrigger_ct : CtOk Try.prog 83 laws_toTrigger_c := pure_ct (E := { T := tab, G := [(94, laws_toPiece_c)] }) (EnvOk.cons laws_toPiece_ct (EnvOk.nil tabOk)) mixed (fn := Try.f83) _ _ _ _ _ .none Try.func83 (by kernel_rfl) (fun x => by kernel_rfl)
/-! loop.example/g00486/laws.toTriggerS -/
def laws_toTriggerS_l1 (a0 : (List T_Trigger.D)) : ((List T_Trigger.D) × Int) → Option (((List T_Trigger.D) × Int) ⊕ ((List T_Trigger.D) × Int)) := fun s2 =>
 bif decide (s2.2 < (a0.length : Int)) then (
 idx a0 s2.2 fun x3 =>
(laws_toTrigger x3).bind fun y4 =>
 idx s2.1 s2.2 fun _ =>
(s2.1[(s2.2 : Int).toNat]?).bind fun x5 =>
 let u6 : (List T_Trigger.D) := s2.1.set (s2.2 : Int).toNat y4
 some (.inl (u6, IntKind.wrap .i64 (s2.2 + 1))))
 else (
 some (.inr s2))
def laws_toTriggerS (a0 : (List T_Trigger.D)) : Option (List T_Trigger.D) :=
 if 0 ≤ (a0.length : Int) then (if ((a0.length : Int)).toNat * (24 * 16) ≤ room then (
(while_ (laws_toTriggerS_l1 a0) ((List.replicate ((a0.length : Int)).toNat (0, 0, 0, (0, 0, 0, 0, 0, 0, 0, 0, 0, 0, 0, false, false, ()), ())), 0)).bind fun o7 =>
 some o7.1) else none) else none
def laws_toTriggerS_h : Hints := (.node none none .none (.node none none .none (.node none none (.node none none .none (.node none none (.node none (some ⟨[.tmpO 3 0 (.slice T_Trigger), .tmp 4 (.int .i64)], [some 0], none, []⟩) .none .none) .none)) .none)))
def laws_toTriggerS_c : Ct := .pure true false (.pair (.slice T_Trigger) .unit) (.slice T_Trigger) (fun x => laws_toTriggerS x.1)
theorem laws_toTriggerS_ct : CtOk Try.prog 47 laws_toTriggerS_c := pure_ct (E := { T := tab, G := [(83, laws_toTrigger_c)] }) (EnvOk.cons laws_toTrigger_ct (EnvOk.nil tabOk)) mixed (fn := Try.f47) _ _ _ _ _ laws_toTriggerS_h Try.func47 (by kernel_rfl) (fun x => by kernel_rfl)
def laws_toTriggerS_fresh_c : Ct := .pure true true (.pair (.slice T_Trigger) .unit) (.slice T_Trigger) (fun x => laws_toTriggerS x.1)
theorem laws_toTriggerS_fresh_ct : CtOk Try.prog 47 laws_toTriggerS_fresh_c := pure_ct (E := { T := tab, G := [(83, laws_toTrigger_c)] }) (EnvOk.cons laws_toTrigger_ct (EnvOk.nil tabOk)) mixed (fn := Try.f47) _ _ _ _ _ laws_toTriggerS_h Try.func47 (by kernel_rfl) (fun x => by kernel_rfl)
/-! loop.example/g00486/spec.TriggersOf -/
def spec_TriggersOf_l1 (a0 : (List T_Trigger.D)) (a1 : Int) : ((List T_Trigger.D) × Int) → Option (((List T_Trigger.D) × Int) ⊕ ((List T_Trigger.D) × Int)) := fun s1 =>
 bif decide (s1.2 < (a0.length : Int)) then (
 idx a0 s1.2 fun x2 =>
((bif (x2.2.1 == a1) then (
 idx a0 s1.2 fun x3 =>
 if (s1.1.length + [x3].length) * (24 * 16) ≤ room then (
 some (s1.1 ++ [x3])) else none)
 else (
 some s1.1)) : Option (List T_Trigger.D)).bind fun o4 =>
 some (.inl (o4, IntKind.wrap .i64 (s1.2 + 1))))
 else (
 some (.inr s1))
def spec_TriggersOf (a0 : (List T_Trigger.D)) (a1 : Int) : Option (List T_Trigger.D) :=
(while_ (spec_TriggersOf_l1 a0 a1) ([], 0)).bind fun o5 =>
 some o5.1
def spec_TriggersOf_h : Hints := (.node none none .none (.node none none .none (.node none none (.node none none .none (.node none none (.node none (some ⟨[.tmpO 5 0 (.slice T_Trigger), .tmp 6 (.int .i64)], [some 0], none, []⟩) (.node none none .none (.node none none (.node none none (.node none none .none (.node (some ⟨[.tmpO 5 1 (.slice T_Trigger)], [none], none, [(5, 0)]⟩) none .none .none)) .none) .none)) .none) .none)) .none)))
def spec_TriggersOf_c : Ct := .pure true false (.pair (.slice T_Trigger) (.pair (.int .i64) .unit)) (.slice T_Trigger) (fun x => spec_TriggersOf x.1 x.2.1)
theorem spec_TriggersOf_ct : CtOk Try.prog 46 spec_TriggersOf_c := pure_ct (E := { T := tab, G := [] }) (EnvOk.nil tabOk) mixed (fn := Try.f46) _ _ _ _ _ spec_TriggersOf_h Try.func46 (by kernel_rfl) (fun x => by kernel_rfl)
def spec_TriggersOf_fresh_c : Ct := .pure true true (.pair (.slice T_Trigger) (.pair (.int .i64) .unit)) (.slice T_Trigger) (fun x => spec_TriggersOf x.1 x.2.1)
theorem spec_TriggersOf_fresh_ct : CtOk Try.prog 46 spec_TriggersOf_fresh_c := pure_ct (E := { T := tab, G := [] }) (EnvOk.nil tabOk) mixed (fn := Try.f46) _ _ _ _ _ spec_TriggersOf_h Try.func46 (by kernel_rfl) (fun x => by kernel_rfl)
/-! slices.Clone[[]loop.example/g00486/impl.Trigger,loop.example/g00486/impl.Trigger] -/
def slices_Clone_impl_Trigger (a0 : (List T_Trigger.D)) : Option (List T_Trigger.D) :=
 if (([] : List T_Trigger.D).length + a0.length) * (24 * 16) ≤ room then (
 some ([] ++ a0)) else none
def slices_Clone_impl_Trigger_c : Ct := .pure true false (.pair (.slice T_Trigger) .unit) (.slice T_Trigger) (fun x => slices_Clone_impl_Trigger x.1)
theorem slices_Clone_impl_Trigger_ct : CtOk Try.prog 85 slices_Clone_impl_Trigger_c := nil_ct (E := { T := tab, G := [] }) (EnvOk.nil tabOk) mixed (fn := Try.f85) _ _ T_Trigger _ _ .none .none Try.func85 (by kernel_rfl) (by kernel_rfl) (fun x => by kernel_rfl)
def slices_Clone_impl_Trigger_fresh_c : Ct := .pure true true (.pair (.slice T_Trigger) .unit) (.slice T_Trigger) (fun x => slices_Clone_impl_Trigger x.1)
theorem slices_Clone_impl_Trigger_fresh_ct : CtOk Try.prog 85 slices_Clone_impl_Trigger_fresh_c := nil_ct (E := { T := tab, G := [] }) (EnvOk.nil tabOk) mixed (fn := Try.f85) _ _ T_Trigger _ _ .none .none Try.func85 (by kernel_rfl) (by kernel_rfl) (fun x => by kernel_rfl)
/-! slices.IndexFunc[[]loop.example/g00486/impl.Trigger,loop.example/g00486/impl.Trigger] -/
def slices_IndexFunc_impl_Trigger_l1 (a0 : (List T_Trigger.D)) (a1 : ((T_Trigger.D × Unit) → Option Bool)) : Int → Option (Int ⊕ (Int ⊕ Int)) := fun s1 =>
 bif decide (s1 < (a0.length : Int)) then (
 idx a0 s1 fun x2 =>
(a1 (x2, ())).bind fun y3 =>
 bif y3 then (
 some (.inr (.inr s1)))
 else (
 some (.inl (IntKind.wrap .i64 (s1 + 1)))))
 else (
 some (.inr (.inl s1)))
def slices_IndexFunc_impl_Trigger (a0 : (List T_Trigger.D)) (a1 : ((T_Trigger.D × Unit) → Option Bool)) : Option Int :=
(while_ (slices_IndexFunc_impl_Trigger_l1 a0 a1) 0).bind fun o4 =>
 match o4 with
| .inl s5 => (
 some (-1))
| .inr o6 => (
 some o6)
def slices_IndexFunc_impl_Trigger_h : Hints := (.node none none .none (.node none none (.node none none .none (.node none none (.node none (some ⟨[.tmp 8 (.int .i64)], [some 0], some [.tmp 4 (.int .i64)], []⟩) .none .none) .none)) .none))
def slices_IndexFunc_impl_Trigger_c : Ct := .pure true false (.pair (.slice T_Trigger) (.pair (.fn (.pair T_Trigger .unit) .bool) .unit)) (.int .i64) (fun x => slices_IndexFunc_impl_Trigger x.1 x.2.1)
theorem slices_IndexFunc_impl_Trigger_ct : CtOk Try.prog 108 slices_IndexFunc_impl_Trigger_c := pure_ct (E := { T := tab, G := [] }) (EnvOk.nil tabOk) mixed (fn := Try.f108) _ _ _ _ _ slices_IndexFunc_impl_Trigger_h Try.func108 (by kernel_rfl) (fun x => by kernel_rfl)
/-! slices.DeleteFunc[[]loop.example/g00486/impl.Trigger,loop.example/g00486/impl.Trigger] -/
def slices_DeleteFunc_impl_Trigger_l1 (a1 : ((T_Trigger.D × Unit) → Option Bool)) : ((List T_Trigger.D) × (Int × Int)) → Option (((List T_Trigger.D) × (Int × Int)) ⊕ ((List T_Trigger.D) × (Int × Int))) := fun s3 =>
 bif decide (s3.2.2 < (s3.1.length : Int)) then (
 idx s3.1 s3.2.2 fun _ =>
(s3.1[(s3.2.2 : Int).toNat]?).bind fun x4 =>
(a1 (x4, ())).bind fun y5 =>
((bif (!y5) then (
 idx s3.1 s3.2.1 fun _ =>
(s3.1[(s3.2.1 : Int).toNat]?).bind fun x6 =>
 let u7 : (List T_Trigger.D) := s3.1.set (s3.2.1 : Int).toNat x4
 some (u7, IntKind.wrap .i64 (s3.2.1 + 1)))
 else (
 some (s3.1, s3.2.1))) : Option ((List T_Trigger.D) × Int)).bind fun o8 =>
 some (.inl (o8.1, o8.2, IntKind.wrap .i64 (s3.2.2 + 1))))
 else (
 some (.inr s3))
def slices_DeleteFunc_impl_Trigger (a0 : (List T_Trigger.D)) (a1 : ((T_Trigger.D × Unit) → Option Bool)) : Option ((List T_Trigger.D) × Unit) :=
(slices_IndexFunc_impl_Trigger a0 a1).bind fun y1 =>
 bif (y1 == (-1)) then (
 some (a0, ()))
 else (
(while_ (slices_DeleteFunc_impl_Trigger_l1 a1) (a0, y1, IntKind.wrap .i64 (y1 + 1))).bind fun o9 =>
 if 0 ≤ o9.2.1 then (if o9.2.1 ≤ (o9.1.length : Int) then (if (o9.1.length : Int) ≤ (o9.1.length : Int) then (
 if 0 ≤ (0 : Int) then (if (0 : Int) ≤ o9.2.1 then (if o9.2.1 ≤ ((o9.1.take (o9.2.1.toNat) ++ List.replicate ((o9.1.length : Int).toNat - o9.2.1.toNat) (0, 0, 0, (0, 0, 0, 0, 0, 0, 0, 0, 0, 0, 0, false, false, ()), ()) ++ o9.1.drop ((o9.1.length : Int).toNat)).length : Int) then (
 some ((((o9.1.take (o9.2.1.toNat) ++ List.replicate ((o9.1.length : Int).toNat - o9.2.1.toNat) (0, 0, 0, (0, 0, 0, 0, 0, 0, 0, 0, 0, 0, 0, false, false, ()), ()) ++ o9.1.drop ((o9.1.length : Int).toNat)).take (o9.2.1.toNat)).drop ((0 : Int).toNat)), ())) else none) else none) else none) else none) else none) else none)
def slices_DeleteFunc_impl_Trigger_h : Hints := (.node none none .none (.node none none .none (.node none none .none (.node none none (.node none none .none (.node none none (.node none (some ⟨[.tmpO 0 1 (.slice T_Trigger), .tmp 5 (.int .i64), .tmp 6 (.int .i64)], [some 0], none, []⟩) (.node none none .none (.node none none (.node none none (.node none none .none (.node none none .none (.node (some ⟨[.tmpO 0 2 (.slice T_Trigger), .tmp 5 (.int .i64)], [none], none, [(0, 1)]⟩) none .none .none))) .none) .none)) .none) .none)) .none))))
def slices_DeleteFunc_impl_Trigger_fresh_c : Ct := .mut [.tk, .rd] true true (.pair (.slice T_Trigger) (.pair (.fn (.pair T_Trigger .unit) .bool) .unit)) (.slice T_Trigger) (fun x => slices_DeleteFunc_impl_Trigger x.1 x.2.1)
theorem slices_DeleteFunc_impl_Trigger_fresh_ct : CtOk Try.prog 84 slices_DeleteFunc_impl_Trigger_fresh_c := mut_ct (E := { T := tab, G := [(108, slices_IndexFunc_impl_Trigger_c)] }) (EnvOk.cons slices_IndexFunc_impl_Trigger_ct (EnvOk.nil tabOk)) mixed (fn := Try.f84) _ _ _ _ _ _ slices_DeleteFunc_impl_Trigger_h Try.func84 (by kernel_rfl) (fun x => by kernel_rfl)
/-! loop.example/g00486/impl.TriggersOf$1 -/
def impl_TriggersOf_1 (z0 : Int) (a0 : T_Trigger.D) : Option Bool :=
 some (a0.2.1 != z0)
def impl_TriggersOf_1_c : Ct := .clo (.pair T_Trigger .unit) (.pair (.int .i64) .unit) .bool (fun z x => impl_TriggersOf_1 z.1 x.1)
theorem impl_TriggersOf_1_ct : CtOk Try.prog 86 impl_TriggersOf_1_c := clo_ct (E := { T := tab, G := [] }) (EnvOk.nil tabOk) mixed (fn := Try.f86) _ _ _ _ .none Try.func86 (by kernel_rfl) (fun z x => by kernel_rfl)
/-! loop.example/g00486/impl.TriggersOf -/
def impl_TriggersOf (a0 : (List T_Trigger.D)) (a1 : Int) : Option (List T_Trigger.D) :=
(slices_Clone_impl_Trigger a0).bind fun y1 =>
(slices_DeleteFunc_impl_Trigger y1 (fun q => impl_TriggersOf_1 a1 q.1)).bind fun y2 =>
 some y2.1
def impl_TriggersOf_c : Ct := .pure true false (.pair (.slice T_Trigger) (.pair (.int .i64) .unit)) (.slice T_Trigger) (fun x => impl_TriggersOf x.1 x.2.1)
theorem impl_TriggersOf_ct : CtOk Try.prog 48 impl_TriggersOf_c := pure_ct (E := { T := tab, G := [(84, slices_DeleteFunc_impl_Trigger_fresh_c), (85, slices_Clone_impl_Trigger_fresh_c), (86, impl_TriggersOf_1_c)] }) (EnvOk.cons slices_DeleteFunc_impl_Trigger_fresh_ct (EnvOk.cons slices_Clone_impl_Trigger_fresh_ct (EnvOk.cons impl_TriggersOf_1_ct (EnvOk.nil tabOk)))) mixed (fn := Try.f48) _ _ _ _ _ .none Try.func48 (by kernel_rfl) (fun x => by kernel_rfl)
def impl_TriggersOf_fresh_c : Ct := .pure true true (.pair (.slice T_Trigger) (.pair (.int .i64) .unit)) (.slice T_Trigger) (fun x => impl_TriggersOf x.1 x.2.1)
theorem impl_TriggersOf_fresh_ct : CtOk Try.prog 48 impl_TriggersOf_fresh_c := pure_ct (E := { T := tab, G := [(84, slices_DeleteFunc_impl_Trigger_fresh_c), (85, slices_Clone_impl_Trigger_fresh_c), (86, impl_TriggersOf_1_c)] }) (EnvOk.cons slices_DeleteFunc_impl_Trigger_fresh_ct (EnvOk.cons slices_Clone_impl_Trigger_fresh_ct (EnvOk.cons impl_TriggersOf_1_ct (EnvOk.nil tabOk)))) mixed (fn := Try.f48) _ _ _ _ _ .none Try.func48 (by kernel_rfl) (fun x => by kernel_rfl)
/-! loop.example/g00486/laws.eqTrigger -/
def laws_eqTrigger (a0 : T_Trigger.D) (a1 : T_Trigger.D) : Option Bool :=
 bif (a0.1 != a1.1) then (
 some false)
 else (
 bif (a0.2.1 != a1.2.1) then (
 some false)
 else (
 bif (a0.2.2.1 != a1.2.2.1) then (
 some false)
 else (
(laws_eqPiece a0.2.2.2.1 a1.2.2.2.1).bind fun y1 =>
 bif (!y1) then (
 some false)
 else (
 some true))))
def laws_eqTrigger_c : Ct := .pure true false (.pair T_Trigger (.pair T_Trigger .unit)) .bool (fun x => laws_eqTrigger x.1 x.2.1)
theorem laws_eqTrigger_ct : CtOk Try.prog 87 laws_eqTrigger_c := pure_ct (E := { T := tab, G := [(90, laws_eqPiece_c)] }) (EnvOk.cons laws_eqPiece_ct (EnvOk.nil tabOk)) mixed (fn := Try.f87) _ _ _ _ _ .none Try.func87 (by kernel_rfl) (fun x => by kernel_rfl)
/-! loop.example/g00486/laws.eqTriggerS -/
def laws_eqTriggerS_l1 (a0 : (List T_Trigger.D)) (a1 : (List T_Trigger.D)) : Int → Option (Int ⊕ (Int ⊕ Bool)) := fun s1 =>
 bif decide (s1 < (a0.length : Int)) then (
 idx a0 s1 fun x2 =>
 idx a1 s1 fun x3 =>
(laws_eqTrigger x2 x3).bind fun y4 =>
 bif (!y4) then (
 some (.inr (.inr false)))
 else (
 some (.inl (IntKind.wrap .i64 (s1 + 1)))))
 else (
 some (.inr (.inl s1)))
def laws_eqTriggerS (a0 : (List T_Trigger.D)) (a1 : (List T_Trigger.D)) : Option Bool :=
 bif ((a0.length : Int) != (a1.length : Int)) then (
 some false)
 else (
(while_ (laws_eqTriggerS_l1 a0 a1) 0).bind fun o5 =>
 match o5 with
| .inl s6 => (
 some true)
| .inr o7 => (
 some o7))
def laws_eqTriggerS_h : Hints := (.node none none .none (.node none none .none (.node none none (.node none none .none (.node none none (.node none (some ⟨[.tmp 5 (.int .i64)], [some 0], some [.tmp 4 .bool], []⟩) .none .none) .none)) .none)))
def laws_eqTriggerS_c : Ct := .pure true false (.pair (.slice T_Trigger) (.pair (.slice T_Trigger) .unit)) .bool (fun x => laws_eqTriggerS x.1 x.2.1)
theorem laws_eqTriggerS_ct : CtOk Try.prog 49 laws_eqTriggerS_c := pure_ct (E := { T := tab, G := [(87, laws_eqTrigger_c)] }) (EnvOk.cons laws_eqTrigger_ct (EnvOk.nil tabOk)) mixed (fn := Try.f49) _ _ _ _ _ laws_eqTriggerS_h Try.func49 (by kernel_rfl) (fun x => by kernel_rfl)
/-! loop.example/g00486/laws.markTriggerS -/
def laws_markTriggerS_l1 : ((List T_Trigger.D) × (Int × Int)) → Option (((List T_Trigger.D) × (Int × Int)) ⊕ ((List T_Trigger.D) × (Int × Int))) := fun s2 =>
 bif decide (s2.2.2 < (s2.1.length : Int)) then (
 idx s2.1 s2.2.2 fun _ =>
(s2.1[(s2.2.2 : Int).toNat]?).bind fun x3 =>
 let u4 : (List T_Trigger.D) := s2.1.set (s2.2.2 : Int).toNat (s2.2.1, x3.2)
 idx u4 s2.2.2 fun _ =>
(u4[(s2.2.2 : Int).toNat]?).bind fun x5 =>
 let u6 : (List T_Trigger.D) := u4.set (s2.2.2 : Int).toNat (x5.1, IntKind.wrap .i64 (s2.2.1 + 1), x5.2.2)
 idx u6 s2.2.2 fun _ =>
(u6[(s2.2.2 : Int).toNat]?).bind fun x7 =>
 let u8 : (List T_Trigger.D) := u6.set (s2.2.2 : Int).toNat (x7.1, x7.2.1, IntKind.wrap .i64 ((IntKind.wrap .i64 (s2.2.1 + 1)) + 1), x7.2.2.2)
 let k9 : Int := IntKind.wrap .i64 ((IntKind.wrap .i64 ((IntKind.wrap .i64 (s2.2.1 + 1)) + 1)) + 1)
 idx u8 s2.2.2 fun _ =>
(u8[(s2.2.2 : Int).toNat]?).bind fun x10 =>
 let u11 : (List T_Trigger.D) := u8.set (s2.2.2 : Int).toNat (x10.1, x10.2.1, x10.2.2.1, (k9, x10.2.2.2.1.2), ())
 idx u11 s2.2.2 fun _ =>
(u11[(s2.2.2 : Int).toNat]?).bind fun x12 =>
 let u13 : (List T_Trigger.D) := u11.set (s2.2.2 : Int).toNat (x12.1, x12.2.1, x12.2.2.1, (x12.2.2.2.1.1, IntKind.wrap .i64 (k9 + 1), x12.2.2.2.1.2.2), ())
 idx u13 s2.2.2 fun _ =>
(u13[(s2.2.2 : Int).toNat]?).bind fun x14 =>
 let u15 : (List T_Trigger.D) := u13.set (s2.2.2 : Int).toNat (x14.1, x14.2.1, x14.2.2.1, (x14.2.2.2.1.1, x14.2.2.2.1.2.1, IntKind.wrap .i64 ((IntKind.wrap .i64 (k9 + 1)) + 1), x14.2.2.2.1.2.2.2), ())
 let k16 : Int := IntKind.wrap .i64 ((IntKind.wrap .i64 ((IntKind.wrap .i64 (k9 + 1)) + 1)) + 1)
 idx u15 s2.2.2 fun _ =>
(u15[(s2.2.2 : Int).toNat]?).bind fun x17 =>
 let u18 : (List T_Trigger.D) := u15.set (s2.2.2 : Int).toNat (x17.1, x17.2.1, x17.2.2.1, (x17.2.2.2.1.1, x17.2.2.2.1.2.1, x17.2.2.2.1.2.2.1, k16, x17.2.2.2.1.2.2.2.2), ())
 idx u18 s2.2.2 fun _ =>
(u18[(s2.2.2 : Int).toNat]?).bind fun x19 =>
 let u20 : (List T_Trigger.D) := u18.set (s2.2.2 : Int).toNat (x19.1, x19.2.1, x19.2.2.1, (x19.2.2.2.1.1, x19.2.2.2.1.2.1, x19.2.2.2.1.2.2.1, x19.2.2.2.1.2.2.2.1, IntKind.wrap .i64 (k16 + 1), x19.2.2.2.1.2.2.2.2.2), ())
 idx u20 s2.2.2 fun _ =>
(u20[(s2.2.2 : Int).toNat]?).bind fun x21 =>
 let u22 : (List T_Trigger.D) := u20.set (s2.2.2 : Int).toNat (x21.1, x21.2.1, x21.2.2.1, (x21.2.2.2.1.1, x21.2.2.2.1.2.1, x21.2.2.2.1.2.2.1, x21.2.2.2.1.2.2.2.1, x21.2.2.2.1.2.2.2.2.1, IntKind.wrap .i64 ((IntKind.wrap .i64 (k16 + 1)) + 1), x21.2.2.2.1.2.2.2.2.2.2), ())
 let k23 : Int := IntKind.wrap .i64 ((IntKind.wrap .i64 ((IntKind.wrap .i64 (k16 + 1)) + 1)) + 1)
 idx u22 s2.2.2 fun _ =>
(u22[(s2.2.2 : Int).toNat]?).bind fun x24 =>
 let u25 : (List T_Trigger.D) := u22.set (s2.2.2 : Int).toNat (x24.1, x24.2.1, x24.2.2.1, (x24.2.2.2.1.1, x24.2.2.2.1.2.1, x24.2.2.2.1.2.2.1, x24.2.2.2.1.2.2.2.1, x24.2.2.2.1.2.2.2.2.1, x24.2.2.2.1.2.2.2.2.2.1, k23, x24.2.2.2.1.2.2.2.2.2.2.2), ())
 idx u25 s2.2.2 fun _ =>
(u25[(s2.2.2 : Int).toNat]?).bind fun x26 =>
 let u27 : (List T_Trigger.D) := u25.set (s2.2.2 : Int).toNat (x26.1, x26.2.1, x26.2.2.1, (x26.2.2.2.1.1, x26.2.2.2.1.2.1, x26.2.2.2.1.2.2.1, x26.2.2.2.1.2.2.2.1, x26.2.2.2.1.2.2.2.2.1, x26.2.2.2.1.2.2.2.2.2.1, x26.2.2.2.1.2.2.2.2.2.2.1, IntKind.wrap .i64 (k23 + 1), x26.2.2.2.1.2.2.2.2.2.2.2.2), ())
 idx u27 s2.2.2 fun _ =>
(u27[(s2.2.2 : Int).toNat]?).bind fun x28 =>
 let u29 : (List T_Trigger.D) := u27.set (s2.2.2 : Int).toNat (x28.1, x28.2.1, x28.2.2.1, (x28.2.2.2.1.1, x28.2.2.2.1.2.1, x28.2.2.2.1.2.2.1, x28.2.2.2.1.2.2.2.1, x28.2.2.2.1.2.2.2.2.1, x28.2.2.2.1.2.2.2.2.2.1, x28.2.2.2.1.2.2.2.2.2.2.1, x28.2.2.2.1.2.2.2.2.2.2.2.1, IntKind.wrap .i64 ((IntKind.wrap .i64 (k23 + 1)) + 1), x28.2.2.2.1.2.2.2.2.2.2.2.2.2), ())
 let k30 : Int := IntKind.wrap .i64 ((IntKind.wrap .i64 ((IntKind.wrap .i64 (k23 + 1)) + 1)) + 1)
 idx u29 s2.2.2 fun _ =>
(u29[(s2.2.2 : Int).toNat]?).bind fun x31 =>
 let u32 : (List T_Trigger.D) := u29.set (s2.2.2 : Int).toNat (x31.1, x31.2.1, x31.2.2.1, (x31.2.2.2.1.1, x31.2.2.2.1.2.1, x31.2.2.2.1.2.2.1, x31.2.2.2.1.2.2.2.1, x31.2.2.2.1.2.2.2.2.1, x31.2.2.2.1.2.2.2.2.2.1, x31.2.2.2.1.2.2.2.2.2.2.1, x31.2.2.2.1.2.2.2.2.2.2.2.1, x31.2.2.2.1.2.2.2.2.2.2.2.2.1, k30, x31.2.2.2.1.2.2.2.2.2.2.2.2.2.2), ())
 idx u32 s2.2.2 fun _ =>
(u32[(s2.2.2 : Int).toNat]?).bind fun x33 =>
 let u34 : (List T_Trigger.D) := u32.set (s2.2.2 : Int).toNat (x33.1, x33.2.1, x33.2.2.1, (x33.2.2.2.1.1, x33.2.2.2.1.2.1, x33.2.2.2.1.2.2.1, x33.2.2.2.1.2.2.2.1, x33.2.2.2.1.2.2.2.2.1, x33.2.2.2.1.2.2.2.2.2.1, x33.2.2.2.1.2.2.2.2.2.2.1, x33.2.2.2.1.2.2.2.2.2.2.2.1, x33.2.2.2.1.2.2.2.2.2.2.2.2.1, x33.2.2.2.1.2.2.2.2.2.2.2.2.2.1, IntKind.wrap .i64 (k30 + 1), x33.2.2.2.1.2.2.2.2.2.2.2.2.2.2.2), ())
 if 3 = 0 then none else (
 let k35 : Int := (IntKind.wrap .i64 ((IntKind.wrap .i64 (k30 + 1)) + 1)).tmod 3
 idx u34 s2.2.2 fun _ =>
(u34[(s2.2.2 : Int).toNat]?).bind fun x36 =>
 let u37 : (List T_Trigger.D) := u34.set (s2.2.2 : Int).toNat (x36.1, x36.2.1, x36.2.2.1, (x36.2.2.2.1.1, x36.2.2.2.1.2.1, x36.2.2.2.1.2.2.1, x36.2.2.2.1.2.2.2.1, x36.2.2.2.1.2.2.2.2.1, x36.2.2.2.1.2.2.2.2.2.1, x36.2.2.2.1.2.2.2.2.2.2.1, x36.2.2.2.1.2.2.2.2.2.2.2.1, x36.2.2.2.1.2.2.2.2.2.2.2.2.1, x36.2.2.2.1.2.2.2.2.2.2.2.2.2.1, x36.2.2.2.1.2.2.2.2.2.2.2.2.2.2.1, (k35 == 0), x36.2.2.2.1.2.2.2.2.2.2.2.2.2.2.2.2), ())
 let k38 : Int := IntKind.wrap .i64 ((IntKind.wrap .i64 ((IntKind.wrap .i64 (k30 + 1)) + 1)) + 1)
 if 3 = 0 then none else (
 idx u37 s2.2.2 fun _ =>
(u37[(s2.2.2 : Int).toNat]?).bind fun x39 =>
 let u40 : (List T_Trigger.D) := u37.set (s2.2.2 : Int).toNat (x39.1, x39.2.1, x39.2.2.1, (x39.2.2.2.1.1, x39.2.2.2.1.2.1, x39.2.2.2.1.2.2.1, x39.2.2.2.1.2.2.2.1, x39.2.2.2.1.2.2.2.2.1, x39.2.2.2.1.2.2.2.2.2.1, x39.2.2.2.1.2.2.2.2.2.2.1, x39.2.2.2.1.2.2.2.2.2.2.2.1, x39.2.2.2.1.2.2.2.2.2.2.2.2.1, x39.2.2.2.1.2.2.2.2.2.2.2.2.2.1, x39.2.2.2.1.2.2.2.2.2.2.2.2.2.2.1, x39.2.2.2.1.2.2.2.2.2.2.2.2.2.2.2.1, ((k38.tmod 3) == 0), ()), ())
 some (.inl (u40, IntKind.wrap .i64 (k38 + 1), IntKind.wrap .i64 (s2.2.2 + 1))))))
 else (
 some (.inr s2))
def laws_markTriggerS (a0 : (List T_Trigger.D)) (a1 : Int) : Option (Int × ((List T_Trigger.D) × Unit)) :=
(while_ (laws_markTriggerS_l1) (a0, a1, 0)).bind fun o41 =>
 some (o41.2.1, (o41.1, ()))
def laws_markTriggerS_h : Hints := (.node none none .none (.node none none (.node none none .none (.node none none (.node none (some ⟨[.tmpO 0 1 (.slice T_Trigger), .tmp 1 (.int .i64), .tmp 5 (.int .i64)], [some 0], none, []⟩) .none .none) .none)) .none))
def laws_markTriggerS_c : Ct := .mut [.lent, .rd] true true (.pair (.slice T_Trigger) (.pair (.int .i64) .unit)) (.int .i64) (fun x => laws_markTriggerS x.1 x.2.1)
theorem laws_markTriggerS_ct : CtOk Try.prog 50 laws_markTriggerS_c := mut_ct (E := { T := tab, G := [] }) (EnvOk.nil tabOk) mixed (fn := Try.f50) _ _ _ _ _ _ laws_markTriggerS_h Try.func50 (by kernel_rfl) (fun x => by kernel_rfl)
/-! loop.example/g00486/laws.heldTriggerS -/
def laws_heldTriggerS_l1 (a0 : (List T_Trigger.D)) : (Int × Int) → Option ((Int × Int) ⊕ ((Int × Int) ⊕ Int)) := fun s1 =>
 bif decide (s1.2 < (a0.length : Int)) then (
 idx a0 s1.2 fun x2 =>
 bif (x2.1 != s1.1) then (
 some (.inr (.inr (-1))))
 else (
 idx a0 s1.2 fun x3 =>
 bif (x3.2.1 != (IntKind.wrap .i64 (s1.1 + 1))) then (
 some (.inr (.inr (-1))))
 else (
 idx a0 s1.2 fun x4 =>
 bif (x4.2.2.1 != (IntKind.wrap .i64 ((IntKind.wrap .i64 (s1.1 + 1)) + 1))) then (
 some (.inr (.inr (-1))))
 else (
 let k5 : Int := IntKind.wrap .i64 ((IntKind.wrap .i64 ((IntKind.wrap .i64 (s1.1 + 1)) + 1)) + 1)
 idx a0 s1.2 fun x6 =>
 bif (x6.2.2.2.1.1 != k5) then (
 some (.inr (.inr (-1))))
 else (
 idx a0 s1.2 fun x7 =>
 bif (x7.2.2.2.1.2.1 != (IntKind.wrap .i64 (k5 + 1))) then (
 some (.inr (.inr (-1))))
 else (
 idx a0 s1.2 fun x8 =>
 bif (x8.2.2.2.1.2.2.1 != (IntKind.wrap .i64 ((IntKind.wrap .i64 (k5 + 1)) + 1))) then (
 some (.inr (.inr (-1))))
 else (
 let k9 : Int := IntKind.wrap .i64 ((IntKind.wrap .i64 ((IntKind.wrap .i64 (k5 + 1)) + 1)) + 1)
 idx a0 s1.2 fun x10 =>
 bif (x10.2.2.2.1.2.2.2.1 != k9) then (
 some (.inr (.inr (-1))))
 else (
 idx a0 s1.2 fun x11 =>
 bif (x11.2.2.2.1.2.2.2.2.1 != (IntKind.wrap .i64 (k9 + 1))) then (
 some (.inr (.inr (-1))))
 else (
 idx a0 s1.2 fun x12 =>
 bif (x12.2.2.2.1.2.2.2.2.2.1 != (IntKind.wrap .i64 ((IntKind.wrap .i64 (k9 + 1)) + 1))) then (
 some (.inr (.inr (-1))))
 else (
 let k13 : Int := IntKind.wrap .i64 ((IntKind.wrap .i64 ((IntKind.wrap .i64 (k9 + 1)) + 1)) + 1)
 idx a0 s1.2 fun x14 =>
 bif (x14.2.2.2.1.2.2.2.2.2.2.1 != k13) then (
 some (.inr (.inr (-1))))
 else (
 idx a0 s1.2 fun x15 =>
 bif (x15.2.2.2.1.2.2.2.2.2.2.2.1 != (IntKind.wrap .i64 (k13 + 1))) then (
 some (.inr (.inr (-1))))
 else (
 idx a0 s1.2 fun x16 =>
 bif (x16.2.2.2.1.2.2.2.2.2.2.2.2.1 != (IntKind.wrap .i64 ((IntKind.wrap .i64 (k13 + 1)) + 1))) then (
 some (.inr (.inr (-1))))
 else (
 let k17 : Int := IntKind.wrap .i64 ((IntKind.wrap .i64 ((IntKind.wrap .i64 (k13 + 1)) + 1)) + 1)
 idx a0 s1.2 fun x18 =>
 bif (x18.2.2.2.1.2.2.2.2.2.2.2.2.2.1 != k17) then (
 some (.inr (.inr (-1))))
 else (
 idx a0 s1.2 fun x19 =>
 bif (x19.2.2.2.1.2.2.2.2.2.2.2.2.2.2.1 != (IntKind.wrap .i64 (k17 + 1))) then (
 some (.inr (.inr (-1))))
 else (
 idx a0 s1.2 fun x20 =>
 if 3 = 0 then none else (
 let k21 : Int := (IntKind.wrap .i64 ((IntKind.wrap .i64 (k17 + 1)) + 1)).tmod 3
 bif (x20.2.2.2.1.2.2.2.2.2.2.2.2.2.2.2.1 != (k21 == 0)) then (
 some (.inr (.inr (-1))))
 else (
 let k22 : Int := IntKind.wrap .i64 ((IntKind.wrap .i64 ((IntKind.wrap .i64 (k17 + 1)) + 1)) + 1)
 idx a0 s1.2 fun x23 =>
 if 3 = 0 then none else (
 bif (x23.2.2.2.1.2.2.2.2.2.2.2.2.2.2.2.2.1 != ((k22.tmod 3) == 0)) then (
 some (.inr (.inr (-1))))
 else (
 some (.inl (IntKind.wrap .i64 (k22 + 1), IntKind.wrap .i64 (s1.2 + 1))))))))))))))))))))))
 else (
 some (.inr (.inl s1)))
def laws_heldTriggerS (a0 : (List T_Trigger.D)) (a1 : Int) : Option Int :=
(while_ (laws_heldTriggerS_l1 a0) (a1, 0)).bind fun o24 =>
 match o24 with
| .inl s25 => (
 some s25.1)
| .inr o26 => (
 some o26)
def laws_heldTriggerS_h : Hints := (.node none none .none (.node none none (.node none none .none (.node none none (.node none (some ⟨[.tmp 1 (.int .i64), .tmp 5 (.int .i64)], [some 0], some [.tmp 4 (.int .i64)], []⟩) .none .none) .none)) .none))
def laws_heldTriggerS_c : Ct := .pure true false (.pair (.slice T_Trigger) (.pair (.int .i64) .unit)) (.int .i64) (fun x => laws_heldTriggerS x.1 x.2.1)
theorem laws_heldTriggerS_ct : CtOk Try.prog 51 laws_heldTriggerS_c := pure_ct (E := { T := tab, G := [] }) (EnvOk.nil tabOk) mixed (fn := Try.f51) _ _ _ _ _ laws_heldTriggerS_h Try.func51 (by kernel_rfl) (fun x => by kernel_rfl)
/-! loop.example/g00486/laws.FnExactTriggersOf -/
def laws_FnExactTriggersOf (a0 : (List T_Trigger.D)) (a1 : Int) : Option Bool :=
(laws_szTriggerS a0 1048576).bind fun y1 =>
 bif decide (y1 < 0) then (
 some true)
 else (
(laws_toTriggerS a0).bind fun y2 =>
(spec_TriggersOf y2 a1).bind fun y3 =>
(laws_toTriggerS a0).bind fun y4 =>
(impl_TriggersOf y4 a1).bind fun y5 =>
(laws_eqTriggerS y5 y3).bind fun y6 =>
 bif (!y6) then (
 some false)
 else (
(laws_toTriggerS a0).bind fun y7 =>
(laws_eqTriggerS y4 y7).bind fun y8 =>
 bif (!y8) then (
 some false)
 else (
(laws_markTriggerS y4 1).bind fun y9 =>
((bif decide (y9.1 < 0) then (
 some true)
 else (
(laws_eqTriggerS y5 y3).bind fun y10 =>
 some (!y10))) : Option Bool).bind fun o11 =>
 bif o11 then (
 some false)
 else (
(laws_markTriggerS y5 1).bind fun y12 =>
(laws_heldTriggerS y12.2.1 1).bind fun y13 =>
 bif decide (y13 < 0) then (
 some false)
 else (
 bif (y13 != y12.1) then (
 some false)
 else (
(laws_toTriggerS a0).bind fun y14 =>
(impl_TriggersOf y14 a1).bind fun y15 =>
(laws_eqTriggerS y15 y3).bind fun y16 =>
 bif (!y16) then (
 some false)
 else (
(laws_heldTriggerS y12.2.1 1).bind fun y17 =>
 bif decide (y17 < 0) then (
 some false)
 else (
 bif (y17 != y12.1) then (
 some false)
 else (
 some true)))))))))
def laws_FnExactTriggersOf_h : Hints := (.node none none .none (.node none none .none (.node none none .none (.node none none .none (.node none none .none (.node none none .none (.node none none .none (.node none none .none (.node none none .none (.node none none .none (.node none none .none (.node none none (.node none none (.node (some ⟨[.tmp 46 .bool], [none], none, []⟩) none .none .none) .none) .none))))))))))))
def laws_FnExactTriggersOf_c : Ct := .pure true false (.pair (.slice T_Trigger) (.pair (.int .i64) .unit)) .bool (fun x => laws_FnExactTriggersOf x.1 x.2.1)
theorem laws_FnExactTriggersOf_ct : CtOk Try.prog 11 laws_FnExactTriggersOf_c := pure_ct (E := { T := tab, G := [(45, laws_szTriggerS_c), (46, spec_TriggersOf_fresh_c), (47, laws_toTriggerS_fresh_c), (48, impl_TriggersOf_fresh_c), (49, laws_eqTriggerS_c), (50, laws_markTriggerS_c), (51, laws_heldTriggerS_c)] }) (EnvOk.cons laws_szTriggerS_ct (EnvOk.cons spec_TriggersOf_fresh_ct (EnvOk.cons laws_toTriggerS_fresh_ct (EnvOk.cons impl_TriggersOf_fresh_ct (EnvOk.cons laws_eqTriggerS_ct (EnvOk.cons laws_markTriggerS_ct (EnvOk.cons laws_heldTriggerS_ct (EnvOk.nil tabOk)))))))) mixed (fn := Try.f11) _ _ _ _ _ laws_FnExactTriggersOf_h Try.func11 (by kernel_rfl) (fun x => by kernel_rfl)
/-! loop.example/g00486/spec.l18Left -/
def spec_l18Left (a0 : T_Note.D) : Option Bool :=
 bif (a0.1 == 6) then (
 some true)
 else (
 bif (a0.1 == 3) then (
 bif (a0.2.2.2.2.1.2.2.2.1 == 2) then (
 some (a0.2.1.2.2.2.2.2.1 != 2))
 else (
 some false))
 else (
 some false))
def spec_l18Left_c : Ct := .pure true false (.pair T_Note .unit) .bool (fun x => spec_l18Left x.1)
theorem spec_l18Left_ct : CtOk Try.prog 88 spec_l18Left_c := pure_ct (E := { T := tab, G := [] }) (EnvOk.nil tabOk) mixed (fn := Try.f88) _ _ _ _ _ .none Try.func88 (by kernel_rfl) (fun x => by kernel_rfl)
/-! loop.example/g00486/spec.LastKnown -/
def spec_LastKnown_l1 (a0 : (List T_Note.D)) : ((List T_Piece.D) × Int) → Option (((List T_Piece.D) × Int) ⊕ ((List T_Piece.D) × Int)) := fun s1 =>
 bif decide (s1.2 < (a0.length : Int)) then (
 idx a0 s1.2 fun x2 =>
(spec_l18Left x2).bind fun y3 =>
((bif y3 then (
 idx a0 s1.2 fun x4 =>
 if (s1.1.length + [x4.2.2.2.2.1].length) * (24 * 13) ≤ room then (
 some (s1.1 ++ [x4.2.2.2.2.1])) else none)
 else (
 some s1.1)) : Option (List T_Piece.D)).bind fun o5 =>
 some (.inl (o5, IntKind.wrap .i64 (s1.2 + 1))))
 else (
 some (.inr s1))
def spec_LastKnown (a0 : (List T_Note.D)) : Option (List T_Piece.D) :=
(while_ (spec_LastKnown_l1 a0) ([], 0)).bind fun o6 =>
 some o6.1
def spec_LastKnown_h : Hints := (.node none none .none (.node none none .none (.node none none (.node none none .none (.node none none (.node none (some ⟨[.tmpO 3 0 (.slice T_Piece), .tmp 4 (.int .i64)], [some 0], none, []⟩) (.node none none .none (.node none none (.node none none (.node none none .none (.node (some ⟨[.tmpO 3 1 (.slice T_Piece)], [none], none, [(3, 0)]⟩) none .none .none)) .none) .none)) .none) .none)) .none)))
def spec_LastKnown_c : Ct := .pure true false (.pair (.slice T_Note) .unit) (.slice T_Piece) (fun x => spec_LastKnown x.1)
theorem spec_LastKnown_ct : CtOk Try.prog 52 spec_LastKnown_c := pure_ct (E := { T := tab, G := [(88, spec_l18Left_c)] }) (EnvOk.cons spec_l18Left_ct (EnvOk.nil tabOk)) mixed (fn := Try.f52) _ _ _ _ _ spec_LastKnown_h Try.func52 (by kernel_rfl) (fun x => by kernel_rfl)
def spec_LastKnown_fresh_c : Ct := .pure true true (.pair (.slice T_Note) .unit) (.slice T_Piece) (fun x => spec_LastKnown x.1)
theorem spec_LastKnown_fresh_ct : CtOk Try.prog 52 spec_LastKnown_fresh_c := pure_ct (E := { T := tab, G := [(88, spec_l18Left_c)] }) (EnvOk.cons spec_l18Left_ct (EnvOk.nil tabOk)) mixed (fn := Try.f52) _ _ _ _ _ spec_LastKnown_h Try.func52 (by kernel_rfl) (fun x => by kernel_rfl)
/-! loop.example/g00486/impl.left -/
def impl_left (a0 : T_Note.D) : Option Bool :=
 bif (a0.1 == 6) then (
 some true)
 else (
 bif (a0.1 == 3) then (
 bif (a0.2.2.2.2.1.2.2.2.1 == 2) then (
 some (a0.2.1.2.2.2.2.2.1 != 2))
 else (
 some false))
 else (
 some false))
def impl_left_c : Ct := .pure true false (.pair T_Note .unit) .bool (fun x => impl_left x.1)
theorem impl_left_ct : CtOk Try.prog 89 impl_left_c := pure_ct (E := { T := tab, G := [] }) (EnvOk.nil tabOk) mixed (fn := Try.f89) _ _ _ _ _ .none Try.func89 (by kernel_rfl) (fun x => by kernel_rfl)
/-! loop.example/g00486/impl.LastKnown -/
def impl_LastKnown_l1 (a0 : (List T_Note.D)) : ((List T_Piece.D) × Int) → Option (((List T_Piece.D) × Int) ⊕ ((List T_Piece.D) × Int)) := fun s1 =>
 bif decide (s1.2 < (a0.length : Int)) then (
 idx a0 s1.2 fun x2 =>
(impl_left x2).bind fun y3 =>
 bif y3 then (
 if (s1.1.length + [x2.2.2.2.2.1].length) * (24 * 13) ≤ room then (
 some (.inl ((s1.1 ++ [x2.2.2.2.2.1]), IntKind.wrap .i64 (s1.2 + 1)))) else none)
 else (
 some (.inl (s1.1, IntKind.wrap .i64 (s1.2 + 1)))))
 else (
 some (.inr s1))
def impl_LastKnown (a0 : (List T_Note.D)) : Option (List T_Piece.D) :=
(while_ (impl_LastKnown_l1 a0) ([], 0)).bind fun o4 =>
 some o4.1
def impl_LastKnown_h : Hints := (.node none none .none (.node none none .none (.node none none (.node none none .none (.node none none (.node none (some ⟨[.tmpO 3 0 (.slice T_Piece), .tmp 9 (.int .i64)], [some 0], none, []⟩) .none .none) .none)) .none)))
def impl_LastKnown_c : Ct := .pure true false (.pair (.slice T_Note) .unit) (.slice T_Piece) (fun x => impl_LastKnown x.1)
theorem impl_LastKnown_ct : CtOk Try.prog 53 impl_LastKnown_c := pure_ct (E := { T := tab, G := [(89, impl_left_c)] }) (EnvOk.cons impl_left_ct (EnvOk.nil tabOk)) mixed (fn := Try.f53) _ _ _ _ _ impl_LastKnown_h Try.func53 (by kernel_rfl) (fun x => by kernel_rfl)
def impl_LastKnown_fresh_c : Ct := .pure true true (.pair (.slice T_Note) .unit) (.slice T_Piece) (fun x => impl_LastKnown x.1)
theorem impl_LastKnown_fresh_ct : CtOk Try.prog 53 impl_LastKnown_fresh_c := pure_ct (E := { T := tab, G := [(89, impl_left_c)] }) (EnvOk.cons impl_left_ct (EnvOk.nil tabOk)) mixed (fn := Try.f53) _ _ _ _ _ impl_LastKnown_h Try.func53 (by kernel_rfl) (fun x => by kernel_rfl)
/-! loop.example/g00486/laws.markNoteS -/
def laws_markNoteS_l1 : ((List T_Note.D) × (Int × Int)) → Option (((List T_Note.D) × (Int × Int)) ⊕ ((List T_Note.D) × (Int × Int))) := fun s2 =>
 bif decide (s2.2.2 < (s2.1.length : Int)) then (
 idx s2.1 s2.2.2 fun _ =>
(s2.1[(s2.2.2 : Int).toNat]?).bind fun x3 =>
 let u4 : (List T_Note.D) := s2.1.set (s2.2.2 : Int).toNat (s2.2.1, x3.2)
 idx u4 s2.2.2 fun _ =>
(u4[(s2.2.2 : Int).toNat]?).bind fun x5 =>
 let u6 : (List T_Note.D) := u4.set (s2.2.2 : Int).toNat (x5.1, (IntKind.wrap .i64 (s2.2.1 + 1), x5.2.1.2), x5.2.2)
 idx u6 s2.2.2 fun _ =>
(u6[(s2.2.2 : Int).toNat]?).bind fun x7 =>
 let u8 : (List T_Note.D) := u6.set (s2.2.2 : Int).toNat (x7.1, (x7.2.1.1, IntKind.wrap .i64 ((IntKind.wrap .i64 (s2.2.1 + 1)) + 1), x7.2.1.2.2), x7.2.2)
 let k9 : Int := IntKind.wrap .i64 ((IntKind.wrap .i64 ((IntKind.wrap .i64 (s2.2.1 + 1)) + 1)) + 1)
 idx u8 s2.2.2 fun _ =>
(u8[(s2.2.2 : Int).toNat]?).bind fun x10 =>
 let u11 : (List T_Note.D) := u8.set (s2.2.2 : Int).toNat (x10.1, (x10.2.1.1, x10.2.1.2.1, k9, x10.2.1.2.2.2), x10.2.2)
 idx u11 s2.2.2 fun _ =>
(u11[(s2.2.2 : Int).toNat]?).bind fun x12 =>
 let u13 : (List T_Note.D) := u11.set (s2.2.2 : Int).toNat (x12.1, (x12.2.1.1, x12.2.1.2.1, x12.2.1.2.2.1, IntKind.wrap .i64 (k9 + 1), x12.2.1.2.2.2.2), x12.2.2)
 idx u13 s2.2.2 fun _ =>
(u13[(s2.2.2 : Int).toNat]?).bind fun x14 =>
 let u15 : (List T_Note.D) := u13.set (s2.2.2 : Int).toNat (x14.1, (x14.2.1.1, x14.2.1.2.1, x14.2.1.2.2.1, x14.2.1.2.2.2.1, IntKind.wrap .i64 ((IntKind.wrap .i64 (k9 + 1)) + 1), x14.2.1.2.2.2.2.2), x14.2.2)
 let k16 : Int := IntKind.wrap .i64 ((IntKind.wrap .i64 ((IntKind.wrap .i64 (k9 + 1)) + 1)) + 1)
 idx u15 s2.2.2 fun _ =>
(u15[(s2.2.2 : Int).toNat]?).bind fun x17 =>
 let u18 : (List T_Note.D) := u15.set (s2.2.2 : Int).toNat (x17.1, (x17.2.1.1, x17.2.1.2.1, x17.2.1.2.2.1, x17.2.1.2.2.2.1, x17.2.1.2.2.2.2.1, k16, x17.2.1.2.2.2.2.2.2), x17.2.2)
 if 3 = 0 then none else (
 idx u18 s2.2.2 fun _ =>
(u18[(s2.2.2 : Int).toNat]?).bind fun x19 =>
 let u20 : (List T_Note.D) := u18.set (s2.2.2 : Int).toNat (x19.1, (x19.2.1.1, x19.2.1.2.1, x19.2.1.2.2.1, x19.2.1.2.2.2.1, x19.2.1.2.2.2.2.1, x19.2.1.2.2.2.2.2.1, (((IntKind.wrap .i64 (k16 + 1)).tmod 3) == 0), ()), x19.2.2)
 idx u20 s2.2.2 fun _ =>
(u20[(s2.2.2 : Int).toNat]?).bind fun x21 =>
 let u22 : (List T_Note.D) := u20.set (s2.2.2 : Int).toNat (x21.1, x21.2.1, IntKind.wrap .i64 ((IntKind.wrap .i64 (k16 + 1)) + 1), x21.2.2.2)
 let k23 : Int := IntKind.wrap .i64 ((IntKind.wrap .i64 ((IntKind.wrap .i64 (k16 + 1)) + 1)) + 1)
 idx u22 s2.2.2 fun _ =>
(u22[(s2.2.2 : Int).toNat]?).bind fun x24 =>
 let u25 : (List T_Note.D) := u22.set (s2.2.2 : Int).toNat (x24.1, x24.2.1, x24.2.2.1, k23, x24.2.2.2.2)
 idx u25 s2.2.2 fun _ =>
(u25[(s2.2.2 : Int).toNat]?).bind fun x26 =>
 let u27 : (List T_Note.D) := u25.set (s2.2.2 : Int).toNat (x26.1, x26.2.1, x26.2.2.1, x26.2.2.2.1, (IntKind.wrap .i64 (k23 + 1), x26.2.2.2.2.1.2), ())
 idx u27 s2.2.2 fun _ =>
(u27[(s2.2.2 : Int).toNat]?).bind fun x28 =>
 let u29 : (List T_Note.D) := u27.set (s2.2.2 : Int).toNat (x28.1, x28.2.1, x28.2.2.1, x28.2.2.2.1, (x28.2.2.2.2.1.1, IntKind.wrap .i64 ((IntKind.wrap .i64 (k23 + 1)) + 1), x28.2.2.2.2.1.2.2), ())
 let k30 : Int := IntKind.wrap .i64 ((IntKind.wrap .i64 ((IntKind.wrap .i64 (k23 + 1)) + 1)) + 1)
 idx u29 s2.2.2 fun _ =>
(u29[(s2.2.2 : Int).toNat]?).bind fun x31 =>
 let u32 : (List T_Note.D) := u29.set (s2.2.2 : Int).toNat (x31.1, x31.2.1, x31.2.2.1, x31.2.2.2.1, (x31.2.2.2.2.1.1, x31.2.2.2.2.1.2.1, k30, x31.2.2.2.2.1.2.2.2), ())
 idx u32 s2.2.2 fun _ =>
(u32[(s2.2.2 : Int).toNat]?).bind fun x33 =>
 let u34 : (List T_Note.D) := u32.set (s2.2.2 : Int).toNat (x33.1, x33.2.1, x33.2.2.1, x33.2.2.2.1, (x33.2.2.2.2.1.1, x33.2.2.2.2.1.2.1, x33.2.2.2.2.1.2.2.1, IntKind.wrap .i64 (k30 + 1), x33.2.2.2.2.1.2.2.2.2), ())
 idx u34 s2.2.2 fun _ =>
(u34[(s2.2.2 : Int).toNat]?).bind fun x35 =>
 let u36 : (List T_Note.D) := u34.set (s2.2.2 : Int).toNat (x35.1, x35.2.1, x35.2.2.1, x35.2.2.2.1, (x35.2.2.2.2.1.1, x35.2.2.2.2.1.2.1, x35.2.2.2.2.1.2.2.1, x35.2.2.2.2.1.2.2.2.1, IntKind.wrap .i64 ((IntKind.wrap .i64 (k30 + 1)) + 1), x35.2.2.2.2.1.2.2.2.2.2), ())
 let k37 : Int := IntKind.wrap .i64 ((IntKind.wrap .i64 ((IntKind.wrap .i64 (k30 + 1)) + 1)) + 1)
 idx u36 s2.2.2 fun _ =>
(u36[(s2.2.2 : Int).toNat]?).bind fun x38 =>
 let u39 : (List T_Note.D) := u36.set (s2.2.2 : Int).toNat (x38.1, x38.2.1, x38.2.2.1, x38.2.2.2.1, (x38.2.2.2.2.1.1, x38.2.2.2.2.1.2.1, x38.2.2.2.2.1.2.2.1, x38.2.2.2.2.1.2.2.2.1, x38.2.2.2.2.1.2.2.2.2.1, k37, x38.2.2.2.2.1.2.2.2.2.2.2), ())
 idx u39 s2.2.2 fun _ =>
(u39[(s2.2.2 : Int).toNat]?).bind fun x40 =>
 let u41 : (List T_Note.D) := u39.set (s2.2.2 : Int).toNat (x40.1, x40.2.1, x40.2.2.1, x40.2.2.2.1, (x40.2.2.2.2.1.1, x40.2.2.2.2.1.2.1, x40.2.2.2.2.1.2.2.1, x40.2.2.2.2.1.2.2.2.1, x40.2.2.2.2.1.2.2.2.2.1, x40.2.2.2.2.1.2.2.2.2.2.1, IntKind.wrap .i64 (k37 + 1), x40.2.2.2.2.1.2.2.2.2.2.2.2), ())
 idx u41 s2.2.2 fun _ =>
(u41[(s2.2.2 : Int).toNat]?).bind fun x42 =>
 let u43 : (List T_Note.D) := u41.set (s2.2.2 : Int).toNat (x42.1, x42.2.1, x42.2.2.1, x42.2.2.2.1, (x42.2.2.2.2.1.1, x42.2.2.2.2.1.2.1, x42.2.2.2.2.1.2.2.1, x42.2.2.2.2.1.2.2.2.1, x42.2.2.2.2.1.2.2.2.2.1, x42.2.2.2.2.1.2.2.2.2.2.1, x42.2.2.2.2.1.2.2.2.2.2.2.1, IntKind.wrap .i64 ((IntKind.wrap .i64 (k37 + 1)) + 1), x42.2.2.2.2.1.2.2.2.2.2.2.2.2), ())
 let k44 : Int := IntKind.wrap .i64 ((IntKind.wrap .i64 ((IntKind.wrap .i64 (k37 + 1)) + 1)) + 1)
 idx u43 s2.2.2 fun _ =>
(u43[(s2.2.2 : Int).toNat]?).bind fun x45 =>
 let u46 : (List T_Note.D) := u43.set (s2.2.2 : Int).toNat (x45.1, x45.2.1, x45.2.2.1, x45.2.2.2.1, (x45.2.2.2.2.1.1, x45.2.2.2.2.1.2.1, x45.2.2.2.2.1.2.2.1, x45.2.2.2.2.1.2.2.2.1, x45.2.2.2.2.1.2.2.2.2.1, x45.2.2.2.2.1.2.2.2.2.2.1, x45.2.2.2.2.1.2.2.2.2.2.2.1, x45.2.2.2.2.1.2.2.2.2.2.2.2.1, k44, x45.2.2.2.2.1.2.2.2.2.2.2.2.2.2), ())
 idx u46 s2.2.2 fun _ =>
(u46[(s2.2.2 : Int).toNat]?).bind fun x47 =>
 let u48 : (List T_Note.D) := u46.set (s2.2.2 : Int).toNat (x47.1, x47.2.1, x47.2.2.1, x47.2.2.2.1, (x47.2.2.2.2.1.1, x47.2.2.2.2.1.2.1, x47.2.2.2.2.1.2.2.1, x47.2.2.2.2.1.2.2.2.1, x47.2.2.2.2.1.2.2.2.2.1, x47.2.2.2.2.1.2.2.2.2.2.1, x47.2.2.2.2.1.2.2.2.2.2.2.1, x47.2.2.2.2.1.2.2.2.2.2.2.2.1, x47.2.2.2.2.1.2.2.2.2.2.2.2.2.1, IntKind.wrap .i64 (k44 + 1), x47.2.2.2.2.1.2.2.2.2.2.2.2.2.2.2), ())
 idx u48 s2.2.2 fun _ =>
(u48[(s2.2.2 : Int).toNat]?).bind fun x49 =>
 let u50 : (List T_Note.D) := u48.set (s2.2.2 : Int).toNat (x49.1, x49.2.1, x49.2.2.1, x49.2.2.2.1, (x49.2.2.2.2.1.1, x49.2.2.2.2.1.2.1, x49.2.2.2.2.1.2.2.1, x49.2.2.2.2.1.2.2.2.1, x49.2.2.2.2.1.2.2.2.2.1, x49.2.2.2.2.1.2.2.2.2.2.1, x49.2.2.2.2.1.2.2.2.2.2.2.1, x49.2.2.2.2.1.2.2.2.2.2.2.2.1, x49.2.2.2.2.1.2.2.2.2.2.2.2.2.1, x49.2.2.2.2.1.2.2.2.2.2.2.2.2.2.1, IntKind.wrap .i64 ((IntKind.wrap .i64 (k44 + 1)) + 1), x49.2.2.2.2.1.2.2.2.2.2.2.2.2.2.2.2), ())
 let k51 : Int := IntKind.wrap .i64 ((IntKind.wrap .i64 ((IntKind.wrap .i64 (k44 + 1)) + 1)) + 1)
 if 3 = 0 then none else (
 idx u50 s2.2.2 fun _ =>
(u50[(s2.2.2 : Int).toNat]?).bind fun x52 =>
 let u53 : (List T_Note.D) := u50.set (s2.2.2 : Int).toNat (x52.1, x52.2.1, x52.2.2.1, x52.2.2.2.1, (x52.2.2.2.2.1.1, x52.2.2.2.2.1.2.1, x52.2.2.2.2.1.2.2.1, x52.2.2.2.2.1.2.2.2.1, x52.2.2.2.2.1.2.2.2.2.1, x52.2.2.2.2.1.2.2.2.2.2.1, x52.2.2.2.2.1.2.2.2.2.2.2.1, x52.2.2.2.2.1.2.2.2.2.2.2.2.1, x52.2.2.2.2.1.2.2.2.2.2.2.2.2.1, x52.2.2.2.2.1.2.2.2.2.2.2.2.2.2.1, x52.2.2.2.2.1.2.2.2.2.2.2.2.2.2.2.1, ((k51.tmod 3) == 0), x52.2.2.2.2.1.2.2.2.2.2.2.2.2.2.2.2.2), ())
 if 3 = 0 then none else (
 idx u53 s2.2.2 fun _ =>
(u53[(s2.2.2 : Int).toNat]?).bind fun x54 =>
 let u55 : (List T_Note.D) := u53.set (s2.2.2 : Int).toNat (x54.1, x54.2.1, x54.2.2.1, x54.2.2.2.1, (x54.2.2.2.2.1.1, x54.2.2.2.2.1.2.1, x54.2.2.2.2.1.2.2.1, x54.2.2.2.2.1.2.2.2.1, x54.2.2.2.2.1.2.2.2.2.1, x54.2.2.2.2.1.2.2.2.2.2.1, x54.2.2.2.2.1.2.2.2.2.2.2.1, x54.2.2.2.2.1.2.2.2.2.2.2.2.1, x54.2.2.2.2.1.2.2.2.2.2.2.2.2.1, x54.2.2.2.2.1.2.2.2.2.2.2.2.2.2.1, x54.2.2.2.2.1.2.2.2.2.2.2.2.2.2.2.1, x54.2.2.2.2.1.2.2.2.2.2.2.2.2.2.2.2.1, (((IntKind.wrap .i64 (k51 + 1)).tmod 3) == 0), ()), ())
 some (.inl (u55, IntKind.wrap .i64 ((IntKind.wrap .i64 (k51 + 1)) + 1), IntKind.wrap .i64 (s2.2.2 + 1)))))))
 else (
 some (.inr s2))
def laws_markNoteS (a0 : (List T_Note.D)) (a1 : Int) : Option (Int × ((List T_Note.D) × Unit)) :=
(while_ (laws_markNoteS_l1) (a0, a1, 0)).bind fun o56 =>
 some (o56.2.1, (o56.1, ()))
def laws_markNoteS_h : Hints := (.node none none .none (.node none none (.node none none .none (.node none none (.node none (some ⟨[.tmpO 0 1 (.slice T_Note), .tmp 1 (.int .i64), .tmp 5 (.int .i64)], [some 0], none, []⟩) .none .none) .none)) .none))
def laws_markNoteS_c : Ct := .mut [.lent, .rd] true true (.pair (.slice T_Note) (.pair (.int .i64) .unit)) (.int .i64) (fun x => laws_markNoteS x.1 x.2.1)
theorem laws_markNoteS_ct : CtOk Try.prog 55 laws_markNoteS_c := mut_ct (E := { T := tab, G := [] }) (EnvOk.nil tabOk) mixed (fn := Try.f55) _ _ _ _ _ _ laws_markNoteS_h Try.func55 (by kernel_rfl) (fun x => by kernel_rfl)
/-! loop.example/g00486/laws.heldPieceS -/
def laws_heldPieceS_l1 (a0 : (List T_Piece.D)) : (Int × Int) → Option ((Int × Int) ⊕ ((Int × Int) ⊕ Int)) := fun s1 =>
 bif decide (s1.2 < (a0.length : Int)) then (
 idx a0 s1.2 fun x2 =>
 bif (x2.1 != s1.1) then (
 some (.inr (.inr (-1))))
 else (
 idx a0 s1.2 fun x3 =>
 bif (x3.2.1 != (IntKind.wrap .i64 (s1.1 + 1))) then (
 some (.inr (.inr (-1))))
 else (
 idx a0 s1.2 fun x4 =>
 bif (x4.2.2.1 != (IntKind.wrap .i64 ((IntKind.wrap .i64 (s1.1 + 1)) + 1))) then (
 some (.inr (.inr (-1))))
 else (
 let k5 : Int := IntKind.wrap .i64 ((IntKind.wrap .i64 ((IntKind.wrap .i64 (s1.1 + 1)) + 1)) + 1)
 idx a0 s1.2 fun x6 =>
 bif (x6.2.2.2.1 != k5) then (
 some (.inr (.inr (-1))))
 else (
 idx a0 s1.2 fun x7 =>
 bif (x7.2.2.2.2.1 != (IntKind.wrap .i64 (k5 + 1))) then (
 some (.inr (.inr (-1))))
 else (
 idx a0 s1.2 fun x8 =>
 bif (x8.2.2.2.2.2.1 != (IntKind.wrap .i64 ((IntKind.wrap .i64 (k5 + 1)) + 1))) then (
 some (.inr (.inr (-1))))
 else (
 let k9 : Int := IntKind.wrap .i64 ((IntKind.wrap .i64 ((IntKind.wrap .i64 (k5 + 1)) + 1)) + 1)
 idx a0 s1.2 fun x10 =>
 bif (x10.2.2.2.2.2.2.1 != k9) then (
 some (.inr (.inr (-1))))
 else (
 idx a0 s1.2 fun x11 =>
 bif (x11.2.2.2.2.2.2.2.1 != (IntKind.wrap .i64 (k9 + 1))) then (
 some (.inr (.inr (-1))))
 else (
 idx a0 s1.2 fun x12 =>
 bif (x12.2.2.2.2.2.2.2.2.1 != (IntKind.wrap .i64 ((IntKind.wrap .i64 (k9 + 1)) + 1))) then (
 some (.inr (.inr (-1))))
 else (
 let k13 : Int := IntKind.wrap .i64 ((IntKind.wrap .i64 ((IntKind.wrap .i64 (k9 + 1)) + 1)) + 1)
 idx a0 s1.2 fun x14 =>
 bif (x14.2.2.2.2.2.2.2.2.2.1 != k13) then (
 some (.inr (.inr (-1))))
 else (
 idx a0 s1.2 fun x15 =>
 bif (x15.2.2.2.2.2.2.2.2.2.2.1 != (IntKind.wrap .i64 (k13 + 1))) then (
 some (.inr (.inr (-1))))
 else (
 idx a0 s1.2 fun x16 =>
 if 3 = 0 then none else (
 let k17 : Int := (IntKind.wrap .i64 ((IntKind.wrap .i64 (k13 + 1)) + 1)).tmod 3
 bif (x16.2.2.2.2.2.2.2.2.2.2.2.1 != (k17 == 0)) then (
 some (.inr (.inr (-1))))
 else (
 let k18 : Int := IntKind.wrap .i64 ((IntKind.wrap .i64 ((IntKind.wrap .i64 (k13 + 1)) + 1)) + 1)
 idx a0 s1.2 fun x19 =>
 if 3 = 0 then none else (
 bif (x19.2.2.2.2.2.2.2.2.2.2.2.2.1 != ((k18.tmod 3) == 0)) then (
 some (.inr (.inr (-1))))
 else (
 some (.inl (IntKind.wrap .i64 (k18 + 1), IntKind.wrap .i64 (s1.2 + 1)))))))))))))))))))
 else (
 some (.inr (.inl s1)))
def laws_heldPieceS (a0 : (List T_Piece.D)) (a1 : Int) : Option Int :=
(while_ (laws_heldPieceS_l1 a0) (a1, 0)).bind fun o20 =>
 match o20 with
| .inl s21 => (
 some s21.1)
| .inr o22 => (
 some o22)
def laws_heldPieceS_h : Hints := (.node none none .none (.node none none (.node none none .none (.node none none (.node none (some ⟨[.tmp 1 (.int .i64), .tmp 5 (.int .i64)], [some 0], some [.tmp 4 (.int .i64)], []⟩) .none .none) .none)) .none))
def laws_heldPieceS_c : Ct := .pure true false (.pair (.slice T_Piece) (.pair (.int .i64) .unit)) (.int .i64) (fun x => laws_heldPieceS x.1 x.2.1)
theorem laws_heldPieceS_ct : CtOk Try.prog 57 laws_heldPieceS_c := pure_ct (E := { T := tab, G := [] }) (EnvOk.nil tabOk) mixed (fn := Try.f57) _ _ _ _ _ laws_heldPieceS_h Try.func57 (by kernel_rfl) (fun x => by kernel_rfl)
/-! loop.example/g00486/laws.FnExactLastKnown -/
def laws_FnExactLastKnown (a0 : (List T_Note.D)) : Option Bool :=
(laws_szNoteS a0 1048576).bind fun y1 =>
 bif decide (y1 < 0) then (
 some true)
 else (
(laws_toNoteS a0).bind fun y2 =>
(spec_LastKnown y2).bind fun y3 =>
(laws_toNoteS a0).bind fun y4 =>
(impl_LastKnown y4).bind fun y5 =>
(laws_eqPieceS y5 y3).bind fun y6 =>
 bif (!y6) then (
 some false)
 else (
(laws_toNoteS a0).bind fun y7 =>
(laws_eqNoteS y4 y7).bind fun y8 =>
 bif (!y8) then (
 some false)
 else (
(laws_markNoteS y4 1).bind fun y9 =>
((bif decide (y9.1 < 0) then (
 some true)
 else (
(laws_eqPieceS y5 y3).bind fun y10 =>
 some (!y10))) : Option Bool).bind fun o11 =>
 bif o11 then (
 some false)
 else (
(laws_markPieceS y5 1).bind fun y12 =>
(laws_heldPieceS y12.2.1 1).bind fun y13 =>
 bif decide (y13 < 0) then (
 some false)
 else (
 bif (y13 != y12.1) then (
 some false)
 else (
(laws_toNoteS a0).bind fun y14 =>
(impl_LastKnown y14).bind fun y15 =>
(laws_eqPieceS y15 y3).bind fun y16 =>
 bif (!y16) then (
 some false)
 else (
(laws_heldPieceS y12.2.1 1).bind fun y17 =>
 bif decide (y17 < 0) then (
 some false)
 else (
 bif (y17 != y12.1) then (
 some false)
 else (
 some true)))))))))
def laws_FnExactLastKnown_h : Hints := (.node none none .none (.node none none .none (.node none none .none (.node none none .none (.node none none .none (.node none none .none (.node none none .none (.node none none .none (.node none none .none (.node none none .none (.node none none .none (.node none none (.node none none (.node (some ⟨[.tmp 42 .bool], [none], none, []⟩) none .none .none) .none) .none))))))))))))
def laws_FnExactLastKnown_c : Ct := .pure true false (.pair (.slice T_Note) .unit) .bool (fun x => laws_FnExactLastKnown x.1)
theorem laws_FnExactLastKnown_ct : CtOk Try.prog 12 laws_FnExactLastKnown_c := pure_ct (E := { T := tab, G := [(15, laws_szNoteS_c), (17, laws_toNoteS_fresh_c), (19, laws_eqNoteS_c), (52, spec_LastKnown_fresh_c), (53, impl_LastKnown_fresh_c), (54, laws_eqPieceS_c), (55, laws_markNoteS_c), (56, laws_markPieceS_c), (57, laws_heldPieceS_c)] }) (EnvOk.cons laws_szNoteS_ct (EnvOk.cons laws_toNoteS_fresh_ct (EnvOk.cons laws_eqNoteS_ct (EnvOk.cons spec_LastKnown_fresh_ct (EnvOk.cons impl_LastKnown_fresh_ct (EnvOk.cons laws_eqPieceS_ct (EnvOk.cons laws_markNoteS_ct (EnvOk.cons laws_markPieceS_ct (EnvOk.cons laws_heldPieceS_ct (EnvOk.nil tabOk)))))))))) mixed (fn := Try.f12) _ _ _ _ _ laws_FnExactLastKnown_h Try.func12 (by kernel_rfl) (fun x => by kernel_rfl)
/-! loop.example/g00486/laws.toIntS -/
def laws_toIntS_l1 (a0 : (List Int)) : ((List Int) × Int) → Option (((List Int) × Int) ⊕ ((List Int) × Int)) := fun s2 =>
 bif decide (s2.2 < (a0.length : Int)) then (
 idx a0 s2.2 fun x3 =>
 idx s2.1 s2.2 fun _ =>
(s2.1[(s2.2 : Int).toNat]?).bind fun x4 =>
 let u5 : (List Int) := s2.1.set (s2.2 : Int).toNat x3
 some (.inl (u5, IntKind.wrap .i64 (s2.2 + 1))))
 else (
 some (.inr s2))
def laws_toIntS (a0 : (List Int)) : Option (List Int) :=
 if 0 ≤ (a0.length : Int) then (if ((a0.length : Int)).toNat * (24 * 1) ≤ room then (
(while_ (laws_toIntS_l1 a0) ((List.replicate ((a0.length : Int)).toNat 0), 0)).bind fun o6 =>
 some o6.1) else none) else none
def laws_toIntS_h : Hints := (.node none none .none (.node none none .none (.node none none (.node none none .none (.node none none (.node none (some ⟨[.tmpO 3 0 (.slice (.int .i64)), .tmp 4 (.int .i64)], [some 0], none, []⟩) .none .none) .none)) .none)))
def laws_toIntS_c : Ct := .pure true false (.pair (.slice (.int .i64)) .unit) (.slice (.int .i64)) (fun x => laws_toIntS x.1)
theorem laws_toIntS_ct : CtOk Try.prog 59 laws_toIntS_c := pure_ct (E := { T := tab, G := [] }) (EnvOk.nil tabOk) mixed (fn := Try.f59) _ _ _ _ _ laws_toIntS_h Try.func59 (by kernel_rfl) (fun x => by kernel_rfl)
def laws_toIntS_fresh_c : Ct := .pure true true (.pair (.slice (.int .i64)) .unit) (.slice (.int .i64)) (fun x => laws_toIntS x.1)
theorem laws_toIntS_fresh_ct : CtOk Try.prog 59 laws_toIntS_fresh_c := pure_ct (E := { T := tab, G := [] }) (EnvOk.nil tabOk) mixed (fn := Try.f59) _ _ _ _ _ laws_toIntS_h Try.func59 (by kernel_rfl) (fun x => by kernel_rfl)
/-! loop.example/g00486/spec.Snaps -/
def spec_Snaps_l1 (a0 : T_State.D) (a1 : (List Int)) : ((List T_Piece.D) × Int) → Option (((List T_Piece.D) × Int) ⊕ ((List T_Piece.D) × Int)) := fun s1 =>
 bif decide (s1.2 < (a1.length : Int)) then (
 idx a1 s1.2 fun x2 =>
(spec_PieceAt a0 x2).bind fun y3 =>
((bif decide (y3 ≥ 0) then (
 idx a0.1 y3 fun x4 =>
 if (s1.1.length + [x4].length) * (24 * 13) ≤ room then (
 some (s1.1 ++ [x4])) else none)
 else (
 some s1.1)) : Option (List T_Piece.D)).bind fun o5 =>
 some (.inl (o5, IntKind.wrap .i64 (s1.2 + 1))))
 else (
 some (.inr s1))
def spec_Snaps (a0 : T_State.D) (a1 : (List Int)) : Option (List T_Piece.D) :=
(while_ (spec_Snaps_l1 a0 a1) ([], 0)).bind fun o6 =>
 some o6.1
def spec_Snaps_h : Hints := (.node none none .none (.node none none .none (.node none none (.node none none .none (.node none none (.node none (some ⟨[.tmpO 5 0 (.slice T_Piece), .tmp 6 (.int .i64)], [some 0], none, []⟩) (.node none none .none (.node none none (.node none none (.node none none .none (.node none none .none (.node (some ⟨[.tmpO 5 1 (.slice T_Piece)], [none], none, [(5, 0)]⟩) none .none .none))) .none) .none)) .none) .none)) .none)))
def spec_Snaps_c : Ct := .pure true false (.pair T_State (.pair (.slice (.int .i64)) .unit)) (.slice T_Piece) (fun x => spec_Snaps x.1 x.2.1)
theorem spec_Snaps_ct : CtOk Try.prog 58 spec_Snaps_c := pure_ct (E := { T := tab, G := [(71, spec_PieceAt_c)] }) (EnvOk.cons spec_PieceAt_ct (EnvOk.nil tabOk)) mixed (fn := Try.f58) _ _ _ _ _ spec_Snaps_h Try.func58 (by kernel_rfl) (fun x => by kernel_rfl)
def spec_Snaps_fresh_c : Ct := .pure true true (.pair T_State (.pair (.slice (.int .i64)) .unit)) (.slice T_Piece) (fun x => spec_Snaps x.1 x.2.1)
theorem spec_Snaps_fresh_ct : CtOk Try.prog 58 spec_Snaps_fresh_c := pure_ct (E := { T := tab, G := [(71, spec_PieceAt_c)] }) (EnvOk.cons spec_PieceAt_ct (EnvOk.nil tabOk)) mixed (fn := Try.f58) _ _ _ _ _ spec_Snaps_h Try.func58 (by kernel_rfl) (fun x => by kernel_rfl)
/-! loop.example/g00486/impl.Snaps -/
def impl_Snaps_l1 (a0 : T_State.D) (a1 : (List Int)) : ((List T_Piece.D) × Int) → Option (((List T_Piece.D) × Int) ⊕ ((List T_Piece.D) × Int)) := fun s1 =>
 bif decide (s1.2 < (a1.length : Int)) then (
 idx a1 s1.2 fun x2 =>
(impl_PieceAt a0 x2).bind fun y3 =>
 bif decide (y3 ≥ 0) then (
 idx a0.1 y3 fun x4 =>
 if (s1.1.length + [x4].length) * (24 * 13) ≤ room then (
 some (.inl ((s1.1 ++ [x4]), IntKind.wrap .i64 (s1.2 + 1)))) else none)
 else (
 some (.inl (s1.1, IntKind.wrap .i64 (s1.2 + 1)))))
 else (
 some (.inr s1))
def impl_Snaps (a0 : T_State.D) (a1 : (List Int)) : Option (List T_Piece.D) :=
(while_ (impl_Snaps_l1 a0 a1) ([], 0)).bind fun o5 =>
 some o5.1
def impl_Snaps_h : Hints := (.node none none .none (.node none none .none (.node none none (.node none none .none (.node none none (.node none (some ⟨[.tmpO 5 0 (.slice T_Piece), .tmp 12 (.int .i64)], [some 0], none, []⟩) .none .none) .none)) .none)))
def impl_Snaps_c : Ct := .pure true false (.pair T_State (.pair (.slice (.int .i64)) .unit)) (.slice T_Piece) (fun x => impl_Snaps x.1 x.2.1)
theorem impl_Snaps_ct : CtOk Try.prog 60 impl_Snaps_c := pure_ct (E := { T := tab, G := [(74, impl_PieceAt_c)] }) (EnvOk.cons impl_PieceAt_ct (EnvOk.nil tabOk)) mixed (fn := Try.f60) _ _ _ _ _ impl_Snaps_h Try.func60 (by kernel_rfl) (fun x => by kernel_rfl)
def impl_Snaps_fresh_c : Ct := .pure true true (.pair T_State (.pair (.slice (.int .i64)) .unit)) (.slice T_Piece) (fun x => impl_Snaps x.1 x.2.1)
theorem impl_Snaps_fresh_ct : CtOk Try.prog 60 impl_Snaps_fresh_c := pure_ct (E := { T := tab, G := [(74, impl_PieceAt_c)] }) (EnvOk.cons impl_PieceAt_ct (EnvOk.nil tabOk)) mixed (fn := Try.f60) _ _ _ _ _ impl_Snaps_h Try.func60 (by kernel_rfl) (fun x => by kernel_rfl)
/-! loop.example/g00486/laws.FnExactSnaps -/
def laws_FnExactSnaps (a0 : T_State.D) (a1 : (List Int)) : Option Bool :=
 bif decide ((a1.length : Int) > 1048576) then (
 some true)
 else (
(laws_szState a0 1048576).bind fun y1 =>
 bif decide (y1 < 0) then (
 some true)
 else (
(laws_toState a0).bind fun y2 =>
(laws_toIntS a1).bind fun y3 =>
(spec_Snaps y2 y3).bind fun y4 =>
(laws_toState a0).bind fun y5 =>
(laws_toIntS a1).bind fun y6 =>
(impl_Snaps y5 y6).bind fun y7 =>
(laws_eqPieceS y7 y4).bind fun y8 =>
 bif (!y8) then (
 some false)
 else (
(laws_toState a0).bind fun y9 =>
(laws_eqState y5 y9).bind fun y10 =>
 bif (!y10) then (
 some false)
 else (
(laws_toIntS a1).bind fun y11 =>
(laws_eqIntS y6 y11).bind fun y12 =>
 bif (!y12) then (
 some false)
 else (
(laws_markState y5 1).bind fun y13 =>
(laws_markIntS y6 y13.1).bind fun y14 =>
((bif decide (y14.1 < 0) then (
 some true)
 else (
(laws_eqPieceS y7 y4).bind fun y15 =>
 some (!y15))) : Option Bool).bind fun o16 =>
 bif o16 then (
 some false)
 else (
(laws_markPieceS y7 1).bind fun y17 =>
(laws_heldPieceS y17.2.1 1).bind fun y18 =>
 bif decide (y18 < 0) then (
 some false)
 else (
 bif (y18 != y17.1) then (
 some false)
 else (
(laws_toState a0).bind fun y19 =>
(laws_toIntS a1).bind fun y20 =>
(impl_Snaps y19 y20).bind fun y21 =>
(laws_eqPieceS y21 y4).bind fun y22 =>
 bif (!y22) then (
 some false)
 else (
(laws_heldPieceS y17.2.1 1).bind fun y23 =>
 bif decide (y23 < 0) then (
 some false)
 else (
 bif (y23 != y17.1) then (
 some false)
 else (
 some true)))))))))))
def laws_FnExactSnaps_h : Hints := (.node none none .none (.node none none .none (.node none none .none (.node none none .none (.node none none .none (.node none none .none (.node none none .none (.node none none .none (.node none none .none (.node none none .none (.node none none .none (.node none none .none (.node none none .none (.node none none .none (.node none none .none (.node none none (.node none none (.node (some ⟨[.tmp 61 .bool], [none], none, []⟩) none .none .none) .none) .none))))))))))))))))
def laws_FnExactSnaps_c : Ct := .pure true false (.pair T_State (.pair (.slice (.int .i64)) .unit)) .bool (fun x => laws_FnExactSnaps x.1 x.2.1)
theorem laws_FnExactSnaps_ct : CtOk Try.prog 13 laws_FnExactSnaps_c := pure_ct (E := { T := tab, G := [(22, laws_szState_c), (24, laws_toState_fresh_c), (26, laws_eqState_c), (37, laws_eqIntS_c), (38, laws_markState_c), (39, laws_markIntS_c), (54, laws_eqPieceS_c), (56, laws_markPieceS_c), (57, laws_heldPieceS_c), (58, spec_Snaps_fresh_c), (59, laws_toIntS_fresh_c), (60, impl_Snaps_fresh_c)] }) (EnvOk.cons laws_szState_ct (EnvOk.cons laws_toState_fresh_ct (EnvOk.cons laws_eqState_ct (EnvOk.cons laws_eqIntS_ct (EnvOk.cons laws_markState_ct (EnvOk.cons laws_markIntS_ct (EnvOk.cons laws_eqPieceS_ct (EnvOk.cons laws_markPieceS_ct (EnvOk.cons laws_heldPieceS_ct (EnvOk.cons spec_Snaps_fresh_ct (EnvOk.cons laws_toIntS_fresh_ct (EnvOk.cons impl_Snaps_fresh_ct (EnvOk.nil tabOk))))))))))))) mixed (fn := Try.f13) _ _ _ _ _ laws_FnExactSnaps_h Try.func13 (by kernel_rfl) (fun x => by kernel_rfl)
/-! loop.example/g00486/spec.NotesOf -/
def spec_NotesOf_l1 (a0 : (List T_Note.D)) (a1 : Int) : ((List T_Note.D) × Int) → Option (((List T_Note.D) × Int) ⊕ ((List T_Note.D) × Int)) := fun s1 =>
 bif decide (s1.2 < (a0.length : Int)) then (
 idx a0 s1.2 fun x2 =>
((bif (x2.1 == a1) then (
 idx a0 s1.2 fun x3 =>
 if (s1.1.length + [x3].length) * (24 * 23) ≤ room then (
 some (s1.1 ++ [x3])) else none)
 else (
 some s1.1)) : Option (List T_Note.D)).bind fun o4 =>
 some (.inl (o4, IntKind.wrap .i64 (s1.2 + 1))))
 else (
 some (.inr s1))
def spec_NotesOf (a0 : (List T_Note.D)) (a1 : Int) : Option (List T_Note.D) :=
(while_ (spec_NotesOf_l1 a0 a1) ([], 0)).bind fun o5 =>
 some o5.1
def spec_NotesOf_h : Hints := (.node none none .none (.node none none .none (.node none none (.node none none .none (.node none none (.node none (some ⟨[.tmpO 5 0 (.slice T_Note), .tmp 6 (.int .i64)], [some 0], none, []⟩) (.node none none .none (.node none none (.node none none (.node none none .none (.node (some ⟨[.tmpO 5 1 (.slice T_Note)], [none], none, [(5, 0)]⟩) none .none .none)) .none) .none)) .none) .none)) .none)))
def spec_NotesOf_c : Ct := .pure true false (.pair (.slice T_Note) (.pair (.int .i64) .unit)) (.slice T_Note) (fun x => spec_NotesOf x.1 x.2.1)
theorem spec_NotesOf_ct : CtOk Try.prog 61 spec_NotesOf_c := pure_ct (E := { T := tab, G := [] }) (EnvOk.nil tabOk) mixed (fn := Try.f61) _ _ _ _ _ spec_NotesOf_h Try.func61 (by kernel_rfl) (fun x => by kernel_rfl)
def spec_NotesOf_fresh_c : Ct := .pure true true (.pair (.slice T_Note) (.pair (.int .i64) .unit)) (.slice T_Note) (fun x => spec_NotesOf x.1 x.2.1)
theorem spec_NotesOf_fresh_ct : CtOk Try.prog 61 spec_NotesOf_fresh_c := pure_ct (E := { T := tab, G := [] }) (EnvOk.nil tabOk) mixed (fn := Try.f61) _ _ _ _ _ spec_NotesOf_h Try.func61 (by kernel_rfl) (fun x => by kernel_rfl)
/-! slices.Clone[[]loop.example/g00486/impl.Note,loop.example/g00486/impl.Note] -/
def slices_Clone_impl_Note (a0 : (List T_Note.D)) : Option (List T_Note.D) :=
 if (([] : List T_Note.D).length + a0.length) * (24 * 23) ≤ room then (
 some ([] ++ a0)) else none
def slices_Clone_impl_Note_c : Ct := .pure true false (.pair (.slice T_Note) .unit) (.slice T_Note) (fun x => slices_Clone_impl_Note x.1)
theorem slices_Clone_impl_Note_ct : CtOk Try.prog 92 slices_Clone_impl_Note_c := nil_ct (E := { T := tab, G := [] }) (EnvOk.nil tabOk) mixed (fn := Try.f92) _ _ T_Note _ _ .none .none Try.func92 (by kernel_rfl) (by kernel_rfl) (fun x => by kernel_rfl)
def slices_Clone_impl_Note_fresh_c : Ct := .pure true true (.pair (.slice T_Note) .unit) (.slice T_Note) (fun x => slices_Clone_impl_Note x.1)
theorem slices_Clone_impl_Note_fresh_ct : CtOk Try.prog 92 slices_Clone_impl_Note_fresh_c := nil_ct (E := { T := tab, G := [] }) (EnvOk.nil tabOk) mixed (fn := Try.f92) _ _ T_Note _ _ .none .none Try.func92 (by kernel_rfl) (by kernel_rfl) (fun x => by kernel_rfl)
/-! slices.IndexFunc[[]loop.example/g00486/impl.Note,loop.example/g00486/impl.Note] -/
def slices_IndexFunc_impl_Note_l1 (a0 : (List T_Note.D)) (a1 : ((T_Note.D × Unit) → Option Bool)) : Int → Option (Int ⊕ (Int ⊕ Int)) := fun s1 =>
 bif decide (s1 < (a0.length : Int)) then (
 idx a0 s1 fun x2 =>
(a1 (x2, ())).bind fun y3 =>
 bif y3 then (
 some (.inr (.inr s1)))
 else (
 some (.inl (IntKind.wrap .i64 (s1 + 1)))))
 else (
 some (.inr (.inl s1)))
def slices_IndexFunc_impl_Note (a0 : (List T_Note.D)) (a1 : ((T_Note.D × Unit) → Option Bool)) : Option Int :=
(while_ (slices_IndexFunc_impl_Note_l1 a0 a1) 0).bind fun o4 =>
 match o4 with
| .inl s5 => (
 some (-1))
| .inr o6 => (
 some o6)
def slices_IndexFunc_impl_Note_h : Hints := (.node none none .none (.node none none (.node none none .none (.node none none (.node none (some ⟨[.tmp 8 (.int .i64)], [some 0], some [.tmp 4 (.int .i64)], []⟩) .none .none) .none)) .none))
def slices_IndexFunc_impl_Note_c : Ct := .pure true false (.pair (.slice T_Note) (.pair (.fn (.pair T_Note .unit) .bool) .unit)) (.int .i64) (fun x => slices_IndexFunc_impl_Note x.1 x.2.1)
theorem slices_IndexFunc_impl_Note_ct : CtOk Try.prog 109 slices_IndexFunc_impl_Note_c := pure_ct (E := { T := tab, G := [] }) (EnvOk.nil tabOk) mixed (fn := Try.f109) _ _ _ _ _ slices_IndexFunc_impl_Note_h Try.func109 (by kernel_rfl) (fun x => by kernel_rfl)
/-! slices.DeleteFunc[[]loop.example/g00486/impl.Note,loop.example/g00486/impl.Note] -/
def slices_DeleteFunc_impl_Note_l1 (a1 : ((T_Note.D × Unit) → Option Bool)) : ((List T_Note.D) × (Int × Int)) → Option (((List T_Note.D) × (Int × Int)) ⊕ ((List T_Note.D) × (Int × Int))) := fun s3 =>
 bif decide (s3.2.2 < (s3.1.length : Int)) then (
 idx s3.1 s3.2.2 fun _ =>
(s3.1[(s3.2.2 : Int).toNat]?).bind fun x4 =>
(a1 (x4, ())).bind fun y5 =>
((bif (!y5) then (
 idx s3.1 s3.2.1 fun _ =>
(s3.1[(s3.2.1 : Int).toNat]?).bind fun x6 =>
 let u7 : (List T_Note.D) := s3.1.set (s3.2.1 : Int).toNat x4
 some (u7, IntKind.wrap .i64 (s3.2.1 + 1)))
 else (
 some (s3.1, s3.2.1))) : Option ((List T_Note.D) × Int)).bind fun o8 =>
 some (.inl (o8.1, o8.2, IntKind.wrap .i64 (s3.2.2 + 1))))
 else (
 some (.inr s3))
def slices_DeleteFunc_impl_Note (a0 : (List T_Note.D)) (a1 : ((T_Note.D × Unit) → Option Bool)) : Option ((List T_Note.D) × Unit) :=
(slices_IndexFunc_impl_Note a0 a1).bind fun y1 =>
 bif (y1 == (-1)) then (
 some (a0, ()))
 else (
(while_ (slices_DeleteFunc_impl_Note_l1 a1) (a0, y1, IntKind.wrap .i64 (y1 + 1))).bind fun o9 =>
 if 0 ≤ o9.2.1 then (if o9.2.1 ≤ (o9.1.length : Int) then (if (o9.1.length : Int) ≤ (o9.1.length : Int) then (
 if 0 ≤ (0 : Int) then (if (0 : Int) ≤ o9.2.1 then (if o9.2.1 ≤ ((o9.1.take (o9.2.1.toNat) ++ List.replicate ((o9.1.length : Int).toNat - o9.2.1.toNat) (0, (0, 0, 0, 0, 0, 0, false, ()), 0, 0, (0, 0, 0, 0, 0, 0, 0, 0, 0, 0, 0, false, false, ()), ()) ++ o9.1.drop ((o9.1.length : Int).toNat)).length : Int) then (
 some ((((o9.1.take (o9.2.1.toNat) ++ List.replicate ((o9.1.length : Int).toNat - o9.2.1.toNat) (0, (0, 0, 0, 0, 0, 0, false, ()), 0, 0, (0, 0, 0, 0, 0, 0, 0, 0, 0, 0, 0, false, false, ()), ()) ++ o9.1.drop ((o9.1.length : Int).toNat)).take (o9.2.1.toNat)).drop ((0 : Int).toNat)), ())) else none) else none) else none) else none) else none) else none)
def slices_DeleteFunc_impl_Note_h : Hints := (.node none none .none (.node none none .none (.node none none .none (.node none none (.node none none .none (.node none none (.node none (some ⟨[.tmpO 0 1 (.slice T_Note), .tmp 5 (.int .i64), .tmp 6 (.int .i64)], [some 0], none, []⟩) (.node none none .none (.node none none (.node none none (.node none none .none (.node none none .none (.node (some ⟨[.tmpO 0 2 (.slice T_Note), .tmp 5 (.int .i64)], [none], none, [(0, 1)]⟩) none .none .none))) .none) .none)) .none) .none)) .none))))
def slices_DeleteFunc_impl_Note_fresh_c : Ct := .mut [.tk, .rd] true true (.pair (.slice T_Note) (.pair (.fn (.pair T_Note .unit) .bool) .unit)) (.slice T_Note) (fun x => slices_DeleteFunc_impl_Note x.1 x.2.1)
theorem slices_DeleteFunc_impl_Note_fresh_ct : CtOk Try.prog 91 slices_DeleteFunc_impl_Note_fresh_c := mut_ct (E := { T := tab, G := [(109, slices_IndexFunc_impl_Note_c)] }) (EnvOk.cons slices_IndexFunc_impl_Note_ct (EnvOk.nil tabOk)) mixed (fn := Try.f91) _ _ _ _ _ _ slices_DeleteFunc_impl_Note_h Try.func91 (by kernel_rfl) (fun x => by kernel_rfl)
/-! loop.example/g00486/impl.NotesOf$1 -/
def impl_NotesOf_1 (z0 : Int) (a0 : T_Note.D) : Option Bool :=
 some (a0.1 != z0)
def impl_NotesOf_1_c : Ct := .clo (.pair T_Note .unit) (.pair (.int .i64) .unit) .bool (fun z x => impl_NotesOf_1 z.1 x.1)
theorem impl_NotesOf_1_ct : CtOk Try.prog 93 impl_NotesOf_1_c := clo_ct (E := { T := tab, G := [] }) (EnvOk.nil tabOk) mixed (fn := Try.f93) _ _ _ _ .none Try.func93 (by kernel_rfl) (fun z x => by kernel_rfl)
/-! loop.example/g00486/impl.NotesOf -/
def impl_NotesOf (a0 : (List T_Note.D)) (a1 : Int) : Option (List T_Note.D) :=
(slices_Clone_impl_Note a0).bind fun y1 =>
(slices_DeleteFunc_impl_Note y1 (fun q => impl_NotesOf_1 a1 q.1)).bind fun y2 =>
 some y2.1
def impl_NotesOf_c : Ct := .pure true false (.pair (.slice T_Note) (.pair (.int .i64) .unit)) (.slice T_Note) (fun x => impl_NotesOf x.1 x.2.1)
theorem impl_NotesOf_ct : CtOk Try.prog 62 impl_NotesOf_c := pure_ct (E := { T := tab, G := [(91, slices_DeleteFunc_impl_Note_fresh_c), (92, slices_Clone_impl_Note_fresh_c), (93, impl_NotesOf_1_c)] }) (EnvOk.cons slices_DeleteFunc_impl_Note_fresh_ct (EnvOk.cons slices_Clone_impl_Note_fresh_ct (EnvOk.cons impl_NotesOf_1_ct (EnvOk.nil tabOk)))) mixed (fn := Try.f62) _ _ _ _ _ .none Try.func62 (by kernel_rfl) (fun x => by kernel_rfl)
def impl_NotesOf_fresh_c : Ct := .pure true true (.pair (.slice T_Note) (.pair (.int .i64) .unit)) (.slice T_Note) (fun x => impl_NotesOf x.1 x.2.1)
theorem impl_NotesOf_fresh_ct : CtOk Try.prog 62 impl_NotesOf_fresh_c := pure_ct (E := { T := tab, G := [(91, slices_DeleteFunc_impl_Note_fresh_c), (92, slices_Clone_impl_Note_fresh_c), (93, impl_NotesOf_1_c)] }) (EnvOk.cons slices_DeleteFunc_impl_Note_fresh_ct (EnvOk.cons slices_Clone_impl_Note_fresh_ct (EnvOk.cons impl_NotesOf_1_ct (EnvOk.nil tabOk)))) mixed (fn := Try.f62) _ _ _ _ _ .none Try.func62 (by kernel_rfl) (fun x => by kernel_rfl)
/-! loop.example/g00486/laws.heldNoteS -/
def laws_heldNoteS_l1 (a0 : (List T_Note.D)) : (Int × Int) → Option ((Int × Int) ⊕ ((Int × Int) ⊕ Int)) := fun s1 =>
 bif decide (s1.2 < (a0.length : Int)) then (
 idx a0 s1.2 fun x2 =>
 bif (x2.1 != s1.1) then (
 some (.inr (.inr (-1))))
 else (
 idx a0 s1.2 fun x3 =>
 bif (x3.2.1.1 != (IntKind.wrap .i64 (s1.1 + 1))) then (
 some (.inr (.inr (-1))))
 else (
 idx a0 s1.2 fun x4 =>
 bif (x4.2.1.2.1 != (IntKind.wrap .i64 ((IntKind.wrap .i64 (s1.1 + 1)) + 1))) then (
 some (.inr (.inr (-1))))
 else (
 let k5 : Int := IntKind.wrap .i64 ((IntKind.wrap .i64 ((IntKind.wrap .i64 (s1.1 + 1)) + 1)) + 1)
 idx a0 s1.2 fun x6 =>
 bif (x6.2.1.2.2.1 != k5) then (
 some (.inr (.inr (-1))))
 else (
 idx a0 s1.2 fun x7 =>
 bif (x7.2.1.2.2.2.1 != (IntKind.wrap .i64 (k5 + 1))) then (
 some (.inr (.inr (-1))))
 else (
 idx a0 s1.2 fun x8 =>
 bif (x8.2.1.2.2.2.2.1 != (IntKind.wrap .i64 ((IntKind.wrap .i64 (k5 + 1)) + 1))) then (
 some (.inr (.inr (-1))))
 else (
 let k9 : Int := IntKind.wrap .i64 ((IntKind.wrap .i64 ((IntKind.wrap .i64 (k5 + 1)) + 1)) + 1)
 idx a0 s1.2 fun x10 =>
 bif (x10.2.1.2.2.2.2.2.1 != k9) then (
 some (.inr (.inr (-1))))
 else (
 idx a0 s1.2 fun x11 =>
 if 3 = 0 then none else (
 bif (x11.2.1.2.2.2.2.2.2.1 != (((IntKind.wrap .i64 (k9 + 1)).tmod 3) == 0)) then (
 some (.inr (.inr (-1))))
 else (
 idx a0 s1.2 fun x12 =>
 bif (x12.2.2.1 != (IntKind.wrap .i64 ((IntKind.wrap .i64 (k9 + 1)) + 1))) then (
 some (.inr (.inr (-1))))
 else (
 let k13 : Int := IntKind.wrap .i64 ((IntKind.wrap .i64 ((IntKind.wrap .i64 (k9 + 1)) + 1)) + 1)
 idx a0 s1.2 fun x14 =>
 bif (x14.2.2.2.1 != k13) then (
 some (.inr (.inr (-1))))
 else (
 idx a0 s1.2 fun x15 =>
 bif (x15.2.2.2.2.1.1 != (IntKind.wrap .i64 (k13 + 1))) then (
 some (.inr (.inr (-1))))
 else (
 idx a0 s1.2 fun x16 =>
 bif (x16.2.2.2.2.1.2.1 != (IntKind.wrap .i64 ((IntKind.wrap .i64 (k13 + 1)) + 1))) then (
 some (.inr (.inr (-1))))
 else (
 let k17 : Int := IntKind.wrap .i64 ((IntKind.wrap .i64 ((IntKind.wrap .i64 (k13 + 1)) + 1)) + 1)
 idx a0 s1.2 fun x18 =>
 bif (x18.2.2.2.2.1.2.2.1 != k17) then (
 some (.inr (.inr (-1))))
 else (
 idx a0 s1.2 fun x19 =>
 bif (x19.2.2.2.2.1.2.2.2.1 != (IntKind.wrap .i64 (k17 + 1))) then (
 some (.inr (.inr (-1))))
 else (
 idx a0 s1.2 fun x20 =>
 bif (x20.2.2.2.2.1.2.2.2.2.1 != (IntKind.wrap .i64 ((IntKind.wrap .i64 (k17 + 1)) + 1))) then (
 some (.inr (.inr (-1))))
 else (
 let k21 : Int := IntKind.wrap .i64 ((IntKind.wrap .i64 ((IntKind.wrap .i64 (k17 + 1)) + 1)) + 1)
 idx a0 s1.2 fun x22 =>
 bif (x22.2.2.2.2.1.2.2.2.2.2.1 != k21) then (
 some (.inr (.inr (-1))))
 else (
 idx a0 s1.2 fun x23 =>
 bif (x23.2.2.2.2.1.2.2.2.2.2.2.1 != (IntKind.wrap .i64 (k21 + 1))) then (
 some (.inr (.inr (-1))))
 else (
 idx a0 s1.2 fun x24 =>
 bif (x24.2.2.2.2.1.2.2.2.2.2.2.2.1 != (IntKind.wrap .i64 ((IntKind.wrap .i64 (k21 + 1)) + 1))) then (
 some (.inr (.inr (-1))))
 else (
 let k25 : Int := IntKind.wrap .i64 ((IntKind.wrap .i64 ((IntKind.wrap .i64 (k21 + 1)) + 1)) + 1)
 idx a0 s1.2 fun x26 =>
 bif (x26.2.2.2.2.1.2.2.2.2.2.2.2.2.1 != k25) then (
 some (.inr (.inr (-1))))
 else (
 idx a0 s1.2 fun x27 =>
 bif (x27.2.2.2.2.1.2.2.2.2.2.2.2.2.2.1 != (IntKind.wrap .i64 (k25 + 1))) then (
 some (.inr (.inr (-1))))
 else (
 idx a0 s1.2 fun x28 =>
 bif (x28.2.2.2.2.1.2.2.2.2.2.2.2.2.2.2.1 != (IntKind.wrap .i64 ((IntKind.wrap .i64 (k25 + 1)) + 1))) then (
 some (.inr (.inr (-1))))
 else (
 let k29 : Int := IntKind.wrap .i64 ((IntKind.wrap .i64 ((IntKind.wrap .i64 (k25 + 1)) + 1)) + 1)
 idx a0 s1.2 fun x30 =>
 if 3 = 0 then none else (
 bif (x30.2.2.2.2.1.2.2.2.2.2.2.2.2.2.2.2.1 != ((k29.tmod 3) == 0)) then (
 some (.inr (.inr (-1))))
 else (
 idx a0 s1.2 fun x31 =>
 if 3 = 0 then none else (
 bif (x31.2.2.2.2.1.2.2.2.2.2.2.2.2.2.2.2.2.1 != (((IntKind.wrap .i64 (k29 + 1)).tmod 3) == 0)) then (
 some (.inr (.inr (-1))))
 else (
 some (.inl (IntKind.wrap .i64 ((IntKind.wrap .i64 (k29 + 1)) + 1), IntKind.wrap .i64 (s1.2 + 1))))))))))))))))))))))))))))))
 else (
 some (.inr (.inl s1)))
def laws_heldNoteS (a0 : (List T_Note.D)) (a1 : Int) : Option Int :=
(while_ (laws_heldNoteS_l1 a0) (a1, 0)).bind fun o32 =>
 match o32 with
| .inl s33 => (
 some s33.1)
| .inr o34 => (
 some o34)
def laws_heldNoteS_h : Hints := (.node none none .none (.node none none (.node none none .none (.node none none (.node none (some ⟨[.tmp 1 (.int .i64), .tmp 5 (.int .i64)], [some 0], some [.tmp 4 (.int .i64)], []⟩) .none .none) .none)) .none))
def laws_heldNoteS_c : Ct := .pure true false (.pair (.slice T_Note) (.pair (.int .i64) .unit)) (.int .i64) (fun x => laws_heldNoteS x.1 x.2.1)
theorem laws_heldNoteS_ct : CtOk Try.prog 63 laws_heldNoteS_c := pure_ct (E := { T := tab, G := [] }) (EnvOk.nil tabOk) mixed (fn := Try.f63) _ _ _ _ _ laws_heldNoteS_h Try.func63 (by kernel_rfl) (fun x => by kernel_rfl)
/-! loop.example/g00486/laws.FnExactNotesOf -/
def laws_FnExactNotesOf (a0 : (List T_Note.D)) (a1 : Int) : Option Bool :=
(laws_szNoteS a0 1048576).bind fun y1 =>
 bif decide (y1 < 0) then (
 some true)
 else (
(laws_toNoteS a0).bind fun y2 =>
(spec_NotesOf y2 a1).bind fun y3 =>
(laws_toNoteS a0).bind fun y4 =>
(impl_NotesOf y4 a1).bind fun y5 =>
(laws_eqNoteS y5 y3).bind fun y6 =>
 bif (!y6) then (
 some false)
 else (
(laws_toNoteS a0).bind fun y7 =>
(laws_eqNoteS y4 y7).bind fun y8 =>
 bif (!y8) then (
 some false)
 else (
(laws_markNoteS y4 1).bind fun y9 =>
((bif decide (y9.1 < 0) then (
 some true)
 else (
(laws_eqNoteS y5 y3).bind fun y10 =>
 some (!y10))) : Option Bool).bind fun o11 =>
 bif o11 then (
 some false)
 else (
(laws_markNoteS y5 1).bind fun y12 =>
(laws_heldNoteS y12.2.1 1).bind fun y13 =>
 bif decide (y13 < 0) then (
 some false)
 else (
 bif (y13 != y12.1) then (
 some false)
 else (
(laws_toNoteS a0).bind fun y14 =>
(impl_NotesOf y14 a1).bind fun y15 =>
(laws_eqNoteS y15 y3).bind fun y16 =>
 bif (!y16) then (
 some false)
 else (
(laws_heldNoteS y12.2.1 1).bind fun y17 =>
 bif decide (y17 < 0) then (
 some false)
 else (
 bif (y17 != y12.1) then (
 some false)
 else (
 some true)))))))))
def laws_FnExactNotesOf_h : Hints := (.node none none .none (.node none none .none (.node none none .none (.node none none .none (.node none none .none (.node none none .none (.node none none .none (.node none none .none (.node none none .none (.node none none .none (.node none none .none (.node none none (.node none none (.node (some ⟨[.tmp 46 .bool], [none], none, []⟩) none .none .none) .none) .none))))))))))))
def laws_FnExactNotesOf_c : Ct := .pure true false (.pair (.slice T_Note) (.pair (.int .i64) .unit)) .bool (fun x => laws_FnExactNotesOf x.1 x.2.1)
theorem laws_FnExactNotesOf_ct : CtOk Try.prog 14 laws_FnExactNotesOf_c := pure_ct (E := { T := tab, G := [(15, laws_szNoteS_c), (17, laws_toNoteS_fresh_c), (19, laws_eqNoteS_c), (55, laws_markNoteS_c), (61, spec_NotesOf_fresh_c), (62, impl_NotesOf_fresh_c), (63, laws_heldNoteS_c)] }) (EnvOk.cons laws_szNoteS_ct (EnvOk.cons laws_toNoteS_fresh_ct (EnvOk.cons laws_eqNoteS_ct (EnvOk.cons laws_markNoteS_ct (EnvOk.cons spec_NotesOf_fresh_ct (EnvOk.cons impl_NotesOf_fresh_ct (EnvOk.cons laws_heldNoteS_ct (EnvOk.nil tabOk)))))))) mixed (fn := Try.f14) _ _ _ _ _ laws_FnExactNotesOf_h Try.func14 (by kernel_rfl) (fun x => by kernel_rfl)
end
end Go.Abs
