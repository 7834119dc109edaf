import Derived.Test.YtkhbmiajggfdcaaProg
import Derived.Test.YtkhbmiajggfdcaaAbsTab
set_option linter.unusedVariables false
set_option linter.unusedSimpArgs false
namespace Go.Abs
open Go.Proofs
set_option maxRecDepth 100000
noncomputable section
@[reducible] def T_Pat : Ty := (.pair (.int .i64) (.pair (.int .i64) (.pair (.int .i64) (.pair (.int .i64) (.pair (.int .i64) (.pair (.int .i64) (.pair (.int .i64) .unit)))))))
@[reducible] def T_Guard : Ty := (.pair (.int .i64) (.pair (.int .i64) .unit))
@[reducible] def T_Event : Ty := (.pair (.int .i64) (.pair (.int .i64) (.pair (.int .i64) (.pair (.int .i64) (.pair (.int .i64) (.pair (.int .i64) (.pair .bool .unit)))))))
@[reducible] def T_Act : Ty := (.pair (.int .i64) (.pair (.int .i64) (.pair (.int .i64) (.pair (.int .i64) (.pair (.int .i64) (.pair .bool (.pair (.slice T_Event) .unit)))))))
@[reducible] def T_Effect : Ty := (.pair (.int .i64) (.pair (.int .i64) (.pair (.int .i64) (.pair (.int .i64) (.pair T_Pat (.pair T_Guard (.pair T_Act (.pair (.int .i64) (.pair (.int .i64) .unit)))))))))
@[reducible] def T_S7 : Ty := (.pair (.int .i64) (.pair (.int .i64) (.pair .bool (.pair (.int .u8) .unit))))
@[reducible] def T_Piece : Ty := (.pair (.int .i64) (.pair (.int .i64) (.pair (.int .i64) (.pair (.int .i64) (.pair (.int .i64) (.pair (.int .i64) (.pair (.int .i64) (.pair (.int .i64) (.pair (.int .i64) (.pair (.int .i64) (.pair (.int .i64) (.pair .bool (.pair .bool .unit)))))))))))))
@[reducible] def T_Note : Ty := (.pair (.int .i64) (.pair T_Event (.pair (.int .i64) (.pair (.int .i64) (.pair T_Piece .unit)))))
@[reducible] def T_Side : Ty := (.pair (.int .i64) (.pair (.int .i64) (.pair .bool .unit)))
@[reducible] def T_S32 : Ty := (.pair (.slice T_Piece) (.pair (.slice T_Side) (.pair (.int .i64) (.pair (.int .i64) .unit))))
@[reducible] def T_Trigger : Ty := (.pair (.int .i64) (.pair (.int .i64) (.pair (.int .i64) (.pair T_Piece .unit))))
def tab : Tab := [
  (1, ⟨.other, 1, 0, .unit, [.undef]⟩),
  (2, ⟨.int .i64, 1, 0, (.int .i64), [.int .i64 0]⟩),
  (3, ⟨.int .i64, 1, 0, (.int .i64), [.int .i64 0]⟩),
  (4, ⟨.bool, 1, 0, .bool, [.bool false]⟩),
  (5, ⟨.int .u8, 1, 0, (.int .u8), [.int .u8 0]⟩),
  (6, ⟨.int .u8, 1, 0, (.int .u8), [.int .u8 0]⟩),
  (7, ⟨.struct [(0, 2), (1, 3), (2, 4), (3, 6)], 4, 0, T_S7, [.int .i64 0, .int .i64 0, .bool false, .int .u8 0]⟩),
  (8, ⟨.struct [(0, 2), (1, 3), (2, 4), (3, 6)], 4, 0, T_S7, [.int .i64 0, .int .i64 0, .bool false, .int .u8 0]⟩),
  (12, ⟨.int .u64, 1, 0, (.int .u64), [.int .u64 0]⟩),
  (15, ⟨.other, 1, 0, .unit, [.undef]⟩),
  (16, ⟨.other, 1, 0, .unit, [.undef]⟩),
  (17, ⟨.other, 1, 0, .unit, [.undef]⟩),
  (21, ⟨.int .i32, 1, 0, (.int .i32), [.int .i32 0]⟩),
  (22, ⟨.slice 85, 1, 0, (.slice T_Note), [.nil]⟩),
  (23, ⟨.other, 1, 0, .unit, [.undef]⟩),
  (24, ⟨.other, 1, 0, .unit, [.undef]⟩),
  (25, ⟨.slice 81, 1, 0, (.slice T_Note), [.nil]⟩),
  (26, ⟨.other, 1, 0, .unit, [.undef]⟩),
  (27, ⟨.other, 1, 0, .unit, [.undef]⟩),
  (28, ⟨.other, 1, 0, .unit, [.undef]⟩),
  (29, ⟨.other, 1, 0, .unit, [.undef]⟩),
  (30, ⟨.slice 83, 1, 0, (.slice T_Piece), [.nil]⟩),
  (31, ⟨.slice 133, 1, 0, (.slice T_Side), [.nil]⟩),
  (32, ⟨.struct [(0, 30), (1, 31), (2, 3), (3, 3)], 4, 0, T_S32, [.nil, .nil, .int .i64 0, .int .i64 0]⟩),
  (33, ⟨.struct [(0, 30), (1, 31), (2, 3), (3, 3)], 4, 0, T_S32, [.nil, .nil, .int .i64 0, .int .i64 0]⟩),
  (34, ⟨.other, 1, 0, .unit, [.undef]⟩),
  (35, ⟨.other, 1, 0, .unit, [.undef]⟩),
  (36, ⟨.slice 79, 1, 0, (.slice T_Piece), [.nil]⟩),
  (37, ⟨.slice 113, 1, 0, (.slice T_Side), [.nil]⟩),
  (38, ⟨.struct [(0, 36), (1, 37), (2, 3), (3, 3)], 4, 0, T_S32, [.nil, .nil, .int .i64 0, .int .i64 0]⟩),
  (39, ⟨.struct [(0, 36), (1, 37), (2, 3), (3, 3)], 4, 0, T_S32, [.nil, .nil, .int .i64 0, .int .i64 0]⟩),
  (40, ⟨.other, 1, 0, .unit, [.undef]⟩),
  (41, ⟨.other, 1, 0, .unit, [.undef]⟩),
  (42, ⟨.other, 1, 0, .unit, [.undef]⟩),
  (43, ⟨.struct [(0, 3), (1, 3), (2, 3), (3, 3), (4, 3), (5, 3), (6, 4)], 7, 0, T_Event, [.int .i64 0, .int .i64 0, .int .i64 0, .int .i64 0, .int .i64 0, .int .i64 0, .bool false]⟩),
  (44, ⟨.struct [(0, 3), (1, 3), (2, 3), (3, 3), (4, 3), (5, 3), (6, 4)], 7, 0, T_Event, [.int .i64 0, .int .i64 0, .int .i64 0, .int .i64 0, .int .i64 0, .int .i64 0, .bool false]⟩),
  (45, ⟨.other, 1, 0, .unit, [.undef]⟩),
  (46, ⟨.struct [(0, 3), (1, 3), (2, 3), (3, 3), (4, 3), (5, 3), (6, 4)], 7, 0, T_Event, [.int .i64 0, .int .i64 0, .int .i64 0, .int .i64 0, .int .i64 0, .int .i64 0, .bool false]⟩),
  (47, ⟨.other, 1, 0, .unit, [.undef]⟩),
  (48, ⟨.other, 1, 0, .unit, [.undef]⟩),
  (49, ⟨.slice 102, 1, 0, (.slice T_Effect), [.nil]⟩),
  (50, ⟨.other, 1, 0, .unit, [.undef]⟩),
  (51, ⟨.other, 1, 0, .unit, [.undef]⟩),
  (52, ⟨.slice 109, 1, 0, (.slice T_Effect), [.nil]⟩),
  (53, ⟨.other, 1, 0, .unit, [.undef]⟩),
  (54, ⟨.other, 1, 0, .unit, [.undef]⟩),
  (55, ⟨.other, 1, 0, .unit, [.undef]⟩),
  (56, ⟨.slice 3, 1, 0, (.slice (.int .i64)), [.nil]⟩),
  (57, ⟨.other, 1, 0, .unit, [.undef]⟩),
  (58, ⟨.other, 1, 0, .unit, [.undef]⟩),
  (59, ⟨.other, 1, 0, .unit, [.undef]⟩),
  (60, ⟨.other, 1, 0, .unit, [.undef]⟩),
  (61, ⟨.other, 1, 0, .unit, [.undef]⟩),
  (62, ⟨.slice 121, 1, 0, (.slice T_Trigger), [.nil]⟩),
  (63, ⟨.other, 1, 0, .unit, [.undef]⟩),
  (64, ⟨.slice 118, 1, 0, (.slice T_Trigger), [.nil]⟩),
  (65, ⟨.other, 1, 0, .unit, [.undef]⟩),
  (66, ⟨.other, 1, 0, .unit, [.undef]⟩),
  (67, ⟨.other, 1, 0, .unit, [.undef]⟩),
  (68, ⟨.other, 1, 0, .unit, [.undef]⟩),
  (69, ⟨.other, 1, 0, .unit, [.undef]⟩),
  (70, ⟨.other, 1, 0, .unit, [.undef]⟩),
  (71, ⟨.other, 1, 0, .unit, [.undef]⟩),
  (72, ⟨.other, 1, 0, .unit, [.undef]⟩),
  (73, ⟨.other, 1, 0, .unit, [.undef]⟩),
  (74, ⟨.other, 1, 0, .unit, [.undef]⟩),
  (75, ⟨.other, 1, 0, .unit, [.undef]⟩),
  (76, ⟨.other, 1, 0, .unit, [.undef]⟩),
  (77, ⟨.other, 1, 0, .unit, [.undef]⟩),
  (78, ⟨.struct [(0, 3), (1, 3), (2, 3), (3, 3), (4, 3), (5, 3), (6, 3), (7, 3), (8, 3), (9, 3), (10, 3), (11, 4), (12, 4)], 13, 0, T_Piece, [.int .i64 0, .int .i64 0, .int .i64 0, .int .i64 0, .int .i64 0, .int .i64 0, .int .i64 0, .int .i64 0, .int .i64 0, .int .i64 0, .int .i64 0, .bool false, .bool false]⟩),
  (79, ⟨.struct [(0, 3), (1, 3), (2, 3), (3, 3), (4, 3), (5, 3), (6, 3), (7, 3), (8, 3), (9, 3), (10, 3), (11, 4), (12, 4)], 13, 0, T_Piece, [.int .i64 0, .int .i64 0, .int .i64 0, .int .i64 0, .int .i64 0, .int .i64 0, .int .i64 0, .int .i64 0, .int .i64 0, .int .i64 0, .int .i64 0, .bool false, .bool false]⟩),
  (80, ⟨.struct [(0, 3), (1, 46), (8, 3), (9, 3), (10, 79)], 23, 0, T_Note, [.int .i64 0, .int .i64 0, .int .i64 0, .int .i64 0, .int .i64 0, .int .i64 0, .int .i64 0, .bool false, .int .i64 0, .int .i64 0, .int .i64 0, .int .i64 0, .int .i64 0, .int .i64 0, .int .i64 0, .int .i64 0, .int .i64 0, .int .i64 0, .int .i64 0, .int .i64 0, .int .i64 0, .bool false, .bool false]⟩),
  (81, ⟨.struct [(0, 3), (1, 46), (8, 3), (9, 3), (10, 79)], 23, 0, T_Note, [.int .i64 0, .int .i64 0, .int .i64 0, .int .i64 0, .int .i64 0, .int .i64 0, .int .i64 0, .bool false, .int .i64 0, .int .i64 0, .int .i64 0, .int .i64 0, .int .i64 0, .int .i64 0, .int .i64 0, .int .i64 0, .int .i64 0, .int .i64 0, .int .i64 0, .int .i64 0, .int .i64 0, .bool false, .bool false]⟩),
  (82, ⟨.other, 1, 0, .unit, [.undef]⟩),
  (83, ⟨.struct [(0, 3), (1, 3), (2, 3), (3, 3), (4, 3), (5, 3), (6, 3), (7, 3), (8, 3), (9, 3), (10, 3), (11, 4), (12, 4)], 13, 0, T_Piece, [.int .i64 0, .int .i64 0, .int .i64 0, .int .i64 0, .int .i64 0, .int .i64 0, .int .i64 0, .int .i64 0, .int .i64 0, .int .i64 0, .int .i64 0, .bool false, .bool false]⟩),
  (84, ⟨.struct [(0, 3), (1, 44), (8, 3), (9, 3), (10, 83)], 23, 0, T_Note, [.int .i64 0, .int .i64 0, .int .i64 0, .int .i64 0, .int .i64 0, .int .i64 0, .int .i64 0, .bool false, .int .i64 0, .int .i64 0, .int .i64 0, .int .i64 0, .int .i64 0, .int .i64 0, .int .i64 0, .int .i64 0, .int .i64 0, .int .i64 0, .int .i64 0, .int .i64 0, .int .i64 0, .bool false, .bool false]⟩),
  (85, ⟨.struct [(0, 3), (1, 44), (8, 3), (9, 3), (10, 83)], 23, 0, T_Note, [.int .i64 0, .int .i64 0, .int .i64 0, .int .i64 0, .int .i64 0, .int .i64 0, .int .i64 0, .bool false, .int .i64 0, .int .i64 0, .int .i64 0, .int .i64 0, .int .i64 0, .int .i64 0, .int .i64 0, .int .i64 0, .int .i64 0, .int .i64 0, .int .i64 0, .int .i64 0, .int .i64 0, .bool false, .bool false]⟩),
  (86, ⟨.other, 1, 0, .unit, [.undef]⟩),
  (87, ⟨.other, 1, 0, .unit, [.undef]⟩),
  (88, ⟨.other, 1, 0, .unit, [.undef]⟩),
  (89, ⟨.other, 1, 0, .unit, [.undef]⟩),
  (90, ⟨.other, 1, 0, .unit, [.undef]⟩),
  (91, ⟨.other, 1, 0, .unit, [.undef]⟩),
  (92, ⟨.other, 1, 0, .unit, [.undef]⟩),
  (93, ⟨.other, 1, 0, .unit, [.undef]⟩),
  (94, ⟨.struct [(0, 3), (1, 3), (2, 3), (3, 3), (4, 3), (5, 3), (6, 3)], 7, 0, T_Pat, [.int .i64 0, .int .i64 0, .int .i64 0, .int .i64 0, .int .i64 0, .int .i64 0, .int .i64 0]⟩),
  (95, ⟨.struct [(0, 3), (1, 3), (2, 3), (3, 3), (4, 3), (5, 3), (6, 3)], 7, 0, T_Pat, [.int .i64 0, .int .i64 0, .int .i64 0, .int .i64 0, .int .i64 0, .int .i64 0, .int .i64 0]⟩),
  (96, ⟨.struct [(0, 3), (1, 3)], 2, 0, T_Guard, [.int .i64 0, .int .i64 0]⟩),
  (97, ⟨.struct [(0, 3), (1, 3)], 2, 0, T_Guard, [.int .i64 0, .int .i64 0]⟩),
  (98, ⟨.slice 44, 1, 0, (.slice T_Event), [.nil]⟩),
  (99, ⟨.struct [(0, 3), (1, 3), (2, 3), (3, 3), (4, 3), (5, 4), (6, 98)], 7, 0, T_Act, [.int .i64 0, .int .i64 0, .int .i64 0, .int .i64 0, .int .i64 0, .bool false, .nil]⟩),
  (100, ⟨.struct [(0, 3), (1, 3), (2, 3), (3, 3), (4, 3), (5, 4), (6, 98)], 7, 0, T_Act, [.int .i64 0, .int .i64 0, .int .i64 0, .int .i64 0, .int .i64 0, .bool false, .nil]⟩),
  (101, ⟨.struct [(0, 3), (1, 3), (2, 3), (3, 3), (4, 95), (11, 97), (13, 100), (20, 3), (21, 3)], 22, 0, T_Effect, [.int .i64 0, .int .i64 0, .int .i64 0, .int .i64 0, .int .i64 0, .int .i64 0, .int .i64 0, .int .i64 0, .int .i64 0, .int .i64 0, .int .i64 0, .int .i64 0, .int .i64 0, .int .i64 0, .int .i64 0, .int .i64 0, .int .i64 0, .int .i64 0, .bool false, .nil, .int .i64 0, .int .i64 0]⟩),
  (102, ⟨.struct [(0, 3), (1, 3), (2, 3), (3, 3), (4, 95), (11, 97), (13, 100), (20, 3), (21, 3)], 22, 0, T_Effect, [.int .i64 0, .int .i64 0, .int .i64 0, .int .i64 0, .int .i64 0, .int .i64 0, .int .i64 0, .int .i64 0, .int .i64 0, .int .i64 0, .int .i64 0, .int .i64 0, .int .i64 0, .int .i64 0, .int .i64 0, .int .i64 0, .int .i64 0, .int .i64 0, .bool false, .nil, .int .i64 0, .int .i64 0]⟩),
  (103, ⟨.struct [(0, 3), (1, 3), (2, 3), (3, 3), (4, 3), (5, 3), (6, 3)], 7, 0, T_Pat, [.int .i64 0, .int .i64 0, .int .i64 0, .int .i64 0, .int .i64 0, .int .i64 0, .int .i64 0]⟩),
  (104, ⟨.struct [(0, 3), (1, 3)], 2, 0, T_Guard, [.int .i64 0, .int .i64 0]⟩),
  (105, ⟨.slice 46, 1, 0, (.slice T_Event), [.nil]⟩),
  (106, ⟨.struct [(0, 3), (1, 3), (2, 3), (3, 3), (4, 3), (5, 4), (6, 105)], 7, 0, T_Act, [.int .i64 0, .int .i64 0, .int .i64 0, .int .i64 0, .int .i64 0, .bool false, .nil]⟩),
  (107, ⟨.struct [(0, 3), (1, 3), (2, 3), (3, 3), (4, 3), (5, 4), (6, 105)], 7, 0, T_Act, [.int .i64 0, .int .i64 0, .int .i64 0, .int .i64 0, .int .i64 0, .bool false, .nil]⟩),
  (108, ⟨.struct [(0, 3), (1, 3), (2, 3), (3, 3), (4, 103), (11, 104), (13, 107), (20, 3), (21, 3)], 22, 0, T_Effect, [.int .i64 0, .int .i64 0, .int .i64 0, .int .i64 0, .int .i64 0, .int .i64 0, .int .i64 0, .int .i64 0, .int .i64 0, .int .i64 0, .int .i64 0, .int .i64 0, .int .i64 0, .int .i64 0, .int .i64 0, .int .i64 0, .int .i64 0, .int .i64 0, .bool false, .nil, .int .i64 0, .int .i64 0]⟩),
  (109, ⟨.struct [(0, 3), (1, 3), (2, 3), (3, 3), (4, 103), (11, 104), (13, 107), (20, 3), (21, 3)], 22, 0, T_Effect, [.int .i64 0, .int .i64 0, .int .i64 0, .int .i64 0, .int .i64 0, .int .i64 0, .int .i64 0, .int .i64 0, .int .i64 0, .int .i64 0, .int .i64 0, .int .i64 0, .int .i64 0, .int .i64 0, .int .i64 0, .int .i64 0, .int .i64 0, .int .i64 0, .bool false, .nil, .int .i64 0, .int .i64 0]⟩),
  (110, ⟨.other, 1, 0, .unit, [.undef]⟩),
  (111, ⟨.other, 1, 0, .unit, [.undef]⟩),
  (112, ⟨.struct [(0, 3), (1, 3), (2, 4)], 3, 0, T_Side, [.int .i64 0, .int .i64 0, .bool false]⟩),
  (113, ⟨.struct [(0, 3), (1, 3), (2, 4)], 3, 0, T_Side, [.int .i64 0, .int .i64 0, .bool false]⟩),
  (114, ⟨.other, 1, 0, .unit, [.undef]⟩),
  (115, ⟨.other, 1, 0, .unit, [.undef]⟩),
  (116, ⟨.other, 1, 0, .unit, [.undef]⟩),
  (117, ⟨.struct [(0, 3), (1, 3), (2, 3), (3, 79)], 16, 0, T_Trigger, [.int .i64 0, .int .i64 0, .int .i64 0, .int .i64 0, .int .i64 0, .int .i64 0, .int .i64 0, .int .i64 0, .int .i64 0, .int .i64 0, .int .i64 0, .int .i64 0, .int .i64 0, .int .i64 0, .bool false, .bool false]⟩),
  (118, ⟨.struct [(0, 3), (1, 3), (2, 3), (3, 79)], 16, 0, T_Trigger, [.int .i64 0, .int .i64 0, .int .i64 0, .int .i64 0, .int .i64 0, .int .i64 0, .int .i64 0, .int .i64 0, .int .i64 0, .int .i64 0, .int .i64 0, .int .i64 0, .int .i64 0, .int .i64 0, .bool false, .bool false]⟩),
  (119, ⟨.other, 1, 0, .unit, [.undef]⟩),
  (120, ⟨.struct [(0, 3), (1, 3), (2, 3), (3, 83)], 16, 0, T_Trigger, [.int .i64 0, .int .i64 0, .int .i64 0, .int .i64 0, .int .i64 0, .int .i64 0, .int .i64 0, .int .i64 0, .int .i64 0, .int .i64 0, .int .i64 0, .int .i64 0, .int .i64 0, .int .i64 0, .bool false, .bool false]⟩),
  (121, ⟨.struct [(0, 3), (1, 3), (2, 3), (3, 83)], 16, 0, T_Trigger, [.int .i64 0, .int .i64 0, .int .i64 0, .int .i64 0, .int .i64 0, .int .i64 0, .int .i64 0, .int .i64 0, .int .i64 0, .int .i64 0, .int .i64 0, .int .i64 0, .int .i64 0, .int .i64 0, .bool false, .bool false]⟩),
  (122, ⟨.other, 1, 0, .unit, [.undef]⟩),
  (123, ⟨.other, 1, 0, .unit, [.undef]⟩),
  (124, ⟨.other, 1, 0, .unit, [.undef]⟩),
  (125, ⟨.other, 1, 0, .unit, [.undef]⟩),
  (126, ⟨.other, 1, 0, .unit, [.undef]⟩),
  (127, ⟨.other, 1, 0, .unit, [.undef]⟩),
  (128, ⟨.other, 1, 0, .unit, [.undef]⟩),
  (129, ⟨.other, 1, 0, .unit, [.undef]⟩),
  (130, ⟨.other, 1, 0, .unit, [.undef]⟩),
  (131, ⟨.other, 1, 0, .unit, [.undef]⟩),
  (132, ⟨.other, 1, 0, .unit, [.undef]⟩),
  (133, ⟨.struct [(0, 3), (1, 3), (2, 4)], 3, 0, T_Side, [.int .i64 0, .int .i64 0, .bool false]⟩),
  (134, ⟨.other, 1, 0, .unit, [.undef]⟩),
  (135, ⟨.other, 1, 0, .unit, [.undef]⟩),
  (136, ⟨.other, 1, 0, .unit, [.undef]⟩),
  (137, ⟨.other, 1, 0, .unit, [.undef]⟩),
  (138, ⟨.other, 1, 0, .unit, [.undef]⟩),
  (139, ⟨.other, 1, 0, .unit, [.undef]⟩),
  (140, ⟨.other, 1, 0, .unit, [.undef]⟩),
  (141, ⟨.other, 1, 0, .unit, [.undef]⟩),
  (142, ⟨.other, 1, 0, .unit, [.undef]⟩),
  (143, ⟨.other, 1, 0, .unit, [.undef]⟩),
  (144, ⟨.other, 1, 0, .unit, [.undef]⟩),
  (145, ⟨.other, 1, 0, .unit, [.undef]⟩),
  (146, ⟨.other, 1, 0, .unit, [.undef]⟩),
  (147, ⟨.other, 1, 0, .unit, [.undef]⟩),
  (148, ⟨.other, 1, 0, .unit, [.undef]⟩),
  (149, ⟨.other, 1, 0, .unit, [.undef]⟩),
  (155, ⟨.other, 1, 0, .unit, [.undef]⟩),
  (156, ⟨.int .u32, 1, 0, (.int .u32), [.int .u32 0]⟩),
  (157, ⟨.int .u8, 1, 0, (.int .u8), [.int .u8 0]⟩),
  (158, ⟨.int .u8, 1, 0, (.int .u8), [.int .u8 0]⟩),
  (159, ⟨.other, 1, 0, .unit, [.undef]⟩),
  (160, ⟨.other, 1, 0, .unit, [.undef]⟩),
  (161, ⟨.int .i32, 1, 0, (.int .i32), [.int .i32 0]⟩),
  (162, ⟨.int .i32, 1, 0, (.int .i32), [.int .i32 0]⟩)]
theorem tabOk : TabOk Try.prog tab := tabB_ok (by kernel_rfl)
theorem mixed : Try.prog.follows .mixedOrders = true := by kernel_rfl
/-! loop.example/g00486/laws.szEventS -/
def laws_szEventS (a0 : (List T_Event.D)) (a1 : Int) : Option Int :=
 bif decide ((IntKind.wrap .i64 (a1 - (a0.length : Int))) < 0) then (
 some (-1))
 else (
 some (IntKind.wrap .i64 (a1 - (a0.length : Int))))
def laws_szEventS_c : Ct := .pure true false (.pair (.slice T_Event) (.pair (.int .i64) .unit)) (.int .i64) (fun x => laws_szEventS x.1 x.2.1)
theorem laws_szEventS_ct : CtOk Try.prog 110 laws_szEventS_c := pure_ct (E := { T := tab, G := [] }) (EnvOk.nil tabOk) mixed (fn := Try.f110) _ _ _ _ _ .none Try.func110 (by kernel_rfl) (fun x => by kernel_rfl)
/-! loop.example/g00486/laws.szAct -/
def laws_szAct (a0 : T_Act.D) (a1 : Int) : Option Int :=
(laws_szEventS a0.2.2.2.2.2.2.1 a1).bind fun y1 =>
 bif decide (y1 < 0) then (
 some (-1))
 else (
 some y1)
def laws_szAct_c : Ct := .pure true false (.pair T_Act (.pair (.int .i64) .unit)) (.int .i64) (fun x => laws_szAct x.1 x.2.1)
theorem laws_szAct_ct : CtOk Try.prog 100 laws_szAct_c := pure_ct (E := { T := tab, G := [(110, laws_szEventS_c)] }) (EnvOk.cons laws_szEventS_ct (EnvOk.nil tabOk)) mixed (fn := Try.f100) _ _ _ _ _ .none Try.func100 (by kernel_rfl) (fun x => by kernel_rfl)
/-! loop.example/g00486/laws.szEffect -/
def laws_szEffect (a0 : T_Effect.D) (a1 : Int) : Option Int :=
(laws_szAct a0.2.2.2.2.2.2.1 a1).bind fun y1 =>
 bif decide (y1 < 0) then (
 some (-1))
 else (
 some y1)
def laws_szEffect_c : Ct := .pure true false (.pair T_Effect (.pair (.int .i64) .unit)) (.int .i64) (fun x => laws_szEffect x.1 x.2.1)
theorem laws_szEffect_ct : CtOk Try.prog 77 laws_szEffect_c := pure_ct (E := { T := tab, G := [(100, laws_szAct_c)] }) (EnvOk.cons laws_szAct_ct (EnvOk.nil tabOk)) mixed (fn := Try.f77) _ _ _ _ _ .none Try.func77 (by kernel_rfl) (fun x => by kernel_rfl)
/-! loop.example/g00486/laws.szEffectS -/
def laws_szEffectS_l1 (a0 : (List T_Effect.D)) : (Int × Int) → Option ((Int × Int) ⊕ ((Int × Int) ⊕ Int)) := fun s1 =>
 bif decide (s1.2 < (a0.length : Int)) then (
 idx a0 s1.2 fun x2 =>
(laws_szEffect x2 s1.1).bind fun y3 =>
 bif decide (y3 < 0) then (
 some (.inr (.inr (-1))))
 else (
 some (.inl (y3, IntKind.wrap .i64 (s1.2 + 1)))))
 else (
 some (.inr (.inl s1)))
def laws_szEffectS (a0 : (List T_Effect.D)) (a1 : Int) : Option Int :=
 bif decide ((IntKind.wrap .i64 (a1 - (a0.length : Int))) < 0) then (
 some (-1))
 else (
(while_ (laws_szEffectS_l1 a0) (IntKind.wrap .i64 (a1 - (a0.length : Int)), 0)).bind fun o4 =>
 match o4 with
| .inl s5 => (
 some s5.1)
| .inr o6 => (
 some o6))
def laws_szEffectS_h : Hints := (.node none none .none (.node none none .none (.node none none .none (.node none none (.node none none .none (.node none none (.node none (some ⟨[.tmp 1 (.int .i64), .tmp 5 (.int .i64)], [some 0], some [.tmp 4 (.int .i64)], []⟩) .none .none) .none)) .none))))
def laws_szEffectS_c : Ct := .pure true false (.pair (.slice T_Effect) (.pair (.int .i64) .unit)) (.int .i64) (fun x => laws_szEffectS x.1 x.2.1)
theorem laws_szEffectS_ct : CtOk Try.prog 30 laws_szEffectS_c := pure_ct (E := { T := tab, G := [(77, laws_szEffect_c)] }) (EnvOk.cons laws_szEffect_ct (EnvOk.nil tabOk)) mixed (fn := Try.f30) _ _ _ _ _ laws_szEffectS_h Try.func30 (by kernel_rfl) (fun x => by kernel_rfl)
/-! loop.example/g00486/laws.toPat -/
def laws_toPat (a0 : T_Pat.D) : Option T_Pat.D :=
 some a0
def laws_toPat_c : Ct := .pure true false (.pair T_Pat .unit) T_Pat (fun x => laws_toPat x.1)
theorem laws_toPat_ct : CtOk Try.prog 101 laws_toPat_c := pure_ct (E := { T := tab, G := [] }) (EnvOk.nil tabOk) mixed (fn := Try.f101) _ _ _ _ _ .none Try.func101 (by kernel_rfl) (fun x => by kernel_rfl)
/-! loop.example/g00486/laws.toGuard -/
def laws_toGuard (a0 : T_Guard.D) : Option T_Guard.D :=
 some a0
def laws_toGuard_c : Ct := .pure true false (.pair T_Guard .unit) T_Guard (fun x => laws_toGuard x.1)
theorem laws_toGuard_ct : CtOk Try.prog 102 laws_toGuard_c := pure_ct (E := { T := tab, G := [] }) (EnvOk.nil tabOk) mixed (fn := Try.f102) _ _ _ _ _ .none Try.func102 (by kernel_rfl) (fun x => by kernel_rfl)
/-! loop.example/g00486/laws.toEvent -/
def laws_toEvent (a0 : T_Event.D) : Option T_Event.D :=
 some a0
def laws_toEvent_c : Ct := .pure true false (.pair T_Event .unit) T_Event (fun x => laws_toEvent x.1)
theorem laws_toEvent_ct : CtOk Try.prog 28 laws_toEvent_c := pure_ct (E := { T := tab, G := [] }) (EnvOk.nil tabOk) mixed (fn := Try.f28) _ _ _ _ _ .none Try.func28 (by kernel_rfl) (fun x => by kernel_rfl)
/-! loop.example/g00486/laws.toEventS -/
def laws_toEventS_l1 (a0 : (List T_Event.D)) : ((List T_Event.D) × Int) → Option (((List T_Event.D) × Int) ⊕ ((List T_Event.D) × Int)) := fun s2 =>
 bif decide (s2.2 < (a0.length : Int)) then (
 idx a0 s2.2 fun x3 =>
(laws_toEvent x3).bind fun y4 =>
 idx s2.1 s2.2 fun _ =>
(s2.1[(s2.2 : Int).toNat]?).bind fun x5 =>
 let u6 : (List T_Event.D) := s2.1.set (s2.2 : Int).toNat y4
 some (.inl (u6, IntKind.wrap .i64 (s2.2 + 1))))
 else (
 some (.inr s2))
def laws_toEventS (a0 : (List T_Event.D)) : Option (List T_Event.D) :=
 if 0 ≤ (a0.length : Int) then (if ((a0.length : Int)).toNat * (24 * 7) ≤ room then (
(while_ (laws_toEventS_l1 a0) ((List.replicate ((a0.length : Int)).toNat (0, 0, 0, 0, 0, 0, false, ())), 0)).bind fun o7 =>
 some o7.1) else none) else none
def laws_toEventS_h : Hints := (.node none none .none (.node none none .none (.node none none (.node none none .none (.node none none (.node none (some ⟨[.tmpO 3 0 (.slice T_Event), .tmp 4 (.int .i64)], [some 0], none, []⟩) .none .none) .none)) .none)))
def laws_toEventS_c : Ct := .pure true false (.pair (.slice T_Event) .unit) (.slice T_Event) (fun x => laws_toEventS x.1)
theorem laws_toEventS_ct : CtOk Try.prog 111 laws_toEventS_c := pure_ct (E := { T := tab, G := [(28, laws_toEvent_c)] }) (EnvOk.cons laws_toEvent_ct (EnvOk.nil tabOk)) mixed (fn := Try.f111) _ _ _ _ _ laws_toEventS_h Try.func111 (by kernel_rfl) (fun x => by kernel_rfl)
def laws_toEventS_fresh_c : Ct := .pure true true (.pair (.slice T_Event) .unit) (.slice T_Event) (fun x => laws_toEventS x.1)
theorem laws_toEventS_fresh_ct : CtOk Try.prog 111 laws_toEventS_fresh_c := pure_ct (E := { T := tab, G := [(28, laws_toEvent_c)] }) (EnvOk.cons laws_toEvent_ct (EnvOk.nil tabOk)) mixed (fn := Try.f111) _ _ _ _ _ laws_toEventS_h Try.func111 (by kernel_rfl) (fun x => by kernel_rfl)
/-! loop.example/g00486/laws.toAct -/
def laws_toAct (a0 : T_Act.D) : Option T_Act.D :=
(laws_toEventS a0.2.2.2.2.2.2.1).bind fun y1 =>
 some (a0.1, a0.2.1, a0.2.2.1, a0.2.2.2.1, a0.2.2.2.2.1, a0.2.2.2.2.2.1, y1, ())
def laws_toAct_c : Ct := .pure true false (.pair T_Act .unit) T_Act (fun x => laws_toAct x.1)
theorem laws_toAct_ct : CtOk Try.prog 103 laws_toAct_c := pure_ct (E := { T := tab, G := [(111, laws_toEventS_fresh_c)] }) (EnvOk.cons laws_toEventS_fresh_ct (EnvOk.nil tabOk)) mixed (fn := Try.f103) _ _ _ _ _ .none Try.func103 (by kernel_rfl) (fun x => by kernel_rfl)
def laws_toAct_fresh_c : Ct := .pure true true (.pair T_Act .unit) T_Act (fun x => laws_toAct x.1)
theorem laws_toAct_fresh_ct : CtOk Try.prog 103 laws_toAct_fresh_c := pure_ct (E := { T := tab, G := [(111, laws_toEventS_fresh_c)] }) (EnvOk.cons laws_toEventS_fresh_ct (EnvOk.nil tabOk)) mixed (fn := Try.f103) _ _ _ _ _ .none Try.func103 (by kernel_rfl) (fun x => by kernel_rfl)
/-! loop.example/g00486/laws.toEffect -/
def laws_toEffect (a0 : T_Effect.D) : Option T_Effect.D :=
(laws_toPat a0.2.2.2.2.1).bind fun y1 =>
(laws_toGuard a0.2.2.2.2.2.1).bind fun y2 =>
(laws_toAct a0.2.2.2.2.2.2.1).bind fun y3 =>
 some (a0.1, a0.2.1, a0.2.2.1, a0.2.2.2.1, y1, y2, y3, a0.2.2.2.2.2.2.2)
def laws_toEffect_c : Ct := .pure true false (.pair T_Effect .unit) T_Effect (fun x => laws_toEffect x.1)
theorem laws_toEffect_ct : CtOk Try.prog 78 laws_toEffect_c := pure_ct (E := { T := tab, G := [(101, laws_toPat_c), (102, laws_toGuard_c), (103, laws_toAct_fresh_c)] }) (EnvOk.cons laws_toPat_ct (EnvOk.cons laws_toGuard_ct (EnvOk.cons laws_toAct_fresh_ct (EnvOk.nil tabOk)))) mixed (fn := Try.f78) _ _ _ _ _ .none Try.func78 (by kernel_rfl) (fun x => by kernel_rfl)
def laws_toEffect_fresh_c : Ct := .pure true true (.pair T_Effect .unit) T_Effect (fun x => laws_toEffect x.1)
theorem laws_toEffect_fresh_ct : CtOk Try.prog 78 laws_toEffect_fresh_c := pure_ct (E := { T := tab, G := [(101, laws_toPat_c), (102, laws_toGuard_c), (103, laws_toAct_fresh_c)] }) (EnvOk.cons laws_toPat_ct (EnvOk.cons laws_toGuard_ct (EnvOk.cons laws_toAct_fresh_ct (EnvOk.nil tabOk)))) mixed (fn := Try.f78) _ _ _ _ _ .none Try.func78 (by kernel_rfl) (fun x => by kernel_rfl)
/-! loop.example/g00486/laws.toEffectS -/
def laws_toEffectS_l1 (a0 : (List T_Effect.D)) : ((List T_Effect.D) × Int) → Option (((List T_Effect.D) × Int) ⊕ ((List T_Effect.D) × Int)) := fun s2 =>
 bif decide (s2.2 < (a0.length : Int)) then (
 idx a0 s2.2 fun x3 =>
(laws_toEffect x3).bind fun y4 =>
 idx s2.1 s2.2 fun _ =>
(s2.1[(s2.2 : Int).toNat]?).bind fun x5 =>
 let u6 : (List T_Effect.D) := s2.1.set (s2.2 : Int).toNat y4
 some (.inl (u6, IntKind.wrap .i64 (s2.2 + 1))))
 else (
 some (.inr s2))
def laws_toEffectS (a0 : (List T_Effect.D)) : Option (List T_Effect.D) :=
 if 0 ≤ (a0.length : Int) then (if ((a0.length : Int)).toNat * (24 * 22) ≤ room then (
(while_ (laws_toEffectS_l1 a0) ((List.replicate ((a0.length : Int)).toNat (0, 0, 0, 0, (0, 0, 0, 0, 0, 0, 0, ()), (0, 0, ()), (0, 0, 0, 0, 0, false, [], ()), 0, 0, ())), 0)).bind fun o7 =>
 some o7.1) else none) else none
def laws_toEffectS_h : Hints := (.node none none .none (.node none none .none (.node none none (.node none none .none (.node none none (.node none (some ⟨[.tmpO 3 0 (.slice T_Effect), .tmp 4 (.int .i64)], [some 0], none, []⟩) .none .none) .none)) .none)))
def laws_toEffectS_c : Ct := .pure true false (.pair (.slice T_Effect) .unit) (.slice T_Effect) (fun x => laws_toEffectS x.1)
theorem laws_toEffectS_ct : CtOk Try.prog 32 laws_toEffectS_c := pure_ct (E := { T := tab, G := [(78, laws_toEffect_fresh_c)] }) (EnvOk.cons laws_toEffect_fresh_ct (EnvOk.nil tabOk)) mixed (fn := Try.f32) _ _ _ _ _ laws_toEffectS_h Try.func32 (by kernel_rfl) (fun x => by kernel_rfl)
def laws_toEffectS_fresh_c : Ct := .pure true true (.pair (.slice T_Effect) .unit) (.slice T_Effect) (fun x => laws_toEffectS x.1)
theorem laws_toEffectS_fresh_ct : CtOk Try.prog 32 laws_toEffectS_fresh_c := pure_ct (E := { T := tab, G := [(78, laws_toEffect_fresh_c)] }) (EnvOk.cons laws_toEffect_fresh_ct (EnvOk.nil tabOk)) mixed (fn := Try.f32) _ _ _ _ _ laws_toEffectS_h Try.func32 (by kernel_rfl) (fun x => by kernel_rfl)
/-! loop.example/g00486/spec.Usable -/
def spec_Usable_l1 (a0 : (List T_Effect.D)) : (Int × Int) → Option ((Int × Int) ⊕ (Int × Int)) := fun s1 =>
 bif decide (s1.2 < (a0.length : Int)) then (
 idx a0 s1.2 fun x2 =>
((bif (x2.2.2.2.2.2.2.2.2.1 != 0) then (
 some (IntKind.wrap .i64 (s1.1 + 1)))
 else (
 some s1.1)) : Option Int).bind fun o3 =>
 some (.inl (o3, IntKind.wrap .i64 (s1.2 + 1))))
 else (
 some (.inr s1))
def spec_Usable (a0 : (List T_Effect.D)) : Option Int :=
(while_ (spec_Usable_l1 a0) (0, 0)).bind fun o4 =>
 some o4.1
def spec_Usable_h : Hints := (.node none none .none (.node none none .none (.node none none (.node none none .none (.node none none (.node none (some ⟨[.tmp 3 (.int .i64), .tmp 4 (.int .i64)], [some 0], none, []⟩) (.node none none .none (.node none none (.node none none (.node none none .none (.node (some ⟨[.tmp 3 (.int .i64)], [none], none, []⟩) none .none .none)) .none) .none)) .none) .none)) .none)))
def spec_Usable_c : Ct := .pure true false (.pair (.slice T_Effect) .unit) (.int .i64) (fun x => spec_Usable x.1)
theorem spec_Usable_ct : CtOk Try.prog 31 spec_Usable_c := pure_ct (E := { T := tab, G := [] }) (EnvOk.nil tabOk) mixed (fn := Try.f31) _ _ _ _ _ spec_Usable_h Try.func31 (by kernel_rfl) (fun x => by kernel_rfl)
/-! loop.example/g00486/impl.Usable -/
def impl_Usable_l1 (a0 : (List T_Effect.D)) : (Int × Int) → Option ((Int × Int) ⊕ (Int × Int)) := fun s1 =>
 bif decide (s1.2 < (a0.length : Int)) then (
 idx a0 s1.2 fun x2 =>
 bif (x2.2.2.2.2.2.2.2.2.1 != 0) then (
 some (.inl (IntKind.wrap .i64 (s1.1 + 1), IntKind.wrap .i64 (s1.2 + 1))))
 else (
 some (.inl (s1.1, IntKind.wrap .i64 (s1.2 + 1)))))
 else (
 some (.inr s1))
def impl_Usable (a0 : (List T_Effect.D)) : Option Int :=
(while_ (impl_Usable_l1 a0) (0, 0)).bind fun o3 =>
 some o3.1
def impl_Usable_h : Hints := (.node none none .none (.node none none .none (.node none none (.node none none .none (.node none none (.node none (some ⟨[.tmp 3 (.int .i64), .tmp 8 (.int .i64)], [some 0], none, []⟩) .none .none) .none)) .none)))
def impl_Usable_c : Ct := .pure true false (.pair (.slice T_Effect) .unit) (.int .i64) (fun x => impl_Usable x.1)
theorem impl_Usable_ct : CtOk Try.prog 33 impl_Usable_c := pure_ct (E := { T := tab, G := [] }) (EnvOk.nil tabOk) mixed (fn := Try.f33) _ _ _ _ _ impl_Usable_h Try.func33 (by kernel_rfl) (fun x => by kernel_rfl)
/-! loop.example/g00486/laws.eqPat -/
def laws_eqPat (a0 : T_Pat.D) (a1 : T_Pat.D) : Option Bool :=
 bif (a0.1 != a1.1) then (
 some false)
 else (
 bif (a0.2.1 != a1.2.1) then (
 some false)
 else (
 bif (a0.2.2.1 != a1.2.2.1) then (
 some false)
 else (
 bif (a0.2.2.2.1 != a1.2.2.2.1) then (
 some false)
 else (
 bif (a0.2.2.2.2.1 != a1.2.2.2.2.1) then (
 some false)
 else (
 bif (a0.2.2.2.2.2.1 != a1.2.2.2.2.2.1) then (
 some false)
 else (
 bif (a0.2.2.2.2.2.2.1 != a1.2.2.2.2.2.2.1) then (
 some false)
 else (
 some true)))))))
def laws_eqPat_c : Ct := .pure true false (.pair T_Pat (.pair T_Pat .unit)) .bool (fun x => laws_eqPat x.1 x.2.1)
theorem laws_eqPat_ct : CtOk Try.prog 104 laws_eqPat_c := pure_ct (E := { T := tab, G := [] }) (EnvOk.nil tabOk) mixed (fn := Try.f104) _ _ _ _ _ .none Try.func104 (by kernel_rfl) (fun x => by kernel_rfl)
/-! loop.example/g00486/laws.eqGuard -/
def laws_eqGuard (a0 : T_Guard.D) (a1 : T_Guard.D) : Option Bool :=
 bif (a0.1 != a1.1) then (
 some false)
 else (
 bif (a0.2.1 != a1.2.1) then (
 some false)
 else (
 some true))
def laws_eqGuard_c : Ct := .pure true false (.pair T_Guard (.pair T_Guard .unit)) .bool (fun x => laws_eqGuard x.1 x.2.1)
theorem laws_eqGuard_ct : CtOk Try.prog 105 laws_eqGuard_c := pure_ct (E := { T := tab, G := [] }) (EnvOk.nil tabOk) mixed (fn := Try.f105) _ _ _ _ _ .none Try.func105 (by kernel_rfl) (fun x => by kernel_rfl)
/-! loop.example/g00486/laws.eqEvent -/
def laws_eqEvent (a0 : T_Event.D) (a1 : T_Event.D) : Option Bool :=
 bif (a0.1 != a1.1) then (
 some false)
 else (
 bif (a0.2.1 != a1.2.1) then (
 some false)
 else (
 bif (a0.2.2.1 != a1.2.2.1) then (
 some false)
 else (
 bif (a0.2.2.2.1 != a1.2.2.2.1) then (
 some false)
 else (
 bif (a0.2.2.2.2.1 != a1.2.2.2.2.1) then (
 some false)
 else (
 bif (a0.2.2.2.2.2.1 != a1.2.2.2.2.2.1) then (
 some false)
 else (
 bif (a0.2.2.2.2.2.2.1 != a1.2.2.2.2.2.2.1) then (
 some false)
 else (
 some true)))))))
def laws_eqEvent_c : Ct := .pure true false (.pair T_Event (.pair T_Event .unit)) .bool (fun x => laws_eqEvent x.1 x.2.1)
theorem laws_eqEvent_ct : CtOk Try.prog 95 laws_eqEvent_c := pure_ct (E := { T := tab, G := [] }) (EnvOk.nil tabOk) mixed (fn := Try.f95) _ _ _ _ _ .none Try.func95 (by kernel_rfl) (fun x => by kernel_rfl)
/-! loop.example/g00486/laws.eqEventS -/
def laws_eqEventS_l1 (a0 : (List T_Event.D)) (a1 : (List T_Event.D)) : Int → Option (Int ⊕ (Int ⊕ Bool)) := fun s1 =>
 bif decide (s1 < (a0.length : Int)) then (
 idx a0 s1 fun x2 =>
 idx a1 s1 fun x3 =>
(laws_eqEvent x2 x3).bind fun y4 =>
 bif (!y4) then (
 some (.inr (.inr false)))
 else (
 some (.inl (IntKind.wrap .i64 (s1 + 1)))))
 else (
 some (.inr (.inl s1)))
def laws_eqEventS (a0 : (List T_Event.D)) (a1 : (List T_Event.D)) : Option Bool :=
 bif ((a0.length : Int) != (a1.length : Int)) then (
 some false)
 else (
(while_ (laws_eqEventS_l1 a0 a1) 0).bind fun o5 =>
 match o5 with
| .inl s6 => (
 some true)
| .inr o7 => (
 some o7))
def laws_eqEventS_h : Hints := (.node none none .none (.node none none .none (.node none none (.node none none .none (.node none none (.node none (some ⟨[.tmp 5 (.int .i64)], [some 0], some [.tmp 4 .bool], []⟩) .none .none) .none)) .none)))
def laws_eqEventS_c : Ct := .pure true false (.pair (.slice T_Event) (.pair (.slice T_Event) .unit)) .bool (fun x => laws_eqEventS x.1 x.2.1)
theorem laws_eqEventS_ct : CtOk Try.prog 112 laws_eqEventS_c := pure_ct (E := { T := tab, G := [(95, laws_eqEvent_c)] }) (EnvOk.cons laws_eqEvent_ct (EnvOk.nil tabOk)) mixed (fn := Try.f112) _ _ _ _ _ laws_eqEventS_h Try.func112 (by kernel_rfl) (fun x => by kernel_rfl)
/-! loop.example/g00486/laws.eqAct -/
def laws_eqAct (a0 : T_Act.D) (a1 : T_Act.D) : Option Bool :=
 bif (a0.1 != a1.1) then (
 some false)
 else (
 bif (a0.2.1 != a1.2.1) then (
 some false)
 else (
 bif (a0.2.2.1 != a1.2.2.1) then (
 some false)
 else (
 bif (a0.2.2.2.1 != a1.2.2.2.1) then (
 some false)
 else (
 bif (a0.2.2.2.2.1 != a1.2.2.2.2.1) then (
 some false)
 else (
 bif (a0.2.2.2.2.2.1 != a1.2.2.2.2.2.1) then (
 some false)
 else (
(laws_eqEventS a0.2.2.2.2.2.2.1 a1.2.2.2.2.2.2.1).bind fun y1 =>
 bif (!y1) then (
 some false)
 else (
 some true)))))))
def laws_eqAct_c : Ct := .pure true false (.pair T_Act (.pair T_Act .unit)) .bool (fun x => laws_eqAct x.1 x.2.1)
theorem laws_eqAct_ct : CtOk Try.prog 106 laws_eqAct_c := pure_ct (E := { T := tab, G := [(112, laws_eqEventS_c)] }) (EnvOk.cons laws_eqEventS_ct (EnvOk.nil tabOk)) mixed (fn := Try.f106) _ _ _ _ _ .none Try.func106 (by kernel_rfl) (fun x => by kernel_rfl)
/-! loop.example/g00486/laws.eqEffect -/
def laws_eqEffect (a0 : T_Effect.D) (a1 : T_Effect.D) : Option Bool :=
 bif (a0.1 != a1.1) then (
 some false)
 else (
 bif (a0.2.1 != a1.2.1) then (
 some false)
 else (
 bif (a0.2.2.1 != a1.2.2.1) then (
 some false)
 else (
 bif (a0.2.2.2.1 != a1.2.2.2.1) then (
 some false)
 else (
(laws_eqPat a0.2.2.2.2.1 a1.2.2.2.2.1).bind fun y1 =>
 bif (!y1) then (
 some false)
 else (
(laws_eqGuard a0.2.2.2.2.2.1 a1.2.2.2.2.2.1).bind fun y2 =>
 bif (!y2) then (
 some false)
 else (
(laws_eqAct a0.2.2.2.2.2.2.1 a1.2.2.2.2.2.2.1).bind fun y3 =>
 bif (!y3) then (
 some false)
 else (
 bif (a0.2.2.2.2.2.2.2.1 != a1.2.2.2.2.2.2.2.1) then (
 some false)
 else (
 bif (a0.2.2.2.2.2.2.2.2.1 != a1.2.2.2.2.2.2.2.2.1) then (
 some false)
 else (
 some true)))))))))
def laws_eqEffect_c : Ct := .pure true false (.pair T_Effect (.pair T_Effect .unit)) .bool (fun x => laws_eqEffect x.1 x.2.1)
theorem laws_eqEffect_ct : CtOk Try.prog 79 laws_eqEffect_c := pure_ct (E := { T := tab, G := [(104, laws_eqPat_c), (105, laws_eqGuard_c), (106, laws_eqAct_c)] }) (EnvOk.cons laws_eqPat_ct (EnvOk.cons laws_eqGuard_ct (EnvOk.cons laws_eqAct_ct (EnvOk.nil tabOk)))) mixed (fn := Try.f79) _ _ _ _ _ .none Try.func79 (by kernel_rfl) (fun x => by kernel_rfl)
/-! loop.example/g00486/laws.eqEffectS -/
def laws_eqEffectS_l1 (a0 : (List T_Effect.D)) (a1 : (List T_Effect.D)) : Int → Option (Int ⊕ (Int ⊕ Bool)) := fun s1 =>
 bif decide (s1 < (a0.length : Int)) then (
 idx a0 s1 fun x2 =>
 idx a1 s1 fun x3 =>
(laws_eqEffect x2 x3).bind fun y4 =>
 bif (!y4) then (
 some (.inr (.inr false)))
 else (
 some (.inl (IntKind.wrap .i64 (s1 + 1)))))
 else (
 some (.inr (.inl s1)))
def laws_eqEffectS (a0 : (List T_Effect.D)) (a1 : (List T_Effect.D)) : Option Bool :=
 bif ((a0.length : Int) != (a1.length : Int)) then (
 some false)
 else (
(while_ (laws_eqEffectS_l1 a0 a1) 0).bind fun o5 =>
 match o5 with
| .inl s6 => (
 some true)
| .inr o7 => (
 some o7))
def laws_eqEffectS_h : Hints := (.node none none .none (.node none none .none (.node none none (.node none none .none (.node none none (.node none (some ⟨[.tmp 5 (.int .i64)], [some 0], some [.tmp 4 .bool], []⟩) .none .none) .none)) .none)))
def laws_eqEffectS_c : Ct := .pure true false (.pair (.slice T_Effect) (.pair (.slice T_Effect) .unit)) .bool (fun x => laws_eqEffectS x.1 x.2.1)
theorem laws_eqEffectS_ct : CtOk Try.prog 34 laws_eqEffectS_c := pure_ct (E := { T := tab, G := [(79, laws_eqEffect_c)] }) (EnvOk.cons laws_eqEffect_ct (EnvOk.nil tabOk)) mixed (fn := Try.f34) _ _ _ _ _ laws_eqEffectS_h Try.func34 (by kernel_rfl) (fun x => by kernel_rfl)
/-! loop.example/g00486/laws.FnExactUsable -/
def laws_FnExactUsable (a0 : (List T_Effect.D)) : Option Bool :=
(laws_szEffectS a0 1048576).bind fun y1 =>
 bif decide (y1 < 0) then (
 some true)
 else (
(laws_toEffectS a0).bind fun y2 =>
(spec_Usable y2).bind fun y3 =>
(laws_toEffectS a0).bind fun y4 =>
(impl_Usable y4).bind fun y5 =>
 bif (y5 != y3) then (
 some false)
 else (
(laws_toEffectS a0).bind fun y6 =>
(laws_eqEffectS y4 y6).bind fun y7 =>
 bif (!y7) then (
 some false)
 else (
 some true)))
def laws_FnExactUsable_c : Ct := .pure true false (.pair (.slice T_Effect) .unit) .bool (fun x => laws_FnExactUsable x.1)
theorem laws_FnExactUsable_ct : CtOk Try.prog 7 laws_FnExactUsable_c := pure_ct (E := { T := tab, G := [(30, laws_szEffectS_c), (31, spec_Usable_c), (32, laws_toEffectS_fresh_c), (33, impl_Usable_c), (34, laws_eqEffectS_c)] }) (EnvOk.cons laws_szEffectS_ct (EnvOk.cons spec_Usable_ct (EnvOk.cons laws_toEffectS_fresh_ct (EnvOk.cons impl_Usable_ct (EnvOk.cons laws_eqEffectS_ct (EnvOk.nil tabOk)))))) mixed (fn := Try.f7) _ _ _ _ _ .none Try.func7 (by kernel_rfl) (fun x => by kernel_rfl)
end
end Go.Abs
