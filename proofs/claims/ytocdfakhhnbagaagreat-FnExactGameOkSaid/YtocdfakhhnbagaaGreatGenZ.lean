import Derived.Test.YtocdfakhhnbagaaGreatProg
import Derived.Test.YtocdfakhhnbagaaGreatAbsTab
set_option linter.unusedVariables false
set_option linter.unusedSimpArgs false
namespace Go.Abs
open Go.Proofs
set_option maxRecDepth 100000
noncomputable section
@[reducible] def T_Piece : Ty := (.pair (.int .i64) (.pair (.int .i64) (.pair (.int .i64) (.pair (.int .i64) (.pair (.int .i64) (.pair (.int .i64) (.pair (.int .i64) (.pair (.int .i64) (.pair (.int .i64) (.pair (.int .i64) (.pair (.int .i64) (.pair .bool (.pair .bool .unit)))))))))))))
@[reducible] def T_Side : Ty := (.pair (.int .i64) (.pair (.int .i64) (.pair .bool .unit)))
@[reducible] def T_State : Ty := (.pair (.slice T_Piece) (.pair (.slice T_Side) (.pair (.int .i64) (.pair (.int .i64) .unit))))
@[reducible] def T_Pat : Ty := (.pair (.int .i64) (.pair (.int .i64) (.pair (.int .i64) (.pair (.int .i64) (.pair (.int .i64) (.pair (.int .i64) (.pair (.int .i64) .unit)))))))
@[reducible] def T_Guard : Ty := (.pair (.int .i64) (.pair (.int .i64) .unit))
@[reducible] def T_Event : Ty := (.pair (.int .i64) (.pair (.int .i64) (.pair (.int .i64) (.pair (.int .i64) (.pair (.int .i64) (.pair (.int .i64) (.pair .bool .unit)))))))
@[reducible] def T_Act : Ty := (.pair (.int .i64) (.pair (.int .i64) (.pair (.int .i64) (.pair (.int .i64) (.pair (.int .i64) (.pair .bool (.pair (.slice T_Event) .unit)))))))
@[reducible] def T_Effect : Ty := (.pair (.int .i64) (.pair (.int .i64) (.pair (.int .i64) (.pair (.int .i64) (.pair T_Pat (.pair T_Guard (.pair T_Act (.pair (.int .i64) (.pair (.int .i64) .unit)))))))))
@[reducible] def T_Trigger : Ty := (.pair (.int .i64) (.pair (.int .i64) (.pair (.int .i64) (.pair T_Piece .unit))))
@[reducible] def T_Note : Ty := (.pair (.int .i64) (.pair T_Event (.pair (.int .i64) (.pair (.int .i64) (.pair T_Piece .unit)))))
@[reducible] def T_Turn : Ty := (.pair (.int .i64) (.pair (.int .i64) (.pair (.int .i64) (.pair (.int .i64) (.pair T_Event (.pair (.slice T_Event) (.pair (.int .i64) (.pair (.int .i64) .unit))))))))
@[reducible] def T_Game : Ty := (.pair T_State (.pair (.slice T_Effect) (.pair (.slice (.int .i64)) (.pair (.slice T_Trigger) (.pair (.slice T_Note) (.pair (.slice T_Turn) .unit))))))
@[reducible] def T_S7 : Ty := (.pair (.int .i64) (.pair (.int .i64) (.pair .bool (.pair (.int .u8) .unit))))
def tab : Tab := [
  (1, ⟨.other, 1, 0, .unit, [.undef]⟩),
  (2, ⟨.int .i64, 1, 0, (.int .i64), [.int .i64 0]⟩),
  (3, ⟨.int .i64, 1, 0, (.int .i64), [.int .i64 0]⟩),
  (4, ⟨.bool, 1, 0, .bool, [.bool false]⟩),
  (5, ⟨.int .u8, 1, 0, (.int .u8), [.int .u8 0]⟩),
  (6, ⟨.int .u8, 1, 0, (.int .u8), [.int .u8 0]⟩),
  (7, ⟨.struct [(0, 2), (1, 3), (2, 4), (3, 6)], 4, 0, T_S7, [.int .i64 0, .int .i64 0, .bool false, .int .u8 0]⟩),
  (8, ⟨.struct [(0, 2), (1, 3), (2, 4), (3, 6)], 4, 0, T_S7, [.int .i64 0, .int .i64 0, .bool false, .int .u8 0]⟩),
  (12, ⟨.int .u64, 1, 0, (.int .u64), [.int .u64 0]⟩),
  (15, ⟨.other, 1, 0, .unit, [.undef]⟩),
  (16, ⟨.other, 1, 0, .unit, [.undef]⟩),
  (17, ⟨.other, 1, 0, .unit, [.undef]⟩),
  (21, ⟨.int .i32, 1, 0, (.int .i32), [.int .i32 0]⟩),
  (22, ⟨.slice 112, 1, 0, (.slice T_Piece), [.nil]⟩),
  (23, ⟨.slice 141, 1, 0, (.slice T_Side), [.nil]⟩),
  (24, ⟨.struct [(0, 22), (1, 23), (2, 3), (3, 3)], 4, 0, T_State, [.nil, .nil, .int .i64 0, .int .i64 0]⟩),
  (25, ⟨.struct [(0, 22), (1, 23), (2, 3), (3, 3)], 4, 0, T_State, [.nil, .nil, .int .i64 0, .int .i64 0]⟩),
  (26, ⟨.slice 86, 1, 0, (.slice T_Effect), [.nil]⟩),
  (27, ⟨.slice 3, 1, 0, (.slice (.int .i64)), [.nil]⟩),
  (28, ⟨.slice 114, 1, 0, (.slice T_Trigger), [.nil]⟩),
  (29, ⟨.slice 119, 1, 0, (.slice T_Note), [.nil]⟩),
  (30, ⟨.slice 90, 1, 0, (.slice T_Turn), [.nil]⟩),
  (31, ⟨.struct [(0, 25), (4, 26), (5, 27), (6, 28), (7, 29), (8, 30)], 9, 0, T_Game, [.nil, .nil, .int .i64 0, .int .i64 0, .nil, .nil, .nil, .nil, .nil]⟩),
  (32, ⟨.struct [(0, 25), (4, 26), (5, 27), (6, 28), (7, 29), (8, 30)], 9, 0, T_Game, [.nil, .nil, .int .i64 0, .int .i64 0, .nil, .nil, .nil, .nil, .nil]⟩),
  (33, ⟨.other, 1, 0, .unit, [.undef]⟩),
  (34, ⟨.other, 1, 0, .unit, [.undef]⟩),
  (35, ⟨.slice 94, 1, 0, (.slice T_Piece), [.nil]⟩),
  (36, ⟨.slice 98, 1, 0, (.slice T_Side), [.nil]⟩),
  (37, ⟨.struct [(0, 35), (1, 36), (2, 3), (3, 3)], 4, 0, T_State, [.nil, .nil, .int .i64 0, .int .i64 0]⟩),
  (38, ⟨.struct [(0, 35), (1, 36), (2, 3), (3, 3)], 4, 0, T_State, [.nil, .nil, .int .i64 0, .int .i64 0]⟩),
  (39, ⟨.slice 105, 1, 0, (.slice T_Effect), [.nil]⟩),
  (40, ⟨.slice 110, 1, 0, (.slice T_Trigger), [.nil]⟩),
  (41, ⟨.slice 116, 1, 0, (.slice T_Note), [.nil]⟩),
  (42, ⟨.slice 59, 1, 0, (.slice T_Turn), [.nil]⟩),
  (43, ⟨.struct [(0, 38), (4, 39), (5, 27), (6, 40), (7, 41), (8, 42)], 9, 0, T_Game, [.nil, .nil, .int .i64 0, .int .i64 0, .nil, .nil, .nil, .nil, .nil]⟩),
  (44, ⟨.struct [(0, 38), (4, 39), (5, 27), (6, 40), (7, 41), (8, 42)], 9, 0, T_Game, [.nil, .nil, .int .i64 0, .int .i64 0, .nil, .nil, .nil, .nil, .nil]⟩),
  (45, ⟨.other, 1, 0, .unit, [.undef]⟩),
  (46, ⟨.other, 1, 0, .unit, [.undef]⟩),
  (47, ⟨.other, 1, 0, .unit, [.undef]⟩),
  (48, ⟨.other, 1, 0, .unit, [.undef]⟩),
  (49, ⟨.other, 1, 0, .unit, [.undef]⟩),
  (50, ⟨.other, 1, 0, .unit, [.undef]⟩),
  (51, ⟨.other, 1, 0, .unit, [.undef]⟩),
  (52, ⟨.other, 1, 0, .unit, [.undef]⟩),
  (53, ⟨.other, 1, 0, .unit, [.undef]⟩),
  (54, ⟨.other, 1, 0, .unit, [.undef]⟩),
  (55, ⟨.struct [(0, 3), (1, 3), (2, 3), (3, 3), (4, 3), (5, 3), (6, 4)], 7, 0, T_Event, [.int .i64 0, .int .i64 0, .int .i64 0, .int .i64 0, .int .i64 0, .int .i64 0, .bool false]⟩),
  (56, ⟨.struct [(0, 3), (1, 3), (2, 3), (3, 3), (4, 3), (5, 3), (6, 4)], 7, 0, T_Event, [.int .i64 0, .int .i64 0, .int .i64 0, .int .i64 0, .int .i64 0, .int .i64 0, .bool false]⟩),
  (57, ⟨.slice 56, 1, 0, (.slice T_Event), [.nil]⟩),
  (58, ⟨.struct [(0, 3), (1, 3), (2, 3), (3, 3), (4, 56), (11, 57), (12, 3), (13, 3)], 14, 0, T_Turn, [.int .i64 0, .int .i64 0, .int .i64 0, .int .i64 0, .int .i64 0, .int .i64 0, .int .i64 0, .int .i64 0, .int .i64 0, .int .i64 0, .bool false, .nil, .int .i64 0, .int .i64 0]⟩),
  (59, ⟨.struct [(0, 3), (1, 3), (2, 3), (3, 3), (4, 56), (11, 57), (12, 3), (13, 3)], 14, 0, T_Turn, [.int .i64 0, .int .i64 0, .int .i64 0, .int .i64 0, .int .i64 0, .int .i64 0, .int .i64 0, .int .i64 0, .int .i64 0, .int .i64 0, .bool false, .nil, .int .i64 0, .int .i64 0]⟩),
  (60, ⟨.other, 1, 0, .unit, [.undef]⟩),
  (61, ⟨.other, 1, 0, .unit, [.undef]⟩),
  (62, ⟨.other, 1, 0, .unit, [.undef]⟩),
  (63, ⟨.other, 1, 0, .unit, [.undef]⟩),
  (64, ⟨.other, 1, 0, .unit, [.undef]⟩),
  (65, ⟨.other, 1, 0, .unit, [.undef]⟩),
  (66, ⟨.other, 1, 0, .unit, [.undef]⟩),
  (67, ⟨.other, 1, 0, .unit, [.undef]⟩),
  (68, ⟨.other, 1, 0, .unit, [.undef]⟩),
  (69, ⟨.other, 1, 0, .unit, [.undef]⟩),
  (70, ⟨.other, 1, 0, .unit, [.undef]⟩),
  (71, ⟨.other, 1, 0, .unit, [.undef]⟩),
  (72, ⟨.other, 1, 0, .unit, [.undef]⟩),
  (73, ⟨.other, 1, 0, .unit, [.undef]⟩),
  (74, ⟨.other, 1, 0, .unit, [.undef]⟩),
  (75, ⟨.other, 1, 0, .unit, [.undef]⟩),
  (76, ⟨.other, 1, 0, .unit, [.undef]⟩),
  (77, ⟨.other, 1, 0, .unit, [.undef]⟩),
  (78, ⟨.struct [(0, 3), (1, 3), (2, 3), (3, 3), (4, 3), (5, 3), (6, 3)], 7, 0, T_Pat, [.int .i64 0, .int .i64 0, .int .i64 0, .int .i64 0, .int .i64 0, .int .i64 0, .int .i64 0]⟩),
  (79, ⟨.struct [(0, 3), (1, 3), (2, 3), (3, 3), (4, 3), (5, 3), (6, 3)], 7, 0, T_Pat, [.int .i64 0, .int .i64 0, .int .i64 0, .int .i64 0, .int .i64 0, .int .i64 0, .int .i64 0]⟩),
  (80, ⟨.struct [(0, 3), (1, 3)], 2, 0, T_Guard, [.int .i64 0, .int .i64 0]⟩),
  (81, ⟨.struct [(0, 3), (1, 3)], 2, 0, T_Guard, [.int .i64 0, .int .i64 0]⟩),
  (82, ⟨.slice 88, 1, 0, (.slice T_Event), [.nil]⟩),
  (83, ⟨.struct [(0, 3), (1, 3), (2, 3), (3, 3), (4, 3), (5, 4), (6, 82)], 7, 0, T_Act, [.int .i64 0, .int .i64 0, .int .i64 0, .int .i64 0, .int .i64 0, .bool false, .nil]⟩),
  (84, ⟨.struct [(0, 3), (1, 3), (2, 3), (3, 3), (4, 3), (5, 4), (6, 82)], 7, 0, T_Act, [.int .i64 0, .int .i64 0, .int .i64 0, .int .i64 0, .int .i64 0, .bool false, .nil]⟩),
  (85, ⟨.struct [(0, 3), (1, 3), (2, 3), (3, 3), (4, 79), (11, 81), (13, 84), (20, 3), (21, 3)], 22, 0, T_Effect, [.int .i64 0, .int .i64 0, .int .i64 0, .int .i64 0, .int .i64 0, .int .i64 0, .int .i64 0, .int .i64 0, .int .i64 0, .int .i64 0, .int .i64 0, .int .i64 0, .int .i64 0, .int .i64 0, .int .i64 0, .int .i64 0, .int .i64 0, .int .i64 0, .bool false, .nil, .int .i64 0, .int .i64 0]⟩),
  (86, ⟨.struct [(0, 3), (1, 3), (2, 3), (3, 3), (4, 79), (11, 81), (13, 84), (20, 3), (21, 3)], 22, 0, T_Effect, [.int .i64 0, .int .i64 0, .int .i64 0, .int .i64 0, .int .i64 0, .int .i64 0, .int .i64 0, .int .i64 0, .int .i64 0, .int .i64 0, .int .i64 0, .int .i64 0, .int .i64 0, .int .i64 0, .int .i64 0, .int .i64 0, .int .i64 0, .int .i64 0, .bool false, .nil, .int .i64 0, .int .i64 0]⟩),
  (87, ⟨.other, 1, 0, .unit, [.undef]⟩),
  (88, ⟨.struct [(0, 3), (1, 3), (2, 3), (3, 3), (4, 3), (5, 3), (6, 4)], 7, 0, T_Event, [.int .i64 0, .int .i64 0, .int .i64 0, .int .i64 0, .int .i64 0, .int .i64 0, .bool false]⟩),
  (89, ⟨.struct [(0, 3), (1, 3), (2, 3), (3, 3), (4, 88), (11, 82), (12, 3), (13, 3)], 14, 0, T_Turn, [.int .i64 0, .int .i64 0, .int .i64 0, .int .i64 0, .int .i64 0, .int .i64 0, .int .i64 0, .int .i64 0, .int .i64 0, .int .i64 0, .bool false, .nil, .int .i64 0, .int .i64 0]⟩),
  (90, ⟨.struct [(0, 3), (1, 3), (2, 3), (3, 3), (4, 88), (11, 82), (12, 3), (13, 3)], 14, 0, T_Turn, [.int .i64 0, .int .i64 0, .int .i64 0, .int .i64 0, .int .i64 0, .int .i64 0, .int .i64 0, .int .i64 0, .int .i64 0, .int .i64 0, .bool false, .nil, .int .i64 0, .int .i64 0]⟩),
  (91, ⟨.other, 1, 0, .unit, [.undef]⟩),
  (92, ⟨.other, 1, 0, .unit, [.undef]⟩),
  (93, ⟨.struct [(0, 3), (1, 3), (2, 3), (3, 3), (4, 3), (5, 3), (6, 3), (7, 3), (8, 3), (9, 3), (10, 3), (11, 4), (12, 4)], 13, 0, T_Piece, [.int .i64 0, .int .i64 0, .int .i64 0, .int .i64 0, .int .i64 0, .int .i64 0, .int .i64 0, .int .i64 0, .int .i64 0, .int .i64 0, .int .i64 0, .bool false, .bool false]⟩),
  (94, ⟨.struct [(0, 3), (1, 3), (2, 3), (3, 3), (4, 3), (5, 3), (6, 3), (7, 3), (8, 3), (9, 3), (10, 3), (11, 4), (12, 4)], 13, 0, T_Piece, [.int .i64 0, .int .i64 0, .int .i64 0, .int .i64 0, .int .i64 0, .int .i64 0, .int .i64 0, .int .i64 0, .int .i64 0, .int .i64 0, .int .i64 0, .bool false, .bool false]⟩),
  (95, ⟨.other, 1, 0, .unit, [.undef]⟩),
  (96, ⟨.other, 1, 0, .unit, [.undef]⟩),
  (97, ⟨.struct [(0, 3), (1, 3), (2, 4)], 3, 0, T_Side, [.int .i64 0, .int .i64 0, .bool false]⟩),
  (98, ⟨.struct [(0, 3), (1, 3), (2, 4)], 3, 0, T_Side, [.int .i64 0, .int .i64 0, .bool false]⟩),
  (99, ⟨.other, 1, 0, .unit, [.undef]⟩),
  (100, ⟨.struct [(0, 3), (1, 3), (2, 3), (3, 3), (4, 3), (5, 3), (6, 3)], 7, 0, T_Pat, [.int .i64 0, .int .i64 0, .int .i64 0, .int .i64 0, .int .i64 0, .int .i64 0, .int .i64 0]⟩),
  (101, ⟨.struct [(0, 3), (1, 3)], 2, 0, T_Guard, [.int .i64 0, .int .i64 0]⟩),
  (102, ⟨.struct [(0, 3), (1, 3), (2, 3), (3, 3), (4, 3), (5, 4), (6, 57)], 7, 0, T_Act, [.int .i64 0, .int .i64 0, .int .i64 0, .int .i64 0, .int .i64 0, .bool false, .nil]⟩),
  (103, ⟨.struct [(0, 3), (1, 3), (2, 3), (3, 3), (4, 3), (5, 4), (6, 57)], 7, 0, T_Act, [.int .i64 0, .int .i64 0, .int .i64 0, .int .i64 0, .int .i64 0, .bool false, .nil]⟩),
  (104, ⟨.struct [(0, 3), (1, 3), (2, 3), (3, 3), (4, 100), (11, 101), (13, 103), (20, 3), (21, 3)], 22, 0, T_Effect, [.int .i64 0, .int .i64 0, .int .i64 0, .int .i64 0, .int .i64 0, .int .i64 0, .int .i64 0, .int .i64 0, .int .i64 0, .int .i64 0, .int .i64 0, .int .i64 0, .int .i64 0, .int .i64 0, .int .i64 0, .int .i64 0, .int .i64 0, .int .i64 0, .bool false, .nil, .int .i64 0, .int .i64 0]⟩),
  (105, ⟨.struct [(0, 3), (1, 3), (2, 3), (3, 3), (4, 100), (11, 101), (13, 103), (20, 3), (21, 3)], 22, 0, T_Effect, [.int .i64 0, .int .i64 0, .int .i64 0, .int .i64 0, .int .i64 0, .int .i64 0, .int .i64 0, .int .i64 0, .int .i64 0, .int .i64 0, .int .i64 0, .int .i64 0, .int .i64 0, .int .i64 0, .int .i64 0, .int .i64 0, .int .i64 0, .int .i64 0, .bool false, .nil, .int .i64 0, .int .i64 0]⟩),
  (106, ⟨.other, 1, 0, .unit, [.undef]⟩),
  (107, ⟨.other, 1, 0, .unit, [.undef]⟩),
  (108, ⟨.other, 1, 0, .unit, [.undef]⟩),
  (109, ⟨.struct [(0, 3), (1, 3), (2, 3), (3, 94)], 16, 0, T_Trigger, [.int .i64 0, .int .i64 0, .int .i64 0, .int .i64 0, .int .i64 0, .int .i64 0, .int .i64 0, .int .i64 0, .int .i64 0, .int .i64 0, .int .i64 0, .int .i64 0, .int .i64 0, .int .i64 0, .bool false, .bool false]⟩),
  (110, ⟨.struct [(0, 3), (1, 3), (2, 3), (3, 94)], 16, 0, T_Trigger, [.int .i64 0, .int .i64 0, .int .i64 0, .int .i64 0, .int .i64 0, .int .i64 0, .int .i64 0, .int .i64 0, .int .i64 0, .int .i64 0, .int .i64 0, .int .i64 0, .int .i64 0, .int .i64 0, .bool false, .bool false]⟩),
  (111, ⟨.other, 1, 0, .unit, [.undef]⟩),
  (112, ⟨.struct [(0, 3), (1, 3), (2, 3), (3, 3), (4, 3), (5, 3), (6, 3), (7, 3), (8, 3), (9, 3), (10, 3), (11, 4), (12, 4)], 13, 0, T_Piece, [.int .i64 0, .int .i64 0, .int .i64 0, .int .i64 0, .int .i64 0, .int .i64 0, .int .i64 0, .int .i64 0, .int .i64 0, .int .i64 0, .int .i64 0, .bool false, .bool false]⟩),
  (113, ⟨.struct [(0, 3), (1, 3), (2, 3), (3, 112)], 16, 0, T_Trigger, [.int .i64 0, .int .i64 0, .int .i64 0, .int .i64 0, .int .i64 0, .int .i64 0, .int .i64 0, .int .i64 0, .int .i64 0, .int .i64 0, .int .i64 0, .int .i64 0, .int .i64 0, .int .i64 0, .bool false, .bool false]⟩),
  (114, ⟨.struct [(0, 3), (1, 3), (2, 3), (3, 112)], 16, 0, T_Trigger, [.int .i64 0, .int .i64 0, .int .i64 0, .int .i64 0, .int .i64 0, .int .i64 0, .int .i64 0, .int .i64 0, .int .i64 0, .int .i64 0, .int .i64 0, .int .i64 0, .int .i64 0, .int .i64 0, .bool false, .bool false]⟩),
  (115, ⟨.struct [(0, 3), (1, 56), (8, 3), (9, 3), (10, 94)], 23, 0, T_Note, [.int .i64 0, .int .i64 0, .int .i64 0, .int .i64 0, .int .i64 0, .int .i64 0, .int .i64 0, .bool false, .int .i64 0, .int .i64 0, .int .i64 0, .int .i64 0, .int .i64 0, .int .i64 0, .int .i64 0, .int .i64 0, .int .i64 0, .int .i64 0, .int .i64 0, .int .i64 0, .int .i64 0, .bool false, .bool false]⟩),
  (116, ⟨.struct [(0, 3), (1, 56), (8, 3), (9, 3), (10, 94)], 23, 0, T_Note, [.int .i64 0, .int .i64 0, .int .i64 0, .int .i64 0, .int .i64 0, .int .i64 0, .int .i64 0, .bool false, .int .i64 0, .int .i64 0, .int .i64 0, .int .i64 0, .int .i64 0, .int .i64 0, .int .i64 0, .int .i64 0, .int .i64 0, .int .i64 0, .int .i64 0, .int .i64 0, .int .i64 0, .bool false, .bool false]⟩),
  (117, ⟨.other, 1, 0, .unit, [.undef]⟩),
  (118, ⟨.struct [(0, 3), (1, 88), (8, 3), (9, 3), (10, 112)], 23, 0, T_Note, [.int .i64 0, .int .i64 0, .int .i64 0, .int .i64 0, .int .i64 0, .int .i64 0, .int .i64 0, .bool false, .int .i64 0, .int .i64 0, .int .i64 0, .int .i64 0, .int .i64 0, .int .i64 0, .int .i64 0, .int .i64 0, .int .i64 0, .int .i64 0, .int .i64 0, .int .i64 0, .int .i64 0, .bool false, .bool false]⟩),
  (119, ⟨.struct [(0, 3), (1, 88), (8, 3), (9, 3), (10, 112)], 23, 0, T_Note, [.int .i64 0, .int .i64 0, .int .i64 0, .int .i64 0, .int .i64 0, .int .i64 0, .int .i64 0, .bool false, .int .i64 0, .int .i64 0, .int .i64 0, .int .i64 0, .int .i64 0, .int .i64 0, .int .i64 0, .int .i64 0, .int .i64 0, .int .i64 0, .int .i64 0, .int .i64 0, .int .i64 0, .bool false, .bool false]⟩),
  (120, ⟨.other, 1, 0, .unit, [.undef]⟩),
  (121, ⟨.other, 1, 0, .unit, [.undef]⟩),
  (122, ⟨.other, 1, 0, .unit, [.undef]⟩),
  (123, ⟨.other, 1, 0, .unit, [.undef]⟩),
  (124, ⟨.other, 1, 0, .unit, [.undef]⟩),
  (125, ⟨.other, 1, 0, .unit, [.undef]⟩),
  (126, ⟨.other, 1, 0, .unit, [.undef]⟩),
  (127, ⟨.other, 1, 0, .unit, [.undef]⟩),
  (128, ⟨.other, 1, 0, .unit, [.undef]⟩),
  (129, ⟨.other, 1, 0, .unit, [.undef]⟩),
  (130, ⟨.other, 1, 0, .unit, [.undef]⟩),
  (131, ⟨.other, 1, 0, .unit, [.undef]⟩),
  (132, ⟨.other, 1, 0, .unit, [.undef]⟩),
  (133, ⟨.other, 1, 0, .unit, [.undef]⟩),
  (134, ⟨.other, 1, 0, .unit, [.undef]⟩),
  (135, ⟨.other, 1, 0, .unit, [.undef]⟩),
  (136, ⟨.other, 1, 0, .unit, [.undef]⟩),
  (137, ⟨.other, 1, 0, .unit, [.undef]⟩),
  (138, ⟨.other, 1, 0, .unit, [.undef]⟩),
  (139, ⟨.other, 1, 0, .unit, [.undef]⟩),
  (140, ⟨.other, 1, 0, .unit, [.undef]⟩),
  (141, ⟨.struct [(0, 3), (1, 3), (2, 4)], 3, 0, T_Side, [.int .i64 0, .int .i64 0, .bool false]⟩),
  (142, ⟨.other, 1, 0, .unit, [.undef]⟩),
  (143, ⟨.other, 1, 0, .unit, [.undef]⟩),
  (144, ⟨.other, 1, 0, .unit, [.undef]⟩),
  (145, ⟨.other, 1, 0, .unit, [.undef]⟩),
  (146, ⟨.other, 1, 0, .unit, [.undef]⟩),
  (147, ⟨.other, 1, 0, .unit, [.undef]⟩),
  (148, ⟨.other, 1, 0, .unit, [.undef]⟩),
  (149, ⟨.other, 1, 0, .unit, [.undef]⟩),
  (150, ⟨.other, 1, 0, .unit, [.undef]⟩),
  (151, ⟨.other, 1, 0, .unit, [.undef]⟩),
  (152, ⟨.other, 1, 0, .unit, [.undef]⟩),
  (153, ⟨.other, 1, 0, .unit, [.undef]⟩),
  (154, ⟨.other, 1, 0, .unit, [.undef]⟩),
  (155, ⟨.other, 1, 0, .unit, [.undef]⟩),
  (156, ⟨.other, 1, 0, .unit, [.undef]⟩),
  (162, ⟨.other, 1, 0, .unit, [.undef]⟩),
  (163, ⟨.int .u32, 1, 0, (.int .u32), [.int .u32 0]⟩),
  (164, ⟨.int .u8, 1, 0, (.int .u8), [.int .u8 0]⟩),
  (165, ⟨.int .u8, 1, 0, (.int .u8), [.int .u8 0]⟩),
  (166, ⟨.other, 1, 0, .unit, [.undef]⟩),
  (167, ⟨.other, 1, 0, .unit, [.undef]⟩),
  (168, ⟨.int .i32, 1, 0, (.int .i32), [.int .i32 0]⟩),
  (169, ⟨.int .i32, 1, 0, (.int .i32), [.int .i32 0]⟩)]
theorem tabOk : TabOk Tryz.prog tab := tabB_ok (by kernel_rfl)
theorem mixed : Tryz.prog.follows .mixedOrders = true := by kernel_rfl
/-! loop.example/g00486/laws.szPieceS -/
def laws_szPieceS (a0 : (List T_Piece.D)) (a1 : Int) : Option Int :=
 bif decide ((IntKind.wrap .i64 (a1 - (a0.length : Int))) < 0) then (
 some (-1))
 else (
 some (IntKind.wrap .i64 (a1 - (a0.length : Int))))
def laws_szPieceS_c : Ct := .pure true false (.pair (.slice T_Piece) (.pair (.int .i64) .unit)) (.int .i64) (fun x => laws_szPieceS x.1 x.2.1)
theorem laws_szPieceS_ct : CtOk Tryz.prog 35 laws_szPieceS_c := pure_ct (E := { T := tab, G := [] }) (EnvOk.nil tabOk) mixed (fn := Tryz.f35) _ _ _ _ _ .none Tryz.func35 (by kernel_rfl) (fun x => by kernel_rfl)
/-! loop.example/g00486/laws.szSideS -/
def laws_szSideS (a0 : (List T_Side.D)) (a1 : Int) : Option Int :=
 bif decide ((IntKind.wrap .i64 (a1 - (a0.length : Int))) < 0) then (
 some (-1))
 else (
 some (IntKind.wrap .i64 (a1 - (a0.length : Int))))
def laws_szSideS_c : Ct := .pure true false (.pair (.slice T_Side) (.pair (.int .i64) .unit)) (.int .i64) (fun x => laws_szSideS x.1 x.2.1)
theorem laws_szSideS_ct : CtOk Tryz.prog 36 laws_szSideS_c := pure_ct (E := { T := tab, G := [] }) (EnvOk.nil tabOk) mixed (fn := Tryz.f36) _ _ _ _ _ .none Tryz.func36 (by kernel_rfl) (fun x => by kernel_rfl)
/-! loop.example/g00486/laws.szState -/
def laws_szState (a0 : T_State.D) (a1 : Int) : Option Int :=
(laws_szPieceS a0.1 a1).bind fun y1 =>
 bif decide (y1 < 0) then (
 some (-1))
 else (
(laws_szSideS a0.2.1 y1).bind fun y2 =>
 bif decide (y2 < 0) then (
 some (-1))
 else (
 some y2))
def laws_szState_c : Ct := .pure true false (.pair T_State (.pair (.int .i64) .unit)) (.int .i64) (fun x => laws_szState x.1 x.2.1)
theorem laws_szState_ct : CtOk Tryz.prog 9 laws_szState_c := pure_ct (E := { T := tab, G := [(35, laws_szPieceS_c), (36, laws_szSideS_c)] }) (EnvOk.cons laws_szPieceS_ct (EnvOk.cons laws_szSideS_ct (EnvOk.nil tabOk))) mixed (fn := Tryz.f9) _ _ _ _ _ .none Tryz.func9 (by kernel_rfl) (fun x => by kernel_rfl)
/-! loop.example/g00486/laws.szEventS -/
def laws_szEventS (a0 : (List T_Event.D)) (a1 : Int) : Option Int :=
 bif decide ((IntKind.wrap .i64 (a1 - (a0.length : Int))) < 0) then (
 some (-1))
 else (
 some (IntKind.wrap .i64 (a1 - (a0.length : Int))))
def laws_szEventS_c : Ct := .pure true false (.pair (.slice T_Event) (.pair (.int .i64) .unit)) (.int .i64) (fun x => laws_szEventS x.1 x.2.1)
theorem laws_szEventS_ct : CtOk Tryz.prog 72 laws_szEventS_c := pure_ct (E := { T := tab, G := [] }) (EnvOk.nil tabOk) mixed (fn := Tryz.f72) _ _ _ _ _ .none Tryz.func72 (by kernel_rfl) (fun x => by kernel_rfl)
/-! loop.example/g00486/laws.szAct -/
def laws_szAct (a0 : T_Act.D) (a1 : Int) : Option Int :=
(laws_szEventS a0.2.2.2.2.2.2.1 a1).bind fun y1 =>
 bif decide (y1 < 0) then (
 some (-1))
 else (
 some y1)
def laws_szAct_c : Ct := .pure true false (.pair T_Act (.pair (.int .i64) .unit)) (.int .i64) (fun x => laws_szAct x.1 x.2.1)
theorem laws_szAct_ct : CtOk Tryz.prog 71 laws_szAct_c := pure_ct (E := { T := tab, G := [(72, laws_szEventS_c)] }) (EnvOk.cons laws_szEventS_ct (EnvOk.nil tabOk)) mixed (fn := Tryz.f71) _ _ _ _ _ .none Tryz.func71 (by kernel_rfl) (fun x => by kernel_rfl)
/-! loop.example/g00486/laws.szEffect -/
def laws_szEffect (a0 : T_Effect.D) (a1 : Int) : Option Int :=
(laws_szAct a0.2.2.2.2.2.2.1 a1).bind fun y1 =>
 bif decide (y1 < 0) then (
 some (-1))
 else (
 some y1)
def laws_szEffect_c : Ct := .pure true false (.pair T_Effect (.pair (.int .i64) .unit)) (.int .i64) (fun x => laws_szEffect x.1 x.2.1)
theorem laws_szEffect_ct : CtOk Tryz.prog 37 laws_szEffect_c := pure_ct (E := { T := tab, G := [(71, laws_szAct_c)] }) (EnvOk.cons laws_szAct_ct (EnvOk.nil tabOk)) mixed (fn := Tryz.f37) _ _ _ _ _ .none Tryz.func37 (by kernel_rfl) (fun x => by kernel_rfl)
/-! loop.example/g00486/laws.szEffectS -/
def laws_szEffectS_l1 (a0 : (List T_Effect.D)) : (Int × Int) → Option ((Int × Int) ⊕ ((Int × Int) ⊕ Int)) := fun s1 =>
 bif decide (s1.2 < (a0.length : Int)) then (
 idx a0 s1.2 fun x2 =>
(laws_szEffect x2 s1.1).bind fun y3 =>
 bif decide (y3 < 0) then (
 some (.inr (.inr (-1))))
 else (
 some (.inl (y3, IntKind.wrap .i64 (s1.2 + 1)))))
 else (
 some (.inr (.inl s1)))
def laws_szEffectS (a0 : (List T_Effect.D)) (a1 : Int) : Option Int :=
 bif decide ((IntKind.wrap .i64 (a1 - (a0.length : Int))) < 0) then (
 some (-1))
 else (
(while_ (laws_szEffectS_l1 a0) (IntKind.wrap .i64 (a1 - (a0.length : Int)), 0)).bind fun o4 =>
 match o4 with
| .inl s5 => (
 some s5.1)
| .inr o6 => (
 some o6))
def laws_szEffectS_h : Hints := (.node none none .none (.node none none .none (.node none none .none (.node none none (.node none none .none (.node none none (.node none (some ⟨[.tmp 1 (.int .i64), .tmp 5 (.int .i64)], [some 0], some [.tmp 4 (.int .i64)], []⟩) .none .none) .none)) .none))))
def laws_szEffectS_c : Ct := .pure true false (.pair (.slice T_Effect) (.pair (.int .i64) .unit)) (.int .i64) (fun x => laws_szEffectS x.1 x.2.1)
theorem laws_szEffectS_ct : CtOk Tryz.prog 10 laws_szEffectS_c := pure_ct (E := { T := tab, G := [(37, laws_szEffect_c)] }) (EnvOk.cons laws_szEffect_ct (EnvOk.nil tabOk)) mixed (fn := Tryz.f10) _ _ _ _ _ laws_szEffectS_h Tryz.func10 (by kernel_rfl) (fun x => by kernel_rfl)
/-! loop.example/g00486/laws.szIntS -/
def laws_szIntS (a0 : (List Int)) (a1 : Int) : Option Int :=
 bif decide ((IntKind.wrap .i64 (a1 - (a0.length : Int))) < 0) then (
 some (-1))
 else (
 some (IntKind.wrap .i64 (a1 - (a0.length : Int))))
def laws_szIntS_c : Ct := .pure true false (.pair (.slice (.int .i64)) (.pair (.int .i64) .unit)) (.int .i64) (fun x => laws_szIntS x.1 x.2.1)
theorem laws_szIntS_ct : CtOk Tryz.prog 11 laws_szIntS_c := pure_ct (E := { T := tab, G := [] }) (EnvOk.nil tabOk) mixed (fn := Tryz.f11) _ _ _ _ _ .none Tryz.func11 (by kernel_rfl) (fun x => by kernel_rfl)
/-! loop.example/g00486/laws.szTriggerS -/
def laws_szTriggerS (a0 : (List T_Trigger.D)) (a1 : Int) : Option Int :=
 bif decide ((IntKind.wrap .i64 (a1 - (a0.length : Int))) < 0) then (
 some (-1))
 else (
 some (IntKind.wrap .i64 (a1 - (a0.length : Int))))
def laws_szTriggerS_c : Ct := .pure true false (.pair (.slice T_Trigger) (.pair (.int .i64) .unit)) (.int .i64) (fun x => laws_szTriggerS x.1 x.2.1)
theorem laws_szTriggerS_ct : CtOk Tryz.prog 12 laws_szTriggerS_c := pure_ct (E := { T := tab, G := [] }) (EnvOk.nil tabOk) mixed (fn := Tryz.f12) _ _ _ _ _ .none Tryz.func12 (by kernel_rfl) (fun x => by kernel_rfl)
/-! loop.example/g00486/laws.szNoteS -/
def laws_szNoteS (a0 : (List T_Note.D)) (a1 : Int) : Option Int :=
 bif decide ((IntKind.wrap .i64 (a1 - (a0.length : Int))) < 0) then (
 some (-1))
 else (
 some (IntKind.wrap .i64 (a1 - (a0.length : Int))))
def laws_szNoteS_c : Ct := .pure true false (.pair (.slice T_Note) (.pair (.int .i64) .unit)) (.int .i64) (fun x => laws_szNoteS x.1 x.2.1)
theorem laws_szNoteS_ct : CtOk Tryz.prog 13 laws_szNoteS_c := pure_ct (E := { T := tab, G := [] }) (EnvOk.nil tabOk) mixed (fn := Tryz.f13) _ _ _ _ _ .none Tryz.func13 (by kernel_rfl) (fun x => by kernel_rfl)
/-! loop.example/g00486/laws.szTurn -/
def laws_szTurn (a0 : T_Turn.D) (a1 : Int) : Option Int :=
(laws_szEventS a0.2.2.2.2.2.1 a1).bind fun y1 =>
 bif decide (y1 < 0) then (
 some (-1))
 else (
 some y1)
def laws_szTurn_c : Ct := .pure true false (.pair T_Turn (.pair (.int .i64) .unit)) (.int .i64) (fun x => laws_szTurn x.1 x.2.1)
theorem laws_szTurn_ct : CtOk Tryz.prog 38 laws_szTurn_c := pure_ct (E := { T := tab, G := [(72, laws_szEventS_c)] }) (EnvOk.cons laws_szEventS_ct (EnvOk.nil tabOk)) mixed (fn := Tryz.f38) _ _ _ _ _ .none Tryz.func38 (by kernel_rfl) (fun x => by kernel_rfl)
/-! loop.example/g00486/laws.szTurnS -/
def laws_szTurnS_l1 (a0 : (List T_Turn.D)) : (Int × Int) → Option ((Int × Int) ⊕ ((Int × Int) ⊕ Int)) := fun s1 =>
 bif decide (s1.2 < (a0.length : Int)) then (
 idx a0 s1.2 fun x2 =>
(laws_szTurn x2 s1.1).bind fun y3 =>
 bif decide (y3 < 0) then (
 some (.inr (.inr (-1))))
 else (
 some (.inl (y3, IntKind.wrap .i64 (s1.2 + 1)))))
 else (
 some (.inr (.inl s1)))
def laws_szTurnS (a0 : (List T_Turn.D)) (a1 : Int) : Option Int :=
 bif decide ((IntKind.wrap .i64 (a1 - (a0.length : Int))) < 0) then (
 some (-1))
 else (
(while_ (laws_szTurnS_l1 a0) (IntKind.wrap .i64 (a1 - (a0.length : Int)), 0)).bind fun o4 =>
 match o4 with
| .inl s5 => (
 some s5.1)
| .inr o6 => (
 some o6))
def laws_szTurnS_h : Hints := (.node none none .none (.node none none .none (.node none none .none (.node none none (.node none none .none (.node none none (.node none (some ⟨[.tmp 1 (.int .i64), .tmp 5 (.int .i64)], [some 0], some [.tmp 4 (.int .i64)], []⟩) .none .none) .none)) .none))))
def laws_szTurnS_c : Ct := .pure true false (.pair (.slice T_Turn) (.pair (.int .i64) .unit)) (.int .i64) (fun x => laws_szTurnS x.1 x.2.1)
theorem laws_szTurnS_ct : CtOk Tryz.prog 14 laws_szTurnS_c := pure_ct (E := { T := tab, G := [(38, laws_szTurn_c)] }) (EnvOk.cons laws_szTurn_ct (EnvOk.nil tabOk)) mixed (fn := Tryz.f14) _ _ _ _ _ laws_szTurnS_h Tryz.func14 (by kernel_rfl) (fun x => by kernel_rfl)
/-! loop.example/g00486/laws.szGame -/
def laws_szGame (a0 : T_Game.D) (a1 : Int) : Option Int :=
(laws_szState a0.1 a1).bind fun y1 =>
 bif decide (y1 < 0) then (
 some (-1))
 else (
(laws_szEffectS a0.2.1 y1).bind fun y2 =>
 bif decide (y2 < 0) then (
 some (-1))
 else (
(laws_szIntS a0.2.2.1 y2).bind fun y3 =>
 bif decide (y3 < 0) then (
 some (-1))
 else (
(laws_szTriggerS a0.2.2.2.1 y3).bind fun y4 =>
 bif decide (y4 < 0) then (
 some (-1))
 else (
(laws_szNoteS a0.2.2.2.2.1 y4).bind fun y5 =>
 bif decide (y5 < 0) then (
 some (-1))
 else (
(laws_szTurnS a0.2.2.2.2.2.1 y5).bind fun y6 =>
 bif decide (y6 < 0) then (
 some (-1))
 else (
 some y6))))))
def laws_szGame_c : Ct := .pure true false (.pair T_Game (.pair (.int .i64) .unit)) (.int .i64) (fun x => laws_szGame x.1 x.2.1)
theorem laws_szGame_ct : CtOk Tryz.prog 4 laws_szGame_c := pure_ct (E := { T := tab, G := [(9, laws_szState_c), (10, laws_szEffectS_c), (11, laws_szIntS_c), (12, laws_szTriggerS_c), (13, laws_szNoteS_c), (14, laws_szTurnS_c)] }) (EnvOk.cons laws_szState_ct (EnvOk.cons laws_szEffectS_ct (EnvOk.cons laws_szIntS_ct (EnvOk.cons laws_szTriggerS_ct (EnvOk.cons laws_szNoteS_ct (EnvOk.cons laws_szTurnS_ct (EnvOk.nil tabOk))))))) mixed (fn := Tryz.f4) _ _ _ _ _ .none Tryz.func4 (by kernel_rfl) (fun x => by kernel_rfl)
/-! loop.example/g00486/laws.toPiece -/
def laws_toPiece (a0 : T_Piece.D) : Option T_Piece.D :=
 some a0
def laws_toPiece_c : Ct := .pure true false (.pair T_Piece .unit) T_Piece (fun x => laws_toPiece x.1)
theorem laws_toPiece_ct : CtOk Tryz.prog 77 laws_toPiece_c := pure_ct (E := { T := tab, G := [] }) (EnvOk.nil tabOk) mixed (fn := Tryz.f77) _ _ _ _ _ .none Tryz.func77 (by kernel_rfl) (fun x => by kernel_rfl)
/-! loop.example/g00486/laws.toPieceS -/
def laws_toPieceS_l1 (a0 : (List T_Piece.D)) : ((List T_Piece.D) × Int) → Option (((List T_Piece.D) × Int) ⊕ ((List T_Piece.D) × Int)) := fun s2 =>
 bif decide (s2.2 < (a0.length : Int)) then (
 idx a0 s2.2 fun x3 =>
(laws_toPiece x3).bind fun y4 =>
 idx s2.1 s2.2 fun _ =>
(s2.1[(s2.2 : Int).toNat]?).bind fun x5 =>
 let u6 : (List T_Piece.D) := s2.1.set (s2.2 : Int).toNat y4
 some (.inl (u6, IntKind.wrap .i64 (s2.2 + 1))))
 else (
 some (.inr s2))
def laws_toPieceS (a0 : (List T_Piece.D)) : Option (List T_Piece.D) :=
 if 0 ≤ (a0.length : Int) then (if ((a0.length : Int)).toNat * (24 * 13) ≤ room then (
(while_ (laws_toPieceS_l1 a0) ((List.replicate ((a0.length : Int)).toNat (0, 0, 0, 0, 0, 0, 0, 0, 0, 0, 0, false, false, ())), 0)).bind fun o7 =>
 some o7.1) else none) else none
def laws_toPieceS_h : Hints := (.node none none .none (.node none none .none (.node none none (.node none none .none (.node none none (.node none (some ⟨[.tmpO 3 0 (.slice T_Piece), .tmp 4 (.int .i64)], [some 0], none, []⟩) .none .none) .none)) .none)))
def laws_toPieceS_c : Ct := .pure true false (.pair (.slice T_Piece) .unit) (.slice T_Piece) (fun x => laws_toPieceS x.1)
theorem laws_toPieceS_ct : CtOk Tryz.prog 44 laws_toPieceS_c := pure_ct (E := { T := tab, G := [(77, laws_toPiece_c)] }) (EnvOk.cons laws_toPiece_ct (EnvOk.nil tabOk)) mixed (fn := Tryz.f44) _ _ _ _ _ laws_toPieceS_h Tryz.func44 (by kernel_rfl) (fun x => by kernel_rfl)
def laws_toPieceS_fresh_c : Ct := .pure true true (.pair (.slice T_Piece) .unit) (.slice T_Piece) (fun x => laws_toPieceS x.1)
theorem laws_toPieceS_fresh_ct : CtOk Tryz.prog 44 laws_toPieceS_fresh_c := pure_ct (E := { T := tab, G := [(77, laws_toPiece_c)] }) (EnvOk.cons laws_toPiece_ct (EnvOk.nil tabOk)) mixed (fn := Tryz.f44) _ _ _ _ _ laws_toPieceS_h Tryz.func44 (by kernel_rfl) (fun x => by kernel_rfl)
/-! loop.example/g00486/laws.toSide -/
def laws_toSide (a0 : T_Side.D) : Option T_Side.D :=
 some a0
def laws_toSide_c : Ct := .pure true false (.pair T_Side .unit) T_Side (fun x => laws_toSide x.1)
theorem laws_toSide_ct : CtOk Tryz.prog 78 laws_toSide_c := pure_ct (E := { T := tab, G := [] }) (EnvOk.nil tabOk) mixed (fn := Tryz.f78) _ _ _ _ _ .none Tryz.func78 (by kernel_rfl) (fun x => by kernel_rfl)
/-! loop.example/g00486/laws.toSideS -/
def laws_toSideS_l1 (a0 : (List T_Side.D)) : ((List T_Side.D) × Int) → Option (((List T_Side.D) × Int) ⊕ ((List T_Side.D) × Int)) := fun s2 =>
 bif decide (s2.2 < (a0.length : Int)) then (
 idx a0 s2.2 fun x3 =>
(laws_toSide x3).bind fun y4 =>
 idx s2.1 s2.2 fun _ =>
(s2.1[(s2.2 : Int).toNat]?).bind fun x5 =>
 let u6 : (List T_Side.D) := s2.1.set (s2.2 : Int).toNat y4
 some (.inl (u6, IntKind.wrap .i64 (s2.2 + 1))))
 else (
 some (.inr s2))
def laws_toSideS (a0 : (List T_Side.D)) : Option (List T_Side.D) :=
 if 0 ≤ (a0.length : Int) then (if ((a0.length : Int)).toNat * (24 * 3) ≤ room then (
(while_ (laws_toSideS_l1 a0) ((List.replicate ((a0.length : Int)).toNat (0, 0, false, ())), 0)).bind fun o7 =>
 some o7.1) else none) else none
def laws_toSideS_h : Hints := (.node none none .none (.node none none .none (.node none none (.node none none .none (.node none none (.node none (some ⟨[.tmpO 3 0 (.slice T_Side), .tmp 4 (.int .i64)], [some 0], none, []⟩) .none .none) .none)) .none)))
def laws_toSideS_c : Ct := .pure true false (.pair (.slice T_Side) .unit) (.slice T_Side) (fun x => laws_toSideS x.1)
theorem laws_toSideS_ct : CtOk Tryz.prog 45 laws_toSideS_c := pure_ct (E := { T := tab, G := [(78, laws_toSide_c)] }) (EnvOk.cons laws_toSide_ct (EnvOk.nil tabOk)) mixed (fn := Tryz.f45) _ _ _ _ _ laws_toSideS_h Tryz.func45 (by kernel_rfl) (fun x => by kernel_rfl)
def laws_toSideS_fresh_c : Ct := .pure true true (.pair (.slice T_Side) .unit) (.slice T_Side) (fun x => laws_toSideS x.1)
theorem laws_toSideS_fresh_ct : CtOk Tryz.prog 45 laws_toSideS_fresh_c := pure_ct (E := { T := tab, G := [(78, laws_toSide_c)] }) (EnvOk.cons laws_toSide_ct (EnvOk.nil tabOk)) mixed (fn := Tryz.f45) _ _ _ _ _ laws_toSideS_h Tryz.func45 (by kernel_rfl) (fun x => by kernel_rfl)
/-! loop.example/g00486/laws.toState -/
def laws_toState (a0 : T_State.D) : Option T_State.D :=
(laws_toPieceS a0.1).bind fun y1 =>
(laws_toSideS a0.2.1).bind fun y2 =>
 some (y1, y2, a0.2.2)
def laws_toState_c : Ct := .pure true false (.pair T_State .unit) T_State (fun x => laws_toState x.1)
theorem laws_toState_ct : CtOk Tryz.prog 18 laws_toState_c := pure_ct (E := { T := tab, G := [(44, laws_toPieceS_fresh_c), (45, laws_toSideS_fresh_c)] }) (EnvOk.cons laws_toPieceS_fresh_ct (EnvOk.cons laws_toSideS_fresh_ct (EnvOk.nil tabOk))) mixed (fn := Tryz.f18) _ _ _ _ _ .none Tryz.func18 (by kernel_rfl) (fun x => by kernel_rfl)
def laws_toState_fresh_c : Ct := .pure true true (.pair T_State .unit) T_State (fun x => laws_toState x.1)
theorem laws_toState_fresh_ct : CtOk Tryz.prog 18 laws_toState_fresh_c := pure_ct (E := { T := tab, G := [(44, laws_toPieceS_fresh_c), (45, laws_toSideS_fresh_c)] }) (EnvOk.cons laws_toPieceS_fresh_ct (EnvOk.cons laws_toSideS_fresh_ct (EnvOk.nil tabOk))) mixed (fn := Tryz.f18) _ _ _ _ _ .none Tryz.func18 (by kernel_rfl) (fun x => by kernel_rfl)
/-! loop.example/g00486/laws.toPat -/
def laws_toPat (a0 : T_Pat.D) : Option T_Pat.D :=
 some a0
def laws_toPat_c : Ct := .pure true false (.pair T_Pat .unit) T_Pat (fun x => laws_toPat x.1)
theorem laws_toPat_ct : CtOk Tryz.prog 79 laws_toPat_c := pure_ct (E := { T := tab, G := [] }) (EnvOk.nil tabOk) mixed (fn := Tryz.f79) _ _ _ _ _ .none Tryz.func79 (by kernel_rfl) (fun x => by kernel_rfl)
/-! loop.example/g00486/laws.toGuard -/
def laws_toGuard (a0 : T_Guard.D) : Option T_Guard.D :=
 some a0
def laws_toGuard_c : Ct := .pure true false (.pair T_Guard .unit) T_Guard (fun x => laws_toGuard x.1)
theorem laws_toGuard_ct : CtOk Tryz.prog 80 laws_toGuard_c := pure_ct (E := { T := tab, G := [] }) (EnvOk.nil tabOk) mixed (fn := Tryz.f80) _ _ _ _ _ .none Tryz.func80 (by kernel_rfl) (fun x => by kernel_rfl)
/-! loop.example/g00486/laws.toEvent -/
def laws_toEvent (a0 : T_Event.D) : Option T_Event.D :=
 some a0
def laws_toEvent_c : Ct := .pure true false (.pair T_Event .unit) T_Event (fun x => laws_toEvent x.1)
theorem laws_toEvent_ct : CtOk Tryz.prog 82 laws_toEvent_c := pure_ct (E := { T := tab, G := [] }) (EnvOk.nil tabOk) mixed (fn := Tryz.f82) _ _ _ _ _ .none Tryz.func82 (by kernel_rfl) (fun x => by kernel_rfl)
/-! loop.example/g00486/laws.toEventS -/
def laws_toEventS_l1 (a0 : (List T_Event.D)) : ((List T_Event.D) × Int) → Option (((List T_Event.D) × Int) ⊕ ((List T_Event.D) × Int)) := fun s2 =>
 bif decide (s2.2 < (a0.length : Int)) then (
 idx a0 s2.2 fun x3 =>
(laws_toEvent x3).bind fun y4 =>
 idx s2.1 s2.2 fun _ =>
(s2.1[(s2.2 : Int).toNat]?).bind fun x5 =>
 let u6 : (List T_Event.D) := s2.1.set (s2.2 : Int).toNat y4
 some (.inl (u6, IntKind.wrap .i64 (s2.2 + 1))))
 else (
 some (.inr s2))
def laws_toEventS (a0 : (List T_Event.D)) : Option (List T_Event.D) :=
 if 0 ≤ (a0.length : Int) then (if ((a0.length : Int)).toNat * (24 * 7) ≤ room then (
(while_ (laws_toEventS_l1 a0) ((List.replicate ((a0.length : Int)).toNat (0, 0, 0, 0, 0, 0, false, ())), 0)).bind fun o7 =>
 some o7.1) else none) else none
def laws_toEventS_h : Hints := (.node none none .none (.node none none .none (.node none none (.node none none .none (.node none none (.node none (some ⟨[.tmpO 3 0 (.slice T_Event), .tmp 4 (.int .i64)], [some 0], none, []⟩) .none .none) .none)) .none)))
def laws_toEventS_c : Ct := .pure true false (.pair (.slice T_Event) .unit) (.slice T_Event) (fun x => laws_toEventS x.1)
theorem laws_toEventS_ct : CtOk Tryz.prog 83 laws_toEventS_c := pure_ct (E := { T := tab, G := [(82, laws_toEvent_c)] }) (EnvOk.cons laws_toEvent_ct (EnvOk.nil tabOk)) mixed (fn := Tryz.f83) _ _ _ _ _ laws_toEventS_h Tryz.func83 (by kernel_rfl) (fun x => by kernel_rfl)
def laws_toEventS_fresh_c : Ct := .pure true true (.pair (.slice T_Event) .unit) (.slice T_Event) (fun x => laws_toEventS x.1)
theorem laws_toEventS_fresh_ct : CtOk Tryz.prog 83 laws_toEventS_fresh_c := pure_ct (E := { T := tab, G := [(82, laws_toEvent_c)] }) (EnvOk.cons laws_toEvent_ct (EnvOk.nil tabOk)) mixed (fn := Tryz.f83) _ _ _ _ _ laws_toEventS_h Tryz.func83 (by kernel_rfl) (fun x => by kernel_rfl)
/-! loop.example/g00486/laws.toAct -/
def laws_toAct (a0 : T_Act.D) : Option T_Act.D :=
(laws_toEventS a0.2.2.2.2.2.2.1).bind fun y1 =>
 some (a0.1, a0.2.1, a0.2.2.1, a0.2.2.2.1, a0.2.2.2.2.1, a0.2.2.2.2.2.1, y1, ())
def laws_toAct_c : Ct := .pure true false (.pair T_Act .unit) T_Act (fun x => laws_toAct x.1)
theorem laws_toAct_ct : CtOk Tryz.prog 81 laws_toAct_c := pure_ct (E := { T := tab, G := [(83, laws_toEventS_fresh_c)] }) (EnvOk.cons laws_toEventS_fresh_ct (EnvOk.nil tabOk)) mixed (fn := Tryz.f81) _ _ _ _ _ .none Tryz.func81 (by kernel_rfl) (fun x => by kernel_rfl)
def laws_toAct_fresh_c : Ct := .pure true true (.pair T_Act .unit) T_Act (fun x => laws_toAct x.1)
theorem laws_toAct_fresh_ct : CtOk Tryz.prog 81 laws_toAct_fresh_c := pure_ct (E := { T := tab, G := [(83, laws_toEventS_fresh_c)] }) (EnvOk.cons laws_toEventS_fresh_ct (EnvOk.nil tabOk)) mixed (fn := Tryz.f81) _ _ _ _ _ .none Tryz.func81 (by kernel_rfl) (fun x => by kernel_rfl)
/-! loop.example/g00486/laws.toEffect -/
def laws_toEffect (a0 : T_Effect.D) : Option T_Effect.D :=
(laws_toPat a0.2.2.2.2.1).bind fun y1 =>
(laws_toGuard a0.2.2.2.2.2.1).bind fun y2 =>
(laws_toAct a0.2.2.2.2.2.2.1).bind fun y3 =>
 some (a0.1, a0.2.1, a0.2.2.1, a0.2.2.2.1, y1, y2, y3, a0.2.2.2.2.2.2.2)
def laws_toEffect_c : Ct := .pure true false (.pair T_Effect .unit) T_Effect (fun x => laws_toEffect x.1)
theorem laws_toEffect_ct : CtOk Tryz.prog 46 laws_toEffect_c := pure_ct (E := { T := tab, G := [(79, laws_toPat_c), (80, laws_toGuard_c), (81, laws_toAct_fresh_c)] }) (EnvOk.cons laws_toPat_ct (EnvOk.cons laws_toGuard_ct (EnvOk.cons laws_toAct_fresh_ct (EnvOk.nil tabOk)))) mixed (fn := Tryz.f46) _ _ _ _ _ .none Tryz.func46 (by kernel_rfl) (fun x => by kernel_rfl)
def laws_toEffect_fresh_c : Ct := .pure true true (.pair T_Effect .unit) T_Effect (fun x => laws_toEffect x.1)
theorem laws_toEffect_fresh_ct : CtOk Tryz.prog 46 laws_toEffect_fresh_c := pure_ct (E := { T := tab, G := [(79, laws_toPat_c), (80, laws_toGuard_c), (81, laws_toAct_fresh_c)] }) (EnvOk.cons laws_toPat_ct (EnvOk.cons laws_toGuard_ct (EnvOk.cons laws_toAct_fresh_ct (EnvOk.nil tabOk)))) mixed (fn := Tryz.f46) _ _ _ _ _ .none Tryz.func46 (by kernel_rfl) (fun x => by kernel_rfl)
/-! loop.example/g00486/laws.toEffectS -/
def laws_toEffectS_l1 (a0 : (List T_Effect.D)) : ((List T_Effect.D) × Int) → Option (((List T_Effect.D) × Int) ⊕ ((List T_Effect.D) × Int)) := fun s2 =>
 bif decide (s2.2 < (a0.length : Int)) then (
 idx a0 s2.2 fun x3 =>
(laws_toEffect x3).bind fun y4 =>
 idx s2.1 s2.2 fun _ =>
(s2.1[(s2.2 : Int).toNat]?).bind fun x5 =>
 let u6 : (List T_Effect.D) := s2.1.set (s2.2 : Int).toNat y4
 some (.inl (u6, IntKind.wrap .i64 (s2.2 + 1))))
 else (
 some (.inr s2))
def laws_toEffectS (a0 : (List T_Effect.D)) : Option (List T_Effect.D) :=
 if 0 ≤ (a0.length : Int) then (if ((a0.length : Int)).toNat * (24 * 22) ≤ room then (
(while_ (laws_toEffectS_l1 a0) ((List.replicate ((a0.length : Int)).toNat (0, 0, 0, 0, (0, 0, 0, 0, 0, 0, 0, ()), (0, 0, ()), (0, 0, 0, 0, 0, false, [], ()), 0, 0, ())), 0)).bind fun o7 =>
 some o7.1) else none) else none
def laws_toEffectS_h : Hints := (.node none none .none (.node none none .none (.node none none (.node none none .none (.node none none (.node none (some ⟨[.tmpO 3 0 (.slice T_Effect), .tmp 4 (.int .i64)], [some 0], none, []⟩) .none .none) .none)) .none)))
def laws_toEffectS_c : Ct := .pure true false (.pair (.slice T_Effect) .unit) (.slice T_Effect) (fun x => laws_toEffectS x.1)
theorem laws_toEffectS_ct : CtOk Tryz.prog 19 laws_toEffectS_c := pure_ct (E := { T := tab, G := [(46, laws_toEffect_fresh_c)] }) (EnvOk.cons laws_toEffect_fresh_ct (EnvOk.nil tabOk)) mixed (fn := Tryz.f19) _ _ _ _ _ laws_toEffectS_h Tryz.func19 (by kernel_rfl) (fun x => by kernel_rfl)
def laws_toEffectS_fresh_c : Ct := .pure true true (.pair (.slice T_Effect) .unit) (.slice T_Effect) (fun x => laws_toEffectS x.1)
theorem laws_toEffectS_fresh_ct : CtOk Tryz.prog 19 laws_toEffectS_fresh_c := pure_ct (E := { T := tab, G := [(46, laws_toEffect_fresh_c)] }) (EnvOk.cons laws_toEffect_fresh_ct (EnvOk.nil tabOk)) mixed (fn := Tryz.f19) _ _ _ _ _ laws_toEffectS_h Tryz.func19 (by kernel_rfl) (fun x => by kernel_rfl)
/-! loop.example/g00486/laws.toIntS -/
def laws_toIntS_l1 (a0 : (List Int)) : ((List Int) × Int) → Option (((List Int) × Int) ⊕ ((List Int) × Int)) := fun s2 =>
 bif decide (s2.2 < (a0.length : Int)) then (
 idx a0 s2.2 fun x3 =>
 idx s2.1 s2.2 fun _ =>
(s2.1[(s2.2 : Int).toNat]?).bind fun x4 =>
 let u5 : (List Int) := s2.1.set (s2.2 : Int).toNat x3
 some (.inl (u5, IntKind.wrap .i64 (s2.2 + 1))))
 else (
 some (.inr s2))
def laws_toIntS (a0 : (List Int)) : Option (List Int) :=
 if 0 ≤ (a0.length : Int) then (if ((a0.length : Int)).toNat * (24 * 1) ≤ room then (
(while_ (laws_toIntS_l1 a0) ((List.replicate ((a0.length : Int)).toNat 0), 0)).bind fun o6 =>
 some o6.1) else none) else none
def laws_toIntS_h : Hints := (.node none none .none (.node none none .none (.node none none (.node none none .none (.node none none (.node none (some ⟨[.tmpO 3 0 (.slice (.int .i64)), .tmp 4 (.int .i64)], [some 0], none, []⟩) .none .none) .none)) .none)))
def laws_toIntS_c : Ct := .pure true false (.pair (.slice (.int .i64)) .unit) (.slice (.int .i64)) (fun x => laws_toIntS x.1)
theorem laws_toIntS_ct : CtOk Tryz.prog 20 laws_toIntS_c := pure_ct (E := { T := tab, G := [] }) (EnvOk.nil tabOk) mixed (fn := Tryz.f20) _ _ _ _ _ laws_toIntS_h Tryz.func20 (by kernel_rfl) (fun x => by kernel_rfl)
def laws_toIntS_fresh_c : Ct := .pure true true (.pair (.slice (.int .i64)) .unit) (.slice (.int .i64)) (fun x => laws_toIntS x.1)
theorem laws_toIntS_fresh_ct : CtOk Tryz.prog 20 laws_toIntS_fresh_c := pure_ct (E := { T := tab, G := [] }) (EnvOk.nil tabOk) mixed (fn := Tryz.f20) _ _ _ _ _ laws_toIntS_h Tryz.func20 (by kernel_rfl) (fun x => by kernel_rfl)
/-! loop.example/g00486/laws.toTrigger -/
def laws_toTrigger (a0 : T_Trigger.D) : Option T_Trigger.D :=
(laws_toPiece a0.2.2.2.1).bind fun y1 =>
 some (a0.1, a0.2.1, a0.2.2.1, y1, ())
def laws_toTrigger_c : Ct := .pure true false (.pair T_Trigger .unit) T_Trigger (fun x => laws_toTrigger x.1)
theorem laws_toTrigger_ct : CtOk Tryz.prog 47 laws_toTrigger_c := pure_ct (E := { T := tab, G := [(77, laws_toPiece_c)] }) (EnvOk.cons laws_toPiece_ct (EnvOk.nil tabOk)) mixed (fn := Tryz.f47) _ _ _ _ _ .none Tryz.func47 (by kernel_rfl) (fun x => by kernel_rfl)
/-! loop.example/g00486/laws.toTriggerS -/
def laws_toTriggerS_l1 (a0 : (List T_Trigger.D)) : ((List T_Trigger.D) × Int) → Option (((List T_Trigger.D) × Int) ⊕ ((List T_Trigger.D) × Int)) := fun s2 =>
 bif decide (s2.2 < (a0.length : Int)) then (
 idx a0 s2.2 fun x3 =>
(laws_toTrigger x3).bind fun y4 =>
 idx s2.1 s2.2 fun _ =>
(s2.1[(s2.2 : Int).toNat]?).bind fun x5 =>
 let u6 : (List T_Trigger.D) := s2.1.set (s2.2 : Int).toNat y4
 some (.inl (u6, IntKind.wrap .i64 (s2.2 + 1))))
 else (
 some (.inr s2))
def laws_toTriggerS (a0 : (List T_Trigger.D)) : Option (List T_Trigger.D) :=
 if 0 ≤ (a0.length : Int) then (if ((a0.length : Int)).toNat * (24 * 16) ≤ room then (
(while_ (laws_toTriggerS_l1 a0) ((List.replicate ((a0.length : Int)).toNat (0, 0, 0, (0, 0, 0, 0, 0, 0, 0, 0, 0, 0, 0, false, false, ()), ())), 0)).bind fun o7 =>
 some o7.1) else none) else none
def laws_toTriggerS_h : Hints := (.node none none .none (.node none none .none (.node none none (.node none none .none (.node none none (.node none (some ⟨[.tmpO 3 0 (.slice T_Trigger), .tmp 4 (.int .i64)], [some 0], none, []⟩) .none .none) .none)) .none)))
def laws_toTriggerS_c : Ct := .pure true false (.pair (.slice T_Trigger) .unit) (.slice T_Trigger) (fun x => laws_toTriggerS x.1)
theorem laws_toTriggerS_ct : CtOk Tryz.prog 21 laws_toTriggerS_c := pure_ct (E := { T := tab, G := [(47, laws_toTrigger_c)] }) (EnvOk.cons laws_toTrigger_ct (EnvOk.nil tabOk)) mixed (fn := Tryz.f21) _ _ _ _ _ laws_toTriggerS_h Tryz.func21 (by kernel_rfl) (fun x => by kernel_rfl)
def laws_toTriggerS_fresh_c : Ct := .pure true true (.pair (.slice T_Trigger) .unit) (.slice T_Trigger) (fun x => laws_toTriggerS x.1)
theorem laws_toTriggerS_fresh_ct : CtOk Tryz.prog 21 laws_toTriggerS_fresh_c := pure_ct (E := { T := tab, G := [(47, laws_toTrigger_c)] }) (EnvOk.cons laws_toTrigger_ct (EnvOk.nil tabOk)) mixed (fn := Tryz.f21) _ _ _ _ _ laws_toTriggerS_h Tryz.func21 (by kernel_rfl) (fun x => by kernel_rfl)
/-! loop.example/g00486/laws.toNote -/
def laws_toNote (a0 : T_Note.D) : Option T_Note.D :=
(laws_toEvent a0.2.1).bind fun y1 =>
(laws_toPiece a0.2.2.2.2.1).bind fun y2 =>
 some (a0.1, y1, a0.2.2.1, a0.2.2.2.1, y2, ())
def laws_toNote_c : Ct := .pure true false (.pair T_Note .unit) T_Note (fun x => laws_toNote x.1)
theorem laws_toNote_ct : CtOk Tryz.prog 48 laws_toNote_c := pure_ct (E := { T := tab, G := [(77, laws_toPiece_c), (82, laws_toEvent_c)] }) (EnvOk.cons laws_toPiece_ct (EnvOk.cons laws_toEvent_ct (EnvOk.nil tabOk))) mixed (fn := Tryz.f48) _ _ _ _ _ .none Tryz.func48 (by kernel_rfl) (fun x => by kernel_rfl)
/-! loop.example/g00486/laws.toNoteS -/
def laws_toNoteS_l1 (a0 : (List T_Note.D)) : ((List T_Note.D) × Int) → Option (((List T_Note.D) × Int) ⊕ ((List T_Note.D) × Int)) := fun s2 =>
 bif decide (s2.2 < (a0.length : Int)) then (
 idx a0 s2.2 fun x3 =>
(laws_toNote x3).bind fun y4 =>
 idx s2.1 s2.2 fun _ =>
(s2.1[(s2.2 : Int).toNat]?).bind fun x5 =>
 let u6 : (List T_Note.D) := s2.1.set (s2.2 : Int).toNat y4
 some (.inl (u6, IntKind.wrap .i64 (s2.2 + 1))))
 else (
 some (.inr s2))
def laws_toNoteS (a0 : (List T_Note.D)) : Option (List T_Note.D) :=
 if 0 ≤ (a0.length : Int) then (if ((a0.length : Int)).toNat * (24 * 23) ≤ room then (
(while_ (laws_toNoteS_l1 a0) ((List.replicate ((a0.length : Int)).toNat (0, (0, 0, 0, 0, 0, 0, false, ()), 0, 0, (0, 0, 0, 0, 0, 0, 0, 0, 0, 0, 0, false, false, ()), ())), 0)).bind fun o7 =>
 some o7.1) else none) else none
def laws_toNoteS_h : Hints := (.node none none .none (.node none none .none (.node none none (.node none none .none (.node none none (.node none (some ⟨[.tmpO 3 0 (.slice T_Note), .tmp 4 (.int .i64)], [some 0], none, []⟩) .none .none) .none)) .none)))
def laws_toNoteS_c : Ct := .pure true false (.pair (.slice T_Note) .unit) (.slice T_Note) (fun x => laws_toNoteS x.1)
theorem laws_toNoteS_ct : CtOk Tryz.prog 22 laws_toNoteS_c := pure_ct (E := { T := tab, G := [(48, laws_toNote_c)] }) (EnvOk.cons laws_toNote_ct (EnvOk.nil tabOk)) mixed (fn := Tryz.f22) _ _ _ _ _ laws_toNoteS_h Tryz.func22 (by kernel_rfl) (fun x => by kernel_rfl)
def laws_toNoteS_fresh_c : Ct := .pure true true (.pair (.slice T_Note) .unit) (.slice T_Note) (fun x => laws_toNoteS x.1)
theorem laws_toNoteS_fresh_ct : CtOk Tryz.prog 22 laws_toNoteS_fresh_c := pure_ct (E := { T := tab, G := [(48, laws_toNote_c)] }) (EnvOk.cons laws_toNote_ct (EnvOk.nil tabOk)) mixed (fn := Tryz.f22) _ _ _ _ _ laws_toNoteS_h Tryz.func22 (by kernel_rfl) (fun x => by kernel_rfl)
/-! loop.example/g00486/laws.toTurn -/
def laws_toTurn (a0 : T_Turn.D) : Option T_Turn.D :=
(laws_toEvent a0.2.2.2.2.1).bind fun y1 =>
(laws_toEventS a0.2.2.2.2.2.1).bind fun y2 =>
 some (a0.1, a0.2.1, a0.2.2.1, a0.2.2.2.1, y1, y2, a0.2.2.2.2.2.2)
def laws_toTurn_c : Ct := .pure true false (.pair T_Turn .unit) T_Turn (fun x => laws_toTurn x.1)
theorem laws_toTurn_ct : CtOk Tryz.prog 49 laws_toTurn_c := pure_ct (E := { T := tab, G := [(82, laws_toEvent_c), (83, laws_toEventS_fresh_c)] }) (EnvOk.cons laws_toEvent_ct (EnvOk.cons laws_toEventS_fresh_ct (EnvOk.nil tabOk))) mixed (fn := Tryz.f49) _ _ _ _ _ .none Tryz.func49 (by kernel_rfl) (fun x => by kernel_rfl)
def laws_toTurn_fresh_c : Ct := .pure true true (.pair T_Turn .unit) T_Turn (fun x => laws_toTurn x.1)
theorem laws_toTurn_fresh_ct : CtOk Tryz.prog 49 laws_toTurn_fresh_c := pure_ct (E := { T := tab, G := [(82, laws_toEvent_c), (83, laws_toEventS_fresh_c)] }) (EnvOk.cons laws_toEvent_ct (EnvOk.cons laws_toEventS_fresh_ct (EnvOk.nil tabOk))) mixed (fn := Tryz.f49) _ _ _ _ _ .none Tryz.func49 (by kernel_rfl) (fun x => by kernel_rfl)
/-! loop.example/g00486/laws.toTurnS -/
def laws_toTurnS_l1 (a0 : (List T_Turn.D)) : ((List T_Turn.D) × Int) → Option (((List T_Turn.D) × Int) ⊕ ((List T_Turn.D) × Int)) := fun s2 =>
 bif decide (s2.2 < (a0.length : Int)) then (
 idx a0 s2.2 fun x3 =>
(laws_toTurn x3).bind fun y4 =>
 idx s2.1 s2.2 fun _ =>
(s2.1[(s2.2 : Int).toNat]?).bind fun x5 =>
 let u6 : (List T_Turn.D) := s2.1.set (s2.2 : Int).toNat y4
 some (.inl (u6, IntKind.wrap .i64 (s2.2 + 1))))
 else (
 some (.inr s2))
def laws_toTurnS (a0 : (List T_Turn.D)) : Option (List T_Turn.D) :=
 if 0 ≤ (a0.length : Int) then (if ((a0.length : Int)).toNat * (24 * 14) ≤ room then (
(while_ (laws_toTurnS_l1 a0) ((List.replicate ((a0.length : Int)).toNat (0, 0, 0, 0, (0, 0, 0, 0, 0, 0, false, ()), [], 0, 0, ())), 0)).bind fun o7 =>
 some o7.1) else none) else none
def laws_toTurnS_h : Hints := (.node none none .none (.node none none .none (.node none none (.node none none .none (.node none none (.node none (some ⟨[.tmpO 3 0 (.slice T_Turn), .tmp 4 (.int .i64)], [some 0], none, []⟩) .none .none) .none)) .none)))
def laws_toTurnS_c : Ct := .pure true false (.pair (.slice T_Turn) .unit) (.slice T_Turn) (fun x => laws_toTurnS x.1)
theorem laws_toTurnS_ct : CtOk Tryz.prog 23 laws_toTurnS_c := pure_ct (E := { T := tab, G := [(49, laws_toTurn_fresh_c)] }) (EnvOk.cons laws_toTurn_fresh_ct (EnvOk.nil tabOk)) mixed (fn := Tryz.f23) _ _ _ _ _ laws_toTurnS_h Tryz.func23 (by kernel_rfl) (fun x => by kernel_rfl)
def laws_toTurnS_fresh_c : Ct := .pure true true (.pair (.slice T_Turn) .unit) (.slice T_Turn) (fun x => laws_toTurnS x.1)
theorem laws_toTurnS_fresh_ct : CtOk Tryz.prog 23 laws_toTurnS_fresh_c := pure_ct (E := { T := tab, G := [(49, laws_toTurn_fresh_c)] }) (EnvOk.cons laws_toTurn_fresh_ct (EnvOk.nil tabOk)) mixed (fn := Tryz.f23) _ _ _ _ _ laws_toTurnS_h Tryz.func23 (by kernel_rfl) (fun x => by kernel_rfl)
/-! loop.example/g00486/laws.toGame -/
def laws_toGame (a0 : T_Game.D) : Option T_Game.D :=
(laws_toState a0.1).bind fun y1 =>
(laws_toEffectS a0.2.1).bind fun y2 =>
(laws_toIntS a0.2.2.1).bind fun y3 =>
(laws_toTriggerS a0.2.2.2.1).bind fun y4 =>
(laws_toNoteS a0.2.2.2.2.1).bind fun y5 =>
(laws_toTurnS a0.2.2.2.2.2.1).bind fun y6 =>
 some (y1, y2, y3, y4, y5, y6, ())
def laws_toGame_c : Ct := .pure true false (.pair T_Game .unit) T_Game (fun x => laws_toGame x.1)
theorem laws_toGame_ct : CtOk Tryz.prog 6 laws_toGame_c := pure_ct (E := { T := tab, G := [(18, laws_toState_fresh_c), (19, laws_toEffectS_fresh_c), (20, laws_toIntS_fresh_c), (21, laws_toTriggerS_fresh_c), (22, laws_toNoteS_fresh_c), (23, laws_toTurnS_fresh_c)] }) (EnvOk.cons laws_toState_fresh_ct (EnvOk.cons laws_toEffectS_fresh_ct (EnvOk.cons laws_toIntS_fresh_ct (EnvOk.cons laws_toTriggerS_fresh_ct (EnvOk.cons laws_toNoteS_fresh_ct (EnvOk.cons laws_toTurnS_fresh_ct (EnvOk.nil tabOk))))))) mixed (fn := Tryz.f6) _ _ _ _ _ .none Tryz.func6 (by kernel_rfl) (fun x => by kernel_rfl)
def laws_toGame_fresh_c : Ct := .pure true true (.pair T_Game .unit) T_Game (fun x => laws_toGame x.1)
theorem laws_toGame_fresh_ct : CtOk Tryz.prog 6 laws_toGame_fresh_c := pure_ct (E := { T := tab, G := [(18, laws_toState_fresh_c), (19, laws_toEffectS_fresh_c), (20, laws_toIntS_fresh_c), (21, laws_toTriggerS_fresh_c), (22, laws_toNoteS_fresh_c), (23, laws_toTurnS_fresh_c)] }) (EnvOk.cons laws_toState_fresh_ct (EnvOk.cons laws_toEffectS_fresh_ct (EnvOk.cons laws_toIntS_fresh_ct (EnvOk.cons laws_toTriggerS_fresh_ct (EnvOk.cons laws_toNoteS_fresh_ct (EnvOk.cons laws_toTurnS_fresh_ct (EnvOk.nil tabOk))))))) mixed (fn := Tryz.f6) _ _ _ _ _ .none Tryz.func6 (by kernel_rfl) (fun x => by kernel_rfl)
/-! loop.example/g00486/spec.l1In -/
def spec_l1In (a0 : Int) (a1 : Int) (a2 : Int) : Option Bool :=
 bif decide (a0 ≥ a1) then (
 some (decide (a0 ≤ a2)))
 else (
 some false)
def spec_l1In_c : Ct := .pure true false (.pair (.int .i64) (.pair (.int .i64) (.pair (.int .i64) .unit))) .bool (fun x => spec_l1In x.1 x.2.1 x.2.2.1)
theorem spec_l1In_ct : CtOk Tryz.prog 39 spec_l1In_c := pure_ct (E := { T := tab, G := [] }) (EnvOk.nil tabOk) mixed (fn := Tryz.f39) _ _ _ _ _ .none Tryz.func39 (by kernel_rfl) (fun x => by kernel_rfl)
/-! loop.example/g00486/spec.EventOk -/
def spec_EventOk (a0 : T_Event.D) : Option Bool :=
(((spec_l1In a0.2.2.1 1 99).bind fun y1 =>
 bif y1 then (
 some (a0.2.2.2.1 == (-1)))
 else (
 some false)) : Option Bool).bind fun o2 =>
((bif (a0.2.2.1 == 0) then (
(spec_l1In a0.2.2.2.1 0 2).bind fun y3 =>
 some y3)
 else (
 some false)) : Option Bool).bind fun o4 =>
(spec_l1In a0.2.2.2.2.1 0 2147483647).bind fun y5 =>
 bif (!y5) then (
 some false)
 else (
 bif (a0.1 == 1) then (
(spec_l1In a0.2.1 1 99).bind fun y6 =>
 bif y6 then (
 bif o2 then (
 bif (a0.2.2.2.2.2.1 == 0) then (
 some (!a0.2.2.2.2.2.2.1))
 else (
 some false))
 else (
 bif o4 then (
 bif (a0.2.2.2.2.2.1 == 0) then (
 some (!a0.2.2.2.2.2.2.1))
 else (
 some false))
 else (
 some false)))
 else (
 some false))
 else (
 bif (a0.1 == 2) then (
 bif (a0.2.1 == 0) then (
 bif o2 then (
(spec_l1In a0.2.2.2.2.2.1 1 4).bind fun y7 =>
 bif y7 then (
 bif decide (a0.2.2.2.2.1 ≤ 99) then (
 bif (a0.2.2.2.2.2.1 == 2) then (
 some true)
 else (
 bif (a0.2.2.2.2.1 == 0) then (
 some (!a0.2.2.2.2.2.2.1))
 else (
 some false)))
 else (
 some false))
 else (
 some false))
 else (
 some false))
 else (
 some false))
 else (
((bif (a0.1 == 3) then (
 some (a0.1 == 3))
 else (
 some (a0.1 == 4))) : Option Bool).bind fun o8 =>
 bif o8 then (
 bif (a0.2.1 == 0) then (
 bif o4 then (
 bif (a0.2.2.2.2.2.1 == 0) then (
 some (!a0.2.2.2.2.2.2.1))
 else (
 some false))
 else (
 some false))
 else (
 some false))
 else (
((bif (a0.1 == 5) then (
 some (a0.1 == 5))
 else (
 some (a0.1 == 6))) : Option Bool).bind fun o9 =>
 bif o9 then (
 bif (a0.2.1 == 0) then (
 bif o2 then (
 bif (a0.2.2.2.2.2.1 == 0) then (
 some (!a0.2.2.2.2.2.2.1))
 else (
 some false))
 else (
 some false))
 else (
 some false))
 else (
 some false)))))
def spec_EventOk_h : Hints := (.node none none .none (.node none none (.node (some ⟨[.tmp 3 .bool], [none], none, []⟩) none .none .none) (.node none none (.node (some ⟨[.tmp 4 .bool], [none], none, []⟩) none .none .none) (.node none none .none (.node none none (.node none none .none (.node none none (.node none none .none (.node none none .none (.node none none .none (.node none none .none (.node none none (.node none none .none (.node (some ⟨[.tmp 81 .bool], [none], none, []⟩) none .none .none)) (.node none none .none (.node none none (.node none none .none (.node (some ⟨[.tmp 100 .bool], [none], none, []⟩) none .none .none)) .none))))))) .none)) .none)))))
def spec_EventOk_c : Ct := .pure true false (.pair T_Event .unit) .bool (fun x => spec_EventOk x.1)
theorem spec_EventOk_ct : CtOk Tryz.prog 40 spec_EventOk_c := pure_ct (E := { T := tab, G := [(39, spec_l1In_c)] }) (EnvOk.cons spec_l1In_ct (EnvOk.nil tabOk)) mixed (fn := Tryz.f40) _ _ _ _ _ spec_EventOk_h Tryz.func40 (by kernel_rfl) (fun x => by kernel_rfl)
/-! loop.example/g00486/spec.TurnOk -/
def spec_TurnOk_l1 (a0 : T_Turn.D) : Int → Option (Int ⊕ (Int ⊕ Bool)) := fun s9 =>
 bif decide (s9 < (a0.2.2.2.2.2.1.length : Int)) then (
 idx a0.2.2.2.2.2.1 s9 fun x10 =>
(spec_EventOk x10).bind fun y11 =>
 bif (!y11) then (
 some (.inr (.inr false)))
 else (
 some (.inl (IntKind.wrap .i64 (s9 + 1)))))
 else (
 some (.inr (.inl s9)))
def spec_TurnOk (a0 : T_Turn.D) : Option Bool :=
(((spec_l1In a0.1 1 99).bind fun y1 =>
 bif (!y1) then (
 some true)
 else (
(spec_l1In a0.2.1 0 2).bind fun y2 =>
 bif (!y2) then (
 some true)
 else (
(spec_l1In a0.2.2.2.1 1 5).bind fun y3 =>
 bif (!y3) then (
 some true)
 else (
(spec_l1In a0.2.2.1 0 (IntKind.wrap .i64 (a0.2.2.2.1 - 1))).bind fun y4 =>
 bif (!y4) then (
 some true)
 else (
(spec_EventOk a0.2.2.2.2.1).bind fun y5 =>
 bif (!y5) then (
 some true)
 else (
 bif decide ((a0.2.2.2.2.2.1.length : Int) > 3) then (
 some true)
 else (
(spec_l1In a0.2.2.2.2.2.2.1 0 2147483647).bind fun y6 =>
 bif (!y6) then (
 some true)
 else (
(spec_l1In a0.2.2.2.2.2.2.2.1 0 4).bind fun y7 =>
 some (!y7))))))))) : Option Bool).bind fun o8 =>
 bif o8 then (
 some false)
 else (
(while_ (spec_TurnOk_l1 a0) 0).bind fun o12 =>
 match o12 with
| .inl s13 => (
 some true)
| .inr o14 => (
 some o14))
def spec_TurnOk_h : Hints := (.node none none .none (.node none none (.node none none (.node (some ⟨[.tmp 52 .bool], [none], none, []⟩) none .none .none) .none) (.node none none (.node none none .none (.node none none (.node none (some ⟨[.tmp 3 (.int .i64)], [some 0], some [.tmp 2 .bool], []⟩) .none .none) .none)) .none)))
def spec_TurnOk_c : Ct := .pure true false (.pair T_Turn .unit) .bool (fun x => spec_TurnOk x.1)
theorem spec_TurnOk_ct : CtOk Tryz.prog 15 spec_TurnOk_c := pure_ct (E := { T := tab, G := [(39, spec_l1In_c), (40, spec_EventOk_c)] }) (EnvOk.cons spec_l1In_ct (EnvOk.cons spec_EventOk_ct (EnvOk.nil tabOk))) mixed (fn := Tryz.f15) _ _ _ _ _ spec_TurnOk_h Tryz.func15 (by kernel_rfl) (fun x => by kernel_rfl)
/-! loop.example/g00486/spec.PieceOk -/
def spec_PieceOk (a0 : T_Piece.D) : Option Bool :=
(((spec_l1In a0.1 1 99).bind fun y1 =>
 bif (!y1) then (
 some true)
 else (
(spec_l1In a0.2.1 0 2).bind fun y2 =>
 bif (!y2) then (
 some true)
 else (
(spec_l1In a0.2.2.1 0 2).bind fun y3 =>
 bif (!y3) then (
 some true)
 else (
(spec_l1In a0.2.2.2.1 1 4).bind fun y4 =>
 bif (!y4) then (
 some true)
 else (
(spec_l1In a0.2.2.2.2.1 0 9999).bind fun y5 =>
 bif (!y5) then (
 some true)
 else (
(spec_l1In a0.2.2.2.2.2.1 0 999).bind fun y6 =>
 bif (!y6) then (
 some true)
 else (
(spec_l1In a0.2.2.2.2.2.2.1 0 999).bind fun y7 =>
 bif (!y7) then (
 some true)
 else (
(spec_l1In a0.2.2.2.2.2.2.2.1 0 63).bind fun y8 =>
 some (!y8))))))))) : Option Bool).bind fun o9 =>
 bif o9 then (
 some false)
 else (
(((spec_l1In a0.2.2.2.2.2.2.2.2.1 0 2147483647).bind fun y10 =>
 bif (!y10) then (
 some true)
 else (
(spec_l1In a0.2.2.2.2.2.2.2.2.2.1 0 2147483647).bind fun y11 =>
 bif (!y11) then (
 some true)
 else (
(spec_l1In a0.2.2.2.2.2.2.2.2.2.2.1 0 2147483647).bind fun y12 =>
 some (!y12)))) : Option Bool).bind fun o13 =>
 bif o13 then (
 some false)
 else (
 bif (a0.2.2.2.1 == 2) then (
 some true)
 else (
 bif (a0.2.2.1 == a0.2.1) then (
 bif (a0.2.2.2.2.2.2.2.2.1 == 0) then (
 bif (a0.2.2.2.2.2.2.2.2.2.1 == 0) then (
 bif (a0.2.2.2.2.2.2.2.2.2.2.1 == 0) then (
 bif (!a0.2.2.2.2.2.2.2.2.2.2.2.1) then (
 some (!a0.2.2.2.2.2.2.2.2.2.2.2.2.1))
 else (
 some false))
 else (
 some false))
 else (
 some false))
 else (
 some false))
 else (
 some false))))
def spec_PieceOk_h : Hints := (.node none none .none (.node none none (.node none none (.node (some ⟨[.tmp 48 .bool], [none], none, []⟩) none .none .none) .none) (.node none none (.node none none (.node (some ⟨[.tmp 64 .bool], [none], none, []⟩) none .none .none) .none) .none)))
def spec_PieceOk_c : Ct := .pure true false (.pair T_Piece .unit) .bool (fun x => spec_PieceOk x.1)
theorem spec_PieceOk_ct : CtOk Tryz.prog 41 spec_PieceOk_c := pure_ct (E := { T := tab, G := [(39, spec_l1In_c)] }) (EnvOk.cons spec_l1In_ct (EnvOk.nil tabOk)) mixed (fn := Tryz.f41) _ _ _ _ _ spec_PieceOk_h Tryz.func41 (by kernel_rfl) (fun x => by kernel_rfl)
/-! loop.example/g00486/spec.l5Side -/
def spec_l5Side (a0 : T_Side.D) : Option Bool :=
(spec_l1In a0.1 (-2147483647) 2147483647).bind fun y1 =>
 bif y1 then (
(spec_l1In a0.2.1 0 2147483647).bind fun y2 =>
 some y2)
 else (
 some false)
def spec_l5Side_c : Ct := .pure true false (.pair T_Side .unit) .bool (fun x => spec_l5Side x.1)
theorem spec_l5Side_ct : CtOk Tryz.prog 42 spec_l5Side_c := pure_ct (E := { T := tab, G := [(39, spec_l1In_c)] }) (EnvOk.cons spec_l1In_ct (EnvOk.nil tabOk)) mixed (fn := Tryz.f42) _ _ _ _ _ .none Tryz.func42 (by kernel_rfl) (fun x => by kernel_rfl)
/-! loop.example/g00486/spec.StateOk -/
def spec_StateOk_l1 (a0 : T_State.D) : Int → Option (Int ⊕ (Int ⊕ Bool)) := fun s5 =>
 bif decide (s5 < (a0.1.length : Int)) then (
 idx a0.1 s5 fun x6 =>
(((spec_PieceOk x6).bind fun y7 =>
 bif (!y7) then (
 some true)
 else (
 bif decide (s5 > 0) then (
 idx a0.1 (IntKind.wrap .i64 (s5 - 1)) fun x8 =>
 bif decide (x8.1 ≥ x6.1) then (
 some true)
 else (
 bif decide (x6.2.1 ≥ (a0.2.1.length : Int)) then (
 some true)
 else (
 bif decide (x6.2.2.1 ≥ (a0.2.1.length : Int)) then (
 some true)
 else (
 some (decide (x6.2.2.2.2.1 > a0.2.2.2.1))))))
 else (
 bif decide (x6.2.1 ≥ (a0.2.1.length : Int)) then (
 some true)
 else (
 bif decide (x6.2.2.1 ≥ (a0.2.1.length : Int)) then (
 some true)
 else (
 some (decide (x6.2.2.2.2.1 > a0.2.2.2.1))))))) : Option Bool).bind fun o9 =>
 bif o9 then (
 some (.inr (.inr false)))
 else (
 some (.inl (IntKind.wrap .i64 (s5 + 1)))))
 else (
 some (.inr (.inl s5)))
def spec_StateOk_l2 (a0 : T_State.D) : Int → Option (Int ⊕ (Int ⊕ Bool)) := fun s13 =>
 bif decide (s13 < (a0.2.1.length : Int)) then (
 idx a0.2.1 s13 fun x14 =>
(spec_l5Side x14).bind fun y15 =>
 bif (!y15) then (
 some (.inr (.inr false)))
 else (
 some (.inl (IntKind.wrap .i64 (s13 + 1)))))
 else (
 some (.inr (.inl s13)))
def spec_StateOk (a0 : T_State.D) : Option Bool :=
((bif decide ((a0.1.length : Int) > 8) then (
 some true)
 else (
(spec_l1In (a0.2.1.length : Int) 2 3).bind fun y1 =>
 bif (!y1) then (
 some true)
 else (
(spec_l1In a0.2.2.1 0 (IntKind.wrap .i64 ((a0.2.1.length : Int) - 1))).bind fun y2 =>
 bif (!y2) then (
 some true)
 else (
(spec_l1In a0.2.2.2.1 0 9999).bind fun y3 =>
 some (!y3))))) : Option Bool).bind fun o4 =>
 bif o4 then (
 some false)
 else (
(while_ (spec_StateOk_l1 a0) 0).bind fun o10 =>
 match o10 with
| .inl s11 => (
(while_ (spec_StateOk_l2 a0) 0).bind fun o16 =>
 match o16 with
| .inl s17 => (
 some true)
| .inr o18 => (
 some o18))
| .inr o12 => (
 some o12))
def spec_StateOk_h : Hints := (.node none none .none (.node none none (.node none none (.node (some ⟨[.tmp 32 .bool], [none], none, []⟩) none .none .none) .none) (.node none none (.node none none .none (.node none none (.node none (some ⟨[.tmp 3 (.int .i64)], [some 0], some [.tmp 2 .bool], []⟩) (.node none none .none (.node none none (.node none none (.node none none .none (.node none none (.node (some ⟨[.tmp 86 .bool], [none], none, []⟩) none .none .none) .none)) .none) .none)) .none) .none)) (.node none none (.node none none .none (.node none none (.node none (some ⟨[.tmp 5 (.int .i64)], [some 2], some [.tmp 2 .bool], []⟩) .none .none) .none)) .none))))
def spec_StateOk_c : Ct := .pure true false (.pair T_State .unit) .bool (fun x => spec_StateOk x.1)
theorem spec_StateOk_ct : CtOk Tryz.prog 16 spec_StateOk_c := pure_ct (E := { T := tab, G := [(39, spec_l1In_c), (41, spec_PieceOk_c), (42, spec_l5Side_c)] }) (EnvOk.cons spec_l1In_ct (EnvOk.cons spec_PieceOk_ct (EnvOk.cons spec_l5Side_ct (EnvOk.nil tabOk)))) mixed (fn := Tryz.f16) _ _ _ _ _ spec_StateOk_h Tryz.func16 (by kernel_rfl) (fun x => by kernel_rfl)
/-! loop.example/g00486/spec.PatOk -/
def spec_PatOk (a0 : T_Pat.D) : Option Bool :=
(((spec_l1In a0.1 1 6).bind fun y1 =>
 bif (!y1) then (
 some true)
 else (
(spec_l1In a0.2.1 0 2).bind fun y2 =>
 bif (!y2) then (
 some true)
 else (
(spec_l1In a0.2.2.2.2.1 0 99).bind fun y3 =>
 bif (!y3) then (
 some true)
 else (
(spec_l1In a0.2.2.2.2.2.1 0 2147483647).bind fun y4 =>
 bif (!y4) then (
 some true)
 else (
(spec_l1In a0.2.2.1 0 99).bind fun y5 =>
 bif (!y5) then (
 some true)
 else (
(spec_l1In a0.2.2.2.1 0 63).bind fun y6 =>
 bif (!y6) then (
 some true)
 else (
(spec_l1In a0.2.2.2.2.2.2.1 0 4).bind fun y7 =>
 some (!y7)))))))) : Option Bool).bind fun o8 =>
 bif o8 then (
 some false)
 else (
((bif (a0.1 != 1) then (
 bif (a0.2.2.1 != 0) then (
 some true)
 else (
 bif (a0.2.2.2.1 != 0) then (
 some true)
 else (
 bif (a0.1 != 2) then (
 some (a0.2.2.2.2.2.2.1 != 0))
 else (
 some false))))
 else (
 bif (a0.1 != 2) then (
 some (a0.2.2.2.2.2.2.1 != 0))
 else (
 some false))) : Option Bool).bind fun o9 =>
 bif o9 then (
 some false)
 else (
 bif (a0.1 != 3) then (
 bif (a0.1 != 4) then (
 some true)
 else (
 some (a0.2.2.2.2.1 == 0)))
 else (
 some (a0.2.2.2.2.1 == 0))))
def spec_PatOk_h : Hints := (.node none none .none (.node none none (.node none none (.node (some ⟨[.tmp 42 .bool], [none], none, []⟩) none .none .none) .none) (.node none none (.node none none (.node (some ⟨[.tmp 65 .bool], [none], none, []⟩) none .none .none) .none) .none)))
def spec_PatOk_c : Ct := .pure true false (.pair T_Pat .unit) .bool (fun x => spec_PatOk x.1)
theorem spec_PatOk_ct : CtOk Tryz.prog 73 spec_PatOk_c := pure_ct (E := { T := tab, G := [(39, spec_l1In_c)] }) (EnvOk.cons spec_l1In_ct (EnvOk.nil tabOk)) mixed (fn := Tryz.f73) _ _ _ _ _ spec_PatOk_h Tryz.func73 (by kernel_rfl) (fun x => by kernel_rfl)
/-! loop.example/g00486/spec.GuardOk -/
def spec_GuardOk (a0 : T_Guard.D) : Option Bool :=
((bif (a0.1 == 0) then (
 some (a0.1 == 0))
 else (
 some (a0.1 == 3))) : Option Bool).bind fun o1 =>
 bif o1 then (
 some (a0.2.1 == 0))
 else (
 bif (a0.1 == 1) then (
(spec_l1In a0.2.1 (-2147483647) 2147483647).bind fun y2 =>
 some y2)
 else (
 bif (a0.1 == 2) then (
(spec_l1In a0.2.1 0 8).bind fun y3 =>
 some y3)
 else (
 bif (a0.1 == 4) then (
(spec_l1In a0.2.1 0 8).bind fun y4 =>
 some y4)
 else (
 some false))))
def spec_GuardOk_h : Hints := (.node none none .none (.node none none (.node none none .none (.node none none (.node none none (.node none none .none (.node (some ⟨[.tmp 5 .bool], [none], none, []⟩) none .none .none)) .none) .none)) .none))
def spec_GuardOk_c : Ct := .pure true false (.pair T_Guard .unit) .bool (fun x => spec_GuardOk x.1)
theorem spec_GuardOk_ct : CtOk Tryz.prog 74 spec_GuardOk_c := pure_ct (E := { T := tab, G := [(39, spec_l1In_c)] }) (EnvOk.cons spec_l1In_ct (EnvOk.nil tabOk)) mixed (fn := Tryz.f74) _ _ _ _ _ spec_GuardOk_h Tryz.func74 (by kernel_rfl) (fun x => by kernel_rfl)
/-! loop.example/g00486/spec.l9Plain -/
def spec_l9Plain (a0 : T_Act.D) : Option Bool :=
 bif (a0.2.2.1 == 0) then (
 bif (a0.2.2.2.1 == (-1)) then (
 bif (a0.2.2.2.2.1 == 0) then (
 bif (!a0.2.2.2.2.2.1) then (
 some ((a0.2.2.2.2.2.2.1.length : Int) == 0))
 else (
 some false))
 else (
 some false))
 else (
 some false))
 else (
 some false)
def spec_l9Plain_c : Ct := .pure true false (.pair T_Act .unit) .bool (fun x => spec_l9Plain x.1)
theorem spec_l9Plain_ct : CtOk Tryz.prog 101 spec_l9Plain_c := pure_ct (E := { T := tab, G := [] }) (EnvOk.nil tabOk) mixed (fn := Tryz.f101) _ _ _ _ _ .none Tryz.func101 (by kernel_rfl) (fun x => by kernel_rfl)
/-! loop.example/g00486/spec.l9Part -/
def spec_l9Part (a0 : T_Event.D) : Option Bool :=
((bif (a0.2.2.2.2.1 == (-1)) then (
 some (a0.1 != 2))
 else (
 some false)) : Option Bool).bind fun o1 =>
((bif o1 then (
 some (a0.1, a0.2.1, a0.2.2.1, a0.2.2.2.1, 0, a0.2.2.2.2.2))
 else (
 some a0)) : Option T_Event.D).bind fun o2 =>
(spec_EventOk o2).bind fun y3 =>
 some y3
def spec_l9Part_h : Hints := (.node none none .none (.node none none (.node none none (.node (some ⟨[.tmp 10 .bool], [none], none, []⟩) none .none .none) (.node (some ⟨[.box 1 0 T_Event], [none], none, [(1, 0)]⟩) none .none .none)) .none))
def spec_l9Part_c : Ct := .pure true false (.pair T_Event .unit) .bool (fun x => spec_l9Part x.1)
theorem spec_l9Part_ct : CtOk Tryz.prog 102 spec_l9Part_c := pure_ct (E := { T := tab, G := [(40, spec_EventOk_c)] }) (EnvOk.cons spec_EventOk_ct (EnvOk.nil tabOk)) mixed (fn := Tryz.f102) _ _ _ _ _ spec_l9Part_h Tryz.func102 (by kernel_rfl) (fun x => by kernel_rfl)
/-! loop.example/g00486/spec.ActOk -/
def spec_ActOk_l1 (a0 : T_Act.D) : Int → Option (Int ⊕ (Int ⊕ Bool)) := fun s12 =>
 bif decide (s12 < (a0.2.2.2.2.2.2.1.length : Int)) then (
 idx a0.2.2.2.2.2.2.1 s12 fun x13 =>
(spec_l9Part x13).bind fun y14 =>
 bif (!y14) then (
 some (.inr (.inr false)))
 else (
 some (.inl (IntKind.wrap .i64 (s12 + 1)))))
 else (
 some (.inr (.inl s12)))
def spec_ActOk (a0 : T_Act.D) : Option Bool :=
((bif (a0.1 == 1) then (
 some (a0.1 == 1))
 else (
((bif (a0.1 == 2) then (
 some (a0.1 == 2))
 else (
((bif (a0.1 == 4) then (
 some (a0.1 == 4))
 else (
 some (a0.1 == 5))) : Option Bool).bind fun o1 =>
 some o1)) : Option Bool).bind fun o2 =>
 some o2)) : Option Bool).bind fun o3 =>
 bif o3 then (
(spec_l9Plain a0).bind fun y4 =>
 bif y4 then (
 some (a0.2.1 == 0))
 else (
 some false))
 else (
 bif (a0.1 == 3) then (
(spec_l9Plain a0).bind fun y5 =>
 bif y5 then (
(spec_l1In a0.2.1 1 2147483647).bind fun y6 =>
 some y6)
 else (
 some false))
 else (
 bif (a0.1 == 6) then (
 bif (a0.2.1 == 0) then (
 bif (a0.2.2.2.2.1 == 0) then (
 bif (!a0.2.2.2.2.2.1) then (
 bif ((a0.2.2.2.2.2.2.1.length : Int) == 0) then (
(spec_l1In a0.2.2.1 1 99).bind fun y7 =>
 bif y7 then (
 bif (a0.2.2.2.1 == (-1)) then (
 some true)
 else (
 bif (a0.2.2.1 == 0) then (
(spec_l1In a0.2.2.2.1 0 2).bind fun y8 =>
 some y8)
 else (
 some false)))
 else (
 bif (a0.2.2.1 == 0) then (
(spec_l1In a0.2.2.2.1 0 2).bind fun y9 =>
 some y9)
 else (
 some false)))
 else (
 some false))
 else (
 some false))
 else (
 some false))
 else (
 some false))
 else (
 bif (a0.1 == 7) then (
 bif (a0.2.1 == 0) then (
 bif (a0.2.2.1 == 0) then (
 bif (a0.2.2.2.1 == (-1)) then (
 bif (!a0.2.2.2.2.2.1) then (
 bif ((a0.2.2.2.2.2.2.1.length : Int) == 0) then (
(spec_l1In a0.2.2.2.2.1 1 4).bind fun y10 =>
 some y10)
 else (
 some false))
 else (
 some false))
 else (
 some false))
 else (
 some false))
 else (
 some false))
 else (
 bif (a0.1 == 8) then (
(spec_l1In a0.2.1 0 99).bind fun y11 =>
 bif y11 then (
 bif (a0.2.2.1 == 0) then (
 bif (a0.2.2.2.1 == (-1)) then (
 bif (a0.2.2.2.2.1 == 0) then (
 some ((a0.2.2.2.2.2.2.1.length : Int) == 0))
 else (
 some false))
 else (
 some false))
 else (
 some false))
 else (
 some false))
 else (
 bif (a0.1 == 9) then (
(while_ (spec_ActOk_l1 a0) 0).bind fun o15 =>
 match o15 with
| .inl s16 => (
 bif (a0.2.1 == 0) then (
 bif (a0.2.2.1 == 0) then (
 bif (a0.2.2.2.1 == (-1)) then (
 bif (a0.2.2.2.2.1 == 0) then (
 bif (!a0.2.2.2.2.2.1) then (
(spec_l1In (a0.2.2.2.2.2.2.1.length : Int) 1 3).bind fun y18 =>
 some y18)
 else (
 some false))
 else (
 some false))
 else (
 some false))
 else (
 some false))
 else (
 some false))
| .inr o17 => (
 some o17))
 else (
 some false))))))
def spec_ActOk_h : Hints := (.node none none .none (.node none none (.node none none .none (.node none none (.node none none (.node none none .none (.node (some ⟨[.tmp 6 .bool], [none], none, []⟩) none .none (.node none none .none (.node (some ⟨[.tmp 6 .bool], [none], none, []⟩) none .none (.node none none .none (.node (some ⟨[.tmp 6 .bool], [none], none, []⟩) none .none .none)))))) (.node none none .none (.node none none .none (.node none none .none (.node none none .none (.node none none .none (.node none none .none (.node none none .none (.node none none .none (.node none none .none (.node none none .none (.node none none (.node none none (.node none none .none (.node none none (.node none (some ⟨[.tmp 3 (.int .i64)], [some 1], some [.tmp 2 .bool], []⟩) .none .none) .none)) .none) .none)))))))))))) .none)) .none))
def spec_ActOk_c : Ct := .pure true false (.pair T_Act .unit) .bool (fun x => spec_ActOk x.1)
theorem spec_ActOk_ct : CtOk Tryz.prog 75 spec_ActOk_c := pure_ct (E := { T := tab, G := [(39, spec_l1In_c), (101, spec_l9Plain_c), (102, spec_l9Part_c)] }) (EnvOk.cons spec_l1In_ct (EnvOk.cons spec_l9Plain_ct (EnvOk.cons spec_l9Part_ct (EnvOk.nil tabOk)))) mixed (fn := Tryz.f75) _ _ _ _ _ spec_ActOk_h Tryz.func75 (by kernel_rfl) (fun x => by kernel_rfl)
/-! loop.example/g00486/spec.ActFits -/
def spec_ActFits (a0 : T_Act.D) (a1 : Int) : Option Bool :=
(spec_l1In a1 1 6).bind fun y1 =>
 bif (!y1) then (
 some false)
 else (
((bif (a0.1 == 2) then (
 some (a0.1 == 2))
 else (
 some (a0.1 == 6))) : Option Bool).bind fun o2 =>
 bif o2 then (
 some (a1 == 1))
 else (
((bif (a0.1 == 3) then (
 some (a0.1 == 3))
 else (
((bif (a0.1 == 4) then (
 some (a0.1 == 4))
 else (
 some (a0.1 == 5))) : Option Bool).bind fun o3 =>
 some o3)) : Option Bool).bind fun o4 =>
 bif o4 then (
 some (a1 != 2))
 else (
((bif (a0.1 == 7) then (
 some (a0.1 == 7))
 else (
 some (a0.1 == 8))) : Option Bool).bind fun o5 =>
 bif o5 then (
 some (a1 == 2))
 else (
 bif (a0.1 == 1) then (
 some true)
 else (
 some (a0.1 == 9))))))
def spec_ActFits_h : Hints := (.node none none .none (.node none none .none (.node none none (.node none none .none (.node none none (.node none none (.node none none .none (.node (some ⟨[.tmp 10 .bool], [none], none, []⟩) none .none .none)) (.node none none .none (.node none none (.node none none .none (.node (some ⟨[.tmp 15 .bool], [none], none, []⟩) none .none (.node none none .none (.node (some ⟨[.tmp 15 .bool], [none], none, []⟩) none .none .none)))) (.node none none .none (.node none none (.node none none .none (.node (some ⟨[.tmp 21 .bool], [none], none, []⟩) none .none .none)) .none))))) .none)) .none)))
def spec_ActFits_c : Ct := .pure true false (.pair T_Act (.pair (.int .i64) .unit)) .bool (fun x => spec_ActFits x.1 x.2.1)
theorem spec_ActFits_ct : CtOk Tryz.prog 76 spec_ActFits_c := pure_ct (E := { T := tab, G := [(39, spec_l1In_c)] }) (EnvOk.cons spec_l1In_ct (EnvOk.nil tabOk)) mixed (fn := Tryz.f76) _ _ _ _ _ spec_ActFits_h Tryz.func76 (by kernel_rfl) (fun x => by kernel_rfl)
/-! loop.example/g00486/spec.EffectOk -/
def spec_EffectOk (a0 : T_Effect.D) : Option Bool :=
(((spec_l1In a0.1 1 99).bind fun y1 =>
 bif (!y1) then (
 some true)
 else (
(spec_l1In a0.2.1 0 2).bind fun y2 =>
 bif (!y2) then (
 some true)
 else (
(spec_l1In a0.2.2.1 0 99).bind fun y3 =>
 bif (!y3) then (
 some true)
 else (
(spec_l1In a0.2.2.2.1 0 4).bind fun y4 =>
 bif (!y4) then (
 some true)
 else (
(spec_l1In a0.2.2.2.2.2.2.2.1 (-1) 9999).bind fun y5 =>
 bif (!y5) then (
 some true)
 else (
(spec_l1In a0.2.2.2.2.2.2.2.2.1 (-1) 2147483647).bind fun y6 =>
 some (!y6))))))) : Option Bool).bind fun o7 =>
 bif o7 then (
 some false)
 else (
((bif (a0.2.2.2.1 == 0) then (
 bif (a0.2.2.1 == 0) then (
 some true)
 else (
 bif (a0.2.2.2.2.2.2.1.1 == 2) then (
 some (decide (a0.2.2.2.2.2.2.2.2.1 < 0)))
 else (
 some false)))
 else (
 bif (a0.2.2.2.2.2.2.1.1 == 2) then (
 some (decide (a0.2.2.2.2.2.2.2.2.1 < 0)))
 else (
 some false))) : Option Bool).bind fun o8 =>
 bif o8 then (
 some false)
 else (
(spec_PatOk a0.2.2.2.2.1).bind fun y9 =>
 bif y9 then (
(spec_GuardOk a0.2.2.2.2.2.1).bind fun y10 =>
 bif y10 then (
(spec_ActOk a0.2.2.2.2.2.2.1).bind fun y11 =>
 bif y11 then (
(spec_ActFits a0.2.2.2.2.2.2.1 a0.2.2.2.2.1.1).bind fun y12 =>
 some y12)
 else (
 some false))
 else (
 some false))
 else (
 some false)))
def spec_EffectOk_h : Hints := (.node none none .none (.node none none (.node none none (.node (some ⟨[.tmp 36 .bool], [none], none, []⟩) none .none .none) .none) (.node none none (.node none none (.node (some ⟨[.tmp 55 .bool], [none], none, []⟩) none .none .none) .none) .none)))
def spec_EffectOk_c : Ct := .pure true false (.pair T_Effect .unit) .bool (fun x => spec_EffectOk x.1)
theorem spec_EffectOk_ct : CtOk Tryz.prog 43 spec_EffectOk_c := pure_ct (E := { T := tab, G := [(39, spec_l1In_c), (73, spec_PatOk_c), (74, spec_GuardOk_c), (75, spec_ActOk_c), (76, spec_ActFits_c)] }) (EnvOk.cons spec_l1In_ct (EnvOk.cons spec_PatOk_ct (EnvOk.cons spec_GuardOk_ct (EnvOk.cons spec_ActOk_ct (EnvOk.cons spec_ActFits_ct (EnvOk.nil tabOk)))))) mixed (fn := Tryz.f43) _ _ _ _ _ spec_EffectOk_h Tryz.func43 (by kernel_rfl) (fun x => by kernel_rfl)
/-! loop.example/g00486/spec.TableOk -/
def spec_TableOk_l1 (a0 : (List T_Effect.D)) : Int → Option (Int ⊕ (Int ⊕ Bool)) := fun s1 =>
 bif decide (s1 < (a0.length : Int)) then (
((idx a0 s1 fun x2 =>
(spec_EffectOk x2).bind fun y3 =>
 bif (!y3) then (
 some true)
 else (
 bif decide (s1 > 0) then (
 idx a0 (IntKind.wrap .i64 (s1 - 1)) fun x4 =>
 idx a0 s1 fun x5 =>
 some (decide (x4.1 ≥ x5.1)))
 else (
 some false))) : Option Bool).bind fun o6 =>
 bif o6 then (
 some (.inr (.inr false)))
 else (
 some (.inl (IntKind.wrap .i64 (s1 + 1)))))
 else (
 some (.inr (.inl s1)))
def spec_TableOk (a0 : (List T_Effect.D)) : Option Bool :=
(while_ (spec_TableOk_l1 a0) 0).bind fun o7 =>
 match o7 with
| .inl s8 => (
 some (decide ((a0.length : Int) ≤ 5)))
| .inr o9 => (
 some o9)
def spec_TableOk_h : Hints := (.node none none .none (.node none none (.node none none .none (.node none none (.node none (some ⟨[.tmp 3 (.int .i64)], [some 0], some [.tmp 2 .bool], []⟩) (.node none none .none (.node none none (.node none none (.node none none (.node (some ⟨[.tmp 33 .bool], [none], none, []⟩) none .none .none) .none) .none) .none)) .none) .none)) .none))
def spec_TableOk_c : Ct := .pure true false (.pair (.slice T_Effect) .unit) .bool (fun x => spec_TableOk x.1)
theorem spec_TableOk_ct : CtOk Tryz.prog 17 spec_TableOk_c := pure_ct (E := { T := tab, G := [(43, spec_EffectOk_c)] }) (EnvOk.cons spec_EffectOk_ct (EnvOk.nil tabOk)) mixed (fn := Tryz.f17) _ _ _ _ _ spec_TableOk_h Tryz.func17 (by kernel_rfl) (fun x => by kernel_rfl)
/-! loop.example/g00486/spec.GameOk -/
def spec_GameOk_l1 (a0 : T_Game.D) : Int → Option (Int ⊕ (Int ⊕ Bool)) := fun s1 =>
 bif decide (s1 < (a0.2.2.2.2.2.1.length : Int)) then (
 idx a0.2.2.2.2.2.1 s1 fun x2 =>
(spec_TurnOk x2).bind fun y3 =>
 bif (!y3) then (
 some (.inr (.inr false)))
 else (
 some (.inl (IntKind.wrap .i64 (s1 + 1)))))
 else (
 some (.inr (.inl s1)))
def spec_GameOk (a0 : T_Game.D) : Option Bool :=
(while_ (spec_GameOk_l1 a0) 0).bind fun o4 =>
 match o4 with
| .inl s5 => (
(spec_StateOk a0.1).bind fun y7 =>
 bif y7 then (
(spec_TableOk a0.2.1).bind fun y8 =>
 some y8)
 else (
 some false))
| .inr o6 => (
 some o6)
def spec_GameOk_h : Hints := (.node none none .none (.node none none (.node none none .none (.node none none (.node none (some ⟨[.tmp 3 (.int .i64)], [some 0], some [.tmp 2 .bool], []⟩) .none .none) .none)) .none))
def spec_GameOk_c : Ct := .pure true false (.pair T_Game .unit) .bool (fun x => spec_GameOk x.1)
theorem spec_GameOk_ct : CtOk Tryz.prog 5 spec_GameOk_c := pure_ct (E := { T := tab, G := [(15, spec_TurnOk_c), (16, spec_StateOk_c), (17, spec_TableOk_c)] }) (EnvOk.cons spec_TurnOk_ct (EnvOk.cons spec_StateOk_ct (EnvOk.cons spec_TableOk_ct (EnvOk.nil tabOk)))) mixed (fn := Tryz.f5) _ _ _ _ _ spec_GameOk_h Tryz.func5 (by kernel_rfl) (fun x => by kernel_rfl)
/-! loop.example/g00486/impl.from -/
def impl_from (a0 : Int) (a1 : Int) (a2 : Int) : Option Bool :=
 bif decide (a0 ≥ a1) then (
 some (decide (a0 ≤ a2)))
 else (
 some false)
def impl_from_c : Ct := .pure true false (.pair (.int .i64) (.pair (.int .i64) (.pair (.int .i64) .unit))) .bool (fun x => impl_from x.1 x.2.1 x.2.2.1)
theorem impl_from_ct : CtOk Tryz.prog 50 impl_from_c := pure_ct (E := { T := tab, G := [] }) (EnvOk.nil tabOk) mixed (fn := Tryz.f50) _ _ _ _ _ .none Tryz.func50 (by kernel_rfl) (fun x => by kernel_rfl)
/-! loop.example/g00486/impl.isSide -/
def impl_isSide (a0 : T_State.D) (a1 : Int) : Option Bool :=
(impl_from a1 0 (IntKind.wrap .i64 ((a0.2.1.length : Int) - 1))).bind fun y1 =>
 some y1
def impl_isSide_c : Ct := .pure true false (.pair T_State (.pair (.int .i64) .unit)) .bool (fun x => impl_isSide x.1 x.2.1)
theorem impl_isSide_ct : CtOk Tryz.prog 51 impl_isSide_c := pure_ct (E := { T := tab, G := [(50, impl_from_c)] }) (EnvOk.cons impl_from_ct (EnvOk.nil tabOk)) mixed (fn := Tryz.f51) _ _ _ _ _ .none Tryz.func51 (by kernel_rfl) (fun x => by kernel_rfl)
/-! loop.example/g00486/impl.isTime -/
def impl_isTime (a0 : Int) : Option Bool :=
(impl_from a0 0 9999).bind fun y1 =>
 some y1
def impl_isTime_c : Ct := .pure true false (.pair (.int .i64) .unit) .bool (fun x => impl_isTime x.1)
theorem impl_isTime_ct : CtOk Tryz.prog 52 impl_isTime_c := pure_ct (E := { T := tab, G := [(50, impl_from_c)] }) (EnvOk.cons impl_from_ct (EnvOk.nil tabOk)) mixed (fn := Tryz.f52) _ _ _ _ _ .none Tryz.func52 (by kernel_rfl) (fun x => by kernel_rfl)
/-! loop.example/g00486/impl.isId -/
def impl_isId (a0 : Int) : Option Bool :=
(impl_from a0 1 99).bind fun y1 =>
 some y1
def impl_isId_c : Ct := .pure true false (.pair (.int .i64) .unit) .bool (fun x => impl_isId x.1)
theorem impl_isId_ct : CtOk Tryz.prog 60 impl_isId_c := pure_ct (E := { T := tab, G := [(50, impl_from_c)] }) (EnvOk.cons impl_from_ct (EnvOk.nil tabOk)) mixed (fn := Tryz.f60) _ _ _ _ _ .none Tryz.func60 (by kernel_rfl) (fun x => by kernel_rfl)
/-! loop.example/g00486/impl.isPlayer -/
def impl_isPlayer (a0 : Int) : Option Bool :=
(impl_from a0 0 2).bind fun y1 =>
 some y1
def impl_isPlayer_c : Ct := .pure true false (.pair (.int .i64) .unit) .bool (fun x => impl_isPlayer x.1)
theorem impl_isPlayer_ct : CtOk Tryz.prog 61 impl_isPlayer_c := pure_ct (E := { T := tab, G := [(50, impl_from_c)] }) (EnvOk.cons impl_from_ct (EnvOk.nil tabOk)) mixed (fn := Tryz.f61) _ _ _ _ _ .none Tryz.func61 (by kernel_rfl) (fun x => by kernel_rfl)
/-! loop.example/g00486/impl.isZone -/
def impl_isZone (a0 : Int) : Option Bool :=
(impl_from a0 1 4).bind fun y1 =>
 some y1
def impl_isZone_c : Ct := .pure true false (.pair (.int .i64) .unit) .bool (fun x => impl_isZone x.1)
theorem impl_isZone_ct : CtOk Tryz.prog 84 impl_isZone_c := pure_ct (E := { T := tab, G := [(50, impl_from_c)] }) (EnvOk.cons impl_from_ct (EnvOk.nil tabOk)) mixed (fn := Tryz.f84) _ _ _ _ _ .none Tryz.func84 (by kernel_rfl) (fun x => by kernel_rfl)
/-! loop.example/g00486/impl.isTraits -/
def impl_isTraits (a0 : Int) : Option Bool :=
(impl_from a0 0 63).bind fun y1 =>
 some y1
def impl_isTraits_c : Ct := .pure true false (.pair (.int .i64) .unit) .bool (fun x => impl_isTraits x.1)
theorem impl_isTraits_ct : CtOk Tryz.prog 85 impl_isTraits_c := pure_ct (E := { T := tab, G := [(50, impl_from_c)] }) (EnvOk.cons impl_from_ct (EnvOk.nil tabOk)) mixed (fn := Tryz.f85) _ _ _ _ _ .none Tryz.func85 (by kernel_rfl) (fun x => by kernel_rfl)
/-! loop.example/g00486/impl.isAmount -/
def impl_isAmount (a0 : Int) : Option Bool :=
(impl_from a0 0 2147483647).bind fun y1 =>
 some y1
def impl_isAmount_c : Ct := .pure true false (.pair (.int .i64) .unit) .bool (fun x => impl_isAmount x.1)
theorem impl_isAmount_ct : CtOk Tryz.prog 57 impl_isAmount_c := pure_ct (E := { T := tab, G := [(50, impl_from_c)] }) (EnvOk.cons impl_from_ct (EnvOk.nil tabOk)) mixed (fn := Tryz.f57) _ _ _ _ _ .none Tryz.func57 (by kernel_rfl) (fun x => by kernel_rfl)
/-! loop.example/g00486/impl.PieceOk -/
def impl_PieceOk (a0 : T_Piece.D) : Option Bool :=
(((impl_isId a0.1).bind fun y1 =>
 bif (!y1) then (
 some true)
 else (
(impl_isPlayer a0.2.1).bind fun y2 =>
 bif (!y2) then (
 some true)
 else (
(impl_isPlayer a0.2.2.1).bind fun y3 =>
 bif (!y3) then (
 some true)
 else (
(impl_isZone a0.2.2.2.1).bind fun y4 =>
 bif (!y4) then (
 some true)
 else (
(impl_isTime a0.2.2.2.2.1).bind fun y5 =>
 bif (!y5) then (
 some true)
 else (
(impl_from a0.2.2.2.2.2.1 0 999).bind fun y6 =>
 bif (!y6) then (
 some true)
 else (
(impl_from a0.2.2.2.2.2.2.1 0 999).bind fun y7 =>
 bif (!y7) then (
 some true)
 else (
(impl_isTraits a0.2.2.2.2.2.2.2.1).bind fun y8 =>
 some (!y8))))))))) : Option Bool).bind fun o9 =>
 bif o9 then (
 some false)
 else (
 bif (a0.2.2.2.1 != 2) then (
((bif (a0.2.2.1 == a0.2.1) then (
 bif (a0.2.2.2.2.2.2.2.2.1 == 0) then (
 bif (a0.2.2.2.2.2.2.2.2.2.1 == 0) then (
 bif (a0.2.2.2.2.2.2.2.2.2.2.1 == 0) then (
 bif (!a0.2.2.2.2.2.2.2.2.2.2.2.1) then (
 some (!a0.2.2.2.2.2.2.2.2.2.2.2.2.1))
 else (
 some false))
 else (
 some false))
 else (
 some false))
 else (
 some false))
 else (
 some false)) : Option Bool).bind fun o10 =>
 some o10)
 else (
(impl_isAmount a0.2.2.2.2.2.2.2.2.1).bind fun y11 =>
 bif y11 then (
(impl_isAmount a0.2.2.2.2.2.2.2.2.2.1).bind fun y12 =>
 bif y12 then (
(impl_isAmount a0.2.2.2.2.2.2.2.2.2.2.1).bind fun y13 =>
 some y13)
 else (
 some false))
 else (
 some false)))
def impl_PieceOk_h : Hints := (.node none none .none (.node none none (.node none none (.node (some ⟨[.tmp 48 .bool], [none], none, []⟩) none .none .none) .none) (.node none none (.node none none .none (.node none none (.node none none (.node (some ⟨[.tmp 2 .bool], [none], none, []⟩) none .none .none) .none) .none)) .none)))
def impl_PieceOk_c : Ct := .pure true false (.pair T_Piece .unit) .bool (fun x => impl_PieceOk x.1)
theorem impl_PieceOk_ct : CtOk Tryz.prog 53 impl_PieceOk_c := pure_ct (E := { T := tab, G := [(50, impl_from_c), (52, impl_isTime_c), (57, impl_isAmount_c), (60, impl_isId_c), (61, impl_isPlayer_c), (84, impl_isZone_c), (85, impl_isTraits_c)] }) (EnvOk.cons impl_from_ct (EnvOk.cons impl_isTime_ct (EnvOk.cons impl_isAmount_ct (EnvOk.cons impl_isId_ct (EnvOk.cons impl_isPlayer_ct (EnvOk.cons impl_isZone_ct (EnvOk.cons impl_isTraits_ct (EnvOk.nil tabOk)))))))) mixed (fn := Tryz.f53) _ _ _ _ _ impl_PieceOk_h Tryz.func53 (by kernel_rfl) (fun x => by kernel_rfl)
/-! slices.IndexFunc[[]loop.example/g00486/impl.Side,loop.example/g00486/impl.Side] -/
def slices_IndexFunc_impl_Side_l1 (a0 : (List T_Side.D)) (a1 : ((T_Side.D × Unit) → Option Bool)) : Int → Option (Int ⊕ (Int ⊕ Int)) := fun s1 =>
 bif decide (s1 < (a0.length : Int)) then (
 idx a0 s1 fun x2 =>
(a1 (x2, ())).bind fun y3 =>
 bif y3 then (
 some (.inr (.inr s1)))
 else (
 some (.inl (IntKind.wrap .i64 (s1 + 1)))))
 else (
 some (.inr (.inl s1)))
def slices_IndexFunc_impl_Side (a0 : (List T_Side.D)) (a1 : ((T_Side.D × Unit) → Option Bool)) : Option Int :=
(while_ (slices_IndexFunc_impl_Side_l1 a0 a1) 0).bind fun o4 =>
 match o4 with
| .inl s5 => (
 some (-1))
| .inr o6 => (
 some o6)
def slices_IndexFunc_impl_Side_h : Hints := (.node none none .none (.node none none (.node none none .none (.node none none (.node none (some ⟨[.tmp 8 (.int .i64)], [some 0], some [.tmp 4 (.int .i64)], []⟩) .none .none) .none)) .none))
def slices_IndexFunc_impl_Side_c : Ct := .pure true false (.pair (.slice T_Side) (.pair (.fn (.pair T_Side .unit) .bool) .unit)) (.int .i64) (fun x => slices_IndexFunc_impl_Side x.1 x.2.1)
theorem slices_IndexFunc_impl_Side_ct : CtOk Tryz.prog 86 slices_IndexFunc_impl_Side_c := pure_ct (E := { T := tab, G := [] }) (EnvOk.nil tabOk) mixed (fn := Tryz.f86) _ _ _ _ _ slices_IndexFunc_impl_Side_h Tryz.func86 (by kernel_rfl) (fun x => by kernel_rfl)
/-! slices.ContainsFunc[[]loop.example/g00486/impl.Side,loop.example/g00486/impl.Side] -/
def slices_ContainsFunc_impl_Side (a0 : (List T_Side.D)) (a1 : ((T_Side.D × Unit) → Option Bool)) : Option Bool :=
(slices_IndexFunc_impl_Side a0 a1).bind fun y1 =>
 some (decide (y1 ≥ 0))
def slices_ContainsFunc_impl_Side_c : Ct := .pure true false (.pair (.slice T_Side) (.pair (.fn (.pair T_Side .unit) .bool) .unit)) .bool (fun x => slices_ContainsFunc_impl_Side x.1 x.2.1)
theorem slices_ContainsFunc_impl_Side_ct : CtOk Tryz.prog 54 slices_ContainsFunc_impl_Side_c := pure_ct (E := { T := tab, G := [(86, slices_IndexFunc_impl_Side_c)] }) (EnvOk.cons slices_IndexFunc_impl_Side_ct (EnvOk.nil tabOk)) mixed (fn := Tryz.f54) _ _ _ _ _ .none Tryz.func54 (by kernel_rfl) (fun x => by kernel_rfl)
/-! loop.example/g00486/impl.Bound -/
def impl_Bound (a0 : Int) : Option Int :=
 some (if (if 2147483647 < a0 then 2147483647 else a0) > (-2147483647) then (if 2147483647 < a0 then 2147483647 else a0) else (-2147483647))
def impl_Bound_c : Ct := .pure true false (.pair (.int .i64) .unit) (.int .i64) (fun x => impl_Bound x.1)
theorem impl_Bound_ct : CtOk Tryz.prog 56 impl_Bound_c := pure_ct (E := { T := tab, G := [] }) (EnvOk.nil tabOk) mixed (fn := Tryz.f56) _ _ _ _ _ .none Tryz.func56 (by kernel_rfl) (fun x => by kernel_rfl)
/-! loop.example/g00486/impl.StateOk$1 -/
def impl_StateOk_1 (a0 : T_Side.D) : Option Bool :=
(impl_Bound a0.1).bind fun y1 =>
 bif (y1 != a0.1) then (
 some true)
 else (
(impl_isAmount a0.2.1).bind fun y2 =>
 some (!y2))
def impl_StateOk_1_c : Ct := .pure true false (.pair T_Side .unit) .bool (fun x => impl_StateOk_1 x.1)
theorem impl_StateOk_1_ct : CtOk Tryz.prog 55 impl_StateOk_1_c := pure_ct (E := { T := tab, G := [(56, impl_Bound_c), (57, impl_isAmount_c)] }) (EnvOk.cons impl_Bound_ct (EnvOk.cons impl_isAmount_ct (EnvOk.nil tabOk))) mixed (fn := Tryz.f55) _ _ _ _ _ .none Tryz.func55 (by kernel_rfl) (fun x => by kernel_rfl)
/-! loop.example/g00486/impl.StateOk -/
def impl_StateOk_l1 (a0 : T_State.D) : Int → Option (Int ⊕ (Int ⊕ Bool)) := fun s5 =>
 bif decide (s5 < (a0.1.length : Int)) then (
 idx a0.1 s5 fun x6 =>
(((impl_PieceOk x6).bind fun y7 =>
 bif (!y7) then (
 some true)
 else (
(impl_isSide a0 x6.2.1).bind fun y8 =>
 bif (!y8) then (
 some true)
 else (
(impl_isSide a0 x6.2.2.1).bind fun y9 =>
 bif (!y9) then (
 some true)
 else (
 bif decide (x6.2.2.2.2.1 > a0.2.2.2.1) then (
 some true)
 else (
 bif decide (s5 > 0) then (
 idx a0.1 (IntKind.wrap .i64 (s5 - 1)) fun x10 =>
 some (decide (x10.1 ≥ x6.1)))
 else (
 some false)))))) : Option Bool).bind fun o11 =>
 bif o11 then (
 some (.inr (.inr false)))
 else (
 some (.inl (IntKind.wrap .i64 (s5 + 1)))))
 else (
 some (.inr (.inl s5)))
def impl_StateOk (a0 : T_State.D) : Option Bool :=
((bif decide ((a0.1.length : Int) > 8) then (
 some true)
 else (
(impl_from (a0.2.1.length : Int) 2 3).bind fun y1 =>
 bif (!y1) then (
 some true)
 else (
(impl_isSide a0 a0.2.2.1).bind fun y2 =>
 bif (!y2) then (
 some true)
 else (
(impl_isTime a0.2.2.2.1).bind fun y3 =>
 some (!y3))))) : Option Bool).bind fun o4 =>
 bif o4 then (
 some false)
 else (
(while_ (impl_StateOk_l1 a0) 0).bind fun o12 =>
 match o12 with
| .inl s13 => (
(slices_ContainsFunc_impl_Side a0.2.1 (fun q => impl_StateOk_1 q.1)).bind fun y15 =>
 some (!y15))
| .inr o14 => (
 some o14))
def impl_StateOk_h : Hints := (.node none none .none (.node none none (.node none none (.node (some ⟨[.tmp 28 .bool], [none], none, []⟩) none .none .none) .none) (.node none none (.node none none .none (.node none none (.node none (some ⟨[.tmp 32 (.int .i64)], [some 0], some [.tmp 2 .bool], []⟩) (.node none none .none (.node none none .none (.node none none (.node none none (.node none none .none (.node none none (.node (some ⟨[.tmp 76 .bool], [none], none, []⟩) none .none .none) .none)) .none) .none))) .none) .none)) .none)))
def impl_StateOk_c : Ct := .pure true false (.pair T_State .unit) .bool (fun x => impl_StateOk x.1)
theorem impl_StateOk_ct : CtOk Tryz.prog 24 impl_StateOk_c := pure_ct (E := { T := tab, G := [(50, impl_from_c), (51, impl_isSide_c), (52, impl_isTime_c), (53, impl_PieceOk_c), (54, slices_ContainsFunc_impl_Side_c), (55, impl_StateOk_1_c)] }) (EnvOk.cons impl_from_ct (EnvOk.cons impl_isSide_ct (EnvOk.cons impl_isTime_ct (EnvOk.cons impl_PieceOk_ct (EnvOk.cons slices_ContainsFunc_impl_Side_ct (EnvOk.cons impl_StateOk_1_ct (EnvOk.nil tabOk))))))) mixed (fn := Tryz.f24) _ _ _ _ _ impl_StateOk_h Tryz.func24 (by kernel_rfl) (fun x => by kernel_rfl)
/-! loop.example/g00486/impl.isKind -/
def impl_isKind (a0 : Int) : Option Bool :=
(impl_from a0 1 6).bind fun y1 =>
 some y1
def impl_isKind_c : Ct := .pure true false (.pair (.int .i64) .unit) .bool (fun x => impl_isKind x.1)
theorem impl_isKind_ct : CtOk Tryz.prog 103 impl_isKind_c := pure_ct (E := { T := tab, G := [(50, impl_from_c)] }) (EnvOk.cons impl_from_ct (EnvOk.nil tabOk)) mixed (fn := Tryz.f103) _ _ _ _ _ .none Tryz.func103 (by kernel_rfl) (fun x => by kernel_rfl)
/-! loop.example/g00486/impl.PatOk -/
def impl_PatOk (a0 : T_Pat.D) : Option Bool :=
(((impl_isKind a0.1).bind fun y1 =>
 bif (!y1) then (
 some true)
 else (
(impl_from a0.2.1 0 2).bind fun y2 =>
 bif (!y2) then (
 some true)
 else (
(impl_from a0.2.2.1 0 99).bind fun y3 =>
 bif (!y3) then (
 some true)
 else (
(impl_isTraits a0.2.2.2.1).bind fun y4 =>
 bif (!y4) then (
 some true)
 else (
(impl_from a0.2.2.2.2.1 0 99).bind fun y5 =>
 bif (!y5) then (
 some true)
 else (
(impl_isAmount a0.2.2.2.2.2.1).bind fun y6 =>
 bif (!y6) then (
 some true)
 else (
(impl_from a0.2.2.2.2.2.2.1 0 4).bind fun y7 =>
 some (!y7)))))))) : Option Bool).bind fun o8 =>
 bif o8 then (
 some false)
 else (
((bif (a0.1 != 1) then (
 bif (a0.2.2.1 != 0) then (
 some true)
 else (
 bif (a0.2.2.2.1 != 0) then (
 some true)
 else (
 bif (a0.1 != 2) then (
 some (a0.2.2.2.2.2.2.1 != 0))
 else (
 some false))))
 else (
 bif (a0.1 != 2) then (
 some (a0.2.2.2.2.2.2.1 != 0))
 else (
 some false))) : Option Bool).bind fun o9 =>
 bif o9 then (
 some false)
 else (
 bif (a0.2.2.2.2.1 == 0) then (
 some true)
 else (
 bif (a0.1 != 3) then (
 some (a0.1 != 4))
 else (
 some false))))
def impl_PatOk_h : Hints := (.node none none .none (.node none none (.node none none (.node (some ⟨[.tmp 42 .bool], [none], none, []⟩) none .none .none) .none) (.node none none (.node none none (.node (some ⟨[.tmp 65 .bool], [none], none, []⟩) none .none .none) .none) .none)))
def impl_PatOk_c : Ct := .pure true false (.pair T_Pat .unit) .bool (fun x => impl_PatOk x.1)
theorem impl_PatOk_ct : CtOk Tryz.prog 87 impl_PatOk_c := pure_ct (E := { T := tab, G := [(50, impl_from_c), (57, impl_isAmount_c), (85, impl_isTraits_c), (103, impl_isKind_c)] }) (EnvOk.cons impl_from_ct (EnvOk.cons impl_isAmount_ct (EnvOk.cons impl_isTraits_ct (EnvOk.cons impl_isKind_ct (EnvOk.nil tabOk))))) mixed (fn := Tryz.f87) _ _ _ _ _ impl_PatOk_h Tryz.func87 (by kernel_rfl) (fun x => by kernel_rfl)
/-! loop.example/g00486/impl.GuardOk -/
def impl_GuardOk (a0 : T_Guard.D) : Option Bool :=
((bif (a0.1 == 0) then (
 some (a0.1 == 0))
 else (
 some (a0.1 == 3))) : Option Bool).bind fun o1 =>
 bif o1 then (
 some (a0.2.1 == 0))
 else (
 bif (a0.1 == 1) then (
(impl_Bound a0.2.1).bind fun y2 =>
 some (y2 == a0.2.1))
 else (
((bif (a0.1 == 2) then (
 some (a0.1 == 2))
 else (
 some (a0.1 == 4))) : Option Bool).bind fun o3 =>
 bif o3 then (
(impl_from a0.2.1 0 8).bind fun y4 =>
 some y4)
 else (
 some false)))
def impl_GuardOk_h : Hints := (.node none none .none (.node none none (.node none none .none (.node none none (.node none none (.node none none .none (.node (some ⟨[.tmp 5 .bool], [none], none, []⟩) none .none .none)) (.node none none .none (.node none none .none (.node none none .none (.node none none (.node none none .none (.node (some ⟨[.tmp 19 .bool], [none], none, []⟩) none .none .none)) .none))))) .none)) .none))
def impl_GuardOk_c : Ct := .pure true false (.pair T_Guard .unit) .bool (fun x => impl_GuardOk x.1)
theorem impl_GuardOk_ct : CtOk Tryz.prog 88 impl_GuardOk_c := pure_ct (E := { T := tab, G := [(50, impl_from_c), (56, impl_Bound_c)] }) (EnvOk.cons impl_from_ct (EnvOk.cons impl_Bound_ct (EnvOk.nil tabOk))) mixed (fn := Tryz.f88) _ _ _ _ _ impl_GuardOk_h Tryz.func88 (by kernel_rfl) (fun x => by kernel_rfl)
/-! slices.IndexFunc[[]loop.example/g00486/impl.Event,loop.example/g00486/impl.Event] -/
def slices_IndexFunc_impl_Event_l1 (a0 : (List T_Event.D)) (a1 : ((T_Event.D × Unit) → Option Bool)) : Int → Option (Int ⊕ (Int ⊕ Int)) := fun s1 =>
 bif decide (s1 < (a0.length : Int)) then (
 idx a0 s1 fun x2 =>
(a1 (x2, ())).bind fun y3 =>
 bif y3 then (
 some (.inr (.inr s1)))
 else (
 some (.inl (IntKind.wrap .i64 (s1 + 1)))))
 else (
 some (.inr (.inl s1)))
def slices_IndexFunc_impl_Event (a0 : (List T_Event.D)) (a1 : ((T_Event.D × Unit) → Option Bool)) : Option Int :=
(while_ (slices_IndexFunc_impl_Event_l1 a0 a1) 0).bind fun o4 =>
 match o4 with
| .inl s5 => (
 some (-1))
| .inr o6 => (
 some o6)
def slices_IndexFunc_impl_Event_h : Hints := (.node none none .none (.node none none (.node none none .none (.node none none (.node none (some ⟨[.tmp 8 (.int .i64)], [some 0], some [.tmp 4 (.int .i64)], []⟩) .none .none) .none)) .none))
def slices_IndexFunc_impl_Event_c : Ct := .pure true false (.pair (.slice T_Event) (.pair (.fn (.pair T_Event .unit) .bool) .unit)) (.int .i64) (fun x => slices_IndexFunc_impl_Event x.1 x.2.1)
theorem slices_IndexFunc_impl_Event_ct : CtOk Tryz.prog 93 slices_IndexFunc_impl_Event_c := pure_ct (E := { T := tab, G := [] }) (EnvOk.nil tabOk) mixed (fn := Tryz.f93) _ _ _ _ _ slices_IndexFunc_impl_Event_h Tryz.func93 (by kernel_rfl) (fun x => by kernel_rfl)
/-! slices.ContainsFunc[[]loop.example/g00486/impl.Event,loop.example/g00486/impl.Event] -/
def slices_ContainsFunc_impl_Event (a0 : (List T_Event.D)) (a1 : ((T_Event.D × Unit) → Option Bool)) : Option Bool :=
(slices_IndexFunc_impl_Event a0 a1).bind fun y1 =>
 some (decide (y1 ≥ 0))
def slices_ContainsFunc_impl_Event_c : Ct := .pure true false (.pair (.slice T_Event) (.pair (.fn (.pair T_Event .unit) .bool) .unit)) .bool (fun x => slices_ContainsFunc_impl_Event x.1 x.2.1)
theorem slices_ContainsFunc_impl_Event_ct : CtOk Tryz.prog 63 slices_ContainsFunc_impl_Event_c := pure_ct (E := { T := tab, G := [(93, slices_IndexFunc_impl_Event_c)] }) (EnvOk.cons slices_IndexFunc_impl_Event_ct (EnvOk.nil tabOk)) mixed (fn := Tryz.f63) _ _ _ _ _ .none Tryz.func63 (by kernel_rfl) (fun x => by kernel_rfl)
/-! loop.example/g00486/impl.onPiece -/
def impl_onPiece (a0 : T_Event.D) : Option Bool :=
(impl_isId a0.2.2.1).bind fun y1 =>
 bif y1 then (
 some (a0.2.2.2.1 == (-1)))
 else (
 some false)
def impl_onPiece_c : Ct := .pure true false (.pair T_Event .unit) .bool (fun x => impl_onPiece x.1)
theorem impl_onPiece_ct : CtOk Tryz.prog 91 impl_onPiece_c := pure_ct (E := { T := tab, G := [(60, impl_isId_c)] }) (EnvOk.cons impl_isId_ct (EnvOk.nil tabOk)) mixed (fn := Tryz.f91) _ _ _ _ _ .none Tryz.func91 (by kernel_rfl) (fun x => by kernel_rfl)
/-! loop.example/g00486/impl.onPlayer -/
def impl_onPlayer (a0 : T_Event.D) : Option Bool :=
 bif (a0.2.2.1 == 0) then (
(impl_isPlayer a0.2.2.2.1).bind fun y1 =>
 some y1)
 else (
 some false)
def impl_onPlayer_c : Ct := .pure true false (.pair T_Event .unit) .bool (fun x => impl_onPlayer x.1)
theorem impl_onPlayer_ct : CtOk Tryz.prog 92 impl_onPlayer_c := pure_ct (E := { T := tab, G := [(61, impl_isPlayer_c)] }) (EnvOk.cons impl_isPlayer_ct (EnvOk.nil tabOk)) mixed (fn := Tryz.f92) _ _ _ _ _ .none Tryz.func92 (by kernel_rfl) (fun x => by kernel_rfl)
/-! loop.example/g00486/impl.EventOk -/
def impl_EventOk (a0 : T_Event.D) : Option Bool :=
(((impl_isAmount a0.2.2.2.2.1).bind fun y1 =>
 bif (!y1) then (
 some true)
 else (
 bif (a0.1 != 1) then (
 bif (a0.2.1 != 0) then (
 some true)
 else (
 bif (a0.1 != 2) then (
 bif (a0.2.2.2.2.2.1 != 0) then (
 some true)
 else (
 some a0.2.2.2.2.2.2.1))
 else (
 some false)))
 else (
 bif (a0.1 != 2) then (
 bif (a0.2.2.2.2.2.1 != 0) then (
 some true)
 else (
 some a0.2.2.2.2.2.2.1))
 else (
 some false)))) : Option Bool).bind fun o2 =>
 bif o2 then (
 some false)
 else (
 bif (a0.1 == 1) then (
(impl_isId a0.2.1).bind fun y3 =>
 bif y3 then (
(impl_onPiece a0).bind fun y4 =>
 bif y4 then (
 some true)
 else (
(impl_onPlayer a0).bind fun y5 =>
 some y5))
 else (
 some false))
 else (
 bif (a0.1 == 2) then (
 bif (a0.2.2.2.2.2.1 == 2) then (
(((impl_onPiece a0).bind fun y6 =>
 bif y6 then (
 some (decide (a0.2.2.2.2.1 ≤ 99)))
 else (
 some false)) : Option Bool).bind fun o7 =>
 some o7)
 else (
(impl_onPiece a0).bind fun y8 =>
 bif y8 then (
(impl_isZone a0.2.2.2.2.2.1).bind fun y9 =>
 bif y9 then (
 bif (a0.2.2.2.2.1 == 0) then (
 some (!a0.2.2.2.2.2.2.1))
 else (
 some false))
 else (
 some false))
 else (
 some false)))
 else (
((bif (a0.1 == 3) then (
 some (a0.1 == 3))
 else (
 some (a0.1 == 4))) : Option Bool).bind fun o10 =>
 bif o10 then (
(impl_onPlayer a0).bind fun y11 =>
 some y11)
 else (
((bif (a0.1 == 5) then (
 some (a0.1 == 5))
 else (
 some (a0.1 == 6))) : Option Bool).bind fun o12 =>
 bif o12 then (
(impl_onPiece a0).bind fun y13 =>
 some y13)
 else (
 some false)))))
def impl_EventOk_h : Hints := (.node none none .none (.node none none (.node none none (.node (some ⟨[.tmp 30 .bool], [none], none, []⟩) none .none .none) .none) (.node none none (.node none none .none (.node none none (.node none none .none (.node none none .none (.node none none .none (.node none none (.node none none (.node none none .none (.node none none (.node none none (.node (some ⟨[.tmp 2 .bool], [none], none, []⟩) none .none .none) .none) .none)) .none) (.node none none (.node none none .none (.node (some ⟨[.tmp 75 .bool], [none], none, []⟩) none .none .none)) (.node none none .none (.node none none (.node none none .none (.node (some ⟨[.tmp 80 .bool], [none], none, []⟩) none .none .none)) .none))))))) .none)) .none)))
def impl_EventOk_c : Ct := .pure true false (.pair T_Event .unit) .bool (fun x => impl_EventOk x.1)
theorem impl_EventOk_ct : CtOk Tryz.prog 62 impl_EventOk_c := pure_ct (E := { T := tab, G := [(57, impl_isAmount_c), (60, impl_isId_c), (84, impl_isZone_c), (91, impl_onPiece_c), (92, impl_onPlayer_c)] }) (EnvOk.cons impl_isAmount_ct (EnvOk.cons impl_isId_ct (EnvOk.cons impl_isZone_ct (EnvOk.cons impl_onPiece_ct (EnvOk.cons impl_onPlayer_ct (EnvOk.nil tabOk)))))) mixed (fn := Tryz.f62) _ _ _ _ _ impl_EventOk_h Tryz.func62 (by kernel_rfl) (fun x => by kernel_rfl)
/-! loop.example/g00486/impl.partOk -/
def impl_partOk (a0 : T_Event.D) : Option Bool :=
(impl_EventOk a0).bind fun y1 =>
 bif y1 then (
 some true)
 else (
((bif (a0.1 != 2) then (
 some (a0.2.2.2.2.1 == (-1)))
 else (
 some false)) : Option Bool).bind fun o2 =>
 bif o2 then (
(impl_EventOk (a0.1, a0.2.1, a0.2.2.1, a0.2.2.2.1, 0, a0.2.2.2.2.2)).bind fun y3 =>
 some y3)
 else (
 some false))
def impl_partOk_h : Hints := (.node none none .none (.node none none .none (.node none none (.node (some ⟨[.tmp 3 .bool], [none], none, []⟩) none .none .none) .none)))
def impl_partOk_c : Ct := .pure true false (.pair T_Event .unit) .bool (fun x => impl_partOk x.1)
theorem impl_partOk_ct : CtOk Tryz.prog 105 impl_partOk_c := pure_ct (E := { T := tab, G := [(62, impl_EventOk_c)] }) (EnvOk.cons impl_EventOk_ct (EnvOk.nil tabOk)) mixed (fn := Tryz.f105) _ _ _ _ _ impl_partOk_h Tryz.func105 (by kernel_rfl) (fun x => by kernel_rfl)
/-! loop.example/g00486/impl.ActOk$1 -/
def impl_ActOk_1 (a0 : T_Event.D) : Option Bool :=
(impl_partOk a0).bind fun y1 =>
 some (!y1)
def impl_ActOk_1_c : Ct := .pure true false (.pair T_Event .unit) .bool (fun x => impl_ActOk_1 x.1)
theorem impl_ActOk_1_ct : CtOk Tryz.prog 104 impl_ActOk_1_c := pure_ct (E := { T := tab, G := [(105, impl_partOk_c)] }) (EnvOk.cons impl_partOk_ct (EnvOk.nil tabOk)) mixed (fn := Tryz.f104) _ _ _ _ _ .none Tryz.func104 (by kernel_rfl) (fun x => by kernel_rfl)
/-! loop.example/g00486/impl.ActOk -/
def impl_ActOk (a0 : T_Act.D) : Option Bool :=
((bif (a0.1 != 3) then (
 bif (a0.1 != 8) then (
 bif (a0.2.1 != 0) then (
 some true)
 else (
 bif (a0.1 != 6) then (
 bif (a0.2.2.1 != 0) then (
 some true)
 else (
 bif (a0.2.2.2.1 != (-1)) then (
 some true)
 else (
 bif (a0.1 != 7) then (
 bif (a0.2.2.2.2.1 != 0) then (
 some true)
 else (
 bif (a0.1 != 8) then (
 bif a0.2.2.2.2.2.1 then (
 some true)
 else (
 bif (a0.1 != 9) then (
 some (decide ((a0.2.2.2.2.2.2.1.length : Int) > 0)))
 else (
 some false)))
 else (
 bif (a0.1 != 9) then (
 some (decide ((a0.2.2.2.2.2.2.1.length : Int) > 0)))
 else (
 some false))))
 else (
 bif (a0.1 != 8) then (
 bif a0.2.2.2.2.2.1 then (
 some true)
 else (
 bif (a0.1 != 9) then (
 some (decide ((a0.2.2.2.2.2.2.1.length : Int) > 0)))
 else (
 some false)))
 else (
 bif (a0.1 != 9) then (
 some (decide ((a0.2.2.2.2.2.2.1.length : Int) > 0)))
 else (
 some false))))))
 else (
 bif (a0.1 != 7) then (
 bif (a0.2.2.2.2.1 != 0) then (
 some true)
 else (
 bif (a0.1 != 8) then (
 bif a0.2.2.2.2.2.1 then (
 some true)
 else (
 bif (a0.1 != 9) then (
 some (decide ((a0.2.2.2.2.2.2.1.length : Int) > 0)))
 else (
 some false)))
 else (
 bif (a0.1 != 9) then (
 some (decide ((a0.2.2.2.2.2.2.1.length : Int) > 0)))
 else (
 some false))))
 else (
 bif (a0.1 != 8) then (
 bif a0.2.2.2.2.2.1 then (
 some true)
 else (
 bif (a0.1 != 9) then (
 some (decide ((a0.2.2.2.2.2.2.1.length : Int) > 0)))
 else (
 some false)))
 else (
 bif (a0.1 != 9) then (
 some (decide ((a0.2.2.2.2.2.2.1.length : Int) > 0)))
 else (
 some false))))))
 else (
 bif (a0.1 != 6) then (
 bif (a0.2.2.1 != 0) then (
 some true)
 else (
 bif (a0.2.2.2.1 != (-1)) then (
 some true)
 else (
 bif (a0.1 != 7) then (
 bif (a0.2.2.2.2.1 != 0) then (
 some true)
 else (
 bif (a0.1 != 8) then (
 bif a0.2.2.2.2.2.1 then (
 some true)
 else (
 bif (a0.1 != 9) then (
 some (decide ((a0.2.2.2.2.2.2.1.length : Int) > 0)))
 else (
 some false)))
 else (
 bif (a0.1 != 9) then (
 some (decide ((a0.2.2.2.2.2.2.1.length : Int) > 0)))
 else (
 some false))))
 else (
 bif (a0.1 != 8) then (
 bif a0.2.2.2.2.2.1 then (
 some true)
 else (
 bif (a0.1 != 9) then (
 some (decide ((a0.2.2.2.2.2.2.1.length : Int) > 0)))
 else (
 some false)))
 else (
 bif (a0.1 != 9) then (
 some (decide ((a0.2.2.2.2.2.2.1.length : Int) > 0)))
 else (
 some false))))))
 else (
 bif (a0.1 != 7) then (
 bif (a0.2.2.2.2.1 != 0) then (
 some true)
 else (
 bif (a0.1 != 8) then (
 bif a0.2.2.2.2.2.1 then (
 some true)
 else (
 bif (a0.1 != 9) then (
 some (decide ((a0.2.2.2.2.2.2.1.length : Int) > 0)))
 else (
 some false)))
 else (
 bif (a0.1 != 9) then (
 some (decide ((a0.2.2.2.2.2.2.1.length : Int) > 0)))
 else (
 some false))))
 else (
 bif (a0.1 != 8) then (
 bif a0.2.2.2.2.2.1 then (
 some true)
 else (
 bif (a0.1 != 9) then (
 some (decide ((a0.2.2.2.2.2.2.1.length : Int) > 0)))
 else (
 some false)))
 else (
 bif (a0.1 != 9) then (
 some (decide ((a0.2.2.2.2.2.2.1.length : Int) > 0)))
 else (
 some false))))))
 else (
 bif (a0.1 != 6) then (
 bif (a0.2.2.1 != 0) then (
 some true)
 else (
 bif (a0.2.2.2.1 != (-1)) then (
 some true)
 else (
 bif (a0.1 != 7) then (
 bif (a0.2.2.2.2.1 != 0) then (
 some true)
 else (
 bif (a0.1 != 8) then (
 bif a0.2.2.2.2.2.1 then (
 some true)
 else (
 bif (a0.1 != 9) then (
 some (decide ((a0.2.2.2.2.2.2.1.length : Int) > 0)))
 else (
 some false)))
 else (
 bif (a0.1 != 9) then (
 some (decide ((a0.2.2.2.2.2.2.1.length : Int) > 0)))
 else (
 some false))))
 else (
 bif (a0.1 != 8) then (
 bif a0.2.2.2.2.2.1 then (
 some true)
 else (
 bif (a0.1 != 9) then (
 some (decide ((a0.2.2.2.2.2.2.1.length : Int) > 0)))
 else (
 some false)))
 else (
 bif (a0.1 != 9) then (
 some (decide ((a0.2.2.2.2.2.2.1.length : Int) > 0)))
 else (
 some false))))))
 else (
 bif (a0.1 != 7) then (
 bif (a0.2.2.2.2.1 != 0) then (
 some true)
 else (
 bif (a0.1 != 8) then (
 bif a0.2.2.2.2.2.1 then (
 some true)
 else (
 bif (a0.1 != 9) then (
 some (decide ((a0.2.2.2.2.2.2.1.length : Int) > 0)))
 else (
 some false)))
 else (
 bif (a0.1 != 9) then (
 some (decide ((a0.2.2.2.2.2.2.1.length : Int) > 0)))
 else (
 some false))))
 else (
 bif (a0.1 != 8) then (
 bif a0.2.2.2.2.2.1 then (
 some true)
 else (
 bif (a0.1 != 9) then (
 some (decide ((a0.2.2.2.2.2.2.1.length : Int) > 0)))
 else (
 some false)))
 else (
 bif (a0.1 != 9) then (
 some (decide ((a0.2.2.2.2.2.2.1.length : Int) > 0)))
 else (
 some false)))))) : Option Bool).bind fun o1 =>
 bif o1 then (
 some false)
 else (
((bif (a0.1 == 1) then (
 some (a0.1 == 1))
 else (
((bif (a0.1 == 2) then (
 some (a0.1 == 2))
 else (
((bif (a0.1 == 4) then (
 some (a0.1 == 4))
 else (
 some (a0.1 == 5))) : Option Bool).bind fun o2 =>
 some o2)) : Option Bool).bind fun o3 =>
 some o3)) : Option Bool).bind fun o4 =>
 bif o4 then (
 some true)
 else (
 bif (a0.1 == 3) then (
(impl_from a0.2.1 1 2147483647).bind fun y5 =>
 some y5)
 else (
 bif (a0.1 == 6) then (
(impl_isId a0.2.2.1).bind fun y6 =>
 bif y6 then (
 bif (a0.2.2.2.1 == (-1)) then (
 some true)
 else (
 bif (a0.2.2.1 == 0) then (
(impl_isPlayer a0.2.2.2.1).bind fun y7 =>
 some y7)
 else (
 some false)))
 else (
 bif (a0.2.2.1 == 0) then (
(impl_isPlayer a0.2.2.2.1).bind fun y8 =>
 some y8)
 else (
 some false)))
 else (
 bif (a0.1 == 7) then (
(impl_isZone a0.2.2.2.2.1).bind fun y9 =>
 some y9)
 else (
 bif (a0.1 == 8) then (
(impl_from a0.2.1 0 99).bind fun y10 =>
 some y10)
 else (
 bif (a0.1 == 9) then (
(impl_from (a0.2.2.2.2.2.2.1.length : Int) 1 3).bind fun y11 =>
 bif y11 then (
(slices_ContainsFunc_impl_Event a0.2.2.2.2.2.2.1 (fun q => impl_ActOk_1 q.1)).bind fun y12 =>
 some (!y12))
 else (
 some false))
 else (
 some false)))))))
def impl_ActOk_h : Hints := (.node none none .none (.node none none (.node none none (.node (some ⟨[.tmp 60 .bool], [none], none, []⟩) none .none .none) .none) (.node none none (.node none none .none (.node none none (.node none none (.node none none .none (.node (some ⟨[.tmp 63 .bool], [none], none, []⟩) none .none (.node none none .none (.node (some ⟨[.tmp 63 .bool], [none], none, []⟩) none .none (.node none none .none (.node (some ⟨[.tmp 63 .bool], [none], none, []⟩) none .none .none)))))) .none) .none)) .none)))
def impl_ActOk_c : Ct := .pure true false (.pair T_Act .unit) .bool (fun x => impl_ActOk x.1)
theorem impl_ActOk_ct : CtOk Tryz.prog 89 impl_ActOk_c := pure_ct (E := { T := tab, G := [(50, impl_from_c), (60, impl_isId_c), (61, impl_isPlayer_c), (63, slices_ContainsFunc_impl_Event_c), (84, impl_isZone_c), (104, impl_ActOk_1_c)] }) (EnvOk.cons impl_from_ct (EnvOk.cons impl_isId_ct (EnvOk.cons impl_isPlayer_ct (EnvOk.cons slices_ContainsFunc_impl_Event_ct (EnvOk.cons impl_isZone_ct (EnvOk.cons impl_ActOk_1_ct (EnvOk.nil tabOk))))))) mixed (fn := Tryz.f89) _ _ _ _ _ impl_ActOk_h Tryz.func89 (by kernel_rfl) (fun x => by kernel_rfl)
/-! loop.example/g00486/impl.ActFits -/
def impl_ActFits (a0 : T_Act.D) (a1 : Int) : Option Bool :=
(impl_isKind a1).bind fun y1 =>
 bif (!y1) then (
 some false)
 else (
((bif (a0.1 == 1) then (
 some (a0.1 == 1))
 else (
 some (a0.1 == 9))) : Option Bool).bind fun o2 =>
 bif o2 then (
 some true)
 else (
((bif (a0.1 == 2) then (
 some (a0.1 == 2))
 else (
 some (a0.1 == 6))) : Option Bool).bind fun o3 =>
 bif o3 then (
 some (a1 == 1))
 else (
((bif (a0.1 == 3) then (
 some (a0.1 == 3))
 else (
((bif (a0.1 == 4) then (
 some (a0.1 == 4))
 else (
 some (a0.1 == 5))) : Option Bool).bind fun o4 =>
 some o4)) : Option Bool).bind fun o5 =>
 bif o5 then (
 some (a1 != 2))
 else (
((bif (a0.1 == 7) then (
 some (a0.1 == 7))
 else (
 some (a0.1 == 8))) : Option Bool).bind fun o6 =>
 bif o6 then (
 some (a1 == 2))
 else (
 some false)))))
def impl_ActFits_h : Hints := (.node none none .none (.node none none .none (.node none none (.node none none .none (.node none none (.node none none (.node none none .none (.node (some ⟨[.tmp 10 .bool], [none], none, []⟩) none .none .none)) (.node none none .none (.node none none (.node none none .none (.node (some ⟨[.tmp 13 .bool], [none], none, []⟩) none .none .none)) (.node none none .none (.node none none (.node none none .none (.node (some ⟨[.tmp 18 .bool], [none], none, []⟩) none .none (.node none none .none (.node (some ⟨[.tmp 18 .bool], [none], none, []⟩) none .none .none)))) (.node none none .none (.node none none (.node none none .none (.node (some ⟨[.tmp 24 .bool], [none], none, []⟩) none .none .none)) .none))))))) .none)) .none)))
def impl_ActFits_c : Ct := .pure true false (.pair T_Act (.pair (.int .i64) .unit)) .bool (fun x => impl_ActFits x.1 x.2.1)
theorem impl_ActFits_ct : CtOk Tryz.prog 90 impl_ActFits_c := pure_ct (E := { T := tab, G := [(103, impl_isKind_c)] }) (EnvOk.cons impl_isKind_ct (EnvOk.nil tabOk)) mixed (fn := Tryz.f90) _ _ _ _ _ impl_ActFits_h Tryz.func90 (by kernel_rfl) (fun x => by kernel_rfl)
/-! loop.example/g00486/impl.EffectOk -/
def impl_EffectOk (a0 : T_Effect.D) : Option Bool :=
((bif (a0.2.2.2.2.2.2.1.1 == 2) then (
 some 0)
 else (
 some (-1))) : Option Int).bind fun o1 =>
(impl_isId a0.1).bind fun y2 =>
 bif y2 then (
(impl_isPlayer a0.2.1).bind fun y3 =>
 bif y3 then (
(impl_from a0.2.2.1 0 99).bind fun y4 =>
 bif y4 then (
(impl_from a0.2.2.2.1 0 4).bind fun y5 =>
 bif y5 then (
 bif (a0.2.2.2.1 != 0) then (
(impl_PatOk a0.2.2.2.2.1).bind fun y6 =>
 bif y6 then (
(impl_GuardOk a0.2.2.2.2.2.1).bind fun y7 =>
 bif y7 then (
(impl_ActOk a0.2.2.2.2.2.2.1).bind fun y8 =>
 bif y8 then (
(impl_ActFits a0.2.2.2.2.2.2.1 a0.2.2.2.2.1.1).bind fun y9 =>
 bif y9 then (
(impl_from a0.2.2.2.2.2.2.2.1 (-1) 9999).bind fun y10 =>
 bif y10 then (
(impl_from a0.2.2.2.2.2.2.2.2.1 o1 2147483647).bind fun y11 =>
 some y11)
 else (
 some false))
 else (
 some false))
 else (
 some false))
 else (
 some false))
 else (
 some false))
 else (
 bif (a0.2.2.1 != 0) then (
(impl_PatOk a0.2.2.2.2.1).bind fun y12 =>
 bif y12 then (
(impl_GuardOk a0.2.2.2.2.2.1).bind fun y13 =>
 bif y13 then (
(impl_ActOk a0.2.2.2.2.2.2.1).bind fun y14 =>
 bif y14 then (
(impl_ActFits a0.2.2.2.2.2.2.1 a0.2.2.2.2.1.1).bind fun y15 =>
 bif y15 then (
(impl_from a0.2.2.2.2.2.2.2.1 (-1) 9999).bind fun y16 =>
 bif y16 then (
(impl_from a0.2.2.2.2.2.2.2.2.1 o1 2147483647).bind fun y17 =>
 some y17)
 else (
 some false))
 else (
 some false))
 else (
 some false))
 else (
 some false))
 else (
 some false))
 else (
 some false)))
 else (
 some false))
 else (
 some false))
 else (
 some false))
 else (
 some false)
def impl_EffectOk_h : Hints := (.node none none .none (.node none none .none (.node none none (.node none none .none (.node (some ⟨[.tmp 3 (.int .i64)], [none], none, []⟩) none .none .none)) .none)))
def impl_EffectOk_c : Ct := .pure true false (.pair T_Effect .unit) .bool (fun x => impl_EffectOk x.1)
theorem impl_EffectOk_ct : CtOk Tryz.prog 58 impl_EffectOk_c := pure_ct (E := { T := tab, G := [(50, impl_from_c), (60, impl_isId_c), (61, impl_isPlayer_c), (87, impl_PatOk_c), (88, impl_GuardOk_c), (89, impl_ActOk_c), (90, impl_ActFits_c)] }) (EnvOk.cons impl_from_ct (EnvOk.cons impl_isId_ct (EnvOk.cons impl_isPlayer_ct (EnvOk.cons impl_PatOk_ct (EnvOk.cons impl_GuardOk_ct (EnvOk.cons impl_ActOk_ct (EnvOk.cons impl_ActFits_ct (EnvOk.nil tabOk)))))))) mixed (fn := Tryz.f58) _ _ _ _ _ impl_EffectOk_h Tryz.func58 (by kernel_rfl) (fun x => by kernel_rfl)
/-! loop.example/g00486/impl.TableOk -/
def impl_TableOk_l1 (a0 : (List T_Effect.D)) : Int → Option (Int ⊕ (Int ⊕ Bool)) := fun s1 =>
 bif decide (s1 < (a0.length : Int)) then (
 idx a0 s1 fun x2 =>
(((impl_EffectOk x2).bind fun y3 =>
 bif (!y3) then (
 some true)
 else (
 bif decide (s1 > 0) then (
 idx a0 (IntKind.wrap .i64 (s1 - 1)) fun x4 =>
 some (decide (x4.1 ≥ x2.1)))
 else (
 some false))) : Option Bool).bind fun o5 =>
 bif o5 then (
 some (.inr (.inr false)))
 else (
 some (.inl (IntKind.wrap .i64 (s1 + 1)))))
 else (
 some (.inr (.inl s1)))
def impl_TableOk (a0 : (List T_Effect.D)) : Option Bool :=
(while_ (impl_TableOk_l1 a0) 0).bind fun o6 =>
 match o6 with
| .inl s7 => (
 some (decide ((a0.length : Int) ≤ 5)))
| .inr o8 => (
 some o8)
def impl_TableOk_h : Hints := (.node none none .none (.node none none (.node none none .none (.node none none (.node none (some ⟨[.tmp 7 (.int .i64)], [some 0], some [.tmp 2 .bool], []⟩) (.node none none .none (.node none none .none (.node none none (.node none none (.node none none .none (.node none none (.node (some ⟨[.tmp 29 .bool], [none], none, []⟩) none .none .none) .none)) .none) .none))) .none) .none)) .none))
def impl_TableOk_c : Ct := .pure true false (.pair (.slice T_Effect) .unit) .bool (fun x => impl_TableOk x.1)
theorem impl_TableOk_ct : CtOk Tryz.prog 25 impl_TableOk_c := pure_ct (E := { T := tab, G := [(58, impl_EffectOk_c)] }) (EnvOk.cons impl_EffectOk_ct (EnvOk.nil tabOk)) mixed (fn := Tryz.f25) _ _ _ _ _ impl_TableOk_h Tryz.func25 (by kernel_rfl) (fun x => by kernel_rfl)
/-! slices.IndexFunc[[]loop.example/g00486/impl.Turn,loop.example/g00486/impl.Turn] -/
def slices_IndexFunc_impl_Turn_l1 (a0 : (List T_Turn.D)) (a1 : ((T_Turn.D × Unit) → Option Bool)) : Int → Option (Int ⊕ (Int ⊕ Int)) := fun s1 =>
 bif decide (s1 < (a0.length : Int)) then (
 idx a0 s1 fun x2 =>
(a1 (x2, ())).bind fun y3 =>
 bif y3 then (
 some (.inr (.inr s1)))
 else (
 some (.inl (IntKind.wrap .i64 (s1 + 1)))))
 else (
 some (.inr (.inl s1)))
def slices_IndexFunc_impl_Turn (a0 : (List T_Turn.D)) (a1 : ((T_Turn.D × Unit) → Option Bool)) : Option Int :=
(while_ (slices_IndexFunc_impl_Turn_l1 a0 a1) 0).bind fun o4 =>
 match o4 with
| .inl s5 => (
 some (-1))
| .inr o6 => (
 some o6)
def slices_IndexFunc_impl_Turn_h : Hints := (.node none none .none (.node none none (.node none none .none (.node none none (.node none (some ⟨[.tmp 8 (.int .i64)], [some 0], some [.tmp 4 (.int .i64)], []⟩) .none .none) .none)) .none))
def slices_IndexFunc_impl_Turn_c : Ct := .pure true false (.pair (.slice T_Turn) (.pair (.fn (.pair T_Turn .unit) .bool) .unit)) (.int .i64) (fun x => slices_IndexFunc_impl_Turn x.1 x.2.1)
theorem slices_IndexFunc_impl_Turn_ct : CtOk Tryz.prog 59 slices_IndexFunc_impl_Turn_c := pure_ct (E := { T := tab, G := [] }) (EnvOk.nil tabOk) mixed (fn := Tryz.f59) _ _ _ _ _ slices_IndexFunc_impl_Turn_h Tryz.func59 (by kernel_rfl) (fun x => by kernel_rfl)
/-! slices.ContainsFunc[[]loop.example/g00486/impl.Turn,loop.example/g00486/impl.Turn] -/
def slices_ContainsFunc_impl_Turn (a0 : (List T_Turn.D)) (a1 : ((T_Turn.D × Unit) → Option Bool)) : Option Bool :=
(slices_IndexFunc_impl_Turn a0 a1).bind fun y1 =>
 some (decide (y1 ≥ 0))
def slices_ContainsFunc_impl_Turn_c : Ct := .pure true false (.pair (.slice T_Turn) (.pair (.fn (.pair T_Turn .unit) .bool) .unit)) .bool (fun x => slices_ContainsFunc_impl_Turn x.1 x.2.1)
theorem slices_ContainsFunc_impl_Turn_ct : CtOk Tryz.prog 26 slices_ContainsFunc_impl_Turn_c := pure_ct (E := { T := tab, G := [(59, slices_IndexFunc_impl_Turn_c)] }) (EnvOk.cons slices_IndexFunc_impl_Turn_ct (EnvOk.nil tabOk)) mixed (fn := Tryz.f26) _ _ _ _ _ .none Tryz.func26 (by kernel_rfl) (fun x => by kernel_rfl)
/-! loop.example/g00486/impl.TurnOk$1 -/
def impl_TurnOk_1 (a0 : T_Event.D) : Option Bool :=
(impl_EventOk a0).bind fun y1 =>
 some (!y1)
def impl_TurnOk_1_c : Ct := .pure true false (.pair T_Event .unit) .bool (fun x => impl_TurnOk_1 x.1)
theorem impl_TurnOk_1_ct : CtOk Tryz.prog 64 impl_TurnOk_1_c := pure_ct (E := { T := tab, G := [(62, impl_EventOk_c)] }) (EnvOk.cons impl_EventOk_ct (EnvOk.nil tabOk)) mixed (fn := Tryz.f64) _ _ _ _ _ .none Tryz.func64 (by kernel_rfl) (fun x => by kernel_rfl)
/-! loop.example/g00486/impl.TurnOk -/
def impl_TurnOk (a0 : T_Turn.D) : Option Bool :=
(impl_isId a0.1).bind fun y1 =>
 bif y1 then (
(impl_isPlayer a0.2.1).bind fun y2 =>
 bif y2 then (
(impl_from a0.2.2.2.1 1 5).bind fun y3 =>
 bif y3 then (
(impl_from a0.2.2.1 0 (IntKind.wrap .i64 (a0.2.2.2.1 - 1))).bind fun y4 =>
 bif y4 then (
(impl_isAmount a0.2.2.2.2.2.2.1).bind fun y5 =>
 bif y5 then (
(impl_from a0.2.2.2.2.2.2.2.1 0 4).bind fun y6 =>
 bif y6 then (
(impl_EventOk a0.2.2.2.2.1).bind fun y7 =>
 bif y7 then (
 bif decide ((a0.2.2.2.2.2.1.length : Int) ≤ 3) then (
(slices_ContainsFunc_impl_Event a0.2.2.2.2.2.1 (fun q => impl_TurnOk_1 q.1)).bind fun y8 =>
 some (!y8))
 else (
 some false))
 else (
 some false))
 else (
 some false))
 else (
 some false))
 else (
 some false))
 else (
 some false))
 else (
 some false))
 else (
 some false)
def impl_TurnOk_c : Ct := .pure true false (.pair T_Turn .unit) .bool (fun x => impl_TurnOk x.1)
theorem impl_TurnOk_ct : CtOk Tryz.prog 28 impl_TurnOk_c := pure_ct (E := { T := tab, G := [(50, impl_from_c), (57, impl_isAmount_c), (60, impl_isId_c), (61, impl_isPlayer_c), (62, impl_EventOk_c), (63, slices_ContainsFunc_impl_Event_c), (64, impl_TurnOk_1_c)] }) (EnvOk.cons impl_from_ct (EnvOk.cons impl_isAmount_ct (EnvOk.cons impl_isId_ct (EnvOk.cons impl_isPlayer_ct (EnvOk.cons impl_EventOk_ct (EnvOk.cons slices_ContainsFunc_impl_Event_ct (EnvOk.cons impl_TurnOk_1_ct (EnvOk.nil tabOk)))))))) mixed (fn := Tryz.f28) _ _ _ _ _ .none Tryz.func28 (by kernel_rfl) (fun x => by kernel_rfl)
/-! loop.example/g00486/impl.GameOk$1 -/
def impl_GameOk_1 (a0 : T_Turn.D) : Option Bool :=
(impl_TurnOk a0).bind fun y1 =>
 some (!y1)
def impl_GameOk_1_c : Ct := .pure true false (.pair T_Turn .unit) .bool (fun x => impl_GameOk_1 x.1)
theorem impl_GameOk_1_ct : CtOk Tryz.prog 27 impl_GameOk_1_c := pure_ct (E := { T := tab, G := [(28, impl_TurnOk_c)] }) (EnvOk.cons impl_TurnOk_ct (EnvOk.nil tabOk)) mixed (fn := Tryz.f27) _ _ _ _ _ .none Tryz.func27 (by kernel_rfl) (fun x => by kernel_rfl)
/-! loop.example/g00486/impl.GameOk -/
def impl_GameOk (a0 : T_Game.D) : Option Bool :=
(impl_StateOk a0.1).bind fun y1 =>
 bif y1 then (
(impl_TableOk a0.2.1).bind fun y2 =>
 bif y2 then (
(slices_ContainsFunc_impl_Turn a0.2.2.2.2.2.1 (fun q => impl_GameOk_1 q.1)).bind fun y3 =>
 some (!y3))
 else (
 some false))
 else (
 some false)
def impl_GameOk_c : Ct := .pure true false (.pair T_Game .unit) .bool (fun x => impl_GameOk x.1)
theorem impl_GameOk_ct : CtOk Tryz.prog 7 impl_GameOk_c := pure_ct (E := { T := tab, G := [(24, impl_StateOk_c), (25, impl_TableOk_c), (26, slices_ContainsFunc_impl_Turn_c), (27, impl_GameOk_1_c)] }) (EnvOk.cons impl_StateOk_ct (EnvOk.cons impl_TableOk_ct (EnvOk.cons slices_ContainsFunc_impl_Turn_ct (EnvOk.cons impl_GameOk_1_ct (EnvOk.nil tabOk))))) mixed (fn := Tryz.f7) _ _ _ _ _ .none Tryz.func7 (by kernel_rfl) (fun x => by kernel_rfl)
/-! loop.example/g00486/laws.eqPiece -/
def laws_eqPiece (a0 : T_Piece.D) (a1 : T_Piece.D) : Option Bool :=
 bif (a0.1 != a1.1) then (
 some false)
 else (
 bif (a0.2.1 != a1.2.1) then (
 some false)
 else (
 bif (a0.2.2.1 != a1.2.2.1) then (
 some false)
 else (
 bif (a0.2.2.2.1 != a1.2.2.2.1) then (
 some false)
 else (
 bif (a0.2.2.2.2.1 != a1.2.2.2.2.1) then (
 some false)
 else (
 bif (a0.2.2.2.2.2.1 != a1.2.2.2.2.2.1) then (
 some false)
 else (
 bif (a0.2.2.2.2.2.2.1 != a1.2.2.2.2.2.2.1) then (
 some false)
 else (
 bif (a0.2.2.2.2.2.2.2.1 != a1.2.2.2.2.2.2.2.1) then (
 some false)
 else (
 bif (a0.2.2.2.2.2.2.2.2.1 != a1.2.2.2.2.2.2.2.2.1) then (
 some false)
 else (
 bif (a0.2.2.2.2.2.2.2.2.2.1 != a1.2.2.2.2.2.2.2.2.2.1) then (
 some false)
 else (
 bif (a0.2.2.2.2.2.2.2.2.2.2.1 != a1.2.2.2.2.2.2.2.2.2.2.1) then (
 some false)
 else (
 bif (a0.2.2.2.2.2.2.2.2.2.2.2.1 != a1.2.2.2.2.2.2.2.2.2.2.2.1) then (
 some false)
 else (
 bif (a0.2.2.2.2.2.2.2.2.2.2.2.2.1 != a1.2.2.2.2.2.2.2.2.2.2.2.2.1) then (
 some false)
 else (
 some true)))))))))))))
def laws_eqPiece_c : Ct := .pure true false (.pair T_Piece (.pair T_Piece .unit)) .bool (fun x => laws_eqPiece x.1 x.2.1)
theorem laws_eqPiece_ct : CtOk Tryz.prog 94 laws_eqPiece_c := pure_ct (E := { T := tab, G := [] }) (EnvOk.nil tabOk) mixed (fn := Tryz.f94) _ _ _ _ _ .none Tryz.func94 (by kernel_rfl) (fun x => by kernel_rfl)
/-! loop.example/g00486/laws.eqPieceS -/
def laws_eqPieceS_l1 (a0 : (List T_Piece.D)) (a1 : (List T_Piece.D)) : Int → Option (Int ⊕ (Int ⊕ Bool)) := fun s1 =>
 bif decide (s1 < (a0.length : Int)) then (
 idx a0 s1 fun x2 =>
 idx a1 s1 fun x3 =>
(laws_eqPiece x2 x3).bind fun y4 =>
 bif (!y4) then (
 some (.inr (.inr false)))
 else (
 some (.inl (IntKind.wrap .i64 (s1 + 1)))))
 else (
 some (.inr (.inl s1)))
def laws_eqPieceS (a0 : (List T_Piece.D)) (a1 : (List T_Piece.D)) : Option Bool :=
 bif ((a0.length : Int) != (a1.length : Int)) then (
 some false)
 else (
(while_ (laws_eqPieceS_l1 a0 a1) 0).bind fun o5 =>
 match o5 with
| .inl s6 => (
 some true)
| .inr o7 => (
 some o7))
def laws_eqPieceS_h : Hints := (.node none none .none (.node none none .none (.node none none (.node none none .none (.node none none (.node none (some ⟨[.tmp 5 (.int .i64)], [some 0], some [.tmp 4 .bool], []⟩) .none .none) .none)) .none)))
def laws_eqPieceS_c : Ct := .pure true false (.pair (.slice T_Piece) (.pair (.slice T_Piece) .unit)) .bool (fun x => laws_eqPieceS x.1 x.2.1)
theorem laws_eqPieceS_ct : CtOk Tryz.prog 65 laws_eqPieceS_c := pure_ct (E := { T := tab, G := [(94, laws_eqPiece_c)] }) (EnvOk.cons laws_eqPiece_ct (EnvOk.nil tabOk)) mixed (fn := Tryz.f65) _ _ _ _ _ laws_eqPieceS_h Tryz.func65 (by kernel_rfl) (fun x => by kernel_rfl)
/-! loop.example/g00486/laws.eqSide -/
def laws_eqSide (a0 : T_Side.D) (a1 : T_Side.D) : Option Bool :=
 bif (a0.1 != a1.1) then (
 some false)
 else (
 bif (a0.2.1 != a1.2.1) then (
 some false)
 else (
 bif (a0.2.2.1 != a1.2.2.1) then (
 some false)
 else (
 some true)))
def laws_eqSide_c : Ct := .pure true false (.pair T_Side (.pair T_Side .unit)) .bool (fun x => laws_eqSide x.1 x.2.1)
theorem laws_eqSide_ct : CtOk Tryz.prog 95 laws_eqSide_c := pure_ct (E := { T := tab, G := [] }) (EnvOk.nil tabOk) mixed (fn := Tryz.f95) _ _ _ _ _ .none Tryz.func95 (by kernel_rfl) (fun x => by kernel_rfl)
/-! loop.example/g00486/laws.eqSideS -/
def laws_eqSideS_l1 (a0 : (List T_Side.D)) (a1 : (List T_Side.D)) : Int → Option (Int ⊕ (Int ⊕ Bool)) := fun s1 =>
 bif decide (s1 < (a0.length : Int)) then (
 idx a0 s1 fun x2 =>
 idx a1 s1 fun x3 =>
(laws_eqSide x2 x3).bind fun y4 =>
 bif (!y4) then (
 some (.inr (.inr false)))
 else (
 some (.inl (IntKind.wrap .i64 (s1 + 1)))))
 else (
 some (.inr (.inl s1)))
def laws_eqSideS (a0 : (List T_Side.D)) (a1 : (List T_Side.D)) : Option Bool :=
 bif ((a0.length : Int) != (a1.length : Int)) then (
 some false)
 else (
(while_ (laws_eqSideS_l1 a0 a1) 0).bind fun o5 =>
 match o5 with
| .inl s6 => (
 some true)
| .inr o7 => (
 some o7))
def laws_eqSideS_h : Hints := (.node none none .none (.node none none .none (.node none none (.node none none .none (.node none none (.node none (some ⟨[.tmp 5 (.int .i64)], [some 0], some [.tmp 4 .bool], []⟩) .none .none) .none)) .none)))
def laws_eqSideS_c : Ct := .pure true false (.pair (.slice T_Side) (.pair (.slice T_Side) .unit)) .bool (fun x => laws_eqSideS x.1 x.2.1)
theorem laws_eqSideS_ct : CtOk Tryz.prog 66 laws_eqSideS_c := pure_ct (E := { T := tab, G := [(95, laws_eqSide_c)] }) (EnvOk.cons laws_eqSide_ct (EnvOk.nil tabOk)) mixed (fn := Tryz.f66) _ _ _ _ _ laws_eqSideS_h Tryz.func66 (by kernel_rfl) (fun x => by kernel_rfl)
/-! loop.example/g00486/laws.eqState -/
def laws_eqState (a0 : T_State.D) (a1 : T_State.D) : Option Bool :=
(laws_eqPieceS a0.1 a1.1).bind fun y1 =>
 bif (!y1) then (
 some false)
 else (
(laws_eqSideS a0.2.1 a1.2.1).bind fun y2 =>
 bif (!y2) then (
 some false)
 else (
 bif (a0.2.2.1 != a1.2.2.1) then (
 some false)
 else (
 bif (a0.2.2.2.1 != a1.2.2.2.1) then (
 some false)
 else (
 some true))))
def laws_eqState_c : Ct := .pure true false (.pair T_State (.pair T_State .unit)) .bool (fun x => laws_eqState x.1 x.2.1)
theorem laws_eqState_ct : CtOk Tryz.prog 29 laws_eqState_c := pure_ct (E := { T := tab, G := [(65, laws_eqPieceS_c), (66, laws_eqSideS_c)] }) (EnvOk.cons laws_eqPieceS_ct (EnvOk.cons laws_eqSideS_ct (EnvOk.nil tabOk))) mixed (fn := Tryz.f29) _ _ _ _ _ .none Tryz.func29 (by kernel_rfl) (fun x => by kernel_rfl)
/-! loop.example/g00486/laws.eqPat -/
def laws_eqPat (a0 : T_Pat.D) (a1 : T_Pat.D) : Option Bool :=
 bif (a0.1 != a1.1) then (
 some false)
 else (
 bif (a0.2.1 != a1.2.1) then (
 some false)
 else (
 bif (a0.2.2.1 != a1.2.2.1) then (
 some false)
 else (
 bif (a0.2.2.2.1 != a1.2.2.2.1) then (
 some false)
 else (
 bif (a0.2.2.2.2.1 != a1.2.2.2.2.1) then (
 some false)
 else (
 bif (a0.2.2.2.2.2.1 != a1.2.2.2.2.2.1) then (
 some false)
 else (
 bif (a0.2.2.2.2.2.2.1 != a1.2.2.2.2.2.2.1) then (
 some false)
 else (
 some true)))))))
def laws_eqPat_c : Ct := .pure true false (.pair T_Pat (.pair T_Pat .unit)) .bool (fun x => laws_eqPat x.1 x.2.1)
theorem laws_eqPat_ct : CtOk Tryz.prog 96 laws_eqPat_c := pure_ct (E := { T := tab, G := [] }) (EnvOk.nil tabOk) mixed (fn := Tryz.f96) _ _ _ _ _ .none Tryz.func96 (by kernel_rfl) (fun x => by kernel_rfl)
/-! loop.example/g00486/laws.eqGuard -/
def laws_eqGuard (a0 : T_Guard.D) (a1 : T_Guard.D) : Option Bool :=
 bif (a0.1 != a1.1) then (
 some false)
 else (
 bif (a0.2.1 != a1.2.1) then (
 some false)
 else (
 some true))
def laws_eqGuard_c : Ct := .pure true false (.pair T_Guard (.pair T_Guard .unit)) .bool (fun x => laws_eqGuard x.1 x.2.1)
theorem laws_eqGuard_ct : CtOk Tryz.prog 97 laws_eqGuard_c := pure_ct (E := { T := tab, G := [] }) (EnvOk.nil tabOk) mixed (fn := Tryz.f97) _ _ _ _ _ .none Tryz.func97 (by kernel_rfl) (fun x => by kernel_rfl)
/-! loop.example/g00486/laws.eqEvent -/
def laws_eqEvent (a0 : T_Event.D) (a1 : T_Event.D) : Option Bool :=
 bif (a0.1 != a1.1) then (
 some false)
 else (
 bif (a0.2.1 != a1.2.1) then (
 some false)
 else (
 bif (a0.2.2.1 != a1.2.2.1) then (
 some false)
 else (
 bif (a0.2.2.2.1 != a1.2.2.2.1) then (
 some false)
 else (
 bif (a0.2.2.2.2.1 != a1.2.2.2.2.1) then (
 some false)
 else (
 bif (a0.2.2.2.2.2.1 != a1.2.2.2.2.2.1) then (
 some false)
 else (
 bif (a0.2.2.2.2.2.2.1 != a1.2.2.2.2.2.2.1) then (
 some false)
 else (
 some true)))))))
def laws_eqEvent_c : Ct := .pure true false (.pair T_Event (.pair T_Event .unit)) .bool (fun x => laws_eqEvent x.1 x.2.1)
theorem laws_eqEvent_ct : CtOk Tryz.prog 99 laws_eqEvent_c := pure_ct (E := { T := tab, G := [] }) (EnvOk.nil tabOk) mixed (fn := Tryz.f99) _ _ _ _ _ .none Tryz.func99 (by kernel_rfl) (fun x => by kernel_rfl)
/-! loop.example/g00486/laws.eqEventS -/
def laws_eqEventS_l1 (a0 : (List T_Event.D)) (a1 : (List T_Event.D)) : Int → Option (Int ⊕ (Int ⊕ Bool)) := fun s1 =>
 bif decide (s1 < (a0.length : Int)) then (
 idx a0 s1 fun x2 =>
 idx a1 s1 fun x3 =>
(laws_eqEvent x2 x3).bind fun y4 =>
 bif (!y4) then (
 some (.inr (.inr false)))
 else (
 some (.inl (IntKind.wrap .i64 (s1 + 1)))))
 else (
 some (.inr (.inl s1)))
def laws_eqEventS (a0 : (List T_Event.D)) (a1 : (List T_Event.D)) : Option Bool :=
 bif ((a0.length : Int) != (a1.length : Int)) then (
 some false)
 else (
(while_ (laws_eqEventS_l1 a0 a1) 0).bind fun o5 =>
 match o5 with
| .inl s6 => (
 some true)
| .inr o7 => (
 some o7))
def laws_eqEventS_h : Hints := (.node none none .none (.node none none .none (.node none none (.node none none .none (.node none none (.node none (some ⟨[.tmp 5 (.int .i64)], [some 0], some [.tmp 4 .bool], []⟩) .none .none) .none)) .none)))
def laws_eqEventS_c : Ct := .pure true false (.pair (.slice T_Event) (.pair (.slice T_Event) .unit)) .bool (fun x => laws_eqEventS x.1 x.2.1)
theorem laws_eqEventS_ct : CtOk Tryz.prog 100 laws_eqEventS_c := pure_ct (E := { T := tab, G := [(99, laws_eqEvent_c)] }) (EnvOk.cons laws_eqEvent_ct (EnvOk.nil tabOk)) mixed (fn := Tryz.f100) _ _ _ _ _ laws_eqEventS_h Tryz.func100 (by kernel_rfl) (fun x => by kernel_rfl)
/-! loop.example/g00486/laws.eqAct -/
def laws_eqAct (a0 : T_Act.D) (a1 : T_Act.D) : Option Bool :=
 bif (a0.1 != a1.1) then (
 some false)
 else (
 bif (a0.2.1 != a1.2.1) then (
 some false)
 else (
 bif (a0.2.2.1 != a1.2.2.1) then (
 some false)
 else (
 bif (a0.2.2.2.1 != a1.2.2.2.1) then (
 some false)
 else (
 bif (a0.2.2.2.2.1 != a1.2.2.2.2.1) then (
 some false)
 else (
 bif (a0.2.2.2.2.2.1 != a1.2.2.2.2.2.1) then (
 some false)
 else (
(laws_eqEventS a0.2.2.2.2.2.2.1 a1.2.2.2.2.2.2.1).bind fun y1 =>
 bif (!y1) then (
 some false)
 else (
 some true)))))))
def laws_eqAct_c : Ct := .pure true false (.pair T_Act (.pair T_Act .unit)) .bool (fun x => laws_eqAct x.1 x.2.1)
theorem laws_eqAct_ct : CtOk Tryz.prog 98 laws_eqAct_c := pure_ct (E := { T := tab, G := [(100, laws_eqEventS_c)] }) (EnvOk.cons laws_eqEventS_ct (EnvOk.nil tabOk)) mixed (fn := Tryz.f98) _ _ _ _ _ .none Tryz.func98 (by kernel_rfl) (fun x => by kernel_rfl)
/-! loop.example/g00486/laws.eqEffect -/
def laws_eqEffect (a0 : T_Effect.D) (a1 : T_Effect.D) : Option Bool :=
 bif (a0.1 != a1.1) then (
 some false)
 else (
 bif (a0.2.1 != a1.2.1) then (
 some false)
 else (
 bif (a0.2.2.1 != a1.2.2.1) then (
 some false)
 else (
 bif (a0.2.2.2.1 != a1.2.2.2.1) then (
 some false)
 else (
(laws_eqPat a0.2.2.2.2.1 a1.2.2.2.2.1).bind fun y1 =>
 bif (!y1) then (
 some false)
 else (
(laws_eqGuard a0.2.2.2.2.2.1 a1.2.2.2.2.2.1).bind fun y2 =>
 bif (!y2) then (
 some false)
 else (
(laws_eqAct a0.2.2.2.2.2.2.1 a1.2.2.2.2.2.2.1).bind fun y3 =>
 bif (!y3) then (
 some false)
 else (
 bif (a0.2.2.2.2.2.2.2.1 != a1.2.2.2.2.2.2.2.1) then (
 some false)
 else (
 bif (a0.2.2.2.2.2.2.2.2.1 != a1.2.2.2.2.2.2.2.2.1) then (
 some false)
 else (
 some true)))))))))
def laws_eqEffect_c : Ct := .pure true false (.pair T_Effect (.pair T_Effect .unit)) .bool (fun x => laws_eqEffect x.1 x.2.1)
theorem laws_eqEffect_ct : CtOk Tryz.prog 67 laws_eqEffect_c := pure_ct (E := { T := tab, G := [(96, laws_eqPat_c), (97, laws_eqGuard_c), (98, laws_eqAct_c)] }) (EnvOk.cons laws_eqPat_ct (EnvOk.cons laws_eqGuard_ct (EnvOk.cons laws_eqAct_ct (EnvOk.nil tabOk)))) mixed (fn := Tryz.f67) _ _ _ _ _ .none Tryz.func67 (by kernel_rfl) (fun x => by kernel_rfl)
/-! loop.example/g00486/laws.eqEffectS -/
def laws_eqEffectS_l1 (a0 : (List T_Effect.D)) (a1 : (List T_Effect.D)) : Int → Option (Int ⊕ (Int ⊕ Bool)) := fun s1 =>
 bif decide (s1 < (a0.length : Int)) then (
 idx a0 s1 fun x2 =>
 idx a1 s1 fun x3 =>
(laws_eqEffect x2 x3).bind fun y4 =>
 bif (!y4) then (
 some (.inr (.inr false)))
 else (
 some (.inl (IntKind.wrap .i64 (s1 + 1)))))
 else (
 some (.inr (.inl s1)))
def laws_eqEffectS (a0 : (List T_Effect.D)) (a1 : (List T_Effect.D)) : Option Bool :=
 bif ((a0.length : Int) != (a1.length : Int)) then (
 some false)
 else (
(while_ (laws_eqEffectS_l1 a0 a1) 0).bind fun o5 =>
 match o5 with
| .inl s6 => (
 some true)
| .inr o7 => (
 some o7))
def laws_eqEffectS_h : Hints := (.node none none .none (.node none none .none (.node none none (.node none none .none (.node none none (.node none (some ⟨[.tmp 5 (.int .i64)], [some 0], some [.tmp 4 .bool], []⟩) .none .none) .none)) .none)))
def laws_eqEffectS_c : Ct := .pure true false (.pair (.slice T_Effect) (.pair (.slice T_Effect) .unit)) .bool (fun x => laws_eqEffectS x.1 x.2.1)
theorem laws_eqEffectS_ct : CtOk Tryz.prog 30 laws_eqEffectS_c := pure_ct (E := { T := tab, G := [(67, laws_eqEffect_c)] }) (EnvOk.cons laws_eqEffect_ct (EnvOk.nil tabOk)) mixed (fn := Tryz.f30) _ _ _ _ _ laws_eqEffectS_h Tryz.func30 (by kernel_rfl) (fun x => by kernel_rfl)
/-! loop.example/g00486/laws.eqIntS -/
def laws_eqIntS_l1 (a0 : (List Int)) (a1 : (List Int)) : Int → Option (Int ⊕ (Int ⊕ Bool)) := fun s1 =>
 bif decide (s1 < (a0.length : Int)) then (
 idx a0 s1 fun x2 =>
 idx a1 s1 fun x3 =>
 bif (x2 != x3) then (
 some (.inr (.inr false)))
 else (
 some (.inl (IntKind.wrap .i64 (s1 + 1)))))
 else (
 some (.inr (.inl s1)))
def laws_eqIntS (a0 : (List Int)) (a1 : (List Int)) : Option Bool :=
 bif ((a0.length : Int) != (a1.length : Int)) then (
 some false)
 else (
(while_ (laws_eqIntS_l1 a0 a1) 0).bind fun o4 =>
 match o4 with
| .inl s5 => (
 some true)
| .inr o6 => (
 some o6))
def laws_eqIntS_h : Hints := (.node none none .none (.node none none .none (.node none none (.node none none .none (.node none none (.node none (some ⟨[.tmp 5 (.int .i64)], [some 0], some [.tmp 4 .bool], []⟩) .none .none) .none)) .none)))
def laws_eqIntS_c : Ct := .pure true false (.pair (.slice (.int .i64)) (.pair (.slice (.int .i64)) .unit)) .bool (fun x => laws_eqIntS x.1 x.2.1)
theorem laws_eqIntS_ct : CtOk Tryz.prog 31 laws_eqIntS_c := pure_ct (E := { T := tab, G := [] }) (EnvOk.nil tabOk) mixed (fn := Tryz.f31) _ _ _ _ _ laws_eqIntS_h Tryz.func31 (by kernel_rfl) (fun x => by kernel_rfl)
/-! loop.example/g00486/laws.eqTrigger -/
def laws_eqTrigger (a0 : T_Trigger.D) (a1 : T_Trigger.D) : Option Bool :=
 bif (a0.1 != a1.1) then (
 some false)
 else (
 bif (a0.2.1 != a1.2.1) then (
 some false)
 else (
 bif (a0.2.2.1 != a1.2.2.1) then (
 some false)
 else (
(laws_eqPiece a0.2.2.2.1 a1.2.2.2.1).bind fun y1 =>
 bif (!y1) then (
 some false)
 else (
 some true))))
def laws_eqTrigger_c : Ct := .pure true false (.pair T_Trigger (.pair T_Trigger .unit)) .bool (fun x => laws_eqTrigger x.1 x.2.1)
theorem laws_eqTrigger_ct : CtOk Tryz.prog 68 laws_eqTrigger_c := pure_ct (E := { T := tab, G := [(94, laws_eqPiece_c)] }) (EnvOk.cons laws_eqPiece_ct (EnvOk.nil tabOk)) mixed (fn := Tryz.f68) _ _ _ _ _ .none Tryz.func68 (by kernel_rfl) (fun x => by kernel_rfl)
/-! loop.example/g00486/laws.eqTriggerS -/
def laws_eqTriggerS_l1 (a0 : (List T_Trigger.D)) (a1 : (List T_Trigger.D)) : Int → Option (Int ⊕ (Int ⊕ Bool)) := fun s1 =>
 bif decide (s1 < (a0.length : Int)) then (
 idx a0 s1 fun x2 =>
 idx a1 s1 fun x3 =>
(laws_eqTrigger x2 x3).bind fun y4 =>
 bif (!y4) then (
 some (.inr (.inr false)))
 else (
 some (.inl (IntKind.wrap .i64 (s1 + 1)))))
 else (
 some (.inr (.inl s1)))
def laws_eqTriggerS (a0 : (List T_Trigger.D)) (a1 : (List T_Trigger.D)) : Option Bool :=
 bif ((a0.length : Int) != (a1.length : Int)) then (
 some false)
 else (
(while_ (laws_eqTriggerS_l1 a0 a1) 0).bind fun o5 =>
 match o5 with
| .inl s6 => (
 some true)
| .inr o7 => (
 some o7))
def laws_eqTriggerS_h : Hints := (.node none none .none (.node none none .none (.node none none (.node none none .none (.node none none (.node none (some ⟨[.tmp 5 (.int .i64)], [some 0], some [.tmp 4 .bool], []⟩) .none .none) .none)) .none)))
def laws_eqTriggerS_c : Ct := .pure true false (.pair (.slice T_Trigger) (.pair (.slice T_Trigger) .unit)) .bool (fun x => laws_eqTriggerS x.1 x.2.1)
theorem laws_eqTriggerS_ct : CtOk Tryz.prog 32 laws_eqTriggerS_c := pure_ct (E := { T := tab, G := [(68, laws_eqTrigger_c)] }) (EnvOk.cons laws_eqTrigger_ct (EnvOk.nil tabOk)) mixed (fn := Tryz.f32) _ _ _ _ _ laws_eqTriggerS_h Tryz.func32 (by kernel_rfl) (fun x => by kernel_rfl)
/-! loop.example/g00486/laws.eqNote -/
def laws_eqNote (a0 : T_Note.D) (a1 : T_Note.D) : Option Bool :=
 bif (a0.1 != a1.1) then (
 some false)
 else (
(laws_eqEvent a0.2.1 a1.2.1).bind fun y1 =>
 bif (!y1) then (
 some false)
 else (
 bif (a0.2.2.1 != a1.2.2.1) then (
 some false)
 else (
 bif (a0.2.2.2.1 != a1.2.2.2.1) then (
 some false)
 else (
(laws_eqPiece a0.2.2.2.2.1 a1.2.2.2.2.1).bind fun y2 =>
 bif (!y2) then (
 some false)
 else (
 some true)))))
def laws_eqNote_c : Ct := .pure true false (.pair T_Note (.pair T_Note .unit)) .bool (fun x => laws_eqNote x.1 x.2.1)
theorem laws_eqNote_ct : CtOk Tryz.prog 69 laws_eqNote_c := pure_ct (E := { T := tab, G := [(94, laws_eqPiece_c), (99, laws_eqEvent_c)] }) (EnvOk.cons laws_eqPiece_ct (EnvOk.cons laws_eqEvent_ct (EnvOk.nil tabOk))) mixed (fn := Tryz.f69) _ _ _ _ _ .none Tryz.func69 (by kernel_rfl) (fun x => by kernel_rfl)
/-! loop.example/g00486/laws.eqNoteS -/
def laws_eqNoteS_l1 (a0 : (List T_Note.D)) (a1 : (List T_Note.D)) : Int → Option (Int ⊕ (Int ⊕ Bool)) := fun s1 =>
 bif decide (s1 < (a0.length : Int)) then (
 idx a0 s1 fun x2 =>
 idx a1 s1 fun x3 =>
(laws_eqNote x2 x3).bind fun y4 =>
 bif (!y4) then (
 some (.inr (.inr false)))
 else (
 some (.inl (IntKind.wrap .i64 (s1 + 1)))))
 else (
 some (.inr (.inl s1)))
def laws_eqNoteS (a0 : (List T_Note.D)) (a1 : (List T_Note.D)) : Option Bool :=
 bif ((a0.length : Int) != (a1.length : Int)) then (
 some false)
 else (
(while_ (laws_eqNoteS_l1 a0 a1) 0).bind fun o5 =>
 match o5 with
| .inl s6 => (
 some true)
| .inr o7 => (
 some o7))
def laws_eqNoteS_h : Hints := (.node none none .none (.node none none .none (.node none none (.node none none .none (.node none none (.node none (some ⟨[.tmp 5 (.int .i64)], [some 0], some [.tmp 4 .bool], []⟩) .none .none) .none)) .none)))
def laws_eqNoteS_c : Ct := .pure true false (.pair (.slice T_Note) (.pair (.slice T_Note) .unit)) .bool (fun x => laws_eqNoteS x.1 x.2.1)
theorem laws_eqNoteS_ct : CtOk Tryz.prog 33 laws_eqNoteS_c := pure_ct (E := { T := tab, G := [(69, laws_eqNote_c)] }) (EnvOk.cons laws_eqNote_ct (EnvOk.nil tabOk)) mixed (fn := Tryz.f33) _ _ _ _ _ laws_eqNoteS_h Tryz.func33 (by kernel_rfl) (fun x => by kernel_rfl)
/-! loop.example/g00486/laws.eqTurn -/
def laws_eqTurn (a0 : T_Turn.D) (a1 : T_Turn.D) : Option Bool :=
 bif (a0.1 != a1.1) then (
 some false)
 else (
 bif (a0.2.1 != a1.2.1) then (
 some false)
 else (
 bif (a0.2.2.1 != a1.2.2.1) then (
 some false)
 else (
 bif (a0.2.2.2.1 != a1.2.2.2.1) then (
 some false)
 else (
(laws_eqEvent a0.2.2.2.2.1 a1.2.2.2.2.1).bind fun y1 =>
 bif (!y1) then (
 some false)
 else (
(laws_eqEventS a0.2.2.2.2.2.1 a1.2.2.2.2.2.1).bind fun y2 =>
 bif (!y2) then (
 some false)
 else (
 bif (a0.2.2.2.2.2.2.1 != a1.2.2.2.2.2.2.1) then (
 some false)
 else (
 bif (a0.2.2.2.2.2.2.2.1 != a1.2.2.2.2.2.2.2.1) then (
 some false)
 else (
 some true))))))))
def laws_eqTurn_c : Ct := .pure true false (.pair T_Turn (.pair T_Turn .unit)) .bool (fun x => laws_eqTurn x.1 x.2.1)
theorem laws_eqTurn_ct : CtOk Tryz.prog 70 laws_eqTurn_c := pure_ct (E := { T := tab, G := [(99, laws_eqEvent_c), (100, laws_eqEventS_c)] }) (EnvOk.cons laws_eqEvent_ct (EnvOk.cons laws_eqEventS_ct (EnvOk.nil tabOk))) mixed (fn := Tryz.f70) _ _ _ _ _ .none Tryz.func70 (by kernel_rfl) (fun x => by kernel_rfl)
/-! loop.example/g00486/laws.eqTurnS -/
def laws_eqTurnS_l1 (a0 : (List T_Turn.D)) (a1 : (List T_Turn.D)) : Int → Option (Int ⊕ (Int ⊕ Bool)) := fun s1 =>
 bif decide (s1 < (a0.length : Int)) then (
 idx a0 s1 fun x2 =>
 idx a1 s1 fun x3 =>
(laws_eqTurn x2 x3).bind fun y4 =>
 bif (!y4) then (
 some (.inr (.inr false)))
 else (
 some (.inl (IntKind.wrap .i64 (s1 + 1)))))
 else (
 some (.inr (.inl s1)))
def laws_eqTurnS (a0 : (List T_Turn.D)) (a1 : (List T_Turn.D)) : Option Bool :=
 bif ((a0.length : Int) != (a1.length : Int)) then (
 some false)
 else (
(while_ (laws_eqTurnS_l1 a0 a1) 0).bind fun o5 =>
 match o5 with
| .inl s6 => (
 some true)
| .inr o7 => (
 some o7))
def laws_eqTurnS_h : Hints := (.node none none .none (.node none none .none (.node none none (.node none none .none (.node none none (.node none (some ⟨[.tmp 5 (.int .i64)], [some 0], some [.tmp 4 .bool], []⟩) .none .none) .none)) .none)))
def laws_eqTurnS_c : Ct := .pure true false (.pair (.slice T_Turn) (.pair (.slice T_Turn) .unit)) .bool (fun x => laws_eqTurnS x.1 x.2.1)
theorem laws_eqTurnS_ct : CtOk Tryz.prog 34 laws_eqTurnS_c := pure_ct (E := { T := tab, G := [(70, laws_eqTurn_c)] }) (EnvOk.cons laws_eqTurn_ct (EnvOk.nil tabOk)) mixed (fn := Tryz.f34) _ _ _ _ _ laws_eqTurnS_h Tryz.func34 (by kernel_rfl) (fun x => by kernel_rfl)
/-! loop.example/g00486/laws.eqGame -/
def laws_eqGame (a0 : T_Game.D) (a1 : T_Game.D) : Option Bool :=
(laws_eqState a0.1 a1.1).bind fun y1 =>
 bif (!y1) then (
 some false)
 else (
(laws_eqEffectS a0.2.1 a1.2.1).bind fun y2 =>
 bif (!y2) then (
 some false)
 else (
(laws_eqIntS a0.2.2.1 a1.2.2.1).bind fun y3 =>
 bif (!y3) then (
 some false)
 else (
(laws_eqTriggerS a0.2.2.2.1 a1.2.2.2.1).bind fun y4 =>
 bif (!y4) then (
 some false)
 else (
(laws_eqNoteS a0.2.2.2.2.1 a1.2.2.2.2.1).bind fun y5 =>
 bif (!y5) then (
 some false)
 else (
(laws_eqTurnS a0.2.2.2.2.2.1 a1.2.2.2.2.2.1).bind fun y6 =>
 bif (!y6) then (
 some false)
 else (
 some true))))))
def laws_eqGame_c : Ct := .pure true false (.pair T_Game (.pair T_Game .unit)) .bool (fun x => laws_eqGame x.1 x.2.1)
theorem laws_eqGame_ct : CtOk Tryz.prog 8 laws_eqGame_c := pure_ct (E := { T := tab, G := [(29, laws_eqState_c), (30, laws_eqEffectS_c), (31, laws_eqIntS_c), (32, laws_eqTriggerS_c), (33, laws_eqNoteS_c), (34, laws_eqTurnS_c)] }) (EnvOk.cons laws_eqState_ct (EnvOk.cons laws_eqEffectS_ct (EnvOk.cons laws_eqIntS_ct (EnvOk.cons laws_eqTriggerS_ct (EnvOk.cons laws_eqNoteS_ct (EnvOk.cons laws_eqTurnS_ct (EnvOk.nil tabOk))))))) mixed (fn := Tryz.f8) _ _ _ _ _ .none Tryz.func8 (by kernel_rfl) (fun x => by kernel_rfl)
/-! loop.example/g00486/laws.FnExactGameOk -/
def laws_FnExactGameOk (a0 : T_Game.D) : Option Bool :=
(laws_szGame a0 1048576).bind fun y1 =>
 bif decide (y1 < 0) then (
 some true)
 else (
(laws_toGame a0).bind fun y2 =>
(spec_GameOk y2).bind fun y3 =>
(laws_toGame a0).bind fun y4 =>
(impl_GameOk y4).bind fun y5 =>
 bif (y5 != y3) then (
 some false)
 else (
(laws_toGame a0).bind fun y6 =>
(laws_eqGame y4 y6).bind fun y7 =>
 bif (!y7) then (
 some false)
 else (
 some true)))
def laws_FnExactGameOk_c : Ct := .pure true false (.pair T_Game .unit) .bool (fun x => laws_FnExactGameOk x.1)
theorem laws_FnExactGameOk_ct : CtOk Tryz.prog 3 laws_FnExactGameOk_c := pure_ct (E := { T := tab, G := [(4, laws_szGame_c), (5, spec_GameOk_c), (6, laws_toGame_fresh_c), (7, impl_GameOk_c), (8, laws_eqGame_c)] }) (EnvOk.cons laws_szGame_ct (EnvOk.cons spec_GameOk_ct (EnvOk.cons laws_toGame_fresh_ct (EnvOk.cons impl_GameOk_ct (EnvOk.cons laws_eqGame_ct (EnvOk.nil tabOk)))))) mixed (fn := Tryz.f3) _ _ _ _ _ .none Tryz.func3 (by kernel_rfl) (fun x => by kernel_rfl)
end
end Go.Abs
