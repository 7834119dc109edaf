import Derived.Test.YtenadnbpibhmiaaGreatProg
import Derived.Test.YtenadnbpibhmiaaGreatAbsTab
set_option linter.unusedVariables false
set_option linter.unusedSimpArgs false
namespace Go.Abs
open Go.Proofs
set_option maxRecDepth 100000
noncomputable section
@[reducible] def T_Piece : Ty := (.pair (.int .i64) (.pair (.int .i64) (.pair (.int .i64) (.pair (.int .i64) (.pair (.int .i64) (.pair (.int .i64) (.pair (.int .i64) (.pair (.int .i64) (.pair (.int .i64) (.pair (.int .i64) (.pair (.int .i64) (.pair .bool (.pair .bool .unit)))))))))))))
@[reducible] def T_Side : Ty := (.pair (.int .i64) (.pair (.int .i64) (.pair .bool .unit)))
@[reducible] def T_State : Ty := (.pair (.slice T_Piece) (.pair (.slice T_Side) (.pair (.int .i64) (.pair (.int .i64) .unit))))
@[reducible] def T_Pat : Ty := (.pair (.int .i64) (.pair (.int .i64) (.pair (.int .i64) (.pair (.int .i64) (.pair (.int .i64) (.pair (.int .i64) (.pair (.int .i64) .unit)))))))
@[reducible] def T_Guard : Ty := (.pair (.int .i64) (.pair (.int .i64) .unit))
@[reducible] def T_Event : Ty := (.pair (.int .i64) (.pair (.int .i64) (.pair (.int .i64) (.pair (.int .i64) (.pair (.int .i64) (.pair (.int .i64) (.pair .bool .unit)))))))
@[reducible] def T_Act : Ty := (.pair (.int .i64) (.pair (.int .i64) (.pair (.int .i64) (.pair (.int .i64) (.pair (.int .i64) (.pair .bool (.pair (.slice T_Event) .unit)))))))
@[reducible] def T_Effect : Ty := (.pair (.int .i64) (.pair (.int .i64) (.pair (.int .i64) (.pair (.int .i64) (.pair T_Pat (.pair T_Guard (.pair T_Act (.pair (.int .i64) (.pair (.int .i64) .unit)))))))))
@[reducible] def T_Turn : Ty := (.pair (.int .i64) (.pair (.int .i64) (.pair (.int .i64) (.pair (.int .i64) (.pair T_Event (.pair (.slice T_Event) (.pair (.int .i64) (.pair (.int .i64) .unit))))))))
@[reducible] def T_StateV : Ty := (.pair (.vw T_Piece) (.pair (.vw T_Side) (.pair (.int .i64) (.pair (.int .i64) .unit))))
@[reducible] def T_Run : Ty := (.pair T_StateV (.pair (.slice T_Effect) (.pair (.slice (.int .i64)) (.pair (.slice T_Event) (.pair (.slice T_Turn) .unit)))))
@[reducible] def T_Fate : Ty := (.pair (.slice T_Event) (.pair (.slice T_Effect) (.pair (.slice (.int .i64)) (.pair (.slice T_Turn) .unit))))
@[reducible] def T_TurnV : Ty := (.pair (.int .i64) (.pair (.int .i64) (.pair (.int .i64) (.pair (.int .i64) (.pair T_Event (.pair (.vw T_Event) (.pair (.int .i64) (.pair (.int .i64) .unit))))))))
@[reducible] def T_FateV : Ty := (.pair (.slice T_Event) (.pair (.slice T_Effect) (.pair (.slice (.int .i64)) (.pair (.slice T_TurnV) .unit))))
@[reducible] def T_Wr : Ty := (.pair T_StateV (.pair T_FateV .unit))
@[reducible] def T_l14Run : Ty := (.pair T_State (.pair (.slice T_Effect) (.pair (.slice (.int .i64)) (.pair (.slice T_Event) (.pair (.slice T_Turn) .unit)))))
@[reducible] def T_S7 : Ty := (.pair (.int .i64) (.pair (.int .i64) (.pair .bool (.pair (.int .u8) .unit))))
@[reducible] def T_Trigger : Ty := (.pair (.int .i64) (.pair (.int .i64) (.pair (.int .i64) (.pair T_Piece .unit))))
@[reducible] def T_Note : Ty := (.pair (.int .i64) (.pair T_Event (.pair (.int .i64) (.pair (.int .i64) (.pair T_Piece .unit)))))
@[reducible] def T_S33 : Ty := (.pair T_State (.pair (.slice T_Effect) (.pair (.slice (.int .i64)) (.pair (.slice T_Trigger) (.pair (.slice T_Note) (.pair (.slice T_Turn) .unit))))))
@[reducible] def T_S44 : Ty := (.pair (.int .i64) (.pair T_Effect (.pair (.int .i64) (.pair (.slice T_Event) .unit))))
@[reducible] def T_S229 : Ty := (.pair (.slice (.int .u8)) (.pair (.int .i64) (.pair (.int .i64) .unit)))
@[reducible] def T_S191 : Ty := (.pair T_State (.pair (.slice T_Effect) (.pair (.slice (.int .i64)) (.pair (.slice T_Event) (.pair (.slice T_TurnV) .unit)))))
def tab : Tab := [
  (3, ⟨.int .i64, 1, 0, (.int .i64), [.int .i64 0]⟩),
  (4, ⟨.bool, 1, 0, .bool, [.bool false]⟩),
  (24, ⟨.slice 101, 1, 0, (.slice T_Piece), [.nil]⟩),
  (25, ⟨.slice 224, 1, 0, (.slice T_Side), [.nil]⟩),
  (26, ⟨.struct [(0, 24), (1, 25), (2, 3), (3, 3)], 4, 0, T_State, [.nil, .nil, .int .i64 0, .int .i64 0]⟩),
  (27, ⟨.struct [(0, 24), (1, 25), (2, 3), (3, 3)], 4, 0, T_State, [.nil, .nil, .int .i64 0, .int .i64 0]⟩),
  (28, ⟨.slice 43, 1, 0, (.slice T_Effect), [.nil]⟩),
  (29, ⟨.slice 3, 1, 0, (.slice (.int .i64)), [.nil]⟩),
  (32, ⟨.slice 162, 1, 0, (.slice T_Turn), [.nil]⟩),
  (35, ⟨.struct [(0, 3), (1, 3), (2, 3), (3, 3), (4, 3), (5, 3), (6, 3)], 7, 0, T_Pat, [.int .i64 0, .int .i64 0, .int .i64 0, .int .i64 0, .int .i64 0, .int .i64 0, .int .i64 0]⟩),
  (36, ⟨.struct [(0, 3), (1, 3), (2, 3), (3, 3), (4, 3), (5, 3), (6, 3)], 7, 0, T_Pat, [.int .i64 0, .int .i64 0, .int .i64 0, .int .i64 0, .int .i64 0, .int .i64 0, .int .i64 0]⟩),
  (37, ⟨.struct [(0, 3), (1, 3)], 2, 0, T_Guard, [.int .i64 0, .int .i64 0]⟩),
  (38, ⟨.struct [(0, 3), (1, 3)], 2, 0, T_Guard, [.int .i64 0, .int .i64 0]⟩),
  (39, ⟨.slice 114, 1, 0, (.slice T_Event), [.nil]⟩),
  (40, ⟨.struct [(0, 3), (1, 3), (2, 3), (3, 3), (4, 3), (5, 4), (6, 39)], 7, 0, T_Act, [.int .i64 0, .int .i64 0, .int .i64 0, .int .i64 0, .int .i64 0, .bool false, .nil]⟩),
  (41, ⟨.struct [(0, 3), (1, 3), (2, 3), (3, 3), (4, 3), (5, 4), (6, 39)], 7, 0, T_Act, [.int .i64 0, .int .i64 0, .int .i64 0, .int .i64 0, .int .i64 0, .bool false, .nil]⟩),
  (42, ⟨.struct [(0, 3), (1, 3), (2, 3), (3, 3), (4, 36), (11, 38), (13, 41), (20, 3), (21, 3)], 22, 0, T_Effect, [.int .i64 0, .int .i64 0, .int .i64 0, .int .i64 0, .int .i64 0, .int .i64 0, .int .i64 0, .int .i64 0, .int .i64 0, .int .i64 0, .int .i64 0, .int .i64 0, .int .i64 0, .int .i64 0, .int .i64 0, .int .i64 0, .int .i64 0, .int .i64 0, .bool false, .nil, .int .i64 0, .int .i64 0]⟩),
  (43, ⟨.struct [(0, 3), (1, 3), (2, 3), (3, 3), (4, 36), (11, 38), (13, 41), (20, 3), (21, 3)], 22, 0, T_Effect, [.int .i64 0, .int .i64 0, .int .i64 0, .int .i64 0, .int .i64 0, .int .i64 0, .int .i64 0, .int .i64 0, .int .i64 0, .int .i64 0, .int .i64 0, .int .i64 0, .int .i64 0, .int .i64 0, .int .i64 0, .int .i64 0, .int .i64 0, .int .i64 0, .bool false, .nil, .int .i64 0, .int .i64 0]⟩),
  (58, ⟨.slice 261, 1, 0, (.slice T_Piece), [.nil]⟩),
  (59, ⟨.slice 289, 1, 0, (.slice T_Side), [.nil]⟩),
  (60, ⟨.struct [(0, 58), (1, 59), (2, 3), (3, 3)], 4, 0, T_State, [.nil, .nil, .int .i64 0, .int .i64 0]⟩),
  (61, ⟨.struct [(0, 58), (1, 59), (2, 3), (3, 3)], 4, 0, T_State, [.nil, .nil, .int .i64 0, .int .i64 0]⟩),
  (62, ⟨.slice 74, 1, 0, (.slice T_Effect), [.nil]⟩),
  (68, ⟨.struct [(0, 3), (1, 3), (2, 3), (3, 3), (4, 3), (5, 3), (6, 3)], 7, 0, T_Pat, [.int .i64 0, .int .i64 0, .int .i64 0, .int .i64 0, .int .i64 0, .int .i64 0, .int .i64 0]⟩),
  (69, ⟨.struct [(0, 3), (1, 3)], 2, 0, T_Guard, [.int .i64 0, .int .i64 0]⟩),
  (70, ⟨.slice 106, 1, 0, (.slice T_Event), [.nil]⟩),
  (71, ⟨.struct [(0, 3), (1, 3), (2, 3), (3, 3), (4, 3), (5, 4), (6, 70)], 7, 0, T_Act, [.int .i64 0, .int .i64 0, .int .i64 0, .int .i64 0, .int .i64 0, .bool false, .nil]⟩),
  (72, ⟨.struct [(0, 3), (1, 3), (2, 3), (3, 3), (4, 3), (5, 4), (6, 70)], 7, 0, T_Act, [.int .i64 0, .int .i64 0, .int .i64 0, .int .i64 0, .int .i64 0, .bool false, .nil]⟩),
  (73, ⟨.struct [(0, 3), (1, 3), (2, 3), (3, 3), (4, 68), (11, 69), (13, 72), (20, 3), (21, 3)], 22, 0, T_Effect, [.int .i64 0, .int .i64 0, .int .i64 0, .int .i64 0, .int .i64 0, .int .i64 0, .int .i64 0, .int .i64 0, .int .i64 0, .int .i64 0, .int .i64 0, .int .i64 0, .int .i64 0, .int .i64 0, .int .i64 0, .int .i64 0, .int .i64 0, .int .i64 0, .bool false, .nil, .int .i64 0, .int .i64 0]⟩),
  (74, ⟨.struct [(0, 3), (1, 3), (2, 3), (3, 3), (4, 68), (11, 69), (13, 72), (20, 3), (21, 3)], 22, 0, T_Effect, [.int .i64 0, .int .i64 0, .int .i64 0, .int .i64 0, .int .i64 0, .int .i64 0, .int .i64 0, .int .i64 0, .int .i64 0, .int .i64 0, .int .i64 0, .int .i64 0, .int .i64 0, .int .i64 0, .int .i64 0, .int .i64 0, .int .i64 0, .int .i64 0, .bool false, .nil, .int .i64 0, .int .i64 0]⟩),
  (100, ⟨.struct [(0, 3), (1, 3), (2, 3), (3, 3), (4, 3), (5, 3), (6, 3), (7, 3), (8, 3), (9, 3), (10, 3), (11, 4), (12, 4)], 13, 0, T_Piece, [.int .i64 0, .int .i64 0, .int .i64 0, .int .i64 0, .int .i64 0, .int .i64 0, .int .i64 0, .int .i64 0, .int .i64 0, .int .i64 0, .int .i64 0, .bool false, .bool false]⟩),
  (101, ⟨.struct [(0, 3), (1, 3), (2, 3), (3, 3), (4, 3), (5, 3), (6, 3), (7, 3), (8, 3), (9, 3), (10, 3), (11, 4), (12, 4)], 13, 0, T_Piece, [.int .i64 0, .int .i64 0, .int .i64 0, .int .i64 0, .int .i64 0, .int .i64 0, .int .i64 0, .int .i64 0, .int .i64 0, .int .i64 0, .int .i64 0, .bool false, .bool false]⟩),
  (105, ⟨.struct [(0, 3), (1, 3), (2, 3), (3, 3), (4, 3), (5, 3), (6, 4)], 7, 0, T_Event, [.int .i64 0, .int .i64 0, .int .i64 0, .int .i64 0, .int .i64 0, .int .i64 0, .bool false]⟩),
  (106, ⟨.struct [(0, 3), (1, 3), (2, 3), (3, 3), (4, 3), (5, 3), (6, 4)], 7, 0, T_Event, [.int .i64 0, .int .i64 0, .int .i64 0, .int .i64 0, .int .i64 0, .int .i64 0, .bool false]⟩),
  (109, ⟨.struct [(0, 39), (1, 28), (2, 29), (3, 32)], 4, 0, T_Fate, [.nil, .nil, .nil, .nil]⟩),
  (110, ⟨.struct [(0, 39), (1, 28), (2, 29), (3, 32)], 4, 0, T_Fate, [.nil, .nil, .nil, .nil]⟩),
  (114, ⟨.struct [(0, 3), (1, 3), (2, 3), (3, 3), (4, 3), (5, 3), (6, 4)], 7, 0, T_Event, [.int .i64 0, .int .i64 0, .int .i64 0, .int .i64 0, .int .i64 0, .int .i64 0, .bool false]⟩),
  (161, ⟨.struct [(0, 3), (1, 3), (2, 3), (3, 3), (4, 114), (11, 39), (12, 3), (13, 3)], 14, 0, T_Turn, [.int .i64 0, .int .i64 0, .int .i64 0, .int .i64 0, .int .i64 0, .int .i64 0, .int .i64 0, .int .i64 0, .int .i64 0, .int .i64 0, .bool false, .nil, .int .i64 0, .int .i64 0]⟩),
  (162, ⟨.struct [(0, 3), (1, 3), (2, 3), (3, 3), (4, 114), (11, 39), (12, 3), (13, 3)], 14, 0, T_Turn, [.int .i64 0, .int .i64 0, .int .i64 0, .int .i64 0, .int .i64 0, .int .i64 0, .int .i64 0, .int .i64 0, .int .i64 0, .int .i64 0, .bool false, .nil, .int .i64 0, .int .i64 0]⟩),
  (166, ⟨.other, 1, 0, .unit, [.undef]⟩),
  (190, ⟨.other, 1, 0, .unit, [.undef]⟩),
  (191, ⟨.struct [(0, 27), (4, 28), (5, 29), (6, 39), (7, 32)], 8, 0, T_l14Run, [.nil, .nil, .int .i64 0, .int .i64 0, .nil, .nil, .nil, .nil]⟩),
  (192, ⟨.struct [(0, 27), (4, 28), (5, 29), (6, 39), (7, 32)], 8, 0, T_l14Run, [.nil, .nil, .int .i64 0, .int .i64 0, .nil, .nil, .nil, .nil]⟩),
  (193, ⟨.other, 1, 0, .unit, [.undef]⟩),
  (197, ⟨.other, 1, 0, .unit, [.undef]⟩),
  (198, ⟨.other, 1, 0, .unit, [.undef]⟩),
  (200, ⟨.struct [(0, 27), (4, 110), (8, 198), (9, 166)], 10, 0, .unit, [.nil, .nil, .int .i64 0, .int .i64 0, .nil, .nil, .nil, .nil, .undef, .undef]⟩),
  (221, ⟨.other, 1, 0, .unit, [.undef]⟩),
  (223, ⟨.struct [(0, 3), (1, 3), (2, 4)], 3, 0, T_Side, [.int .i64 0, .int .i64 0, .bool false]⟩),
  (224, ⟨.struct [(0, 3), (1, 3), (2, 4)], 3, 0, T_Side, [.int .i64 0, .int .i64 0, .bool false]⟩),
  (226, ⟨.other, 1, 0, .unit, [.undef]⟩),
  (227, ⟨.other, 1, 0, .unit, [.undef]⟩),
  (261, ⟨.struct [(0, 3), (1, 3), (2, 3), (3, 3), (4, 3), (5, 3), (6, 3), (7, 3), (8, 3), (9, 3), (10, 3), (11, 4), (12, 4)], 13, 0, T_Piece, [.int .i64 0, .int .i64 0, .int .i64 0, .int .i64 0, .int .i64 0, .int .i64 0, .int .i64 0, .int .i64 0, .int .i64 0, .int .i64 0, .int .i64 0, .bool false, .bool false]⟩),
  (289, ⟨.struct [(0, 3), (1, 3), (2, 4)], 3, 0, T_Side, [.int .i64 0, .int .i64 0, .bool false]⟩)]
def tabV : Tab := [
  (3, ⟨.int .i64, 1, 0, (.int .i64), [.int .i64 0]⟩),
  (4, ⟨.bool, 1, 0, .bool, [.bool false]⟩),
  (24, ⟨.slice 101, 1, 0, (.slice T_Piece), [.nil]⟩),
  (25, ⟨.slice 224, 1, 0, (.slice T_Side), [.nil]⟩),
  (26, ⟨.struct [(0, 24), (1, 25), (2, 3), (3, 3)], 4, 0, T_State, [.nil, .nil, .int .i64 0, .int .i64 0]⟩),
  (27, ⟨.struct [(0, 24), (1, 25), (2, 3), (3, 3)], 4, 0, T_State, [.nil, .nil, .int .i64 0, .int .i64 0]⟩),
  (28, ⟨.slice 43, 1, 0, (.slice T_Effect), [.nil]⟩),
  (29, ⟨.slice 3, 1, 0, (.slice (.int .i64)), [.nil]⟩),
  (32, ⟨.slice 162, 1, 0, (.slice T_TurnV), [.nil]⟩),
  (35, ⟨.struct [(0, 3), (1, 3), (2, 3), (3, 3), (4, 3), (5, 3), (6, 3)], 7, 0, T_Pat, [.int .i64 0, .int .i64 0, .int .i64 0, .int .i64 0, .int .i64 0, .int .i64 0, .int .i64 0]⟩),
  (36, ⟨.struct [(0, 3), (1, 3), (2, 3), (3, 3), (4, 3), (5, 3), (6, 3)], 7, 0, T_Pat, [.int .i64 0, .int .i64 0, .int .i64 0, .int .i64 0, .int .i64 0, .int .i64 0, .int .i64 0]⟩),
  (37, ⟨.struct [(0, 3), (1, 3)], 2, 0, T_Guard, [.int .i64 0, .int .i64 0]⟩),
  (38, ⟨.struct [(0, 3), (1, 3)], 2, 0, T_Guard, [.int .i64 0, .int .i64 0]⟩),
  (39, ⟨.slice 114, 1, 0, (.slice T_Event), [.nil]⟩),
  (40, ⟨.struct [(0, 3), (1, 3), (2, 3), (3, 3), (4, 3), (5, 4), (6, 39)], 7, 0, T_Act, [.int .i64 0, .int .i64 0, .int .i64 0, .int .i64 0, .int .i64 0, .bool false, .nil]⟩),
  (41, ⟨.struct [(0, 3), (1, 3), (2, 3), (3, 3), (4, 3), (5, 4), (6, 39)], 7, 0, T_Act, [.int .i64 0, .int .i64 0, .int .i64 0, .int .i64 0, .int .i64 0, .bool false, .nil]⟩),
  (42, ⟨.struct [(0, 3), (1, 3), (2, 3), (3, 3), (4, 36), (11, 38), (13, 41), (20, 3), (21, 3)], 22, 0, T_Effect, [.int .i64 0, .int .i64 0, .int .i64 0, .int .i64 0, .int .i64 0, .int .i64 0, .int .i64 0, .int .i64 0, .int .i64 0, .int .i64 0, .int .i64 0, .int .i64 0, .int .i64 0, .int .i64 0, .int .i64 0, .int .i64 0, .int .i64 0, .int .i64 0, .bool false, .nil, .int .i64 0, .int .i64 0]⟩),
  (43, ⟨.struct [(0, 3), (1, 3), (2, 3), (3, 3), (4, 36), (11, 38), (13, 41), (20, 3), (21, 3)], 22, 0, T_Effect, [.int .i64 0, .int .i64 0, .int .i64 0, .int .i64 0, .int .i64 0, .int .i64 0, .int .i64 0, .int .i64 0, .int .i64 0, .int .i64 0, .int .i64 0, .int .i64 0, .int .i64 0, .int .i64 0, .int .i64 0, .int .i64 0, .int .i64 0, .int .i64 0, .bool false, .nil, .int .i64 0, .int .i64 0]⟩),
  (58, ⟨.slice 261, 1, 0, (.slice T_Piece), [.nil]⟩),
  (59, ⟨.slice 289, 1, 0, (.slice T_Side), [.nil]⟩),
  (60, ⟨.struct [(0, 58), (1, 59), (2, 3), (3, 3)], 4, 0, T_State, [.nil, .nil, .int .i64 0, .int .i64 0]⟩),
  (61, ⟨.struct [(0, 58), (1, 59), (2, 3), (3, 3)], 4, 0, T_State, [.nil, .nil, .int .i64 0, .int .i64 0]⟩),
  (62, ⟨.slice 74, 1, 0, (.slice T_Effect), [.nil]⟩),
  (68, ⟨.struct [(0, 3), (1, 3), (2, 3), (3, 3), (4, 3), (5, 3), (6, 3)], 7, 0, T_Pat, [.int .i64 0, .int .i64 0, .int .i64 0, .int .i64 0, .int .i64 0, .int .i64 0, .int .i64 0]⟩),
  (69, ⟨.struct [(0, 3), (1, 3)], 2, 0, T_Guard, [.int .i64 0, .int .i64 0]⟩),
  (70, ⟨.slice 106, 1, 0, (.slice T_Event), [.nil]⟩),
  (71, ⟨.struct [(0, 3), (1, 3), (2, 3), (3, 3), (4, 3), (5, 4), (6, 70)], 7, 0, T_Act, [.int .i64 0, .int .i64 0, .int .i64 0, .int .i64 0, .int .i64 0, .bool false, .nil]⟩),
  (72, ⟨.struct [(0, 3), (1, 3), (2, 3), (3, 3), (4, 3), (5, 4), (6, 70)], 7, 0, T_Act, [.int .i64 0, .int .i64 0, .int .i64 0, .int .i64 0, .int .i64 0, .bool false, .nil]⟩),
  (73, ⟨.struct [(0, 3), (1, 3), (2, 3), (3, 3), (4, 68), (11, 69), (13, 72), (20, 3), (21, 3)], 22, 0, T_Effect, [.int .i64 0, .int .i64 0, .int .i64 0, .int .i64 0, .int .i64 0, .int .i64 0, .int .i64 0, .int .i64 0, .int .i64 0, .int .i64 0, .int .i64 0, .int .i64 0, .int .i64 0, .int .i64 0, .int .i64 0, .int .i64 0, .int .i64 0, .int .i64 0, .bool false, .nil, .int .i64 0, .int .i64 0]⟩),
  (74, ⟨.struct [(0, 3), (1, 3), (2, 3), (3, 3), (4, 68), (11, 69), (13, 72), (20, 3), (21, 3)], 22, 0, T_Effect, [.int .i64 0, .int .i64 0, .int .i64 0, .int .i64 0, .int .i64 0, .int .i64 0, .int .i64 0, .int .i64 0, .int .i64 0, .int .i64 0, .int .i64 0, .int .i64 0, .int .i64 0, .int .i64 0, .int .i64 0, .int .i64 0, .int .i64 0, .int .i64 0, .bool false, .nil, .int .i64 0, .int .i64 0]⟩),
  (100, ⟨.struct [(0, 3), (1, 3), (2, 3), (3, 3), (4, 3), (5, 3), (6, 3), (7, 3), (8, 3), (9, 3), (10, 3), (11, 4), (12, 4)], 13, 0, T_Piece, [.int .i64 0, .int .i64 0, .int .i64 0, .int .i64 0, .int .i64 0, .int .i64 0, .int .i64 0, .int .i64 0, .int .i64 0, .int .i64 0, .int .i64 0, .bool false, .bool false]⟩),
  (101, ⟨.struct [(0, 3), (1, 3), (2, 3), (3, 3), (4, 3), (5, 3), (6, 3), (7, 3), (8, 3), (9, 3), (10, 3), (11, 4), (12, 4)], 13, 0, T_Piece, [.int .i64 0, .int .i64 0, .int .i64 0, .int .i64 0, .int .i64 0, .int .i64 0, .int .i64 0, .int .i64 0, .int .i64 0, .int .i64 0, .int .i64 0, .bool false, .bool false]⟩),
  (105, ⟨.struct [(0, 3), (1, 3), (2, 3), (3, 3), (4, 3), (5, 3), (6, 4)], 7, 0, T_Event, [.int .i64 0, .int .i64 0, .int .i64 0, .int .i64 0, .int .i64 0, .int .i64 0, .bool false]⟩),
  (106, ⟨.struct [(0, 3), (1, 3), (2, 3), (3, 3), (4, 3), (5, 3), (6, 4)], 7, 0, T_Event, [.int .i64 0, .int .i64 0, .int .i64 0, .int .i64 0, .int .i64 0, .int .i64 0, .bool false]⟩),
  (109, ⟨.struct [(0, 39), (1, 28), (2, 29), (3, 32)], 4, 0, T_FateV, [.nil, .nil, .nil, .nil]⟩),
  (110, ⟨.struct [(0, 39), (1, 28), (2, 29), (3, 32)], 4, 0, T_FateV, [.nil, .nil, .nil, .nil]⟩),
  (114, ⟨.struct [(0, 3), (1, 3), (2, 3), (3, 3), (4, 3), (5, 3), (6, 4)], 7, 0, T_Event, [.int .i64 0, .int .i64 0, .int .i64 0, .int .i64 0, .int .i64 0, .int .i64 0, .bool false]⟩),
  (161, ⟨.struct [(0, 3), (1, 3), (2, 3), (3, 3), (4, 114), (11, 39), (12, 3), (13, 3)], 14, 0, T_Turn, [.int .i64 0, .int .i64 0, .int .i64 0, .int .i64 0, .int .i64 0, .int .i64 0, .int .i64 0, .int .i64 0, .int .i64 0, .int .i64 0, .bool false, .nil, .int .i64 0, .int .i64 0]⟩),
  (162, ⟨.struct [(0, 3), (1, 3), (2, 3), (3, 3), (4, 114), (11, 39), (12, 3), (13, 3)], 14, 0, T_TurnV, [.int .i64 0, .int .i64 0, .int .i64 0, .int .i64 0, .int .i64 0, .int .i64 0, .int .i64 0, .int .i64 0, .int .i64 0, .int .i64 0, .bool false, .nil, .int .i64 0, .int .i64 0]⟩),
  (166, ⟨.other, 1, 0, .unit, [.undef]⟩),
  (190, ⟨.other, 1, 0, .unit, [.undef]⟩),
  (191, ⟨.struct [(0, 27), (4, 28), (5, 29), (6, 39), (7, 32)], 8, 0, T_S191, [.nil, .nil, .int .i64 0, .int .i64 0, .nil, .nil, .nil, .nil]⟩),
  (192, ⟨.struct [(0, 27), (4, 28), (5, 29), (6, 39), (7, 32)], 8, 0, T_S191, [.nil, .nil, .int .i64 0, .int .i64 0, .nil, .nil, .nil, .nil]⟩),
  (193, ⟨.other, 1, 0, .unit, [.undef]⟩),
  (197, ⟨.other, 1, 0, .unit, [.undef]⟩),
  (198, ⟨.other, 1, 0, .unit, [.undef]⟩),
  (200, ⟨.struct [(0, 27), (4, 110), (8, 198), (9, 166)], 10, 0, .unit, [.nil, .nil, .int .i64 0, .int .i64 0, .nil, .nil, .nil, .nil, .undef, .undef]⟩),
  (221, ⟨.other, 1, 0, .unit, [.undef]⟩),
  (223, ⟨.struct [(0, 3), (1, 3), (2, 4)], 3, 0, T_Side, [.int .i64 0, .int .i64 0, .bool false]⟩),
  (224, ⟨.struct [(0, 3), (1, 3), (2, 4)], 3, 0, T_Side, [.int .i64 0, .int .i64 0, .bool false]⟩),
  (226, ⟨.other, 1, 0, .unit, [.undef]⟩),
  (227, ⟨.other, 1, 0, .unit, [.undef]⟩),
  (261, ⟨.struct [(0, 3), (1, 3), (2, 3), (3, 3), (4, 3), (5, 3), (6, 3), (7, 3), (8, 3), (9, 3), (10, 3), (11, 4), (12, 4)], 13, 0, T_Piece, [.int .i64 0, .int .i64 0, .int .i64 0, .int .i64 0, .int .i64 0, .int .i64 0, .int .i64 0, .int .i64 0, .int .i64 0, .int .i64 0, .int .i64 0, .bool false, .bool false]⟩),
  (289, ⟨.struct [(0, 3), (1, 3), (2, 4)], 3, 0, T_Side, [.int .i64 0, .int .i64 0, .bool false]⟩)]
theorem tabVOk : TabOk Tryz.prog tabV := tabB_ok (by kernel_rfl)
theorem tabOk : TabOk Tryz.prog tab := tabB_ok (by kernel_rfl)
theorem mixed : Tryz.prog.follows .mixedOrders = true := by kernel_rfl
/-! loop.example/g00486/laws.szPieceS -/
def laws_szPieceS (a0 : (List T_Piece.D)) (a1 : Int) : Option Int :=
 bif decide ((IntKind.wrap .i64 (a1 - (a0.length : Int))) < 0) then (
 some (-1))
 else (
 some (IntKind.wrap .i64 (a1 - (a0.length : Int))))
def laws_szPieceS_c : Ct := .pure true false (.pair (.slice T_Piece) (.pair (.int .i64) .unit)) (.int .i64) (fun x => laws_szPieceS x.1 x.2.1)
theorem laws_szPieceS_ct : CtOk Tryz.prog 156 laws_szPieceS_c := pure_ct (E := { T := tab, G := [] }) (EnvOk.nil tabOk) mixed (fn := Tryz.f156) _ _ _ _ _ .none Tryz.func156 (by kernel_rfl) (fun x => by kernel_rfl)
/-! loop.example/g00486/laws.szSideS -/
def laws_szSideS (a0 : (List T_Side.D)) (a1 : Int) : Option Int :=
 bif decide ((IntKind.wrap .i64 (a1 - (a0.length : Int))) < 0) then (
 some (-1))
 else (
 some (IntKind.wrap .i64 (a1 - (a0.length : Int))))
def laws_szSideS_c : Ct := .pure true false (.pair (.slice T_Side) (.pair (.int .i64) .unit)) (.int .i64) (fun x => laws_szSideS x.1 x.2.1)
theorem laws_szSideS_ct : CtOk Tryz.prog 157 laws_szSideS_c := pure_ct (E := { T := tab, G := [] }) (EnvOk.nil tabOk) mixed (fn := Tryz.f157) _ _ _ _ _ .none Tryz.func157 (by kernel_rfl) (fun x => by kernel_rfl)
/-! loop.example/g00486/laws.szState -/
def laws_szState (a0 : T_State.D) (a1 : Int) : Option Int :=
(laws_szPieceS a0.1 a1).bind fun y1 =>
 bif decide (y1 < 0) then (
 some (-1))
 else (
(laws_szSideS a0.2.1 y1).bind fun y2 =>
 bif decide (y2 < 0) then (
 some (-1))
 else (
 some y2))
def laws_szState_c : Ct := .pure true false (.pair T_State (.pair (.int .i64) .unit)) (.int .i64) (fun x => laws_szState x.1 x.2.1)
theorem laws_szState_ct : CtOk Tryz.prog 45 laws_szState_c := pure_ct (E := { T := tab, G := [(156, laws_szPieceS_c), (157, laws_szSideS_c)] }) (EnvOk.cons laws_szPieceS_ct (EnvOk.cons laws_szSideS_ct (EnvOk.nil tabOk))) mixed (fn := Tryz.f45) _ _ _ _ _ .none Tryz.func45 (by kernel_rfl) (fun x => by kernel_rfl)
/-! loop.example/g00486/laws.szEventS -/
def laws_szEventS (a0 : (List T_Event.D)) (a1 : Int) : Option Int :=
 bif decide ((IntKind.wrap .i64 (a1 - (a0.length : Int))) < 0) then (
 some (-1))
 else (
 some (IntKind.wrap .i64 (a1 - (a0.length : Int))))
def laws_szEventS_c : Ct := .pure true false (.pair (.slice T_Event) (.pair (.int .i64) .unit)) (.int .i64) (fun x => laws_szEventS x.1 x.2.1)
theorem laws_szEventS_ct : CtOk Tryz.prog 62 laws_szEventS_c := pure_ct (E := { T := tab, G := [] }) (EnvOk.nil tabOk) mixed (fn := Tryz.f62) _ _ _ _ _ .none Tryz.func62 (by kernel_rfl) (fun x => by kernel_rfl)
/-! loop.example/g00486/laws.szAct -/
def laws_szAct (a0 : T_Act.D) (a1 : Int) : Option Int :=
(laws_szEventS a0.2.2.2.2.2.2.1 a1).bind fun y1 =>
 bif decide (y1 < 0) then (
 some (-1))
 else (
 some y1)
def laws_szAct_c : Ct := .pure true false (.pair T_Act (.pair (.int .i64) .unit)) (.int .i64) (fun x => laws_szAct x.1 x.2.1)
theorem laws_szAct_ct : CtOk Tryz.prog 245 laws_szAct_c := pure_ct (E := { T := tab, G := [(62, laws_szEventS_c)] }) (EnvOk.cons laws_szEventS_ct (EnvOk.nil tabOk)) mixed (fn := Tryz.f245) _ _ _ _ _ .none Tryz.func245 (by kernel_rfl) (fun x => by kernel_rfl)
/-! loop.example/g00486/laws.szEffect -/
def laws_szEffect (a0 : T_Effect.D) (a1 : Int) : Option Int :=
(laws_szAct a0.2.2.2.2.2.2.1 a1).bind fun y1 =>
 bif decide (y1 < 0) then (
 some (-1))
 else (
 some y1)
def laws_szEffect_c : Ct := .pure true false (.pair T_Effect (.pair (.int .i64) .unit)) (.int .i64) (fun x => laws_szEffect x.1 x.2.1)
theorem laws_szEffect_ct : CtOk Tryz.prog 127 laws_szEffect_c := pure_ct (E := { T := tab, G := [(245, laws_szAct_c)] }) (EnvOk.cons laws_szAct_ct (EnvOk.nil tabOk)) mixed (fn := Tryz.f127) _ _ _ _ _ .none Tryz.func127 (by kernel_rfl) (fun x => by kernel_rfl)
/-! loop.example/g00486/laws.szEffectS -/
def laws_szEffectS_l1 (a0 : (List T_Effect.D)) : (Int × Int) → Option ((Int × Int) ⊕ ((Int × Int) ⊕ Int)) := fun s1 =>
 bif decide (s1.2 < (a0.length : Int)) then (
 idx a0 s1.2 fun x2 =>
(laws_szEffect x2 s1.1).bind fun y3 =>
 bif decide (y3 < 0) then (
 some (.inr (.inr (-1))))
 else (
 some (.inl (y3, IntKind.wrap .i64 (s1.2 + 1)))))
 else (
 some (.inr (.inl s1)))
def laws_szEffectS (a0 : (List T_Effect.D)) (a1 : Int) : Option Int :=
 bif decide ((IntKind.wrap .i64 (a1 - (a0.length : Int))) < 0) then (
 some (-1))
 else (
(while_ (laws_szEffectS_l1 a0) (IntKind.wrap .i64 (a1 - (a0.length : Int)), 0)).bind fun o4 =>
 match o4 with
| .inl s5 => (
 some s5.1)
| .inr o6 => (
 some o6))
def laws_szEffectS_h : Hints := (.node none none .none (.node none none .none (.node none none .none (.node none none (.node none none .none (.node none none (.node none (some ⟨[.tmp 1 (.int .i64), .tmp 5 (.int .i64)], [some 0], some [.tmp 4 (.int .i64)], []⟩) .none .none) .none)) .none))))
def laws_szEffectS_c : Ct := .pure true false (.pair (.slice T_Effect) (.pair (.int .i64) .unit)) (.int .i64) (fun x => laws_szEffectS x.1 x.2.1)
theorem laws_szEffectS_ct : CtOk Tryz.prog 46 laws_szEffectS_c := pure_ct (E := { T := tab, G := [(127, laws_szEffect_c)] }) (EnvOk.cons laws_szEffect_ct (EnvOk.nil tabOk)) mixed (fn := Tryz.f46) _ _ _ _ _ laws_szEffectS_h Tryz.func46 (by kernel_rfl) (fun x => by kernel_rfl)
/-! loop.example/g00486/laws.toPiece -/
def laws_toPiece (a0 : T_Piece.D) : Option T_Piece.D :=
 some a0
def laws_toPiece_c : Ct := .pure true false (.pair T_Piece .unit) T_Piece (fun x => laws_toPiece x.1)
theorem laws_toPiece_ct : CtOk Tryz.prog 272 laws_toPiece_c := pure_ct (E := { T := tab, G := [] }) (EnvOk.nil tabOk) mixed (fn := Tryz.f272) _ _ _ _ _ .none Tryz.func272 (by kernel_rfl) (fun x => by kernel_rfl)
/-! loop.example/g00486/laws.toPieceS -/
def laws_toPieceS_l1 (a0 : (List T_Piece.D)) : ((List T_Piece.D) × Int) → Option (((List T_Piece.D) × Int) ⊕ ((List T_Piece.D) × Int)) := fun s2 =>
 bif decide (s2.2 < (a0.length : Int)) then (
 idx a0 s2.2 fun x3 =>
(laws_toPiece x3).bind fun y4 =>
 idx s2.1 s2.2 fun _ =>
(s2.1[(s2.2 : Int).toNat]?).bind fun x5 =>
 let u6 : (List T_Piece.D) := s2.1.set (s2.2 : Int).toNat y4
 some (.inl (u6, IntKind.wrap .i64 (s2.2 + 1))))
 else (
 some (.inr s2))
def laws_toPieceS (a0 : (List T_Piece.D)) : Option (List T_Piece.D) :=
 if 0 ≤ (a0.length : Int) then (if ((a0.length : Int)).toNat * (24 * 13) ≤ room then (
(while_ (laws_toPieceS_l1 a0) ((List.replicate ((a0.length : Int)).toNat (0, 0, 0, 0, 0, 0, 0, 0, 0, 0, 0, false, false, ())), 0)).bind fun o7 =>
 some o7.1) else none) else none
def laws_toPieceS_h : Hints := (.node none none .none (.node none none .none (.node none none (.node none none .none (.node none none (.node none (some ⟨[.tmpO 3 0 (.slice T_Piece), .tmp 4 (.int .i64)], [some 0], none, []⟩) .none .none) .none)) .none)))
def laws_toPieceS_c : Ct := .pure true false (.pair (.slice T_Piece) .unit) (.slice T_Piece) (fun x => laws_toPieceS x.1)
theorem laws_toPieceS_ct : CtOk Tryz.prog 160 laws_toPieceS_c := pure_ct (E := { T := tab, G := [(272, laws_toPiece_c)] }) (EnvOk.cons laws_toPiece_ct (EnvOk.nil tabOk)) mixed (fn := Tryz.f160) _ _ _ _ _ laws_toPieceS_h Tryz.func160 (by kernel_rfl) (fun x => by kernel_rfl)
def laws_toPieceS_fresh_c : Ct := .pure true true (.pair (.slice T_Piece) .unit) (.slice T_Piece) (fun x => laws_toPieceS x.1)
theorem laws_toPieceS_fresh_ct : CtOk Tryz.prog 160 laws_toPieceS_fresh_c := pure_ct (E := { T := tab, G := [(272, laws_toPiece_c)] }) (EnvOk.cons laws_toPiece_ct (EnvOk.nil tabOk)) mixed (fn := Tryz.f160) _ _ _ _ _ laws_toPieceS_h Tryz.func160 (by kernel_rfl) (fun x => by kernel_rfl)
/-! loop.example/g00486/laws.toSide -/
def laws_toSide (a0 : T_Side.D) : Option T_Side.D :=
 some a0
def laws_toSide_c : Ct := .pure true false (.pair T_Side .unit) T_Side (fun x => laws_toSide x.1)
theorem laws_toSide_ct : CtOk Tryz.prog 273 laws_toSide_c := pure_ct (E := { T := tab, G := [] }) (EnvOk.nil tabOk) mixed (fn := Tryz.f273) _ _ _ _ _ .none Tryz.func273 (by kernel_rfl) (fun x => by kernel_rfl)
/-! loop.example/g00486/laws.toSideS -/
def laws_toSideS_l1 (a0 : (List T_Side.D)) : ((List T_Side.D) × Int) → Option (((List T_Side.D) × Int) ⊕ ((List T_Side.D) × Int)) := fun s2 =>
 bif decide (s2.2 < (a0.length : Int)) then (
 idx a0 s2.2 fun x3 =>
(laws_toSide x3).bind fun y4 =>
 idx s2.1 s2.2 fun _ =>
(s2.1[(s2.2 : Int).toNat]?).bind fun x5 =>
 let u6 : (List T_Side.D) := s2.1.set (s2.2 : Int).toNat y4
 some (.inl (u6, IntKind.wrap .i64 (s2.2 + 1))))
 else (
 some (.inr s2))
def laws_toSideS (a0 : (List T_Side.D)) : Option (List T_Side.D) :=
 if 0 ≤ (a0.length : Int) then (if ((a0.length : Int)).toNat * (24 * 3) ≤ room then (
(while_ (laws_toSideS_l1 a0) ((List.replicate ((a0.length : Int)).toNat (0, 0, false, ())), 0)).bind fun o7 =>
 some o7.1) else none) else none
def laws_toSideS_h : Hints := (.node none none .none (.node none none .none (.node none none (.node none none .none (.node none none (.node none (some ⟨[.tmpO 3 0 (.slice T_Side), .tmp 4 (.int .i64)], [some 0], none, []⟩) .none .none) .none)) .none)))
def laws_toSideS_c : Ct := .pure true false (.pair (.slice T_Side) .unit) (.slice T_Side) (fun x => laws_toSideS x.1)
theorem laws_toSideS_ct : CtOk Tryz.prog 161 laws_toSideS_c := pure_ct (E := { T := tab, G := [(273, laws_toSide_c)] }) (EnvOk.cons laws_toSide_ct (EnvOk.nil tabOk)) mixed (fn := Tryz.f161) _ _ _ _ _ laws_toSideS_h Tryz.func161 (by kernel_rfl) (fun x => by kernel_rfl)
def laws_toSideS_fresh_c : Ct := .pure true true (.pair (.slice T_Side) .unit) (.slice T_Side) (fun x => laws_toSideS x.1)
theorem laws_toSideS_fresh_ct : CtOk Tryz.prog 161 laws_toSideS_fresh_c := pure_ct (E := { T := tab, G := [(273, laws_toSide_c)] }) (EnvOk.cons laws_toSide_ct (EnvOk.nil tabOk)) mixed (fn := Tryz.f161) _ _ _ _ _ laws_toSideS_h Tryz.func161 (by kernel_rfl) (fun x => by kernel_rfl)
/-! loop.example/g00486/laws.toState -/
def laws_toState (a0 : T_State.D) : Option T_State.D :=
(laws_toPieceS a0.1).bind fun y1 =>
(laws_toSideS a0.2.1).bind fun y2 =>
 some (y1, y2, a0.2.2)
def laws_toState_c : Ct := .pure true false (.pair T_State .unit) T_State (fun x => laws_toState x.1)
theorem laws_toState_ct : CtOk Tryz.prog 48 laws_toState_c := pure_ct (E := { T := tab, G := [(160, laws_toPieceS_fresh_c), (161, laws_toSideS_fresh_c)] }) (EnvOk.cons laws_toPieceS_fresh_ct (EnvOk.cons laws_toSideS_fresh_ct (EnvOk.nil tabOk))) mixed (fn := Tryz.f48) _ _ _ _ _ .none Tryz.func48 (by kernel_rfl) (fun x => by kernel_rfl)
def laws_toState_fresh_c : Ct := .pure true true (.pair T_State .unit) T_State (fun x => laws_toState x.1)
theorem laws_toState_fresh_ct : CtOk Tryz.prog 48 laws_toState_fresh_c := pure_ct (E := { T := tab, G := [(160, laws_toPieceS_fresh_c), (161, laws_toSideS_fresh_c)] }) (EnvOk.cons laws_toPieceS_fresh_ct (EnvOk.cons laws_toSideS_fresh_ct (EnvOk.nil tabOk))) mixed (fn := Tryz.f48) _ _ _ _ _ .none Tryz.func48 (by kernel_rfl) (fun x => by kernel_rfl)
/-! loop.example/g00486/laws.toPat -/
def laws_toPat (a0 : T_Pat.D) : Option T_Pat.D :=
 some a0
def laws_toPat_c : Ct := .pure true false (.pair T_Pat .unit) T_Pat (fun x => laws_toPat x.1)
theorem laws_toPat_ct : CtOk Tryz.prog 249 laws_toPat_c := pure_ct (E := { T := tab, G := [] }) (EnvOk.nil tabOk) mixed (fn := Tryz.f249) _ _ _ _ _ .none Tryz.func249 (by kernel_rfl) (fun x => by kernel_rfl)
/-! loop.example/g00486/laws.toGuard -/
def laws_toGuard (a0 : T_Guard.D) : Option T_Guard.D :=
 some a0
def laws_toGuard_c : Ct := .pure true false (.pair T_Guard .unit) T_Guard (fun x => laws_toGuard x.1)
theorem laws_toGuard_ct : CtOk Tryz.prog 250 laws_toGuard_c := pure_ct (E := { T := tab, G := [] }) (EnvOk.nil tabOk) mixed (fn := Tryz.f250) _ _ _ _ _ .none Tryz.func250 (by kernel_rfl) (fun x => by kernel_rfl)
/-! loop.example/g00486/laws.toEvent -/
def laws_toEvent (a0 : T_Event.D) : Option T_Event.D :=
 some a0
def laws_toEvent_c : Ct := .pure true false (.pair T_Event .unit) T_Event (fun x => laws_toEvent x.1)
theorem laws_toEvent_ct : CtOk Tryz.prog 50 laws_toEvent_c := pure_ct (E := { T := tab, G := [] }) (EnvOk.nil tabOk) mixed (fn := Tryz.f50) _ _ _ _ _ .none Tryz.func50 (by kernel_rfl) (fun x => by kernel_rfl)
/-! loop.example/g00486/laws.toEventS -/
def laws_toEventS_l1 (a0 : (List T_Event.D)) : ((List T_Event.D) × Int) → Option (((List T_Event.D) × Int) ⊕ ((List T_Event.D) × Int)) := fun s2 =>
 bif decide (s2.2 < (a0.length : Int)) then (
 idx a0 s2.2 fun x3 =>
(laws_toEvent x3).bind fun y4 =>
 idx s2.1 s2.2 fun _ =>
(s2.1[(s2.2 : Int).toNat]?).bind fun x5 =>
 let u6 : (List T_Event.D) := s2.1.set (s2.2 : Int).toNat y4
 some (.inl (u6, IntKind.wrap .i64 (s2.2 + 1))))
 else (
 some (.inr s2))
def laws_toEventS (a0 : (List T_Event.D)) : Option (List T_Event.D) :=
 if 0 ≤ (a0.length : Int) then (if ((a0.length : Int)).toNat * (24 * 7) ≤ room then (
(while_ (laws_toEventS_l1 a0) ((List.replicate ((a0.length : Int)).toNat (0, 0, 0, 0, 0, 0, false, ())), 0)).bind fun o7 =>
 some o7.1) else none) else none
def laws_toEventS_h : Hints := (.node none none .none (.node none none .none (.node none none (.node none none .none (.node none none (.node none (some ⟨[.tmpO 3 0 (.slice T_Event), .tmp 4 (.int .i64)], [some 0], none, []⟩) .none .none) .none)) .none)))
def laws_toEventS_c : Ct := .pure true false (.pair (.slice T_Event) .unit) (.slice T_Event) (fun x => laws_toEventS x.1)
theorem laws_toEventS_ct : CtOk Tryz.prog 64 laws_toEventS_c := pure_ct (E := { T := tab, G := [(50, laws_toEvent_c)] }) (EnvOk.cons laws_toEvent_ct (EnvOk.nil tabOk)) mixed (fn := Tryz.f64) _ _ _ _ _ laws_toEventS_h Tryz.func64 (by kernel_rfl) (fun x => by kernel_rfl)
def laws_toEventS_fresh_c : Ct := .pure true true (.pair (.slice T_Event) .unit) (.slice T_Event) (fun x => laws_toEventS x.1)
theorem laws_toEventS_fresh_ct : CtOk Tryz.prog 64 laws_toEventS_fresh_c := pure_ct (E := { T := tab, G := [(50, laws_toEvent_c)] }) (EnvOk.cons laws_toEvent_ct (EnvOk.nil tabOk)) mixed (fn := Tryz.f64) _ _ _ _ _ laws_toEventS_h Tryz.func64 (by kernel_rfl) (fun x => by kernel_rfl)
/-! loop.example/g00486/laws.toAct -/
def laws_toAct (a0 : T_Act.D) : Option T_Act.D :=
(laws_toEventS a0.2.2.2.2.2.2.1).bind fun y1 =>
 some (a0.1, a0.2.1, a0.2.2.1, a0.2.2.2.1, a0.2.2.2.2.1, a0.2.2.2.2.2.1, y1, ())
def laws_toAct_c : Ct := .pure true false (.pair T_Act .unit) T_Act (fun x => laws_toAct x.1)
theorem laws_toAct_ct : CtOk Tryz.prog 251 laws_toAct_c := pure_ct (E := { T := tab, G := [(64, laws_toEventS_fresh_c)] }) (EnvOk.cons laws_toEventS_fresh_ct (EnvOk.nil tabOk)) mixed (fn := Tryz.f251) _ _ _ _ _ .none Tryz.func251 (by kernel_rfl) (fun x => by kernel_rfl)
def laws_toAct_fresh_c : Ct := .pure true true (.pair T_Act .unit) T_Act (fun x => laws_toAct x.1)
theorem laws_toAct_fresh_ct : CtOk Tryz.prog 251 laws_toAct_fresh_c := pure_ct (E := { T := tab, G := [(64, laws_toEventS_fresh_c)] }) (EnvOk.cons laws_toEventS_fresh_ct (EnvOk.nil tabOk)) mixed (fn := Tryz.f251) _ _ _ _ _ .none Tryz.func251 (by kernel_rfl) (fun x => by kernel_rfl)
/-! loop.example/g00486/laws.toEffect -/
def laws_toEffect (a0 : T_Effect.D) : Option T_Effect.D :=
(laws_toPat a0.2.2.2.2.1).bind fun y1 =>
(laws_toGuard a0.2.2.2.2.2.1).bind fun y2 =>
(laws_toAct a0.2.2.2.2.2.2.1).bind fun y3 =>
 some (a0.1, a0.2.1, a0.2.2.1, a0.2.2.2.1, y1, y2, y3, a0.2.2.2.2.2.2.2)
def laws_toEffect_c : Ct := .pure true false (.pair T_Effect .unit) T_Effect (fun x => laws_toEffect x.1)
theorem laws_toEffect_ct : CtOk Tryz.prog 131 laws_toEffect_c := pure_ct (E := { T := tab, G := [(249, laws_toPat_c), (250, laws_toGuard_c), (251, laws_toAct_fresh_c)] }) (EnvOk.cons laws_toPat_ct (EnvOk.cons laws_toGuard_ct (EnvOk.cons laws_toAct_fresh_ct (EnvOk.nil tabOk)))) mixed (fn := Tryz.f131) _ _ _ _ _ .none Tryz.func131 (by kernel_rfl) (fun x => by kernel_rfl)
def laws_toEffect_fresh_c : Ct := .pure true true (.pair T_Effect .unit) T_Effect (fun x => laws_toEffect x.1)
theorem laws_toEffect_fresh_ct : CtOk Tryz.prog 131 laws_toEffect_fresh_c := pure_ct (E := { T := tab, G := [(249, laws_toPat_c), (250, laws_toGuard_c), (251, laws_toAct_fresh_c)] }) (EnvOk.cons laws_toPat_ct (EnvOk.cons laws_toGuard_ct (EnvOk.cons laws_toAct_fresh_ct (EnvOk.nil tabOk)))) mixed (fn := Tryz.f131) _ _ _ _ _ .none Tryz.func131 (by kernel_rfl) (fun x => by kernel_rfl)
/-! loop.example/g00486/laws.toEffectS -/
def laws_toEffectS_l1 (a0 : (List T_Effect.D)) : ((List T_Effect.D) × Int) → Option (((List T_Effect.D) × Int) ⊕ ((List T_Effect.D) × Int)) := fun s2 =>
 bif decide (s2.2 < (a0.length : Int)) then (
 idx a0 s2.2 fun x3 =>
(laws_toEffect x3).bind fun y4 =>
 idx s2.1 s2.2 fun _ =>
(s2.1[(s2.2 : Int).toNat]?).bind fun x5 =>
 let u6 : (List T_Effect.D) := s2.1.set (s2.2 : Int).toNat y4
 some (.inl (u6, IntKind.wrap .i64 (s2.2 + 1))))
 else (
 some (.inr s2))
def laws_toEffectS (a0 : (List T_Effect.D)) : Option (List T_Effect.D) :=
 if 0 ≤ (a0.length : Int) then (if ((a0.length : Int)).toNat * (24 * 22) ≤ room then (
(while_ (laws_toEffectS_l1 a0) ((List.replicate ((a0.length : Int)).toNat (0, 0, 0, 0, (0, 0, 0, 0, 0, 0, 0, ()), (0, 0, ()), (0, 0, 0, 0, 0, false, [], ()), 0, 0, ())), 0)).bind fun o7 =>
 some o7.1) else none) else none
def laws_toEffectS_h : Hints := (.node none none .none (.node none none .none (.node none none (.node none none .none (.node none none (.node none (some ⟨[.tmpO 3 0 (.slice T_Effect), .tmp 4 (.int .i64)], [some 0], none, []⟩) .none .none) .none)) .none)))
def laws_toEffectS_c : Ct := .pure true false (.pair (.slice T_Effect) .unit) (.slice T_Effect) (fun x => laws_toEffectS x.1)
theorem laws_toEffectS_ct : CtOk Tryz.prog 49 laws_toEffectS_c := pure_ct (E := { T := tab, G := [(131, laws_toEffect_fresh_c)] }) (EnvOk.cons laws_toEffect_fresh_ct (EnvOk.nil tabOk)) mixed (fn := Tryz.f49) _ _ _ _ _ laws_toEffectS_h Tryz.func49 (by kernel_rfl) (fun x => by kernel_rfl)
def laws_toEffectS_fresh_c : Ct := .pure true true (.pair (.slice T_Effect) .unit) (.slice T_Effect) (fun x => laws_toEffectS x.1)
theorem laws_toEffectS_fresh_ct : CtOk Tryz.prog 49 laws_toEffectS_fresh_c := pure_ct (E := { T := tab, G := [(131, laws_toEffect_fresh_c)] }) (EnvOk.cons laws_toEffect_fresh_ct (EnvOk.nil tabOk)) mixed (fn := Tryz.f49) _ _ _ _ _ laws_toEffectS_h Tryz.func49 (by kernel_rfl) (fun x => by kernel_rfl)
/-! loop.example/g00486/laws.toIntS -/
def laws_toIntS_l1 (a0 : (List Int)) : ((List Int) × Int) → Option (((List Int) × Int) ⊕ ((List Int) × Int)) := fun s2 =>
 bif decide (s2.2 < (a0.length : Int)) then (
 idx a0 s2.2 fun x3 =>
 idx s2.1 s2.2 fun _ =>
(s2.1[(s2.2 : Int).toNat]?).bind fun x4 =>
 let u5 : (List Int) := s2.1.set (s2.2 : Int).toNat x3
 some (.inl (u5, IntKind.wrap .i64 (s2.2 + 1))))
 else (
 some (.inr s2))
def laws_toIntS (a0 : (List Int)) : Option (List Int) :=
 if 0 ≤ (a0.length : Int) then (if ((a0.length : Int)).toNat * (24 * 1) ≤ room then (
(while_ (laws_toIntS_l1 a0) ((List.replicate ((a0.length : Int)).toNat 0), 0)).bind fun o6 =>
 some o6.1) else none) else none
def laws_toIntS_h : Hints := (.node none none .none (.node none none .none (.node none none (.node none none .none (.node none none (.node none (some ⟨[.tmpO 3 0 (.slice (.int .i64)), .tmp 4 (.int .i64)], [some 0], none, []⟩) .none .none) .none)) .none)))
def laws_toIntS_c : Ct := .pure true false (.pair (.slice (.int .i64)) .unit) (.slice (.int .i64)) (fun x => laws_toIntS x.1)
theorem laws_toIntS_ct : CtOk Tryz.prog 51 laws_toIntS_c := pure_ct (E := { T := tab, G := [] }) (EnvOk.nil tabOk) mixed (fn := Tryz.f51) _ _ _ _ _ laws_toIntS_h Tryz.func51 (by kernel_rfl) (fun x => by kernel_rfl)
def laws_toIntS_fresh_c : Ct := .pure true true (.pair (.slice (.int .i64)) .unit) (.slice (.int .i64)) (fun x => laws_toIntS x.1)
theorem laws_toIntS_fresh_ct : CtOk Tryz.prog 51 laws_toIntS_fresh_c := pure_ct (E := { T := tab, G := [] }) (EnvOk.nil tabOk) mixed (fn := Tryz.f51) _ _ _ _ _ laws_toIntS_h Tryz.func51 (by kernel_rfl) (fun x => by kernel_rfl)
/-! loop.example/g00486/spec.l9Copy -/
def spec_l9Copy (a0 : T_Act.D) : Option T_Act.D :=
 if (([] : List T_Event.D).length + a0.2.2.2.2.2.2.1.length) * (24 * 7) ≤ room then (
 some (a0.1, a0.2.1, a0.2.2.1, a0.2.2.2.1, a0.2.2.2.2.1, a0.2.2.2.2.2.1, ([] ++ a0.2.2.2.2.2.2.1), ())) else none
def spec_l9Copy_c : Ct := .pure true false (.pair T_Act .unit) T_Act (fun x => spec_l9Copy x.1)
theorem spec_l9Copy_ct : CtOk Tryz.prog 318 spec_l9Copy_c := pure_ct (E := { T := tab, G := [] }) (EnvOk.nil tabOk) mixed (fn := Tryz.f318) _ _ _ _ _ .none Tryz.func318 (by kernel_rfl) (fun x => by kernel_rfl)
def spec_l9Copy_fresh_c : Ct := .pure true true (.pair T_Act .unit) T_Act (fun x => spec_l9Copy x.1)
theorem spec_l9Copy_fresh_ct : CtOk Tryz.prog 318 spec_l9Copy_fresh_c := pure_ct (E := { T := tab, G := [] }) (EnvOk.nil tabOk) mixed (fn := Tryz.f318) _ _ _ _ _ .none Tryz.func318 (by kernel_rfl) (fun x => by kernel_rfl)
/-! loop.example/g00486/spec.l10Copy -/
def spec_l10Copy (a0 : T_Effect.D) : Option T_Effect.D :=
(spec_l9Copy a0.2.2.2.2.2.2.1).bind fun y1 =>
 some (a0.1, a0.2.1, a0.2.2.1, a0.2.2.2.1, a0.2.2.2.2.1, a0.2.2.2.2.2.1, y1, a0.2.2.2.2.2.2.2)
def spec_l10Copy_c : Ct := .pure true false (.pair T_Effect .unit) T_Effect (fun x => spec_l10Copy x.1)
theorem spec_l10Copy_ct : CtOk Tryz.prog 223 spec_l10Copy_c := pure_ct (E := { T := tab, G := [(318, spec_l9Copy_fresh_c)] }) (EnvOk.cons spec_l9Copy_fresh_ct (EnvOk.nil tabOk)) mixed (fn := Tryz.f223) _ _ _ _ _ .none Tryz.func223 (by kernel_rfl) (fun x => by kernel_rfl)
def spec_l10Copy_fresh_c : Ct := .pure true true (.pair T_Effect .unit) T_Effect (fun x => spec_l10Copy x.1)
theorem spec_l10Copy_fresh_ct : CtOk Tryz.prog 223 spec_l10Copy_fresh_c := pure_ct (E := { T := tab, G := [(318, spec_l9Copy_fresh_c)] }) (EnvOk.cons spec_l9Copy_fresh_ct (EnvOk.nil tabOk)) mixed (fn := Tryz.f223) _ _ _ _ _ .none Tryz.func223 (by kernel_rfl) (fun x => by kernel_rfl)
/-! loop.example/g00486/spec.l11Copy -/
def spec_l11Copy_l1 (a0 : (List T_Effect.D)) : ((List T_Effect.D) × Int) → Option (((List T_Effect.D) × Int) ⊕ ((List T_Effect.D) × Int)) := fun s1 =>
 bif decide (s1.2 < (a0.length : Int)) then (
 idx a0 s1.2 fun x2 =>
(spec_l10Copy x2).bind fun y3 =>
 if (s1.1.length + [y3].length) * (24 * 22) ≤ room then (
 some (.inl ((s1.1 ++ [y3]), IntKind.wrap .i64 (s1.2 + 1)))) else none)
 else (
 some (.inr s1))
def spec_l11Copy (a0 : (List T_Effect.D)) : Option (List T_Effect.D) :=
(while_ (spec_l11Copy_l1 a0) ([], 0)).bind fun o4 =>
 some o4.1
def spec_l11Copy_h : Hints := (.node none none .none (.node none none .none (.node none none (.node none none .none (.node none none (.node none (some ⟨[.tmpO 3 0 (.slice T_Effect), .tmp 4 (.int .i64)], [some 0], none, []⟩) .none .none) .none)) .none)))
def spec_l11Copy_c : Ct := .pure true false (.pair (.slice T_Effect) .unit) (.slice T_Effect) (fun x => spec_l11Copy x.1)
theorem spec_l11Copy_ct : CtOk Tryz.prog 155 spec_l11Copy_c := pure_ct (E := { T := tab, G := [(223, spec_l10Copy_fresh_c)] }) (EnvOk.cons spec_l10Copy_fresh_ct (EnvOk.nil tabOk)) mixed (fn := Tryz.f155) _ _ _ _ _ spec_l11Copy_h Tryz.func155 (by kernel_rfl) (fun x => by kernel_rfl)
def spec_l11Copy_fresh_c : Ct := .pure true true (.pair (.slice T_Effect) .unit) (.slice T_Effect) (fun x => spec_l11Copy x.1)
theorem spec_l11Copy_fresh_ct : CtOk Tryz.prog 155 spec_l11Copy_fresh_c := pure_ct (E := { T := tab, G := [(223, spec_l10Copy_fresh_c)] }) (EnvOk.cons spec_l10Copy_fresh_ct (EnvOk.nil tabOk)) mixed (fn := Tryz.f155) _ _ _ _ _ spec_l11Copy_h Tryz.func155 (by kernel_rfl) (fun x => by kernel_rfl)
/-! loop.example/g00486/spec.l1In -/
def spec_l1In (a0 : Int) (a1 : Int) (a2 : Int) : Option Bool :=
 bif decide (a0 ≥ a1) then (
 some (decide (a0 ≤ a2)))
 else (
 some false)
def spec_l1In_c : Ct := .pure true false (.pair (.int .i64) (.pair (.int .i64) (.pair (.int .i64) .unit))) .bool (fun x => spec_l1In x.1 x.2.1 x.2.2.1)
theorem spec_l1In_ct : CtOk Tryz.prog 229 spec_l1In_c := pure_ct (E := { T := tab, G := [] }) (EnvOk.nil tabOk) mixed (fn := Tryz.f229) _ _ _ _ _ .none Tryz.func229 (by kernel_rfl) (fun x => by kernel_rfl)
/-! loop.example/g00486/spec.PieceOk -/
def spec_PieceOk (a0 : T_Piece.D) : Option Bool :=
(((spec_l1In a0.1 1 99).bind fun y1 =>
 bif (!y1) then (
 some true)
 else (
(spec_l1In a0.2.1 0 2).bind fun y2 =>
 bif (!y2) then (
 some true)
 else (
(spec_l1In a0.2.2.1 0 2).bind fun y3 =>
 bif (!y3) then (
 some true)
 else (
(spec_l1In a0.2.2.2.1 1 4).bind fun y4 =>
 bif (!y4) then (
 some true)
 else (
(spec_l1In a0.2.2.2.2.1 0 9999).bind fun y5 =>
 bif (!y5) then (
 some true)
 else (
(spec_l1In a0.2.2.2.2.2.1 0 999).bind fun y6 =>
 bif (!y6) then (
 some true)
 else (
(spec_l1In a0.2.2.2.2.2.2.1 0 999).bind fun y7 =>
 bif (!y7) then (
 some true)
 else (
(spec_l1In a0.2.2.2.2.2.2.2.1 0 63).bind fun y8 =>
 some (!y8))))))))) : Option Bool).bind fun o9 =>
 bif o9 then (
 some false)
 else (
(((spec_l1In a0.2.2.2.2.2.2.2.2.1 0 2147483647).bind fun y10 =>
 bif (!y10) then (
 some true)
 else (
(spec_l1In a0.2.2.2.2.2.2.2.2.2.1 0 2147483647).bind fun y11 =>
 bif (!y11) then (
 some true)
 else (
(spec_l1In a0.2.2.2.2.2.2.2.2.2.2.1 0 2147483647).bind fun y12 =>
 some (!y12)))) : Option Bool).bind fun o13 =>
 bif o13 then (
 some false)
 else (
 bif (a0.2.2.2.1 == 2) then (
 some true)
 else (
 bif (a0.2.2.1 == a0.2.1) then (
 bif (a0.2.2.2.2.2.2.2.2.1 == 0) then (
 bif (a0.2.2.2.2.2.2.2.2.2.1 == 0) then (
 bif (a0.2.2.2.2.2.2.2.2.2.2.1 == 0) then (
 bif (!a0.2.2.2.2.2.2.2.2.2.2.2.1) then (
 some (!a0.2.2.2.2.2.2.2.2.2.2.2.2.1))
 else (
 some false))
 else (
 some false))
 else (
 some false))
 else (
 some false))
 else (
 some false))))
def spec_PieceOk_h : Hints := (.node none none .none (.node none none (.node none none (.node (some ⟨[.tmp 48 .bool], [none], none, []⟩) none .none .none) .none) (.node none none (.node none none (.node (some ⟨[.tmp 64 .bool], [none], none, []⟩) none .none .none) .none) .none)))
def spec_PieceOk_c : Ct := .pure true false (.pair T_Piece .unit) .bool (fun x => spec_PieceOk x.1)
theorem spec_PieceOk_ct : CtOk Tryz.prog 239 spec_PieceOk_c := pure_ct (E := { T := tab, G := [(229, spec_l1In_c)] }) (EnvOk.cons spec_l1In_ct (EnvOk.nil tabOk)) mixed (fn := Tryz.f239) _ _ _ _ _ spec_PieceOk_h Tryz.func239 (by kernel_rfl) (fun x => by kernel_rfl)
/-! loop.example/g00486/spec.l5Side -/
def spec_l5Side (a0 : T_Side.D) : Option Bool :=
(spec_l1In a0.1 (-2147483647) 2147483647).bind fun y1 =>
 bif y1 then (
(spec_l1In a0.2.1 0 2147483647).bind fun y2 =>
 some y2)
 else (
 some false)
def spec_l5Side_c : Ct := .pure true false (.pair T_Side .unit) .bool (fun x => spec_l5Side x.1)
theorem spec_l5Side_ct : CtOk Tryz.prog 240 spec_l5Side_c := pure_ct (E := { T := tab, G := [(229, spec_l1In_c)] }) (EnvOk.cons spec_l1In_ct (EnvOk.nil tabOk)) mixed (fn := Tryz.f240) _ _ _ _ _ .none Tryz.func240 (by kernel_rfl) (fun x => by kernel_rfl)
/-! loop.example/g00486/spec.StateOk -/
def spec_StateOk_l1 (a0 : T_State.D) : Int → Option (Int ⊕ (Int ⊕ Bool)) := fun s5 =>
 bif decide (s5 < (a0.1.length : Int)) then (
 idx a0.1 s5 fun x6 =>
(((spec_PieceOk x6).bind fun y7 =>
 bif (!y7) then (
 some true)
 else (
 bif decide (s5 > 0) then (
 idx a0.1 (IntKind.wrap .i64 (s5 - 1)) fun x8 =>
 bif decide (x8.1 ≥ x6.1) then (
 some true)
 else (
 bif decide (x6.2.1 ≥ (a0.2.1.length : Int)) then (
 some true)
 else (
 bif decide (x6.2.2.1 ≥ (a0.2.1.length : Int)) then (
 some true)
 else (
 some (decide (x6.2.2.2.2.1 > a0.2.2.2.1))))))
 else (
 bif decide (x6.2.1 ≥ (a0.2.1.length : Int)) then (
 some true)
 else (
 bif decide (x6.2.2.1 ≥ (a0.2.1.length : Int)) then (
 some true)
 else (
 some (decide (x6.2.2.2.2.1 > a0.2.2.2.1))))))) : Option Bool).bind fun o9 =>
 bif o9 then (
 some (.inr (.inr false)))
 else (
 some (.inl (IntKind.wrap .i64 (s5 + 1)))))
 else (
 some (.inr (.inl s5)))
def spec_StateOk_l2 (a0 : T_State.D) : Int → Option (Int ⊕ (Int ⊕ Bool)) := fun s13 =>
 bif decide (s13 < (a0.2.1.length : Int)) then (
 idx a0.2.1 s13 fun x14 =>
(spec_l5Side x14).bind fun y15 =>
 bif (!y15) then (
 some (.inr (.inr false)))
 else (
 some (.inl (IntKind.wrap .i64 (s13 + 1)))))
 else (
 some (.inr (.inl s13)))
def spec_StateOk (a0 : T_State.D) : Option Bool :=
((bif decide ((a0.1.length : Int) > 8) then (
 some true)
 else (
(spec_l1In (a0.2.1.length : Int) 2 3).bind fun y1 =>
 bif (!y1) then (
 some true)
 else (
(spec_l1In a0.2.2.1 0 (IntKind.wrap .i64 ((a0.2.1.length : Int) - 1))).bind fun y2 =>
 bif (!y2) then (
 some true)
 else (
(spec_l1In a0.2.2.2.1 0 9999).bind fun y3 =>
 some (!y3))))) : Option Bool).bind fun o4 =>
 bif o4 then (
 some false)
 else (
(while_ (spec_StateOk_l1 a0) 0).bind fun o10 =>
 match o10 with
| .inl s11 => (
(while_ (spec_StateOk_l2 a0) 0).bind fun o16 =>
 match o16 with
| .inl s17 => (
 some true)
| .inr o18 => (
 some o18))
| .inr o12 => (
 some o12))
def spec_StateOk_h : Hints := (.node none none .none (.node none none (.node none none (.node (some ⟨[.tmp 32 .bool], [none], none, []⟩) none .none .none) .none) (.node none none (.node none none .none (.node none none (.node none (some ⟨[.tmp 3 (.int .i64)], [some 0], some [.tmp 2 .bool], []⟩) (.node none none .none (.node none none (.node none none (.node none none .none (.node none none (.node (some ⟨[.tmp 86 .bool], [none], none, []⟩) none .none .none) .none)) .none) .none)) .none) .none)) (.node none none (.node none none .none (.node none none (.node none (some ⟨[.tmp 5 (.int .i64)], [some 2], some [.tmp 2 .bool], []⟩) .none .none) .none)) .none))))
def spec_StateOk_c : Ct := .pure true false (.pair T_State .unit) .bool (fun x => spec_StateOk x.1)
theorem spec_StateOk_ct : CtOk Tryz.prog 118 spec_StateOk_c := pure_ct (E := { T := tab, G := [(229, spec_l1In_c), (239, spec_PieceOk_c), (240, spec_l5Side_c)] }) (EnvOk.cons spec_l1In_ct (EnvOk.cons spec_PieceOk_ct (EnvOk.cons spec_l5Side_ct (EnvOk.nil tabOk)))) mixed (fn := Tryz.f118) _ _ _ _ _ spec_StateOk_h Tryz.func118 (by kernel_rfl) (fun x => by kernel_rfl)
/-! loop.example/g00486/spec.PatOk -/
def spec_PatOk (a0 : T_Pat.D) : Option Bool :=
(((spec_l1In a0.1 1 6).bind fun y1 =>
 bif (!y1) then (
 some true)
 else (
(spec_l1In a0.2.1 0 2).bind fun y2 =>
 bif (!y2) then (
 some true)
 else (
(spec_l1In a0.2.2.2.2.1 0 99).bind fun y3 =>
 bif (!y3) then (
 some true)
 else (
(spec_l1In a0.2.2.2.2.2.1 0 2147483647).bind fun y4 =>
 bif (!y4) then (
 some true)
 else (
(spec_l1In a0.2.2.1 0 99).bind fun y5 =>
 bif (!y5) then (
 some true)
 else (
(spec_l1In a0.2.2.2.1 0 63).bind fun y6 =>
 bif (!y6) then (
 some true)
 else (
(spec_l1In a0.2.2.2.2.2.2.1 0 4).bind fun y7 =>
 some (!y7)))))))) : Option Bool).bind fun o8 =>
 bif o8 then (
 some false)
 else (
((bif (a0.1 != 1) then (
 bif (a0.2.2.1 != 0) then (
 some true)
 else (
 bif (a0.2.2.2.1 != 0) then (
 some true)
 else (
 bif (a0.1 != 2) then (
 some (a0.2.2.2.2.2.2.1 != 0))
 else (
 some false))))
 else (
 bif (a0.1 != 2) then (
 some (a0.2.2.2.2.2.2.1 != 0))
 else (
 some false))) : Option Bool).bind fun o9 =>
 bif o9 then (
 some false)
 else (
 bif (a0.1 != 3) then (
 bif (a0.1 != 4) then (
 some true)
 else (
 some (a0.2.2.2.2.1 == 0)))
 else (
 some (a0.2.2.2.2.1 == 0))))
def spec_PatOk_h : Hints := (.node none none .none (.node none none (.node none none (.node (some ⟨[.tmp 42 .bool], [none], none, []⟩) none .none .none) .none) (.node none none (.node none none (.node (some ⟨[.tmp 65 .bool], [none], none, []⟩) none .none .none) .none) .none)))
def spec_PatOk_c : Ct := .pure true false (.pair T_Pat .unit) .bool (fun x => spec_PatOk x.1)
theorem spec_PatOk_ct : CtOk Tryz.prog 328 spec_PatOk_c := pure_ct (E := { T := tab, G := [(229, spec_l1In_c)] }) (EnvOk.cons spec_l1In_ct (EnvOk.nil tabOk)) mixed (fn := Tryz.f328) _ _ _ _ _ spec_PatOk_h Tryz.func328 (by kernel_rfl) (fun x => by kernel_rfl)
/-! loop.example/g00486/spec.GuardOk -/
def spec_GuardOk (a0 : T_Guard.D) : Option Bool :=
((bif (a0.1 == 0) then (
 some (a0.1 == 0))
 else (
 some (a0.1 == 3))) : Option Bool).bind fun o1 =>
 bif o1 then (
 some (a0.2.1 == 0))
 else (
 bif (a0.1 == 1) then (
(spec_l1In a0.2.1 (-2147483647) 2147483647).bind fun y2 =>
 some y2)
 else (
 bif (a0.1 == 2) then (
(spec_l1In a0.2.1 0 8).bind fun y3 =>
 some y3)
 else (
 bif (a0.1 == 4) then (
(spec_l1In a0.2.1 0 8).bind fun y4 =>
 some y4)
 else (
 some false))))
def spec_GuardOk_h : Hints := (.node none none .none (.node none none (.node none none .none (.node none none (.node none none (.node none none .none (.node (some ⟨[.tmp 5 .bool], [none], none, []⟩) none .none .none)) .none) .none)) .none))
def spec_GuardOk_c : Ct := .pure true false (.pair T_Guard .unit) .bool (fun x => spec_GuardOk x.1)
theorem spec_GuardOk_ct : CtOk Tryz.prog 329 spec_GuardOk_c := pure_ct (E := { T := tab, G := [(229, spec_l1In_c)] }) (EnvOk.cons spec_l1In_ct (EnvOk.nil tabOk)) mixed (fn := Tryz.f329) _ _ _ _ _ spec_GuardOk_h Tryz.func329 (by kernel_rfl) (fun x => by kernel_rfl)
/-! loop.example/g00486/spec.l9Plain -/
def spec_l9Plain (a0 : T_Act.D) : Option Bool :=
 bif (a0.2.2.1 == 0) then (
 bif (a0.2.2.2.1 == (-1)) then (
 bif (a0.2.2.2.2.1 == 0) then (
 bif (!a0.2.2.2.2.2.1) then (
 some ((a0.2.2.2.2.2.2.1.length : Int) == 0))
 else (
 some false))
 else (
 some false))
 else (
 some false))
 else (
 some false)
def spec_l9Plain_c : Ct := .pure true false (.pair T_Act .unit) .bool (fun x => spec_l9Plain x.1)
theorem spec_l9Plain_ct : CtOk Tryz.prog 361 spec_l9Plain_c := pure_ct (E := { T := tab, G := [] }) (EnvOk.nil tabOk) mixed (fn := Tryz.f361) _ _ _ _ _ .none Tryz.func361 (by kernel_rfl) (fun x => by kernel_rfl)
/-! loop.example/g00486/spec.EventOk -/
def spec_EventOk (a0 : T_Event.D) : Option Bool :=
(((spec_l1In a0.2.2.1 1 99).bind fun y1 =>
 bif y1 then (
 some (a0.2.2.2.1 == (-1)))
 else (
 some false)) : Option Bool).bind fun o2 =>
((bif (a0.2.2.1 == 0) then (
(spec_l1In a0.2.2.2.1 0 2).bind fun y3 =>
 some y3)
 else (
 some false)) : Option Bool).bind fun o4 =>
(spec_l1In a0.2.2.2.2.1 0 2147483647).bind fun y5 =>
 bif (!y5) then (
 some false)
 else (
 bif (a0.1 == 1) then (
(spec_l1In a0.2.1 1 99).bind fun y6 =>
 bif y6 then (
 bif o2 then (
 bif (a0.2.2.2.2.2.1 == 0) then (
 some (!a0.2.2.2.2.2.2.1))
 else (
 some false))
 else (
 bif o4 then (
 bif (a0.2.2.2.2.2.1 == 0) then (
 some (!a0.2.2.2.2.2.2.1))
 else (
 some false))
 else (
 some false)))
 else (
 some false))
 else (
 bif (a0.1 == 2) then (
 bif (a0.2.1 == 0) then (
 bif o2 then (
(spec_l1In a0.2.2.2.2.2.1 1 4).bind fun y7 =>
 bif y7 then (
 bif decide (a0.2.2.2.2.1 ≤ 99) then (
 bif (a0.2.2.2.2.2.1 == 2) then (
 some true)
 else (
 bif (a0.2.2.2.2.1 == 0) then (
 some (!a0.2.2.2.2.2.2.1))
 else (
 some false)))
 else (
 some false))
 else (
 some false))
 else (
 some false))
 else (
 some false))
 else (
((bif (a0.1 == 3) then (
 some (a0.1 == 3))
 else (
 some (a0.1 == 4))) : Option Bool).bind fun o8 =>
 bif o8 then (
 bif (a0.2.1 == 0) then (
 bif o4 then (
 bif (a0.2.2.2.2.2.1 == 0) then (
 some (!a0.2.2.2.2.2.2.1))
 else (
 some false))
 else (
 some false))
 else (
 some false))
 else (
((bif (a0.1 == 5) then (
 some (a0.1 == 5))
 else (
 some (a0.1 == 6))) : Option Bool).bind fun o9 =>
 bif o9 then (
 bif (a0.2.1 == 0) then (
 bif o2 then (
 bif (a0.2.2.2.2.2.1 == 0) then (
 some (!a0.2.2.2.2.2.2.1))
 else (
 some false))
 else (
 some false))
 else (
 some false))
 else (
 some false)))))
def spec_EventOk_h : Hints := (.node none none .none (.node none none (.node (some ⟨[.tmp 3 .bool], [none], none, []⟩) none .none .none) (.node none none (.node (some ⟨[.tmp 4 .bool], [none], none, []⟩) none .none .none) (.node none none .none (.node none none (.node none none .none (.node none none (.node none none .none (.node none none .none (.node none none .none (.node none none .none (.node none none (.node none none .none (.node (some ⟨[.tmp 81 .bool], [none], none, []⟩) none .none .none)) (.node none none .none (.node none none (.node none none .none (.node (some ⟨[.tmp 100 .bool], [none], none, []⟩) none .none .none)) .none))))))) .none)) .none)))))
def spec_EventOk_c : Ct := .pure true false (.pair T_Event .unit) .bool (fun x => spec_EventOk x.1)
theorem spec_EventOk_ct : CtOk Tryz.prog 158 spec_EventOk_c := pure_ct (E := { T := tab, G := [(229, spec_l1In_c)] }) (EnvOk.cons spec_l1In_ct (EnvOk.nil tabOk)) mixed (fn := Tryz.f158) _ _ _ _ _ spec_EventOk_h Tryz.func158 (by kernel_rfl) (fun x => by kernel_rfl)
/-! loop.example/g00486/spec.l9Part -/
def spec_l9Part (a0 : T_Event.D) : Option Bool :=
((bif (a0.2.2.2.2.1 == (-1)) then (
 some (a0.1 != 2))
 else (
 some false)) : Option Bool).bind fun o1 =>
((bif o1 then (
 some (a0.1, a0.2.1, a0.2.2.1, a0.2.2.2.1, 0, a0.2.2.2.2.2))
 else (
 some a0)) : Option T_Event.D).bind fun o2 =>
(spec_EventOk o2).bind fun y3 =>
 some y3
def spec_l9Part_h : Hints := (.node none none .none (.node none none (.node none none (.node (some ⟨[.tmp 10 .bool], [none], none, []⟩) none .none .none) (.node (some ⟨[.box 1 0 T_Event], [none], none, [(1, 0)]⟩) none .none .none)) .none))
def spec_l9Part_c : Ct := .pure true false (.pair T_Event .unit) .bool (fun x => spec_l9Part x.1)
theorem spec_l9Part_ct : CtOk Tryz.prog 362 spec_l9Part_c := pure_ct (E := { T := tab, G := [(158, spec_EventOk_c)] }) (EnvOk.cons spec_EventOk_ct (EnvOk.nil tabOk)) mixed (fn := Tryz.f362) _ _ _ _ _ spec_l9Part_h Tryz.func362 (by kernel_rfl) (fun x => by kernel_rfl)
/-! loop.example/g00486/spec.ActOk -/
def spec_ActOk_l1 (a0 : T_Act.D) : Int → Option (Int ⊕ (Int ⊕ Bool)) := fun s12 =>
 bif decide (s12 < (a0.2.2.2.2.2.2.1.length : Int)) then (
 idx a0.2.2.2.2.2.2.1 s12 fun x13 =>
(spec_l9Part x13).bind fun y14 =>
 bif (!y14) then (
 some (.inr (.inr false)))
 else (
 some (.inl (IntKind.wrap .i64 (s12 + 1)))))
 else (
 some (.inr (.inl s12)))
def spec_ActOk (a0 : T_Act.D) : Option Bool :=
((bif (a0.1 == 1) then (
 some (a0.1 == 1))
 else (
((bif (a0.1 == 2) then (
 some (a0.1 == 2))
 else (
((bif (a0.1 == 4) then (
 some (a0.1 == 4))
 else (
 some (a0.1 == 5))) : Option Bool).bind fun o1 =>
 some o1)) : Option Bool).bind fun o2 =>
 some o2)) : Option Bool).bind fun o3 =>
 bif o3 then (
(spec_l9Plain a0).bind fun y4 =>
 bif y4 then (
 some (a0.2.1 == 0))
 else (
 some false))
 else (
 bif (a0.1 == 3) then (
(spec_l9Plain a0).bind fun y5 =>
 bif y5 then (
(spec_l1In a0.2.1 1 2147483647).bind fun y6 =>
 some y6)
 else (
 some false))
 else (
 bif (a0.1 == 6) then (
 bif (a0.2.1 == 0) then (
 bif (a0.2.2.2.2.1 == 0) then (
 bif (!a0.2.2.2.2.2.1) then (
 bif ((a0.2.2.2.2.2.2.1.length : Int) == 0) then (
(spec_l1In a0.2.2.1 1 99).bind fun y7 =>
 bif y7 then (
 bif (a0.2.2.2.1 == (-1)) then (
 some true)
 else (
 bif (a0.2.2.1 == 0) then (
(spec_l1In a0.2.2.2.1 0 2).bind fun y8 =>
 some y8)
 else (
 some false)))
 else (
 bif (a0.2.2.1 == 0) then (
(spec_l1In a0.2.2.2.1 0 2).bind fun y9 =>
 some y9)
 else (
 some false)))
 else (
 some false))
 else (
 some false))
 else (
 some false))
 else (
 some false))
 else (
 bif (a0.1 == 7) then (
 bif (a0.2.1 == 0) then (
 bif (a0.2.2.1 == 0) then (
 bif (a0.2.2.2.1 == (-1)) then (
 bif (!a0.2.2.2.2.2.1) then (
 bif ((a0.2.2.2.2.2.2.1.length : Int) == 0) then (
(spec_l1In a0.2.2.2.2.1 1 4).bind fun y10 =>
 some y10)
 else (
 some false))
 else (
 some false))
 else (
 some false))
 else (
 some false))
 else (
 some false))
 else (
 bif (a0.1 == 8) then (
(spec_l1In a0.2.1 0 99).bind fun y11 =>
 bif y11 then (
 bif (a0.2.2.1 == 0) then (
 bif (a0.2.2.2.1 == (-1)) then (
 bif (a0.2.2.2.2.1 == 0) then (
 some ((a0.2.2.2.2.2.2.1.length : Int) == 0))
 else (
 some false))
 else (
 some false))
 else (
 some false))
 else (
 some false))
 else (
 bif (a0.1 == 9) then (
(while_ (spec_ActOk_l1 a0) 0).bind fun o15 =>
 match o15 with
| .inl s16 => (
 bif (a0.2.1 == 0) then (
 bif (a0.2.2.1 == 0) then (
 bif (a0.2.2.2.1 == (-1)) then (
 bif (a0.2.2.2.2.1 == 0) then (
 bif (!a0.2.2.2.2.2.1) then (
(spec_l1In (a0.2.2.2.2.2.2.1.length : Int) 1 3).bind fun y18 =>
 some y18)
 else (
 some false))
 else (
 some false))
 else (
 some false))
 else (
 some false))
 else (
 some false))
| .inr o17 => (
 some o17))
 else (
 some false))))))
def spec_ActOk_h : Hints := (.node none none .none (.node none none (.node none none .none (.node none none (.node none none (.node none none .none (.node (some ⟨[.tmp 6 .bool], [none], none, []⟩) none .none (.node none none .none (.node (some ⟨[.tmp 6 .bool], [none], none, []⟩) none .none (.node none none .none (.node (some ⟨[.tmp 6 .bool], [none], none, []⟩) none .none .none)))))) (.node none none .none (.node none none .none (.node none none .none (.node none none .none (.node none none .none (.node none none .none (.node none none .none (.node none none .none (.node none none .none (.node none none .none (.node none none (.node none none (.node none none .none (.node none none (.node none (some ⟨[.tmp 3 (.int .i64)], [some 1], some [.tmp 2 .bool], []⟩) .none .none) .none)) .none) .none)))))))))))) .none)) .none))
def spec_ActOk_c : Ct := .pure true false (.pair T_Act .unit) .bool (fun x => spec_ActOk x.1)
theorem spec_ActOk_ct : CtOk Tryz.prog 330 spec_ActOk_c := pure_ct (E := { T := tab, G := [(229, spec_l1In_c), (361, spec_l9Plain_c), (362, spec_l9Part_c)] }) (EnvOk.cons spec_l1In_ct (EnvOk.cons spec_l9Plain_ct (EnvOk.cons spec_l9Part_ct (EnvOk.nil tabOk)))) mixed (fn := Tryz.f330) _ _ _ _ _ spec_ActOk_h Tryz.func330 (by kernel_rfl) (fun x => by kernel_rfl)
/-! loop.example/g00486/spec.ActFits -/
def spec_ActFits (a0 : T_Act.D) (a1 : Int) : Option Bool :=
(spec_l1In a1 1 6).bind fun y1 =>
 bif (!y1) then (
 some false)
 else (
((bif (a0.1 == 2) then (
 some (a0.1 == 2))
 else (
 some (a0.1 == 6))) : Option Bool).bind fun o2 =>
 bif o2 then (
 some (a1 == 1))
 else (
((bif (a0.1 == 3) then (
 some (a0.1 == 3))
 else (
((bif (a0.1 == 4) then (
 some (a0.1 == 4))
 else (
 some (a0.1 == 5))) : Option Bool).bind fun o3 =>
 some o3)) : Option Bool).bind fun o4 =>
 bif o4 then (
 some (a1 != 2))
 else (
((bif (a0.1 == 7) then (
 some (a0.1 == 7))
 else (
 some (a0.1 == 8))) : Option Bool).bind fun o5 =>
 bif o5 then (
 some (a1 == 2))
 else (
 bif (a0.1 == 1) then (
 some true)
 else (
 some (a0.1 == 9))))))
def spec_ActFits_h : Hints := (.node none none .none (.node none none .none (.node none none (.node none none .none (.node none none (.node none none (.node none none .none (.node (some ⟨[.tmp 10 .bool], [none], none, []⟩) none .none .none)) (.node none none .none (.node none none (.node none none .none (.node (some ⟨[.tmp 15 .bool], [none], none, []⟩) none .none (.node none none .none (.node (some ⟨[.tmp 15 .bool], [none], none, []⟩) none .none .none)))) (.node none none .none (.node none none (.node none none .none (.node (some ⟨[.tmp 21 .bool], [none], none, []⟩) none .none .none)) .none))))) .none)) .none)))
def spec_ActFits_c : Ct := .pure true false (.pair T_Act (.pair (.int .i64) .unit)) .bool (fun x => spec_ActFits x.1 x.2.1)
theorem spec_ActFits_ct : CtOk Tryz.prog 331 spec_ActFits_c := pure_ct (E := { T := tab, G := [(229, spec_l1In_c)] }) (EnvOk.cons spec_l1In_ct (EnvOk.nil tabOk)) mixed (fn := Tryz.f331) _ _ _ _ _ spec_ActFits_h Tryz.func331 (by kernel_rfl) (fun x => by kernel_rfl)
/-! loop.example/g00486/spec.EffectOk -/
def spec_EffectOk (a0 : T_Effect.D) : Option Bool :=
(((spec_l1In a0.1 1 99).bind fun y1 =>
 bif (!y1) then (
 some true)
 else (
(spec_l1In a0.2.1 0 2).bind fun y2 =>
 bif (!y2) then (
 some true)
 else (
(spec_l1In a0.2.2.1 0 99).bind fun y3 =>
 bif (!y3) then (
 some true)
 else (
(spec_l1In a0.2.2.2.1 0 4).bind fun y4 =>
 bif (!y4) then (
 some true)
 else (
(spec_l1In a0.2.2.2.2.2.2.2.1 (-1) 9999).bind fun y5 =>
 bif (!y5) then (
 some true)
 else (
(spec_l1In a0.2.2.2.2.2.2.2.2.1 (-1) 2147483647).bind fun y6 =>
 some (!y6))))))) : Option Bool).bind fun o7 =>
 bif o7 then (
 some false)
 else (
((bif (a0.2.2.2.1 == 0) then (
 bif (a0.2.2.1 == 0) then (
 some true)
 else (
 bif (a0.2.2.2.2.2.2.1.1 == 2) then (
 some (decide (a0.2.2.2.2.2.2.2.2.1 < 0)))
 else (
 some false)))
 else (
 bif (a0.2.2.2.2.2.2.1.1 == 2) then (
 some (decide (a0.2.2.2.2.2.2.2.2.1 < 0)))
 else (
 some false))) : Option Bool).bind fun o8 =>
 bif o8 then (
 some false)
 else (
(spec_PatOk a0.2.2.2.2.1).bind fun y9 =>
 bif y9 then (
(spec_GuardOk a0.2.2.2.2.2.1).bind fun y10 =>
 bif y10 then (
(spec_ActOk a0.2.2.2.2.2.2.1).bind fun y11 =>
 bif y11 then (
(spec_ActFits a0.2.2.2.2.2.2.1 a0.2.2.2.2.1.1).bind fun y12 =>
 some y12)
 else (
 some false))
 else (
 some false))
 else (
 some false)))
def spec_EffectOk_h : Hints := (.node none none .none (.node none none (.node none none (.node (some ⟨[.tmp 36 .bool], [none], none, []⟩) none .none .none) .none) (.node none none (.node none none (.node (some ⟨[.tmp 55 .bool], [none], none, []⟩) none .none .none) .none) .none)))
def spec_EffectOk_c : Ct := .pure true false (.pair T_Effect .unit) .bool (fun x => spec_EffectOk x.1)
theorem spec_EffectOk_ct : CtOk Tryz.prog 241 spec_EffectOk_c := pure_ct (E := { T := tab, G := [(229, spec_l1In_c), (328, spec_PatOk_c), (329, spec_GuardOk_c), (330, spec_ActOk_c), (331, spec_ActFits_c)] }) (EnvOk.cons spec_l1In_ct (EnvOk.cons spec_PatOk_ct (EnvOk.cons spec_GuardOk_ct (EnvOk.cons spec_ActOk_ct (EnvOk.cons spec_ActFits_ct (EnvOk.nil tabOk)))))) mixed (fn := Tryz.f241) _ _ _ _ _ spec_EffectOk_h Tryz.func241 (by kernel_rfl) (fun x => by kernel_rfl)
/-! loop.example/g00486/spec.TableOk -/
def spec_TableOk_l1 (a0 : (List T_Effect.D)) : Int → Option (Int ⊕ (Int ⊕ Bool)) := fun s1 =>
 bif decide (s1 < (a0.length : Int)) then (
((idx a0 s1 fun x2 =>
(spec_EffectOk x2).bind fun y3 =>
 bif (!y3) then (
 some true)
 else (
 bif decide (s1 > 0) then (
 idx a0 (IntKind.wrap .i64 (s1 - 1)) fun x4 =>
 idx a0 s1 fun x5 =>
 some (decide (x4.1 ≥ x5.1)))
 else (
 some false))) : Option Bool).bind fun o6 =>
 bif o6 then (
 some (.inr (.inr false)))
 else (
 some (.inl (IntKind.wrap .i64 (s1 + 1)))))
 else (
 some (.inr (.inl s1)))
def spec_TableOk (a0 : (List T_Effect.D)) : Option Bool :=
(while_ (spec_TableOk_l1 a0) 0).bind fun o7 =>
 match o7 with
| .inl s8 => (
 some (decide ((a0.length : Int) ≤ 5)))
| .inr o9 => (
 some o9)
def spec_TableOk_h : Hints := (.node none none .none (.node none none (.node none none .none (.node none none (.node none (some ⟨[.tmp 3 (.int .i64)], [some 0], some [.tmp 2 .bool], []⟩) (.node none none .none (.node none none (.node none none (.node none none (.node (some ⟨[.tmp 33 .bool], [none], none, []⟩) none .none .none) .none) .none) .none)) .none) .none)) .none))
def spec_TableOk_c : Ct := .pure true false (.pair (.slice T_Effect) .unit) .bool (fun x => spec_TableOk x.1)
theorem spec_TableOk_ct : CtOk Tryz.prog 119 spec_TableOk_c := pure_ct (E := { T := tab, G := [(241, spec_EffectOk_c)] }) (EnvOk.cons spec_EffectOk_ct (EnvOk.nil tabOk)) mixed (fn := Tryz.f119) _ _ _ _ _ spec_TableOk_h Tryz.func119 (by kernel_rfl) (fun x => by kernel_rfl)
/-! loop.example/g00486/spec.Has -/
def spec_Has_l1 (a0 : (List Int)) (a1 : Int) : Int → Option (Int ⊕ (Int ⊕ Bool)) := fun s1 =>
 bif decide (s1 < (a0.length : Int)) then (
 idx a0 s1 fun x2 =>
 bif (x2 == a1) then (
 some (.inr (.inr true)))
 else (
 some (.inl (IntKind.wrap .i64 (s1 + 1)))))
 else (
 some (.inr (.inl s1)))
def spec_Has (a0 : (List Int)) (a1 : Int) : Option Bool :=
(while_ (spec_Has_l1 a0 a1) 0).bind fun o3 =>
 match o3 with
| .inl s4 => (
 some false)
| .inr o5 => (
 some o5)
def spec_Has_h : Hints := (.node none none .none (.node none none (.node none none .none (.node none none (.node none (some ⟨[.tmp 5 (.int .i64)], [some 0], some [.tmp 4 .bool], []⟩) .none .none) .none)) .none))
def spec_Has_c : Ct := .pure true false (.pair (.slice (.int .i64)) (.pair (.int .i64) .unit)) .bool (fun x => spec_Has x.1 x.2.1)
theorem spec_Has_ct : CtOk Tryz.prog 324 spec_Has_c := pure_ct (E := { T := tab, G := [] }) (EnvOk.nil tabOk) mixed (fn := Tryz.f324) _ _ _ _ _ spec_Has_h Tryz.func324 (by kernel_rfl) (fun x => by kernel_rfl)
/-! loop.example/g00486/spec.Lives -/
def spec_Lives (a0 : T_Effect.D) (a1 : Int) : Option Bool :=
 bif (a0.2.2.2.2.2.2.2.2.1 != 0) then (
 bif (a0.2.2.2.2.2.2.2.1 == (-1)) then (
 some true)
 else (
 some (decide (a0.2.2.2.2.2.2.2.1 ≥ a1))))
 else (
 some false)
def spec_Lives_c : Ct := .pure true false (.pair T_Effect (.pair (.int .i64) .unit)) .bool (fun x => spec_Lives x.1 x.2.1)
theorem spec_Lives_ct : CtOk Tryz.prog 230 spec_Lives_c := pure_ct (E := { T := tab, G := [] }) (EnvOk.nil tabOk) mixed (fn := Tryz.f230) _ _ _ _ _ .none Tryz.func230 (by kernel_rfl) (fun x => by kernel_rfl)
/-! loop.example/g00486/spec.Near -/
def spec_Near (a0 : T_Effect.D) (a1 : T_Event.D) : Option Bool :=
 bif (a0.2.2.2.1 != 0) then (
 some true)
 else (
 bif (a0.2.2.1 == a1.2.1) then (
 some true)
 else (
 some (a0.2.2.1 == a1.2.2.1)))
def spec_Near_c : Ct := .pure true false (.pair T_Effect (.pair T_Event .unit)) .bool (fun x => spec_Near x.1 x.2.1)
theorem spec_Near_ct : CtOk Tryz.prog 365 spec_Near_c := pure_ct (E := { T := tab, G := [] }) (EnvOk.nil tabOk) mixed (fn := Tryz.f365) _ _ _ _ _ .none Tryz.func365 (by kernel_rfl) (fun x => by kernel_rfl)
/-! loop.example/g00486/spec.l8Many -/
def spec_l8Many_l1 (a0 : T_State.D) (a1 : Int) : (Int × Int) → Option ((Int × Int) ⊕ (Int × Int)) := fun s1 =>
 bif decide (s1.2 < (a0.1.length : Int)) then (
((idx a0.1 s1.2 fun x2 =>
 bif (x2.2.2.2.1 == 2) then (
 idx a0.1 s1.2 fun x3 =>
 some (x3.2.2.1 == a1))
 else (
 some false)) : Option Bool).bind fun o4 =>
((bif o4 then (
 some (IntKind.wrap .i64 (s1.1 + 1)))
 else (
 some s1.1)) : Option Int).bind fun o5 =>
 some (.inl (o5, IntKind.wrap .i64 (s1.2 + 1))))
 else (
 some (.inr s1))
def spec_l8Many (a0 : T_State.D) (a1 : Int) : Option Int :=
(while_ (spec_l8Many_l1 a0 a1) (0, 0)).bind fun o6 =>
 some o6.1
def spec_l8Many_h : Hints := (.node none none .none (.node none none .none (.node none none (.node none none .none (.node none none (.node none (some ⟨[.tmp 5 (.int .i64), .tmp 6 (.int .i64)], [some 0], none, []⟩) (.node none none .none (.node none none (.node none none (.node none none (.node (some ⟨[.tmp 30 .bool], [none], none, []⟩) none .none .none) (.node (some ⟨[.tmp 5 (.int .i64)], [none], none, []⟩) none .none .none)) .none) .none)) .none) .none)) .none)))
def spec_l8Many_c : Ct := .pure true false (.pair T_State (.pair (.int .i64) .unit)) (.int .i64) (fun x => spec_l8Many x.1 x.2.1)
theorem spec_l8Many_ct : CtOk Tryz.prog 385 spec_l8Many_c := pure_ct (E := { T := tab, G := [] }) (EnvOk.nil tabOk) mixed (fn := Tryz.f385) _ _ _ _ _ spec_l8Many_h Tryz.func385 (by kernel_rfl) (fun x => by kernel_rfl)
/-! loop.example/g00486/spec.BentOf -/
def spec_BentOf_l1 (a0 : T_State.D) (a1 : Int) : (Int × Int) → Option ((Int × Int) ⊕ (Int × Int)) := fun s1 =>
 bif decide (s1.2 < (a0.1.length : Int)) then (
((idx a0.1 s1.2 fun x2 =>
 bif (x2.2.2.2.1 == 2) then (
 idx a0.1 s1.2 fun x3 =>
 bif (x3.2.2.1 == a1) then (
 idx a0.1 s1.2 fun x4 =>
 some x4.2.2.2.2.2.2.2.2.2.2.2.2.1)
 else (
 some false))
 else (
 some false)) : Option Bool).bind fun o5 =>
((bif o5 then (
 some (IntKind.wrap .i64 (s1.1 + 1)))
 else (
 some s1.1)) : Option Int).bind fun o6 =>
 some (.inl (o6, IntKind.wrap .i64 (s1.2 + 1))))
 else (
 some (.inr s1))
def spec_BentOf (a0 : T_State.D) (a1 : Int) : Option Int :=
(while_ (spec_BentOf_l1 a0 a1) (0, 0)).bind fun o7 =>
 some o7.1
def spec_BentOf_h : Hints := (.node none none .none (.node none none .none (.node none none (.node none none .none (.node none none (.node none (some ⟨[.tmp 5 (.int .i64), .tmp 6 (.int .i64)], [some 0], none, []⟩) (.node none none .none (.node none none (.node none none (.node none none (.node (some ⟨[.tmp 38 .bool], [none], none, []⟩) none .none .none) (.node (some ⟨[.tmp 5 (.int .i64)], [none], none, []⟩) none .none .none)) .none) .none)) .none) .none)) .none)))
def spec_BentOf_c : Ct := .pure true false (.pair T_State (.pair (.int .i64) .unit)) (.int .i64) (fun x => spec_BentOf x.1 x.2.1)
theorem spec_BentOf_ct : CtOk Tryz.prog 386 spec_BentOf_c := pure_ct (E := { T := tab, G := [] }) (EnvOk.nil tabOk) mixed (fn := Tryz.f386) _ _ _ _ _ spec_BentOf_h Tryz.func386 (by kernel_rfl) (fun x => by kernel_rfl)
/-! loop.example/g00486/spec.Holds -/
def spec_Holds (a0 : T_State.D) (a1 : Int) (a2 : T_Guard.D) : Option Bool :=
(((spec_GuardOk a2).bind fun y1 =>
 bif (!y1) then (
 some true)
 else (
(spec_l1In a1 0 (IntKind.wrap .i64 ((a0.2.1.length : Int) - 1))).bind fun y2 =>
 some (!y2))) : Option Bool).bind fun o3 =>
 bif o3 then (
 some false)
 else (
 bif (a2.1 == 1) then (
 idx a0.2.1 a1 fun x4 =>
 some (decide (x4.1 ≤ a2.2.1)))
 else (
 bif (a2.1 == 2) then (
(spec_l8Many a0 a1).bind fun y5 =>
 some (decide (y5 ≥ a2.2.1)))
 else (
 bif (a2.1 == 3) then (
 some (a0.2.2.1 == a1))
 else (
 bif (a2.1 == 4) then (
(spec_BentOf a0 a1).bind fun y6 =>
 some (decide (y6 ≥ a2.2.1)))
 else (
 some true)))))
def spec_Holds_h : Hints := (.node none none .none (.node none none (.node none none (.node (some ⟨[.tmp 18 .bool], [none], none, []⟩) none .none .none) .none) .none))
def spec_Holds_c : Ct := .pure true false (.pair T_State (.pair (.int .i64) (.pair T_Guard .unit))) .bool (fun x => spec_Holds x.1 x.2.1 x.2.2.1)
theorem spec_Holds_ct : CtOk Tryz.prog 366 spec_Holds_c := pure_ct (E := { T := tab, G := [(229, spec_l1In_c), (329, spec_GuardOk_c), (385, spec_l8Many_c), (386, spec_BentOf_c)] }) (EnvOk.cons spec_l1In_ct (EnvOk.cons spec_GuardOk_ct (EnvOk.cons spec_l8Many_ct (EnvOk.cons spec_BentOf_ct (EnvOk.nil tabOk))))) mixed (fn := Tryz.f366) _ _ _ _ _ spec_Holds_h Tryz.func366 (by kernel_rfl) (fun x => by kernel_rfl)
/-! loop.example/g00486/spec.PieceAt -/
def spec_PieceAt_l1 (a0 : T_State.D) (a1 : Int) : Int → Option (Int ⊕ (Int ⊕ Int)) := fun s1 =>
 bif decide (s1 < (a0.1.length : Int)) then (
 idx a0.1 s1 fun x2 =>
 bif (x2.1 == a1) then (
 some (.inr (.inr s1)))
 else (
 some (.inl (IntKind.wrap .i64 (s1 + 1)))))
 else (
 some (.inr (.inl s1)))
def spec_PieceAt (a0 : T_State.D) (a1 : Int) : Option Int :=
(while_ (spec_PieceAt_l1 a0 a1) 0).bind fun o3 =>
 match o3 with
| .inl s4 => (
 some (-1))
| .inr o5 => (
 some o5)
def spec_PieceAt_h : Hints := (.node none none .none (.node none none (.node none none .none (.node none none (.node none (some ⟨[.tmp 5 (.int .i64)], [some 0], some [.tmp 4 (.int .i64)], []⟩) .none .none) .none)) .none))
def spec_PieceAt_c : Ct := .pure true false (.pair T_State (.pair (.int .i64) .unit)) (.int .i64) (fun x => spec_PieceAt x.1 x.2.1)
theorem spec_PieceAt_ct : CtOk Tryz.prog 321 spec_PieceAt_c := pure_ct (E := { T := tab, G := [] }) (EnvOk.nil tabOk) mixed (fn := Tryz.f321) _ _ _ _ _ spec_PieceAt_h Tryz.func321 (by kernel_rfl) (fun x => by kernel_rfl)
/-! loop.example/g00486/spec.Target -/
def spec_Target (a0 : T_State.D) (a1 : T_Event.D) : Option Int :=
 bif (a1.2.2.1 == 0) then (
(spec_l1In a1.2.2.2.1 0 (IntKind.wrap .i64 ((a0.2.1.length : Int) - 1))).bind fun y1 =>
 bif (!y1) then (
 some (-1))
 else (
 some a1.2.2.2.1))
 else (
(spec_PieceAt a0 a1.2.2.1).bind fun y2 =>
 bif decide (y2 < 0) then (
 some (-1))
 else (
 idx a0.1 y2 fun x3 =>
 some x3.2.2.1))
def spec_Target_c : Ct := .pure true false (.pair T_State (.pair T_Event .unit)) (.int .i64) (fun x => spec_Target x.1 x.2.1)
theorem spec_Target_ct : CtOk Tryz.prog 339 spec_Target_c := pure_ct (E := { T := tab, G := [(229, spec_l1In_c), (321, spec_PieceAt_c)] }) (EnvOk.cons spec_l1In_ct (EnvOk.cons spec_PieceAt_ct (EnvOk.nil tabOk))) mixed (fn := Tryz.f339) _ _ _ _ _ .none Tryz.func339 (by kernel_rfl) (fun x => by kernel_rfl)
/-! loop.example/g00486/spec.TargetFits -/
def spec_TargetFits (a0 : T_State.D) (a1 : Int) (a2 : T_Pat.D) (a3 : T_Event.D) : Option Bool :=
(spec_Target a0 a3).bind fun y1 =>
((bif (y1 == (-1)) then (
 some true)
 else (
 bif (a2.2.1 == 1) then (
 bif (y1 != a1) then (
 some true)
 else (
 bif (a2.2.1 == 2) then (
 some (y1 == a1))
 else (
 some false)))
 else (
 bif (a2.2.1 == 2) then (
 some (y1 == a1))
 else (
 some false)))) : Option Bool).bind fun o2 =>
 bif o2 then (
 some false)
 else (
 bif (a2.2.2.2.2.1 == 0) then (
 some true)
 else (
 some (a2.2.2.2.2.1 == a3.2.2.1)))
def spec_TargetFits_h : Hints := (.node none none .none (.node none none .none (.node none none (.node none none (.node (some ⟨[.tmp 34 .bool], [none], none, []⟩) none .none .none) .none) .none)))
def spec_TargetFits_c : Ct := .pure true false (.pair T_State (.pair (.int .i64) (.pair T_Pat (.pair T_Event .unit)))) .bool (fun x => spec_TargetFits x.1 x.2.1 x.2.2.1 x.2.2.2.1)
theorem spec_TargetFits_ct : CtOk Tryz.prog 387 spec_TargetFits_c := pure_ct (E := { T := tab, G := [(339, spec_Target_c)] }) (EnvOk.cons spec_Target_ct (EnvOk.nil tabOk)) mixed (fn := Tryz.f387) _ _ _ _ _ spec_TargetFits_h Tryz.func387 (by kernel_rfl) (fun x => by kernel_rfl)
/-! loop.example/g00486/spec.Source -/
def spec_Source (a0 : T_State.D) (a1 : T_Event.D) : Option T_Piece.D :=
(spec_PieceAt a0 a1.2.1).bind fun y1 =>
((bif (a1.1 != 1) then (
 some true)
 else (
 some (decide (y1 < 0)))) : Option Bool).bind fun o2 =>
 bif o2 then (
 some (0, 0, 0, 0, 0, 0, 0, 0, 0, 0, 0, false, false, ()))
 else (
 idx a0.1 y1 fun x3 =>
 some x3)
def spec_Source_h : Hints := (.node none none .none (.node none none .none (.node none none (.node none none (.node (some ⟨[.tmp 16 .bool], [none], none, []⟩) none .none .none) .none) .none)))
def spec_Source_c : Ct := .pure true false (.pair T_State (.pair T_Event .unit)) T_Piece (fun x => spec_Source x.1 x.2.1)
theorem spec_Source_ct : CtOk Tryz.prog 327 spec_Source_c := pure_ct (E := { T := tab, G := [(321, spec_PieceAt_c)] }) (EnvOk.cons spec_PieceAt_ct (EnvOk.nil tabOk)) mixed (fn := Tryz.f327) _ _ _ _ _ spec_Source_h Tryz.func327 (by kernel_rfl) (fun x => by kernel_rfl)
/-! loop.example/g00486/spec.SourceFits -/
def spec_SourceFits (a0 : T_State.D) (a1 : T_Pat.D) (a2 : T_Event.D) : Option Bool :=
 bif (a1.2.2.1 == 0) then (
(spec_Source a0 a2).bind fun y1 =>
 let k2 : Int := IntKind.wrap .i64 (BitVec.ofInt (IntKind.bits .i64) y1.2.2.2.2.2.2.2.1 &&& BitVec.ofInt (IntKind.bits .i64) a1.2.2.2.1).toNat
 some (k2 == a1.2.2.2.1))
 else (
 bif (a1.2.2.1 == a2.2.1) then (
(spec_Source a0 a2).bind fun y3 =>
 let k4 : Int := IntKind.wrap .i64 (BitVec.ofInt (IntKind.bits .i64) y3.2.2.2.2.2.2.2.1 &&& BitVec.ofInt (IntKind.bits .i64) a1.2.2.2.1).toNat
 some (k4 == a1.2.2.2.1))
 else (
 some false))
def spec_SourceFits_c : Ct := .pure true false (.pair T_State (.pair T_Pat (.pair T_Event .unit))) .bool (fun x => spec_SourceFits x.1 x.2.1 x.2.2.1)
theorem spec_SourceFits_ct : CtOk Tryz.prog 388 spec_SourceFits_c := pure_ct (E := { T := tab, G := [(327, spec_Source_c)] }) (EnvOk.cons spec_Source_ct (EnvOk.nil tabOk)) mixed (fn := Tryz.f388) _ _ _ _ _ .none Tryz.func388 (by kernel_rfl) (fun x => by kernel_rfl)
/-! loop.example/g00486/spec.PatFits -/
def spec_PatFits (a0 : T_State.D) (a1 : Int) (a2 : T_Pat.D) (a3 : T_Event.D) : Option Bool :=
(spec_PatOk a2).bind fun y1 =>
 bif y1 then (
(spec_EventOk a3).bind fun y2 =>
 bif y2 then (
 bif (a2.1 == a3.1) then (
(spec_TargetFits a0 a1 a2 a3).bind fun y3 =>
 bif y3 then (
(spec_SourceFits a0 a2 a3).bind fun y4 =>
 bif y4 then (
 bif decide (a3.2.2.2.2.1 ≥ a2.2.2.2.2.2.1) then (
 bif (a2.2.2.2.2.2.2.1 == 0) then (
 some true)
 else (
 some (a2.2.2.2.2.2.2.1 == a3.2.2.2.2.2.1)))
 else (
 some false))
 else (
 some false))
 else (
 some false))
 else (
 some false))
 else (
 some false))
 else (
 some false)
def spec_PatFits_c : Ct := .pure true false (.pair T_State (.pair (.int .i64) (.pair T_Pat (.pair T_Event .unit)))) .bool (fun x => spec_PatFits x.1 x.2.1 x.2.2.1 x.2.2.2.1)
theorem spec_PatFits_ct : CtOk Tryz.prog 367 spec_PatFits_c := pure_ct (E := { T := tab, G := [(158, spec_EventOk_c), (328, spec_PatOk_c), (387, spec_TargetFits_c), (388, spec_SourceFits_c)] }) (EnvOk.cons spec_EventOk_ct (EnvOk.cons spec_PatOk_ct (EnvOk.cons spec_TargetFits_ct (EnvOk.cons spec_SourceFits_ct (EnvOk.nil tabOk))))) mixed (fn := Tryz.f367) _ _ _ _ _ .none Tryz.func367 (by kernel_rfl) (fun x => by kernel_rfl)
/-! loop.example/g00486/spec.Fits -/
def spec_Fits (a0 : T_State.D) (a1 : T_Effect.D) (a2 : T_Event.D) : Option Bool :=
(spec_EffectOk a1).bind fun y1 =>
 bif y1 then (
(spec_Lives a1 a0.2.2.2.1).bind fun y2 =>
 bif y2 then (
(spec_Near a1 a2).bind fun y3 =>
 bif y3 then (
(spec_Holds a0 a1.2.1 a1.2.2.2.2.2.1).bind fun y4 =>
 bif y4 then (
(spec_PatFits a0 a1.2.1 a1.2.2.2.2.1 a2).bind fun y5 =>
 some y5)
 else (
 some false))
 else (
 some false))
 else (
 some false))
 else (
 some false)
def spec_Fits_c : Ct := .pure true false (.pair T_State (.pair T_Effect (.pair T_Event .unit))) .bool (fun x => spec_Fits x.1 x.2.1 x.2.2.1)
theorem spec_Fits_ct : CtOk Tryz.prog 333 spec_Fits_c := pure_ct (E := { T := tab, G := [(230, spec_Lives_c), (241, spec_EffectOk_c), (365, spec_Near_c), (366, spec_Holds_c), (367, spec_PatFits_c)] }) (EnvOk.cons spec_Lives_ct (EnvOk.cons spec_EffectOk_ct (EnvOk.cons spec_Near_ct (EnvOk.cons spec_Holds_ct (EnvOk.cons spec_PatFits_ct (EnvOk.nil tabOk)))))) mixed (fn := Tryz.f333) _ _ _ _ _ .none Tryz.func333 (by kernel_rfl) (fun x => by kernel_rfl)
/-! loop.example/g00486/spec.Options -/
def spec_Options_l1 (a0 : T_State.D) (a1 : (List T_Effect.D)) (a2 : T_Event.D) (a3 : (List Int)) : ((List Int) × (Int × Int)) → Option (((List Int) × (Int × Int)) ⊕ ((List Int) × (Int × Int))) := fun s1 =>
 bif decide (s1.2.2 < (a1.length : Int)) then (
((((idx a1 s1.2.2 fun x2 =>
(spec_Has a3 x2.1).bind fun y3 =>
 bif y3 then (
 some true)
 else (
 idx a1 s1.2.2 fun x4 =>
(spec_Fits a0 x4 a2).bind fun y5 =>
 bif (!y5) then (
 some true)
 else (
 idx a1 s1.2.2 fun x6 =>
 some (decide (x6.2.2.2.1 > s1.2.1))))) : Option Bool).bind fun o7 =>
 bif o7 then (
 some (s1.1, s1.2.1))
 else (
 idx a1 s1.2.2 fun x8 =>
((bif decide (x8.2.2.2.1 < s1.2.1) then (
 idx a1 s1.2.2 fun x9 =>
 some ([], x9.2.2.2.1))
 else (
 some (s1.1, s1.2.1))) : Option ((List Int) × Int)).bind fun o10 =>
 idx a1 s1.2.2 fun x11 =>
 if (o10.1.length + [x11.1].length) * (24 * 1) ≤ room then (
 some ((o10.1 ++ [x11.1]), o10.2)) else none)) : Option ((List Int) × Int)).bind fun o12 =>
 some (.inl (o12.1, o12.2, IntKind.wrap .i64 (s1.2.2 + 1))))
 else (
 some (.inr s1))
def spec_Options (a0 : T_State.D) (a1 : (List T_Effect.D)) (a2 : T_Event.D) (a3 : (List Int)) : Option (List Int) :=
(while_ (spec_Options_l1 a0 a1 a2 a3) ([], 5, 0)).bind fun o13 =>
 some o13.1
def spec_Options_h : Hints := (.node none none .none (.node none none .none (.node none none .none (.node none none (.node none none .none (.node none none (.node none (some ⟨[.tmpO 9 0 (.slice (.int .i64)), .tmp 10 (.int .i64), .tmp 11 (.int .i64)], [some 0], none, []⟩) (.node none none .none (.node none none (.node (some ⟨[.tmpO 9 1 (.slice (.int .i64)), .tmp 10 (.int .i64)], [none], none, [(9, 0)]⟩) none (.node none none (.node none none (.node (some ⟨[.tmp 44 .bool], [none], none, []⟩) none .none .none) .none) (.node none none (.node none none .none (.node (some ⟨[.tmpO 9 1 (.slice (.int .i64)), .tmp 10 (.int .i64)], [none], none, [(9, 0)]⟩) none .none .none)) .none)) .none) .none)) .none) .none)) .none))))
def spec_Options_c : Ct := .pure true false (.pair T_State (.pair (.slice T_Effect) (.pair T_Event (.pair (.slice (.int .i64)) .unit)))) (.slice (.int .i64)) (fun x => spec_Options x.1 x.2.1 x.2.2.1 x.2.2.2.1)
theorem spec_Options_ct : CtOk Tryz.prog 265 spec_Options_c := pure_ct (E := { T := tab, G := [(324, spec_Has_c), (333, spec_Fits_c)] }) (EnvOk.cons spec_Has_ct (EnvOk.cons spec_Fits_ct (EnvOk.nil tabOk))) mixed (fn := Tryz.f265) _ _ _ _ _ spec_Options_h Tryz.func265 (by kernel_rfl) (fun x => by kernel_rfl)
def spec_Options_fresh_c : Ct := .pure true true (.pair T_State (.pair (.slice T_Effect) (.pair T_Event (.pair (.slice (.int .i64)) .unit)))) (.slice (.int .i64)) (fun x => spec_Options x.1 x.2.1 x.2.2.1 x.2.2.2.1)
theorem spec_Options_fresh_ct : CtOk Tryz.prog 265 spec_Options_fresh_c := pure_ct (E := { T := tab, G := [(324, spec_Has_c), (333, spec_Fits_c)] }) (EnvOk.cons spec_Has_ct (EnvOk.cons spec_Fits_ct (EnvOk.nil tabOk))) mixed (fn := Tryz.f265) _ _ _ _ _ spec_Options_h Tryz.func265 (by kernel_rfl) (fun x => by kernel_rfl)
/-! loop.example/g00486/spec.Gone -/
def spec_Gone (a0 : T_Event.D) : Option Bool :=
 bif (a0.2.2.2.2.1 == 0) then (
 some (a0.1 != 2))
 else (
 some false)
def spec_Gone_c : Ct := .pure true false (.pair T_Event .unit) .bool (fun x => spec_Gone x.1)
theorem spec_Gone_ct : CtOk Tryz.prog 266 spec_Gone_c := pure_ct (E := { T := tab, G := [] }) (EnvOk.nil tabOk) mixed (fn := Tryz.f266) _ _ _ _ _ .none Tryz.func266 (by kernel_rfl) (fun x => by kernel_rfl)
/-! loop.example/g00486/spec.Pick -/
def spec_Pick (a0 : (List Int)) (a1 : Int) : Option (Int × ((List Int) × Unit)) :=
((bif decide (a1 < 2) then (
 some true)
 else (
 some ((a0.length : Int) == 0))) : Option Bool).bind fun o1 =>
 bif o1 then (
 if (([] : List Int).length + a0.length) * (24 * 1) ≤ room then (
 some (0, ([] ++ a0), ())) else none)
 else (
 idx a0 0 fun x2 =>
 if a1 = 0 then none else (
((bif decide ((x2.tmod a1) < 0) then (
 some (IntKind.wrap .i64 ((x2.tmod a1) + a1)))
 else (
 some (x2.tmod a1))) : Option Int).bind fun o3 =>
 if 0 ≤ (1 : Int) then (if (1 : Int) ≤ (a0.length : Int) then (if (a0.length : Int) ≤ (a0.length : Int) then (
 if (([] : List Int).length + ((a0.take (a0.length : Int).toNat).drop (1 : Int).toNat).length) * (24 * 1) ≤ room then (
 some (o3, ([] ++ ((a0.take (a0.length : Int).toNat).drop (1 : Int).toNat)), ())) else none) else none) else none) else none))
def spec_Pick_h : Hints := (.node none none .none (.node none none (.node none none (.node (some ⟨[.tmp 13 .bool], [none], none, []⟩) none .none .none) .none) (.node none none .none (.node none none (.node none none .none (.node (some ⟨[.tmp 6 (.int .i64)], [none], none, []⟩) none .none .none)) .none))))
def spec_Pick_c : Ct := .pure false false (.pair (.slice (.int .i64)) (.pair (.int .i64) .unit)) (.pair (.int .i64) (.pair (.slice (.int .i64)) .unit)) (fun x => spec_Pick x.1 x.2.1)
theorem spec_Pick_ct : CtOk Tryz.prog 267 spec_Pick_c := pure_ct (E := { T := tab, G := [] }) (EnvOk.nil tabOk) mixed (fn := Tryz.f267) _ _ _ _ _ spec_Pick_h Tryz.func267 (by kernel_rfl) (fun x => by kernel_rfl)
def spec_Pick_fresh_c : Ct := .pure false true (.pair (.slice (.int .i64)) (.pair (.int .i64) .unit)) (.pair (.int .i64) (.pair (.slice (.int .i64)) .unit)) (fun x => spec_Pick x.1 x.2.1)
theorem spec_Pick_fresh_ct : CtOk Tryz.prog 267 spec_Pick_fresh_c := pure_ct (E := { T := tab, G := [] }) (EnvOk.nil tabOk) mixed (fn := Tryz.f267) _ _ _ _ _ spec_Pick_h Tryz.func267 (by kernel_rfl) (fun x => by kernel_rfl)
/-! loop.example/g00486/spec.EffectAt -/
def spec_EffectAt_l1 (a0 : (List T_Effect.D)) (a1 : Int) : Int → Option (Int ⊕ (Int ⊕ Int)) := fun s1 =>
 bif decide (s1 < (a0.length : Int)) then (
 idx a0 s1 fun x2 =>
 bif (x2.1 == a1) then (
 some (.inr (.inr s1)))
 else (
 some (.inl (IntKind.wrap .i64 (s1 + 1)))))
 else (
 some (.inr (.inl s1)))
def spec_EffectAt (a0 : (List T_Effect.D)) (a1 : Int) : Option Int :=
(while_ (spec_EffectAt_l1 a0 a1) 0).bind fun o3 =>
 match o3 with
| .inl s4 => (
 some (-1))
| .inr o5 => (
 some o5)
def spec_EffectAt_h : Hints := (.node none none .none (.node none none (.node none none .none (.node none none (.node none (some ⟨[.tmp 5 (.int .i64)], [some 0], some [.tmp 4 (.int .i64)], []⟩) .none .none) .none)) .none))
def spec_EffectAt_c : Ct := .pure true false (.pair (.slice T_Effect) (.pair (.int .i64) .unit)) (.int .i64) (fun x => spec_EffectAt x.1 x.2.1)
theorem spec_EffectAt_ct : CtOk Tryz.prog 224 spec_EffectAt_c := pure_ct (E := { T := tab, G := [] }) (EnvOk.nil tabOk) mixed (fn := Tryz.f224) _ _ _ _ _ spec_EffectAt_h Tryz.func224 (by kernel_rfl) (fun x => by kernel_rfl)
/-! loop.example/g00486/spec.Upto -/
def spec_Upto (a0 : Int) (a1 : Int) : Option Int :=
((bif decide (a1 < a0) then (
 some a1)
 else (
 some a0)) : Option Int).bind fun o1 =>
 bif decide (o1 < 0) then (
 some 0)
 else (
 some o1)
def spec_Upto_h : Hints := (.node none none .none (.node none none .none (.node none none (.node none none .none (.node (some ⟨[.tmp 5 (.int .i64)], [none], none, []⟩) none .none .none)) .none)))
def spec_Upto_c : Ct := .pure true false T_Guard (.int .i64) (fun x => spec_Upto x.1 x.2.1)
theorem spec_Upto_ct : CtOk Tryz.prog 334 spec_Upto_c := pure_ct (E := { T := tab, G := [] }) (EnvOk.nil tabOk) mixed (fn := Tryz.f334) _ _ _ _ _ spec_Upto_h Tryz.func334 (by kernel_rfl) (fun x => by kernel_rfl)
/-! loop.example/g00486/spec.WithN -/
def spec_WithN (a0 : T_Event.D) (a1 : Int) : Option T_Event.D :=
(spec_Upto a1 2147483647).bind fun y1 =>
 some (a0.1, a0.2.1, a0.2.2.1, a0.2.2.2.1, y1, a0.2.2.2.2.2)
def spec_WithN_c : Ct := .pure true false (.pair T_Event (.pair (.int .i64) .unit)) T_Event (fun x => spec_WithN x.1 x.2.1)
theorem spec_WithN_ct : CtOk Tryz.prog 335 spec_WithN_c := pure_ct (E := { T := tab, G := [(334, spec_Upto_c)] }) (EnvOk.cons spec_Upto_ct (EnvOk.nil tabOk)) mixed (fn := Tryz.f335) _ _ _ _ _ .none Tryz.func335 (by kernel_rfl) (fun x => by kernel_rfl)
/-! loop.example/g00486/spec.Parts -/
def spec_Parts_l1 (a0 : T_Act.D) (a1 : T_Event.D) : ((List T_Event.D) × Int) → Option (((List T_Event.D) × Int) ⊕ ((List T_Event.D) × Int)) := fun s1 =>
((bif decide (s1.2 < (a0.2.2.2.2.2.2.1.length : Int)) then (
 some (a0.1 == 9))
 else (
 some false)) : Option Bool).bind fun o2 =>
 bif o2 then (
 idx a0.2.2.2.2.2.2.1 s1.2 fun x3 =>
((bif (x3.2.2.2.2.1 == (-1)) then (
(spec_Upto a1.2.2.2.2.1 2147483647).bind fun y4 =>
 some (x3.1, x3.2.1, x3.2.2.1, x3.2.2.2.1, y4, x3.2.2.2.2.2))
 else (
 some x3)) : Option T_Event.D).bind fun o5 =>
 if (s1.1.length + [o5].length) * (24 * 7) ≤ room then (
 some (.inl ((s1.1 ++ [o5]), IntKind.wrap .i64 (s1.2 + 1)))) else none)
 else (
 some (.inr s1))
def spec_Parts (a0 : T_Act.D) (a1 : T_Event.D) : Option (List T_Event.D) :=
(while_ (spec_Parts_l1 a0 a1) ([], 0)).bind fun o6 =>
 some o6.1
def spec_Parts_h : Hints := (.node none none .none (.node none none .none (.node none none (.node none none .none (.node none none (.node none (some ⟨[.tmpO 5 0 (.slice T_Event), .tmp 6 (.int .i64)], [some 0], none, []⟩) (.node none none (.node none none (.node (some ⟨[.tmp 18 .bool], [none], none, []⟩) none .none .none) .none) (.node none none (.node none none (.node none none .none (.node none none (.node none none .none (.node (some ⟨[.box 7 0 T_Event], [none], none, [(7, 0)]⟩) none .none .none)) .none)) .none) .none)) .none) .none)) .none)))
def spec_Parts_c : Ct := .pure true false (.pair T_Act (.pair T_Event .unit)) (.slice T_Event) (fun x => spec_Parts x.1 x.2.1)
theorem spec_Parts_ct : CtOk Tryz.prog 336 spec_Parts_c := pure_ct (E := { T := tab, G := [(334, spec_Upto_c)] }) (EnvOk.cons spec_Upto_ct (EnvOk.nil tabOk)) mixed (fn := Tryz.f336) _ _ _ _ _ spec_Parts_h Tryz.func336 (by kernel_rfl) (fun x => by kernel_rfl)
def spec_Parts_fresh_c : Ct := .pure true true (.pair T_Act (.pair T_Event .unit)) (.slice T_Event) (fun x => spec_Parts x.1 x.2.1)
theorem spec_Parts_fresh_ct : CtOk Tryz.prog 336 spec_Parts_fresh_c := pure_ct (E := { T := tab, G := [(334, spec_Upto_c)] }) (EnvOk.cons spec_Upto_ct (EnvOk.nil tabOk)) mixed (fn := Tryz.f336) _ _ _ _ _ spec_Parts_h Tryz.func336 (by kernel_rfl) (fun x => by kernel_rfl)
/-! loop.example/g00486/spec.Bound -/
def spec_Bound (a0 : Int) : Option Int :=
 bif decide (a0 > 2147483647) then (
 some 2147483647)
 else (
 bif decide (a0 < (-2147483647)) then (
 some (-2147483647))
 else (
 some a0))
def spec_Bound_c : Ct := .pure true false (.pair (.int .i64) .unit) (.int .i64) (fun x => spec_Bound x.1)
theorem spec_Bound_ct : CtOk Tryz.prog 391 spec_Bound_c := pure_ct (E := { T := tab, G := [] }) (EnvOk.nil tabOk) mixed (fn := Tryz.f391) _ _ _ _ _ .none Tryz.func391 (by kernel_rfl) (fun x => by kernel_rfl)
/-! loop.example/g00486/spec.Plus -/
def spec_Plus (a0 : Int) (a1 : Int) : Option Int :=
(spec_Bound a0).bind fun y1 =>
(spec_Bound a1).bind fun y2 =>
(spec_Bound (IntKind.wrap .i64 (y1 + y2))).bind fun y3 =>
 some y3
def spec_Plus_c : Ct := .pure true false T_Guard (.int .i64) (fun x => spec_Plus x.1 x.2.1)
theorem spec_Plus_ct : CtOk Tryz.prog 383 spec_Plus_c := pure_ct (E := { T := tab, G := [(391, spec_Bound_c)] }) (EnvOk.cons spec_Bound_ct (EnvOk.nil tabOk)) mixed (fn := Tryz.f383) _ _ _ _ _ .none Tryz.func383 (by kernel_rfl) (fun x => by kernel_rfl)
/-! loop.example/g00486/spec.Twice -/
def spec_Twice (a0 : Int) : Option Int :=
(spec_Bound a0).bind fun y1 =>
(spec_Bound (IntKind.wrap .i64 (2 * y1))).bind fun y2 =>
 some y2
def spec_Twice_c : Ct := .pure true false (.pair (.int .i64) .unit) (.int .i64) (fun x => spec_Twice x.1)
theorem spec_Twice_ct : CtOk Tryz.prog 389 spec_Twice_c := pure_ct (E := { T := tab, G := [(391, spec_Bound_c)] }) (EnvOk.cons spec_Bound_ct (EnvOk.nil tabOk)) mixed (fn := Tryz.f389) _ _ _ _ _ .none Tryz.func389 (by kernel_rfl) (fun x => by kernel_rfl)
/-! loop.example/g00486/spec.Half -/
def spec_Half (a0 : Int) : Option Int :=
(spec_Bound a0).bind fun y1 =>
 if 2 = 0 then none else (
 some (IntKind.wrap .i64 (y1.tdiv 2)))
def spec_Half_c : Ct := .pure true false (.pair (.int .i64) .unit) (.int .i64) (fun x => spec_Half x.1)
theorem spec_Half_ct : CtOk Tryz.prog 390 spec_Half_c := pure_ct (E := { T := tab, G := [(391, spec_Bound_c)] }) (EnvOk.cons spec_Bound_ct (EnvOk.nil tabOk)) mixed (fn := Tryz.f390) _ _ _ _ _ .none Tryz.func390 (by kernel_rfl) (fun x => by kernel_rfl)
/-! loop.example/g00486/spec.Amount -/
def spec_Amount (a0 : T_Act.D) (a1 : Int) : Option Int :=
(spec_Upto a1 2147483647).bind fun y1 =>
 bif (a0.1 == 1) then (
 some 0)
 else (
 bif (a0.1 == 3) then (
(spec_Plus y1 a0.2.1).bind fun y2 =>
 some y2)
 else (
 bif (a0.1 == 4) then (
(spec_Twice y1).bind fun y3 =>
 some y3)
 else (
 bif (a0.1 == 5) then (
(spec_Half y1).bind fun y4 =>
 some y4)
 else (
 some y1))))
def spec_Amount_c : Ct := .pure true false (.pair T_Act (.pair (.int .i64) .unit)) (.int .i64) (fun x => spec_Amount x.1 x.2.1)
theorem spec_Amount_ct : CtOk Tryz.prog 368 spec_Amount_c := pure_ct (E := { T := tab, G := [(334, spec_Upto_c), (383, spec_Plus_c), (389, spec_Twice_c), (390, spec_Half_c)] }) (EnvOk.cons spec_Upto_ct (EnvOk.cons spec_Plus_ct (EnvOk.cons spec_Twice_ct (EnvOk.cons spec_Half_ct (EnvOk.nil tabOk))))) mixed (fn := Tryz.f368) _ _ _ _ _ .none Tryz.func368 (by kernel_rfl) (fun x => by kernel_rfl)
/-! loop.example/g00486/spec.l13One -/
def spec_l13One (a0 : T_Act.D) (a1 : T_Event.D) : Option T_Event.D :=
((bif (a0.1 == 3) then (
 some (a0.1 == 3))
 else (
((bif (a0.1 == 4) then (
 some (a0.1 == 4))
 else (
 some (a0.1 == 5))) : Option Bool).bind fun o1 =>
 some o1)) : Option Bool).bind fun o2 =>
 bif o2 then (
(spec_Amount a0 a1.2.2.2.2.1).bind fun y3 =>
(spec_WithN a1 y3).bind fun y4 =>
 some y4)
 else (
 bif (a0.1 == 6) then (
 some (a1.1, a1.2.1, a0.2.2.1, a0.2.2.2.1, a1.2.2.2.2))
 else (
 bif (a0.1 == 7) then (
 bif (a0.2.2.2.2.1 != 2) then (
 some (a1.1, a1.2.1, a1.2.2.1, a1.2.2.2.1, 0, a0.2.2.2.2.1, false, ()))
 else (
 some (a1.1, a1.2.1, a1.2.2.1, a1.2.2.2.1, a1.2.2.2.2.1, a0.2.2.2.2.1, a1.2.2.2.2.2.2)))
 else (
 bif (a0.1 == 8) then (
 bif (a1.2.2.2.2.2.1 == 2) then (
(spec_Upto (IntKind.wrap .i64 (a1.2.2.2.2.1 + a0.2.1)) 99).bind fun y5 =>
 bif a1.2.2.2.2.2.2.1 then (
 some (a1.1, a1.2.1, a1.2.2.1, a1.2.2.2.1, y5, a1.2.2.2.2.2.1, true, ()))
 else (
 some (a1.1, a1.2.1, a1.2.2.1, a1.2.2.2.1, y5, a1.2.2.2.2.2.1, a0.2.2.2.2.2.1, ())))
 else (
 some a1))
 else (
 some a1))))
def spec_l13One_h : Hints := (.node none none .none (.node none none (.node none none .none (.node none none (.node none none (.node none none .none (.node (some ⟨[.tmp 7 .bool], [none], none, []⟩) none .none (.node none none .none (.node (some ⟨[.tmp 7 .bool], [none], none, []⟩) none .none .none)))) .none) .none)) .none))
def spec_l13One_c : Ct := .pure true false (.pair T_Act (.pair T_Event .unit)) T_Event (fun x => spec_l13One x.1 x.2.1)
theorem spec_l13One_ct : CtOk Tryz.prog 337 spec_l13One_c := pure_ct (E := { T := tab, G := [(334, spec_Upto_c), (335, spec_WithN_c), (368, spec_Amount_c)] }) (EnvOk.cons spec_Upto_ct (EnvOk.cons spec_WithN_ct (EnvOk.cons spec_Amount_ct (EnvOk.nil tabOk)))) mixed (fn := Tryz.f337) _ _ _ _ _ spec_l13One_h Tryz.func337 (by kernel_rfl) (fun x => by kernel_rfl)
/-! loop.example/g00486/spec.Less -/
def spec_Less (a0 : Int) (a1 : Int) : Option Int :=
(spec_Bound a0).bind fun y1 =>
(spec_Bound a1).bind fun y2 =>
(spec_Bound (IntKind.wrap .i64 (y1 - y2))).bind fun y3 =>
 some y3
def spec_Less_c : Ct := .pure true false T_Guard (.int .i64) (fun x => spec_Less x.1 x.2.1)
theorem spec_Less_ct : CtOk Tryz.prog 369 spec_Less_c := pure_ct (E := { T := tab, G := [(391, spec_Bound_c)] }) (EnvOk.cons spec_Bound_ct (EnvOk.nil tabOk)) mixed (fn := Tryz.f369) _ _ _ _ _ .none Tryz.func369 (by kernel_rfl) (fun x => by kernel_rfl)
/-! loop.example/g00486/spec.Spent -/
def spec_Spent (a0 : T_Effect.D) (a1 : Int) : Option T_Effect.D :=
(spec_l10Copy a0).bind fun y1 =>
 bif (a0.2.2.2.2.2.2.1.1 == 2) then (
(spec_Less a0.2.2.2.2.2.2.2.2.1 a1).bind fun y2 =>
(spec_Upto y2 2147483647).bind fun y3 =>
 some (y1.1, y1.2.1, y1.2.2.1, y1.2.2.2.1, y1.2.2.2.2.1, y1.2.2.2.2.2.1, y1.2.2.2.2.2.2.1, y1.2.2.2.2.2.2.2.1, y3, ()))
 else (
 bif decide (a0.2.2.2.2.2.2.2.2.1 > 0) then (
 some (y1.1, y1.2.1, y1.2.2.1, y1.2.2.2.1, y1.2.2.2.2.1, y1.2.2.2.2.2.1, y1.2.2.2.2.2.2.1, y1.2.2.2.2.2.2.2.1, IntKind.wrap .i64 (a0.2.2.2.2.2.2.2.2.1 - 1), ()))
 else (
 some y1))
def spec_Spent_c : Ct := .pure true false (.pair T_Effect (.pair (.int .i64) .unit)) T_Effect (fun x => spec_Spent x.1 x.2.1)
theorem spec_Spent_ct : CtOk Tryz.prog 338 spec_Spent_c := pure_ct (E := { T := tab, G := [(223, spec_l10Copy_fresh_c), (334, spec_Upto_c), (369, spec_Less_c)] }) (EnvOk.cons spec_l10Copy_fresh_ct (EnvOk.cons spec_Upto_ct (EnvOk.cons spec_Less_ct (EnvOk.nil tabOk)))) mixed (fn := Tryz.f338) _ _ _ _ _ .none Tryz.func338 (by kernel_rfl) (fun x => by kernel_rfl)
def spec_Spent_fresh_c : Ct := .pure true true (.pair T_Effect (.pair (.int .i64) .unit)) T_Effect (fun x => spec_Spent x.1 x.2.1)
theorem spec_Spent_fresh_ct : CtOk Tryz.prog 338 spec_Spent_fresh_c := pure_ct (E := { T := tab, G := [(223, spec_l10Copy_fresh_c), (334, spec_Upto_c), (369, spec_Less_c)] }) (EnvOk.cons spec_l10Copy_fresh_ct (EnvOk.cons spec_Upto_ct (EnvOk.cons spec_Less_ct (EnvOk.nil tabOk)))) mixed (fn := Tryz.f338) _ _ _ _ _ .none Tryz.func338 (by kernel_rfl) (fun x => by kernel_rfl)
/-! loop.example/g00486/spec.DoAct -/
def spec_DoAct_l1 (o13 : ((List T_Event.D) × Int)) : ((List T_Event.D) × Int) → Option (((List T_Event.D) × Int) ⊕ ((List T_Event.D) × Int)) := fun s14 =>
 bif decide (s14.2 < (o13.1.length : Int)) then (
((idx o13.1 s14.2 fun _ =>
(o13.1[(s14.2 : Int).toNat]?).bind fun x15 =>
(spec_EventOk x15).bind fun y16 =>
 bif y16 then (
 idx o13.1 s14.2 fun _ =>
(o13.1[(s14.2 : Int).toNat]?).bind fun x17 =>
(spec_Gone x17).bind fun y18 =>
 some (!y18))
 else (
 some false)) : Option Bool).bind fun o19 =>
((bif o19 then (
 idx o13.1 s14.2 fun _ =>
(o13.1[(s14.2 : Int).toNat]?).bind fun x20 =>
 if (s14.1.length + [x20].length) * (24 * 7) ≤ room then (
 some (s14.1 ++ [x20])) else none)
 else (
 some s14.1)) : Option (List T_Event.D)).bind fun o21 =>
 some (.inl (o21, IntKind.wrap .i64 (s14.2 + 1))))
 else (
 some (.inr s14))
def spec_DoAct (a0 : T_Effect.D) (a1 : T_Event.D) : Option ((List T_Event.D) × (Int × (T_Effect.D × Unit))) :=
(((spec_EffectOk a0).bind fun y1 =>
 bif (!y1) then (
 some true)
 else (
(spec_EventOk a1).bind fun y2 =>
 bif (!y2) then (
 some true)
 else (
(spec_ActFits a0.2.2.2.2.2.2.1 a1.1).bind fun y3 =>
 some (!y3)))) : Option Bool).bind fun o4 =>
 bif o4 then (
(spec_l10Copy a0).bind fun y5 =>
 some ([a1], 0, y5, ()))
 else (
((bif (a0.2.2.2.2.2.2.1.1 == 1) then (
((bif (a1.1 == 1) then (
 some a1.2.2.2.2.1)
 else (
 some 0)) : Option Int).bind fun o6 =>
 some ([], o6))
 else (
((bif (a0.2.2.2.2.2.2.1.1 == 2) then (
(spec_Upto a1.2.2.2.2.1 a0.2.2.2.2.2.2.2.2.1).bind fun y7 =>
(spec_WithN a1 (IntKind.wrap .i64 (a1.2.2.2.2.1 - y7))).bind fun y8 =>
 if (([] : List T_Event.D).length + [y8].length) * (24 * 7) ≤ room then (
 some (([] ++ [y8]), y7)) else none)
 else (
((bif (a0.2.2.2.2.2.2.1.1 == 9) then (
(spec_Parts a0.2.2.2.2.2.2.1 a1).bind fun y9 =>
 some y9)
 else (
(spec_l13One a0.2.2.2.2.2.2.1 a1).bind fun y10 =>
 if (([] : List T_Event.D).length + [y10].length) * (24 * 7) ≤ room then (
 some ([] ++ [y10])) else none)) : Option (List T_Event.D)).bind fun o11 =>
 some (o11, 0))) : Option ((List T_Event.D) × Int)).bind fun o12 =>
 some o12)) : Option ((List T_Event.D) × Int)).bind fun o13 =>
(while_ (spec_DoAct_l1 o13) ([], 0)).bind fun o22 =>
(spec_Spent a0 o13.2).bind fun y23 =>
 some (o22.1, o13.2, y23, ()))
def spec_DoAct_h : Hints := (.node none none .none (.node none none (.node none none (.node (some ⟨[.tmp 26 .bool], [none], none, []⟩) none .none .none) .none) (.node none none .none (.node none none .none (.node none none (.node none none .none (.node none none (.node none none .none (.node (some ⟨[.tmpO 7 0 (.slice T_Event), .tmp 8 (.int .i64)], [none], none, [(31, 0)]⟩) none (.node none none .none (.node (some ⟨[.tmp 8 (.int .i64)], [none], none, []⟩) none .none .none)) (.node none none .none (.node (some ⟨[.tmpO 7 0 (.slice T_Event), .tmp 8 (.int .i64)], [none], none, [(31, 0)]⟩) none .none (.node none none .none (.node (some ⟨[.tmpO 7 0 (.slice T_Event)], [none], none, [(31, 0)]⟩) none .none .none)))))) .none)) (.node none none .none (.node none none (.node none none .none (.node none none (.node none (some ⟨[.tmpO 9 0 (.slice T_Event), .tmp 10 (.int .i64)], [some 1], none, []⟩) (.node none none .none (.node none none (.node none none (.node none none (.node (some ⟨[.tmp 90 .bool], [none], none, []⟩) none .none .none) (.node (some ⟨[.tmpO 9 1 (.slice T_Event)], [none], none, [(9, 0)]⟩) none .none .none)) .none) .none)) .none) .none)) .none)))))))
def spec_DoAct_c : Ct := .pure false false (.pair T_Effect (.pair T_Event .unit)) (.pair (.slice T_Event) (.pair (.int .i64) (.pair T_Effect .unit))) (fun x => spec_DoAct x.1 x.2.1)
theorem spec_DoAct_ct : CtOk Tryz.prog 268 spec_DoAct_c := pure_ct (E := { T := tab, G := [(158, spec_EventOk_c), (223, spec_l10Copy_fresh_c), (241, spec_EffectOk_c), (266, spec_Gone_c), (331, spec_ActFits_c), (334, spec_Upto_c), (335, spec_WithN_c), (336, spec_Parts_fresh_c), (337, spec_l13One_c), (338, spec_Spent_fresh_c)] }) (EnvOk.cons spec_EventOk_ct (EnvOk.cons spec_l10Copy_fresh_ct (EnvOk.cons spec_EffectOk_ct (EnvOk.cons spec_Gone_ct (EnvOk.cons spec_ActFits_ct (EnvOk.cons spec_Upto_ct (EnvOk.cons spec_WithN_ct (EnvOk.cons spec_Parts_fresh_ct (EnvOk.cons spec_l13One_ct (EnvOk.cons spec_Spent_fresh_ct (EnvOk.nil tabOk))))))))))) mixed (fn := Tryz.f268) _ _ _ _ _ spec_DoAct_h Tryz.func268 (by kernel_rfl) (fun x => by kernel_rfl)
def spec_DoAct_fresh_c : Ct := .pure false true (.pair T_Effect (.pair T_Event .unit)) (.pair (.slice T_Event) (.pair (.int .i64) (.pair T_Effect .unit))) (fun x => spec_DoAct x.1 x.2.1)
theorem spec_DoAct_fresh_ct : CtOk Tryz.prog 268 spec_DoAct_fresh_c := pure_ct (E := { T := tab, G := [(158, spec_EventOk_c), (223, spec_l10Copy_fresh_c), (241, spec_EffectOk_c), (266, spec_Gone_c), (331, spec_ActFits_c), (334, spec_Upto_c), (335, spec_WithN_c), (336, spec_Parts_fresh_c), (337, spec_l13One_c), (338, spec_Spent_fresh_c)] }) (EnvOk.cons spec_EventOk_ct (EnvOk.cons spec_l10Copy_fresh_ct (EnvOk.cons spec_EffectOk_ct (EnvOk.cons spec_Gone_ct (EnvOk.cons spec_ActFits_ct (EnvOk.cons spec_Upto_ct (EnvOk.cons spec_WithN_ct (EnvOk.cons spec_Parts_fresh_ct (EnvOk.cons spec_l13One_ct (EnvOk.cons spec_Spent_fresh_ct (EnvOk.nil tabOk))))))))))) mixed (fn := Tryz.f268) _ _ _ _ _ spec_DoAct_h Tryz.func268 (by kernel_rfl) (fun x => by kernel_rfl)
/-! loop.example/g00486/spec.Update -/
def spec_Update (a0 : (List T_Effect.D)) (a1 : T_Effect.D) : Option (List T_Effect.D) :=
(spec_l11Copy a0).bind fun y1 =>
(spec_EffectAt a0 a1.1).bind fun y2 =>
 bif decide (y2 ≥ 0) then (
(spec_l10Copy a1).bind fun y3 =>
 idx y1 y2 fun _ =>
(y1[(y2 : Int).toNat]?).bind fun x4 =>
 let u5 : (List T_Effect.D) := y1.set (y2 : Int).toNat y3
 some u5)
 else (
 some y1)
def spec_Update_c : Ct := .pure true false (.pair (.slice T_Effect) (.pair T_Effect .unit)) (.slice T_Effect) (fun x => spec_Update x.1 x.2.1)
theorem spec_Update_ct : CtOk Tryz.prog 269 spec_Update_c := pure_ct (E := { T := tab, G := [(155, spec_l11Copy_fresh_c), (223, spec_l10Copy_fresh_c), (224, spec_EffectAt_c)] }) (EnvOk.cons spec_l11Copy_fresh_ct (EnvOk.cons spec_l10Copy_fresh_ct (EnvOk.cons spec_EffectAt_ct (EnvOk.nil tabOk)))) mixed (fn := Tryz.f269) _ _ _ _ _ .none Tryz.func269 (by kernel_rfl) (fun x => by kernel_rfl)
def spec_Update_fresh_c : Ct := .pure true true (.pair (.slice T_Effect) (.pair T_Effect .unit)) (.slice T_Effect) (fun x => spec_Update x.1 x.2.1)
theorem spec_Update_fresh_ct : CtOk Tryz.prog 269 spec_Update_fresh_c := pure_ct (E := { T := tab, G := [(155, spec_l11Copy_fresh_c), (223, spec_l10Copy_fresh_c), (224, spec_EffectAt_c)] }) (EnvOk.cons spec_l11Copy_fresh_ct (EnvOk.cons spec_l10Copy_fresh_ct (EnvOk.cons spec_EffectAt_ct (EnvOk.nil tabOk)))) mixed (fn := Tryz.f269) _ _ _ _ _ .none Tryz.func269 (by kernel_rfl) (fun x => by kernel_rfl)
/-! loop.example/g00486/spec.Chooser -/
def spec_Chooser (a0 : T_State.D) (a1 : T_Event.D) : Option Int :=
(spec_Target a0 a1).bind fun y1 =>
 bif (y1 == (-1)) then (
 some a0.2.2.1)
 else (
 some y1)
def spec_Chooser_c : Ct := .pure true false (.pair T_State (.pair T_Event .unit)) (.int .i64) (fun x => spec_Chooser x.1 x.2.1)
theorem spec_Chooser_ct : CtOk Tryz.prog 270 spec_Chooser_c := pure_ct (E := { T := tab, G := [(339, spec_Target_c)] }) (EnvOk.cons spec_Target_ct (EnvOk.nil tabOk)) mixed (fn := Tryz.f270) _ _ _ _ _ .none Tryz.func270 (by kernel_rfl) (fun x => by kernel_rfl)
/-! loop.example/g00486/spec.SetOf -/
def spec_SetOf_l1 (a0 : (List Int)) (s1 : ((List Int) × Int)) : Int → Option (Int ⊕ Int) := fun s4 =>
((bif decide (s4 > 0) then (
 idx s1.1 (IntKind.wrap .i64 (s4 - 1)) fun _ =>
(s1.1[(IntKind.wrap .i64 (s4 - 1) : Int).toNat]?).bind fun x5 =>
 idx a0 s1.2 fun x6 =>
 some (decide (x5 > x6)))
 else (
 some false)) : Option Bool).bind fun o7 =>
 bif o7 then (
 some (.inl (IntKind.wrap .i64 (s4 - 1))))
 else (
 some (.inr s4))
def spec_SetOf_l2 (a0 : (List Int)) : ((List Int) × Int) → Option (((List Int) × Int) ⊕ ((List Int) × Int)) := fun s1 =>
 bif decide (s1.2 < (a0.length : Int)) then (
((idx a0 s1.2 fun x2 =>
(spec_Has s1.1 x2).bind fun y3 =>
 bif y3 then (
 some s1.1)
 else (
(while_ (spec_SetOf_l1 a0 s1) (s1.1.length : Int)).bind fun o8 =>
 if 0 ≤ (0 : Int) then (if (0 : Int) ≤ o8 then (if o8 ≤ (s1.1.length : Int) then (
 if (([] : List Int).length + ((s1.1.take (o8.toNat)).drop ((0 : Int).toNat)).length) * (24 * 1) ≤ room then (
 idx a0 s1.2 fun x9 =>
 if (([] ++ ((s1.1.take (o8.toNat)).drop ((0 : Int).toNat))).length + [x9].length) * (24 * 1) ≤ room then (
 if 0 ≤ o8 then (if o8 ≤ (s1.1.length : Int) then (if (s1.1.length : Int) ≤ (s1.1.length : Int) then (
 if ((([] ++ ((s1.1.take (o8.toNat)).drop ((0 : Int).toNat))) ++ [x9]).length + ((s1.1.take ((s1.1.length : Int).toNat)).drop (o8.toNat)).length) * (24 * 1) ≤ room then (
 some ((([] ++ ((s1.1.take (o8.toNat)).drop ((0 : Int).toNat))) ++ [x9]) ++ ((s1.1.take ((s1.1.length : Int).toNat)).drop (o8.toNat)))) else none) else none) else none) else none) else none) else none) else none) else none) else none)) : Option (List Int)).bind fun o10 =>
 some (.inl (o10, IntKind.wrap .i64 (s1.2 + 1))))
 else (
 some (.inr s1))
def spec_SetOf (a0 : (List Int)) : Option (List Int) :=
(while_ (spec_SetOf_l2 a0) ([], 0)).bind fun o11 =>
 some o11.1
def spec_SetOf_h : Hints := (.node none none .none (.node none none .none (.node none none (.node none none .none (.node none none (.node none (some ⟨[.tmpO 3 0 (.slice (.int .i64)), .tmp 4 (.int .i64)], [some 0], none, []⟩) (.node none none .none (.node none none (.node (some ⟨[.tmpO 3 1 (.slice (.int .i64))], [none], none, [(3, 0)]⟩) none (.node none none .none (.node none none .none (.node none none (.node none none (.node none (some ⟨[.tmp 5 (.int .i64)], [some 2], none, []⟩) (.node none none (.node none none (.node (some ⟨[.tmp 34 .bool], [none], none, []⟩) none .none .none) .none) .none) .none) .none) .none))) .none) .none)) .none) .none)) .none)))
def spec_SetOf_c : Ct := .pure true false (.pair (.slice (.int .i64)) .unit) (.slice (.int .i64)) (fun x => spec_SetOf x.1)
theorem spec_SetOf_ct : CtOk Tryz.prog 340 spec_SetOf_c := pure_ct (E := { T := tab, G := [(324, spec_Has_c)] }) (EnvOk.cons spec_Has_ct (EnvOk.nil tabOk)) mixed (fn := Tryz.f340) _ _ _ _ _ spec_SetOf_h Tryz.func340 (by kernel_rfl) (fun x => by kernel_rfl)
def spec_SetOf_fresh_c : Ct := .pure true true (.pair (.slice (.int .i64)) .unit) (.slice (.int .i64)) (fun x => spec_SetOf x.1)
theorem spec_SetOf_fresh_ct : CtOk Tryz.prog 340 spec_SetOf_fresh_c := pure_ct (E := { T := tab, G := [(324, spec_Has_c)] }) (EnvOk.cons spec_Has_ct (EnvOk.nil tabOk)) mixed (fn := Tryz.f340) _ _ _ _ _ spec_SetOf_h Tryz.func340 (by kernel_rfl) (fun x => by kernel_rfl)
/-! loop.example/g00486/spec.With -/
def spec_With (a0 : (List Int)) (a1 : Int) : Option (List Int) :=
 if (([] : List Int).length + a0.length) * (24 * 1) ≤ room then (
 if (([] ++ a0).length + [a1].length) * (24 * 1) ≤ room then (
(spec_SetOf (([] ++ a0) ++ [a1])).bind fun y1 =>
 some y1) else none) else none
def spec_With_c : Ct := .pure true false (.pair (.slice (.int .i64)) (.pair (.int .i64) .unit)) (.slice (.int .i64)) (fun x => spec_With x.1 x.2.1)
theorem spec_With_ct : CtOk Tryz.prog 271 spec_With_c := pure_ct (E := { T := tab, G := [(340, spec_SetOf_fresh_c)] }) (EnvOk.cons spec_SetOf_fresh_ct (EnvOk.nil tabOk)) mixed (fn := Tryz.f271) _ _ _ _ _ .none Tryz.func271 (by kernel_rfl) (fun x => by kernel_rfl)
def spec_With_fresh_c : Ct := .pure true true (.pair (.slice (.int .i64)) (.pair (.int .i64) .unit)) (.slice (.int .i64)) (fun x => spec_With x.1 x.2.1)
theorem spec_With_fresh_ct : CtOk Tryz.prog 271 spec_With_fresh_c := pure_ct (E := { T := tab, G := [(340, spec_SetOf_fresh_c)] }) (EnvOk.cons spec_SetOf_fresh_ct (EnvOk.nil tabOk)) mixed (fn := Tryz.f271) _ _ _ _ _ .none Tryz.func271 (by kernel_rfl) (fun x => by kernel_rfl)
/-! loop.example/g00486/spec.l14Go -/
def spec_l14Go_l1 (rec : (T_Run.D → T_Event.D → (List Int) → Option (Unit × T_Run.D))) (y8 : ((List T_Event.D) × (Int × (T_Effect.D × Unit)))) (y11 : (List Int)) : (Int × (T_StateV.D × ((List T_Effect.D) × ((List Int) × ((List T_Event.D) × ((List T_Turn.D) × Unit)))))) → Option ((Int × (T_StateV.D × ((List T_Effect.D) × ((List Int) × ((List T_Event.D) × ((List T_Turn.D) × Unit)))))) ⊕ (Int × (T_StateV.D × ((List T_Effect.D) × ((List Int) × ((List T_Event.D) × ((List T_Turn.D) × Unit))))))) := fun s13 =>
 bif decide (s13.1 < (y8.1.length : Int)) then (
 idx y8.1 s13.1 fun _ =>
(y8.1[(s13.1 : Int).toNat]?).bind fun x14 =>
(rec s13.2 x14 y11).bind fun y15 =>
 some (.inl (IntKind.wrap .i64 (s13.1 + 1), y15.2)))
 else (
 some (.inr s13))
def spec_l14Go_step (rec : (T_Run.D → T_Event.D → (List Int) → Option (Unit × T_Run.D))) (x : T_Run.D) (a0 : T_Event.D) (a1 : (List Int)) : Option (Unit × T_Run.D) :=
(spec_Options x.1 x.2.1 a0 a1).bind fun y1 =>
 bif ((y1.length : Int) == 0) then (
(spec_Gone a0).bind fun y2 =>
((bif (!y2) then (
 if (x.2.2.2.1.length + [a0].length) * (24 * 7) ≤ room then (
 some (x.1, x.2.1, x.2.2.1, (x.2.2.2.1 ++ [a0]), x.2.2.2.2)) else none)
 else (
 some x)) : Option T_Run.D).bind fun o3 =>
 some ((), o3))
 else (
(spec_Pick x.2.2.1 (y1.length : Int)).bind fun y4 =>
 idx y1 y4.1 fun _ =>
(y1[(y4.1 : Int).toNat]?).bind fun x5 =>
(spec_EffectAt x.2.1 x5).bind fun y6 =>
 idx x.2.1 y6 fun x7 =>
(spec_DoAct x7 a0).bind fun y8 =>
(spec_Update x.2.1 y8.2.2.1).bind fun y9 =>
(spec_Chooser x.1 a0).bind fun y10 =>
 if (([] : List T_Event.D).length + y8.1.length) * (24 * 7) ≤ room then (
 if (x.2.2.2.2.1.length + ([(x7.1, y10, y4.1, (y1.length : Int), a0, ([] ++ y8.1), y8.2.1, (a1.length : Int), ())]).length) * (24 * 14) ≤ room then (
(spec_With a1 x7.1).bind fun y11 =>
(while_ (spec_l14Go_l1 rec y8 y11) (0, x.1, y9, y4.2.1, x.2.2.2.1, (x.2.2.2.2.1 ++ ([(x7.1, y10, y4.1, (y1.length : Int), a0, ([] ++ y8.1), y8.2.1, (a1.length : Int), ())])), ())).bind fun o16 =>
 some ((), o16.2)) else none) else none)
def spec_l14Go (n : Nat) : T_Run.D → T_Event.D → (List Int) → Option (Unit × T_Run.D) := Nat.rec (motive := fun _ => (T_Run.D → T_Event.D → (List Int) → Option (Unit × T_Run.D))) (fun _ _ _ => none) (fun _ g => spec_l14Go_step g) n
def spec_l14Go_h : Hints := (.node none none .none (.node none none .none (.node none none (.node none none .none (.node none none (.node none none (.node none none .none (.node (some ⟨[.boxO 0 0 6 T_Run], [none], none, [(0, 4), (0, 0), (0, 2), (0, 3), (0, 5)]⟩) none .none .none)) .none) .none)) (.node none none .none (.node none none .none (.node none none (.node none none (.node (some ⟨[], [], none, [(0, 2)]⟩) none .none .none) .none) (.node none none .none (.node none none .none (.node none none .none (.node none none .none (.node none none (.node none none (.node (some ⟨[], [], none, [(118, 0)]⟩) none .none .none) .none) (.node none none (.node none (some ⟨[.tmp 14 (.int .i64), .boxO 0 0 6 T_Run], [some 0], none, []⟩) (.node none none .none (.node none none (.node none none (.node none (some ⟨[], [some 6], none, []⟩) .none .none) .none) .none)) .none) .none))))))))))))
def spec_l14Go_c (g : (T_Run.D → T_Event.D → (List Int) → Option (Unit × T_Run.D))) : Ct := .run T_Run [] false false false (.pair T_Event (.pair (.slice (.int .i64)) .unit)) .unit (fun x y => g x y.1 y.2.1)
theorem spec_l14Go_ct (n : Nat) : CtOk Tryz.prog 159 (spec_l14Go_c (spec_l14Go n)) := by
  induction n with
  | zero => exact run_none (fn := Tryz.f159) T_Run [] false false false (.pair T_Event (.pair (.slice (.int .i64)) .unit)) .unit Tryz.func159 (by kernel_rfl)
  | succ n ih => exact run_ct (E := { T := tab, G := [(159, spec_l14Go_c (spec_l14Go n)), (224, spec_EffectAt_c), (265, spec_Options_fresh_c), (266, spec_Gone_c), (267, spec_Pick_fresh_c), (268, spec_DoAct_fresh_c), (269, spec_Update_fresh_c), (270, spec_Chooser_c), (271, spec_With_fresh_c)], Z := true }) (EnvOk.frz (EnvOk.cons (ih) (EnvOk.cons spec_EffectAt_ct (EnvOk.cons spec_Options_fresh_ct (EnvOk.cons spec_Gone_ct (EnvOk.cons spec_Pick_fresh_ct (EnvOk.cons spec_DoAct_fresh_ct (EnvOk.cons spec_Update_fresh_ct (EnvOk.cons spec_Chooser_ct (EnvOk.cons spec_With_fresh_ct (EnvOk.nil tabOk))))))))))) mixed (fn := Tryz.f159) T_Run [] false false false (.pair T_Event (.pair (.slice (.int .i64)) .unit)) .unit (fun x y => spec_l14Go_step (spec_l14Go n) x y.1 y.2.1) spec_l14Go_h Tryz.func159 (by kernel_rfl) (fun x y => by kernel_rfl)
/-! loop.example/g00486/spec.Rewrite -/
def spec_Rewrite (a0 : T_State.D) (a1 : (List T_Effect.D)) (a2 : T_Event.D) (a3 : (List Int)) : Option T_Fate.D :=
(spec_l11Copy a1).bind fun y1 =>
 if (([] : List Int).length + a3.length) * (24 * 1) ≤ room then (
(spec_StateOk a0).bind fun y2 =>
 bif y2 then (
(spec_TableOk a1).bind fun y3 =>
 bif y3 then (
(spec_EventOk a2).bind fun y4 =>
 bif y4 then (
(spec_l14Go 8 (a0, y1, ([] ++ a3), [], [], ()) a2 []).bind fun y5 =>
 some (y5.2.2.2.2.1, y5.2.2.1, y5.2.2.2.1, y5.2.2.2.2.2))
 else (
 some ([], y1, ([] ++ a3), [], ())))
 else (
 some ([], y1, ([] ++ a3), [], ())))
 else (
 some ([], y1, ([] ++ a3), [], ()))) else none
def spec_Rewrite_h : Hints := (.node none none .none (.node none none .none (.node none none (.node none none .none (.node none none (.node none (some ⟨[], [some 3], none, []⟩) .none .none) .none)) .none)))
def spec_Rewrite_c : Ct := .pure true false (.pair T_State (.pair (.slice T_Effect) (.pair T_Event (.pair (.slice (.int .i64)) .unit)))) T_Fate (fun x => spec_Rewrite x.1 x.2.1 x.2.2.1 x.2.2.2.1)
theorem spec_Rewrite_ct : CtOk Tryz.prog 47 spec_Rewrite_c := pure_ct (E := { T := tab, G := [(159, spec_l14Go_c (spec_l14Go 8)), (118, spec_StateOk_c), (119, spec_TableOk_c), (155, spec_l11Copy_fresh_c), (158, spec_EventOk_c)], V := [32], Z := true }) (EnvOk.frz (EnvOk.views (EnvOk.cons (spec_l14Go_ct 8) (EnvOk.cons spec_StateOk_ct (EnvOk.cons spec_TableOk_ct (EnvOk.cons spec_l11Copy_fresh_ct (EnvOk.cons spec_EventOk_ct (EnvOk.nil tabOk)))))))) mixed (fn := Tryz.f47) _ _ _ _ _ spec_Rewrite_h Tryz.func47 (by kernel_rfl) (fun x => by kernel_rfl)
def spec_Rewrite_fresh_c : Ct := .pure true true (.pair T_State (.pair (.slice T_Effect) (.pair T_Event (.pair (.slice (.int .i64)) .unit)))) T_Fate (fun x => spec_Rewrite x.1 x.2.1 x.2.2.1 x.2.2.2.1)
theorem spec_Rewrite_fresh_ct : CtOk Tryz.prog 47 spec_Rewrite_fresh_c := pure_ct (E := { T := tab, G := [(159, spec_l14Go_c (spec_l14Go 8)), (118, spec_StateOk_c), (119, spec_TableOk_c), (155, spec_l11Copy_fresh_c), (158, spec_EventOk_c)], V := [32], Z := true }) (EnvOk.frz (EnvOk.views (EnvOk.cons (spec_l14Go_ct 8) (EnvOk.cons spec_StateOk_ct (EnvOk.cons spec_TableOk_ct (EnvOk.cons spec_l11Copy_fresh_ct (EnvOk.cons spec_EventOk_ct (EnvOk.nil tabOk)))))))) mixed (fn := Tryz.f47) _ _ _ _ _ spec_Rewrite_h Tryz.func47 (by kernel_rfl) (fun x => by kernel_rfl)
/-! slices.Clone[[]loop.example/g00486/impl.Event,loop.example/g00486/impl.Event] -/
def slices_Clone_impl_Event (a0 : (List T_Event.D)) : Option (List T_Event.D) :=
 if (([] : List T_Event.D).length + a0.length) * (24 * 7) ≤ room then (
 some ([] ++ a0)) else none
def slices_Clone_impl_Event_c : Ct := .pure true false (.pair (.slice T_Event) .unit) (.slice T_Event) (fun x => slices_Clone_impl_Event x.1)
theorem slices_Clone_impl_Event_ct : CtOk Tryz.prog 282 slices_Clone_impl_Event_c := nil_ct (E := { T := tab, G := [] }) (EnvOk.nil tabOk) mixed (fn := Tryz.f282) _ _ T_Event _ _ .none .none Tryz.func282 (by kernel_rfl) (by kernel_rfl) (fun x => by kernel_rfl)
def slices_Clone_impl_Event_fresh_c : Ct := .pure true true (.pair (.slice T_Event) .unit) (.slice T_Event) (fun x => slices_Clone_impl_Event x.1)
theorem slices_Clone_impl_Event_fresh_ct : CtOk Tryz.prog 282 slices_Clone_impl_Event_fresh_c := nil_ct (E := { T := tab, G := [] }) (EnvOk.nil tabOk) mixed (fn := Tryz.f282) _ _ T_Event _ _ .none .none Tryz.func282 (by kernel_rfl) (by kernel_rfl) (fun x => by kernel_rfl)
/-! loop.example/g00486/impl.copyEffect -/
def impl_copyEffect (a0 : T_Effect.D) : Option T_Effect.D :=
(slices_Clone_impl_Event a0.2.2.2.2.2.2.1.2.2.2.2.2.2.1).bind fun y1 =>
 some (a0.1, a0.2.1, a0.2.2.1, a0.2.2.2.1, a0.2.2.2.2.1, a0.2.2.2.2.2.1, (a0.2.2.2.2.2.2.1.1, a0.2.2.2.2.2.2.1.2.1, a0.2.2.2.2.2.2.1.2.2.1, a0.2.2.2.2.2.2.1.2.2.2.1, a0.2.2.2.2.2.2.1.2.2.2.2.1, a0.2.2.2.2.2.2.1.2.2.2.2.2.1, y1, ()), a0.2.2.2.2.2.2.2)
def impl_copyEffect_c : Ct := .pure true false (.pair T_Effect .unit) T_Effect (fun x => impl_copyEffect x.1)
theorem impl_copyEffect_ct : CtOk Tryz.prog 210 impl_copyEffect_c := pure_ct (E := { T := tab, G := [(282, slices_Clone_impl_Event_fresh_c)] }) (EnvOk.cons slices_Clone_impl_Event_fresh_ct (EnvOk.nil tabOk)) mixed (fn := Tryz.f210) _ _ _ _ _ .none Tryz.func210 (by kernel_rfl) (fun x => by kernel_rfl)
def impl_copyEffect_fresh_c : Ct := .pure true true (.pair T_Effect .unit) T_Effect (fun x => impl_copyEffect x.1)
theorem impl_copyEffect_fresh_ct : CtOk Tryz.prog 210 impl_copyEffect_fresh_c := pure_ct (E := { T := tab, G := [(282, slices_Clone_impl_Event_fresh_c)] }) (EnvOk.cons slices_Clone_impl_Event_fresh_ct (EnvOk.nil tabOk)) mixed (fn := Tryz.f210) _ _ _ _ _ .none Tryz.func210 (by kernel_rfl) (fun x => by kernel_rfl)
/-! loop.example/g00486/impl.copyTable -/
def impl_copyTable_l1 (a0 : (List T_Effect.D)) : ((List T_Effect.D) × Int) → Option (((List T_Effect.D) × Int) ⊕ ((List T_Effect.D) × Int)) := fun s1 =>
 bif decide (s1.2 < (a0.length : Int)) then (
 idx a0 s1.2 fun x2 =>
(impl_copyEffect x2).bind fun y3 =>
 if (s1.1.length + [y3].length) * (24 * 22) ≤ room then (
 some (.inl ((s1.1 ++ [y3]), IntKind.wrap .i64 (s1.2 + 1)))) else none)
 else (
 some (.inr s1))
def impl_copyTable (a0 : (List T_Effect.D)) : Option (List T_Effect.D) :=
(while_ (impl_copyTable_l1 a0) ([], 0)).bind fun o4 =>
 some o4.1
def impl_copyTable_h : Hints := (.node none none .none (.node none none .none (.node none none (.node none none .none (.node none none (.node none (some ⟨[.tmpO 3 0 (.slice T_Effect), .tmp 9 (.int .i64)], [some 0], none, []⟩) .none .none) .none)) .none)))
def impl_copyTable_c : Ct := .pure true false (.pair (.slice T_Effect) .unit) (.slice T_Effect) (fun x => impl_copyTable x.1)
theorem impl_copyTable_ct : CtOk Tryz.prog 152 impl_copyTable_c := pure_ct (E := { T := tab, G := [(210, impl_copyEffect_fresh_c)] }) (EnvOk.cons impl_copyEffect_fresh_ct (EnvOk.nil tabOk)) mixed (fn := Tryz.f152) _ _ _ _ _ impl_copyTable_h Tryz.func152 (by kernel_rfl) (fun x => by kernel_rfl)
def impl_copyTable_fresh_c : Ct := .pure true true (.pair (.slice T_Effect) .unit) (.slice T_Effect) (fun x => impl_copyTable x.1)
theorem impl_copyTable_fresh_ct : CtOk Tryz.prog 152 impl_copyTable_fresh_c := pure_ct (E := { T := tab, G := [(210, impl_copyEffect_fresh_c)] }) (EnvOk.cons impl_copyEffect_fresh_ct (EnvOk.nil tabOk)) mixed (fn := Tryz.f152) _ _ _ _ _ impl_copyTable_h Tryz.func152 (by kernel_rfl) (fun x => by kernel_rfl)
/-! slices.Clone[[]int,int] -/
def slices_Clone_int (a0 : (List Int)) : Option (List Int) :=
 if (([] : List Int).length + a0.length) * (24 * 1) ≤ room then (
 some ([] ++ a0)) else none
def slices_Clone_int_c : Ct := .pure true false (.pair (.slice (.int .i64)) .unit) (.slice (.int .i64)) (fun x => slices_Clone_int x.1)
theorem slices_Clone_int_ct : CtOk Tryz.prog 153 slices_Clone_int_c := nil_ct (E := { T := tab, G := [] }) (EnvOk.nil tabOk) mixed (fn := Tryz.f153) _ _ (.int .i64) _ _ .none .none Tryz.func153 (by kernel_rfl) (by kernel_rfl) (fun x => by kernel_rfl)
def slices_Clone_int_fresh_c : Ct := .pure true true (.pair (.slice (.int .i64)) .unit) (.slice (.int .i64)) (fun x => slices_Clone_int x.1)
theorem slices_Clone_int_fresh_ct : CtOk Tryz.prog 153 slices_Clone_int_fresh_c := nil_ct (E := { T := tab, G := [] }) (EnvOk.nil tabOk) mixed (fn := Tryz.f153) _ _ (.int .i64) _ _ .none .none Tryz.func153 (by kernel_rfl) (by kernel_rfl) (fun x => by kernel_rfl)
/-! loop.example/g00486/impl.from -/
def impl_from (a0 : Int) (a1 : Int) (a2 : Int) : Option Bool :=
 bif decide (a0 ≥ a1) then (
 some (decide (a0 ≤ a2)))
 else (
 some false)
def impl_from_c : Ct := .pure true false (.pair (.int .i64) (.pair (.int .i64) (.pair (.int .i64) .unit))) .bool (fun x => impl_from x.1 x.2.1 x.2.2.1)
theorem impl_from_ct : CtOk Tryz.prog 186 impl_from_c := pure_ct (E := { T := tab, G := [] }) (EnvOk.nil tabOk) mixed (fn := Tryz.f186) _ _ _ _ _ .none Tryz.func186 (by kernel_rfl) (fun x => by kernel_rfl)
/-! loop.example/g00486/impl.isSide -/
def impl_isSide (a0 : T_State.D) (a1 : Int) : Option Bool :=
(impl_from a1 0 (IntKind.wrap .i64 ((a0.2.1.length : Int) - 1))).bind fun y1 =>
 some y1
def impl_isSide_c : Ct := .pure true false (.pair T_State (.pair (.int .i64) .unit)) .bool (fun x => impl_isSide x.1 x.2.1)
theorem impl_isSide_ct : CtOk Tryz.prog 187 impl_isSide_c := pure_ct (E := { T := tab, G := [(186, impl_from_c)] }) (EnvOk.cons impl_from_ct (EnvOk.nil tabOk)) mixed (fn := Tryz.f187) _ _ _ _ _ .none Tryz.func187 (by kernel_rfl) (fun x => by kernel_rfl)
/-! loop.example/g00486/impl.isTime -/
def impl_isTime (a0 : Int) : Option Bool :=
(impl_from a0 0 9999).bind fun y1 =>
 some y1
def impl_isTime_c : Ct := .pure true false (.pair (.int .i64) .unit) .bool (fun x => impl_isTime x.1)
theorem impl_isTime_ct : CtOk Tryz.prog 188 impl_isTime_c := pure_ct (E := { T := tab, G := [(186, impl_from_c)] }) (EnvOk.cons impl_from_ct (EnvOk.nil tabOk)) mixed (fn := Tryz.f188) _ _ _ _ _ .none Tryz.func188 (by kernel_rfl) (fun x => by kernel_rfl)
/-! loop.example/g00486/impl.isId -/
def impl_isId (a0 : Int) : Option Bool :=
(impl_from a0 1 99).bind fun y1 =>
 some y1
def impl_isId_c : Ct := .pure true false (.pair (.int .i64) .unit) .bool (fun x => impl_isId x.1)
theorem impl_isId_ct : CtOk Tryz.prog 236 impl_isId_c := pure_ct (E := { T := tab, G := [(186, impl_from_c)] }) (EnvOk.cons impl_from_ct (EnvOk.nil tabOk)) mixed (fn := Tryz.f236) _ _ _ _ _ .none Tryz.func236 (by kernel_rfl) (fun x => by kernel_rfl)
/-! loop.example/g00486/impl.isPlayer -/
def impl_isPlayer (a0 : Int) : Option Bool :=
(impl_from a0 0 2).bind fun y1 =>
 some y1
def impl_isPlayer_c : Ct := .pure true false (.pair (.int .i64) .unit) .bool (fun x => impl_isPlayer x.1)
theorem impl_isPlayer_ct : CtOk Tryz.prog 237 impl_isPlayer_c := pure_ct (E := { T := tab, G := [(186, impl_from_c)] }) (EnvOk.cons impl_from_ct (EnvOk.nil tabOk)) mixed (fn := Tryz.f237) _ _ _ _ _ .none Tryz.func237 (by kernel_rfl) (fun x => by kernel_rfl)
/-! loop.example/g00486/impl.isZone -/
def impl_isZone (a0 : Int) : Option Bool :=
(impl_from a0 1 4).bind fun y1 =>
 some y1
def impl_isZone_c : Ct := .pure true false (.pair (.int .i64) .unit) .bool (fun x => impl_isZone x.1)
theorem impl_isZone_ct : CtOk Tryz.prog 276 impl_isZone_c := pure_ct (E := { T := tab, G := [(186, impl_from_c)] }) (EnvOk.cons impl_from_ct (EnvOk.nil tabOk)) mixed (fn := Tryz.f276) _ _ _ _ _ .none Tryz.func276 (by kernel_rfl) (fun x => by kernel_rfl)
/-! loop.example/g00486/impl.isTraits -/
def impl_isTraits (a0 : Int) : Option Bool :=
(impl_from a0 0 63).bind fun y1 =>
 some y1
def impl_isTraits_c : Ct := .pure true false (.pair (.int .i64) .unit) .bool (fun x => impl_isTraits x.1)
theorem impl_isTraits_ct : CtOk Tryz.prog 291 impl_isTraits_c := pure_ct (E := { T := tab, G := [(186, impl_from_c)] }) (EnvOk.cons impl_from_ct (EnvOk.nil tabOk)) mixed (fn := Tryz.f291) _ _ _ _ _ .none Tryz.func291 (by kernel_rfl) (fun x => by kernel_rfl)
/-! loop.example/g00486/impl.isAmount -/
def impl_isAmount (a0 : Int) : Option Bool :=
(impl_from a0 0 2147483647).bind fun y1 =>
 some y1
def impl_isAmount_c : Ct := .pure true false (.pair (.int .i64) .unit) .bool (fun x => impl_isAmount x.1)
theorem impl_isAmount_ct : CtOk Tryz.prog 193 impl_isAmount_c := pure_ct (E := { T := tab, G := [(186, impl_from_c)] }) (EnvOk.cons impl_from_ct (EnvOk.nil tabOk)) mixed (fn := Tryz.f193) _ _ _ _ _ .none Tryz.func193 (by kernel_rfl) (fun x => by kernel_rfl)
/-! loop.example/g00486/impl.PieceOk -/
def impl_PieceOk (a0 : T_Piece.D) : Option Bool :=
(((impl_isId a0.1).bind fun y1 =>
 bif (!y1) then (
 some true)
 else (
(impl_isPlayer a0.2.1).bind fun y2 =>
 bif (!y2) then (
 some true)
 else (
(impl_isPlayer a0.2.2.1).bind fun y3 =>
 bif (!y3) then (
 some true)
 else (
(impl_isZone a0.2.2.2.1).bind fun y4 =>
 bif (!y4) then (
 some true)
 else (
(impl_isTime a0.2.2.2.2.1).bind fun y5 =>
 bif (!y5) then (
 some true)
 else (
(impl_from a0.2.2.2.2.2.1 0 999).bind fun y6 =>
 bif (!y6) then (
 some true)
 else (
(impl_from a0.2.2.2.2.2.2.1 0 999).bind fun y7 =>
 bif (!y7) then (
 some true)
 else (
(impl_isTraits a0.2.2.2.2.2.2.2.1).bind fun y8 =>
 some (!y8))))))))) : Option Bool).bind fun o9 =>
 bif o9 then (
 some false)
 else (
 bif (a0.2.2.2.1 != 2) then (
((bif (a0.2.2.1 == a0.2.1) then (
 bif (a0.2.2.2.2.2.2.2.2.1 == 0) then (
 bif (a0.2.2.2.2.2.2.2.2.2.1 == 0) then (
 bif (a0.2.2.2.2.2.2.2.2.2.2.1 == 0) then (
 bif (!a0.2.2.2.2.2.2.2.2.2.2.2.1) then (
 some (!a0.2.2.2.2.2.2.2.2.2.2.2.2.1))
 else (
 some false))
 else (
 some false))
 else (
 some false))
 else (
 some false))
 else (
 some false)) : Option Bool).bind fun o10 =>
 some o10)
 else (
(impl_isAmount a0.2.2.2.2.2.2.2.2.1).bind fun y11 =>
 bif y11 then (
(impl_isAmount a0.2.2.2.2.2.2.2.2.2.1).bind fun y12 =>
 bif y12 then (
(impl_isAmount a0.2.2.2.2.2.2.2.2.2.2.1).bind fun y13 =>
 some y13)
 else (
 some false))
 else (
 some false)))
def impl_PieceOk_h : Hints := (.node none none .none (.node none none (.node none none (.node (some ⟨[.tmp 48 .bool], [none], none, []⟩) none .none .none) .none) (.node none none (.node none none .none (.node none none (.node none none (.node (some ⟨[.tmp 2 .bool], [none], none, []⟩) none .none .none) .none) .none)) .none)))
def impl_PieceOk_c : Ct := .pure true false (.pair T_Piece .unit) .bool (fun x => impl_PieceOk x.1)
theorem impl_PieceOk_ct : CtOk Tryz.prog 189 impl_PieceOk_c := pure_ct (E := { T := tab, G := [(186, impl_from_c), (188, impl_isTime_c), (193, impl_isAmount_c), (236, impl_isId_c), (237, impl_isPlayer_c), (276, impl_isZone_c), (291, impl_isTraits_c)] }) (EnvOk.cons impl_from_ct (EnvOk.cons impl_isTime_ct (EnvOk.cons impl_isAmount_ct (EnvOk.cons impl_isId_ct (EnvOk.cons impl_isPlayer_ct (EnvOk.cons impl_isZone_ct (EnvOk.cons impl_isTraits_ct (EnvOk.nil tabOk)))))))) mixed (fn := Tryz.f189) _ _ _ _ _ impl_PieceOk_h Tryz.func189 (by kernel_rfl) (fun x => by kernel_rfl)
/-! slices.IndexFunc[[]loop.example/g00486/impl.Side,loop.example/g00486/impl.Side] -/
def slices_IndexFunc_impl_Side_l1 (a0 : (List T_Side.D)) (a1 : ((T_Side.D × Unit) → Option Bool)) : Int → Option (Int ⊕ (Int ⊕ Int)) := fun s1 =>
 bif decide (s1 < (a0.length : Int)) then (
 idx a0 s1 fun x2 =>
(a1 (x2, ())).bind fun y3 =>
 bif y3 then (
 some (.inr (.inr s1)))
 else (
 some (.inl (IntKind.wrap .i64 (s1 + 1)))))
 else (
 some (.inr (.inl s1)))
def slices_IndexFunc_impl_Side (a0 : (List T_Side.D)) (a1 : ((T_Side.D × Unit) → Option Bool)) : Option Int :=
(while_ (slices_IndexFunc_impl_Side_l1 a0 a1) 0).bind fun o4 =>
 match o4 with
| .inl s5 => (
 some (-1))
| .inr o6 => (
 some o6)
def slices_IndexFunc_impl_Side_h : Hints := (.node none none .none (.node none none (.node none none .none (.node none none (.node none (some ⟨[.tmp 8 (.int .i64)], [some 0], some [.tmp 4 (.int .i64)], []⟩) .none .none) .none)) .none))
def slices_IndexFunc_impl_Side_c : Ct := .pure true false (.pair (.slice T_Side) (.pair (.fn (.pair T_Side .unit) .bool) .unit)) (.int .i64) (fun x => slices_IndexFunc_impl_Side x.1 x.2.1)
theorem slices_IndexFunc_impl_Side_ct : CtOk Tryz.prog 292 slices_IndexFunc_impl_Side_c := pure_ct (E := { T := tab, G := [] }) (EnvOk.nil tabOk) mixed (fn := Tryz.f292) _ _ _ _ _ slices_IndexFunc_impl_Side_h Tryz.func292 (by kernel_rfl) (fun x => by kernel_rfl)
/-! slices.ContainsFunc[[]loop.example/g00486/impl.Side,loop.example/g00486/impl.Side] -/
def slices_ContainsFunc_impl_Side (a0 : (List T_Side.D)) (a1 : ((T_Side.D × Unit) → Option Bool)) : Option Bool :=
(slices_IndexFunc_impl_Side a0 a1).bind fun y1 =>
 some (decide (y1 ≥ 0))
def slices_ContainsFunc_impl_Side_c : Ct := .pure true false (.pair (.slice T_Side) (.pair (.fn (.pair T_Side .unit) .bool) .unit)) .bool (fun x => slices_ContainsFunc_impl_Side x.1 x.2.1)
theorem slices_ContainsFunc_impl_Side_ct : CtOk Tryz.prog 190 slices_ContainsFunc_impl_Side_c := pure_ct (E := { T := tab, G := [(292, slices_IndexFunc_impl_Side_c)] }) (EnvOk.cons slices_IndexFunc_impl_Side_ct (EnvOk.nil tabOk)) mixed (fn := Tryz.f190) _ _ _ _ _ .none Tryz.func190 (by kernel_rfl) (fun x => by kernel_rfl)
/-! loop.example/g00486/impl.Bound -/
def impl_Bound (a0 : Int) : Option Int :=
 some (if (if 2147483647 < a0 then 2147483647 else a0) > (-2147483647) then (if 2147483647 < a0 then 2147483647 else a0) else (-2147483647))
def impl_Bound_c : Ct := .pure true false (.pair (.int .i64) .unit) (.int .i64) (fun x => impl_Bound x.1)
theorem impl_Bound_ct : CtOk Tryz.prog 192 impl_Bound_c := pure_ct (E := { T := tab, G := [] }) (EnvOk.nil tabOk) mixed (fn := Tryz.f192) _ _ _ _ _ .none Tryz.func192 (by kernel_rfl) (fun x => by kernel_rfl)
/-! loop.example/g00486/impl.StateOk$1 -/
def impl_StateOk_1 (a0 : T_Side.D) : Option Bool :=
(impl_Bound a0.1).bind fun y1 =>
 bif (y1 != a0.1) then (
 some true)
 else (
(impl_isAmount a0.2.1).bind fun y2 =>
 some (!y2))
def impl_StateOk_1_c : Ct := .pure true false (.pair T_Side .unit) .bool (fun x => impl_StateOk_1 x.1)
theorem impl_StateOk_1_ct : CtOk Tryz.prog 191 impl_StateOk_1_c := pure_ct (E := { T := tab, G := [(192, impl_Bound_c), (193, impl_isAmount_c)] }) (EnvOk.cons impl_Bound_ct (EnvOk.cons impl_isAmount_ct (EnvOk.nil tabOk))) mixed (fn := Tryz.f191) _ _ _ _ _ .none Tryz.func191 (by kernel_rfl) (fun x => by kernel_rfl)
/-! loop.example/g00486/impl.StateOk -/
def impl_StateOk_l1 (a0 : T_State.D) : Int → Option (Int ⊕ (Int ⊕ Bool)) := fun s5 =>
 bif decide (s5 < (a0.1.length : Int)) then (
 idx a0.1 s5 fun x6 =>
(((impl_PieceOk x6).bind fun y7 =>
 bif (!y7) then (
 some true)
 else (
(impl_isSide a0 x6.2.1).bind fun y8 =>
 bif (!y8) then (
 some true)
 else (
(impl_isSide a0 x6.2.2.1).bind fun y9 =>
 bif (!y9) then (
 some true)
 else (
 bif decide (x6.2.2.2.2.1 > a0.2.2.2.1) then (
 some true)
 else (
 bif decide (s5 > 0) then (
 idx a0.1 (IntKind.wrap .i64 (s5 - 1)) fun x10 =>
 some (decide (x10.1 ≥ x6.1)))
 else (
 some false)))))) : Option Bool).bind fun o11 =>
 bif o11 then (
 some (.inr (.inr false)))
 else (
 some (.inl (IntKind.wrap .i64 (s5 + 1)))))
 else (
 some (.inr (.inl s5)))
def impl_StateOk (a0 : T_State.D) : Option Bool :=
((bif decide ((a0.1.length : Int) > 8) then (
 some true)
 else (
(impl_from (a0.2.1.length : Int) 2 3).bind fun y1 =>
 bif (!y1) then (
 some true)
 else (
(impl_isSide a0 a0.2.2.1).bind fun y2 =>
 bif (!y2) then (
 some true)
 else (
(impl_isTime a0.2.2.2.1).bind fun y3 =>
 some (!y3))))) : Option Bool).bind fun o4 =>
 bif o4 then (
 some false)
 else (
(while_ (impl_StateOk_l1 a0) 0).bind fun o12 =>
 match o12 with
| .inl s13 => (
(slices_ContainsFunc_impl_Side a0.2.1 (fun q => impl_StateOk_1 q.1)).bind fun y15 =>
 some (!y15))
| .inr o14 => (
 some o14))
def impl_StateOk_h : Hints := (.node none none .none (.node none none (.node none none (.node (some ⟨[.tmp 28 .bool], [none], none, []⟩) none .none .none) .none) (.node none none (.node none none .none (.node none none (.node none (some ⟨[.tmp 32 (.int .i64)], [some 0], some [.tmp 2 .bool], []⟩) (.node none none .none (.node none none .none (.node none none (.node none none (.node none none .none (.node none none (.node (some ⟨[.tmp 76 .bool], [none], none, []⟩) none .none .none) .none)) .none) .none))) .none) .none)) .none)))
def impl_StateOk_c : Ct := .pure true false (.pair T_State .unit) .bool (fun x => impl_StateOk x.1)
theorem impl_StateOk_ct : CtOk Tryz.prog 81 impl_StateOk_c := pure_ct (E := { T := tab, G := [(186, impl_from_c), (187, impl_isSide_c), (188, impl_isTime_c), (189, impl_PieceOk_c), (190, slices_ContainsFunc_impl_Side_c), (191, impl_StateOk_1_c)] }) (EnvOk.cons impl_from_ct (EnvOk.cons impl_isSide_ct (EnvOk.cons impl_isTime_ct (EnvOk.cons impl_PieceOk_ct (EnvOk.cons slices_ContainsFunc_impl_Side_ct (EnvOk.cons impl_StateOk_1_ct (EnvOk.nil tabOk))))))) mixed (fn := Tryz.f81) _ _ _ _ _ impl_StateOk_h Tryz.func81 (by kernel_rfl) (fun x => by kernel_rfl)
/-! loop.example/g00486/impl.onPiece -/
def impl_onPiece (a0 : T_Event.D) : Option Bool :=
(impl_isId a0.2.2.1).bind fun y1 =>
 bif y1 then (
 some (a0.2.2.2.1 == (-1)))
 else (
 some false)
def impl_onPiece_c : Ct := .pure true false (.pair T_Event .unit) .bool (fun x => impl_onPiece x.1)
theorem impl_onPiece_ct : CtOk Tryz.prog 274 impl_onPiece_c := pure_ct (E := { T := tab, G := [(236, impl_isId_c)] }) (EnvOk.cons impl_isId_ct (EnvOk.nil tabOk)) mixed (fn := Tryz.f274) _ _ _ _ _ .none Tryz.func274 (by kernel_rfl) (fun x => by kernel_rfl)
/-! loop.example/g00486/impl.onPlayer -/
def impl_onPlayer (a0 : T_Event.D) : Option Bool :=
 bif (a0.2.2.1 == 0) then (
(impl_isPlayer a0.2.2.2.1).bind fun y1 =>
 some y1)
 else (
 some false)
def impl_onPlayer_c : Ct := .pure true false (.pair T_Event .unit) .bool (fun x => impl_onPlayer x.1)
theorem impl_onPlayer_ct : CtOk Tryz.prog 275 impl_onPlayer_c := pure_ct (E := { T := tab, G := [(237, impl_isPlayer_c)] }) (EnvOk.cons impl_isPlayer_ct (EnvOk.nil tabOk)) mixed (fn := Tryz.f275) _ _ _ _ _ .none Tryz.func275 (by kernel_rfl) (fun x => by kernel_rfl)
/-! loop.example/g00486/impl.EventOk -/
def impl_EventOk (a0 : T_Event.D) : Option Bool :=
(((impl_isAmount a0.2.2.2.2.1).bind fun y1 =>
 bif (!y1) then (
 some true)
 else (
 bif (a0.1 != 1) then (
 bif (a0.2.1 != 0) then (
 some true)
 else (
 bif (a0.1 != 2) then (
 bif (a0.2.2.2.2.2.1 != 0) then (
 some true)
 else (
 some a0.2.2.2.2.2.2.1))
 else (
 some false)))
 else (
 bif (a0.1 != 2) then (
 bif (a0.2.2.2.2.2.1 != 0) then (
 some true)
 else (
 some a0.2.2.2.2.2.2.1))
 else (
 some false)))) : Option Bool).bind fun o2 =>
 bif o2 then (
 some false)
 else (
 bif (a0.1 == 1) then (
(impl_isId a0.2.1).bind fun y3 =>
 bif y3 then (
(impl_onPiece a0).bind fun y4 =>
 bif y4 then (
 some true)
 else (
(impl_onPlayer a0).bind fun y5 =>
 some y5))
 else (
 some false))
 else (
 bif (a0.1 == 2) then (
 bif (a0.2.2.2.2.2.1 == 2) then (
(((impl_onPiece a0).bind fun y6 =>
 bif y6 then (
 some (decide (a0.2.2.2.2.1 ≤ 99)))
 else (
 some false)) : Option Bool).bind fun o7 =>
 some o7)
 else (
(impl_onPiece a0).bind fun y8 =>
 bif y8 then (
(impl_isZone a0.2.2.2.2.2.1).bind fun y9 =>
 bif y9 then (
 bif (a0.2.2.2.2.1 == 0) then (
 some (!a0.2.2.2.2.2.2.1))
 else (
 some false))
 else (
 some false))
 else (
 some false)))
 else (
((bif (a0.1 == 3) then (
 some (a0.1 == 3))
 else (
 some (a0.1 == 4))) : Option Bool).bind fun o10 =>
 bif o10 then (
(impl_onPlayer a0).bind fun y11 =>
 some y11)
 else (
((bif (a0.1 == 5) then (
 some (a0.1 == 5))
 else (
 some (a0.1 == 6))) : Option Bool).bind fun o12 =>
 bif o12 then (
(impl_onPiece a0).bind fun y13 =>
 some y13)
 else (
 some false)))))
def impl_EventOk_h : Hints := (.node none none .none (.node none none (.node none none (.node (some ⟨[.tmp 30 .bool], [none], none, []⟩) none .none .none) .none) (.node none none (.node none none .none (.node none none (.node none none .none (.node none none .none (.node none none .none (.node none none (.node none none (.node none none .none (.node none none (.node none none (.node (some ⟨[.tmp 2 .bool], [none], none, []⟩) none .none .none) .none) .none)) .none) (.node none none (.node none none .none (.node (some ⟨[.tmp 75 .bool], [none], none, []⟩) none .none .none)) (.node none none .none (.node none none (.node none none .none (.node (some ⟨[.tmp 80 .bool], [none], none, []⟩) none .none .none)) .none))))))) .none)) .none)))
def impl_EventOk_c : Ct := .pure true false (.pair T_Event .unit) .bool (fun x => impl_EventOk x.1)
theorem impl_EventOk_ct : CtOk Tryz.prog 162 impl_EventOk_c := pure_ct (E := { T := tab, G := [(193, impl_isAmount_c), (236, impl_isId_c), (274, impl_onPiece_c), (275, impl_onPlayer_c), (276, impl_isZone_c)] }) (EnvOk.cons impl_isAmount_ct (EnvOk.cons impl_isId_ct (EnvOk.cons impl_onPiece_ct (EnvOk.cons impl_onPlayer_ct (EnvOk.cons impl_isZone_ct (EnvOk.nil tabOk)))))) mixed (fn := Tryz.f162) _ _ _ _ _ impl_EventOk_h Tryz.func162 (by kernel_rfl) (fun x => by kernel_rfl)
/-! loop.example/g00486/impl.isKind -/
def impl_isKind (a0 : Int) : Option Bool :=
(impl_from a0 1 6).bind fun y1 =>
 some y1
def impl_isKind_c : Ct := .pure true false (.pair (.int .i64) .unit) .bool (fun x => impl_isKind x.1)
theorem impl_isKind_ct : CtOk Tryz.prog 347 impl_isKind_c := pure_ct (E := { T := tab, G := [(186, impl_from_c)] }) (EnvOk.cons impl_from_ct (EnvOk.nil tabOk)) mixed (fn := Tryz.f347) _ _ _ _ _ .none Tryz.func347 (by kernel_rfl) (fun x => by kernel_rfl)
/-! loop.example/g00486/impl.PatOk -/
def impl_PatOk (a0 : T_Pat.D) : Option Bool :=
(((impl_isKind a0.1).bind fun y1 =>
 bif (!y1) then (
 some true)
 else (
(impl_from a0.2.1 0 2).bind fun y2 =>
 bif (!y2) then (
 some true)
 else (
(impl_from a0.2.2.1 0 99).bind fun y3 =>
 bif (!y3) then (
 some true)
 else (
(impl_isTraits a0.2.2.2.1).bind fun y4 =>
 bif (!y4) then (
 some true)
 else (
(impl_from a0.2.2.2.2.1 0 99).bind fun y5 =>
 bif (!y5) then (
 some true)
 else (
(impl_isAmount a0.2.2.2.2.2.1).bind fun y6 =>
 bif (!y6) then (
 some true)
 else (
(impl_from a0.2.2.2.2.2.2.1 0 4).bind fun y7 =>
 some (!y7)))))))) : Option Bool).bind fun o8 =>
 bif o8 then (
 some false)
 else (
((bif (a0.1 != 1) then (
 bif (a0.2.2.1 != 0) then (
 some true)
 else (
 bif (a0.2.2.2.1 != 0) then (
 some true)
 else (
 bif (a0.1 != 2) then (
 some (a0.2.2.2.2.2.2.1 != 0))
 else (
 some false))))
 else (
 bif (a0.1 != 2) then (
 some (a0.2.2.2.2.2.2.1 != 0))
 else (
 some false))) : Option Bool).bind fun o9 =>
 bif o9 then (
 some false)
 else (
 bif (a0.2.2.2.2.1 == 0) then (
 some true)
 else (
 bif (a0.1 != 3) then (
 some (a0.1 != 4))
 else (
 some false))))
def impl_PatOk_h : Hints := (.node none none .none (.node none none (.node none none (.node (some ⟨[.tmp 42 .bool], [none], none, []⟩) none .none .none) .none) (.node none none (.node none none (.node (some ⟨[.tmp 65 .bool], [none], none, []⟩) none .none .none) .none) .none)))
def impl_PatOk_c : Ct := .pure true false (.pair T_Pat .unit) .bool (fun x => impl_PatOk x.1)
theorem impl_PatOk_ct : CtOk Tryz.prog 293 impl_PatOk_c := pure_ct (E := { T := tab, G := [(186, impl_from_c), (193, impl_isAmount_c), (291, impl_isTraits_c), (347, impl_isKind_c)] }) (EnvOk.cons impl_from_ct (EnvOk.cons impl_isAmount_ct (EnvOk.cons impl_isTraits_ct (EnvOk.cons impl_isKind_ct (EnvOk.nil tabOk))))) mixed (fn := Tryz.f293) _ _ _ _ _ impl_PatOk_h Tryz.func293 (by kernel_rfl) (fun x => by kernel_rfl)
/-! loop.example/g00486/impl.GuardOk -/
def impl_GuardOk (a0 : T_Guard.D) : Option Bool :=
((bif (a0.1 == 0) then (
 some (a0.1 == 0))
 else (
 some (a0.1 == 3))) : Option Bool).bind fun o1 =>
 bif o1 then (
 some (a0.2.1 == 0))
 else (
 bif (a0.1 == 1) then (
(impl_Bound a0.2.1).bind fun y2 =>
 some (y2 == a0.2.1))
 else (
((bif (a0.1 == 2) then (
 some (a0.1 == 2))
 else (
 some (a0.1 == 4))) : Option Bool).bind fun o3 =>
 bif o3 then (
(impl_from a0.2.1 0 8).bind fun y4 =>
 some y4)
 else (
 some false)))
def impl_GuardOk_h : Hints := (.node none none .none (.node none none (.node none none .none (.node none none (.node none none (.node none none .none (.node (some ⟨[.tmp 5 .bool], [none], none, []⟩) none .none .none)) (.node none none .none (.node none none .none (.node none none .none (.node none none (.node none none .none (.node (some ⟨[.tmp 19 .bool], [none], none, []⟩) none .none .none)) .none))))) .none)) .none))
def impl_GuardOk_c : Ct := .pure true false (.pair T_Guard .unit) .bool (fun x => impl_GuardOk x.1)
theorem impl_GuardOk_ct : CtOk Tryz.prog 294 impl_GuardOk_c := pure_ct (E := { T := tab, G := [(186, impl_from_c), (192, impl_Bound_c)] }) (EnvOk.cons impl_from_ct (EnvOk.cons impl_Bound_ct (EnvOk.nil tabOk))) mixed (fn := Tryz.f294) _ _ _ _ _ impl_GuardOk_h Tryz.func294 (by kernel_rfl) (fun x => by kernel_rfl)
/-! slices.IndexFunc[[]loop.example/g00486/impl.Event,loop.example/g00486/impl.Event] -/
def slices_IndexFunc_impl_Event_l1 (a0 : (List T_Event.D)) (a1 : ((T_Event.D × Unit) → Option Bool)) : Int → Option (Int ⊕ (Int ⊕ Int)) := fun s1 =>
 bif decide (s1 < (a0.length : Int)) then (
 idx a0 s1 fun x2 =>
(a1 (x2, ())).bind fun y3 =>
 bif y3 then (
 some (.inr (.inr s1)))
 else (
 some (.inl (IntKind.wrap .i64 (s1 + 1)))))
 else (
 some (.inr (.inl s1)))
def slices_IndexFunc_impl_Event (a0 : (List T_Event.D)) (a1 : ((T_Event.D × Unit) → Option Bool)) : Option Int :=
(while_ (slices_IndexFunc_impl_Event_l1 a0 a1) 0).bind fun o4 =>
 match o4 with
| .inl s5 => (
 some (-1))
| .inr o6 => (
 some o6)
def slices_IndexFunc_impl_Event_h : Hints := (.node none none .none (.node none none (.node none none .none (.node none none (.node none (some ⟨[.tmp 8 (.int .i64)], [some 0], some [.tmp 4 (.int .i64)], []⟩) .none .none) .none)) .none))
def slices_IndexFunc_impl_Event_c : Ct := .pure true false (.pair (.slice T_Event) (.pair (.fn (.pair T_Event .unit) .bool) .unit)) (.int .i64) (fun x => slices_IndexFunc_impl_Event x.1 x.2.1)
theorem slices_IndexFunc_impl_Event_ct : CtOk Tryz.prog 290 slices_IndexFunc_impl_Event_c := pure_ct (E := { T := tab, G := [] }) (EnvOk.nil tabOk) mixed (fn := Tryz.f290) _ _ _ _ _ slices_IndexFunc_impl_Event_h Tryz.func290 (by kernel_rfl) (fun x => by kernel_rfl)
/-! slices.ContainsFunc[[]loop.example/g00486/impl.Event,loop.example/g00486/impl.Event] -/
def slices_ContainsFunc_impl_Event (a0 : (List T_Event.D)) (a1 : ((T_Event.D × Unit) → Option Bool)) : Option Bool :=
(slices_IndexFunc_impl_Event a0 a1).bind fun y1 =>
 some (decide (y1 ≥ 0))
def slices_ContainsFunc_impl_Event_c : Ct := .pure true false (.pair (.slice T_Event) (.pair (.fn (.pair T_Event .unit) .bool) .unit)) .bool (fun x => slices_ContainsFunc_impl_Event x.1 x.2.1)
theorem slices_ContainsFunc_impl_Event_ct : CtOk Tryz.prog 183 slices_ContainsFunc_impl_Event_c := pure_ct (E := { T := tab, G := [(290, slices_IndexFunc_impl_Event_c)] }) (EnvOk.cons slices_IndexFunc_impl_Event_ct (EnvOk.nil tabOk)) mixed (fn := Tryz.f183) _ _ _ _ _ .none Tryz.func183 (by kernel_rfl) (fun x => by kernel_rfl)
/-! loop.example/g00486/impl.partOk -/
def impl_partOk (a0 : T_Event.D) : Option Bool :=
(impl_EventOk a0).bind fun y1 =>
 bif y1 then (
 some true)
 else (
((bif (a0.1 != 2) then (
 some (a0.2.2.2.2.1 == (-1)))
 else (
 some false)) : Option Bool).bind fun o2 =>
 bif o2 then (
(impl_EventOk (a0.1, a0.2.1, a0.2.2.1, a0.2.2.2.1, 0, a0.2.2.2.2.2)).bind fun y3 =>
 some y3)
 else (
 some false))
def impl_partOk_h : Hints := (.node none none .none (.node none none .none (.node none none (.node (some ⟨[.tmp 3 .bool], [none], none, []⟩) none .none .none) .none)))
def impl_partOk_c : Ct := .pure true false (.pair T_Event .unit) .bool (fun x => impl_partOk x.1)
theorem impl_partOk_ct : CtOk Tryz.prog 349 impl_partOk_c := pure_ct (E := { T := tab, G := [(162, impl_EventOk_c)] }) (EnvOk.cons impl_EventOk_ct (EnvOk.nil tabOk)) mixed (fn := Tryz.f349) _ _ _ _ _ impl_partOk_h Tryz.func349 (by kernel_rfl) (fun x => by kernel_rfl)
/-! loop.example/g00486/impl.ActOk$1 -/
def impl_ActOk_1 (a0 : T_Event.D) : Option Bool :=
(impl_partOk a0).bind fun y1 =>
 some (!y1)
def impl_ActOk_1_c : Ct := .pure true false (.pair T_Event .unit) .bool (fun x => impl_ActOk_1 x.1)
theorem impl_ActOk_1_ct : CtOk Tryz.prog 348 impl_ActOk_1_c := pure_ct (E := { T := tab, G := [(349, impl_partOk_c)] }) (EnvOk.cons impl_partOk_ct (EnvOk.nil tabOk)) mixed (fn := Tryz.f348) _ _ _ _ _ .none Tryz.func348 (by kernel_rfl) (fun x => by kernel_rfl)
/-! loop.example/g00486/impl.ActOk -/
def impl_ActOk (a0 : T_Act.D) : Option Bool :=
((bif (a0.1 != 3) then (
 bif (a0.1 != 8) then (
 bif (a0.2.1 != 0) then (
 some true)
 else (
 bif (a0.1 != 6) then (
 bif (a0.2.2.1 != 0) then (
 some true)
 else (
 bif (a0.2.2.2.1 != (-1)) then (
 some true)
 else (
 bif (a0.1 != 7) then (
 bif (a0.2.2.2.2.1 != 0) then (
 some true)
 else (
 bif (a0.1 != 8) then (
 bif a0.2.2.2.2.2.1 then (
 some true)
 else (
 bif (a0.1 != 9) then (
 some (decide ((a0.2.2.2.2.2.2.1.length : Int) > 0)))
 else (
 some false)))
 else (
 bif (a0.1 != 9) then (
 some (decide ((a0.2.2.2.2.2.2.1.length : Int) > 0)))
 else (
 some false))))
 else (
 bif (a0.1 != 8) then (
 bif a0.2.2.2.2.2.1 then (
 some true)
 else (
 bif (a0.1 != 9) then (
 some (decide ((a0.2.2.2.2.2.2.1.length : Int) > 0)))
 else (
 some false)))
 else (
 bif (a0.1 != 9) then (
 some (decide ((a0.2.2.2.2.2.2.1.length : Int) > 0)))
 else (
 some false))))))
 else (
 bif (a0.1 != 7) then (
 bif (a0.2.2.2.2.1 != 0) then (
 some true)
 else (
 bif (a0.1 != 8) then (
 bif a0.2.2.2.2.2.1 then (
 some true)
 else (
 bif (a0.1 != 9) then (
 some (decide ((a0.2.2.2.2.2.2.1.length : Int) > 0)))
 else (
 some false)))
 else (
 bif (a0.1 != 9) then (
 some (decide ((a0.2.2.2.2.2.2.1.length : Int) > 0)))
 else (
 some false))))
 else (
 bif (a0.1 != 8) then (
 bif a0.2.2.2.2.2.1 then (
 some true)
 else (
 bif (a0.1 != 9) then (
 some (decide ((a0.2.2.2.2.2.2.1.length : Int) > 0)))
 else (
 some false)))
 else (
 bif (a0.1 != 9) then (
 some (decide ((a0.2.2.2.2.2.2.1.length : Int) > 0)))
 else (
 some false))))))
 else (
 bif (a0.1 != 6) then (
 bif (a0.2.2.1 != 0) then (
 some true)
 else (
 bif (a0.2.2.2.1 != (-1)) then (
 some true)
 else (
 bif (a0.1 != 7) then (
 bif (a0.2.2.2.2.1 != 0) then (
 some true)
 else (
 bif (a0.1 != 8) then (
 bif a0.2.2.2.2.2.1 then (
 some true)
 else (
 bif (a0.1 != 9) then (
 some (decide ((a0.2.2.2.2.2.2.1.length : Int) > 0)))
 else (
 some false)))
 else (
 bif (a0.1 != 9) then (
 some (decide ((a0.2.2.2.2.2.2.1.length : Int) > 0)))
 else (
 some false))))
 else (
 bif (a0.1 != 8) then (
 bif a0.2.2.2.2.2.1 then (
 some true)
 else (
 bif (a0.1 != 9) then (
 some (decide ((a0.2.2.2.2.2.2.1.length : Int) > 0)))
 else (
 some false)))
 else (
 bif (a0.1 != 9) then (
 some (decide ((a0.2.2.2.2.2.2.1.length : Int) > 0)))
 else (
 some false))))))
 else (
 bif (a0.1 != 7) then (
 bif (a0.2.2.2.2.1 != 0) then (
 some true)
 else (
 bif (a0.1 != 8) then (
 bif a0.2.2.2.2.2.1 then (
 some true)
 else (
 bif (a0.1 != 9) then (
 some (decide ((a0.2.2.2.2.2.2.1.length : Int) > 0)))
 else (
 some false)))
 else (
 bif (a0.1 != 9) then (
 some (decide ((a0.2.2.2.2.2.2.1.length : Int) > 0)))
 else (
 some false))))
 else (
 bif (a0.1 != 8) then (
 bif a0.2.2.2.2.2.1 then (
 some true)
 else (
 bif (a0.1 != 9) then (
 some (decide ((a0.2.2.2.2.2.2.1.length : Int) > 0)))
 else (
 some false)))
 else (
 bif (a0.1 != 9) then (
 some (decide ((a0.2.2.2.2.2.2.1.length : Int) > 0)))
 else (
 some false))))))
 else (
 bif (a0.1 != 6) then (
 bif (a0.2.2.1 != 0) then (
 some true)
 else (
 bif (a0.2.2.2.1 != (-1)) then (
 some true)
 else (
 bif (a0.1 != 7) then (
 bif (a0.2.2.2.2.1 != 0) then (
 some true)
 else (
 bif (a0.1 != 8) then (
 bif a0.2.2.2.2.2.1 then (
 some true)
 else (
 bif (a0.1 != 9) then (
 some (decide ((a0.2.2.2.2.2.2.1.length : Int) > 0)))
 else (
 some false)))
 else (
 bif (a0.1 != 9) then (
 some (decide ((a0.2.2.2.2.2.2.1.length : Int) > 0)))
 else (
 some false))))
 else (
 bif (a0.1 != 8) then (
 bif a0.2.2.2.2.2.1 then (
 some true)
 else (
 bif (a0.1 != 9) then (
 some (decide ((a0.2.2.2.2.2.2.1.length : Int) > 0)))
 else (
 some false)))
 else (
 bif (a0.1 != 9) then (
 some (decide ((a0.2.2.2.2.2.2.1.length : Int) > 0)))
 else (
 some false))))))
 else (
 bif (a0.1 != 7) then (
 bif (a0.2.2.2.2.1 != 0) then (
 some true)
 else (
 bif (a0.1 != 8) then (
 bif a0.2.2.2.2.2.1 then (
 some true)
 else (
 bif (a0.1 != 9) then (
 some (decide ((a0.2.2.2.2.2.2.1.length : Int) > 0)))
 else (
 some false)))
 else (
 bif (a0.1 != 9) then (
 some (decide ((a0.2.2.2.2.2.2.1.length : Int) > 0)))
 else (
 some false))))
 else (
 bif (a0.1 != 8) then (
 bif a0.2.2.2.2.2.1 then (
 some true)
 else (
 bif (a0.1 != 9) then (
 some (decide ((a0.2.2.2.2.2.2.1.length : Int) > 0)))
 else (
 some false)))
 else (
 bif (a0.1 != 9) then (
 some (decide ((a0.2.2.2.2.2.2.1.length : Int) > 0)))
 else (
 some false)))))) : Option Bool).bind fun o1 =>
 bif o1 then (
 some false)
 else (
((bif (a0.1 == 1) then (
 some (a0.1 == 1))
 else (
((bif (a0.1 == 2) then (
 some (a0.1 == 2))
 else (
((bif (a0.1 == 4) then (
 some (a0.1 == 4))
 else (
 some (a0.1 == 5))) : Option Bool).bind fun o2 =>
 some o2)) : Option Bool).bind fun o3 =>
 some o3)) : Option Bool).bind fun o4 =>
 bif o4 then (
 some true)
 else (
 bif (a0.1 == 3) then (
(impl_from a0.2.1 1 2147483647).bind fun y5 =>
 some y5)
 else (
 bif (a0.1 == 6) then (
(impl_isId a0.2.2.1).bind fun y6 =>
 bif y6 then (
 bif (a0.2.2.2.1 == (-1)) then (
 some true)
 else (
 bif (a0.2.2.1 == 0) then (
(impl_isPlayer a0.2.2.2.1).bind fun y7 =>
 some y7)
 else (
 some false)))
 else (
 bif (a0.2.2.1 == 0) then (
(impl_isPlayer a0.2.2.2.1).bind fun y8 =>
 some y8)
 else (
 some false)))
 else (
 bif (a0.1 == 7) then (
(impl_isZone a0.2.2.2.2.1).bind fun y9 =>
 some y9)
 else (
 bif (a0.1 == 8) then (
(impl_from a0.2.1 0 99).bind fun y10 =>
 some y10)
 else (
 bif (a0.1 == 9) then (
(impl_from (a0.2.2.2.2.2.2.1.length : Int) 1 3).bind fun y11 =>
 bif y11 then (
(slices_ContainsFunc_impl_Event a0.2.2.2.2.2.2.1 (fun q => impl_ActOk_1 q.1)).bind fun y12 =>
 some (!y12))
 else (
 some false))
 else (
 some false)))))))
def impl_ActOk_h : Hints := (.node none none .none (.node none none (.node none none (.node (some ⟨[.tmp 60 .bool], [none], none, []⟩) none .none .none) .none) (.node none none (.node none none .none (.node none none (.node none none (.node none none .none (.node (some ⟨[.tmp 63 .bool], [none], none, []⟩) none .none (.node none none .none (.node (some ⟨[.tmp 63 .bool], [none], none, []⟩) none .none (.node none none .none (.node (some ⟨[.tmp 63 .bool], [none], none, []⟩) none .none .none)))))) .none) .none)) .none)))
def impl_ActOk_c : Ct := .pure true false (.pair T_Act .unit) .bool (fun x => impl_ActOk x.1)
theorem impl_ActOk_ct : CtOk Tryz.prog 295 impl_ActOk_c := pure_ct (E := { T := tab, G := [(183, slices_ContainsFunc_impl_Event_c), (186, impl_from_c), (236, impl_isId_c), (237, impl_isPlayer_c), (276, impl_isZone_c), (348, impl_ActOk_1_c)] }) (EnvOk.cons slices_ContainsFunc_impl_Event_ct (EnvOk.cons impl_from_ct (EnvOk.cons impl_isId_ct (EnvOk.cons impl_isPlayer_ct (EnvOk.cons impl_isZone_ct (EnvOk.cons impl_ActOk_1_ct (EnvOk.nil tabOk))))))) mixed (fn := Tryz.f295) _ _ _ _ _ impl_ActOk_h Tryz.func295 (by kernel_rfl) (fun x => by kernel_rfl)
/-! loop.example/g00486/impl.ActFits -/
def impl_ActFits (a0 : T_Act.D) (a1 : Int) : Option Bool :=
(impl_isKind a1).bind fun y1 =>
 bif (!y1) then (
 some false)
 else (
((bif (a0.1 == 1) then (
 some (a0.1 == 1))
 else (
 some (a0.1 == 9))) : Option Bool).bind fun o2 =>
 bif o2 then (
 some true)
 else (
((bif (a0.1 == 2) then (
 some (a0.1 == 2))
 else (
 some (a0.1 == 6))) : Option Bool).bind fun o3 =>
 bif o3 then (
 some (a1 == 1))
 else (
((bif (a0.1 == 3) then (
 some (a0.1 == 3))
 else (
((bif (a0.1 == 4) then (
 some (a0.1 == 4))
 else (
 some (a0.1 == 5))) : Option Bool).bind fun o4 =>
 some o4)) : Option Bool).bind fun o5 =>
 bif o5 then (
 some (a1 != 2))
 else (
((bif (a0.1 == 7) then (
 some (a0.1 == 7))
 else (
 some (a0.1 == 8))) : Option Bool).bind fun o6 =>
 bif o6 then (
 some (a1 == 2))
 else (
 some false)))))
def impl_ActFits_h : Hints := (.node none none .none (.node none none .none (.node none none (.node none none .none (.node none none (.node none none (.node none none .none (.node (some ⟨[.tmp 10 .bool], [none], none, []⟩) none .none .none)) (.node none none .none (.node none none (.node none none .none (.node (some ⟨[.tmp 13 .bool], [none], none, []⟩) none .none .none)) (.node none none .none (.node none none (.node none none .none (.node (some ⟨[.tmp 18 .bool], [none], none, []⟩) none .none (.node none none .none (.node (some ⟨[.tmp 18 .bool], [none], none, []⟩) none .none .none)))) (.node none none .none (.node none none (.node none none .none (.node (some ⟨[.tmp 24 .bool], [none], none, []⟩) none .none .none)) .none))))))) .none)) .none)))
def impl_ActFits_c : Ct := .pure true false (.pair T_Act (.pair (.int .i64) .unit)) .bool (fun x => impl_ActFits x.1 x.2.1)
theorem impl_ActFits_ct : CtOk Tryz.prog 296 impl_ActFits_c := pure_ct (E := { T := tab, G := [(347, impl_isKind_c)] }) (EnvOk.cons impl_isKind_ct (EnvOk.nil tabOk)) mixed (fn := Tryz.f296) _ _ _ _ _ impl_ActFits_h Tryz.func296 (by kernel_rfl) (fun x => by kernel_rfl)
/-! loop.example/g00486/impl.EffectOk -/
def impl_EffectOk (a0 : T_Effect.D) : Option Bool :=
((bif (a0.2.2.2.2.2.2.1.1 == 2) then (
 some 0)
 else (
 some (-1))) : Option Int).bind fun o1 =>
(impl_isId a0.1).bind fun y2 =>
 bif y2 then (
(impl_isPlayer a0.2.1).bind fun y3 =>
 bif y3 then (
(impl_from a0.2.2.1 0 99).bind fun y4 =>
 bif y4 then (
(impl_from a0.2.2.2.1 0 4).bind fun y5 =>
 bif y5 then (
 bif (a0.2.2.2.1 != 0) then (
(impl_PatOk a0.2.2.2.2.1).bind fun y6 =>
 bif y6 then (
(impl_GuardOk a0.2.2.2.2.2.1).bind fun y7 =>
 bif y7 then (
(impl_ActOk a0.2.2.2.2.2.2.1).bind fun y8 =>
 bif y8 then (
(impl_ActFits a0.2.2.2.2.2.2.1 a0.2.2.2.2.1.1).bind fun y9 =>
 bif y9 then (
(impl_from a0.2.2.2.2.2.2.2.1 (-1) 9999).bind fun y10 =>
 bif y10 then (
(impl_from a0.2.2.2.2.2.2.2.2.1 o1 2147483647).bind fun y11 =>
 some y11)
 else (
 some false))
 else (
 some false))
 else (
 some false))
 else (
 some false))
 else (
 some false))
 else (
 bif (a0.2.2.1 != 0) then (
(impl_PatOk a0.2.2.2.2.1).bind fun y12 =>
 bif y12 then (
(impl_GuardOk a0.2.2.2.2.2.1).bind fun y13 =>
 bif y13 then (
(impl_ActOk a0.2.2.2.2.2.2.1).bind fun y14 =>
 bif y14 then (
(impl_ActFits a0.2.2.2.2.2.2.1 a0.2.2.2.2.1.1).bind fun y15 =>
 bif y15 then (
(impl_from a0.2.2.2.2.2.2.2.1 (-1) 9999).bind fun y16 =>
 bif y16 then (
(impl_from a0.2.2.2.2.2.2.2.2.1 o1 2147483647).bind fun y17 =>
 some y17)
 else (
 some false))
 else (
 some false))
 else (
 some false))
 else (
 some false))
 else (
 some false))
 else (
 some false)))
 else (
 some false))
 else (
 some false))
 else (
 some false))
 else (
 some false)
def impl_EffectOk_h : Hints := (.node none none .none (.node none none .none (.node none none (.node none none .none (.node (some ⟨[.tmp 3 (.int .i64)], [none], none, []⟩) none .none .none)) .none)))
def impl_EffectOk_c : Ct := .pure true false (.pair T_Effect .unit) .bool (fun x => impl_EffectOk x.1)
theorem impl_EffectOk_ct : CtOk Tryz.prog 194 impl_EffectOk_c := pure_ct (E := { T := tab, G := [(186, impl_from_c), (236, impl_isId_c), (237, impl_isPlayer_c), (293, impl_PatOk_c), (294, impl_GuardOk_c), (295, impl_ActOk_c), (296, impl_ActFits_c)] }) (EnvOk.cons impl_from_ct (EnvOk.cons impl_isId_ct (EnvOk.cons impl_isPlayer_ct (EnvOk.cons impl_PatOk_ct (EnvOk.cons impl_GuardOk_ct (EnvOk.cons impl_ActOk_ct (EnvOk.cons impl_ActFits_ct (EnvOk.nil tabOk)))))))) mixed (fn := Tryz.f194) _ _ _ _ _ impl_EffectOk_h Tryz.func194 (by kernel_rfl) (fun x => by kernel_rfl)
/-! loop.example/g00486/impl.TableOk -/
def impl_TableOk_l1 (a0 : (List T_Effect.D)) : Int → Option (Int ⊕ (Int ⊕ Bool)) := fun s1 =>
 bif decide (s1 < (a0.length : Int)) then (
 idx a0 s1 fun x2 =>
(((impl_EffectOk x2).bind fun y3 =>
 bif (!y3) then (
 some true)
 else (
 bif decide (s1 > 0) then (
 idx a0 (IntKind.wrap .i64 (s1 - 1)) fun x4 =>
 some (decide (x4.1 ≥ x2.1)))
 else (
 some false))) : Option Bool).bind fun o5 =>
 bif o5 then (
 some (.inr (.inr false)))
 else (
 some (.inl (IntKind.wrap .i64 (s1 + 1)))))
 else (
 some (.inr (.inl s1)))
def impl_TableOk (a0 : (List T_Effect.D)) : Option Bool :=
(while_ (impl_TableOk_l1 a0) 0).bind fun o6 =>
 match o6 with
| .inl s7 => (
 some (decide ((a0.length : Int) ≤ 5)))
| .inr o8 => (
 some o8)
def impl_TableOk_h : Hints := (.node none none .none (.node none none (.node none none .none (.node none none (.node none (some ⟨[.tmp 7 (.int .i64)], [some 0], some [.tmp 2 .bool], []⟩) (.node none none .none (.node none none .none (.node none none (.node none none (.node none none .none (.node none none (.node (some ⟨[.tmp 29 .bool], [none], none, []⟩) none .none .none) .none)) .none) .none))) .none) .none)) .none))
def impl_TableOk_c : Ct := .pure true false (.pair (.slice T_Effect) .unit) .bool (fun x => impl_TableOk x.1)
theorem impl_TableOk_ct : CtOk Tryz.prog 82 impl_TableOk_c := pure_ct (E := { T := tab, G := [(194, impl_EffectOk_c)] }) (EnvOk.cons impl_EffectOk_ct (EnvOk.nil tabOk)) mixed (fn := Tryz.f82) _ _ _ _ _ impl_TableOk_h Tryz.func82 (by kernel_rfl) (fun x => by kernel_rfl)
/-! slices.Index[[]int,int] -/
def slices_Index_int_l1 (a0 : (List Int)) (a1 : Int) : Int → Option (Int ⊕ (Int ⊕ Int)) := fun s1 =>
 bif decide (s1 < (a0.length : Int)) then (
 idx a0 s1 fun x2 =>
 bif (a1 == x2) then (
 some (.inr (.inr s1)))
 else (
 some (.inl (IntKind.wrap .i64 (s1 + 1)))))
 else (
 some (.inr (.inl s1)))
def slices_Index_int (a0 : (List Int)) (a1 : Int) : Option Int :=
(while_ (slices_Index_int_l1 a0 a1) 0).bind fun o3 =>
 match o3 with
| .inl s4 => (
 some (-1))
| .inr o5 => (
 some o5)
def slices_Index_int_h : Hints := (.node none none .none (.node none none (.node none none .none (.node none none (.node none (some ⟨[.tmp 8 (.int .i64)], [some 0], some [.tmp 4 (.int .i64)], []⟩) .none .none) .none)) .none))
def slices_Index_int_c : Ct := .pure true false (.pair (.slice (.int .i64)) (.pair (.int .i64) .unit)) (.int .i64) (fun x => slices_Index_int x.1 x.2.1)
theorem slices_Index_int_ct : CtOk Tryz.prog 392 slices_Index_int_c := pure_ct (E := { T := tab, G := [] }) (EnvOk.nil tabOk) mixed (fn := Tryz.f392) _ _ _ _ _ slices_Index_int_h Tryz.func392 (by kernel_rfl) (fun x => by kernel_rfl)
/-! slices.Contains[[]int,int] -/
def slices_Contains_int (a0 : (List Int)) (a1 : Int) : Option Bool :=
(slices_Index_int a0 a1).bind fun y1 =>
 some (decide (y1 ≥ 0))
def slices_Contains_int_c : Ct := .pure true false (.pair (.slice (.int .i64)) (.pair (.int .i64) .unit)) .bool (fun x => slices_Contains_int x.1 x.2.1)
theorem slices_Contains_int_ct : CtOk Tryz.prog 370 slices_Contains_int_c := pure_ct (E := { T := tab, G := [(392, slices_Index_int_c)] }) (EnvOk.cons slices_Index_int_ct (EnvOk.nil tabOk)) mixed (fn := Tryz.f370) _ _ _ _ _ .none Tryz.func370 (by kernel_rfl) (fun x => by kernel_rfl)
/-! loop.example/g00486/impl.Has -/
def impl_Has (a0 : (List Int)) (a1 : Int) : Option Bool :=
(slices_Contains_int a0 a1).bind fun y1 =>
 some y1
def impl_Has_c : Ct := .pure true false (.pair (.slice (.int .i64)) (.pair (.int .i64) .unit)) .bool (fun x => impl_Has x.1 x.2.1)
theorem impl_Has_ct : CtOk Tryz.prog 341 impl_Has_c := pure_ct (E := { T := tab, G := [(370, slices_Contains_int_c)] }) (EnvOk.cons slices_Contains_int_ct (EnvOk.nil tabOk)) mixed (fn := Tryz.f341) _ _ _ _ _ .none Tryz.func341 (by kernel_rfl) (fun x => by kernel_rfl)
/-! loop.example/g00486/impl.Lives -/
def impl_Lives (a0 : T_Effect.D) (a1 : Int) : Option Bool :=
 bif (a0.2.2.2.2.2.2.2.2.1 != 0) then (
 bif (a0.2.2.2.2.2.2.2.1 == (-1)) then (
 some true)
 else (
 some (decide (a0.2.2.2.2.2.2.2.1 ≥ a1))))
 else (
 some false)
def impl_Lives_c : Ct := .pure true false (.pair T_Effect (.pair (.int .i64) .unit)) .bool (fun x => impl_Lives x.1 x.2.1)
theorem impl_Lives_ct : CtOk Tryz.prog 221 impl_Lives_c := pure_ct (E := { T := tab, G := [] }) (EnvOk.nil tabOk) mixed (fn := Tryz.f221) _ _ _ _ _ .none Tryz.func221 (by kernel_rfl) (fun x => by kernel_rfl)
/-! loop.example/g00486/impl.Near -/
def impl_Near (a0 : T_Effect.D) (a1 : T_Event.D) : Option Bool :=
 bif (a0.2.2.2.1 != 0) then (
 some true)
 else (
 bif (a0.2.2.1 == a1.2.1) then (
 some true)
 else (
 some (a0.2.2.1 == a1.2.2.1)))
def impl_Near_c : Ct := .pure true false (.pair T_Effect (.pair T_Event .unit)) .bool (fun x => impl_Near x.1 x.2.1)
theorem impl_Near_ct : CtOk Tryz.prog 371 impl_Near_c := pure_ct (E := { T := tab, G := [] }) (EnvOk.nil tabOk) mixed (fn := Tryz.f371) _ _ _ _ _ .none Tryz.func371 (by kernel_rfl) (fun x => by kernel_rfl)
/-! loop.example/g00486/impl.OnField -/
def impl_OnField_l1 (a0 : T_State.D) (a1 : Int) : ((List Int) × Int) → Option (((List Int) × Int) ⊕ ((List Int) × Int)) := fun s1 =>
 bif decide (s1.2 < (a0.1.length : Int)) then (
 idx a0.1 s1.2 fun x2 =>
((bif (x2.2.2.2.1 == 2) then (
 bif (a1 == (-1)) then (
 some true)
 else (
 some (x2.2.2.1 == a1)))
 else (
 some false)) : Option Bool).bind fun o3 =>
 bif o3 then (
 if (s1.1.length + [x2.1].length) * (24 * 1) ≤ room then (
 some (.inl ((s1.1 ++ [x2.1]), IntKind.wrap .i64 (s1.2 + 1)))) else none)
 else (
 some (.inl (s1.1, IntKind.wrap .i64 (s1.2 + 1)))))
 else (
 some (.inr s1))
def impl_OnField (a0 : T_State.D) (a1 : Int) : Option (List Int) :=
(while_ (impl_OnField_l1 a0 a1) ([], 0)).bind fun o4 =>
 some o4.1
def impl_OnField_h : Hints := (.node none none .none (.node none none .none (.node none none (.node none none .none (.node none none (.node none (some ⟨[.tmpO 5 0 (.slice (.int .i64)), .tmp 12 (.int .i64)], [some 0], none, []⟩) (.node none none .none (.node none none .none (.node none none (.node none none (.node none none .none (.node none none (.node (some ⟨[.tmp 28 .bool], [none], none, []⟩) none .none .none) .none)) .none) .none))) .none) .none)) .none)))
def impl_OnField_c : Ct := .pure true false (.pair T_State (.pair (.int .i64) .unit)) (.slice (.int .i64)) (fun x => impl_OnField x.1 x.2.1)
theorem impl_OnField_ct : CtOk Tryz.prog 393 impl_OnField_c := pure_ct (E := { T := tab, G := [] }) (EnvOk.nil tabOk) mixed (fn := Tryz.f393) _ _ _ _ _ impl_OnField_h Tryz.func393 (by kernel_rfl) (fun x => by kernel_rfl)
def impl_OnField_fresh_c : Ct := .pure true true (.pair T_State (.pair (.int .i64) .unit)) (.slice (.int .i64)) (fun x => impl_OnField x.1 x.2.1)
theorem impl_OnField_fresh_ct : CtOk Tryz.prog 393 impl_OnField_fresh_c := pure_ct (E := { T := tab, G := [] }) (EnvOk.nil tabOk) mixed (fn := Tryz.f393) _ _ _ _ _ impl_OnField_h Tryz.func393 (by kernel_rfl) (fun x => by kernel_rfl)
/-! loop.example/g00486/impl.BentOf -/
def impl_BentOf_l1 (a0 : T_State.D) (a1 : Int) : (Int × Int) → Option ((Int × Int) ⊕ (Int × Int)) := fun s1 =>
 bif decide (s1.2 < (a0.1.length : Int)) then (
 idx a0.1 s1.2 fun x2 =>
((bif (x2.2.2.2.1 == 2) then (
 bif (x2.2.2.1 == a1) then (
 some x2.2.2.2.2.2.2.2.2.2.2.2.2.1)
 else (
 some false))
 else (
 some false)) : Option Bool).bind fun o3 =>
 bif o3 then (
 some (.inl (IntKind.wrap .i64 (s1.1 + 1), IntKind.wrap .i64 (s1.2 + 1))))
 else (
 some (.inl (s1.1, IntKind.wrap .i64 (s1.2 + 1)))))
 else (
 some (.inr s1))
def impl_BentOf (a0 : T_State.D) (a1 : Int) : Option Int :=
(while_ (impl_BentOf_l1 a0 a1) (0, 0)).bind fun o4 =>
 some o4.1
def impl_BentOf_h : Hints := (.node none none .none (.node none none .none (.node none none (.node none none .none (.node none none (.node none (some ⟨[.tmp 5 (.int .i64), .tmp 11 (.int .i64)], [some 0], none, []⟩) (.node none none .none (.node none none .none (.node none none (.node none none (.node none none .none (.node none none (.node (some ⟨[.tmp 27 .bool], [none], none, []⟩) none .none .none) .none)) .none) .none))) .none) .none)) .none)))
def impl_BentOf_c : Ct := .pure true false (.pair T_State (.pair (.int .i64) .unit)) (.int .i64) (fun x => impl_BentOf x.1 x.2.1)
theorem impl_BentOf_ct : CtOk Tryz.prog 394 impl_BentOf_c := pure_ct (E := { T := tab, G := [] }) (EnvOk.nil tabOk) mixed (fn := Tryz.f394) _ _ _ _ _ impl_BentOf_h Tryz.func394 (by kernel_rfl) (fun x => by kernel_rfl)
/-! loop.example/g00486/impl.Holds -/
def impl_Holds (a0 : T_State.D) (a1 : Int) (a2 : T_Guard.D) : Option Bool :=
(((impl_GuardOk a2).bind fun y1 =>
 bif (!y1) then (
 some true)
 else (
(impl_isSide a0 a1).bind fun y2 =>
 some (!y2))) : Option Bool).bind fun o3 =>
 bif o3 then (
 some false)
 else (
 bif (a2.1 == 1) then (
 idx a0.2.1 a1 fun x4 =>
 some (decide (x4.1 ≤ a2.2.1)))
 else (
 bif (a2.1 == 2) then (
(impl_OnField a0 a1).bind fun y5 =>
 some (decide ((y5.length : Int) ≥ a2.2.1)))
 else (
 bif (a2.1 == 3) then (
 some (a0.2.2.1 == a1))
 else (
 bif (a2.1 == 4) then (
(impl_BentOf a0 a1).bind fun y6 =>
 some (decide (y6 ≥ a2.2.1)))
 else (
 some true)))))
def impl_Holds_h : Hints := (.node none none .none (.node none none (.node none none (.node (some ⟨[.tmp 15 .bool], [none], none, []⟩) none .none .none) .none) .none))
def impl_Holds_c : Ct := .pure true false (.pair T_State (.pair (.int .i64) (.pair T_Guard .unit))) .bool (fun x => impl_Holds x.1 x.2.1 x.2.2.1)
theorem impl_Holds_ct : CtOk Tryz.prog 372 impl_Holds_c := pure_ct (E := { T := tab, G := [(187, impl_isSide_c), (294, impl_GuardOk_c), (393, impl_OnField_fresh_c), (394, impl_BentOf_c)] }) (EnvOk.cons impl_isSide_ct (EnvOk.cons impl_GuardOk_ct (EnvOk.cons impl_OnField_fresh_ct (EnvOk.cons impl_BentOf_ct (EnvOk.nil tabOk))))) mixed (fn := Tryz.f372) _ _ _ _ _ impl_Holds_h Tryz.func372 (by kernel_rfl) (fun x => by kernel_rfl)
/-! slices.IndexFunc[[]loop.example/g00486/impl.Piece,loop.example/g00486/impl.Piece] -/
def slices_IndexFunc_impl_Piece_l1 (a0 : (List T_Piece.D)) (a1 : ((T_Piece.D × Unit) → Option Bool)) : Int → Option (Int ⊕ (Int ⊕ Int)) := fun s1 =>
 bif decide (s1 < (a0.length : Int)) then (
 idx a0 s1 fun x2 =>
(a1 (x2, ())).bind fun y3 =>
 bif y3 then (
 some (.inr (.inr s1)))
 else (
 some (.inl (IntKind.wrap .i64 (s1 + 1)))))
 else (
 some (.inr (.inl s1)))
def slices_IndexFunc_impl_Piece (a0 : (List T_Piece.D)) (a1 : ((T_Piece.D × Unit) → Option Bool)) : Option Int :=
(while_ (slices_IndexFunc_impl_Piece_l1 a0 a1) 0).bind fun o4 =>
 match o4 with
| .inl s5 => (
 some (-1))
| .inr o6 => (
 some o6)
def slices_IndexFunc_impl_Piece_h : Hints := (.node none none .none (.node none none (.node none none .none (.node none none (.node none (some ⟨[.tmp 8 (.int .i64)], [some 0], some [.tmp 4 (.int .i64)], []⟩) .none .none) .none)) .none))
def slices_IndexFunc_impl_Piece_c : Ct := .pure true false (.pair (.slice T_Piece) (.pair (.fn (.pair T_Piece .unit) .bool) .unit)) (.int .i64) (fun x => slices_IndexFunc_impl_Piece x.1 x.2.1)
theorem slices_IndexFunc_impl_Piece_ct : CtOk Tryz.prog 381 slices_IndexFunc_impl_Piece_c := pure_ct (E := { T := tab, G := [] }) (EnvOk.nil tabOk) mixed (fn := Tryz.f381) _ _ _ _ _ slices_IndexFunc_impl_Piece_h Tryz.func381 (by kernel_rfl) (fun x => by kernel_rfl)
/-! loop.example/g00486/impl.PieceAt$1 -/
def impl_PieceAt_1 (z0 : Int) (a0 : T_Piece.D) : Option Bool :=
 some (a0.1 == z0)
def impl_PieceAt_1_c : Ct := .clo (.pair T_Piece .unit) (.pair (.int .i64) .unit) .bool (fun z x => impl_PieceAt_1 z.1 x.1)
theorem impl_PieceAt_1_ct : CtOk Tryz.prog 382 impl_PieceAt_1_c := clo_ct (E := { T := tab, G := [] }) (EnvOk.nil tabOk) mixed (fn := Tryz.f382) _ _ _ _ .none Tryz.func382 (by kernel_rfl) (fun z x => by kernel_rfl)
/-! loop.example/g00486/impl.PieceAt -/
def impl_PieceAt (a0 : T_State.D) (a1 : Int) : Option Int :=
(slices_IndexFunc_impl_Piece a0.1 (fun q => impl_PieceAt_1 a1 q.1)).bind fun y1 =>
 some y1
def impl_PieceAt_c : Ct := .pure true false (.pair T_State (.pair (.int .i64) .unit)) (.int .i64) (fun x => impl_PieceAt x.1 x.2.1)
theorem impl_PieceAt_ct : CtOk Tryz.prog 353 impl_PieceAt_c := pure_ct (E := { T := tab, G := [(381, slices_IndexFunc_impl_Piece_c), (382, impl_PieceAt_1_c)] }) (EnvOk.cons slices_IndexFunc_impl_Piece_ct (EnvOk.cons impl_PieceAt_1_ct (EnvOk.nil tabOk))) mixed (fn := Tryz.f353) _ _ _ _ _ .none Tryz.func353 (by kernel_rfl) (fun x => by kernel_rfl)
/-! loop.example/g00486/impl.Target -/
def impl_Target (a0 : T_State.D) (a1 : T_Event.D) : Option Int :=
 bif (a1.2.2.1 == 0) then (
(impl_isSide a0 a1.2.2.2.1).bind fun y1 =>
 bif y1 then (
 some a1.2.2.2.1)
 else (
 some (-1)))
 else (
(impl_PieceAt a0 a1.2.2.1).bind fun y2 =>
 bif decide (y2 < 0) then (
 some (-1))
 else (
 idx a0.1 y2 fun x3 =>
 some x3.2.2.1))
def impl_Target_c : Ct := .pure true false (.pair T_State (.pair T_Event .unit)) (.int .i64) (fun x => impl_Target x.1 x.2.1)
theorem impl_Target_ct : CtOk Tryz.prog 346 impl_Target_c := pure_ct (E := { T := tab, G := [(187, impl_isSide_c), (353, impl_PieceAt_c)] }) (EnvOk.cons impl_isSide_ct (EnvOk.cons impl_PieceAt_ct (EnvOk.nil tabOk))) mixed (fn := Tryz.f346) _ _ _ _ _ .none Tryz.func346 (by kernel_rfl) (fun x => by kernel_rfl)
/-! loop.example/g00486/impl.TargetFits -/
def impl_TargetFits (a0 : T_State.D) (a1 : Int) (a2 : T_Pat.D) (a3 : T_Event.D) : Option Bool :=
(impl_Target a0 a3).bind fun y1 =>
((bif (y1 == (-1)) then (
 some true)
 else (
 bif (a2.2.1 == 1) then (
 bif (y1 != a1) then (
 some true)
 else (
 bif (a2.2.1 == 2) then (
 some (y1 == a1))
 else (
 some false)))
 else (
 bif (a2.2.1 == 2) then (
 some (y1 == a1))
 else (
 some false)))) : Option Bool).bind fun o2 =>
 bif o2 then (
 some false)
 else (
 bif (a2.2.2.2.2.1 == 0) then (
 some true)
 else (
 some (a2.2.2.2.2.1 == a3.2.2.1)))
def impl_TargetFits_h : Hints := (.node none none .none (.node none none .none (.node none none (.node none none (.node (some ⟨[.tmp 34 .bool], [none], none, []⟩) none .none .none) .none) .none)))
def impl_TargetFits_c : Ct := .pure true false (.pair T_State (.pair (.int .i64) (.pair T_Pat (.pair T_Event .unit)))) .bool (fun x => impl_TargetFits x.1 x.2.1 x.2.2.1 x.2.2.2.1)
theorem impl_TargetFits_ct : CtOk Tryz.prog 395 impl_TargetFits_c := pure_ct (E := { T := tab, G := [(346, impl_Target_c)] }) (EnvOk.cons impl_Target_ct (EnvOk.nil tabOk)) mixed (fn := Tryz.f395) _ _ _ _ _ impl_TargetFits_h Tryz.func395 (by kernel_rfl) (fun x => by kernel_rfl)
/-! loop.example/g00486/impl.Source -/
def impl_Source (a0 : T_State.D) (a1 : T_Event.D) : Option T_Piece.D :=
(impl_PieceAt a0 a1.2.1).bind fun y1 =>
((bif (a1.1 != 1) then (
 some true)
 else (
 some (decide (y1 < 0)))) : Option Bool).bind fun o2 =>
 bif o2 then (
 some (0, 0, 0, 0, 0, 0, 0, 0, 0, 0, 0, false, false, ()))
 else (
 idx a0.1 y1 fun x3 =>
 some x3)
def impl_Source_h : Hints := (.node none none .none (.node none none .none (.node none none (.node none none (.node (some ⟨[.tmp 16 .bool], [none], none, []⟩) none .none .none) .none) .none)))
def impl_Source_c : Ct := .pure true false (.pair T_State (.pair T_Event .unit)) T_Piece (fun x => impl_Source x.1 x.2.1)
theorem impl_Source_ct : CtOk Tryz.prog 313 impl_Source_c := pure_ct (E := { T := tab, G := [(353, impl_PieceAt_c)] }) (EnvOk.cons impl_PieceAt_ct (EnvOk.nil tabOk)) mixed (fn := Tryz.f313) _ _ _ _ _ impl_Source_h Tryz.func313 (by kernel_rfl) (fun x => by kernel_rfl)
/-! loop.example/g00486/impl.SourceFits -/
def impl_SourceFits (a0 : T_State.D) (a1 : T_Pat.D) (a2 : T_Event.D) : Option Bool :=
 bif (a1.2.2.1 == 0) then (
(impl_Source a0 a2).bind fun y1 =>
 let k2 : Int := IntKind.wrap .i64 (BitVec.ofInt (IntKind.bits .i64) y1.2.2.2.2.2.2.2.1 &&& BitVec.ofInt (IntKind.bits .i64) a1.2.2.2.1).toNat
 some (k2 == a1.2.2.2.1))
 else (
 bif (a1.2.2.1 == a2.2.1) then (
(impl_Source a0 a2).bind fun y3 =>
 let k4 : Int := IntKind.wrap .i64 (BitVec.ofInt (IntKind.bits .i64) y3.2.2.2.2.2.2.2.1 &&& BitVec.ofInt (IntKind.bits .i64) a1.2.2.2.1).toNat
 some (k4 == a1.2.2.2.1))
 else (
 some false))
def impl_SourceFits_c : Ct := .pure true false (.pair T_State (.pair T_Pat (.pair T_Event .unit))) .bool (fun x => impl_SourceFits x.1 x.2.1 x.2.2.1)
theorem impl_SourceFits_ct : CtOk Tryz.prog 396 impl_SourceFits_c := pure_ct (E := { T := tab, G := [(313, impl_Source_c)] }) (EnvOk.cons impl_Source_ct (EnvOk.nil tabOk)) mixed (fn := Tryz.f396) _ _ _ _ _ .none Tryz.func396 (by kernel_rfl) (fun x => by kernel_rfl)
/-! loop.example/g00486/impl.PatFits -/
def impl_PatFits (a0 : T_State.D) (a1 : Int) (a2 : T_Pat.D) (a3 : T_Event.D) : Option Bool :=
(impl_PatOk a2).bind fun y1 =>
 bif y1 then (
(impl_EventOk a3).bind fun y2 =>
 bif y2 then (
 bif (a2.1 == a3.1) then (
(impl_TargetFits a0 a1 a2 a3).bind fun y3 =>
 bif y3 then (
(impl_SourceFits a0 a2 a3).bind fun y4 =>
 bif y4 then (
 bif decide (a3.2.2.2.2.1 ≥ a2.2.2.2.2.2.1) then (
 bif (a2.2.2.2.2.2.2.1 == 0) then (
 some true)
 else (
 some (a2.2.2.2.2.2.2.1 == a3.2.2.2.2.2.1)))
 else (
 some false))
 else (
 some false))
 else (
 some false))
 else (
 some false))
 else (
 some false))
 else (
 some false)
def impl_PatFits_c : Ct := .pure true false (.pair T_State (.pair (.int .i64) (.pair T_Pat (.pair T_Event .unit)))) .bool (fun x => impl_PatFits x.1 x.2.1 x.2.2.1 x.2.2.2.1)
theorem impl_PatFits_ct : CtOk Tryz.prog 373 impl_PatFits_c := pure_ct (E := { T := tab, G := [(162, impl_EventOk_c), (293, impl_PatOk_c), (395, impl_TargetFits_c), (396, impl_SourceFits_c)] }) (EnvOk.cons impl_EventOk_ct (EnvOk.cons impl_PatOk_ct (EnvOk.cons impl_TargetFits_ct (EnvOk.cons impl_SourceFits_ct (EnvOk.nil tabOk))))) mixed (fn := Tryz.f373) _ _ _ _ _ .none Tryz.func373 (by kernel_rfl) (fun x => by kernel_rfl)
/-! loop.example/g00486/impl.Fits -/
def impl_Fits (a0 : T_State.D) (a1 : T_Effect.D) (a2 : T_Event.D) : Option Bool :=
(impl_EffectOk a1).bind fun y1 =>
 bif y1 then (
(impl_Lives a1 a0.2.2.2.1).bind fun y2 =>
 bif y2 then (
(impl_Near a1 a2).bind fun y3 =>
 bif y3 then (
(impl_Holds a0 a1.2.1 a1.2.2.2.2.2.1).bind fun y4 =>
 bif y4 then (
(impl_PatFits a0 a1.2.1 a1.2.2.2.2.1 a2).bind fun y5 =>
 some y5)
 else (
 some false))
 else (
 some false))
 else (
 some false))
 else (
 some false)
def impl_Fits_c : Ct := .pure true false (.pair T_State (.pair T_Effect (.pair T_Event .unit))) .bool (fun x => impl_Fits x.1 x.2.1 x.2.2.1)
theorem impl_Fits_ct : CtOk Tryz.prog 342 impl_Fits_c := pure_ct (E := { T := tab, G := [(194, impl_EffectOk_c), (221, impl_Lives_c), (371, impl_Near_c), (372, impl_Holds_c), (373, impl_PatFits_c)] }) (EnvOk.cons impl_EffectOk_ct (EnvOk.cons impl_Lives_ct (EnvOk.cons impl_Near_ct (EnvOk.cons impl_Holds_ct (EnvOk.cons impl_PatFits_ct (EnvOk.nil tabOk)))))) mixed (fn := Tryz.f342) _ _ _ _ _ .none Tryz.func342 (by kernel_rfl) (fun x => by kernel_rfl)
/-! loop.example/g00486/impl.Options -/
def impl_Options_l1 (a0 : T_State.D) (a1 : (List T_Effect.D)) (a2 : T_Event.D) (a3 : (List Int)) : ((List Int) × (Int × Int)) → Option (((List Int) × (Int × Int)) ⊕ ((List Int) × (Int × Int))) := fun s1 =>
 bif decide (s1.2.2 < (a1.length : Int)) then (
 idx a1 s1.2.2 fun x2 =>
(((impl_Has a3 x2.1).bind fun y3 =>
 bif y3 then (
 some true)
 else (
(impl_Fits a0 x2 a2).bind fun y4 =>
 some (!y4))) : Option Bool).bind fun o5 =>
 bif o5 then (
 some (.inl (s1.1, s1.2.1, IntKind.wrap .i64 (s1.2.2 + 1))))
 else (
((bif ((s1.1.length : Int) == 0) then (
 some true)
 else (
 some (decide (x2.2.2.2.1 < s1.2.1)))) : Option Bool).bind fun o6 =>
((bif o6 then (
 if 0 ≤ (0 : Int) then (if (0 : Int) ≤ (0 : Int) then (if (0 : Int) ≤ (s1.1.length : Int) then (
 some ((s1.1.take ((0 : Int).toNat)), x2.2.2.2.1)) else none) else none) else none)
 else (
 some (s1.1, s1.2.1))) : Option ((List Int) × Int)).bind fun o7 =>
 bif (x2.2.2.2.1 == o7.2) then (
 if (o7.1.length + [x2.1].length) * (24 * 1) ≤ room then (
 some (.inl ((o7.1 ++ [x2.1]), o7.2, IntKind.wrap .i64 (s1.2.2 + 1)))) else none)
 else (
 some (.inl (o7.1, o7.2, IntKind.wrap .i64 (s1.2.2 + 1))))))
 else (
 some (.inr s1))
def impl_Options (a0 : T_State.D) (a1 : (List T_Effect.D)) (a2 : T_Event.D) (a3 : (List Int)) : Option (List Int) :=
(while_ (impl_Options_l1 a0 a1 a2 a3) ([], 0, 0)).bind fun o8 =>
 some o8.1
def impl_Options_h : Hints := (.node none none .none (.node none none .none (.node none none .none (.node none none (.node none none .none (.node none none (.node none (some ⟨[.tmpO 9 0 (.slice (.int .i64)), .tmp 10 (.int .i64), .tmp 16 (.int .i64)], [some 0], none, []⟩) (.node none none .none (.node none none .none (.node none none (.node none none (.node none none .none (.node none none (.node none none (.node (some ⟨[.tmp 30 .bool], [none], none, []⟩) none .none .none) .none) (.node none none (.node none none (.node (some ⟨[.tmp 39 .bool], [none], none, []⟩) none .none .none) (.node (some ⟨[.tmpO 9 1 (.slice (.int .i64)), .tmp 10 (.int .i64)], [none], none, [(9, 0)]⟩) none .none .none)) .none))) .none) .none))) .none) .none)) .none))))
def impl_Options_c : Ct := .pure true false (.pair T_State (.pair (.slice T_Effect) (.pair T_Event (.pair (.slice (.int .i64)) .unit)))) (.slice (.int .i64)) (fun x => impl_Options x.1 x.2.1 x.2.2.1 x.2.2.2.1)
theorem impl_Options_ct : CtOk Tryz.prog 277 impl_Options_c := pure_ct (E := { T := tab, G := [(341, impl_Has_c), (342, impl_Fits_c)] }) (EnvOk.cons impl_Has_ct (EnvOk.cons impl_Fits_ct (EnvOk.nil tabOk))) mixed (fn := Tryz.f277) _ _ _ _ _ impl_Options_h Tryz.func277 (by kernel_rfl) (fun x => by kernel_rfl)
def impl_Options_fresh_c : Ct := .pure true true (.pair T_State (.pair (.slice T_Effect) (.pair T_Event (.pair (.slice (.int .i64)) .unit)))) (.slice (.int .i64)) (fun x => impl_Options x.1 x.2.1 x.2.2.1 x.2.2.2.1)
theorem impl_Options_fresh_ct : CtOk Tryz.prog 277 impl_Options_fresh_c := pure_ct (E := { T := tab, G := [(341, impl_Has_c), (342, impl_Fits_c)] }) (EnvOk.cons impl_Has_ct (EnvOk.cons impl_Fits_ct (EnvOk.nil tabOk))) mixed (fn := Tryz.f277) _ _ _ _ _ impl_Options_h Tryz.func277 (by kernel_rfl) (fun x => by kernel_rfl)
/-! loop.example/g00486/impl.Gone -/
def impl_Gone (a0 : T_Event.D) : Option Bool :=
 bif (a0.2.2.2.2.1 == 0) then (
 some (a0.1 != 2))
 else (
 some false)
def impl_Gone_c : Ct := .pure true false (.pair T_Event .unit) .bool (fun x => impl_Gone x.1)
theorem impl_Gone_ct : CtOk Tryz.prog 278 impl_Gone_c := pure_ct (E := { T := tab, G := [] }) (EnvOk.nil tabOk) mixed (fn := Tryz.f278) _ _ _ _ _ .none Tryz.func278 (by kernel_rfl) (fun x => by kernel_rfl)
/-! loop.example/g00486/impl.Pick -/
def impl_Pick (a0 : (List Int)) (a1 : Int) : Option (Int × ((List Int) × Unit)) :=
((bif decide (a1 < 2) then (
 some true)
 else (
 some ((a0.length : Int) == 0))) : Option Bool).bind fun o1 =>
 bif o1 then (
(slices_Clone_int a0).bind fun y2 =>
 some (0, y2, ()))
 else (
 idx a0 0 fun x3 =>
 if a1 = 0 then none else (
((bif decide ((x3.tmod a1) < 0) then (
 some (IntKind.wrap .i64 ((x3.tmod a1) + a1)))
 else (
 some (x3.tmod a1))) : Option Int).bind fun o4 =>
 if 0 ≤ (1 : Int) then (if (1 : Int) ≤ (a0.length : Int) then (if (a0.length : Int) ≤ (a0.length : Int) then (
(slices_Clone_int ((a0.take (a0.length : Int).toNat).drop (1 : Int).toNat)).bind fun y5 =>
 some (o4, y5, ())) else none) else none) else none))
def impl_Pick_h : Hints := (.node none none .none (.node none none (.node none none (.node (some ⟨[.tmp 13 .bool], [none], none, []⟩) none .none .none) .none) (.node none none .none (.node none none (.node none none .none (.node (some ⟨[.tmp 6 (.int .i64)], [none], none, []⟩) none .none .none)) .none))))
def impl_Pick_c : Ct := .pure false false (.pair (.slice (.int .i64)) (.pair (.int .i64) .unit)) (.pair (.int .i64) (.pair (.slice (.int .i64)) .unit)) (fun x => impl_Pick x.1 x.2.1)
theorem impl_Pick_ct : CtOk Tryz.prog 164 impl_Pick_c := pure_ct (E := { T := tab, G := [(153, slices_Clone_int_fresh_c)] }) (EnvOk.cons slices_Clone_int_fresh_ct (EnvOk.nil tabOk)) mixed (fn := Tryz.f164) _ _ _ _ _ impl_Pick_h Tryz.func164 (by kernel_rfl) (fun x => by kernel_rfl)
def impl_Pick_fresh_c : Ct := .pure false true (.pair (.slice (.int .i64)) (.pair (.int .i64) .unit)) (.pair (.int .i64) (.pair (.slice (.int .i64)) .unit)) (fun x => impl_Pick x.1 x.2.1)
theorem impl_Pick_fresh_ct : CtOk Tryz.prog 164 impl_Pick_fresh_c := pure_ct (E := { T := tab, G := [(153, slices_Clone_int_fresh_c)] }) (EnvOk.cons slices_Clone_int_fresh_ct (EnvOk.nil tabOk)) mixed (fn := Tryz.f164) _ _ _ _ _ impl_Pick_h Tryz.func164 (by kernel_rfl) (fun x => by kernel_rfl)
/-! loop.example/g00486/impl.Rewrite$1 -/
def impl_Rewrite_1 (x : T_Wr.D) (a0 : Int) : Option ((Int × (Bool × Unit)) × T_Wr.D) :=
(impl_Pick x.2.1.2.2.1 a0).bind fun y1 =>
 some ((y1.1, true, ()), (x.1, (x.2.1.1, x.2.1.2.1, y1.2.1, x.2.1.2.2.2), ()))
def impl_Rewrite_1_c : Ct := .run T_Wr [(163, true), (165, false)] true true false (.pair (.int .i64) .unit) (.pair (.int .i64) (.pair .bool .unit)) (fun x y => impl_Rewrite_1 x y.1)
theorem impl_Rewrite_1_ct : CtOk Tryz.prog 163 impl_Rewrite_1_c := run_ct (E := { T := tab, G := [(164, impl_Pick_fresh_c)] }) (EnvOk.cons impl_Pick_fresh_ct (EnvOk.nil tabOk)) mixed (fn := Tryz.f163) _ _ _ _ _ _ _ _ .none Tryz.func163 (by kernel_rfl) (fun x y => by kernel_rfl)
/-! slices.IndexFunc[[]loop.example/g00486/impl.Effect,loop.example/g00486/impl.Effect] -/
def slices_IndexFunc_impl_Effect_l1 (a0 : (List T_Effect.D)) (a1 : ((T_Effect.D × Unit) → Option Bool)) : Int → Option (Int ⊕ (Int ⊕ Int)) := fun s1 =>
 bif decide (s1 < (a0.length : Int)) then (
 idx a0 s1 fun x2 =>
(a1 (x2, ())).bind fun y3 =>
 bif y3 then (
 some (.inr (.inr s1)))
 else (
 some (.inl (IntKind.wrap .i64 (s1 + 1)))))
 else (
 some (.inr (.inl s1)))
def slices_IndexFunc_impl_Effect (a0 : (List T_Effect.D)) (a1 : ((T_Effect.D × Unit) → Option Bool)) : Option Int :=
(while_ (slices_IndexFunc_impl_Effect_l1 a0 a1) 0).bind fun o4 =>
 match o4 with
| .inl s5 => (
 some (-1))
| .inr o6 => (
 some o6)
def slices_IndexFunc_impl_Effect_h : Hints := (.node none none .none (.node none none (.node none none .none (.node none none (.node none (some ⟨[.tmp 8 (.int .i64)], [some 0], some [.tmp 4 (.int .i64)], []⟩) .none .none) .none)) .none))
def slices_IndexFunc_impl_Effect_c : Ct := .pure true false (.pair (.slice T_Effect) (.pair (.fn (.pair T_Effect .unit) .bool) .unit)) (.int .i64) (fun x => slices_IndexFunc_impl_Effect x.1 x.2.1)
theorem slices_IndexFunc_impl_Effect_ct : CtOk Tryz.prog 207 slices_IndexFunc_impl_Effect_c := pure_ct (E := { T := tab, G := [] }) (EnvOk.nil tabOk) mixed (fn := Tryz.f207) _ _ _ _ _ slices_IndexFunc_impl_Effect_h Tryz.func207 (by kernel_rfl) (fun x => by kernel_rfl)
/-! loop.example/g00486/impl.EffectAt$1 -/
def impl_EffectAt_1 (z0 : Int) (a0 : T_Effect.D) : Option Bool :=
 some (a0.1 == z0)
def impl_EffectAt_1_c : Ct := .clo (.pair T_Effect .unit) (.pair (.int .i64) .unit) .bool (fun z x => impl_EffectAt_1 z.1 x.1)
theorem impl_EffectAt_1_ct : CtOk Tryz.prog 304 impl_EffectAt_1_c := clo_ct (E := { T := tab, G := [] }) (EnvOk.nil tabOk) mixed (fn := Tryz.f304) _ _ _ _ .none Tryz.func304 (by kernel_rfl) (fun z x => by kernel_rfl)
/-! loop.example/g00486/impl.EffectAt -/
def impl_EffectAt (a0 : (List T_Effect.D)) (a1 : Int) : Option Int :=
(slices_IndexFunc_impl_Effect a0 (fun q => impl_EffectAt_1 a1 q.1)).bind fun y1 =>
 some y1
def impl_EffectAt_c : Ct := .pure true false (.pair (.slice T_Effect) (.pair (.int .i64) .unit)) (.int .i64) (fun x => impl_EffectAt x.1 x.2.1)
theorem impl_EffectAt_ct : CtOk Tryz.prog 211 impl_EffectAt_c := pure_ct (E := { T := tab, G := [(207, slices_IndexFunc_impl_Effect_c), (304, impl_EffectAt_1_c)] }) (EnvOk.cons slices_IndexFunc_impl_Effect_ct (EnvOk.cons impl_EffectAt_1_ct (EnvOk.nil tabOk))) mixed (fn := Tryz.f211) _ _ _ _ _ .none Tryz.func211 (by kernel_rfl) (fun x => by kernel_rfl)
/-! loop.example/g00486/impl.Upto -/
def impl_Upto (a0 : Int) (a1 : Int) : Option Int :=
 some (if (if a1 < a0 then a1 else a0) > 0 then (if a1 < a0 then a1 else a0) else 0)
def impl_Upto_c : Ct := .pure true false T_Guard (.int .i64) (fun x => impl_Upto x.1 x.2.1)
theorem impl_Upto_ct : CtOk Tryz.prog 374 impl_Upto_c := pure_ct (E := { T := tab, G := [] }) (EnvOk.nil tabOk) mixed (fn := Tryz.f374) _ _ _ _ _ .none Tryz.func374 (by kernel_rfl) (fun x => by kernel_rfl)
/-! loop.example/g00486/impl.WithN -/
def impl_WithN (a0 : T_Event.D) (a1 : Int) : Option T_Event.D :=
(impl_Upto a1 2147483647).bind fun y1 =>
 some (a0.1, a0.2.1, a0.2.2.1, a0.2.2.2.1, y1, a0.2.2.2.2.2)
def impl_WithN_c : Ct := .pure true false (.pair T_Event (.pair (.int .i64) .unit)) T_Event (fun x => impl_WithN x.1 x.2.1)
theorem impl_WithN_ct : CtOk Tryz.prog 375 impl_WithN_c := pure_ct (E := { T := tab, G := [(374, impl_Upto_c)] }) (EnvOk.cons impl_Upto_ct (EnvOk.nil tabOk)) mixed (fn := Tryz.f375) _ _ _ _ _ .none Tryz.func375 (by kernel_rfl) (fun x => by kernel_rfl)
/-! loop.example/g00486/impl.Plus -/
def impl_Plus (a0 : Int) (a1 : Int) : Option Int :=
(impl_Bound a0).bind fun y1 =>
(impl_Bound a1).bind fun y2 =>
(impl_Bound (IntKind.wrap .i64 (y1 + y2))).bind fun y3 =>
 some y3
def impl_Plus_c : Ct := .pure true false T_Guard (.int .i64) (fun x => impl_Plus x.1 x.2.1)
theorem impl_Plus_ct : CtOk Tryz.prog 364 impl_Plus_c := pure_ct (E := { T := tab, G := [(192, impl_Bound_c)] }) (EnvOk.cons impl_Bound_ct (EnvOk.nil tabOk)) mixed (fn := Tryz.f364) _ _ _ _ _ .none Tryz.func364 (by kernel_rfl) (fun x => by kernel_rfl)
/-! loop.example/g00486/impl.Twice -/
def impl_Twice (a0 : Int) : Option Int :=
(impl_Bound a0).bind fun y1 =>
(impl_Bound (IntKind.wrap .i64 (2 * y1))).bind fun y2 =>
 some y2
def impl_Twice_c : Ct := .pure true false (.pair (.int .i64) .unit) (.int .i64) (fun x => impl_Twice x.1)
theorem impl_Twice_ct : CtOk Tryz.prog 397 impl_Twice_c := pure_ct (E := { T := tab, G := [(192, impl_Bound_c)] }) (EnvOk.cons impl_Bound_ct (EnvOk.nil tabOk)) mixed (fn := Tryz.f397) _ _ _ _ _ .none Tryz.func397 (by kernel_rfl) (fun x => by kernel_rfl)
/-! loop.example/g00486/impl.Half -/
def impl_Half (a0 : Int) : Option Int :=
(impl_Bound a0).bind fun y1 =>
 if 2 = 0 then none else (
 some (IntKind.wrap .i64 (y1.tdiv 2)))
def impl_Half_c : Ct := .pure true false (.pair (.int .i64) .unit) (.int .i64) (fun x => impl_Half x.1)
theorem impl_Half_ct : CtOk Tryz.prog 398 impl_Half_c := pure_ct (E := { T := tab, G := [(192, impl_Bound_c)] }) (EnvOk.cons impl_Bound_ct (EnvOk.nil tabOk)) mixed (fn := Tryz.f398) _ _ _ _ _ .none Tryz.func398 (by kernel_rfl) (fun x => by kernel_rfl)
/-! loop.example/g00486/impl.Amount -/
def impl_Amount (a0 : T_Act.D) (a1 : Int) : Option Int :=
(impl_Upto a1 2147483647).bind fun y1 =>
 bif (a0.1 == 1) then (
 some 0)
 else (
 bif (a0.1 == 3) then (
(impl_Plus y1 a0.2.1).bind fun y2 =>
 some y2)
 else (
 bif (a0.1 == 4) then (
(impl_Twice y1).bind fun y3 =>
 some y3)
 else (
 bif (a0.1 == 5) then (
(impl_Half y1).bind fun y4 =>
 some y4)
 else (
 some y1))))
def impl_Amount_c : Ct := .pure true false (.pair T_Act (.pair (.int .i64) .unit)) (.int .i64) (fun x => impl_Amount x.1 x.2.1)
theorem impl_Amount_ct : CtOk Tryz.prog 376 impl_Amount_c := pure_ct (E := { T := tab, G := [(364, impl_Plus_c), (374, impl_Upto_c), (397, impl_Twice_c), (398, impl_Half_c)] }) (EnvOk.cons impl_Plus_ct (EnvOk.cons impl_Upto_ct (EnvOk.cons impl_Twice_ct (EnvOk.cons impl_Half_ct (EnvOk.nil tabOk))))) mixed (fn := Tryz.f376) _ _ _ _ _ .none Tryz.func376 (by kernel_rfl) (fun x => by kernel_rfl)
/-! loop.example/g00486/impl.Parts -/
def impl_Parts_l1 (a0 : T_Act.D) (a1 : T_Event.D) : ((List T_Event.D) × Int) → Option (((List T_Event.D) × Int) ⊕ ((List T_Event.D) × Int)) := fun s1 =>
 bif decide (s1.2 < (a0.2.2.2.2.2.2.1.length : Int)) then (
 idx a0.2.2.2.2.2.2.1 s1.2 fun x2 =>
((bif (x2.2.2.2.2.1 == (-1)) then (
(impl_Upto a1.2.2.2.2.1 2147483647).bind fun y3 =>
 some (x2.1, x2.2.1, x2.2.2.1, x2.2.2.2.1, y3, x2.2.2.2.2.2))
 else (
 some x2)) : Option T_Event.D).bind fun o4 =>
 if (s1.1.length + [o4].length) * (24 * 7) ≤ room then (
 some (.inl ((s1.1 ++ [o4]), IntKind.wrap .i64 (s1.2 + 1)))) else none)
 else (
 some (.inr s1))
def impl_Parts (a0 : T_Act.D) (a1 : T_Event.D) : Option (List T_Event.D) :=
 bif (a0.1 != 9) then (
 some [])
 else (
(while_ (impl_Parts_l1 a0 a1) ([], 0)).bind fun o5 =>
 some o5.1)
def impl_Parts_h : Hints := (.node none none .none (.node none none .none (.node none none .none (.node none none (.node none none .none (.node none none (.node none (some ⟨[.tmpO 5 0 (.slice T_Event), .tmp 16 (.int .i64)], [some 0], none, []⟩) (.node none none .none (.node none none .none (.node none none (.node none none (.node none none .none (.node none none (.node none none .none (.node (some ⟨[.box 7 0 T_Event], [none], none, [(7, 0)]⟩) none .none .none)) .none)) .none) .none))) .none) .none)) .none))))
def impl_Parts_c : Ct := .pure true false (.pair T_Act (.pair T_Event .unit)) (.slice T_Event) (fun x => impl_Parts x.1 x.2.1)
theorem impl_Parts_ct : CtOk Tryz.prog 377 impl_Parts_c := pure_ct (E := { T := tab, G := [(374, impl_Upto_c)] }) (EnvOk.cons impl_Upto_ct (EnvOk.nil tabOk)) mixed (fn := Tryz.f377) _ _ _ _ _ impl_Parts_h Tryz.func377 (by kernel_rfl) (fun x => by kernel_rfl)
def impl_Parts_fresh_c : Ct := .pure true true (.pair T_Act (.pair T_Event .unit)) (.slice T_Event) (fun x => impl_Parts x.1 x.2.1)
theorem impl_Parts_fresh_ct : CtOk Tryz.prog 377 impl_Parts_fresh_c := pure_ct (E := { T := tab, G := [(374, impl_Upto_c)] }) (EnvOk.cons impl_Upto_ct (EnvOk.nil tabOk)) mixed (fn := Tryz.f377) _ _ _ _ _ impl_Parts_h Tryz.func377 (by kernel_rfl) (fun x => by kernel_rfl)
/-! loop.example/g00486/impl.acted -/
def impl_acted (a0 : T_Effect.D) (a1 : T_Event.D) : Option ((List T_Event.D) × (Int × Unit)) :=
 bif (a0.2.2.2.2.2.2.1.1 == 1) then (
 bif (a1.1 == 1) then (
 some ([], a1.2.2.2.2.1, ()))
 else (
 some ([], 0, ())))
 else (
 bif (a0.2.2.2.2.2.2.1.1 == 2) then (
(impl_Upto a1.2.2.2.2.1 a0.2.2.2.2.2.2.2.2.1).bind fun y1 =>
(impl_WithN a1 (IntKind.wrap .i64 (a1.2.2.2.2.1 - y1))).bind fun y2 =>
 some ([y2], y1, ()))
 else (
((bif (a0.2.2.2.2.2.2.1.1 == 3) then (
 some (a0.2.2.2.2.2.2.1.1 == 3))
 else (
((bif (a0.2.2.2.2.2.2.1.1 == 4) then (
 some (a0.2.2.2.2.2.2.1.1 == 4))
 else (
 some (a0.2.2.2.2.2.2.1.1 == 5))) : Option Bool).bind fun o3 =>
 some o3)) : Option Bool).bind fun o4 =>
 bif o4 then (
(impl_Amount a0.2.2.2.2.2.2.1 a1.2.2.2.2.1).bind fun y5 =>
(impl_WithN a1 y5).bind fun y6 =>
 some ([y6], 0, ()))
 else (
((bif (a0.2.2.2.2.2.2.1.1 == 6) then (
 some (.inl (a1.1, a1.2.1, a0.2.2.2.2.2.2.1.2.2.1, a0.2.2.2.2.2.2.1.2.2.2.1, a1.2.2.2.2)))
 else (
((bif (a0.2.2.2.2.2.2.1.1 == 7) then (
((bif (a0.2.2.2.2.2.2.1.2.2.2.2.1 != 2) then (
 some (a1.1, a1.2.1, a1.2.2.1, a1.2.2.2.1, 0, a0.2.2.2.2.2.2.1.2.2.2.2.1, false, ()))
 else (
 some (a1.1, a1.2.1, a1.2.2.1, a1.2.2.2.1, a1.2.2.2.2.1, a0.2.2.2.2.2.2.1.2.2.2.2.1, a1.2.2.2.2.2.2))) : Option T_Event.D).bind fun o7 =>
 some (.inl o7))
 else (
((bif (a0.2.2.2.2.2.2.1.1 == 8) then (
((bif (a1.2.2.2.2.2.1 == 2) then (
(impl_Upto (IntKind.wrap .i64 (a1.2.2.2.2.1 + a0.2.2.2.2.2.2.1.2.1)) 99).bind fun y8 =>
((bif a1.2.2.2.2.2.2.1 then (
 some (a1.1, a1.2.1, a1.2.2.1, a1.2.2.2.1, y8, a1.2.2.2.2.2.1, true, ()))
 else (
 some (a1.1, a1.2.1, a1.2.2.1, a1.2.2.2.1, y8, a1.2.2.2.2.2.1, a0.2.2.2.2.2.2.1.2.2.2.2.2.1, ()))) : Option T_Event.D).bind fun o9 =>
 some o9)
 else (
 some a1)) : Option T_Event.D).bind fun o10 =>
 some (.inl o10))
 else (
 bif (a0.2.2.2.2.2.2.1.1 == 9) then (
(impl_Parts a0.2.2.2.2.2.2.1 a1).bind fun y11 =>
 some (.inr ((y11, 0))))
 else (
 some (.inl a1)))) : Option (T_Event.D ⊕ ((List T_Event.D) × Int))).bind fun o12 =>
 match o12 with
| .inl s13 => (
 some (.inl s13))
| .inr o14 => (
 some (.inr o14)))) : Option (T_Event.D ⊕ ((List T_Event.D) × Int))).bind fun o15 =>
 match o15 with
| .inl s16 => (
 some (.inl s16))
| .inr o17 => (
 some (.inr o17)))) : Option (T_Event.D ⊕ ((List T_Event.D) × Int))).bind fun o18 =>
 match o18 with
| .inl s19 => (
 some ([s19], 0, ()))
| .inr o20 => (
 some (o20.1, o20.2, ())))))
def impl_acted_h : Hints := (.node none none .none (.node none none .none (.node none none (.node none none .none (.node none none (.node none none .none (.node none none .none (.node none none .none (.node none none .none (.node none none (.node none none .none (.node (some ⟨[.tmp 34 .bool], [none], none, []⟩) none .none (.node none none .none (.node (some ⟨[.tmp 34 .bool], [none], none, []⟩) none .none .none)))) (.node none none .none (.node none none .none (.node (some ⟨[.box 3 0 T_Event], [none], some [.tmpO 4 0 (.slice T_Event), .tmp 5 (.int .i64)], [(3, 0)]⟩) none .none (.node none none .none (.node (some ⟨[.box 3 0 T_Event], [none], some [.tmpO 4 0 (.slice T_Event), .tmp 5 (.int .i64)], [(3, 0)]⟩) none (.node none none .none (.node none none .none (.node (some ⟨[.box 3 0 T_Event], [none], none, [(3, 0)]⟩) none .none .none))) (.node none none .none (.node (some ⟨[.box 3 0 T_Event], [none], some [.tmpO 4 0 (.slice T_Event), .tmp 5 (.int .i64)], [(3, 0)]⟩) none (.node none none .none (.node (some ⟨[.box 3 0 T_Event], [none], none, [(3, 0)]⟩) none (.node none none .none (.node (some ⟨[.box 3 0 T_Event], [none], none, [(3, 0)]⟩) none .none .none)) .none)) .none)))))))))))) .none)) .none)))
def impl_acted_c : Ct := .pure false false (.pair T_Effect (.pair T_Event .unit)) (.pair (.slice T_Event) (.pair (.int .i64) .unit)) (fun x => impl_acted x.1 x.2.1)
theorem impl_acted_ct : CtOk Tryz.prog 343 impl_acted_c := pure_ct (E := { T := tab, G := [(374, impl_Upto_c), (375, impl_WithN_c), (376, impl_Amount_c), (377, impl_Parts_fresh_c)] }) (EnvOk.cons impl_Upto_ct (EnvOk.cons impl_WithN_ct (EnvOk.cons impl_Amount_ct (EnvOk.cons impl_Parts_fresh_ct (EnvOk.nil tabOk))))) mixed (fn := Tryz.f343) _ _ _ _ _ impl_acted_h Tryz.func343 (by kernel_rfl) (fun x => by kernel_rfl)
def impl_acted_fresh_c : Ct := .pure false true (.pair T_Effect (.pair T_Event .unit)) (.pair (.slice T_Event) (.pair (.int .i64) .unit)) (fun x => impl_acted x.1 x.2.1)
theorem impl_acted_fresh_ct : CtOk Tryz.prog 343 impl_acted_fresh_c := pure_ct (E := { T := tab, G := [(374, impl_Upto_c), (375, impl_WithN_c), (376, impl_Amount_c), (377, impl_Parts_fresh_c)] }) (EnvOk.cons impl_Upto_ct (EnvOk.cons impl_WithN_ct (EnvOk.cons impl_Amount_ct (EnvOk.cons impl_Parts_fresh_ct (EnvOk.nil tabOk))))) mixed (fn := Tryz.f343) _ _ _ _ _ impl_acted_h Tryz.func343 (by kernel_rfl) (fun x => by kernel_rfl)
/-! slices.DeleteFunc[[]loop.example/g00486/impl.Event,loop.example/g00486/impl.Event] -/
def slices_DeleteFunc_impl_Event_l1 (a1 : ((T_Event.D × Unit) → Option Bool)) : ((List T_Event.D) × (Int × Int)) → Option (((List T_Event.D) × (Int × Int)) ⊕ ((List T_Event.D) × (Int × Int))) := fun s3 =>
 bif decide (s3.2.2 < (s3.1.length : Int)) then (
 idx s3.1 s3.2.2 fun _ =>
(s3.1[(s3.2.2 : Int).toNat]?).bind fun x4 =>
(a1 (x4, ())).bind fun y5 =>
((bif (!y5) then (
 idx s3.1 s3.2.1 fun _ =>
(s3.1[(s3.2.1 : Int).toNat]?).bind fun x6 =>
 let u7 : (List T_Event.D) := s3.1.set (s3.2.1 : Int).toNat x4
 some (u7, IntKind.wrap .i64 (s3.2.1 + 1)))
 else (
 some (s3.1, s3.2.1))) : Option ((List T_Event.D) × Int)).bind fun o8 =>
 some (.inl (o8.1, o8.2, IntKind.wrap .i64 (s3.2.2 + 1))))
 else (
 some (.inr s3))
def slices_DeleteFunc_impl_Event (a0 : (List T_Event.D)) (a1 : ((T_Event.D × Unit) → Option Bool)) : Option ((List T_Event.D) × Unit) :=
(slices_IndexFunc_impl_Event a0 a1).bind fun y1 =>
 bif (y1 == (-1)) then (
 some (a0, ()))
 else (
(while_ (slices_DeleteFunc_impl_Event_l1 a1) (a0, y1, IntKind.wrap .i64 (y1 + 1))).bind fun o9 =>
 if 0 ≤ o9.2.1 then (if o9.2.1 ≤ (o9.1.length : Int) then (if (o9.1.length : Int) ≤ (o9.1.length : Int) then (
 if 0 ≤ (0 : Int) then (if (0 : Int) ≤ o9.2.1 then (if o9.2.1 ≤ ((o9.1.take (o9.2.1.toNat) ++ List.replicate ((o9.1.length : Int).toNat - o9.2.1.toNat) (0, 0, 0, 0, 0, 0, false, ()) ++ o9.1.drop ((o9.1.length : Int).toNat)).length : Int) then (
 some ((((o9.1.take (o9.2.1.toNat) ++ List.replicate ((o9.1.length : Int).toNat - o9.2.1.toNat) (0, 0, 0, 0, 0, 0, false, ()) ++ o9.1.drop ((o9.1.length : Int).toNat)).take (o9.2.1.toNat)).drop ((0 : Int).toNat)), ())) else none) else none) else none) else none) else none) else none)
def slices_DeleteFunc_impl_Event_h : Hints := (.node none none .none (.node none none .none (.node none none .none (.node none none (.node none none .none (.node none none (.node none (some ⟨[.tmpO 0 1 (.slice T_Event), .tmp 5 (.int .i64), .tmp 6 (.int .i64)], [some 0], none, []⟩) (.node none none .none (.node none none (.node none none (.node none none .none (.node none none .none (.node (some ⟨[.tmpO 0 2 (.slice T_Event), .tmp 5 (.int .i64)], [none], none, [(0, 1)]⟩) none .none .none))) .none) .none)) .none) .none)) .none))))
def slices_DeleteFunc_impl_Event_fresh_c : Ct := .mut [.tk, .rd] true true (.pair (.slice T_Event) (.pair (.fn (.pair T_Event .unit) .bool) .unit)) (.slice T_Event) (fun x => slices_DeleteFunc_impl_Event x.1 x.2.1)
theorem slices_DeleteFunc_impl_Event_fresh_ct : CtOk Tryz.prog 306 slices_DeleteFunc_impl_Event_fresh_c := mut_ct (E := { T := tab, G := [(290, slices_IndexFunc_impl_Event_c)] }) (EnvOk.cons slices_IndexFunc_impl_Event_ct (EnvOk.nil tabOk)) mixed (fn := Tryz.f306) _ _ _ _ _ _ slices_DeleteFunc_impl_Event_h Tryz.func306 (by kernel_rfl) (fun x => by kernel_rfl)
/-! loop.example/g00486/impl.DoAct$1 -/
def impl_DoAct_1 (a0 : T_Event.D) : Option Bool :=
(impl_EventOk a0).bind fun y1 =>
 bif (!y1) then (
 some true)
 else (
(impl_Gone a0).bind fun y2 =>
 some y2)
def impl_DoAct_1_c : Ct := .pure true false (.pair T_Event .unit) .bool (fun x => impl_DoAct_1 x.1)
theorem impl_DoAct_1_ct : CtOk Tryz.prog 344 impl_DoAct_1_c := pure_ct (E := { T := tab, G := [(162, impl_EventOk_c), (278, impl_Gone_c)] }) (EnvOk.cons impl_EventOk_ct (EnvOk.cons impl_Gone_ct (EnvOk.nil tabOk))) mixed (fn := Tryz.f344) _ _ _ _ _ .none Tryz.func344 (by kernel_rfl) (fun x => by kernel_rfl)
/-! loop.example/g00486/impl.Less -/
def impl_Less (a0 : Int) (a1 : Int) : Option Int :=
(impl_Bound a0).bind fun y1 =>
(impl_Bound a1).bind fun y2 =>
(impl_Bound (IntKind.wrap .i64 (y1 - y2))).bind fun y3 =>
 some y3
def impl_Less_c : Ct := .pure true false T_Guard (.int .i64) (fun x => impl_Less x.1 x.2.1)
theorem impl_Less_ct : CtOk Tryz.prog 363 impl_Less_c := pure_ct (E := { T := tab, G := [(192, impl_Bound_c)] }) (EnvOk.cons impl_Bound_ct (EnvOk.nil tabOk)) mixed (fn := Tryz.f363) _ _ _ _ _ .none Tryz.func363 (by kernel_rfl) (fun x => by kernel_rfl)
/-! loop.example/g00486/impl.Spent -/
def impl_Spent (a0 : T_Effect.D) (a1 : Int) : Option T_Effect.D :=
(impl_copyEffect a0).bind fun y1 =>
 bif (y1.2.2.2.2.2.2.1.1 == 2) then (
(impl_Less y1.2.2.2.2.2.2.2.2.1 a1).bind fun y2 =>
(impl_Upto y2 2147483647).bind fun y3 =>
 some (y1.1, y1.2.1, y1.2.2.1, y1.2.2.2.1, y1.2.2.2.2.1, y1.2.2.2.2.2.1, y1.2.2.2.2.2.2.1, y1.2.2.2.2.2.2.2.1, y3, ()))
 else (
 bif decide (y1.2.2.2.2.2.2.2.2.1 > 0) then (
 some (y1.1, y1.2.1, y1.2.2.1, y1.2.2.2.1, y1.2.2.2.2.1, y1.2.2.2.2.2.1, y1.2.2.2.2.2.2.1, y1.2.2.2.2.2.2.2.1, IntKind.wrap .i64 (y1.2.2.2.2.2.2.2.2.1 - 1), ()))
 else (
 some y1))
def impl_Spent_c : Ct := .pure true false (.pair T_Effect (.pair (.int .i64) .unit)) T_Effect (fun x => impl_Spent x.1 x.2.1)
theorem impl_Spent_ct : CtOk Tryz.prog 345 impl_Spent_c := pure_ct (E := { T := tab, G := [(210, impl_copyEffect_fresh_c), (363, impl_Less_c), (374, impl_Upto_c)] }) (EnvOk.cons impl_copyEffect_fresh_ct (EnvOk.cons impl_Less_ct (EnvOk.cons impl_Upto_ct (EnvOk.nil tabOk)))) mixed (fn := Tryz.f345) _ _ _ _ _ .none Tryz.func345 (by kernel_rfl) (fun x => by kernel_rfl)
def impl_Spent_fresh_c : Ct := .pure true true (.pair T_Effect (.pair (.int .i64) .unit)) T_Effect (fun x => impl_Spent x.1 x.2.1)
theorem impl_Spent_fresh_ct : CtOk Tryz.prog 345 impl_Spent_fresh_c := pure_ct (E := { T := tab, G := [(210, impl_copyEffect_fresh_c), (363, impl_Less_c), (374, impl_Upto_c)] }) (EnvOk.cons impl_copyEffect_fresh_ct (EnvOk.cons impl_Less_ct (EnvOk.cons impl_Upto_ct (EnvOk.nil tabOk)))) mixed (fn := Tryz.f345) _ _ _ _ _ .none Tryz.func345 (by kernel_rfl) (fun x => by kernel_rfl)
/-! loop.example/g00486/impl.DoAct -/
def impl_DoAct (a0 : T_Effect.D) (a1 : T_Event.D) : Option ((List T_Event.D) × (Int × (T_Effect.D × Unit))) :=
(((impl_EffectOk a0).bind fun y1 =>
 bif (!y1) then (
 some true)
 else (
(impl_EventOk a1).bind fun y2 =>
 bif (!y2) then (
 some true)
 else (
(impl_ActFits a0.2.2.2.2.2.2.1 a1.1).bind fun y3 =>
 some (!y3)))) : Option Bool).bind fun o4 =>
 bif o4 then (
(impl_copyEffect a0).bind fun y5 =>
 some ([a1], 0, y5, ()))
 else (
(impl_acted a0 a1).bind fun y6 =>
(slices_DeleteFunc_impl_Event y6.1 (fun q => impl_DoAct_1 q.1)).bind fun y7 =>
(impl_Spent a0 y6.2.1).bind fun y8 =>
 some (y7.1, y6.2.1, y8, ()))
def impl_DoAct_h : Hints := (.node none none .none (.node none none (.node none none (.node (some ⟨[.tmp 24 .bool], [none], none, []⟩) none .none .none) .none) .none))
def impl_DoAct_c : Ct := .pure false false (.pair T_Effect (.pair T_Event .unit)) (.pair (.slice T_Event) (.pair (.int .i64) (.pair T_Effect .unit))) (fun x => impl_DoAct x.1 x.2.1)
theorem impl_DoAct_ct : CtOk Tryz.prog 279 impl_DoAct_c := pure_ct (E := { T := tab, G := [(162, impl_EventOk_c), (194, impl_EffectOk_c), (210, impl_copyEffect_fresh_c), (296, impl_ActFits_c), (306, slices_DeleteFunc_impl_Event_fresh_c), (343, impl_acted_fresh_c), (344, impl_DoAct_1_c), (345, impl_Spent_fresh_c)] }) (EnvOk.cons impl_EventOk_ct (EnvOk.cons impl_EffectOk_ct (EnvOk.cons impl_copyEffect_fresh_ct (EnvOk.cons impl_ActFits_ct (EnvOk.cons slices_DeleteFunc_impl_Event_fresh_ct (EnvOk.cons impl_acted_fresh_ct (EnvOk.cons impl_DoAct_1_ct (EnvOk.cons impl_Spent_fresh_ct (EnvOk.nil tabOk))))))))) mixed (fn := Tryz.f279) _ _ _ _ _ impl_DoAct_h Tryz.func279 (by kernel_rfl) (fun x => by kernel_rfl)
def impl_DoAct_fresh_c : Ct := .pure false true (.pair T_Effect (.pair T_Event .unit)) (.pair (.slice T_Event) (.pair (.int .i64) (.pair T_Effect .unit))) (fun x => impl_DoAct x.1 x.2.1)
theorem impl_DoAct_fresh_ct : CtOk Tryz.prog 279 impl_DoAct_fresh_c := pure_ct (E := { T := tab, G := [(162, impl_EventOk_c), (194, impl_EffectOk_c), (210, impl_copyEffect_fresh_c), (296, impl_ActFits_c), (306, slices_DeleteFunc_impl_Event_fresh_c), (343, impl_acted_fresh_c), (344, impl_DoAct_1_c), (345, impl_Spent_fresh_c)] }) (EnvOk.cons impl_EventOk_ct (EnvOk.cons impl_EffectOk_ct (EnvOk.cons impl_copyEffect_fresh_ct (EnvOk.cons impl_ActFits_ct (EnvOk.cons slices_DeleteFunc_impl_Event_fresh_ct (EnvOk.cons impl_acted_fresh_ct (EnvOk.cons impl_DoAct_1_ct (EnvOk.cons impl_Spent_fresh_ct (EnvOk.nil tabOk))))))))) mixed (fn := Tryz.f279) _ _ _ _ _ impl_DoAct_h Tryz.func279 (by kernel_rfl) (fun x => by kernel_rfl)
/-! loop.example/g00486/impl.Chooser -/
def impl_Chooser (a0 : T_State.D) (a1 : T_Event.D) : Option Int :=
(impl_Target a0 a1).bind fun y1 =>
 bif (y1 != (-1)) then (
 some y1)
 else (
 some a0.2.2.1)
def impl_Chooser_c : Ct := .pure true false (.pair T_State (.pair T_Event .unit)) (.int .i64) (fun x => impl_Chooser x.1 x.2.1)
theorem impl_Chooser_ct : CtOk Tryz.prog 280 impl_Chooser_c := pure_ct (E := { T := tab, G := [(346, impl_Target_c)] }) (EnvOk.cons impl_Target_ct (EnvOk.nil tabOk)) mixed (fn := Tryz.f280) _ _ _ _ _ .none Tryz.func280 (by kernel_rfl) (fun x => by kernel_rfl)
/-! loop.example/g00486/impl.Rewrite$2 -/
def impl_Rewrite_2 (a0 : T_Turn.D) : Option Bool :=
 some true
def impl_Rewrite_2_c : Ct := .pure true false (.pair T_Turn .unit) .bool (fun x => impl_Rewrite_2 x.1)
theorem impl_Rewrite_2_ct : CtOk Tryz.prog 165 impl_Rewrite_2_c := pure_ct (E := { T := tab, G := [] }) (EnvOk.nil tabOk) mixed (fn := Tryz.f165) _ _ _ _ _ .none Tryz.func165 (by kernel_rfl) (fun x => by kernel_rfl)
/-! loop.example/g00486/impl.Update -/
def impl_Update (a0 : (List T_Effect.D)) (a1 : T_Effect.D) : Option (List T_Effect.D) :=
(impl_copyTable a0).bind fun y1 =>
(impl_EffectAt a0 a1.1).bind fun y2 =>
 bif decide (y2 ≥ 0) then (
(impl_copyEffect a1).bind fun y3 =>
 idx y1 y2 fun _ =>
(y1[(y2 : Int).toNat]?).bind fun x4 =>
 let u5 : (List T_Effect.D) := y1.set (y2 : Int).toNat y3
 some u5)
 else (
 some y1)
def impl_Update_c : Ct := .pure true false (.pair (.slice T_Effect) (.pair T_Effect .unit)) (.slice T_Effect) (fun x => impl_Update x.1 x.2.1)
theorem impl_Update_ct : CtOk Tryz.prog 281 impl_Update_c := pure_ct (E := { T := tab, G := [(152, impl_copyTable_fresh_c), (210, impl_copyEffect_fresh_c), (211, impl_EffectAt_c)] }) (EnvOk.cons impl_copyTable_fresh_ct (EnvOk.cons impl_copyEffect_fresh_ct (EnvOk.cons impl_EffectAt_ct (EnvOk.nil tabOk)))) mixed (fn := Tryz.f281) _ _ _ _ _ .none Tryz.func281 (by kernel_rfl) (fun x => by kernel_rfl)
def impl_Update_fresh_c : Ct := .pure true true (.pair (.slice T_Effect) (.pair T_Effect .unit)) (.slice T_Effect) (fun x => impl_Update x.1 x.2.1)
theorem impl_Update_fresh_ct : CtOk Tryz.prog 281 impl_Update_fresh_c := pure_ct (E := { T := tab, G := [(152, impl_copyTable_fresh_c), (210, impl_copyEffect_fresh_c), (211, impl_EffectAt_c)] }) (EnvOk.cons impl_copyTable_fresh_ct (EnvOk.cons impl_copyEffect_fresh_ct (EnvOk.cons impl_EffectAt_ct (EnvOk.nil tabOk)))) mixed (fn := Tryz.f281) _ _ _ _ _ .none Tryz.func281 (by kernel_rfl) (fun x => by kernel_rfl)
/-! (*loop.example/g00486/impl.writer).write -/
def impl_writer_write_l1 (rec : (T_Wr.D → T_Event.D → (List Int) → Option (Bool × T_Wr.D))) (x5 : Int) (y8 : ((List T_Event.D) × (Int × (T_Effect.D × Unit)))) (y12 : (List Int)) : (Int × (T_StateV.D × (T_FateV.D × Unit))) → Option ((Int × (T_StateV.D × (T_FateV.D × Unit))) ⊕ ((Int × (T_StateV.D × (T_FateV.D × Unit))) ⊕ (Bool × (T_StateV.D × (T_FateV.D × Unit))))) := fun s14 =>
 bif decide (s14.1 < (y8.1.length : Int)) then (
 idx y8.1 s14.1 fun x15 =>
(rec s14.2 x15 (y12 ++ [x5])).bind fun y16 =>
 bif (!y16.1) then (
 some (.inr (.inr ((false, y16.2)))))
 else (
 some (.inl (IntKind.wrap .i64 (s14.1 + 1), y16.2))))
 else (
 some (.inr (.inl s14)))
def impl_writer_write_step (rec : (T_Wr.D → T_Event.D → (List Int) → Option (Bool × T_Wr.D))) (x : T_Wr.D) (a0 : T_Event.D) (a1 : (List Int)) : Option (Bool × T_Wr.D) :=
(impl_Options x.1 x.2.1.2.1 a0 a1).bind fun y1 =>
 bif ((y1.length : Int) == 0) then (
(impl_Gone a0).bind fun y2 =>
((bif (!y2) then (
 if (x.2.1.1.length + [a0].length) * (24 * 7) ≤ room then (
 some (x.1, ((x.2.1.1 ++ [a0]), x.2.1.2), ())) else none)
 else (
 some x)) : Option T_Wr.D).bind fun o3 =>
 some (true, o3))
 else (
(impl_Rewrite_1 x (y1.length : Int)).bind fun y4 =>
 bif (!y4.1.2.1) then (
 some (false, y4.2))
 else (
 idx y1 y4.1.1 fun _ =>
(y1[(y4.1.1 : Int).toNat]?).bind fun x5 =>
(impl_EffectAt y4.2.2.1.2.1 x5).bind fun y6 =>
 idx y4.2.2.1.2.1 y6 fun x7 =>
(impl_DoAct x7 a0).bind fun y8 =>
(impl_Chooser y4.2.1 a0).bind fun y9 =>
(impl_Rewrite_2 (x5, y9, y4.1.1, (y1.length : Int), a0, y8.1, y8.2.1, (a1.length : Int), ())).bind fun y10 =>
 bif (!y10) then (
 none)
 else (
(impl_Update y4.2.2.1.2.1 y8.2.2.1).bind fun y11 =>
 if (y4.2.2.1.2.2.2.1.length + [(x5, y9, y4.1.1, (y1.length : Int), a0, y8.1, y8.2.1, (a1.length : Int), ())].length) * (24 * 14) ≤ room then (
(slices_Clone_int a1).bind fun y12 =>
 if (y12.length + [x5].length) * (24 * 1) ≤ room then (
(while_ (impl_writer_write_l1 rec x5 y8 y12) (0, y4.2.1, (y4.2.2.1.1, y11, y4.2.2.1.2.2.1, (y4.2.2.1.2.2.2.1 ++ [(x5, y9, y4.1.1, (y1.length : Int), a0, y8.1, y8.2.1, (a1.length : Int), ())]), ()), ())).bind fun o17 =>
 match o17 with
| .inl s18 => (
 some (true, s18.2))
| .inr o19 => (
 some (o19.1, o19.2))) else none) else none)))
def impl_writer_write (n : Nat) : T_Wr.D → T_Event.D → (List Int) → Option (Bool × T_Wr.D) := Nat.rec (motive := fun _ => (T_Wr.D → T_Event.D → (List Int) → Option (Bool × T_Wr.D))) (fun _ _ _ => none) (fun _ g => impl_writer_write_step g) n
def impl_writer_write_h : Hints := (.node none none .none (.node none none .none (.node none none (.node none none .none (.node none none (.node none none (.node none none .none (.node (some ⟨[.boxO 0 0 6 T_Wr [.fn 163 [(0, 1)], .fn 165 []]], [none], none, [(0, 2), (0, 0), (0, 3), (0, 4), (0, 5)]⟩) none .none .none)) .none) .none)) (.node none none (.node none (some ⟨[], [some 6], none, []⟩) .none .none) (.node none none .none (.node none none .none (.node none none (.node none none (.node (some ⟨[], [], none, [(0, 7)]⟩) none .none .none) .none) (.node none none (.node none none (.node (some ⟨[], [], none, [(79, 0)]⟩) none .none .none) .none) (.node none none .none (.node none none .none (.node none none .none (.node none none .none (.node none none (.node none none (.node none none (.node (some ⟨[], [], none, [(133, 0)]⟩) none .none .none) .none) (.node none none (.node none (some ⟨[.tmp 136 (.int .i64), .boxO 0 0 10 T_Wr [.fn 163 [(0, 1)], .fn 165 []]], [some 0], some [.tmp 6 .bool, .boxO 0 0 10 T_Wr [.fn 163 [(0, 1)], .fn 165 []]], []⟩) (.node none none .none (.node none none .none (.node none none (.node none none (.node none none .none (.node none none (.node none (some ⟨[], [some 3], none, []⟩) .none .none) .none)) .none) .none))) .none) .none)) .none)))))))))))))
def impl_writer_write_c (g : (T_Wr.D → T_Event.D → (List Int) → Option (Bool × T_Wr.D))) : Ct := .run T_Wr [(163, true), (165, false)] true false true (.pair T_Event (.pair (.slice (.int .i64)) .unit)) .bool (fun x y => g x y.1 y.2.1)
theorem impl_writer_write_ct (n : Nat) : CtOk Tryz.prog 166 (impl_writer_write_c (impl_writer_write n)) := by
  induction n with
  | zero => exact run_none (fn := Tryz.f166) T_Wr [(163, true), (165, false)] true false true (.pair T_Event (.pair (.slice (.int .i64)) .unit)) .bool Tryz.func166 (by kernel_rfl)
  | succ n ih => exact run_ct (E := { T := tabV, G := [(166, impl_writer_write_c (impl_writer_write n)), (163, impl_Rewrite_1_c), (153, slices_Clone_int_fresh_c), (165, impl_Rewrite_2_c), (211, impl_EffectAt_c), (277, impl_Options_fresh_c), (278, impl_Gone_c), (279, impl_DoAct_fresh_c), (280, impl_Chooser_c), (281, impl_Update_fresh_c)], V := [124], Z := true }) (EnvOk.frz (EnvOk.views (EnvOk.cons (ih) (EnvOk.cons impl_Rewrite_1_ct (EnvOk.cons slices_Clone_int_fresh_ct (EnvOk.cons impl_Rewrite_2_ct (EnvOk.cons impl_EffectAt_ct (EnvOk.cons impl_Options_fresh_ct (EnvOk.cons impl_Gone_ct (EnvOk.cons impl_DoAct_fresh_ct (EnvOk.cons impl_Chooser_ct (EnvOk.cons impl_Update_fresh_ct (EnvOk.nil tabVOk))))))))))))) mixed (fn := Tryz.f166) T_Wr [(163, true), (165, false)] true false true (.pair T_Event (.pair (.slice (.int .i64)) .unit)) .bool (fun x y => impl_writer_write_step (impl_writer_write n) x y.1 y.2.1) impl_writer_write_h Tryz.func166 (by kernel_rfl) (fun x y => by kernel_rfl)
/-! loop.example/g00486/impl.copyTurns -/
def impl_copyTurns_l1 (a0 : (List T_Turn.D)) : ((List T_Turn.D) × Int) → Option (((List T_Turn.D) × Int) ⊕ ((List T_Turn.D) × Int)) := fun s1 =>
 bif decide (s1.2 < (a0.length : Int)) then (
 idx a0 s1.2 fun x2 =>
(slices_Clone_impl_Event x2.2.2.2.2.2.1).bind fun y3 =>
 if (s1.1.length + [(x2.1, x2.2.1, x2.2.2.1, x2.2.2.2.1, x2.2.2.2.2.1, y3, x2.2.2.2.2.2.2)].length) * (24 * 14) ≤ room then (
 some (.inl ((s1.1 ++ [(x2.1, x2.2.1, x2.2.2.1, x2.2.2.2.1, x2.2.2.2.2.1, y3, x2.2.2.2.2.2.2)]), IntKind.wrap .i64 (s1.2 + 1)))) else none)
 else (
 some (.inr s1))
def impl_copyTurns (a0 : (List T_Turn.D)) : Option (List T_Turn.D) :=
(while_ (impl_copyTurns_l1 a0) ([], 0)).bind fun o4 =>
 some o4.1
def impl_copyTurns_h : Hints := (.node none none .none (.node none none .none (.node none none (.node none none .none (.node none none (.node none (some ⟨[.tmpO 3 0 (.slice T_Turn), .tmp 9 (.int .i64)], [some 0], none, []⟩) .none .none) .none)) .none)))
def impl_copyTurns_c : Ct := .pure true false (.pair (.slice T_Turn) .unit) (.slice T_Turn) (fun x => impl_copyTurns x.1)
theorem impl_copyTurns_ct : CtOk Tryz.prog 167 impl_copyTurns_c := pure_ct (E := { T := tab, G := [(282, slices_Clone_impl_Event_fresh_c)] }) (EnvOk.cons slices_Clone_impl_Event_fresh_ct (EnvOk.nil tabOk)) mixed (fn := Tryz.f167) _ _ _ _ _ impl_copyTurns_h Tryz.func167 (by kernel_rfl) (fun x => by kernel_rfl)
def impl_copyTurns_fresh_c : Ct := .pure true true (.pair (.slice T_Turn) .unit) (.slice T_Turn) (fun x => impl_copyTurns x.1)
theorem impl_copyTurns_fresh_ct : CtOk Tryz.prog 167 impl_copyTurns_fresh_c := pure_ct (E := { T := tab, G := [(282, slices_Clone_impl_Event_fresh_c)] }) (EnvOk.cons slices_Clone_impl_Event_fresh_ct (EnvOk.nil tabOk)) mixed (fn := Tryz.f167) _ _ _ _ _ impl_copyTurns_h Tryz.func167 (by kernel_rfl) (fun x => by kernel_rfl)
/-! loop.example/g00486/impl.Rewrite -/
def impl_Rewrite (a0 : T_State.D) (a1 : (List T_Effect.D)) (a2 : T_Event.D) (a3 : (List Int)) : Option T_Fate.D :=
(impl_copyTable a1).bind fun y1 =>
(slices_Clone_int a3).bind fun y2 =>
(((impl_StateOk a0).bind fun y3 =>
 bif (!y3) then (
 some true)
 else (
(impl_EventOk a2).bind fun y4 =>
 bif (!y4) then (
 some true)
 else (
(impl_TableOk a1).bind fun y5 =>
 some (!y5)))) : Option Bool).bind fun o6 =>
 bif o6 then (
 some ([], y1, y2, [], ()))
 else (
(impl_writer_write 8 (a0, ([], y1, y2, [], ()), ()) a2 []).bind fun y7 =>
(impl_copyTurns y7.2.2.1.2.2.2.1).bind fun y8 =>
 some (y7.2.2.1.1, y7.2.2.1.2.1, y7.2.2.1.2.2.1, y8, ()))
def impl_Rewrite_h : Hints := (.node none none .none (.node none none .none (.node none none (.node none none (.node (some ⟨[.tmp 30 .bool], [none], none, []⟩) none .none .none) .none) (.node none none .none (.node none none .none (.node none none (.node none (some ⟨[], [some 2], none, []⟩) .none .none) .none))))))
def impl_Rewrite_c : Ct := .pure true false (.pair T_State (.pair (.slice T_Effect) (.pair T_Event (.pair (.slice (.int .i64)) .unit)))) T_Fate (fun x => impl_Rewrite x.1 x.2.1 x.2.2.1 x.2.2.2.1)
theorem impl_Rewrite_ct : CtOk Tryz.prog 52 impl_Rewrite_c := pure_ct (E := { T := tab, G := [(166, impl_writer_write_c (impl_writer_write 8)), (81, impl_StateOk_c), (82, impl_TableOk_c), (152, impl_copyTable_fresh_c), (153, slices_Clone_int_fresh_c), (162, impl_EventOk_c), (167, impl_copyTurns_fresh_c)], Z := true }) (EnvOk.frz (EnvOk.cons (impl_writer_write_ct 8) (EnvOk.cons impl_StateOk_ct (EnvOk.cons impl_TableOk_ct (EnvOk.cons impl_copyTable_fresh_ct (EnvOk.cons slices_Clone_int_fresh_ct (EnvOk.cons impl_EventOk_ct (EnvOk.cons impl_copyTurns_fresh_ct (EnvOk.nil tabOk))))))))) mixed (fn := Tryz.f52) _ _ _ _ _ impl_Rewrite_h Tryz.func52 (by kernel_rfl) (fun x => by kernel_rfl)
def impl_Rewrite_fresh_c : Ct := .pure true true (.pair T_State (.pair (.slice T_Effect) (.pair T_Event (.pair (.slice (.int .i64)) .unit)))) T_Fate (fun x => impl_Rewrite x.1 x.2.1 x.2.2.1 x.2.2.2.1)
theorem impl_Rewrite_fresh_ct : CtOk Tryz.prog 52 impl_Rewrite_fresh_c := pure_ct (E := { T := tab, G := [(166, impl_writer_write_c (impl_writer_write 8)), (81, impl_StateOk_c), (82, impl_TableOk_c), (152, impl_copyTable_fresh_c), (153, slices_Clone_int_fresh_c), (162, impl_EventOk_c), (167, impl_copyTurns_fresh_c)], Z := true }) (EnvOk.frz (EnvOk.cons (impl_writer_write_ct 8) (EnvOk.cons impl_StateOk_ct (EnvOk.cons impl_TableOk_ct (EnvOk.cons impl_copyTable_fresh_ct (EnvOk.cons slices_Clone_int_fresh_ct (EnvOk.cons impl_EventOk_ct (EnvOk.cons impl_copyTurns_fresh_ct (EnvOk.nil tabOk))))))))) mixed (fn := Tryz.f52) _ _ _ _ _ impl_Rewrite_h Tryz.func52 (by kernel_rfl) (fun x => by kernel_rfl)
/-! loop.example/g00486/laws.eqEvent -/
def laws_eqEvent (a0 : T_Event.D) (a1 : T_Event.D) : Option Bool :=
 bif (a0.1 != a1.1) then (
 some false)
 else (
 bif (a0.2.1 != a1.2.1) then (
 some false)
 else (
 bif (a0.2.2.1 != a1.2.2.1) then (
 some false)
 else (
 bif (a0.2.2.2.1 != a1.2.2.2.1) then (
 some false)
 else (
 bif (a0.2.2.2.2.1 != a1.2.2.2.2.1) then (
 some false)
 else (
 bif (a0.2.2.2.2.2.1 != a1.2.2.2.2.2.1) then (
 some false)
 else (
 bif (a0.2.2.2.2.2.2.1 != a1.2.2.2.2.2.2.1) then (
 some false)
 else (
 some true)))))))
def laws_eqEvent_c : Ct := .pure true false (.pair T_Event (.pair T_Event .unit)) .bool (fun x => laws_eqEvent x.1 x.2.1)
theorem laws_eqEvent_ct : CtOk Tryz.prog 174 laws_eqEvent_c := pure_ct (E := { T := tab, G := [] }) (EnvOk.nil tabOk) mixed (fn := Tryz.f174) _ _ _ _ _ .none Tryz.func174 (by kernel_rfl) (fun x => by kernel_rfl)
/-! loop.example/g00486/laws.eqEventS -/
def laws_eqEventS_l1 (a0 : (List T_Event.D)) (a1 : (List T_Event.D)) : Int → Option (Int ⊕ (Int ⊕ Bool)) := fun s1 =>
 bif decide (s1 < (a0.length : Int)) then (
 idx a0 s1 fun x2 =>
 idx a1 s1 fun x3 =>
(laws_eqEvent x2 x3).bind fun y4 =>
 bif (!y4) then (
 some (.inr (.inr false)))
 else (
 some (.inl (IntKind.wrap .i64 (s1 + 1)))))
 else (
 some (.inr (.inl s1)))
def laws_eqEventS (a0 : (List T_Event.D)) (a1 : (List T_Event.D)) : Option Bool :=
 bif ((a0.length : Int) != (a1.length : Int)) then (
 some false)
 else (
(while_ (laws_eqEventS_l1 a0 a1) 0).bind fun o5 =>
 match o5 with
| .inl s6 => (
 some true)
| .inr o7 => (
 some o7))
def laws_eqEventS_h : Hints := (.node none none .none (.node none none .none (.node none none (.node none none .none (.node none none (.node none (some ⟨[.tmp 5 (.int .i64)], [some 0], some [.tmp 4 .bool], []⟩) .none .none) .none)) .none)))
def laws_eqEventS_c : Ct := .pure true false (.pair (.slice T_Event) (.pair (.slice T_Event) .unit)) .bool (fun x => laws_eqEventS x.1 x.2.1)
theorem laws_eqEventS_ct : CtOk Tryz.prog 66 laws_eqEventS_c := pure_ct (E := { T := tab, G := [(174, laws_eqEvent_c)] }) (EnvOk.cons laws_eqEvent_ct (EnvOk.nil tabOk)) mixed (fn := Tryz.f66) _ _ _ _ _ laws_eqEventS_h Tryz.func66 (by kernel_rfl) (fun x => by kernel_rfl)
/-! loop.example/g00486/laws.eqPat -/
def laws_eqPat (a0 : T_Pat.D) (a1 : T_Pat.D) : Option Bool :=
 bif (a0.1 != a1.1) then (
 some false)
 else (
 bif (a0.2.1 != a1.2.1) then (
 some false)
 else (
 bif (a0.2.2.1 != a1.2.2.1) then (
 some false)
 else (
 bif (a0.2.2.2.1 != a1.2.2.2.1) then (
 some false)
 else (
 bif (a0.2.2.2.2.1 != a1.2.2.2.2.1) then (
 some false)
 else (
 bif (a0.2.2.2.2.2.1 != a1.2.2.2.2.2.1) then (
 some false)
 else (
 bif (a0.2.2.2.2.2.2.1 != a1.2.2.2.2.2.2.1) then (
 some false)
 else (
 some true)))))))
def laws_eqPat_c : Ct := .pure true false (.pair T_Pat (.pair T_Pat .unit)) .bool (fun x => laws_eqPat x.1 x.2.1)
theorem laws_eqPat_ct : CtOk Tryz.prog 255 laws_eqPat_c := pure_ct (E := { T := tab, G := [] }) (EnvOk.nil tabOk) mixed (fn := Tryz.f255) _ _ _ _ _ .none Tryz.func255 (by kernel_rfl) (fun x => by kernel_rfl)
/-! loop.example/g00486/laws.eqGuard -/
def laws_eqGuard (a0 : T_Guard.D) (a1 : T_Guard.D) : Option Bool :=
 bif (a0.1 != a1.1) then (
 some false)
 else (
 bif (a0.2.1 != a1.2.1) then (
 some false)
 else (
 some true))
def laws_eqGuard_c : Ct := .pure true false (.pair T_Guard (.pair T_Guard .unit)) .bool (fun x => laws_eqGuard x.1 x.2.1)
theorem laws_eqGuard_ct : CtOk Tryz.prog 256 laws_eqGuard_c := pure_ct (E := { T := tab, G := [] }) (EnvOk.nil tabOk) mixed (fn := Tryz.f256) _ _ _ _ _ .none Tryz.func256 (by kernel_rfl) (fun x => by kernel_rfl)
/-! loop.example/g00486/laws.eqAct -/
def laws_eqAct (a0 : T_Act.D) (a1 : T_Act.D) : Option Bool :=
 bif (a0.1 != a1.1) then (
 some false)
 else (
 bif (a0.2.1 != a1.2.1) then (
 some false)
 else (
 bif (a0.2.2.1 != a1.2.2.1) then (
 some false)
 else (
 bif (a0.2.2.2.1 != a1.2.2.2.1) then (
 some false)
 else (
 bif (a0.2.2.2.2.1 != a1.2.2.2.2.1) then (
 some false)
 else (
 bif (a0.2.2.2.2.2.1 != a1.2.2.2.2.2.1) then (
 some false)
 else (
(laws_eqEventS a0.2.2.2.2.2.2.1 a1.2.2.2.2.2.2.1).bind fun y1 =>
 bif (!y1) then (
 some false)
 else (
 some true)))))))
def laws_eqAct_c : Ct := .pure true false (.pair T_Act (.pair T_Act .unit)) .bool (fun x => laws_eqAct x.1 x.2.1)
theorem laws_eqAct_ct : CtOk Tryz.prog 257 laws_eqAct_c := pure_ct (E := { T := tab, G := [(66, laws_eqEventS_c)] }) (EnvOk.cons laws_eqEventS_ct (EnvOk.nil tabOk)) mixed (fn := Tryz.f257) _ _ _ _ _ .none Tryz.func257 (by kernel_rfl) (fun x => by kernel_rfl)
/-! loop.example/g00486/laws.eqEffect -/
def laws_eqEffect (a0 : T_Effect.D) (a1 : T_Effect.D) : Option Bool :=
 bif (a0.1 != a1.1) then (
 some false)
 else (
 bif (a0.2.1 != a1.2.1) then (
 some false)
 else (
 bif (a0.2.2.1 != a1.2.2.1) then (
 some false)
 else (
 bif (a0.2.2.2.1 != a1.2.2.2.1) then (
 some false)
 else (
(laws_eqPat a0.2.2.2.2.1 a1.2.2.2.2.1).bind fun y1 =>
 bif (!y1) then (
 some false)
 else (
(laws_eqGuard a0.2.2.2.2.2.1 a1.2.2.2.2.2.1).bind fun y2 =>
 bif (!y2) then (
 some false)
 else (
(laws_eqAct a0.2.2.2.2.2.2.1 a1.2.2.2.2.2.2.1).bind fun y3 =>
 bif (!y3) then (
 some false)
 else (
 bif (a0.2.2.2.2.2.2.2.1 != a1.2.2.2.2.2.2.2.1) then (
 some false)
 else (
 bif (a0.2.2.2.2.2.2.2.2.1 != a1.2.2.2.2.2.2.2.2.1) then (
 some false)
 else (
 some true)))))))))
def laws_eqEffect_c : Ct := .pure true false (.pair T_Effect (.pair T_Effect .unit)) .bool (fun x => laws_eqEffect x.1 x.2.1)
theorem laws_eqEffect_ct : CtOk Tryz.prog 135 laws_eqEffect_c := pure_ct (E := { T := tab, G := [(255, laws_eqPat_c), (256, laws_eqGuard_c), (257, laws_eqAct_c)] }) (EnvOk.cons laws_eqPat_ct (EnvOk.cons laws_eqGuard_ct (EnvOk.cons laws_eqAct_ct (EnvOk.nil tabOk)))) mixed (fn := Tryz.f135) _ _ _ _ _ .none Tryz.func135 (by kernel_rfl) (fun x => by kernel_rfl)
/-! loop.example/g00486/laws.eqEffectS -/
def laws_eqEffectS_l1 (a0 : (List T_Effect.D)) (a1 : (List T_Effect.D)) : Int → Option (Int ⊕ (Int ⊕ Bool)) := fun s1 =>
 bif decide (s1 < (a0.length : Int)) then (
 idx a0 s1 fun x2 =>
 idx a1 s1 fun x3 =>
(laws_eqEffect x2 x3).bind fun y4 =>
 bif (!y4) then (
 some (.inr (.inr false)))
 else (
 some (.inl (IntKind.wrap .i64 (s1 + 1)))))
 else (
 some (.inr (.inl s1)))
def laws_eqEffectS (a0 : (List T_Effect.D)) (a1 : (List T_Effect.D)) : Option Bool :=
 bif ((a0.length : Int) != (a1.length : Int)) then (
 some false)
 else (
(while_ (laws_eqEffectS_l1 a0 a1) 0).bind fun o5 =>
 match o5 with
| .inl s6 => (
 some true)
| .inr o7 => (
 some o7))
def laws_eqEffectS_h : Hints := (.node none none .none (.node none none .none (.node none none (.node none none .none (.node none none (.node none (some ⟨[.tmp 5 (.int .i64)], [some 0], some [.tmp 4 .bool], []⟩) .none .none) .none)) .none)))
def laws_eqEffectS_c : Ct := .pure true false (.pair (.slice T_Effect) (.pair (.slice T_Effect) .unit)) .bool (fun x => laws_eqEffectS x.1 x.2.1)
theorem laws_eqEffectS_ct : CtOk Tryz.prog 55 laws_eqEffectS_c := pure_ct (E := { T := tab, G := [(135, laws_eqEffect_c)] }) (EnvOk.cons laws_eqEffect_ct (EnvOk.nil tabOk)) mixed (fn := Tryz.f55) _ _ _ _ _ laws_eqEffectS_h Tryz.func55 (by kernel_rfl) (fun x => by kernel_rfl)
/-! loop.example/g00486/laws.eqIntS -/
def laws_eqIntS_l1 (a0 : (List Int)) (a1 : (List Int)) : Int → Option (Int ⊕ (Int ⊕ Bool)) := fun s1 =>
 bif decide (s1 < (a0.length : Int)) then (
 idx a0 s1 fun x2 =>
 idx a1 s1 fun x3 =>
 bif (x2 != x3) then (
 some (.inr (.inr false)))
 else (
 some (.inl (IntKind.wrap .i64 (s1 + 1)))))
 else (
 some (.inr (.inl s1)))
def laws_eqIntS (a0 : (List Int)) (a1 : (List Int)) : Option Bool :=
 bif ((a0.length : Int) != (a1.length : Int)) then (
 some false)
 else (
(while_ (laws_eqIntS_l1 a0 a1) 0).bind fun o4 =>
 match o4 with
| .inl s5 => (
 some true)
| .inr o6 => (
 some o6))
def laws_eqIntS_h : Hints := (.node none none .none (.node none none .none (.node none none (.node none none .none (.node none none (.node none (some ⟨[.tmp 5 (.int .i64)], [some 0], some [.tmp 4 .bool], []⟩) .none .none) .none)) .none)))
def laws_eqIntS_c : Ct := .pure true false (.pair (.slice (.int .i64)) (.pair (.slice (.int .i64)) .unit)) .bool (fun x => laws_eqIntS x.1 x.2.1)
theorem laws_eqIntS_ct : CtOk Tryz.prog 56 laws_eqIntS_c := pure_ct (E := { T := tab, G := [] }) (EnvOk.nil tabOk) mixed (fn := Tryz.f56) _ _ _ _ _ laws_eqIntS_h Tryz.func56 (by kernel_rfl) (fun x => by kernel_rfl)
/-! loop.example/g00486/laws.eqTurn -/
def laws_eqTurn (a0 : T_Turn.D) (a1 : T_Turn.D) : Option Bool :=
 bif (a0.1 != a1.1) then (
 some false)
 else (
 bif (a0.2.1 != a1.2.1) then (
 some false)
 else (
 bif (a0.2.2.1 != a1.2.2.1) then (
 some false)
 else (
 bif (a0.2.2.2.1 != a1.2.2.2.1) then (
 some false)
 else (
(laws_eqEvent a0.2.2.2.2.1 a1.2.2.2.2.1).bind fun y1 =>
 bif (!y1) then (
 some false)
 else (
(laws_eqEventS a0.2.2.2.2.2.1 a1.2.2.2.2.2.1).bind fun y2 =>
 bif (!y2) then (
 some false)
 else (
 bif (a0.2.2.2.2.2.2.1 != a1.2.2.2.2.2.2.1) then (
 some false)
 else (
 bif (a0.2.2.2.2.2.2.2.1 != a1.2.2.2.2.2.2.2.1) then (
 some false)
 else (
 some true))))))))
def laws_eqTurn_c : Ct := .pure true false (.pair T_Turn (.pair T_Turn .unit)) .bool (fun x => laws_eqTurn x.1 x.2.1)
theorem laws_eqTurn_ct : CtOk Tryz.prog 254 laws_eqTurn_c := pure_ct (E := { T := tab, G := [(66, laws_eqEventS_c), (174, laws_eqEvent_c)] }) (EnvOk.cons laws_eqEventS_ct (EnvOk.cons laws_eqEvent_ct (EnvOk.nil tabOk))) mixed (fn := Tryz.f254) _ _ _ _ _ .none Tryz.func254 (by kernel_rfl) (fun x => by kernel_rfl)
/-! loop.example/g00486/laws.eqTurnS -/
def laws_eqTurnS_l1 (a0 : (List T_Turn.D)) (a1 : (List T_Turn.D)) : Int → Option (Int ⊕ (Int ⊕ Bool)) := fun s1 =>
 bif decide (s1 < (a0.length : Int)) then (
 idx a0 s1 fun x2 =>
 idx a1 s1 fun x3 =>
(laws_eqTurn x2 x3).bind fun y4 =>
 bif (!y4) then (
 some (.inr (.inr false)))
 else (
 some (.inl (IntKind.wrap .i64 (s1 + 1)))))
 else (
 some (.inr (.inl s1)))
def laws_eqTurnS (a0 : (List T_Turn.D)) (a1 : (List T_Turn.D)) : Option Bool :=
 bif ((a0.length : Int) != (a1.length : Int)) then (
 some false)
 else (
(while_ (laws_eqTurnS_l1 a0 a1) 0).bind fun o5 =>
 match o5 with
| .inl s6 => (
 some true)
| .inr o7 => (
 some o7))
def laws_eqTurnS_h : Hints := (.node none none .none (.node none none .none (.node none none (.node none none .none (.node none none (.node none (some ⟨[.tmp 5 (.int .i64)], [some 0], some [.tmp 4 .bool], []⟩) .none .none) .none)) .none)))
def laws_eqTurnS_c : Ct := .pure true false (.pair (.slice T_Turn) (.pair (.slice T_Turn) .unit)) .bool (fun x => laws_eqTurnS x.1 x.2.1)
theorem laws_eqTurnS_ct : CtOk Tryz.prog 134 laws_eqTurnS_c := pure_ct (E := { T := tab, G := [(254, laws_eqTurn_c)] }) (EnvOk.cons laws_eqTurn_ct (EnvOk.nil tabOk)) mixed (fn := Tryz.f134) _ _ _ _ _ laws_eqTurnS_h Tryz.func134 (by kernel_rfl) (fun x => by kernel_rfl)
/-! loop.example/g00486/laws.eqFate -/
def laws_eqFate (a0 : T_Fate.D) (a1 : T_Fate.D) : Option Bool :=
(laws_eqEventS a0.1 a1.1).bind fun y1 =>
 bif (!y1) then (
 some false)
 else (
(laws_eqEffectS a0.2.1 a1.2.1).bind fun y2 =>
 bif (!y2) then (
 some false)
 else (
(laws_eqIntS a0.2.2.1 a1.2.2.1).bind fun y3 =>
 bif (!y3) then (
 some false)
 else (
(laws_eqTurnS a0.2.2.2.1 a1.2.2.2.1).bind fun y4 =>
 bif (!y4) then (
 some false)
 else (
 some true))))
def laws_eqFate_c : Ct := .pure true false (.pair T_Fate (.pair T_Fate .unit)) .bool (fun x => laws_eqFate x.1 x.2.1)
theorem laws_eqFate_ct : CtOk Tryz.prog 53 laws_eqFate_c := pure_ct (E := { T := tab, G := [(55, laws_eqEffectS_c), (56, laws_eqIntS_c), (66, laws_eqEventS_c), (134, laws_eqTurnS_c)] }) (EnvOk.cons laws_eqEffectS_ct (EnvOk.cons laws_eqIntS_ct (EnvOk.cons laws_eqEventS_ct (EnvOk.cons laws_eqTurnS_ct (EnvOk.nil tabOk))))) mixed (fn := Tryz.f53) _ _ _ _ _ .none Tryz.func53 (by kernel_rfl) (fun x => by kernel_rfl)
/-! loop.example/g00486/laws.eqPiece -/
def laws_eqPiece (a0 : T_Piece.D) (a1 : T_Piece.D) : Option Bool :=
 bif (a0.1 != a1.1) then (
 some false)
 else (
 bif (a0.2.1 != a1.2.1) then (
 some false)
 else (
 bif (a0.2.2.1 != a1.2.2.1) then (
 some false)
 else (
 bif (a0.2.2.2.1 != a1.2.2.2.1) then (
 some false)
 else (
 bif (a0.2.2.2.2.1 != a1.2.2.2.2.1) then (
 some false)
 else (
 bif (a0.2.2.2.2.2.1 != a1.2.2.2.2.2.1) then (
 some false)
 else (
 bif (a0.2.2.2.2.2.2.1 != a1.2.2.2.2.2.2.1) then (
 some false)
 else (
 bif (a0.2.2.2.2.2.2.2.1 != a1.2.2.2.2.2.2.2.1) then (
 some false)
 else (
 bif (a0.2.2.2.2.2.2.2.2.1 != a1.2.2.2.2.2.2.2.2.1) then (
 some false)
 else (
 bif (a0.2.2.2.2.2.2.2.2.2.1 != a1.2.2.2.2.2.2.2.2.2.1) then (
 some false)
 else (
 bif (a0.2.2.2.2.2.2.2.2.2.2.1 != a1.2.2.2.2.2.2.2.2.2.2.1) then (
 some false)
 else (
 bif (a0.2.2.2.2.2.2.2.2.2.2.2.1 != a1.2.2.2.2.2.2.2.2.2.2.2.1) then (
 some false)
 else (
 bif (a0.2.2.2.2.2.2.2.2.2.2.2.2.1 != a1.2.2.2.2.2.2.2.2.2.2.2.2.1) then (
 some false)
 else (
 some true)))))))))))))
def laws_eqPiece_c : Ct := .pure true false (.pair T_Piece (.pair T_Piece .unit)) .bool (fun x => laws_eqPiece x.1 x.2.1)
theorem laws_eqPiece_ct : CtOk Tryz.prog 283 laws_eqPiece_c := pure_ct (E := { T := tab, G := [] }) (EnvOk.nil tabOk) mixed (fn := Tryz.f283) _ _ _ _ _ .none Tryz.func283 (by kernel_rfl) (fun x => by kernel_rfl)
/-! loop.example/g00486/laws.eqPieceS -/
def laws_eqPieceS_l1 (a0 : (List T_Piece.D)) (a1 : (List T_Piece.D)) : Int → Option (Int ⊕ (Int ⊕ Bool)) := fun s1 =>
 bif decide (s1 < (a0.length : Int)) then (
 idx a0 s1 fun x2 =>
 idx a1 s1 fun x3 =>
(laws_eqPiece x2 x3).bind fun y4 =>
 bif (!y4) then (
 some (.inr (.inr false)))
 else (
 some (.inl (IntKind.wrap .i64 (s1 + 1)))))
 else (
 some (.inr (.inl s1)))
def laws_eqPieceS (a0 : (List T_Piece.D)) (a1 : (List T_Piece.D)) : Option Bool :=
 bif ((a0.length : Int) != (a1.length : Int)) then (
 some false)
 else (
(while_ (laws_eqPieceS_l1 a0 a1) 0).bind fun o5 =>
 match o5 with
| .inl s6 => (
 some true)
| .inr o7 => (
 some o7))
def laws_eqPieceS_h : Hints := (.node none none .none (.node none none .none (.node none none (.node none none .none (.node none none (.node none (some ⟨[.tmp 5 (.int .i64)], [some 0], some [.tmp 4 .bool], []⟩) .none .none) .none)) .none)))
def laws_eqPieceS_c : Ct := .pure true false (.pair (.slice T_Piece) (.pair (.slice T_Piece) .unit)) .bool (fun x => laws_eqPieceS x.1 x.2.1)
theorem laws_eqPieceS_ct : CtOk Tryz.prog 168 laws_eqPieceS_c := pure_ct (E := { T := tab, G := [(283, laws_eqPiece_c)] }) (EnvOk.cons laws_eqPiece_ct (EnvOk.nil tabOk)) mixed (fn := Tryz.f168) _ _ _ _ _ laws_eqPieceS_h Tryz.func168 (by kernel_rfl) (fun x => by kernel_rfl)
/-! loop.example/g00486/laws.eqSide -/
def laws_eqSide (a0 : T_Side.D) (a1 : T_Side.D) : Option Bool :=
 bif (a0.1 != a1.1) then (
 some false)
 else (
 bif (a0.2.1 != a1.2.1) then (
 some false)
 else (
 bif (a0.2.2.1 != a1.2.2.1) then (
 some false)
 else (
 some true)))
def laws_eqSide_c : Ct := .pure true false (.pair T_Side (.pair T_Side .unit)) .bool (fun x => laws_eqSide x.1 x.2.1)
theorem laws_eqSide_ct : CtOk Tryz.prog 284 laws_eqSide_c := pure_ct (E := { T := tab, G := [] }) (EnvOk.nil tabOk) mixed (fn := Tryz.f284) _ _ _ _ _ .none Tryz.func284 (by kernel_rfl) (fun x => by kernel_rfl)
/-! loop.example/g00486/laws.eqSideS -/
def laws_eqSideS_l1 (a0 : (List T_Side.D)) (a1 : (List T_Side.D)) : Int → Option (Int ⊕ (Int ⊕ Bool)) := fun s1 =>
 bif decide (s1 < (a0.length : Int)) then (
 idx a0 s1 fun x2 =>
 idx a1 s1 fun x3 =>
(laws_eqSide x2 x3).bind fun y4 =>
 bif (!y4) then (
 some (.inr (.inr false)))
 else (
 some (.inl (IntKind.wrap .i64 (s1 + 1)))))
 else (
 some (.inr (.inl s1)))
def laws_eqSideS (a0 : (List T_Side.D)) (a1 : (List T_Side.D)) : Option Bool :=
 bif ((a0.length : Int) != (a1.length : Int)) then (
 some false)
 else (
(while_ (laws_eqSideS_l1 a0 a1) 0).bind fun o5 =>
 match o5 with
| .inl s6 => (
 some true)
| .inr o7 => (
 some o7))
def laws_eqSideS_h : Hints := (.node none none .none (.node none none .none (.node none none (.node none none .none (.node none none (.node none (some ⟨[.tmp 5 (.int .i64)], [some 0], some [.tmp 4 .bool], []⟩) .none .none) .none)) .none)))
def laws_eqSideS_c : Ct := .pure true false (.pair (.slice T_Side) (.pair (.slice T_Side) .unit)) .bool (fun x => laws_eqSideS x.1 x.2.1)
theorem laws_eqSideS_ct : CtOk Tryz.prog 169 laws_eqSideS_c := pure_ct (E := { T := tab, G := [(284, laws_eqSide_c)] }) (EnvOk.cons laws_eqSide_ct (EnvOk.nil tabOk)) mixed (fn := Tryz.f169) _ _ _ _ _ laws_eqSideS_h Tryz.func169 (by kernel_rfl) (fun x => by kernel_rfl)
/-! loop.example/g00486/laws.eqState -/
def laws_eqState (a0 : T_State.D) (a1 : T_State.D) : Option Bool :=
(laws_eqPieceS a0.1 a1.1).bind fun y1 =>
 bif (!y1) then (
 some false)
 else (
(laws_eqSideS a0.2.1 a1.2.1).bind fun y2 =>
 bif (!y2) then (
 some false)
 else (
 bif (a0.2.2.1 != a1.2.2.1) then (
 some false)
 else (
 bif (a0.2.2.2.1 != a1.2.2.2.1) then (
 some false)
 else (
 some true))))
def laws_eqState_c : Ct := .pure true false (.pair T_State (.pair T_State .unit)) .bool (fun x => laws_eqState x.1 x.2.1)
theorem laws_eqState_ct : CtOk Tryz.prog 54 laws_eqState_c := pure_ct (E := { T := tab, G := [(168, laws_eqPieceS_c), (169, laws_eqSideS_c)] }) (EnvOk.cons laws_eqPieceS_ct (EnvOk.cons laws_eqSideS_ct (EnvOk.nil tabOk))) mixed (fn := Tryz.f54) _ _ _ _ _ .none Tryz.func54 (by kernel_rfl) (fun x => by kernel_rfl)
/-! loop.example/g00486/laws.markPieceS -/
def laws_markPieceS_l1 : ((List T_Piece.D) × (Int × Int)) → Option (((List T_Piece.D) × (Int × Int)) ⊕ ((List T_Piece.D) × (Int × Int))) := fun s2 =>
 bif decide (s2.2.2 < (s2.1.length : Int)) then (
 idx s2.1 s2.2.2 fun _ =>
(s2.1[(s2.2.2 : Int).toNat]?).bind fun x3 =>
 let u4 : (List T_Piece.D) := s2.1.set (s2.2.2 : Int).toNat (s2.2.1, x3.2)
 idx u4 s2.2.2 fun _ =>
(u4[(s2.2.2 : Int).toNat]?).bind fun x5 =>
 let u6 : (List T_Piece.D) := u4.set (s2.2.2 : Int).toNat (x5.1, IntKind.wrap .i64 (s2.2.1 + 1), x5.2.2)
 idx u6 s2.2.2 fun _ =>
(u6[(s2.2.2 : Int).toNat]?).bind fun x7 =>
 let u8 : (List T_Piece.D) := u6.set (s2.2.2 : Int).toNat (x7.1, x7.2.1, IntKind.wrap .i64 ((IntKind.wrap .i64 (s2.2.1 + 1)) + 1), x7.2.2.2)
 let k9 : Int := IntKind.wrap .i64 ((IntKind.wrap .i64 ((IntKind.wrap .i64 (s2.2.1 + 1)) + 1)) + 1)
 idx u8 s2.2.2 fun _ =>
(u8[(s2.2.2 : Int).toNat]?).bind fun x10 =>
 let u11 : (List T_Piece.D) := u8.set (s2.2.2 : Int).toNat (x10.1, x10.2.1, x10.2.2.1, k9, x10.2.2.2.2)
 idx u11 s2.2.2 fun _ =>
(u11[(s2.2.2 : Int).toNat]?).bind fun x12 =>
 let u13 : (List T_Piece.D) := u11.set (s2.2.2 : Int).toNat (x12.1, x12.2.1, x12.2.2.1, x12.2.2.2.1, IntKind.wrap .i64 (k9 + 1), x12.2.2.2.2.2)
 idx u13 s2.2.2 fun _ =>
(u13[(s2.2.2 : Int).toNat]?).bind fun x14 =>
 let u15 : (List T_Piece.D) := u13.set (s2.2.2 : Int).toNat (x14.1, x14.2.1, x14.2.2.1, x14.2.2.2.1, x14.2.2.2.2.1, IntKind.wrap .i64 ((IntKind.wrap .i64 (k9 + 1)) + 1), x14.2.2.2.2.2.2)
 let k16 : Int := IntKind.wrap .i64 ((IntKind.wrap .i64 ((IntKind.wrap .i64 (k9 + 1)) + 1)) + 1)
 idx u15 s2.2.2 fun _ =>
(u15[(s2.2.2 : Int).toNat]?).bind fun x17 =>
 let u18 : (List T_Piece.D) := u15.set (s2.2.2 : Int).toNat (x17.1, x17.2.1, x17.2.2.1, x17.2.2.2.1, x17.2.2.2.2.1, x17.2.2.2.2.2.1, k16, x17.2.2.2.2.2.2.2)
 idx u18 s2.2.2 fun _ =>
(u18[(s2.2.2 : Int).toNat]?).bind fun x19 =>
 let u20 : (List T_Piece.D) := u18.set (s2.2.2 : Int).toNat (x19.1, x19.2.1, x19.2.2.1, x19.2.2.2.1, x19.2.2.2.2.1, x19.2.2.2.2.2.1, x19.2.2.2.2.2.2.1, IntKind.wrap .i64 (k16 + 1), x19.2.2.2.2.2.2.2.2)
 idx u20 s2.2.2 fun _ =>
(u20[(s2.2.2 : Int).toNat]?).bind fun x21 =>
 let u22 : (List T_Piece.D) := u20.set (s2.2.2 : Int).toNat (x21.1, x21.2.1, x21.2.2.1, x21.2.2.2.1, x21.2.2.2.2.1, x21.2.2.2.2.2.1, x21.2.2.2.2.2.2.1, x21.2.2.2.2.2.2.2.1, IntKind.wrap .i64 ((IntKind.wrap .i64 (k16 + 1)) + 1), x21.2.2.2.2.2.2.2.2.2)
 let k23 : Int := IntKind.wrap .i64 ((IntKind.wrap .i64 ((IntKind.wrap .i64 (k16 + 1)) + 1)) + 1)
 idx u22 s2.2.2 fun _ =>
(u22[(s2.2.2 : Int).toNat]?).bind fun x24 =>
 let u25 : (List T_Piece.D) := u22.set (s2.2.2 : Int).toNat (x24.1, x24.2.1, x24.2.2.1, x24.2.2.2.1, x24.2.2.2.2.1, x24.2.2.2.2.2.1, x24.2.2.2.2.2.2.1, x24.2.2.2.2.2.2.2.1, x24.2.2.2.2.2.2.2.2.1, k23, x24.2.2.2.2.2.2.2.2.2.2)
 idx u25 s2.2.2 fun _ =>
(u25[(s2.2.2 : Int).toNat]?).bind fun x26 =>
 let u27 : (List T_Piece.D) := u25.set (s2.2.2 : Int).toNat (x26.1, x26.2.1, x26.2.2.1, x26.2.2.2.1, x26.2.2.2.2.1, x26.2.2.2.2.2.1, x26.2.2.2.2.2.2.1, x26.2.2.2.2.2.2.2.1, x26.2.2.2.2.2.2.2.2.1, x26.2.2.2.2.2.2.2.2.2.1, IntKind.wrap .i64 (k23 + 1), x26.2.2.2.2.2.2.2.2.2.2.2)
 if 3 = 0 then none else (
 let k28 : Int := (IntKind.wrap .i64 ((IntKind.wrap .i64 (k23 + 1)) + 1)).tmod 3
 idx u27 s2.2.2 fun _ =>
(u27[(s2.2.2 : Int).toNat]?).bind fun x29 =>
 let u30 : (List T_Piece.D) := u27.set (s2.2.2 : Int).toNat (x29.1, x29.2.1, x29.2.2.1, x29.2.2.2.1, x29.2.2.2.2.1, x29.2.2.2.2.2.1, x29.2.2.2.2.2.2.1, x29.2.2.2.2.2.2.2.1, x29.2.2.2.2.2.2.2.2.1, x29.2.2.2.2.2.2.2.2.2.1, x29.2.2.2.2.2.2.2.2.2.2.1, (k28 == 0), x29.2.2.2.2.2.2.2.2.2.2.2.2)
 let k31 : Int := IntKind.wrap .i64 ((IntKind.wrap .i64 ((IntKind.wrap .i64 (k23 + 1)) + 1)) + 1)
 if 3 = 0 then none else (
 idx u30 s2.2.2 fun _ =>
(u30[(s2.2.2 : Int).toNat]?).bind fun x32 =>
 let u33 : (List T_Piece.D) := u30.set (s2.2.2 : Int).toNat (x32.1, x32.2.1, x32.2.2.1, x32.2.2.2.1, x32.2.2.2.2.1, x32.2.2.2.2.2.1, x32.2.2.2.2.2.2.1, x32.2.2.2.2.2.2.2.1, x32.2.2.2.2.2.2.2.2.1, x32.2.2.2.2.2.2.2.2.2.1, x32.2.2.2.2.2.2.2.2.2.2.1, x32.2.2.2.2.2.2.2.2.2.2.2.1, ((k31.tmod 3) == 0), ())
 some (.inl (u33, IntKind.wrap .i64 (k31 + 1), IntKind.wrap .i64 (s2.2.2 + 1))))))
 else (
 some (.inr s2))
def laws_markPieceS (a0 : (List T_Piece.D)) (a1 : Int) : Option (Int × ((List T_Piece.D) × Unit)) :=
(while_ (laws_markPieceS_l1) (a0, a1, 0)).bind fun o34 =>
 some (o34.2.1, (o34.1, ()))
def laws_markPieceS_h : Hints := (.node none none .none (.node none none (.node none none .none (.node none none (.node none (some ⟨[.tmpO 0 1 (.slice T_Piece), .tmp 1 (.int .i64), .tmp 5 (.int .i64)], [some 0], none, []⟩) .none .none) .none)) .none))
def laws_markPieceS_c : Ct := .mut [.lent, .rd] true true (.pair (.slice T_Piece) (.pair (.int .i64) .unit)) (.int .i64) (fun x => laws_markPieceS x.1 x.2.1)
theorem laws_markPieceS_ct : CtOk Tryz.prog 170 laws_markPieceS_c := mut_ct (E := { T := tab, G := [] }) (EnvOk.nil tabOk) mixed (fn := Tryz.f170) _ _ _ _ _ _ laws_markPieceS_h Tryz.func170 (by kernel_rfl) (fun x => by kernel_rfl)
/-! loop.example/g00486/laws.markSideS -/
def laws_markSideS_l1 : ((List T_Side.D) × (Int × Int)) → Option (((List T_Side.D) × (Int × Int)) ⊕ ((List T_Side.D) × (Int × Int))) := fun s2 =>
 bif decide (s2.2.2 < (s2.1.length : Int)) then (
 idx s2.1 s2.2.2 fun _ =>
(s2.1[(s2.2.2 : Int).toNat]?).bind fun x3 =>
 let u4 : (List T_Side.D) := s2.1.set (s2.2.2 : Int).toNat (s2.2.1, x3.2)
 idx u4 s2.2.2 fun _ =>
(u4[(s2.2.2 : Int).toNat]?).bind fun x5 =>
 let u6 : (List T_Side.D) := u4.set (s2.2.2 : Int).toNat (x5.1, IntKind.wrap .i64 (s2.2.1 + 1), x5.2.2)
 if 3 = 0 then none else (
 let k7 : Int := (IntKind.wrap .i64 ((IntKind.wrap .i64 (s2.2.1 + 1)) + 1)).tmod 3
 idx u6 s2.2.2 fun _ =>
(u6[(s2.2.2 : Int).toNat]?).bind fun x8 =>
 let u9 : (List T_Side.D) := u6.set (s2.2.2 : Int).toNat (x8.1, x8.2.1, (k7 == 0), ())
 let k10 : Int := IntKind.wrap .i64 ((IntKind.wrap .i64 ((IntKind.wrap .i64 (s2.2.1 + 1)) + 1)) + 1)
 some (.inl (u9, k10, IntKind.wrap .i64 (s2.2.2 + 1)))))
 else (
 some (.inr s2))
def laws_markSideS (a0 : (List T_Side.D)) (a1 : Int) : Option (Int × ((List T_Side.D) × Unit)) :=
(while_ (laws_markSideS_l1) (a0, a1, 0)).bind fun o11 =>
 some (o11.2.1, (o11.1, ()))
def laws_markSideS_h : Hints := (.node none none .none (.node none none (.node none none .none (.node none none (.node none (some ⟨[.tmpO 0 1 (.slice T_Side), .tmp 1 (.int .i64), .tmp 5 (.int .i64)], [some 0], none, []⟩) .none .none) .none)) .none))
def laws_markSideS_c : Ct := .mut [.lent, .rd] true true (.pair (.slice T_Side) (.pair (.int .i64) .unit)) (.int .i64) (fun x => laws_markSideS x.1 x.2.1)
theorem laws_markSideS_ct : CtOk Tryz.prog 171 laws_markSideS_c := mut_ct (E := { T := tab, G := [] }) (EnvOk.nil tabOk) mixed (fn := Tryz.f171) _ _ _ _ _ _ laws_markSideS_h Tryz.func171 (by kernel_rfl) (fun x => by kernel_rfl)
/-! loop.example/g00486/laws.markState -/
def laws_markState (a0 : T_State.D) (a1 : Int) : Option (Int × (T_State.D × Unit)) :=
(laws_markPieceS a0.1 a1).bind fun y1 =>
(laws_markSideS a0.2.1 y1.1).bind fun y2 =>
 some (y2.1, ((y1.2.1, y2.2.1, a0.2.2), ()))
def laws_markState_c : Ct := .mut [.lent, .rd] true true (.pair T_State (.pair (.int .i64) .unit)) (.int .i64) (fun x => laws_markState x.1 x.2.1)
theorem laws_markState_ct : CtOk Tryz.prog 57 laws_markState_c := mut_ct (E := { T := tab, G := [(170, laws_markPieceS_c), (171, laws_markSideS_c)] }) (EnvOk.cons laws_markPieceS_ct (EnvOk.cons laws_markSideS_ct (EnvOk.nil tabOk))) mixed (fn := Tryz.f57) _ _ _ _ _ _ .none Tryz.func57 (by kernel_rfl) (fun x => by kernel_rfl)
/-! loop.example/g00486/laws.markEventS -/
def laws_markEventS_l1 : ((List T_Event.D) × (Int × Int)) → Option (((List T_Event.D) × (Int × Int)) ⊕ ((List T_Event.D) × (Int × Int))) := fun s2 =>
 bif decide (s2.2.2 < (s2.1.length : Int)) then (
 idx s2.1 s2.2.2 fun _ =>
(s2.1[(s2.2.2 : Int).toNat]?).bind fun x3 =>
 let u4 : (List T_Event.D) := s2.1.set (s2.2.2 : Int).toNat (s2.2.1, x3.2)
 idx u4 s2.2.2 fun _ =>
(u4[(s2.2.2 : Int).toNat]?).bind fun x5 =>
 let u6 : (List T_Event.D) := u4.set (s2.2.2 : Int).toNat (x5.1, IntKind.wrap .i64 (s2.2.1 + 1), x5.2.2)
 idx u6 s2.2.2 fun _ =>
(u6[(s2.2.2 : Int).toNat]?).bind fun x7 =>
 let u8 : (List T_Event.D) := u6.set (s2.2.2 : Int).toNat (x7.1, x7.2.1, IntKind.wrap .i64 ((IntKind.wrap .i64 (s2.2.1 + 1)) + 1), x7.2.2.2)
 let k9 : Int := IntKind.wrap .i64 ((IntKind.wrap .i64 ((IntKind.wrap .i64 (s2.2.1 + 1)) + 1)) + 1)
 idx u8 s2.2.2 fun _ =>
(u8[(s2.2.2 : Int).toNat]?).bind fun x10 =>
 let u11 : (List T_Event.D) := u8.set (s2.2.2 : Int).toNat (x10.1, x10.2.1, x10.2.2.1, k9, x10.2.2.2.2)
 idx u11 s2.2.2 fun _ =>
(u11[(s2.2.2 : Int).toNat]?).bind fun x12 =>
 let u13 : (List T_Event.D) := u11.set (s2.2.2 : Int).toNat (x12.1, x12.2.1, x12.2.2.1, x12.2.2.2.1, IntKind.wrap .i64 (k9 + 1), x12.2.2.2.2.2)
 idx u13 s2.2.2 fun _ =>
(u13[(s2.2.2 : Int).toNat]?).bind fun x14 =>
 let u15 : (List T_Event.D) := u13.set (s2.2.2 : Int).toNat (x14.1, x14.2.1, x14.2.2.1, x14.2.2.2.1, x14.2.2.2.2.1, IntKind.wrap .i64 ((IntKind.wrap .i64 (k9 + 1)) + 1), x14.2.2.2.2.2.2)
 let k16 : Int := IntKind.wrap .i64 ((IntKind.wrap .i64 ((IntKind.wrap .i64 (k9 + 1)) + 1)) + 1)
 if 3 = 0 then none else (
 idx u15 s2.2.2 fun _ =>
(u15[(s2.2.2 : Int).toNat]?).bind fun x17 =>
 let u18 : (List T_Event.D) := u15.set (s2.2.2 : Int).toNat (x17.1, x17.2.1, x17.2.2.1, x17.2.2.2.1, x17.2.2.2.2.1, x17.2.2.2.2.2.1, ((k16.tmod 3) == 0), ())
 some (.inl (u18, IntKind.wrap .i64 (k16 + 1), IntKind.wrap .i64 (s2.2.2 + 1)))))
 else (
 some (.inr s2))
def laws_markEventS (a0 : (List T_Event.D)) (a1 : Int) : Option (Int × ((List T_Event.D) × Unit)) :=
(while_ (laws_markEventS_l1) (a0, a1, 0)).bind fun o19 =>
 some (o19.2.1, (o19.1, ()))
def laws_markEventS_h : Hints := (.node none none .none (.node none none (.node none none .none (.node none none (.node none (some ⟨[.tmpO 0 1 (.slice T_Event), .tmp 1 (.int .i64), .tmp 5 (.int .i64)], [some 0], none, []⟩) .none .none) .none)) .none))
def laws_markEventS_c : Ct := .mut [.lent, .rd] true true (.pair (.slice T_Event) (.pair (.int .i64) .unit)) (.int .i64) (fun x => laws_markEventS x.1 x.2.1)
theorem laws_markEventS_ct : CtOk Tryz.prog 67 laws_markEventS_c := mut_ct (E := { T := tab, G := [] }) (EnvOk.nil tabOk) mixed (fn := Tryz.f67) _ _ _ _ _ _ laws_markEventS_h Tryz.func67 (by kernel_rfl) (fun x => by kernel_rfl)
/-! loop.example/g00486/laws.markEffectS -/
def laws_markEffectS_l1 : ((List T_Effect.D) × (Int × Int)) → Option (((List T_Effect.D) × (Int × Int)) ⊕ ((List T_Effect.D) × (Int × Int))) := fun s2 =>
 bif decide (s2.2.2 < (s2.1.length : Int)) then (
 idx s2.1 s2.2.2 fun _ =>
(s2.1[(s2.2.2 : Int).toNat]?).bind fun x3 =>
 let u4 : (List T_Effect.D) := s2.1.set (s2.2.2 : Int).toNat (s2.2.1, x3.2)
 idx u4 s2.2.2 fun _ =>
(u4[(s2.2.2 : Int).toNat]?).bind fun x5 =>
 let u6 : (List T_Effect.D) := u4.set (s2.2.2 : Int).toNat (x5.1, IntKind.wrap .i64 (s2.2.1 + 1), x5.2.2)
 idx u6 s2.2.2 fun _ =>
(u6[(s2.2.2 : Int).toNat]?).bind fun x7 =>
 let u8 : (List T_Effect.D) := u6.set (s2.2.2 : Int).toNat (x7.1, x7.2.1, IntKind.wrap .i64 ((IntKind.wrap .i64 (s2.2.1 + 1)) + 1), x7.2.2.2)
 let k9 : Int := IntKind.wrap .i64 ((IntKind.wrap .i64 ((IntKind.wrap .i64 (s2.2.1 + 1)) + 1)) + 1)
 idx u8 s2.2.2 fun _ =>
(u8[(s2.2.2 : Int).toNat]?).bind fun x10 =>
 let u11 : (List T_Effect.D) := u8.set (s2.2.2 : Int).toNat (x10.1, x10.2.1, x10.2.2.1, k9, x10.2.2.2.2)
 idx u11 s2.2.2 fun _ =>
(u11[(s2.2.2 : Int).toNat]?).bind fun x12 =>
 let u13 : (List T_Effect.D) := u11.set (s2.2.2 : Int).toNat (x12.1, x12.2.1, x12.2.2.1, x12.2.2.2.1, (IntKind.wrap .i64 (k9 + 1), x12.2.2.2.2.1.2), x12.2.2.2.2.2)
 idx u13 s2.2.2 fun _ =>
(u13[(s2.2.2 : Int).toNat]?).bind fun x14 =>
 let u15 : (List T_Effect.D) := u13.set (s2.2.2 : Int).toNat (x14.1, x14.2.1, x14.2.2.1, x14.2.2.2.1, (x14.2.2.2.2.1.1, IntKind.wrap .i64 ((IntKind.wrap .i64 (k9 + 1)) + 1), x14.2.2.2.2.1.2.2), x14.2.2.2.2.2)
 let k16 : Int := IntKind.wrap .i64 ((IntKind.wrap .i64 ((IntKind.wrap .i64 (k9 + 1)) + 1)) + 1)
 idx u15 s2.2.2 fun _ =>
(u15[(s2.2.2 : Int).toNat]?).bind fun x17 =>
 let u18 : (List T_Effect.D) := u15.set (s2.2.2 : Int).toNat (x17.1, x17.2.1, x17.2.2.1, x17.2.2.2.1, (x17.2.2.2.2.1.1, x17.2.2.2.2.1.2.1, k16, x17.2.2.2.2.1.2.2.2), x17.2.2.2.2.2)
 idx u18 s2.2.2 fun _ =>
(u18[(s2.2.2 : Int).toNat]?).bind fun x19 =>
 let u20 : (List T_Effect.D) := u18.set (s2.2.2 : Int).toNat (x19.1, x19.2.1, x19.2.2.1, x19.2.2.2.1, (x19.2.2.2.2.1.1, x19.2.2.2.2.1.2.1, x19.2.2.2.2.1.2.2.1, IntKind.wrap .i64 (k16 + 1), x19.2.2.2.2.1.2.2.2.2), x19.2.2.2.2.2)
 idx u20 s2.2.2 fun _ =>
(u20[(s2.2.2 : Int).toNat]?).bind fun x21 =>
 let u22 : (List T_Effect.D) := u20.set (s2.2.2 : Int).toNat (x21.1, x21.2.1, x21.2.2.1, x21.2.2.2.1, (x21.2.2.2.2.1.1, x21.2.2.2.2.1.2.1, x21.2.2.2.2.1.2.2.1, x21.2.2.2.2.1.2.2.2.1, IntKind.wrap .i64 ((IntKind.wrap .i64 (k16 + 1)) + 1), x21.2.2.2.2.1.2.2.2.2.2), x21.2.2.2.2.2)
 let k23 : Int := IntKind.wrap .i64 ((IntKind.wrap .i64 ((IntKind.wrap .i64 (k16 + 1)) + 1)) + 1)
 idx u22 s2.2.2 fun _ =>
(u22[(s2.2.2 : Int).toNat]?).bind fun x24 =>
 let u25 : (List T_Effect.D) := u22.set (s2.2.2 : Int).toNat (x24.1, x24.2.1, x24.2.2.1, x24.2.2.2.1, (x24.2.2.2.2.1.1, x24.2.2.2.2.1.2.1, x24.2.2.2.2.1.2.2.1, x24.2.2.2.2.1.2.2.2.1, x24.2.2.2.2.1.2.2.2.2.1, k23, x24.2.2.2.2.1.2.2.2.2.2.2), x24.2.2.2.2.2)
 idx u25 s2.2.2 fun _ =>
(u25[(s2.2.2 : Int).toNat]?).bind fun x26 =>
 let u27 : (List T_Effect.D) := u25.set (s2.2.2 : Int).toNat (x26.1, x26.2.1, x26.2.2.1, x26.2.2.2.1, (x26.2.2.2.2.1.1, x26.2.2.2.2.1.2.1, x26.2.2.2.2.1.2.2.1, x26.2.2.2.2.1.2.2.2.1, x26.2.2.2.2.1.2.2.2.2.1, x26.2.2.2.2.1.2.2.2.2.2.1, IntKind.wrap .i64 (k23 + 1), ()), x26.2.2.2.2.2)
 idx u27 s2.2.2 fun _ =>
(u27[(s2.2.2 : Int).toNat]?).bind fun x28 =>
 let u29 : (List T_Effect.D) := u27.set (s2.2.2 : Int).toNat (x28.1, x28.2.1, x28.2.2.1, x28.2.2.2.1, x28.2.2.2.2.1, (IntKind.wrap .i64 ((IntKind.wrap .i64 (k23 + 1)) + 1), x28.2.2.2.2.2.1.2), x28.2.2.2.2.2.2)
 let k30 : Int := IntKind.wrap .i64 ((IntKind.wrap .i64 ((IntKind.wrap .i64 (k23 + 1)) + 1)) + 1)
 idx u29 s2.2.2 fun _ =>
(u29[(s2.2.2 : Int).toNat]?).bind fun x31 =>
 let u32 : (List T_Effect.D) := u29.set (s2.2.2 : Int).toNat (x31.1, x31.2.1, x31.2.2.1, x31.2.2.2.1, x31.2.2.2.2.1, (x31.2.2.2.2.2.1.1, k30, ()), x31.2.2.2.2.2.2)
 idx u32 s2.2.2 fun _ =>
(u32[(s2.2.2 : Int).toNat]?).bind fun x33 =>
 let u34 : (List T_Effect.D) := u32.set (s2.2.2 : Int).toNat (x33.1, x33.2.1, x33.2.2.1, x33.2.2.2.1, x33.2.2.2.2.1, x33.2.2.2.2.2.1, (IntKind.wrap .i64 (k30 + 1), x33.2.2.2.2.2.2.1.2), x33.2.2.2.2.2.2.2)
 idx u34 s2.2.2 fun _ =>
(u34[(s2.2.2 : Int).toNat]?).bind fun x35 =>
 let u36 : (List T_Effect.D) := u34.set (s2.2.2 : Int).toNat (x35.1, x35.2.1, x35.2.2.1, x35.2.2.2.1, x35.2.2.2.2.1, x35.2.2.2.2.2.1, (x35.2.2.2.2.2.2.1.1, IntKind.wrap .i64 ((IntKind.wrap .i64 (k30 + 1)) + 1), x35.2.2.2.2.2.2.1.2.2), x35.2.2.2.2.2.2.2)
 let k37 : Int := IntKind.wrap .i64 ((IntKind.wrap .i64 ((IntKind.wrap .i64 (k30 + 1)) + 1)) + 1)
 idx u36 s2.2.2 fun _ =>
(u36[(s2.2.2 : Int).toNat]?).bind fun x38 =>
 let u39 : (List T_Effect.D) := u36.set (s2.2.2 : Int).toNat (x38.1, x38.2.1, x38.2.2.1, x38.2.2.2.1, x38.2.2.2.2.1, x38.2.2.2.2.2.1, (x38.2.2.2.2.2.2.1.1, x38.2.2.2.2.2.2.1.2.1, k37, x38.2.2.2.2.2.2.1.2.2.2), x38.2.2.2.2.2.2.2)
 idx u39 s2.2.2 fun _ =>
(u39[(s2.2.2 : Int).toNat]?).bind fun x40 =>
 let u41 : (List T_Effect.D) := u39.set (s2.2.2 : Int).toNat (x40.1, x40.2.1, x40.2.2.1, x40.2.2.2.1, x40.2.2.2.2.1, x40.2.2.2.2.2.1, (x40.2.2.2.2.2.2.1.1, x40.2.2.2.2.2.2.1.2.1, x40.2.2.2.2.2.2.1.2.2.1, IntKind.wrap .i64 (k37 + 1), x40.2.2.2.2.2.2.1.2.2.2.2), x40.2.2.2.2.2.2.2)
 idx u41 s2.2.2 fun _ =>
(u41[(s2.2.2 : Int).toNat]?).bind fun x42 =>
 let u43 : (List T_Effect.D) := u41.set (s2.2.2 : Int).toNat (x42.1, x42.2.1, x42.2.2.1, x42.2.2.2.1, x42.2.2.2.2.1, x42.2.2.2.2.2.1, (x42.2.2.2.2.2.2.1.1, x42.2.2.2.2.2.2.1.2.1, x42.2.2.2.2.2.2.1.2.2.1, x42.2.2.2.2.2.2.1.2.2.2.1, IntKind.wrap .i64 ((IntKind.wrap .i64 (k37 + 1)) + 1), x42.2.2.2.2.2.2.1.2.2.2.2.2), x42.2.2.2.2.2.2.2)
 let k44 : Int := IntKind.wrap .i64 ((IntKind.wrap .i64 ((IntKind.wrap .i64 (k37 + 1)) + 1)) + 1)
 if 3 = 0 then none else (
 idx u43 s2.2.2 fun _ =>
(u43[(s2.2.2 : Int).toNat]?).bind fun x45 =>
 let u46 : (List T_Effect.D) := u43.set (s2.2.2 : Int).toNat (x45.1, x45.2.1, x45.2.2.1, x45.2.2.2.1, x45.2.2.2.2.1, x45.2.2.2.2.2.1, (x45.2.2.2.2.2.2.1.1, x45.2.2.2.2.2.2.1.2.1, x45.2.2.2.2.2.2.1.2.2.1, x45.2.2.2.2.2.2.1.2.2.2.1, x45.2.2.2.2.2.2.1.2.2.2.2.1, ((k44.tmod 3) == 0), x45.2.2.2.2.2.2.1.2.2.2.2.2.2), x45.2.2.2.2.2.2.2)
 idx u46 s2.2.2 fun _ =>
(u46[(s2.2.2 : Int).toNat]?).bind fun x47 =>
(laws_markEventS x47.2.2.2.2.2.2.1.2.2.2.2.2.2.1 (IntKind.wrap .i64 (k44 + 1))).bind fun y48 =>
 let u49 : (List T_Effect.D) := u46.set (s2.2.2 : Int).toNat (x47.1, x47.2.1, x47.2.2.1, x47.2.2.2.1, x47.2.2.2.2.1, x47.2.2.2.2.2.1, (x47.2.2.2.2.2.2.1.1, x47.2.2.2.2.2.2.1.2.1, x47.2.2.2.2.2.2.1.2.2.1, x47.2.2.2.2.2.2.1.2.2.2.1, x47.2.2.2.2.2.2.1.2.2.2.2.1, x47.2.2.2.2.2.2.1.2.2.2.2.2.1, y48.2), x47.2.2.2.2.2.2.2)
 idx u49 s2.2.2 fun _ =>
(u49[(s2.2.2 : Int).toNat]?).bind fun x50 =>
 let u51 : (List T_Effect.D) := u49.set (s2.2.2 : Int).toNat (x50.1, x50.2.1, x50.2.2.1, x50.2.2.2.1, x50.2.2.2.2.1, x50.2.2.2.2.2.1, x50.2.2.2.2.2.2.1, y48.1, x50.2.2.2.2.2.2.2.2)
 idx u51 s2.2.2 fun _ =>
(u51[(s2.2.2 : Int).toNat]?).bind fun x52 =>
 let u53 : (List T_Effect.D) := u51.set (s2.2.2 : Int).toNat (x52.1, x52.2.1, x52.2.2.1, x52.2.2.2.1, x52.2.2.2.2.1, x52.2.2.2.2.2.1, x52.2.2.2.2.2.2.1, x52.2.2.2.2.2.2.2.1, IntKind.wrap .i64 (y48.1 + 1), ())
 some (.inl (u53, IntKind.wrap .i64 ((IntKind.wrap .i64 (y48.1 + 1)) + 1), IntKind.wrap .i64 (s2.2.2 + 1)))))
 else (
 some (.inr s2))
def laws_markEffectS (a0 : (List T_Effect.D)) (a1 : Int) : Option (Int × ((List T_Effect.D) × Unit)) :=
(while_ (laws_markEffectS_l1) (a0, a1, 0)).bind fun o54 =>
 some (o54.2.1, (o54.1, ()))
def laws_markEffectS_h : Hints := (.node none none .none (.node none none (.node none none .none (.node none none (.node none (some ⟨[.tmpO 0 1 (.slice T_Effect), .tmp 1 (.int .i64), .tmp 5 (.int .i64)], [some 0], none, []⟩) (.node none none .none (.node none none (.node none none (.node none none .none (.node none none .none (.node none none .none (.node none none .none (.node none none .none (.node none none .none (.node none none .none (.node none none .none (.node none none .none (.node none none .none (.node none none .none (.node none none .none (.node none none .none (.node none none .none (.node none none .none (.node none none .none (.node none none .none (.node none none .none (.node none none .none (.node none none .none (.node none none .none (.node none none .none (.node none none .none (.node none none .none (.node none none .none (.node none none .none (.node none none .none (.node none none .none (.node none none .none (.node none none .none (.node none none .none (.node none none .none (.node none none .none (.node none none .none (.node none none .none (.node none none .none (.node none none .none (.node none none .none (.node none none (.node none (some ⟨[], [], none, [(5, 0)]⟩) .none .none) .none))))))))))))))))))))))))))))))))))))))) .none) .none)) .none) .none)) .none))
def laws_markEffectS_c : Ct := .mut [.lent, .rd] true true (.pair (.slice T_Effect) (.pair (.int .i64) .unit)) (.int .i64) (fun x => laws_markEffectS x.1 x.2.1)
theorem laws_markEffectS_ct : CtOk Tryz.prog 58 laws_markEffectS_c := mut_ct (E := { T := tab, G := [(67, laws_markEventS_c)] }) (EnvOk.cons laws_markEventS_ct (EnvOk.nil tabOk)) mixed (fn := Tryz.f58) _ _ _ _ _ _ laws_markEffectS_h Tryz.func58 (by kernel_rfl) (fun x => by kernel_rfl)
/-! loop.example/g00486/laws.markIntS -/
def laws_markIntS_l1 : ((List Int) × (Int × Int)) → Option (((List Int) × (Int × Int)) ⊕ ((List Int) × (Int × Int))) := fun s2 =>
 bif decide (s2.2.2 < (s2.1.length : Int)) then (
 idx s2.1 s2.2.2 fun _ =>
(s2.1[(s2.2.2 : Int).toNat]?).bind fun x3 =>
 let u4 : (List Int) := s2.1.set (s2.2.2 : Int).toNat s2.2.1
 some (.inl (u4, IntKind.wrap .i64 (s2.2.1 + 1), IntKind.wrap .i64 (s2.2.2 + 1))))
 else (
 some (.inr s2))
def laws_markIntS (a0 : (List Int)) (a1 : Int) : Option (Int × ((List Int) × Unit)) :=
(while_ (laws_markIntS_l1) (a0, a1, 0)).bind fun o5 =>
 some (o5.2.1, (o5.1, ()))
def laws_markIntS_h : Hints := (.node none none .none (.node none none (.node none none .none (.node none none (.node none (some ⟨[.tmpO 0 1 (.slice (.int .i64)), .tmp 1 (.int .i64), .tmp 5 (.int .i64)], [some 0], none, []⟩) .none .none) .none)) .none))
def laws_markIntS_c : Ct := .mut [.lent, .rd] true true (.pair (.slice (.int .i64)) (.pair (.int .i64) .unit)) (.int .i64) (fun x => laws_markIntS x.1 x.2.1)
theorem laws_markIntS_ct : CtOk Tryz.prog 59 laws_markIntS_c := mut_ct (E := { T := tab, G := [] }) (EnvOk.nil tabOk) mixed (fn := Tryz.f59) _ _ _ _ _ _ laws_markIntS_h Tryz.func59 (by kernel_rfl) (fun x => by kernel_rfl)
/-! loop.example/g00486/laws.markTurnS -/
def laws_markTurnS_l1 : ((List T_Turn.D) × (Int × Int)) → Option (((List T_Turn.D) × (Int × Int)) ⊕ ((List T_Turn.D) × (Int × Int))) := fun s2 =>
 bif decide (s2.2.2 < (s2.1.length : Int)) then (
 idx s2.1 s2.2.2 fun _ =>
(s2.1[(s2.2.2 : Int).toNat]?).bind fun x3 =>
 let u4 : (List T_Turn.D) := s2.1.set (s2.2.2 : Int).toNat (s2.2.1, x3.2)
 idx u4 s2.2.2 fun _ =>
(u4[(s2.2.2 : Int).toNat]?).bind fun x5 =>
 let u6 : (List T_Turn.D) := u4.set (s2.2.2 : Int).toNat (x5.1, IntKind.wrap .i64 (s2.2.1 + 1), x5.2.2)
 idx u6 s2.2.2 fun _ =>
(u6[(s2.2.2 : Int).toNat]?).bind fun x7 =>
 let u8 : (List T_Turn.D) := u6.set (s2.2.2 : Int).toNat (x7.1, x7.2.1, IntKind.wrap .i64 ((IntKind.wrap .i64 (s2.2.1 + 1)) + 1), x7.2.2.2)
 let k9 : Int := IntKind.wrap .i64 ((IntKind.wrap .i64 ((IntKind.wrap .i64 (s2.2.1 + 1)) + 1)) + 1)
 idx u8 s2.2.2 fun _ =>
(u8[(s2.2.2 : Int).toNat]?).bind fun x10 =>
 let u11 : (List T_Turn.D) := u8.set (s2.2.2 : Int).toNat (x10.1, x10.2.1, x10.2.2.1, k9, x10.2.2.2.2)
 idx u11 s2.2.2 fun _ =>
(u11[(s2.2.2 : Int).toNat]?).bind fun x12 =>
 let u13 : (List T_Turn.D) := u11.set (s2.2.2 : Int).toNat (x12.1, x12.2.1, x12.2.2.1, x12.2.2.2.1, (IntKind.wrap .i64 (k9 + 1), x12.2.2.2.2.1.2), x12.2.2.2.2.2)
 idx u13 s2.2.2 fun _ =>
(u13[(s2.2.2 : Int).toNat]?).bind fun x14 =>
 let u15 : (List T_Turn.D) := u13.set (s2.2.2 : Int).toNat (x14.1, x14.2.1, x14.2.2.1, x14.2.2.2.1, (x14.2.2.2.2.1.1, IntKind.wrap .i64 ((IntKind.wrap .i64 (k9 + 1)) + 1), x14.2.2.2.2.1.2.2), x14.2.2.2.2.2)
 let k16 : Int := IntKind.wrap .i64 ((IntKind.wrap .i64 ((IntKind.wrap .i64 (k9 + 1)) + 1)) + 1)
 idx u15 s2.2.2 fun _ =>
(u15[(s2.2.2 : Int).toNat]?).bind fun x17 =>
 let u18 : (List T_Turn.D) := u15.set (s2.2.2 : Int).toNat (x17.1, x17.2.1, x17.2.2.1, x17.2.2.2.1, (x17.2.2.2.2.1.1, x17.2.2.2.2.1.2.1, k16, x17.2.2.2.2.1.2.2.2), x17.2.2.2.2.2)
 idx u18 s2.2.2 fun _ =>
(u18[(s2.2.2 : Int).toNat]?).bind fun x19 =>
 let u20 : (List T_Turn.D) := u18.set (s2.2.2 : Int).toNat (x19.1, x19.2.1, x19.2.2.1, x19.2.2.2.1, (x19.2.2.2.2.1.1, x19.2.2.2.2.1.2.1, x19.2.2.2.2.1.2.2.1, IntKind.wrap .i64 (k16 + 1), x19.2.2.2.2.1.2.2.2.2), x19.2.2.2.2.2)
 idx u20 s2.2.2 fun _ =>
(u20[(s2.2.2 : Int).toNat]?).bind fun x21 =>
 let u22 : (List T_Turn.D) := u20.set (s2.2.2 : Int).toNat (x21.1, x21.2.1, x21.2.2.1, x21.2.2.2.1, (x21.2.2.2.2.1.1, x21.2.2.2.2.1.2.1, x21.2.2.2.2.1.2.2.1, x21.2.2.2.2.1.2.2.2.1, IntKind.wrap .i64 ((IntKind.wrap .i64 (k16 + 1)) + 1), x21.2.2.2.2.1.2.2.2.2.2), x21.2.2.2.2.2)
 let k23 : Int := IntKind.wrap .i64 ((IntKind.wrap .i64 ((IntKind.wrap .i64 (k16 + 1)) + 1)) + 1)
 idx u22 s2.2.2 fun _ =>
(u22[(s2.2.2 : Int).toNat]?).bind fun x24 =>
 let u25 : (List T_Turn.D) := u22.set (s2.2.2 : Int).toNat (x24.1, x24.2.1, x24.2.2.1, x24.2.2.2.1, (x24.2.2.2.2.1.1, x24.2.2.2.2.1.2.1, x24.2.2.2.2.1.2.2.1, x24.2.2.2.2.1.2.2.2.1, x24.2.2.2.2.1.2.2.2.2.1, k23, x24.2.2.2.2.1.2.2.2.2.2.2), x24.2.2.2.2.2)
 if 3 = 0 then none else (
 idx u25 s2.2.2 fun _ =>
(u25[(s2.2.2 : Int).toNat]?).bind fun x26 =>
 let u27 : (List T_Turn.D) := u25.set (s2.2.2 : Int).toNat (x26.1, x26.2.1, x26.2.2.1, x26.2.2.2.1, (x26.2.2.2.2.1.1, x26.2.2.2.2.1.2.1, x26.2.2.2.2.1.2.2.1, x26.2.2.2.2.1.2.2.2.1, x26.2.2.2.2.1.2.2.2.2.1, x26.2.2.2.2.1.2.2.2.2.2.1, (((IntKind.wrap .i64 (k23 + 1)).tmod 3) == 0), ()), x26.2.2.2.2.2)
 idx u27 s2.2.2 fun _ =>
(u27[(s2.2.2 : Int).toNat]?).bind fun x28 =>
(laws_markEventS x28.2.2.2.2.2.1 (IntKind.wrap .i64 ((IntKind.wrap .i64 (k23 + 1)) + 1))).bind fun y29 =>
 let u30 : (List T_Turn.D) := u27.set (s2.2.2 : Int).toNat (x28.1, x28.2.1, x28.2.2.1, x28.2.2.2.1, x28.2.2.2.2.1, y29.2.1, x28.2.2.2.2.2.2)
 idx u30 s2.2.2 fun _ =>
(u30[(s2.2.2 : Int).toNat]?).bind fun x31 =>
 let u32 : (List T_Turn.D) := u30.set (s2.2.2 : Int).toNat (x31.1, x31.2.1, x31.2.2.1, x31.2.2.2.1, x31.2.2.2.2.1, x31.2.2.2.2.2.1, y29.1, x31.2.2.2.2.2.2.2)
 idx u32 s2.2.2 fun _ =>
(u32[(s2.2.2 : Int).toNat]?).bind fun x33 =>
 let u34 : (List T_Turn.D) := u32.set (s2.2.2 : Int).toNat (x33.1, x33.2.1, x33.2.2.1, x33.2.2.2.1, x33.2.2.2.2.1, x33.2.2.2.2.2.1, x33.2.2.2.2.2.2.1, IntKind.wrap .i64 (y29.1 + 1), ())
 some (.inl (u34, IntKind.wrap .i64 ((IntKind.wrap .i64 (y29.1 + 1)) + 1), IntKind.wrap .i64 (s2.2.2 + 1)))))
 else (
 some (.inr s2))
def laws_markTurnS (a0 : (List T_Turn.D)) (a1 : Int) : Option (Int × ((List T_Turn.D) × Unit)) :=
(while_ (laws_markTurnS_l1) (a0, a1, 0)).bind fun o35 =>
 some (o35.2.1, (o35.1, ()))
def laws_markTurnS_h : Hints := (.node none none .none (.node none none (.node none none .none (.node none none (.node none (some ⟨[.tmpO 0 1 (.slice T_Turn), .tmp 1 (.int .i64), .tmp 5 (.int .i64)], [some 0], none, []⟩) (.node none none .none (.node none none (.node none none (.node none none .none (.node none none .none (.node none none .none (.node none none .none (.node none none .none (.node none none .none (.node none none .none (.node none none .none (.node none none .none (.node none none .none (.node none none .none (.node none none .none (.node none none .none (.node none none .none (.node none none .none (.node none none .none (.node none none .none (.node none none .none (.node none none .none (.node none none .none (.node none none .none (.node none none .none (.node none none (.node none (some ⟨[], [], none, [(4, 0)]⟩) .none .none) .none))))))))))))))))))))))) .none) .none)) .none) .none)) .none))
def laws_markTurnS_c : Ct := .mut [.lent, .rd] true true (.pair (.slice T_Turn) (.pair (.int .i64) .unit)) (.int .i64) (fun x => laws_markTurnS x.1 x.2.1)
theorem laws_markTurnS_ct : CtOk Tryz.prog 138 laws_markTurnS_c := mut_ct (E := { T := tab, G := [(67, laws_markEventS_c)] }) (EnvOk.cons laws_markEventS_ct (EnvOk.nil tabOk)) mixed (fn := Tryz.f138) _ _ _ _ _ _ laws_markTurnS_h Tryz.func138 (by kernel_rfl) (fun x => by kernel_rfl)
/-! loop.example/g00486/laws.markFate -/
def laws_markFate (a0 : T_Fate.D) (a1 : Int) : Option (Int × (T_Fate.D × Unit)) :=
(laws_markEventS a0.1 a1).bind fun y1 =>
(laws_markEffectS a0.2.1 y1.1).bind fun y2 =>
(laws_markIntS a0.2.2.1 y2.1).bind fun y3 =>
(laws_markTurnS a0.2.2.2.1 y3.1).bind fun y4 =>
 some (y4.1, ((y1.2.1, y2.2.1, y3.2.1, y4.2), ()))
def laws_markFate_c : Ct := .mut [.lent, .rd] true true (.pair T_Fate (.pair (.int .i64) .unit)) (.int .i64) (fun x => laws_markFate x.1 x.2.1)
theorem laws_markFate_ct : CtOk Tryz.prog 60 laws_markFate_c := mut_ct (E := { T := tab, G := [(58, laws_markEffectS_c), (59, laws_markIntS_c), (67, laws_markEventS_c), (138, laws_markTurnS_c)] }) (EnvOk.cons laws_markEffectS_ct (EnvOk.cons laws_markIntS_ct (EnvOk.cons laws_markEventS_ct (EnvOk.cons laws_markTurnS_ct (EnvOk.nil tabOk))))) mixed (fn := Tryz.f60) _ _ _ _ _ _ .none Tryz.func60 (by kernel_rfl) (fun x => by kernel_rfl)
/-! loop.example/g00486/laws.heldEventS -/
def laws_heldEventS_l1 (a0 : (List T_Event.D)) : (Int × Int) → Option ((Int × Int) ⊕ ((Int × Int) ⊕ Int)) := fun s1 =>
 bif decide (s1.2 < (a0.length : Int)) then (
 idx a0 s1.2 fun x2 =>
 bif (x2.1 != s1.1) then (
 some (.inr (.inr (-1))))
 else (
 idx a0 s1.2 fun x3 =>
 bif (x3.2.1 != (IntKind.wrap .i64 (s1.1 + 1))) then (
 some (.inr (.inr (-1))))
 else (
 idx a0 s1.2 fun x4 =>
 bif (x4.2.2.1 != (IntKind.wrap .i64 ((IntKind.wrap .i64 (s1.1 + 1)) + 1))) then (
 some (.inr (.inr (-1))))
 else (
 let k5 : Int := IntKind.wrap .i64 ((IntKind.wrap .i64 ((IntKind.wrap .i64 (s1.1 + 1)) + 1)) + 1)
 idx a0 s1.2 fun x6 =>
 bif (x6.2.2.2.1 != k5) then (
 some (.inr (.inr (-1))))
 else (
 idx a0 s1.2 fun x7 =>
 bif (x7.2.2.2.2.1 != (IntKind.wrap .i64 (k5 + 1))) then (
 some (.inr (.inr (-1))))
 else (
 idx a0 s1.2 fun x8 =>
 bif (x8.2.2.2.2.2.1 != (IntKind.wrap .i64 ((IntKind.wrap .i64 (k5 + 1)) + 1))) then (
 some (.inr (.inr (-1))))
 else (
 let k9 : Int := IntKind.wrap .i64 ((IntKind.wrap .i64 ((IntKind.wrap .i64 (k5 + 1)) + 1)) + 1)
 idx a0 s1.2 fun x10 =>
 if 3 = 0 then none else (
 bif (x10.2.2.2.2.2.2.1 != ((k9.tmod 3) == 0)) then (
 some (.inr (.inr (-1))))
 else (
 some (.inl (IntKind.wrap .i64 (k9 + 1), IntKind.wrap .i64 (s1.2 + 1))))))))))))
 else (
 some (.inr (.inl s1)))
def laws_heldEventS (a0 : (List T_Event.D)) (a1 : Int) : Option Int :=
(while_ (laws_heldEventS_l1 a0) (a1, 0)).bind fun o11 =>
 match o11 with
| .inl s12 => (
 some s12.1)
| .inr o13 => (
 some o13)
def laws_heldEventS_h : Hints := (.node none none .none (.node none none (.node none none .none (.node none none (.node none (some ⟨[.tmp 1 (.int .i64), .tmp 5 (.int .i64)], [some 0], some [.tmp 4 (.int .i64)], []⟩) .none .none) .none)) .none))
def laws_heldEventS_c : Ct := .pure true false (.pair (.slice T_Event) (.pair (.int .i64) .unit)) (.int .i64) (fun x => laws_heldEventS x.1 x.2.1)
theorem laws_heldEventS_ct : CtOk Tryz.prog 172 laws_heldEventS_c := pure_ct (E := { T := tab, G := [] }) (EnvOk.nil tabOk) mixed (fn := Tryz.f172) _ _ _ _ _ laws_heldEventS_h Tryz.func172 (by kernel_rfl) (fun x => by kernel_rfl)
/-! loop.example/g00486/laws.heldEffectS -/
def laws_heldEffectS_l1 (a0 : (List T_Effect.D)) : (Int × Int) → Option ((Int × Int) ⊕ ((Int × Int) ⊕ Int)) := fun s1 =>
 bif decide (s1.2 < (a0.length : Int)) then (
 idx a0 s1.2 fun x2 =>
 bif (x2.1 != s1.1) then (
 some (.inr (.inr (-1))))
 else (
 idx a0 s1.2 fun x3 =>
 bif (x3.2.1 != (IntKind.wrap .i64 (s1.1 + 1))) then (
 some (.inr (.inr (-1))))
 else (
 idx a0 s1.2 fun x4 =>
 bif (x4.2.2.1 != (IntKind.wrap .i64 ((IntKind.wrap .i64 (s1.1 + 1)) + 1))) then (
 some (.inr (.inr (-1))))
 else (
 let k5 : Int := IntKind.wrap .i64 ((IntKind.wrap .i64 ((IntKind.wrap .i64 (s1.1 + 1)) + 1)) + 1)
 idx a0 s1.2 fun x6 =>
 bif (x6.2.2.2.1 != k5) then (
 some (.inr (.inr (-1))))
 else (
 idx a0 s1.2 fun x7 =>
 bif (x7.2.2.2.2.1.1 != (IntKind.wrap .i64 (k5 + 1))) then (
 some (.inr (.inr (-1))))
 else (
 idx a0 s1.2 fun x8 =>
 bif (x8.2.2.2.2.1.2.1 != (IntKind.wrap .i64 ((IntKind.wrap .i64 (k5 + 1)) + 1))) then (
 some (.inr (.inr (-1))))
 else (
 let k9 : Int := IntKind.wrap .i64 ((IntKind.wrap .i64 ((IntKind.wrap .i64 (k5 + 1)) + 1)) + 1)
 idx a0 s1.2 fun x10 =>
 bif (x10.2.2.2.2.1.2.2.1 != k9) then (
 some (.inr (.inr (-1))))
 else (
 idx a0 s1.2 fun x11 =>
 bif (x11.2.2.2.2.1.2.2.2.1 != (IntKind.wrap .i64 (k9 + 1))) then (
 some (.inr (.inr (-1))))
 else (
 idx a0 s1.2 fun x12 =>
 bif (x12.2.2.2.2.1.2.2.2.2.1 != (IntKind.wrap .i64 ((IntKind.wrap .i64 (k9 + 1)) + 1))) then (
 some (.inr (.inr (-1))))
 else (
 let k13 : Int := IntKind.wrap .i64 ((IntKind.wrap .i64 ((IntKind.wrap .i64 (k9 + 1)) + 1)) + 1)
 idx a0 s1.2 fun x14 =>
 bif (x14.2.2.2.2.1.2.2.2.2.2.1 != k13) then (
 some (.inr (.inr (-1))))
 else (
 idx a0 s1.2 fun x15 =>
 bif (x15.2.2.2.2.1.2.2.2.2.2.2.1 != (IntKind.wrap .i64 (k13 + 1))) then (
 some (.inr (.inr (-1))))
 else (
 idx a0 s1.2 fun x16 =>
 bif (x16.2.2.2.2.2.1.1 != (IntKind.wrap .i64 ((IntKind.wrap .i64 (k13 + 1)) + 1))) then (
 some (.inr (.inr (-1))))
 else (
 let k17 : Int := IntKind.wrap .i64 ((IntKind.wrap .i64 ((IntKind.wrap .i64 (k13 + 1)) + 1)) + 1)
 idx a0 s1.2 fun x18 =>
 bif (x18.2.2.2.2.2.1.2.1 != k17) then (
 some (.inr (.inr (-1))))
 else (
 idx a0 s1.2 fun x19 =>
 bif (x19.2.2.2.2.2.2.1.1 != (IntKind.wrap .i64 (k17 + 1))) then (
 some (.inr (.inr (-1))))
 else (
 idx a0 s1.2 fun x20 =>
 bif (x20.2.2.2.2.2.2.1.2.1 != (IntKind.wrap .i64 ((IntKind.wrap .i64 (k17 + 1)) + 1))) then (
 some (.inr (.inr (-1))))
 else (
 let k21 : Int := IntKind.wrap .i64 ((IntKind.wrap .i64 ((IntKind.wrap .i64 (k17 + 1)) + 1)) + 1)
 idx a0 s1.2 fun x22 =>
 bif (x22.2.2.2.2.2.2.1.2.2.1 != k21) then (
 some (.inr (.inr (-1))))
 else (
 idx a0 s1.2 fun x23 =>
 bif (x23.2.2.2.2.2.2.1.2.2.2.1 != (IntKind.wrap .i64 (k21 + 1))) then (
 some (.inr (.inr (-1))))
 else (
 idx a0 s1.2 fun x24 =>
 bif (x24.2.2.2.2.2.2.1.2.2.2.2.1 != (IntKind.wrap .i64 ((IntKind.wrap .i64 (k21 + 1)) + 1))) then (
 some (.inr (.inr (-1))))
 else (
 let k25 : Int := IntKind.wrap .i64 ((IntKind.wrap .i64 ((IntKind.wrap .i64 (k21 + 1)) + 1)) + 1)
 idx a0 s1.2 fun x26 =>
 if 3 = 0 then none else (
 bif (x26.2.2.2.2.2.2.1.2.2.2.2.2.1 != ((k25.tmod 3) == 0)) then (
 some (.inr (.inr (-1))))
 else (
 idx a0 s1.2 fun x27 =>
(laws_heldEventS x27.2.2.2.2.2.2.1.2.2.2.2.2.2.1 (IntKind.wrap .i64 (k25 + 1))).bind fun y28 =>
 bif decide (y28 < 0) then (
 some (.inr (.inr (-1))))
 else (
 idx a0 s1.2 fun x29 =>
 bif (x29.2.2.2.2.2.2.2.1 != y28) then (
 some (.inr (.inr (-1))))
 else (
 idx a0 s1.2 fun x30 =>
 bif (x30.2.2.2.2.2.2.2.2.1 != (IntKind.wrap .i64 (y28 + 1))) then (
 some (.inr (.inr (-1))))
 else (
 some (.inl (IntKind.wrap .i64 ((IntKind.wrap .i64 (y28 + 1)) + 1), IntKind.wrap .i64 (s1.2 + 1)))))))))))))))))))))))))))
 else (
 some (.inr (.inl s1)))
def laws_heldEffectS (a0 : (List T_Effect.D)) (a1 : Int) : Option Int :=
(while_ (laws_heldEffectS_l1 a0) (a1, 0)).bind fun o31 =>
 match o31 with
| .inl s32 => (
 some s32.1)
| .inr o33 => (
 some o33)
def laws_heldEffectS_h : Hints := (.node none none .none (.node none none (.node none none .none (.node none none (.node none (some ⟨[.tmp 1 (.int .i64), .tmp 5 (.int .i64)], [some 0], some [.tmp 4 (.int .i64)], []⟩) .none .none) .none)) .none))
def laws_heldEffectS_c : Ct := .pure true false (.pair (.slice T_Effect) (.pair (.int .i64) .unit)) (.int .i64) (fun x => laws_heldEffectS x.1 x.2.1)
theorem laws_heldEffectS_ct : CtOk Tryz.prog 141 laws_heldEffectS_c := pure_ct (E := { T := tab, G := [(172, laws_heldEventS_c)] }) (EnvOk.cons laws_heldEventS_ct (EnvOk.nil tabOk)) mixed (fn := Tryz.f141) _ _ _ _ _ laws_heldEffectS_h Tryz.func141 (by kernel_rfl) (fun x => by kernel_rfl)
/-! loop.example/g00486/laws.heldIntS -/
def laws_heldIntS_l1 (a0 : (List Int)) : (Int × Int) → Option ((Int × Int) ⊕ ((Int × Int) ⊕ Int)) := fun s1 =>
 bif decide (s1.2 < (a0.length : Int)) then (
 idx a0 s1.2 fun x2 =>
 bif (x2 != s1.1) then (
 some (.inr (.inr (-1))))
 else (
 some (.inl (IntKind.wrap .i64 (s1.1 + 1), IntKind.wrap .i64 (s1.2 + 1)))))
 else (
 some (.inr (.inl s1)))
def laws_heldIntS (a0 : (List Int)) (a1 : Int) : Option Int :=
(while_ (laws_heldIntS_l1 a0) (a1, 0)).bind fun o3 =>
 match o3 with
| .inl s4 => (
 some s4.1)
| .inr o5 => (
 some o5)
def laws_heldIntS_h : Hints := (.node none none .none (.node none none (.node none none .none (.node none none (.node none (some ⟨[.tmp 1 (.int .i64), .tmp 5 (.int .i64)], [some 0], some [.tmp 4 (.int .i64)], []⟩) .none .none) .none)) .none))
def laws_heldIntS_c : Ct := .pure true false (.pair (.slice (.int .i64)) (.pair (.int .i64) .unit)) (.int .i64) (fun x => laws_heldIntS x.1 x.2.1)
theorem laws_heldIntS_ct : CtOk Tryz.prog 142 laws_heldIntS_c := pure_ct (E := { T := tab, G := [] }) (EnvOk.nil tabOk) mixed (fn := Tryz.f142) _ _ _ _ _ laws_heldIntS_h Tryz.func142 (by kernel_rfl) (fun x => by kernel_rfl)
/-! loop.example/g00486/laws.heldTurnS -/
def laws_heldTurnS_l1 (a0 : (List T_Turn.D)) : (Int × Int) → Option ((Int × Int) ⊕ ((Int × Int) ⊕ Int)) := fun s1 =>
 bif decide (s1.2 < (a0.length : Int)) then (
 idx a0 s1.2 fun x2 =>
 bif (x2.1 != s1.1) then (
 some (.inr (.inr (-1))))
 else (
 idx a0 s1.2 fun x3 =>
 bif (x3.2.1 != (IntKind.wrap .i64 (s1.1 + 1))) then (
 some (.inr (.inr (-1))))
 else (
 idx a0 s1.2 fun x4 =>
 bif (x4.2.2.1 != (IntKind.wrap .i64 ((IntKind.wrap .i64 (s1.1 + 1)) + 1))) then (
 some (.inr (.inr (-1))))
 else (
 let k5 : Int := IntKind.wrap .i64 ((IntKind.wrap .i64 ((IntKind.wrap .i64 (s1.1 + 1)) + 1)) + 1)
 idx a0 s1.2 fun x6 =>
 bif (x6.2.2.2.1 != k5) then (
 some (.inr (.inr (-1))))
 else (
 idx a0 s1.2 fun x7 =>
 bif (x7.2.2.2.2.1.1 != (IntKind.wrap .i64 (k5 + 1))) then (
 some (.inr (.inr (-1))))
 else (
 idx a0 s1.2 fun x8 =>
 bif (x8.2.2.2.2.1.2.1 != (IntKind.wrap .i64 ((IntKind.wrap .i64 (k5 + 1)) + 1))) then (
 some (.inr (.inr (-1))))
 else (
 let k9 : Int := IntKind.wrap .i64 ((IntKind.wrap .i64 ((IntKind.wrap .i64 (k5 + 1)) + 1)) + 1)
 idx a0 s1.2 fun x10 =>
 bif (x10.2.2.2.2.1.2.2.1 != k9) then (
 some (.inr (.inr (-1))))
 else (
 idx a0 s1.2 fun x11 =>
 bif (x11.2.2.2.2.1.2.2.2.1 != (IntKind.wrap .i64 (k9 + 1))) then (
 some (.inr (.inr (-1))))
 else (
 idx a0 s1.2 fun x12 =>
 bif (x12.2.2.2.2.1.2.2.2.2.1 != (IntKind.wrap .i64 ((IntKind.wrap .i64 (k9 + 1)) + 1))) then (
 some (.inr (.inr (-1))))
 else (
 let k13 : Int := IntKind.wrap .i64 ((IntKind.wrap .i64 ((IntKind.wrap .i64 (k9 + 1)) + 1)) + 1)
 idx a0 s1.2 fun x14 =>
 bif (x14.2.2.2.2.1.2.2.2.2.2.1 != k13) then (
 some (.inr (.inr (-1))))
 else (
 idx a0 s1.2 fun x15 =>
 if 3 = 0 then none else (
 bif (x15.2.2.2.2.1.2.2.2.2.2.2.1 != (((IntKind.wrap .i64 (k13 + 1)).tmod 3) == 0)) then (
 some (.inr (.inr (-1))))
 else (
 idx a0 s1.2 fun x16 =>
(laws_heldEventS x16.2.2.2.2.2.1 (IntKind.wrap .i64 ((IntKind.wrap .i64 (k13 + 1)) + 1))).bind fun y17 =>
 bif decide (y17 < 0) then (
 some (.inr (.inr (-1))))
 else (
 idx a0 s1.2 fun x18 =>
 bif (x18.2.2.2.2.2.2.1 != y17) then (
 some (.inr (.inr (-1))))
 else (
 idx a0 s1.2 fun x19 =>
 bif (x19.2.2.2.2.2.2.2.1 != (IntKind.wrap .i64 (y17 + 1))) then (
 some (.inr (.inr (-1))))
 else (
 some (.inl (IntKind.wrap .i64 ((IntKind.wrap .i64 (y17 + 1)) + 1), IntKind.wrap .i64 (s1.2 + 1)))))))))))))))))))
 else (
 some (.inr (.inl s1)))
def laws_heldTurnS (a0 : (List T_Turn.D)) (a1 : Int) : Option Int :=
(while_ (laws_heldTurnS_l1 a0) (a1, 0)).bind fun o20 =>
 match o20 with
| .inl s21 => (
 some s21.1)
| .inr o22 => (
 some o22)
def laws_heldTurnS_h : Hints := (.node none none .none (.node none none (.node none none .none (.node none none (.node none (some ⟨[.tmp 1 (.int .i64), .tmp 5 (.int .i64)], [some 0], some [.tmp 4 (.int .i64)], []⟩) .none .none) .none)) .none))
def laws_heldTurnS_c : Ct := .pure true false (.pair (.slice T_Turn) (.pair (.int .i64) .unit)) (.int .i64) (fun x => laws_heldTurnS x.1 x.2.1)
theorem laws_heldTurnS_ct : CtOk Tryz.prog 145 laws_heldTurnS_c := pure_ct (E := { T := tab, G := [(172, laws_heldEventS_c)] }) (EnvOk.cons laws_heldEventS_ct (EnvOk.nil tabOk)) mixed (fn := Tryz.f145) _ _ _ _ _ laws_heldTurnS_h Tryz.func145 (by kernel_rfl) (fun x => by kernel_rfl)
/-! loop.example/g00486/laws.heldFate -/
def laws_heldFate (a0 : T_Fate.D) (a1 : Int) : Option Int :=
(laws_heldEventS a0.1 a1).bind fun y1 =>
 bif decide (y1 < 0) then (
 some (-1))
 else (
(laws_heldEffectS a0.2.1 y1).bind fun y2 =>
 bif decide (y2 < 0) then (
 some (-1))
 else (
(laws_heldIntS a0.2.2.1 y2).bind fun y3 =>
 bif decide (y3 < 0) then (
 some (-1))
 else (
(laws_heldTurnS a0.2.2.2.1 y3).bind fun y4 =>
 bif decide (y4 < 0) then (
 some (-1))
 else (
 some y4))))
def laws_heldFate_c : Ct := .pure true false (.pair T_Fate (.pair (.int .i64) .unit)) (.int .i64) (fun x => laws_heldFate x.1 x.2.1)
theorem laws_heldFate_ct : CtOk Tryz.prog 61 laws_heldFate_c := pure_ct (E := { T := tab, G := [(141, laws_heldEffectS_c), (142, laws_heldIntS_c), (145, laws_heldTurnS_c), (172, laws_heldEventS_c)] }) (EnvOk.cons laws_heldEffectS_ct (EnvOk.cons laws_heldIntS_ct (EnvOk.cons laws_heldTurnS_ct (EnvOk.cons laws_heldEventS_ct (EnvOk.nil tabOk))))) mixed (fn := Tryz.f61) _ _ _ _ _ .none Tryz.func61 (by kernel_rfl) (fun x => by kernel_rfl)
/-! loop.example/g00486/laws.FnExactRewrite -/
def laws_FnExactRewrite (a0 : T_State.D) (a1 : (List T_Effect.D)) (a2 : T_Event.D) (a3 : (List Int)) : Option Bool :=
 bif decide ((a3.length : Int) > 1048576) then (
 some true)
 else (
(laws_szState a0 1048576).bind fun y1 =>
 bif decide (y1 < 0) then (
 some true)
 else (
(laws_szEffectS a1 y1).bind fun y2 =>
 bif decide (y2 < 0) then (
 some true)
 else (
(laws_toState a0).bind fun y3 =>
(laws_toEffectS a1).bind fun y4 =>
(laws_toEvent a2).bind fun y5 =>
(laws_toIntS a3).bind fun y6 =>
(spec_Rewrite y3 y4 y5 y6).bind fun y7 =>
(laws_toState a0).bind fun y8 =>
(laws_toEffectS a1).bind fun y9 =>
(laws_toIntS a3).bind fun y10 =>
(laws_toEvent a2).bind fun y11 =>
(impl_Rewrite y8 y9 y11 y10).bind fun y12 =>
(laws_eqFate y12 y7).bind fun y13 =>
 bif (!y13) then (
 some false)
 else (
(laws_toState a0).bind fun y14 =>
(laws_eqState y8 y14).bind fun y15 =>
 bif (!y15) then (
 some false)
 else (
(laws_toEffectS a1).bind fun y16 =>
(laws_eqEffectS y9 y16).bind fun y17 =>
 bif (!y17) then (
 some false)
 else (
(laws_toIntS a3).bind fun y18 =>
(laws_eqIntS y10 y18).bind fun y19 =>
 bif (!y19) then (
 some false)
 else (
(laws_markState y8 1).bind fun y20 =>
(laws_markEffectS y9 y20.1).bind fun y21 =>
(laws_markIntS y10 y21.1).bind fun y22 =>
((bif decide (y22.1 < 0) then (
 some true)
 else (
(laws_eqFate y12 y7).bind fun y23 =>
 some (!y23))) : Option Bool).bind fun o24 =>
 bif o24 then (
 some false)
 else (
(laws_markFate y12 1).bind fun y25 =>
(laws_heldFate y25.2.1 1).bind fun y26 =>
 bif decide (y26 < 0) then (
 some false)
 else (
 bif (y26 != y25.1) then (
 some false)
 else (
(laws_toState a0).bind fun y27 =>
(laws_toEffectS a1).bind fun y28 =>
(laws_toEvent a2).bind fun y29 =>
(laws_toIntS a3).bind fun y30 =>
(impl_Rewrite y27 y28 y29 y30).bind fun y31 =>
(laws_eqFate y31 y7).bind fun y32 =>
 bif (!y32) then (
 some false)
 else (
(laws_heldFate y25.2.1 1).bind fun y33 =>
 bif decide (y33 < 0) then (
 some false)
 else (
 bif (y33 != y25.1) then (
 some false)
 else (
 some true)))))))))))))
def laws_FnExactRewrite_h : Hints := (.node none none .none (.node none none .none (.node none none .none (.node none none .none (.node none none .none (.node none none .none (.node none none .none (.node none none .none (.node none none .none (.node none none .none (.node none none .none (.node none none .none (.node none none .none (.node none none .none (.node none none .none (.node none none .none (.node none none .none (.node none none .none (.node none none .none (.node none none .none (.node none none (.node none none (.node (some ⟨[.tmp 88 .bool], [none], none, []⟩) none .none .none) .none) .none)))))))))))))))))))))
def laws_FnExactRewrite_c : Ct := .pure true false (.pair T_State (.pair (.slice T_Effect) (.pair T_Event (.pair (.slice (.int .i64)) .unit)))) .bool (fun x => laws_FnExactRewrite x.1 x.2.1 x.2.2.1 x.2.2.2.1)
theorem laws_FnExactRewrite_ct : CtOk Tryz.prog 7 laws_FnExactRewrite_c := pure_ct (E := { T := tab, G := [(45, laws_szState_c), (46, laws_szEffectS_c), (47, spec_Rewrite_fresh_c), (48, laws_toState_fresh_c), (49, laws_toEffectS_fresh_c), (50, laws_toEvent_c), (51, laws_toIntS_fresh_c), (52, impl_Rewrite_fresh_c), (53, laws_eqFate_c), (54, laws_eqState_c), (55, laws_eqEffectS_c), (56, laws_eqIntS_c), (57, laws_markState_c), (58, laws_markEffectS_c), (59, laws_markIntS_c), (60, laws_markFate_c), (61, laws_heldFate_c)] }) (EnvOk.cons laws_szState_ct (EnvOk.cons laws_szEffectS_ct (EnvOk.cons spec_Rewrite_fresh_ct (EnvOk.cons laws_toState_fresh_ct (EnvOk.cons laws_toEffectS_fresh_ct (EnvOk.cons laws_toEvent_ct (EnvOk.cons laws_toIntS_fresh_ct (EnvOk.cons impl_Rewrite_fresh_ct (EnvOk.cons laws_eqFate_ct (EnvOk.cons laws_eqState_ct (EnvOk.cons laws_eqEffectS_ct (EnvOk.cons laws_eqIntS_ct (EnvOk.cons laws_markState_ct (EnvOk.cons laws_markEffectS_ct (EnvOk.cons laws_markIntS_ct (EnvOk.cons laws_markFate_ct (EnvOk.cons laws_heldFate_ct (EnvOk.nil tabOk)))))))))))))))))) mixed (fn := Tryz.f7) _ _ _ _ _ laws_FnExactRewrite_h Tryz.func7 (by kernel_rfl) (fun x => by kernel_rfl)
end
end Go.Abs
