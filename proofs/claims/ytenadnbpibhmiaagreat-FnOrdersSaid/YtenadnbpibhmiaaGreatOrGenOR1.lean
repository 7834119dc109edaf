/- Part of a proof of FnOrders: see the row. -/
import Derived.Test.YtenadnbpibhmiaaGreatProg
import Derived.Test.YtenadnbpibhmiaaGreatOrAbsHd
import Derived.Test.YtenadnbpibhmiaaGreatOrAbsPure
import Derived.Test.YtenadnbpibhmiaaGreatOrInsZ
set_option linter.unusedVariables false
set_option linter.unusedSimpArgs false
namespace Go.Abs
open Go.Proofs
set_option maxRecDepth 100000
noncomputable section
def nd (a b:Hints):Hints:=.node none none a b
def n0 (b:Hints):Hints:=.node none none .none b
def cu (h:Hint):Hints:=.node (some h) none .none .none
@[reducible] def ai:Ty:=(.pair (.int .i64) (.pair (.int .i64) (.pair (.int .i64) (.pair (.int .i64) (.pair (.int .i64) (.pair (.int .i64) (.pair (.int .i64) (.pair (.int .i64) (.pair (.int .i64) (.pair (.int .i64) (.pair (.int .i64) (.pair .bool (.pair .bool .unit)))))))))))))
@[reducible] def ay:Ty:=(.pair (.int .i64) (.pair (.int .i64) (.pair .bool .unit)))
@[reducible] def ac:Ty:=(.pair (.slice ai) (.pair (.slice ay) (.pair (.int .i64) (.pair (.int .i64) .unit))))
@[reducible] def de:Ty:=(.pair (.int .i64) (.pair (.int .i64) (.pair (.int .i64) (.pair (.int .i64) (.pair (.int .i64) (.pair (.int .i64) (.pair (.int .i64) .unit)))))))
@[reducible] def bP:Ty:=(.pair (.int .i64) (.pair (.int .i64) .unit))
@[reducible] def ae:Ty:=(.pair (.int .i64) (.pair (.int .i64) (.pair (.int .i64) (.pair (.int .i64) (.pair (.int .i64) (.pair (.int .i64) (.pair .bool .unit)))))))
@[reducible] def bM:Ty:=(.pair (.int .i64) (.pair (.int .i64) (.pair (.int .i64) (.pair (.int .i64) (.pair (.int .i64) (.pair .bool (.pair (.slice ae) .unit)))))))
@[reducible] def aa:Ty:=(.pair (.int .i64) (.pair (.int .i64) (.pair (.int .i64) (.pair (.int .i64) (.pair de (.pair bP (.pair bM (.pair (.int .i64) (.pair (.int .i64) .unit)))))))))
@[reducible] def aA:Ty:=(.pair (.int .i64) (.pair (.int .i64) (.pair (.int .i64) (.pair (.int .i64) (.pair ae (.pair (.slice ae) (.pair (.int .i64) (.pair (.int .i64) .unit))))))))
@[reducible] def mr:Ty:=(.pair (.vw ai) (.pair (.vw ay) (.pair (.int .i64) (.pair (.int .i64) .unit))))
@[reducible] def nS:Ty:=(.pair mr (.pair (.slice aa) (.pair (.slice (.int .i64)) (.pair (.slice ae) (.pair (.slice aA) .unit)))))
@[reducible] def ah:Ty:=(.pair (.int .i64) (.pair (.int .i64) (.pair (.int .i64) (.pair ai .unit))))
@[reducible] def aq:Ty:=(.pair (.int .i64) (.pair ae (.pair (.int .i64) (.pair (.int .i64) (.pair ai .unit)))))
@[reducible] def aC:Ty:=(.pair ac (.pair (.slice aa) (.pair (.slice (.int .i64)) (.pair (.slice ah) (.pair (.slice aq) (.pair (.slice aA) .unit))))))
@[reducible] def bp:Ty:=(.pair (.slice ae) (.pair (.slice aa) (.pair (.slice (.int .i64)) (.pair (.slice aA) .unit))))
@[reducible] def eK:Ty:=(.pair (.int .i64) (.pair (.int .i64) (.pair (.int .i64) (.pair (.int .i64) (.pair ae (.pair (.vw ae) (.pair (.int .i64) (.pair (.int .i64) .unit))))))))
@[reducible] def ww:Ty:=(.pair (.slice ae) (.pair (.slice aa) (.pair (.slice (.int .i64)) (.pair (.slice eK) .unit))))
@[reducible] def tF:Ty:=(.pair mr (.pair ww .unit))
@[reducible] def bi:Ty:=(.pair (.int .i64) (.pair aa (.pair (.int .i64) (.pair (.slice ae) .unit))))
@[reducible] def aj:Ty:=(.pair (.slice (.int .u8)) (.pair (.int .i64) (.pair (.int .i64) .unit)))
@[reducible] def Oe:Ty:=(.pair ac (.pair (.slice aa) (.pair (.slice (.int .i64)) (.pair (.slice ae) (.pair (.slice aA) .unit)))))
@[reducible] def SS:Ty:=(.pair (.int .i64) (.pair (.int .i64) (.pair (.int .i64) (.pair (.int .i64) (.pair (.int .i64) (.pair .bool (.pair .hd .unit)))))))
@[reducible] def bc:Ty:=(.pair (.int .i64) (.pair (.int .i64) (.pair (.int .i64) (.pair (.int .i64) (.pair de (.pair bP (.pair SS (.pair (.int .i64) (.pair (.int .i64) .unit)))))))))
@[reducible] def T5:Ty:=(.pair ac (.pair (.slice aa) (.pair (.slice (.int .i64)) (.pair (.slice ah) (.pair (.slice aq) (.pair (.slice eK) .unit))))))
@[reducible] def ST:Ty:=(.pair ac (.pair (.slice aa) (.pair (.slice (.int .i64)) (.pair (.slice ae) (.pair (.slice eK) .unit)))))
def tab:Tab:=[
 (3,⟨.int .i64,1,0,(.int .i64),[.int .i64 0]⟩),
 (4,⟨.bool,1,0,.bool,[.bool false]⟩),
 (5,⟨.int .u8,1,0,(.int .u8),[.int .u8 0]⟩),
 (22,⟨.slice 5,1,0,(.slice (.int .u8)),[.nil]⟩),
 (24,⟨.slice 101,1,0,(.slice ai),[.nil]⟩),
 (25,⟨.slice 224,1,0,(.slice ay),[.nil]⟩),
 (26,⟨.struct [(0,24),(1,25),(2,3),(3,3)],4,0,ac,[.nil,.nil,.int .i64 0,.int .i64 0]⟩),
 (27,⟨.struct [(0,24),(1,25),(2,3),(3,3)],4,0,ac,[.nil,.nil,.int .i64 0,.int .i64 0]⟩),
 (28,⟨.slice 43,1,0,(.slice aa),[.nil]⟩),
 (29,⟨.slice 3,1,0,(.slice (.int .i64)),[.nil]⟩),
 (30,⟨.slice 103,1,0,(.slice ah),[.nil]⟩),
 (31,⟨.slice 159,1,0,(.slice aq),[.nil]⟩),
 (32,⟨.slice 162,1,0,(.slice aA),[.nil]⟩),
 (33,⟨.struct [(0,27),(4,28),(5,29),(6,30),(7,31),(8,32)],9,0,aC,[.nil,.nil,.int .i64 0,.int .i64 0,.nil,.nil,.nil,.nil,.nil]⟩),
 (34,⟨.struct [(0,27),(4,28),(5,29),(6,30),(7,31),(8,32)],9,0,aC,[.nil,.nil,.int .i64 0,.int .i64 0,.nil,.nil,.nil,.nil,.nil]⟩),
 (35,⟨.struct [(0,3),(1,3),(2,3),(3,3),(4,3),(5,3),(6,3)],7,0,de,[.int .i64 0,.int .i64 0,.int .i64 0,.int .i64 0,.int .i64 0,.int .i64 0,.int .i64 0]⟩),
 (36,⟨.struct [(0,3),(1,3),(2,3),(3,3),(4,3),(5,3),(6,3)],7,0,de,[.int .i64 0,.int .i64 0,.int .i64 0,.int .i64 0,.int .i64 0,.int .i64 0,.int .i64 0]⟩),
 (37,⟨.struct [(0,3),(1,3)],2,0,bP,[.int .i64 0,.int .i64 0]⟩),
 (38,⟨.struct [(0,3),(1,3)],2,0,bP,[.int .i64 0,.int .i64 0]⟩),
 (39,⟨.slice 114,1,0,(.slice ae),[.nil]⟩),
 (40,⟨.struct [(0,3),(1,3),(2,3),(3,3),(4,3),(5,4),(6,39)],7,0,bM,[.int .i64 0,.int .i64 0,.int .i64 0,.int .i64 0,.int .i64 0,.bool false,.nil]⟩),
 (41,⟨.struct [(0,3),(1,3),(2,3),(3,3),(4,3),(5,4),(6,39)],7,0,bM,[.int .i64 0,.int .i64 0,.int .i64 0,.int .i64 0,.int .i64 0,.bool false,.nil]⟩),
 (42,⟨.struct [(0,3),(1,3),(2,3),(3,3),(4,36),(11,38),(13,41),(20,3),(21,3)],22,0,aa,[.int .i64 0,.int .i64 0,.int .i64 0,.int .i64 0,.int .i64 0,.int .i64 0,.int .i64 0,.int .i64 0,.int .i64 0,.int .i64 0,.int .i64 0,.int .i64 0,.int .i64 0,.int .i64 0,.int .i64 0,.int .i64 0,.int .i64 0,.int .i64 0,.bool false,.nil,.int .i64 0,.int .i64 0]⟩),
 (43,⟨.struct [(0,3),(1,3),(2,3),(3,3),(4,36),(11,38),(13,41),(20,3),(21,3)],22,0,aa,[.int .i64 0,.int .i64 0,.int .i64 0,.int .i64 0,.int .i64 0,.int .i64 0,.int .i64 0,.int .i64 0,.int .i64 0,.int .i64 0,.int .i64 0,.int .i64 0,.int .i64 0,.int .i64 0,.int .i64 0,.int .i64 0,.int .i64 0,.int .i64 0,.bool false,.nil,.int .i64 0,.int .i64 0]⟩),
 (44,⟨.struct [(0,3),(1,43),(23,3),(24,39)],25,0,bi,[.int .i64 0,.int .i64 0,.int .i64 0,.int .i64 0,.int .i64 0,.int .i64 0,.int .i64 0,.int .i64 0,.int .i64 0,.int .i64 0,.int .i64 0,.int .i64 0,.int .i64 0,.int .i64 0,.int .i64 0,.int .i64 0,.int .i64 0,.int .i64 0,.int .i64 0,.bool false,.nil,.int .i64 0,.int .i64 0,.int .i64 0,.nil]⟩),
 (45,⟨.struct [(0,3),(1,43),(23,3),(24,39)],25,0,bi,[.int .i64 0,.int .i64 0,.int .i64 0,.int .i64 0,.int .i64 0,.int .i64 0,.int .i64 0,.int .i64 0,.int .i64 0,.int .i64 0,.int .i64 0,.int .i64 0,.int .i64 0,.int .i64 0,.int .i64 0,.int .i64 0,.int .i64 0,.int .i64 0,.int .i64 0,.bool false,.nil,.int .i64 0,.int .i64 0,.int .i64 0,.nil]⟩),
 (89,⟨.slice 45,1,0,(.slice bi),[.nil]⟩),
 (100,⟨.struct [(0,3),(1,3),(2,3),(3,3),(4,3),(5,3),(6,3),(7,3),(8,3),(9,3),(10,3),(11,4),(12,4)],13,0,ai,[.int .i64 0,.int .i64 0,.int .i64 0,.int .i64 0,.int .i64 0,.int .i64 0,.int .i64 0,.int .i64 0,.int .i64 0,.int .i64 0,.int .i64 0,.bool false,.bool false]⟩),
 (101,⟨.struct [(0,3),(1,3),(2,3),(3,3),(4,3),(5,3),(6,3),(7,3),(8,3),(9,3),(10,3),(11,4),(12,4)],13,0,ai,[.int .i64 0,.int .i64 0,.int .i64 0,.int .i64 0,.int .i64 0,.int .i64 0,.int .i64 0,.int .i64 0,.int .i64 0,.int .i64 0,.int .i64 0,.bool false,.bool false]⟩),
 (102,⟨.struct [(0,3),(1,3),(2,3),(3,101)],16,0,ah,[.int .i64 0,.int .i64 0,.int .i64 0,.int .i64 0,.int .i64 0,.int .i64 0,.int .i64 0,.int .i64 0,.int .i64 0,.int .i64 0,.int .i64 0,.int .i64 0,.int .i64 0,.int .i64 0,.bool false,.bool false]⟩),
 (103,⟨.struct [(0,3),(1,3),(2,3),(3,101)],16,0,ah,[.int .i64 0,.int .i64 0,.int .i64 0,.int .i64 0,.int .i64 0,.int .i64 0,.int .i64 0,.int .i64 0,.int .i64 0,.int .i64 0,.int .i64 0,.int .i64 0,.int .i64 0,.int .i64 0,.bool false,.bool false]⟩),
 (105,⟨.struct [(0,3),(1,3),(2,3),(3,3),(4,3),(5,3),(6,4)],7,0,ae,[.int .i64 0,.int .i64 0,.int .i64 0,.int .i64 0,.int .i64 0,.int .i64 0,.bool false]⟩),
 (109,⟨.struct [(0,39),(1,28),(2,29),(3,32)],4,0,bp,[.nil,.nil,.nil,.nil]⟩),
 (110,⟨.struct [(0,39),(1,28),(2,29),(3,32)],4,0,bp,[.nil,.nil,.nil,.nil]⟩),
 (114,⟨.struct [(0,3),(1,3),(2,3),(3,3),(4,3),(5,3),(6,4)],7,0,ae,[.int .i64 0,.int .i64 0,.int .i64 0,.int .i64 0,.int .i64 0,.int .i64 0,.bool false]⟩),
 (141,⟨.other,1,0,.unit,[.undef]⟩),
 (156,⟨.other,1,0,.unit,[.undef]⟩),
 (158,⟨.struct [(0,3),(1,114),(8,3),(9,3),(10,101)],23,0,aq,[.int .i64 0,.int .i64 0,.int .i64 0,.int .i64 0,.int .i64 0,.int .i64 0,.int .i64 0,.bool false,.int .i64 0,.int .i64 0,.int .i64 0,.int .i64 0,.int .i64 0,.int .i64 0,.int .i64 0,.int .i64 0,.int .i64 0,.int .i64 0,.int .i64 0,.int .i64 0,.int .i64 0,.bool false,.bool false]⟩),
 (159,⟨.struct [(0,3),(1,114),(8,3),(9,3),(10,101)],23,0,aq,[.int .i64 0,.int .i64 0,.int .i64 0,.int .i64 0,.int .i64 0,.int .i64 0,.int .i64 0,.bool false,.int .i64 0,.int .i64 0,.int .i64 0,.int .i64 0,.int .i64 0,.int .i64 0,.int .i64 0,.int .i64 0,.int .i64 0,.int .i64 0,.int .i64 0,.int .i64 0,.int .i64 0,.bool false,.bool false]⟩),
 (161,⟨.struct [(0,3),(1,3),(2,3),(3,3),(4,114),(11,39),(12,3),(13,3)],14,0,aA,[.int .i64 0,.int .i64 0,.int .i64 0,.int .i64 0,.int .i64 0,.int .i64 0,.int .i64 0,.int .i64 0,.int .i64 0,.int .i64 0,.bool false,.nil,.int .i64 0,.int .i64 0]⟩),
 (162,⟨.struct [(0,3),(1,3),(2,3),(3,3),(4,114),(11,39),(12,3),(13,3)],14,0,aA,[.int .i64 0,.int .i64 0,.int .i64 0,.int .i64 0,.int .i64 0,.int .i64 0,.int .i64 0,.int .i64 0,.int .i64 0,.int .i64 0,.bool false,.nil,.int .i64 0,.int .i64 0]⟩),
 (163,⟨.other,1,0,.unit,[.undef]⟩),
 (166,⟨.other,1,0,.unit,[.undef]⟩),
 (177,⟨.other,1,0,.unit,[.undef]⟩),
 (190,⟨.other,1,0,.unit,[.undef]⟩),
 (191,⟨.struct [(0,27),(4,28),(5,29),(6,39),(7,32)],8,0,Oe,[.nil,.nil,.int .i64 0,.int .i64 0,.nil,.nil,.nil,.nil]⟩),
 (192,⟨.struct [(0,27),(4,28),(5,29),(6,39),(7,32)],8,0,Oe,[.nil,.nil,.int .i64 0,.int .i64 0,.nil,.nil,.nil,.nil]⟩),
 (193,⟨.other,1,0,.unit,[.undef]⟩),
 (197,⟨.other,1,0,.unit,[.undef]⟩),
 (198,⟨.other,1,0,.unit,[.undef]⟩),
 (200,⟨.struct [(0,27),(4,110),(8,198),(9,166)],10,0,.unit,[.nil,.nil,.int .i64 0,.int .i64 0,.nil,.nil,.nil,.nil,.undef,.undef]⟩),
 (221,⟨.other,1,0,.unit,[.undef]⟩),
 (223,⟨.struct [(0,3),(1,3),(2,4)],3,0,ay,[.int .i64 0,.int .i64 0,.bool false]⟩),
 (224,⟨.struct [(0,3),(1,3),(2,4)],3,0,ay,[.int .i64 0,.int .i64 0,.bool false]⟩),
 (226,⟨.other,1,0,.unit,[.undef]⟩),
 (227,⟨.other,1,0,.unit,[.undef]⟩),
 (229,⟨.struct [(0,22),(1,3),(2,3)],3,0,aj,[.nil,.int .i64 0,.int .i64 0]⟩),
 (230,⟨.struct [(0,22),(1,3),(2,3)],3,0,aj,[.nil,.int .i64 0,.int .i64 0]⟩),
 (297,⟨.slice 39,1,0,(.slice (.slice ae)),[.nil]⟩),
 (299,⟨.slice 32,1,0,(.slice (.slice aA)),[.nil]⟩),
 (308,⟨.int .u64,1,0,(.int .u64),[.int .u64 0]⟩),
 (315,⟨.other,1,0,.unit,[.undef]⟩),
 (319,⟨.slice 30,1,0,(.slice (.slice ah)),[.nil]⟩),
 (320,⟨.slice 31,1,0,(.slice (.slice aq)),[.nil]⟩),
 (344,⟨.other,1,0,.unit,[.undef]⟩)]
def TF:Tab:=[
 (3,⟨.int .i64,1,0,(.int .i64),[.int .i64 0]⟩),
 (4,⟨.bool,1,0,.bool,[.bool false]⟩),
 (5,⟨.int .u8,1,0,(.int .u8),[.int .u8 0]⟩),
 (22,⟨.slice 5,1,0,(.slice (.int .u8)),[.nil]⟩),
 (24,⟨.slice 101,1,0,(.slice ai),[.nil]⟩),
 (25,⟨.slice 224,1,0,(.slice ay),[.nil]⟩),
 (26,⟨.struct [(0,24),(1,25),(2,3),(3,3)],4,0,ac,[.nil,.nil,.int .i64 0,.int .i64 0]⟩),
 (27,⟨.struct [(0,24),(1,25),(2,3),(3,3)],4,0,ac,[.nil,.nil,.int .i64 0,.int .i64 0]⟩),
 (28,⟨.slice 43,1,0,(.slice aa),[.nil]⟩),
 (29,⟨.slice 3,1,0,(.slice (.int .i64)),[.nil]⟩),
 (30,⟨.slice 103,1,0,(.slice ah),[.nil]⟩),
 (31,⟨.slice 159,1,0,(.slice aq),[.nil]⟩),
 (32,⟨.slice 162,1,0,(.slice eK),[.nil]⟩),
 (33,⟨.struct [(0,27),(4,28),(5,29),(6,30),(7,31),(8,32)],9,0,T5,[.nil,.nil,.int .i64 0,.int .i64 0,.nil,.nil,.nil,.nil,.nil]⟩),
 (34,⟨.struct [(0,27),(4,28),(5,29),(6,30),(7,31),(8,32)],9,0,T5,[.nil,.nil,.int .i64 0,.int .i64 0,.nil,.nil,.nil,.nil,.nil]⟩),
 (35,⟨.struct [(0,3),(1,3),(2,3),(3,3),(4,3),(5,3),(6,3)],7,0,de,[.int .i64 0,.int .i64 0,.int .i64 0,.int .i64 0,.int .i64 0,.int .i64 0,.int .i64 0]⟩),
 (36,⟨.struct [(0,3),(1,3),(2,3),(3,3),(4,3),(5,3),(6,3)],7,0,de,[.int .i64 0,.int .i64 0,.int .i64 0,.int .i64 0,.int .i64 0,.int .i64 0,.int .i64 0]⟩),
 (37,⟨.struct [(0,3),(1,3)],2,0,bP,[.int .i64 0,.int .i64 0]⟩),
 (38,⟨.struct [(0,3),(1,3)],2,0,bP,[.int .i64 0,.int .i64 0]⟩),
 (39,⟨.slice 114,1,0,(.slice ae),[.nil]⟩),
 (40,⟨.struct [(0,3),(1,3),(2,3),(3,3),(4,3),(5,4),(6,39)],7,0,bM,[.int .i64 0,.int .i64 0,.int .i64 0,.int .i64 0,.int .i64 0,.bool false,.nil]⟩),
 (41,⟨.struct [(0,3),(1,3),(2,3),(3,3),(4,3),(5,4),(6,39)],7,0,bM,[.int .i64 0,.int .i64 0,.int .i64 0,.int .i64 0,.int .i64 0,.bool false,.nil]⟩),
 (42,⟨.struct [(0,3),(1,3),(2,3),(3,3),(4,36),(11,38),(13,41),(20,3),(21,3)],22,0,aa,[.int .i64 0,.int .i64 0,.int .i64 0,.int .i64 0,.int .i64 0,.int .i64 0,.int .i64 0,.int .i64 0,.int .i64 0,.int .i64 0,.int .i64 0,.int .i64 0,.int .i64 0,.int .i64 0,.int .i64 0,.int .i64 0,.int .i64 0,.int .i64 0,.bool false,.nil,.int .i64 0,.int .i64 0]⟩),
 (43,⟨.struct [(0,3),(1,3),(2,3),(3,3),(4,36),(11,38),(13,41),(20,3),(21,3)],22,0,aa,[.int .i64 0,.int .i64 0,.int .i64 0,.int .i64 0,.int .i64 0,.int .i64 0,.int .i64 0,.int .i64 0,.int .i64 0,.int .i64 0,.int .i64 0,.int .i64 0,.int .i64 0,.int .i64 0,.int .i64 0,.int .i64 0,.int .i64 0,.int .i64 0,.bool false,.nil,.int .i64 0,.int .i64 0]⟩),
 (44,⟨.struct [(0,3),(1,43),(23,3),(24,39)],25,0,bi,[.int .i64 0,.int .i64 0,.int .i64 0,.int .i64 0,.int .i64 0,.int .i64 0,.int .i64 0,.int .i64 0,.int .i64 0,.int .i64 0,.int .i64 0,.int .i64 0,.int .i64 0,.int .i64 0,.int .i64 0,.int .i64 0,.int .i64 0,.int .i64 0,.int .i64 0,.bool false,.nil,.int .i64 0,.int .i64 0,.int .i64 0,.nil]⟩),
 (45,⟨.struct [(0,3),(1,43),(23,3),(24,39)],25,0,bi,[.int .i64 0,.int .i64 0,.int .i64 0,.int .i64 0,.int .i64 0,.int .i64 0,.int .i64 0,.int .i64 0,.int .i64 0,.int .i64 0,.int .i64 0,.int .i64 0,.int .i64 0,.int .i64 0,.int .i64 0,.int .i64 0,.int .i64 0,.int .i64 0,.int .i64 0,.bool false,.nil,.int .i64 0,.int .i64 0,.int .i64 0,.nil]⟩),
 (89,⟨.slice 45,1,0,(.slice bi),[.nil]⟩),
 (100,⟨.struct [(0,3),(1,3),(2,3),(3,3),(4,3),(5,3),(6,3),(7,3),(8,3),(9,3),(10,3),(11,4),(12,4)],13,0,ai,[.int .i64 0,.int .i64 0,.int .i64 0,.int .i64 0,.int .i64 0,.int .i64 0,.int .i64 0,.int .i64 0,.int .i64 0,.int .i64 0,.int .i64 0,.bool false,.bool false]⟩),
 (101,⟨.struct [(0,3),(1,3),(2,3),(3,3),(4,3),(5,3),(6,3),(7,3),(8,3),(9,3),(10,3),(11,4),(12,4)],13,0,ai,[.int .i64 0,.int .i64 0,.int .i64 0,.int .i64 0,.int .i64 0,.int .i64 0,.int .i64 0,.int .i64 0,.int .i64 0,.int .i64 0,.int .i64 0,.bool false,.bool false]⟩),
 (102,⟨.struct [(0,3),(1,3),(2,3),(3,101)],16,0,ah,[.int .i64 0,.int .i64 0,.int .i64 0,.int .i64 0,.int .i64 0,.int .i64 0,.int .i64 0,.int .i64 0,.int .i64 0,.int .i64 0,.int .i64 0,.int .i64 0,.int .i64 0,.int .i64 0,.bool false,.bool false]⟩),
 (103,⟨.struct [(0,3),(1,3),(2,3),(3,101)],16,0,ah,[.int .i64 0,.int .i64 0,.int .i64 0,.int .i64 0,.int .i64 0,.int .i64 0,.int .i64 0,.int .i64 0,.int .i64 0,.int .i64 0,.int .i64 0,.int .i64 0,.int .i64 0,.int .i64 0,.bool false,.bool false]⟩),
 (105,⟨.struct [(0,3),(1,3),(2,3),(3,3),(4,3),(5,3),(6,4)],7,0,ae,[.int .i64 0,.int .i64 0,.int .i64 0,.int .i64 0,.int .i64 0,.int .i64 0,.bool false]⟩),
 (109,⟨.struct [(0,39),(1,28),(2,29),(3,32)],4,0,ww,[.nil,.nil,.nil,.nil]⟩),
 (110,⟨.struct [(0,39),(1,28),(2,29),(3,32)],4,0,ww,[.nil,.nil,.nil,.nil]⟩),
 (114,⟨.struct [(0,3),(1,3),(2,3),(3,3),(4,3),(5,3),(6,4)],7,0,ae,[.int .i64 0,.int .i64 0,.int .i64 0,.int .i64 0,.int .i64 0,.int .i64 0,.bool false]⟩),
 (141,⟨.other,1,0,.unit,[.undef]⟩),
 (156,⟨.other,1,0,.unit,[.undef]⟩),
 (158,⟨.struct [(0,3),(1,114),(8,3),(9,3),(10,101)],23,0,aq,[.int .i64 0,.int .i64 0,.int .i64 0,.int .i64 0,.int .i64 0,.int .i64 0,.int .i64 0,.bool false,.int .i64 0,.int .i64 0,.int .i64 0,.int .i64 0,.int .i64 0,.int .i64 0,.int .i64 0,.int .i64 0,.int .i64 0,.int .i64 0,.int .i64 0,.int .i64 0,.int .i64 0,.bool false,.bool false]⟩),
 (159,⟨.struct [(0,3),(1,114),(8,3),(9,3),(10,101)],23,0,aq,[.int .i64 0,.int .i64 0,.int .i64 0,.int .i64 0,.int .i64 0,.int .i64 0,.int .i64 0,.bool false,.int .i64 0,.int .i64 0,.int .i64 0,.int .i64 0,.int .i64 0,.int .i64 0,.int .i64 0,.int .i64 0,.int .i64 0,.int .i64 0,.int .i64 0,.int .i64 0,.int .i64 0,.bool false,.bool false]⟩),
 (161,⟨.struct [(0,3),(1,3),(2,3),(3,3),(4,114),(11,39),(12,3),(13,3)],14,0,aA,[.int .i64 0,.int .i64 0,.int .i64 0,.int .i64 0,.int .i64 0,.int .i64 0,.int .i64 0,.int .i64 0,.int .i64 0,.int .i64 0,.bool false,.nil,.int .i64 0,.int .i64 0]⟩),
 (162,⟨.struct [(0,3),(1,3),(2,3),(3,3),(4,114),(11,39),(12,3),(13,3)],14,0,eK,[.int .i64 0,.int .i64 0,.int .i64 0,.int .i64 0,.int .i64 0,.int .i64 0,.int .i64 0,.int .i64 0,.int .i64 0,.int .i64 0,.bool false,.nil,.int .i64 0,.int .i64 0]⟩),
 (163,⟨.other,1,0,.unit,[.undef]⟩),
 (166,⟨.other,1,0,.unit,[.undef]⟩),
 (177,⟨.other,1,0,.unit,[.undef]⟩),
 (190,⟨.other,1,0,.unit,[.undef]⟩),
 (191,⟨.struct [(0,27),(4,28),(5,29),(6,39),(7,32)],8,0,ST,[.nil,.nil,.int .i64 0,.int .i64 0,.nil,.nil,.nil,.nil]⟩),
 (192,⟨.struct [(0,27),(4,28),(5,29),(6,39),(7,32)],8,0,ST,[.nil,.nil,.int .i64 0,.int .i64 0,.nil,.nil,.nil,.nil]⟩),
 (193,⟨.other,1,0,.unit,[.undef]⟩),
 (197,⟨.other,1,0,.unit,[.undef]⟩),
 (198,⟨.other,1,0,.unit,[.undef]⟩),
 (200,⟨.struct [(0,27),(4,110),(8,198),(9,166)],10,0,.unit,[.nil,.nil,.int .i64 0,.int .i64 0,.nil,.nil,.nil,.nil,.undef,.undef]⟩),
 (221,⟨.other,1,0,.unit,[.undef]⟩),
 (223,⟨.struct [(0,3),(1,3),(2,4)],3,0,ay,[.int .i64 0,.int .i64 0,.bool false]⟩),
 (224,⟨.struct [(0,3),(1,3),(2,4)],3,0,ay,[.int .i64 0,.int .i64 0,.bool false]⟩),
 (226,⟨.other,1,0,.unit,[.undef]⟩),
 (227,⟨.other,1,0,.unit,[.undef]⟩),
 (229,⟨.struct [(0,22),(1,3),(2,3)],3,0,aj,[.nil,.int .i64 0,.int .i64 0]⟩),
 (230,⟨.struct [(0,22),(1,3),(2,3)],3,0,aj,[.nil,.int .i64 0,.int .i64 0]⟩),
 (297,⟨.slice 39,1,0,(.slice (.slice ae)),[.nil]⟩),
 (299,⟨.slice 32,1,0,(.slice (.slice eK)),[.nil]⟩),
 (308,⟨.int .u64,1,0,(.int .u64),[.int .u64 0]⟩),
 (315,⟨.other,1,0,.unit,[.undef]⟩),
 (319,⟨.slice 30,1,0,(.slice (.slice ah)),[.nil]⟩),
 (320,⟨.slice 31,1,0,(.slice (.slice aq)),[.nil]⟩),
 (344,⟨.other,1,0,.unit,[.undef]⟩)]
theorem PV:gB Tryz.prog TF:=Hu (by kernel_rfl)
theorem dL:gB Tryz.prog tab:=Hu (by kernel_rfl)
theorem mixed:Tryz.prog.follows .mixedOrders=true:=by kernel_rfl
abbrev KC (f:Nat) (c:Ct):Prop:=cI Tryz.prog f c
theorem En:ar Tryz.prog { T:=tab,G:=[] }:=ar.nil dL
theorem Ec {f:Nat} {ct:Ct} {G:List (Nat×Ct)} (h:cI Tryz.prog f ct) (hE:ar Tryz.prog { T:=tab,G:=G }):ar Tryz.prog { T:=tab,G:=(f,ct) :: G }:=ar.cons h hE
theorem pq {G:List (Nat×Ct)} (hE:ar Tryz.prog { T:=tab,G:=G }) {f:Nat} {fn:Func} {one fr:Bool} {a r:Ty} {F:a.D→Option r.D} (hs:Hints) (hf:Tryz.prog.funcs[f]?=some fn) (hok:wq fn one (gG a)=true:=by kernel_rfl)
  (hev:∀ x,ev { T:=tab,G:=G } (eY fn) hs (gW (iH a x) fn.ntmps) (Gx tab one fr fn.results.toList r)=F x:=by (intro x;kernel_rfl)):KC f (.pure one fr a r F):=wv hE mixed one fr a r F hs hf hok hev
theorem cq {G:List (Nat×Ct)} (hE:ar Tryz.prog { T:=tab,G:=G }) {f:Nat} {fn:Func} {a c r:Ty} {F:c.D→a.D→Option r.D} (hs:Hints) (hf:Tryz.prog.funcs[f]?=some fn) (hok:(wq fn true (gG a + gG c) && r.flat)=true:=by kernel_rfl)
  (hev:∀ z x,ev { T:=tab,G:=G } (eY fn) hs (gW (iH a x++wl c z) fn.ntmps) (Gx tab true false fn.results.toList r)=F z x:=by (intro z x;kernel_rfl)):KC f (.clo a c r F):=Uo hE mixed a c r F hs hf hok hev
theorem mq {G:List (Nat×Ct)} (hE:ar Tryz.prog { T:=tab,G:=G }) {f:Nat} {fn:Func} {ms:List Md} {one fr:Bool} {a r:Ty} {F:a.D→Option (r.D×(gz ms a).D)} (hs:Hints) (hf:Tryz.prog.funcs[f]?=some fn) (hok:(Lx fn one ms && (fr || yl ms))=true:=by kernel_rfl)
  (hev:∀ x,(jP ms a x 0 (gi ms a x fn.ntmps) fun st=>ev { T:=tab,G:=G } (eY fn) hs st (Tz tab ms a one fr fn.results.toList r))=F x:=by (intro x;kernel_rfl)):KC f (.mut ms one fr a r F):=d8 hE mixed ms one fr a r F hs hf hok hev
def TG:Tab:=[
 (3,⟨.int .i64,1,0,(.int .i64),[.int .i64 0]⟩),
 (4,⟨.bool,1,0,.bool,[.bool false]⟩),
 (28,⟨.slice 43,1,0,(.slice bc),[.nil]⟩),
 (35,⟨.struct [(0,3),(1,3),(2,3),(3,3),(4,3),(5,3),(6,3)],7,0,de,[.int .i64 0,.int .i64 0,.int .i64 0,.int .i64 0,.int .i64 0,.int .i64 0,.int .i64 0]⟩),
 (36,⟨.struct [(0,3),(1,3),(2,3),(3,3),(4,3),(5,3),(6,3)],7,0,de,[.int .i64 0,.int .i64 0,.int .i64 0,.int .i64 0,.int .i64 0,.int .i64 0,.int .i64 0]⟩),
 (37,⟨.struct [(0,3),(1,3)],2,0,bP,[.int .i64 0,.int .i64 0]⟩),
 (38,⟨.struct [(0,3),(1,3)],2,0,bP,[.int .i64 0,.int .i64 0]⟩),
 (39,⟨.slice 114,1,0,(.slice ae),[.nil]⟩),
 (40,⟨.struct [(0,3),(1,3),(2,3),(3,3),(4,3),(5,4),(6,39)],7,0,bM,[.int .i64 0,.int .i64 0,.int .i64 0,.int .i64 0,.int .i64 0,.bool false,.nil]⟩),
 (41,⟨.struct [(0,3),(1,3),(2,3),(3,3),(4,3),(5,4),(6,39)],7,0,SS,[.int .i64 0,.int .i64 0,.int .i64 0,.int .i64 0,.int .i64 0,.bool false,.nil]⟩),
 (42,⟨.struct [(0,3),(1,3),(2,3),(3,3),(4,36),(11,38),(13,41),(20,3),(21,3)],22,0,bc,[.int .i64 0,.int .i64 0,.int .i64 0,.int .i64 0,.int .i64 0,.int .i64 0,.int .i64 0,.int .i64 0,.int .i64 0,.int .i64 0,.int .i64 0,.int .i64 0,.int .i64 0,.int .i64 0,.int .i64 0,.int .i64 0,.int .i64 0,.int .i64 0,.bool false,.nil,.int .i64 0,.int .i64 0]⟩),
 (43,⟨.struct [(0,3),(1,3),(2,3),(3,3),(4,36),(11,38),(13,41),(20,3),(21,3)],22,0,bc,[.int .i64 0,.int .i64 0,.int .i64 0,.int .i64 0,.int .i64 0,.int .i64 0,.int .i64 0,.int .i64 0,.int .i64 0,.int .i64 0,.int .i64 0,.int .i64 0,.int .i64 0,.int .i64 0,.int .i64 0,.int .i64 0,.int .i64 0,.int .i64 0,.bool false,.nil,.int .i64 0,.int .i64 0]⟩),
 (105,⟨.struct [(0,3),(1,3),(2,3),(3,3),(4,3),(5,3),(6,4)],7,0,ae,[.int .i64 0,.int .i64 0,.int .i64 0,.int .i64 0,.int .i64 0,.int .i64 0,.bool false]⟩),
 (114,⟨.struct [(0,3),(1,3),(2,3),(3,3),(4,3),(5,3),(6,4)],7,0,ae,[.int .i64 0,.int .i64 0,.int .i64 0,.int .i64 0,.int .i64 0,.int .i64 0,.bool false]⟩),
 (227,⟨.other,1,0,.unit,[.undef]⟩)]
theorem PW:gB Tryz.prog TG:=Hu (by kernel_rfl)
def dy (a0:(List bc.D)) (a1:Int) (a2:Int):Option ((List bc.D)×Unit) :=
 if 0≤a1 then (if a1≤a2 then (if a2≤(a0.length:Int) then (
 if a2≤(a0.length:Int) then (if (a0.length:Int)≤(a0.length:Int) then (
 bif (a1 == a2) then (
 some (a0,()))
 else (
 if 0≤(0:Int) then (if (0:Int)≤a1 then (if a1≤(a0.length:Int) then (
 if 0≤a2 then (if a2≤(a0.length:Int) then (if (a0.length:Int)≤(a0.length:Int) then (
 if a2.toNat≤(a0.length:Int).toNat then (if a1.toNat + ((a0.length:Int).toNat - a2.toNat)≤a0.length then (
 let u1:(List bc.D):=a0.take (a1.toNat)++(a0.take ((a0.length:Int).toNat)).drop (a2.toNat)++a0.drop (a1.toNat + ((a0.length:Int).toNat - a2.toNat))
 if 0≤((a1.toNat + ((a0.length:Int).toNat - a2.toNat) - 0:Nat):Int) then (if ((a1.toNat + ((a0.length:Int).toNat - a2.toNat) - 0:Nat):Int)≤(a0.length:Int) then (if (a0.length:Int)≤(u1.length:Int) then (
 some ((((u1.take (((a1.toNat + ((a0.length:Int).toNat - a2.toNat) - 0:Nat):Int).toNat)++List.replicate ((a0.length:Int).toNat - ((a1.toNat + ((a0.length:Int).toNat - a2.toNat) - 0:Nat):Int).toNat) (0,0,0,0,(0,0,0,0,0,0,0,()),(0,0,()),(0,0,0,0,0,false,(none,0,0),()),0,0,())++u1.drop ((a0.length:Int).toNat)).take (a1.toNat + ((a0.length:Int).toNat - a2.toNat))).drop (0)),())) else none) else none) else none) else none) else none) else none) else none) else none) else none) else none) else none)) else none) else none) else none) else none) else none
def ln:Ct:=.mut [.tk,.rd,.rd] true true (.pair (.slice bc) (.pair (.int .i64) (.pair (.int .i64) .unit))) (.slice bc) (fun x=>dy x.1 x.2.1 x.2.2.1)
theorem jZ:cI Tryz.prog 212 ln:=d8 (E:={ T:=TG,G:=[] }) (ar.nil PW) mixed (fn:=Tryz.f212) _ _ _ _ _ _ .none Tryz.func212 (by kernel_rfl) (fun x=>by kernel_rfl)
def ci (a0:(List bc.D)) (a1:((bc.D×Unit)→Option Bool)):Int→Option (Int⊕(Int⊕Int)):=fun s1 =>
 bif decide (s1 < (a0.length:Int)) then (
 idx a0 s1 fun x2 =>
(a1 (x2,())).bind fun y3 =>
 bif y3 then (
 some (.inr (.inr s1)))
 else (
 some (.inl (IntKind.wrap .i64 (s1 + 1)))))
 else (
 some (.inr (.inl s1)))
def cN (a0:(List bc.D)) (a1:((bc.D×Unit)→Option Bool)):Option Int :=
(aw (ci a0 a1) 0).bind fun o4 =>
 match o4 with
| .inl s5=>(
 some (-1))
| .inr o6=>(
 some o6)
def nC:Hints:=(n0 (nd (n0 (nd (.node none (some ⟨[.tmp 8 (.int .i64)],[some 0],some [.tmp 4 (.int .i64)],[]⟩) .none .none) .none)) .none))
def gq:Ct:=.pure true false (.pair (.slice bc) (.pair (.fn (.pair bc .unit) .bool) .unit)) (.int .i64) (fun x=>cN x.1 x.2.1)
theorem mt:cI Tryz.prog 207 gq:=wv (E:={ T:=TG,G:=[] }) (ar.nil PW) mixed (fn:=Tryz.f207) _ _ _ _ _ nC Tryz.func207 (by kernel_rfl) (fun x=>by kernel_rfl)
def bE (a1:((bc.D×Unit)→Option Bool)):((List bc.D)×(Int×Int))→Option (((List bc.D)×(Int×Int))⊕((List bc.D)×(Int×Int))):=fun s3 =>
 bif decide (s3.2.2 < (s3.1.length:Int)) then (
 idx s3.1 s3.2.2 fun _ =>
(s3.1[(s3.2.2:Int).toNat]?).bind fun x4 =>
(a1 (x4,())).bind fun y5 =>
((bif (!y5) then (
 idx s3.1 s3.2.1 fun _ =>
(s3.1[(s3.2.1:Int).toNat]?).bind fun x6 =>
 let u7:(List bc.D):=s3.1.set (s3.2.1:Int).toNat x4
 some (u7,IntKind.wrap .i64 (s3.2.1 + 1)))
 else (
 some (s3.1,s3.2.1))):Option ((List bc.D)×Int)).bind fun o8 =>
 some (.inl (o8.1,o8.2,IntKind.wrap .i64 (s3.2.2 + 1))))
 else (
 some (.inr s3))
def cE (a0:(List bc.D)) (a1:((bc.D×Unit)→Option Bool)):Option ((List bc.D)×Unit) :=
(cN a0 a1).bind fun y1 =>
 bif (y1 == (-1)) then (
 some (a0,()))
 else (
(aw (bE a1) (a0,y1,IntKind.wrap .i64 (y1 + 1))).bind fun o9 =>
 if 0≤o9.2.1 then (if o9.2.1≤(o9.1.length:Int) then (if (o9.1.length:Int)≤(o9.1.length:Int) then (
 if 0≤(0:Int) then (if (0:Int)≤o9.2.1 then (if o9.2.1≤((o9.1.take (o9.2.1.toNat)++List.replicate ((o9.1.length:Int).toNat - o9.2.1.toNat) (0,0,0,0,(0,0,0,0,0,0,0,()),(0,0,()),(0,0,0,0,0,false,(none,0,0),()),0,0,())++o9.1.drop ((o9.1.length:Int).toNat)).length:Int) then (
 some ((((o9.1.take (o9.2.1.toNat)++List.replicate ((o9.1.length:Int).toNat - o9.2.1.toNat) (0,0,0,0,(0,0,0,0,0,0,0,()),(0,0,()),(0,0,0,0,0,false,(none,0,0),()),0,0,())++o9.1.drop ((o9.1.length:Int).toNat)).take (o9.2.1.toNat)).drop ((0:Int).toNat)),())) else none) else none) else none) else none) else none) else none)
def mu:Hints:=(n0 (n0 (n0 (nd (n0 (nd (.node none (some ⟨[.tmpO 0 1 (.slice bc),.tmp 5 (.int .i64),.tmp 6 (.int .i64)],[some 0],none,[]⟩) (n0 (nd (nd (n0 (n0 (cu ⟨[.tmpO 0 2 (.slice bc),.tmp 5 (.int .i64)],[none],none,[(0,1)]⟩))) .none) .none)) .none) .none)) .none))))
def i8:Ct:=.mut [.tk,.rd] true true (.pair (.slice bc) (.pair (.fn (.pair bc .unit) .bool) .unit)) (.slice bc) (fun x=>cE x.1 x.2.1)
theorem iR:cI Tryz.prog 219 i8:=d8 (E:={ T:=TG,G:=[(207,gq)] }) (ar.cons mt (ar.nil PW)) mixed (fn:=Tryz.f219) _ _ _ _ _ _ mu Tryz.func219 (by kernel_rfl) (fun x=>by kernel_rfl)
def Ii (a0:(List Int)):Option Bool :=
 some (decide ((a0.length:Int) > 1048576))
def PX:Ct:=.pure true false (.pair (.slice (.int .u8)) .unit) .bool (fun x=>Ii x.1)
theorem Of:KC 10 PX:=pq En .none Tryz.func10
def Bk (a0:(List Int)):(Int×Int)→Option ((Int×Int)⊕(Int×Int)):=fun s1 =>
((bif decide (s1.2 < (a0.length:Int)) then (
 some (decide (s1.2 < 4000)))
 else (
 some false)):Option Bool).bind fun o2 =>
 bif o2 then (
 idx a0 s1.2 fun x3 =>
 let k4:Int:=IntKind.wrap .i64 ((IntKind.wrap .i64 (s1.1 * 137)) + (IntKind.wrap .i64 x3))
 let k5:Int:=IntKind.wrap .i64 (BitVec.ofInt (IntKind.bits .i64) (IntKind.wrap .i64 (k4 + 11)) &&& BitVec.ofInt (IntKind.bits .i64) 1073741823).toNat
 some (.inl (k5,IntKind.wrap .i64 (s1.2 + 1))))
 else (
 some (.inr s1))
def sj (a0:(List Int)):Option aj.D :=
(aw (Bk a0) (IntKind.wrap .i64 (139871 + (a0.length:Int)),0)).bind fun o6 =>
 some (a0,0,o6.1,())
def Mp:Hints:=(n0 (n0 (nd (n0 (nd (.node none (some ⟨[.tmp 3 (.int .i64),.tmp 4 (.int .i64)],[some 0],none,[]⟩) (nd (nd (cu ⟨[.tmp 15 .bool],[none],none,[]⟩) .none) .none) .none) .none)) .none)))
def Mq:Ct:=.box (.pair (.slice (.int .u8)) .unit) aj (fun x=>sj x.1)
theorem Bl:cI Tryz.prog 85 Mq:=Uq (E:={ T:=tab,G:=[] }) (ar.nil dL) mixed (fn:=Tryz.f85) _ _ _ Mp Tryz.func85 (by kernel_rfl) (fun x=>by kernel_rfl)
def Bm (a0:Int):Option ac.D :=
 bif (a0 == 3) then (
 if (([(20,0,false,()),(20,0,false,())]:List ay.D).length + ([(20,0,false,())]:List ay.D).length) * (24 * 3)≤aG then (
 some ([],(([(20,0,false,()),(20,0,false,())]:List ay.D)++([(20,0,false,())]:List ay.D)),0,0,())) else none)
 else (
 some ([],([(20,0,false,()),(20,0,false,())]:List ay.D),0,0,()))
def iI:Ct:=.pure true true (.pair (.int .i64) .unit) ac (fun x=>Bm x.1)
theorem mw:KC 285 iI:=pq En .none Tryz.func285
def gX (a0:aj.D):Option (Int×(aj.D×Unit)) :=
 let k1:Int:=IntKind.wrap .i64 ((IntKind.wrap .i64 (a0.2.2.1 * 6364136223846793005)) + 1442695040888963407)
 if 0≤33 then (
 if 0≤47 then (
 let k2:Int:=IntKind.wrap .i64 (BitVec.ofInt (IntKind.bits .i64) (k1.fdiv (2 ^ min (33:Int).toNat (IntKind.bits .i64))) ^^^ BitVec.ofInt (IntKind.bits .i64) (k1.fdiv (2 ^ min (47:Int).toNat (IntKind.bits .i64)))).toNat
 let k3:Int:=IntKind.wrap .i64 (BitVec.ofInt (IntKind.bits .i64) k2 &&& BitVec.ofInt (IntKind.bits .i64) 255).toNat
 bif decide (a0.2.1 < (a0.1.length:Int)) then (
 idx a0.1 a0.2.1 fun x4 =>
 let k5:Int:=IntKind.wrap .i64 (BitVec.ofInt (IntKind.bits .i64) (IntKind.wrap .i64 (k3 + (IntKind.wrap .i64 x4))) &&& BitVec.ofInt (IntKind.bits .i64) 255).toNat
 some (k5,((a0.1,IntKind.wrap .i64 (a0.2.1 + 1),k1,()),())))
 else (
 some (k3,((a0.1,a0.2.1,k1,()),())))) else none) else none
def J0:Ct:=.mut [.ptr] true true (.pair aj .unit) (.int .i64) (fun x=>gX x.1)
theorem Ij:KC 200 J0:=mq En .none Tryz.func200
def aI (a0:aj.D) (a1:Int):Option (Int×(aj.D×Unit)) :=
 bif decide (a1≤0) then (
 some (0,(a0,())))
 else (
 bif decide (a1≤256) then (
(gX a0).bind fun y1 =>
 if a1=0 then none else (
 some (y1.1.tmod a1,y1.2)))
 else (
(gX a0).bind fun y2 =>
(gX y2.2.1).bind fun y3 =>
(gX y3.2.1).bind fun y4 =>
 let k5:Int:=IntKind.wrap .i64 ((IntKind.wrap .i64 (y2.1 * 65536)) + (IntKind.wrap .i64 (y3.1 * 256)))
 if a1=0 then none else (
 some ((IntKind.wrap .i64 (k5 + y4.1)).tmod a1,y4.2))))
def bd:Ct:=.mut [.ptr,.rd] true true (.pair aj (.pair (.int .i64) .unit)) (.int .i64) (fun x=>aI x.1 x.2.1)
theorem aO:KC 88 bd:=mq (Ec Ij En) .none Tryz.func88
def aF (a0:aj.D) (a1:(List Int)):Option (Int×(aj.D×Unit)) :=
(aI a0 (a1.length:Int)).bind fun y1 =>
 idx a1 y1.1 fun x2 =>
 some (x2,y1.2)
def bj:Ct:=.mut [.ptr,.rd] true true (.pair aj (.pair (.slice (.int .i64)) .unit)) (.int .i64) (fun x=>aF x.1 x.2.1)
theorem bg:KC 198 bj:=mq (Ec aO En) .none Tryz.func198
def bu (a0:aj.D) (a1:Int):Option (Bool×(aj.D×Unit)) :=
(aI a0 a1).bind fun y1 =>
 some ((y1.1 == 0),y1.2)
def eq:Ct:=.mut [.ptr,.rd] true true (.pair aj (.pair (.int .i64) .unit)) .bool (fun x=>bu x.1 x.2.1)
theorem cW:KC 103 eq:=mq (Ec aO En) .none Tryz.func103
def yF:(Int×(aj.D×(Int×(Int×(Int×(Int×(Int×(Int×(Int×(Int×(Int×(Int×(Int×(Bool×(Bool×Unit)))))))))))))))→Option ((Int×(aj.D×(Int×(Int×(Int×(Int×(Int×(Int×(Int×(Int×(Int×(Int×(Int×(Bool×(Bool×Unit)))))))))))))))⊕(Int×(aj.D×(Int×(Int×(Int×(Int×(Int×(Int×(Int×(Int×(Int×(Int×(Int×(Bool×(Bool×Unit)))))))))))))))):=fun s8 =>
 bif decide (s8.1 < (([1,2,4,8,16,32]:List Int).length:Int)) then (
 idx ([1,2,4,8,16,32]:List Int) s8.1 fun _ =>
(([1,2,4,8,16,32]:List Int)[(s8.1:Int).toNat]?).bind fun x9 =>
(bu s8.2.1 3).bind fun y10 =>
 bif y10.1 then (
 some (.inl (IntKind.wrap .i64 (s8.1 + 1),y10.2.1,s8.2.2.1,s8.2.2.2.1,s8.2.2.2.2.1,s8.2.2.2.2.2.1,s8.2.2.2.2.2.2.1,s8.2.2.2.2.2.2.2.1,s8.2.2.2.2.2.2.2.2.1,IntKind.wrap .i64 (s8.2.2.2.2.2.2.2.2.2.1 + x9),s8.2.2.2.2.2.2.2.2.2.2)))
 else (
 some (.inl (IntKind.wrap .i64 (s8.1 + 1),y10.2.1,s8.2.2))))
 else (
 some (.inr s8))
def lH (a0:aj.D) (a1:Int):Option (ai.D×(aj.D×Unit)) :=
(aI a0 2).bind fun y1 =>
(aF y1.2.1 ([2,2,2,1,3]:List Int)).bind fun y2 =>
(aI y2.2.1 3).bind fun y3 =>
(aI y3.2.1 5).bind fun y4 =>
(aI y4.2.1 5).bind fun y5 =>
(aw (yF) (0,y5.2.1,a1,y1.1,y1.1,y2.1,y3.1,y4.1,IntKind.wrap .i64 (1 + y5.1),0,0,0,0,false,false,())).bind fun o11 =>
 bif (o11.2.2.2.2.2.1 != 2) then (
 some (o11.2.2,(o11.2.1,())))
 else (
(bu o11.2.1 4).bind fun y12 =>
((bif y12.1 then (
 some (o11.2.2.1,o11.2.2.2.1,IntKind.wrap .i64 (1 - o11.2.2.2.1),o11.2.2.2.2.2))
 else (
 some o11.2.2)):Option ai.D).bind fun o13 =>
(aF y12.2.1 ([0,0,1,2]:List Int)).bind fun y14 =>
(aF y14.2.1 ([0,0,0,1]:List Int)).bind fun y15 =>
(aF y15.2.1 ([0,0,1]:List Int)).bind fun y16 =>
(bu y16.2.1 4).bind fun y17 =>
 some ((o13.1,o13.2.1,o13.2.2.1,o13.2.2.2.1,o13.2.2.2.2.1,o13.2.2.2.2.2.1,o13.2.2.2.2.2.2.1,o13.2.2.2.2.2.2.2.1,y14.1,y15.1,y16.1,o13.2.2.2.2.2.2.2.2.2.2.2.1,y17.1,()),y17.2))
def J1:Hints:=(n0 (n0 (n0 (nd (n0 (nd (.node none (some ⟨[.tmp 27 (.int .i64),.box 0 0 aj,.box 5 0 ai],[some 0],none,[]⟩) .none .none) .none)) (n0 (nd (n0 (cu ⟨[.box 5 0 ai],[none],none,[(5,0)]⟩)) .none))))))
def j5:Ct:=.mut [.ptr,.rd] true true (.pair aj (.pair (.int .i64) .unit)) ai (fun x=>lH x.1 x.2.1)
theorem my:cI Tryz.prog 262 j5:=d8 (E:={ T:=tab,G:=[(88,bd),(103,eq),(198,bj)],V:=[12,50,54,58] }) (ar.views (ar.cons aO (ar.cons cW (ar.cons bg (ar.nil dL))))) mixed (fn:=Tryz.f262) _ _ _ _ _ _ J1 Tryz.func262 (by kernel_rfl) (fun x=>by kernel_rfl)
def yG:(Int×(aj.D×((List ai.D)×((List ay.D)×(Int×(Int×Unit))))))→Option ((Int×(aj.D×((List ai.D)×((List ay.D)×(Int×(Int×Unit))))))⊕(Int×(aj.D×((List ai.D)×((List ay.D)×(Int×(Int×Unit))))))):=fun s6 =>
 bif decide (s6.1 < 2) then (
(aF s6.2.1 ([20,20,3,1,10]:List Int)).bind fun y7 =>
 idx s6.2.2.2.1 s6.1 fun _ =>
(s6.2.2.2.1[(s6.1:Int).toNat]?).bind fun x8 =>
 let u9:(List ay.D):=s6.2.2.2.1.set (s6.1:Int).toNat (y7.1,x8.2)
(aF y7.2.1 ([0,0,8,1]:List Int)).bind fun y10 =>
 idx u9 s6.1 fun _ =>
(u9[(s6.1:Int).toNat]?).bind fun x11 =>
 let u12:(List ay.D):=u9.set (s6.1:Int).toNat (x11.1,y10.1,x11.2.2)
 some (.inl (IntKind.wrap .i64 (s6.1 + 1),y10.2.1,s6.2.2.1,u12,s6.2.2.2.2)))
 else (
 some (.inr s6))
def yI:(Int×(Int×(aj.D×((List ai.D)×((List ay.D)×(Int×(Int×Unit)))))))→Option ((Int×(Int×(aj.D×((List ai.D)×((List ay.D)×(Int×(Int×Unit)))))))⊕(Int×(Int×(aj.D×((List ai.D)×((List ay.D)×(Int×(Int×Unit)))))))):=fun s17 =>
 bif decide (s17.2.1 > 0) then (
(aI s17.2.2.1 2).bind fun y18 =>
(lH y18.2.1 (IntKind.wrap .i64 ((IntKind.wrap .i64 (s17.1 + 1)) + y18.1))).bind fun y19 =>
 if (s17.2.2.2.1.length + [y19.1].length) * (24 * 13)≤aG then (
 some (.inl (IntKind.wrap .i64 ((IntKind.wrap .i64 (s17.1 + 1)) + y18.1),IntKind.wrap .i64 (s17.2.1 - 1),y19.2.1,(s17.2.2.2.1++[y19.1]),s17.2.2.2.2))) else none)
 else (
 some (.inr s17))
def lI (a0:aj.D):Option (ac.D×(aj.D×Unit)) :=
(Bm 2).bind fun y1 =>
(aI a0 3).bind fun y2 =>
(aI y2.2.1 2).bind fun y3 =>
(aw (yG) (0,y3.2.1,y1.1,y1.2.1,y3.1,IntKind.wrap .i64 (2 + y2.1),())).bind fun o13 =>
(aI o13.2.1 5).bind fun y14 =>
(aw (yI) (0,IntKind.wrap .i64 (1 + y14.1),y14.2.1,o13.2.2)).bind fun o20 =>
 some (o20.2.2.2,(o20.2.2.1,()))
def Bn:Hints:=(n0 (n0 (n0 (n0 (nd (n0 (nd (.node none (some ⟨[.tmp 4 (.int .i64),.box 0 0 aj,.boxO 3 0 1 ac],[some 0],none,[]⟩) .none .none) .none)) (n0 (nd (n0 (nd (.node none (some ⟨[.tmp 5 (.int .i64),.tmp 6 (.int .i64),.box 0 0 aj,.boxO 3 0 3 ac],[some 2],none,[]⟩) .none .none) .none)) .none)))))))
def J2:Ct:=.mut [.ptr] true false (.pair aj .unit) ac (fun x=>lI x.1)
theorem Ik:cI Tryz.prog 175 J2:=d8 (E:={ T:=tab,G:=[(88,bd),(198,bj),(262,j5),(285,iI)],V:=[24,32] }) (ar.views (ar.cons aO (ar.cons bg (ar.cons my (ar.cons mw (ar.nil dL)))))) mixed (fn:=Tryz.f175) _ _ _ _ _ _ Bn Tryz.func175 (by kernel_rfl) (fun x=>by kernel_rfl)
def qP:Ct:=.mut [.ptr] true true (.pair aj .unit) ac (fun x=>lI x.1)
theorem yJ:cI Tryz.prog 175 qP:=d8 (E:={ T:=tab,G:=[(88,bd),(198,bj),(262,j5),(285,iI)],V:=[24,32] }) (ar.views (ar.cons aO (ar.cons bg (ar.cons my (ar.cons mw (ar.nil dL)))))) mixed (fn:=Tryz.f175) _ _ _ _ _ _ Bn Tryz.func175 (by kernel_rfl) (fun x=>by kernel_rfl)
def gI (a0:aj.D) (a1:ac.D):Option (Int×(aj.D×Unit)) :=
((bif ((a1.1.length:Int) == 0) then (
 some (true,a0))
 else (
(bu a0 8).bind fun y1 =>
 some (y1.1,y1.2.1))):Option (Bool×((List Int)×(Int×(Int×Unit))))).bind fun o2 =>
 bif o2.1 then (
(aI o2.2 9).bind fun y3 =>
 some (IntKind.wrap .i64 (1 + y3.1),y3.2))
 else (
(aI o2.2 (a1.1.length:Int)).bind fun y4 =>
 idx a1.1 y4.1 fun x5 =>
 some (x5.1,y4.2))
def Og:Hints:=(n0 (nd (nd (cu ⟨[.tmp 12 .bool,.box 0 0 aj],[none],none,[(0,0)]⟩) .none) .none))
def lJ:Ct:=.mut [.ptr,.rd] true true (.pair aj (.pair ac .unit)) (.int .i64) (fun x=>gI x.1 x.2.1)
theorem mz:KC 287 lJ:=mq (Ec aO (Ec cW En)) Og Tryz.func287
def pG (a0:aj.D) (a1:ac.D):Option (de.D×(aj.D×Unit)) :=
(aF a0 ([1,1,1,1,2,2,3,4,5,6]:List Int)).bind fun y1 =>
(aF y1.2.1 ([0,0,1,2]:List Int)).bind fun y2 =>
(bu y2.2.1 4).bind fun y3 =>
((bif y3.1 then (
(aF y3.2.1 ([1,2,3]:List Int)).bind fun y4 =>
 some (y4.2.1,y1.1,y2.1,0,0,0,y4.1,0,()))
 else (
 some (y3.2.1,y1.1,y2.1,0,0,0,0,0,()))):Option (aj.D×(Int×(Int×(Int×(Int×(Int×(Int×(Int×Unit))))))))).bind fun o5 =>
((bif (o5.2.1 == 1) then (
(bu o5.1 5).bind fun y6 =>
((bif y6.1 then (
(gI y6.2.1 a1).bind fun y7 =>
 some (y7.2.1,o5.2.1,o5.2.2.1,y7.1,o5.2.2.2.2))
 else (
 some (y6.2.1,o5.2))):Option (aj.D×(Int×(Int×(Int×(Int×(Int×(Int×(Int×Unit))))))))).bind fun o8 =>
(bu o8.1 5).bind fun y9 =>
((bif y9.1 then (
(aF y9.2.1 ([1,2,4,3]:List Int)).bind fun y10 =>
 some (y10.2.1,o8.2.1,o8.2.2.1,o8.2.2.2.1,y10.1,o8.2.2.2.2.2))
 else (
 some (y9.2.1,o8.2))):Option (aj.D×(Int×(Int×(Int×(Int×(Int×(Int×(Int×Unit))))))))).bind fun o11 =>
 some o11)
 else (
((bif (o5.2.1 == 2) then (
(aF o5.1 ([0,3,2]:List Int)).bind fun y12 =>
 some (y12.2.1,o5.2.1,o5.2.2.1,o5.2.2.2.1,o5.2.2.2.2.1,o5.2.2.2.2.2.1,0,y12.1,()))
 else (
 some o5)):Option (aj.D×(Int×(Int×(Int×(Int×(Int×(Int×(Int×Unit))))))))).bind fun o13 =>
 some o13)):Option (aj.D×(Int×(Int×(Int×(Int×(Int×(Int×(Int×Unit))))))))).bind fun o14 =>
((bif (o14.2.1 != 3) then (
 bif (o14.2.1 != 4) then (
(bu o14.1 5).bind fun y15 =>
 some (y15.1,y15.2.1))
 else (
 some (false,o14.1)))
 else (
 some (false,o14.1))):Option (Bool×((List Int)×(Int×(Int×Unit))))).bind fun o16 =>
 bif o16.1 then (
(gI o16.2 a1).bind fun y17 =>
 some ((o14.2.1,o14.2.2.1,o14.2.2.2.1,o14.2.2.2.2.1,y17.1,o14.2.2.2.2.2.2),y17.2))
 else (
 some (o14.2,(o16.2,())))
def J3:Hints:=(n0 (n0 (nd (n0 (cu ⟨[.box 0 0 aj,.box 5 0 de],[none],none,[(0,0),(5,0)]⟩)) (nd (n0 (nd (n0 (.node (some ⟨[.box 0 0 aj,.box 5 0 de],[none],none,[(0,0),(5,0)]⟩) none (nd (n0 (cu ⟨[.box 0 0 aj,.box 5 0 de],[none],none,[(0,0),(5,0)]⟩)) (n0 (cu ⟨[.box 0 0 aj,.box 5 0 de],[none],none,[(0,0),(5,0)]⟩))) (n0 (cu ⟨[.box 0 0 aj,.box 5 0 de],[none],none,[(0,0),(5,0)]⟩)))) .none)) (nd (nd (cu ⟨[.tmp 53 .bool,.box 0 0 aj],[none],none,[(0,0)]⟩) .none) .none)))))
def pe:Ct:=.mut [.ptr,.rd] true true (.pair aj (.pair ac .unit)) de (fun x=>pG x.1 x.2.1)
theorem sk:cI Tryz.prog 298 pe:=d8 (E:={ T:=tab,G:=[(103,eq),(198,bj),(287,lJ)],V:=[7,10,16,32,38] }) (ar.views (ar.cons cW (ar.cons bg (ar.cons mz (ar.nil dL))))) mixed (fn:=Tryz.f298) _ _ _ _ _ _ J3 Tryz.func298 (by kernel_rfl) (fun x=>by kernel_rfl)
def pI (a0:aj.D):Option (bP.D×(aj.D×Unit)) :=
(bu a0 3).bind fun y1 =>
 bif (!y1.1) then (
 some ((0,0,()),y1.2))
 else (
(aI y1.2.1 4).bind fun y2 =>
 bif ((IntKind.wrap .i64 (1 + y2.1)) == 1) then (
(aF y2.2.1 ([3,10,20,1]:List Int)).bind fun y3 =>
 some ((IntKind.wrap .i64 (1 + y2.1),y3.1,()),y3.2))
 else (
((bif ((IntKind.wrap .i64 (1 + y2.1)) == 2) then (
 some ((IntKind.wrap .i64 (1 + y2.1)) == 2))
 else (
 some ((IntKind.wrap .i64 (1 + y2.1)) == 4))):Option Bool).bind fun o4 =>
 bif o4 then (
(aF y2.2.1 ([0,1,2]:List Int)).bind fun y5 =>
 some ((IntKind.wrap .i64 (1 + y2.1),y5.1,()),y5.2))
 else (
 some ((IntKind.wrap .i64 (1 + y2.1),0,()),y2.2))))
def J4:Hints:=(n0 (n0 (n0 (nd (n0 (nd (n0 (n0 (nd (n0 (cu ⟨[.tmp 20 .bool],[none],none,[]⟩)) .none))) .none)) .none))))
def pf:Ct:=.mut [.ptr] true true (.pair aj .unit) bP (fun x=>pI x.1)
theorem sl:cI Tryz.prog 299 pf:=d8 (E:={ T:=tab,G:=[(88,bd),(103,eq),(198,bj)],V:=[17,24] }) (ar.views (ar.cons aO (ar.cons cW (ar.cons bg (ar.nil dL))))) mixed (fn:=Tryz.f299) _ _ _ _ _ _ J4 Tryz.func299 (by kernel_rfl) (fun x=>by kernel_rfl)
def aM (a0:Int) (a1:Int) (a2:Int):Option Bool :=
 bif decide (a0≥a1) then (
 some (decide (a0≤a2)))
 else (
 some false)
def Oh:Ct:=.pure true false (.pair (.int .i64) (.pair (.int .i64) (.pair (.int .i64) .unit))) .bool (fun x=>aM x.1 x.2.1 x.2.2.1)
theorem cj:KC 229 Oh:=pq En .none Tryz.func229
def fT (a0:bM.D) (a1:Int):Option Bool :=
(aM a1 1 6).bind fun y1 =>
 bif (!y1) then (
 some false)
 else (
((bif (a0.1 == 2) then (
 some (a0.1 == 2))
 else (
 some (a0.1 == 6))):Option Bool).bind fun o2 =>
 bif o2 then (
 some (a1 == 1))
 else (
((bif (a0.1 == 3) then (
 some (a0.1 == 3))
 else (
((bif (a0.1 == 4) then (
 some (a0.1 == 4))
 else (
 some (a0.1 == 5))):Option Bool).bind fun o3 =>
 some o3)):Option Bool).bind fun o4 =>
 bif o4 then (
 some (a1 != 2))
 else (
((bif (a0.1 == 7) then (
 some (a0.1 == 7))
 else (
 some (a0.1 == 8))):Option Bool).bind fun o5 =>
 bif o5 then (
 some (a1 == 2))
 else (
 bif (a0.1 == 1) then (
 some true)
 else (
 some (a0.1 == 9))))))
def Il:Hints:=(n0 (n0 (nd (n0 (nd (nd (n0 (cu ⟨[.tmp 10 .bool],[none],none,[]⟩)) (n0 (nd (n0 (.node (some ⟨[.tmp 15 .bool],[none],none,[]⟩) none .none (n0 (cu ⟨[.tmp 15 .bool],[none],none,[]⟩)))) (n0 (nd (n0 (cu ⟨[.tmp 21 .bool],[none],none,[]⟩)) .none))))) .none)) .none)))
def yK:Ct:=.pure true false (.pair bM (.pair (.int .i64) .unit)) .bool (fun x=>fT x.1 x.2.1)
theorem qw:KC 331 yK:=pq (Ec cj En) Il Tryz.func331
def fw (a0:aj.D) (a1:ac.D):Option (ae.D×(aj.D×Unit)) :=
(aF a0 ([1,1,1,2,2,3,4,5,6]:List Int)).bind fun y1 =>
(aF y1.2.1 ([1,2,3,5,0,8,2147483647]:List Int)).bind fun y2 =>
 bif (y1.1 == 1) then (
(gI y2.2.1 a1).bind fun y3 =>
(bu y3.2.1 2).bind fun y4 =>
 bif y4.1 then (
(aI y4.2.1 2).bind fun y5 =>
 some ((y1.1,y3.1,0,y5.1,y2.1,0,false,()),y5.2))
 else (
(gI y4.2.1 a1).bind fun y6 =>
 some ((y1.1,y3.1,y6.1,(-1),y2.1,0,false,()),y6.2)))
 else (
 bif (y1.1 == 2) then (
(gI y2.2.1 a1).bind fun y7 =>
(aF y7.2.1 ([3,3,1,2,4]:List Int)).bind fun y8 =>
 bif (y8.1 == 2) then (
(aF y8.2.1 ([0,0,1,2]:List Int)).bind fun y9 =>
(bu y9.2.1 3).bind fun y10 =>
 some ((y1.1,0,y7.1,(-1),y9.1,y8.1,y10.1,()),y10.2))
 else (
 some ((y1.1,0,y7.1,(-1),0,y8.1,false,()),y8.2)))
 else (
((bif (y1.1 == 3) then (
 some (y1.1 == 3))
 else (
 some (y1.1 == 4))):Option Bool).bind fun o11 =>
 bif o11 then (
(aI y2.2.1 2).bind fun y12 =>
 some ((y1.1,0,0,y12.1,y2.1,0,false,()),y12.2))
 else (
(gI y2.2.1 a1).bind fun y13 =>
 some ((y1.1,0,y13.1,(-1),y2.1,0,false,()),y13.2))))
def J5:Hints:=(n0 (n0 (n0 (nd (n0 (nd (n0 (n0 (n0 (n0 (nd (n0 (cu ⟨[.tmp 56 .bool],[none],none,[]⟩)) .none))))) .none)) .none))))
def pg:Ct:=.mut [.ptr,.rd] true true (.pair aj (.pair ac .unit)) ae (fun x=>fw x.1 x.2.1)
theorem mA:cI Tryz.prog 178 pg:=d8 (E:={ T:=tab,G:=[(88,bd),(103,eq),(198,bj),(287,lJ)],V:=[7,11,43,50] }) (ar.views (ar.cons aO (ar.cons cW (ar.cons bg (ar.cons mz (ar.nil dL)))))) mixed (fn:=Tryz.f178) _ _ _ _ _ _ J5 Tryz.func178 (by kernel_rfl) (fun x=>by kernel_rfl)
def yL (a2:Int):(Int×(aj.D×(Int×(Int×(Int×(Int×(Int×(Bool×((List ae.D)×Unit)))))))))→Option ((Int×(aj.D×(Int×(Int×(Int×(Int×(Int×(Bool×((List ae.D)×Unit)))))))))⊕(Int×(aj.D×(Int×(Int×(Int×(Int×(Int×(Bool×((List ae.D)×Unit)))))))))):=fun s4 =>
((bif decide (s4.1 < 6) then (
(fT s4.2.2 a2).bind fun y5 =>
 some (!y5))
 else (
 some false)):Option Bool).bind fun o6 =>
 bif o6 then (
(aI s4.2.1 9).bind fun y7 =>
 some (.inl (IntKind.wrap .i64 (s4.1 + 1),y7.2.1,IntKind.wrap .i64 (1 + y7.1),s4.2.2.2)))
 else (
 some (.inr s4))
def yM (a1:ac.D):(Int×(aj.D×(Int×(Int×(Int×(Int×(Int×(Bool×((List ae.D)×Unit)))))))))→Option ((Int×(aj.D×(Int×(Int×(Int×(Int×(Int×(Bool×((List ae.D)×Unit)))))))))⊕(Int×(aj.D×(Int×(Int×(Int×(Int×(Int×(Bool×((List ae.D)×Unit)))))))))):=fun s21 =>
 bif decide (s21.1 > 0) then (
(fw s21.2.1 a1).bind fun y22 =>
((bif (y22.1.1 != 2) then (
(bu y22.2.1 2).bind fun y23 =>
 some (y23.1,y23.2.1))
 else (
 some (false,y22.2.1))):Option (Bool×((List Int)×(Int×(Int×Unit))))).bind fun o24 =>
((bif o24.1 then (
 some (y22.1.1,y22.1.2.1,y22.1.2.2.1,y22.1.2.2.2.1,(-1),y22.1.2.2.2.2.2))
 else (
 some y22.1)):Option ae.D).bind fun o25 =>
 if (s21.2.2.2.2.2.2.2.2.1.length + [o25].length) * (24 * 7)≤aG then (
 some (.inl (IntKind.wrap .i64 (s21.1 - 1),o24.2,s21.2.2.1,s21.2.2.2.1,s21.2.2.2.2.1,s21.2.2.2.2.2.1,s21.2.2.2.2.2.2.1,s21.2.2.2.2.2.2.2.1,(s21.2.2.2.2.2.2.2.2.1++[o25]),()))) else none)
 else (
 some (.inr s21))
def pJ (a0:aj.D) (a1:ac.D) (a2:Int):Option (bM.D×(aj.D×Unit)) :=
(aF a0 ([1,2,2,3,3,4,5,6,6,7,8,8,9,9]:List Int)).bind fun y1 =>
(aw (yL a2) (0,y1.2.1,y1.1,0,0,(-1),0,false,[],())).bind fun o8 =>
(fT o8.2.2 a2).bind fun y9 =>
((bif (!y9) then (
 some (1,o8.2.2.2))
 else (
 some o8.2.2)):Option bM.D).bind fun o10 =>
 bif (o10.1 == 3) then (
(aF o8.2.1 ([1,2,5,2147483647]:List Int)).bind fun y11 =>
 some ((o10.1,y11.1,o10.2.2),y11.2))
 else (
 bif (o10.1 == 6) then (
(bu o8.2.1 2).bind fun y12 =>
 bif y12.1 then (
(aI y12.2.1 2).bind fun y13 =>
 some ((o10.1,o10.2.1,o10.2.2.1,y13.1,o10.2.2.2.2),y13.2))
 else (
(gI y12.2.1 a1).bind fun y14 =>
 some ((o10.1,o10.2.1,y14.1,o10.2.2.2),y14.2)))
 else (
 bif (o10.1 == 7) then (
(aF o8.2.1 ([1,4,3,2]:List Int)).bind fun y15 =>
 some ((o10.1,o10.2.1,o10.2.2.1,o10.2.2.2.1,y15.1,o10.2.2.2.2.2),y15.2))
 else (
 bif (o10.1 == 8) then (
(aI o8.2.1 3).bind fun y16 =>
(bu y16.2.1 3).bind fun y17 =>
 some ((o10.1,y16.1,o10.2.2.1,o10.2.2.2.1,o10.2.2.2.2.1,y17.1,o10.2.2.2.2.2.2),y17.2))
 else (
 bif (o10.1 == 9) then (
(aI o8.2.1 2).bind fun y18 =>
(aw (yM a1) (IntKind.wrap .i64 (1 + y18.1),y18.2.1,o10)).bind fun o26 =>
 some (o26.2.2,(o26.2.1,())))
 else (
 some (o10,(o8.2.1,())))))))
def J6:Hints:=(n0 (n0 (nd (n0 (nd (.node none (some ⟨[.tmp 8 (.int .i64),.box 0 0 aj,.boxO 7 0 1 bM],[some 0],none,[]⟩) (nd (nd (cu ⟨[.tmp 22 .bool],[none],none,[]⟩) .none) .none) .none) .none)) (nd (n0 (cu ⟨[.boxO 7 0 2 bM],[none],none,[(7,0),(7,1)]⟩)) (nd (n0 (nd (n0 (n0 (n0 (n0 (n0 (n0 (n0 (n0 (n0 (nd (n0 (nd (.node none (some ⟨[.tmp 9 (.int .i64),.box 0 0 aj,.boxO 7 0 3 bM],[some 3],none,[]⟩) (n0 (nd (nd (n0 (nd (nd (cu ⟨[.tmp 85 .bool,.box 0 0 aj],[none],none,[(0,0)]⟩) (cu ⟨[.box 10 0 ae],[none],none,[(10,0)]⟩)) .none)) .none) .none)) .none) .none)) .none)))))))))) .none)) .none)))))
def gv:Ct:=.mut [.ptr,.rd,.rd] true true (.pair aj (.pair ac (.pair (.int .i64) .unit))) bM (fun x=>pJ x.1 x.2.1 x.2.2.1)
theorem i9:cI Tryz.prog 300 gv:=d8 (E:={ T:=tab,G:=[(88,bd),(103,eq),(178,pg),(198,bj),(287,lJ),(331,yK)],V:=[12,39,56] }) (ar.views (ar.cons aO (ar.cons cW (ar.cons mA (ar.cons bg (ar.cons mz (ar.cons qw (ar.nil dL)))))))) mixed (fn:=Tryz.f300) _ _ _ _ _ _ J6 Tryz.func300 (by kernel_rfl) (fun x=>by kernel_rfl)
def dz (a0:aj.D) (a1:ac.D) (a2:Int):Option (aa.D×(aj.D×Unit)) :=
(aI a0 2).bind fun y1 =>
(aF y1.2.1 ([4,4,4,1,2,3,0]:List Int)).bind fun y2 =>
((bif (y2.1 == 0) then (
 some (true,y2.2.1))
 else (
(bu y2.2.1 3).bind fun y3 =>
 some (y3.1,y3.2.1))):Option (Bool×((List Int)×(Int×(Int×Unit))))).bind fun o4 =>
((bif o4.1 then (
(gI o4.2 a1).bind fun y5 =>
 some (y5.2.1,a2,y1.1,y5.1,y2.1,(0,0,0,0,0,0,0,()),(0,0,()),(0,0,0,0,0,false,[],()),(-1),(-1),()))
 else (
 some (o4.2,a2,y1.1,0,y2.1,(0,0,0,0,0,0,0,()),(0,0,()),(0,0,0,0,0,false,[],()),(-1),(-1),()))):Option (aj.D×(Int×(Int×(Int×(Int×(de.D×(bP.D×(bM.D×(Int×(Int×Unit))))))))))).bind fun o6 =>
(pG o6.1 a1).bind fun y7 =>
(pI y7.2.1).bind fun y8 =>
(pJ y8.2.1 a1 y7.1.1).bind fun y9 =>
(bu y9.2.1 4).bind fun y10 =>
((bif y10.1 then (
(aI y10.2.1 3).bind fun y11 =>
 let k12:Int:=IntKind.wrap .i64 ((IntKind.wrap .i64 (a1.2.2.2.1 + y11.1)) - 1)
 some (y11.2.1,o6.2.1,o6.2.2.1,o6.2.2.2.1,o6.2.2.2.2.1,y7.1,y8.1,y9.1,k12,o6.2.2.2.2.2.2.2.2.2))
 else (
 some (y10.2.1,o6.2.1,o6.2.2.1,o6.2.2.2.1,o6.2.2.2.2.1,y7.1,y8.1,y9.1,o6.2.2.2.2.2.2.2.2))):Option (aj.D×(Int×(Int×(Int×(Int×(de.D×(bP.D×(bM.D×(Int×(Int×Unit))))))))))).bind fun o13 =>
 bif (o13.2.2.2.2.2.2.2.1.1 == 2) then (
(aF o13.1 ([1,2,3,5]:List Int)).bind fun y14 =>
 some ((o13.2.1,o13.2.2.1,o13.2.2.2.1,o13.2.2.2.2.1,o13.2.2.2.2.2.1,o13.2.2.2.2.2.2.1,o13.2.2.2.2.2.2.2.1,o13.2.2.2.2.2.2.2.2.1,y14.1,()),y14.2))
 else (
(bu o13.1 3).bind fun y15 =>
 bif y15.1 then (
(aI y15.2.1 3).bind fun y16 =>
 some ((o13.2.1,o13.2.2.1,o13.2.2.2.1,o13.2.2.2.2.1,o13.2.2.2.2.2.1,o13.2.2.2.2.2.2.1,o13.2.2.2.2.2.2.2.1,o13.2.2.2.2.2.2.2.2.1,IntKind.wrap .i64 (1 + y16.1),()),y16.2))
 else (
 some (o13.2,y15.2)))
def yN:Hints:=(n0 (n0 (nd (nd (cu ⟨[.tmp 21 .bool,.box 0 0 aj],[none],none,[(0,0)]⟩) (cu ⟨[.box 0 0 aj,.boxO 7 0 1 aa],[none],none,[(0,0),(7,0)]⟩)) (n0 (n0 (n0 (nd (n0 (cu ⟨[.box 0 0 aj,.boxO 7 0 2 aa],[none],none,[(0,0),(7,0),(38,0)]⟩)) .none)))))))
def yO:Ct:=.mut [.ptr,.rd,.rd] true false (.pair aj (.pair ac (.pair (.int .i64) .unit))) aa (fun x=>dz x.1 x.2.1 x.2.2.1)
theorem Gz:cI Tryz.prog 199 yO:=d8 (E:={ T:=tab,G:=[(88,bd),(103,eq),(198,bj),(287,lJ),(298,pe),(299,pf),(300,gv)],V:=[12,54] }) (ar.views (ar.cons aO (ar.cons cW (ar.cons bg (ar.cons mz (ar.cons sk (ar.cons sl (ar.cons i9 (ar.nil dL))))))))) mixed (fn:=Tryz.f199) _ _ _ _ _ _ yN Tryz.func199 (by kernel_rfl) (fun x=>by kernel_rfl)
def ja:Ct:=.mut [.ptr,.rd,.rd] true true (.pair aj (.pair ac (.pair (.int .i64) .unit))) aa (fun x=>dz x.1 x.2.1 x.2.2.1)
theorem fG:cI Tryz.prog 199 ja:=d8 (E:={ T:=tab,G:=[(88,bd),(103,eq),(198,bj),(287,lJ),(298,pe),(299,pf),(300,gv)],V:=[12,54] }) (ar.views (ar.cons aO (ar.cons cW (ar.cons bg (ar.cons mz (ar.cons sk (ar.cons sl (ar.cons i9 (ar.nil dL))))))))) mixed (fn:=Tryz.f199) _ _ _ _ _ _ yN Tryz.func199 (by kernel_rfl) (fun x=>by kernel_rfl)
def xA (a1:ac.D):((List aa.D)×(Int×(Int×((List Int)×(Int×(Int×Unit))))))→Option (((List aa.D)×(Int×(Int×((List Int)×(Int×(Int×Unit))))))⊕((List aa.D)×(Int×(Int×((List Int)×(Int×(Int×Unit))))))):=fun s3 =>
 bif decide (s3.2.2.1 > 0) then (
(aI s3.2.2.2 2).bind fun y4 =>
(dz y4.2.1 a1 (IntKind.wrap .i64 ((IntKind.wrap .i64 (s3.2.1 + 1)) + y4.1))).bind fun y5 =>
 if (s3.1.length + [y5.1].length) * (24 * 22)≤aG then (
 some (.inl ((s3.1++[y5.1]),IntKind.wrap .i64 ((IntKind.wrap .i64 (s3.2.1 + 1)) + y4.1),IntKind.wrap .i64 (s3.2.2.1 - 1),y5.2.1))) else none)
 else (
 some (.inr s3))
def mB (a0:aj.D) (a1:ac.D):Option ((List aa.D)×(aj.D×Unit)) :=
(aI a0 5).bind fun y1 =>
(aw (xA a1) ([],0,y1.1,y1.2.1)).bind fun o6 =>
 some (o6.1,(o6.2.2.2,()))
def Im:Hints:=(n0 (n0 (n0 (nd (n0 (nd (.node none (some ⟨[.tmpO 5 0 (.slice aa),.tmp 6 (.int .i64),.tmp 7 (.int .i64),.box 0 0 aj],[some 0],none,[]⟩) .none .none) .none)) .none))))
def yP:Ct:=.mut [.ptr,.rd] true true (.pair aj (.pair ac .unit)) (.slice aa) (fun x=>mB x.1 x.2.1)
theorem nT:KC 176 yP:=mq (Ec aO (Ec fG En)) Im Tryz.func176
def sm:((List Int)×(Int×((List Int)×(Int×(Int×Unit)))))→Option (((List Int)×(Int×((List Int)×(Int×(Int×Unit)))))⊕((List Int)×(Int×((List Int)×(Int×(Int×Unit)))))):=fun s3 =>
 bif decide (s3.2.1 > 0) then (
(aF s3.2.2 ([0,1,2,1,3,5,(-1)]:List Int)).bind fun y4 =>
 if (s3.1.length + [y4.1].length) * (24 * 1)≤aG then (
 some (.inl ((s3.1++[y4.1]),IntKind.wrap .i64 (s3.2.1 - 1),y4.2.1))) else none)
 else (
 some (.inr s3))
def iu (a0:aj.D):Option ((List Int)×(aj.D×Unit)) :=
(aI a0 8).bind fun y1 =>
(aw (sm) ([],y1.1,y1.2.1)).bind fun o5 =>
 some (o5.1,(o5.2.2,()))
def Dp:Hints:=(n0 (n0 (nd (n0 (nd (.node none (some ⟨[.tmpO 3 0 (.slice (.int .i64)),.tmp 4 (.int .i64),.box 0 0 aj],[some 0],none,[]⟩) .none .none) .none)) .none)))
def vy:Ct:=.mut [.ptr] true true (.pair aj .unit) (.slice (.int .i64)) (fun x=>iu x.1)
theorem uP:cI Tryz.prog 150 vy:=d8 (E:={ T:=tab,G:=[(88,bd),(198,bj)],V:=[14] }) (ar.views (ar.cons aO (ar.cons bg (ar.nil dL)))) mixed (fn:=Tryz.f150) _ _ _ _ _ _ Dp Tryz.func150 (by kernel_rfl) (fun x=>by kernel_rfl)
def eH (a0:ac.D):Option ac.D :=
 if (([]:List ai.D).length + a0.1.length) * (24 * 13)≤aG then (
 if (([]:List ay.D).length + a0.2.1.length) * (24 * 3)≤aG then (
 some (([]++a0.1),([]++a0.2.1),a0.2.2)) else none) else none
def Az:Ct:=.pure true true (.pair ac .unit) ac (fun x=>eH x.1)
theorem bZ:KC 154 Az:=pq En .none Tryz.func154
def t5 (a0:bM.D):Option bM.D :=
 if (([]:List ae.D).length + a0.2.2.2.2.2.2.1.length) * (24 * 7)≤aG then (
 some (a0.1,a0.2.1,a0.2.2.1,a0.2.2.2.1,a0.2.2.2.2.1,a0.2.2.2.2.2.1,([]++a0.2.2.2.2.2.2.1),())) else none
def AA:Ct:=.pure true true (.pair bM .unit) bM (fun x=>t5 x.1)
theorem yQ:KC 318 AA:=pq En .none Tryz.func318
def ew (a0:aa.D):Option aa.D :=
(t5 a0.2.2.2.2.2.2.1).bind fun y1 =>
 some (a0.1,a0.2.1,a0.2.2.1,a0.2.2.2.1,a0.2.2.2.2.1,a0.2.2.2.2.2.1,y1,a0.2.2.2.2.2.2.2)
def yR:Ct:=.pure true true (.pair aa .unit) aa (fun x=>ew x.1)
theorem cU:KC 223 yR:=pq (Ec yQ En) .none Tryz.func223
def qx (a0:(List aa.D)):((List aa.D)×Int)→Option (((List aa.D)×Int)⊕((List aa.D)×Int)):=fun s1 =>
 bif decide (s1.2 < (a0.length:Int)) then (
 idx a0 s1.2 fun x2 =>
(ew x2).bind fun y3 =>
 if (s1.1.length + [y3].length) * (24 * 22)≤aG then (
 some (.inl ((s1.1++[y3]),IntKind.wrap .i64 (s1.2 + 1)))) else none)
 else (
 some (.inr s1))
def ck (a0:(List aa.D)):Option (List aa.D) :=
(aw (qx a0) ([],0)).bind fun o4 =>
 some o4.1
def In:Hints:=(n0 (n0 (nd (n0 (nd (.node none (some ⟨[.tmpO 3 0 (.slice aa),.tmp 4 (.int .i64)],[some 0],none,[]⟩) .none .none) .none)) .none)))
def pK:Ct:=.pure true true (.pair (.slice aa) .unit) (.slice aa) (fun x=>ck x.1)
theorem cf:KC 155 pK:=pq (Ec cU En) In Tryz.func155
def ra (a0:ac.D) (a1:(List aa.D)) (a2:(List Int)):Option aC.D :=
(eH a0).bind fun y1 =>
(ck a1).bind fun y2 =>
 if (([]:List Int).length + a2.length) * (24 * 1)≤aG then (
 some (y1,y2,([]++a2),[],[],[],())) else none
def yS:Ct:=.pure true true (.pair ac (.pair (.slice aa) (.pair (.slice (.int .i64)) .unit))) aC (fun x=>ra x.1 x.2.1 x.2.2.1)
theorem xT:KC 43 yS:=pq (Ec bZ (Ec cf En)) .none Tryz.func43
def t6 (a0:aj.D):Option (aC.D×(aj.D×Unit)) :=
(lI a0).bind fun y1 =>
(mB y1.2.1 y1.1).bind fun y2 =>
(iu y2.2.1).bind fun y3 =>
(iu y3.2.1).bind fun y4 =>
 if (y3.1.length + y4.1.length) * (24 * 1)≤aG then (
(ra y1.1 y2.1 (y3.1++y4.1)).bind fun y5 =>
 some (y5,y4.2)) else none
def qQ:Ct:=.mut [.ptr] true true (.pair aj .unit) aC (fun x=>t6 x.1)
theorem yT:KC 146 qQ:=mq (Ec xT (Ec uP (Ec Ik (Ec nT En)))) .none Tryz.func146
def oq (a0:de.D):Option Bool :=
(((aM a0.1 1 6).bind fun y1 =>
 bif (!y1) then (
 some true)
 else (
(aM a0.2.1 0 2).bind fun y2 =>
 bif (!y2) then (
 some true)
 else (
(aM a0.2.2.2.2.1 0 99).bind fun y3 =>
 bif (!y3) then (
 some true)
 else (
(aM a0.2.2.2.2.2.1 0 2147483647).bind fun y4 =>
 bif (!y4) then (
 some true)
 else (
(aM a0.2.2.1 0 99).bind fun y5 =>
 bif (!y5) then (
 some true)
 else (
(aM a0.2.2.2.1 0 63).bind fun y6 =>
 bif (!y6) then (
 some true)
 else (
(aM a0.2.2.2.2.2.2.1 0 4).bind fun y7 =>
 some (!y7)))))))):Option Bool).bind fun o8 =>
 bif o8 then (
 some false)
 else (
((bif (a0.1 != 1) then (
 bif (a0.2.2.1 != 0) then (
 some true)
 else (
 bif (a0.2.2.2.1 != 0) then (
 some true)
 else (
 bif (a0.1 != 2) then (
 some (a0.2.2.2.2.2.2.1 != 0))
 else (
 some false))))
 else (
 bif (a0.1 != 2) then (
 some (a0.2.2.2.2.2.2.1 != 0))
 else (
 some false))):Option Bool).bind fun o9 =>
 bif o9 then (
 some false)
 else (
 bif (a0.1 != 3) then (
 bif (a0.1 != 4) then (
 some true)
 else (
 some (a0.2.2.2.2.1 == 0)))
 else (
 some (a0.2.2.2.2.1 == 0))))
def Mr:Hints:=(n0 (nd (nd (cu ⟨[.tmp 42 .bool],[none],none,[]⟩) .none) (nd (nd (cu ⟨[.tmp 65 .bool],[none],none,[]⟩) .none) .none)))
def Ms:Ct:=.pure true false (.pair de .unit) .bool (fun x=>oq x.1)
theorem Bo:KC 328 Ms:=pq (Ec cj En) Mr Tryz.func328
def jr (a0:bP.D):Option Bool :=
((bif (a0.1 == 0) then (
 some (a0.1 == 0))
 else (
 some (a0.1 == 3))):Option Bool).bind fun o1 =>
 bif o1 then (
 some (a0.2.1 == 0))
 else (
 bif (a0.1 == 1) then (
(aM a0.2.1 (-2147483647) 2147483647).bind fun y2 =>
 some y2)
 else (
 bif (a0.1 == 2) then (
(aM a0.2.1 0 8).bind fun y3 =>
 some y3)
 else (
 bif (a0.1 == 4) then (
(aM a0.2.1 0 8).bind fun y4 =>
 some y4)
 else (
 some false))))
def Io:Hints:=(n0 (nd (n0 (nd (nd (n0 (cu ⟨[.tmp 5 .bool],[none],none,[]⟩)) .none) .none)) .none))
def Ip:Ct:=.pure true false (.pair bP .unit) .bool (fun x=>jr x.1)
theorem xB:KC 329 Ip:=pq (Ec cj En) Io Tryz.func329
def rb (a0:bM.D):Option Bool :=
 bif (a0.2.2.1 == 0) then (
 bif (a0.2.2.2.1 == (-1)) then (
 bif (a0.2.2.2.2.1 == 0) then (
 bif (!a0.2.2.2.2.2.1) then (
 some ((a0.2.2.2.2.2.2.1.length:Int) == 0))
 else (
 some false))
 else (
 some false))
 else (
 some false))
 else (
 some false)
def Iq:Ct:=.pure true false (.pair bM .unit) .bool (fun x=>rb x.1)
theorem GA:KC 361 Iq:=pq En .none Tryz.func361
def cm (a0:ae.D):Option Bool :=
(((aM a0.2.2.1 1 99).bind fun y1 =>
 bif y1 then (
 some (a0.2.2.2.1 == (-1)))
 else (
 some false)):Option Bool).bind fun o2 =>
((bif (a0.2.2.1 == 0) then (
(aM a0.2.2.2.1 0 2).bind fun y3 =>
 some y3)
 else (
 some false)):Option Bool).bind fun o4 =>
(aM a0.2.2.2.2.1 0 2147483647).bind fun y5 =>
 bif (!y5) then (
 some false)
 else (
 bif (a0.1 == 1) then (
(aM a0.2.1 1 99).bind fun y6 =>
 bif y6 then (
 bif o2 then (
 bif (a0.2.2.2.2.2.1 == 0) then (
 some (!a0.2.2.2.2.2.2.1))
 else (
 some false))
 else (
 bif o4 then (
 bif (a0.2.2.2.2.2.1 == 0) then (
 some (!a0.2.2.2.2.2.2.1))
 else (
 some false))
 else (
 some false)))
 else (
 some false))
 else (
 bif (a0.1 == 2) then (
 bif (a0.2.1 == 0) then (
 bif o2 then (
(aM a0.2.2.2.2.2.1 1 4).bind fun y7 =>
 bif y7 then (
 bif decide (a0.2.2.2.2.1≤99) then (
 bif (a0.2.2.2.2.2.1 == 2) then (
 some true)
 else (
 bif (a0.2.2.2.2.1 == 0) then (
 some (!a0.2.2.2.2.2.2.1))
 else (
 some false)))
 else (
 some false))
 else (
 some false))
 else (
 some false))
 else (
 some false))
 else (
((bif (a0.1 == 3) then (
 some (a0.1 == 3))
 else (
 some (a0.1 == 4))):Option Bool).bind fun o8 =>
 bif o8 then (
 bif (a0.2.1 == 0) then (
 bif o4 then (
 bif (a0.2.2.2.2.2.1 == 0) then (
 some (!a0.2.2.2.2.2.2.1))
 else (
 some false))
 else (
 some false))
 else (
 some false))
 else (
((bif (a0.1 == 5) then (
 some (a0.1 == 5))
 else (
 some (a0.1 == 6))):Option Bool).bind fun o9 =>
 bif o9 then (
 bif (a0.2.1 == 0) then (
 bif o2 then (
 bif (a0.2.2.2.2.2.1 == 0) then (
 some (!a0.2.2.2.2.2.2.1))
 else (
 some false))
 else (
 some false))
 else (
 some false))
 else (
 some false)))))
def Ir:Hints:=(n0 (nd (cu ⟨[.tmp 3 .bool],[none],none,[]⟩) (nd (cu ⟨[.tmp 4 .bool],[none],none,[]⟩) (n0 (nd (n0 (nd (n0 (n0 (n0 (n0 (nd (n0 (cu ⟨[.tmp 81 .bool],[none],none,[]⟩)) (n0 (nd (n0 (cu ⟨[.tmp 100 .bool],[none],none,[]⟩)) .none))))))) .none)) .none)))))
def yU:Ct:=.pure true false (.pair ae .unit) .bool (fun x=>cm x.1)
theorem da:KC 158 yU:=pq (Ec cj En) Ir Tryz.func158
def t7 (a0:ae.D):Option Bool :=
((bif (a0.2.2.2.2.1 == (-1)) then (
 some (a0.1 != 2))
 else (
 some false)):Option Bool).bind fun o1 =>
((bif o1 then (
 some (a0.1,a0.2.1,a0.2.2.1,a0.2.2.2.1,0,a0.2.2.2.2.2))
 else (
 some a0)):Option ae.D).bind fun o2 =>
(cm o2).bind fun y3 =>
 some y3
def J7:Hints:=(n0 (nd (nd (cu ⟨[.tmp 10 .bool],[none],none,[]⟩) (cu ⟨[.box 1 0 ae],[none],none,[(1,0)]⟩)) .none))
def J8:Ct:=.pure true false (.pair ae .unit) .bool (fun x=>t7 x.1)
theorem Is:KC 362 J8:=pq (Ec da En) J7 Tryz.func362
def j6 (a0:bM.D):Int→Option (Int⊕(Int⊕Bool)):=fun s12 =>
 bif decide (s12 < (a0.2.2.2.2.2.2.1.length:Int)) then (
 idx a0.2.2.2.2.2.2.1 s12 fun x13 =>
(t7 x13).bind fun y14 =>
 bif (!y14) then (
 some (.inr (.inr false)))
 else (
 some (.inl (IntKind.wrap .i64 (s12 + 1)))))
 else (
 some (.inr (.inl s12)))
def sq (a0:bM.D):Option Bool :=
((bif (a0.1 == 1) then (
 some (a0.1 == 1))
 else (
((bif (a0.1 == 2) then (
 some (a0.1 == 2))
 else (
((bif (a0.1 == 4) then (
 some (a0.1 == 4))
 else (
 some (a0.1 == 5))):Option Bool).bind fun o1 =>
 some o1)):Option Bool).bind fun o2 =>
 some o2)):Option Bool).bind fun o3 =>
 bif o3 then (
(rb a0).bind fun y4 =>
 bif y4 then (
 some (a0.2.1 == 0))
 else (
 some false))
 else (
 bif (a0.1 == 3) then (
(rb a0).bind fun y5 =>
 bif y5 then (
(aM a0.2.1 1 2147483647).bind fun y6 =>
 some y6)
 else (
 some false))
 else (
 bif (a0.1 == 6) then (
 bif (a0.2.1 == 0) then (
 bif (a0.2.2.2.2.1 == 0) then (
 bif (!a0.2.2.2.2.2.1) then (
 bif ((a0.2.2.2.2.2.2.1.length:Int) == 0) then (
(aM a0.2.2.1 1 99).bind fun y7 =>
 bif y7 then (
 bif (a0.2.2.2.1 == (-1)) then (
 some true)
 else (
 bif (a0.2.2.1 == 0) then (
(aM a0.2.2.2.1 0 2).bind fun y8 =>
 some y8)
 else (
 some false)))
 else (
 bif (a0.2.2.1 == 0) then (
(aM a0.2.2.2.1 0 2).bind fun y9 =>
 some y9)
 else (
 some false)))
 else (
 some false))
 else (
 some false))
 else (
 some false))
 else (
 some false))
 else (
 bif (a0.1 == 7) then (
 bif (a0.2.1 == 0) then (
 bif (a0.2.2.1 == 0) then (
 bif (a0.2.2.2.1 == (-1)) then (
 bif (!a0.2.2.2.2.2.1) then (
 bif ((a0.2.2.2.2.2.2.1.length:Int) == 0) then (
(aM a0.2.2.2.2.1 1 4).bind fun y10 =>
 some y10)
 else (
 some false))
 else (
 some false))
 else (
 some false))
 else (
 some false))
 else (
 some false))
 else (
 bif (a0.1 == 8) then (
(aM a0.2.1 0 99).bind fun y11 =>
 bif y11 then (
 bif (a0.2.2.1 == 0) then (
 bif (a0.2.2.2.1 == (-1)) then (
 bif (a0.2.2.2.2.1 == 0) then (
 some ((a0.2.2.2.2.2.2.1.length:Int) == 0))
 else (
 some false))
 else (
 some false))
 else (
 some false))
 else (
 some false))
 else (
 bif (a0.1 == 9) then (
(aw (j6 a0) 0).bind fun o15 =>
 match o15 with
| .inl s16=>(
 bif (a0.2.1 == 0) then (
 bif (a0.2.2.1 == 0) then (
 bif (a0.2.2.2.1 == (-1)) then (
 bif (a0.2.2.2.2.1 == 0) then (
 bif (!a0.2.2.2.2.2.1) then (
(aM (a0.2.2.2.2.2.2.1.length:Int) 1 3).bind fun y18 =>
 some y18)
 else (
 some false))
 else (
 some false))
 else (
 some false))
 else (
 some false))
 else (
 some false))
| .inr o17=>(
 some o17))
 else (
 some false))))))
def Mt:Hints:=(n0 (nd (n0 (nd (nd (n0 (.node (some ⟨[.tmp 6 .bool],[none],none,[]⟩) none .none (n0 (.node (some ⟨[.tmp 6 .bool],[none],none,[]⟩) none .none (n0 (cu ⟨[.tmp 6 .bool],[none],none,[]⟩)))))) (n0 (n0 (n0 (n0 (n0 (n0 (n0 (n0 (n0 (n0 (nd (nd (n0 (nd (.node none (some ⟨[.tmp 3 (.int .i64)],[some 1],some [.tmp 2 .bool],[]⟩) .none .none) .none)) .none) .none)))))))))))) .none)) .none))
def Mu:Ct:=.pure true false (.pair bM .unit) .bool (fun x=>sq x.1)
theorem J9:KC 330 Mu:=pq (Ec cj (Ec GA (Ec Is En))) Mt Tryz.func330
def gj (a0:aa.D):Option Bool :=
(((aM a0.1 1 99).bind fun y1 =>
 bif (!y1) then (
 some true)
 else (
(aM a0.2.1 0 2).bind fun y2 =>
 bif (!y2) then (
 some true)
 else (
(aM a0.2.2.1 0 99).bind fun y3 =>
 bif (!y3) then (
 some true)
 else (
(aM a0.2.2.2.1 0 4).bind fun y4 =>
 bif (!y4) then (
 some true)
 else (
(aM a0.2.2.2.2.2.2.2.1 (-1) 9999).bind fun y5 =>
 bif (!y5) then (
 some true)
 else (
(aM a0.2.2.2.2.2.2.2.2.1 (-1) 2147483647).bind fun y6 =>
 some (!y6))))))):Option Bool).bind fun o7 =>
 bif o7 then (
 some false)
 else (
((bif (a0.2.2.2.1 == 0) then (
 bif (a0.2.2.1 == 0) then (
 some true)
 else (
 bif (a0.2.2.2.2.2.2.1.1 == 2) then (
 some (decide (a0.2.2.2.2.2.2.2.2.1 < 0)))
 else (
 some false)))
 else (
 bif (a0.2.2.2.2.2.2.1.1 == 2) then (
 some (decide (a0.2.2.2.2.2.2.2.2.1 < 0)))
 else (
 some false))):Option Bool).bind fun o8 =>
 bif o8 then (
 some false)
 else (
(oq a0.2.2.2.2.1).bind fun y9 =>
 bif y9 then (
(jr a0.2.2.2.2.2.1).bind fun y10 =>
 bif y10 then (
(sq a0.2.2.2.2.2.2.1).bind fun y11 =>
 bif y11 then (
(fT a0.2.2.2.2.2.2.1 a0.2.2.2.2.1.1).bind fun y12 =>
 some y12)
 else (
 some false))
 else (
 some false))
 else (
 some false)))
def GB:Hints:=(n0 (nd (nd (cu ⟨[.tmp 36 .bool],[none],none,[]⟩) .none) (nd (nd (cu ⟨[.tmp 55 .bool],[none],none,[]⟩) .none) .none)))
def GC:Ct:=.pure true false (.pair aa .unit) .bool (fun x=>gj x.1)
theorem ot:KC 241 GC:=pq (Ec cj (Ec Bo (Ec xB (Ec J9 (Ec qw En))))) GB Tryz.func241
def ou (a0:aa.D) (a1:Int):Option Bool :=
 bif (a0.2.2.2.2.2.2.2.2.1 != 0) then (
 bif (a0.2.2.2.2.2.2.2.1 == (-1)) then (
 some true)
 else (
 some (decide (a0.2.2.2.2.2.2.2.1≥a1))))
 else (
 some false)
def Mv:Ct:=.pure true false (.pair aa (.pair (.int .i64) .unit)) .bool (fun x=>ou x.1 x.2.1)
theorem Bp:KC 230 Mv:=pq En .none Tryz.func230
def E1 (a0:aa.D) (a1:ae.D):Option Bool :=
 bif (a0.2.2.2.1 != 0) then (
 some true)
 else (
 bif (a0.2.2.1 == a1.2.1) then (
 some true)
 else (
 some (a0.2.2.1 == a1.2.2.1)))
def Oi:Ct:=.pure true false (.pair aa (.pair ae .unit)) .bool (fun x=>E1 x.1 x.2.1)
theorem Mw:KC 365 Oi:=pq En .none Tryz.func365
def su (a0:ac.D) (a1:Int):(Int×Int)→Option ((Int×Int)⊕(Int×Int)):=fun s1 =>
 bif decide (s1.2 < (a0.1.length:Int)) then (
((idx a0.1 s1.2 fun x2 =>
 bif (x2.2.2.2.1 == 2) then (
 idx a0.1 s1.2 fun x3 =>
 some (x3.2.2.1 == a1))
 else (
 some false)):Option Bool).bind fun o4 =>
((bif o4 then (
 some (IntKind.wrap .i64 (s1.1 + 1)))
 else (
 some s1.1)):Option Int).bind fun o5 =>
 some (.inl (o5,IntKind.wrap .i64 (s1.2 + 1))))
 else (
 some (.inr s1))
def t8 (a0:ac.D) (a1:Int):Option Int :=
(aw (su a0 a1) (0,0)).bind fun o6 =>
 some o6.1
def Ka:Hints:=(n0 (n0 (nd (n0 (nd (.node none (some ⟨[.tmp 5 (.int .i64),.tmp 6 (.int .i64)],[some 0],none,[]⟩) (n0 (nd (nd (nd (cu ⟨[.tmp 30 .bool],[none],none,[]⟩) (cu ⟨[.tmp 5 (.int .i64)],[none],none,[]⟩)) .none) .none)) .none) .none)) .none)))
def Kb:Ct:=.pure true false (.pair ac (.pair (.int .i64) .unit)) (.int .i64) (fun x=>t8 x.1 x.2.1)
theorem It:KC 385 Kb:=pq En Ka Tryz.func385
def sv (a0:ac.D) (a1:Int):(Int×Int)→Option ((Int×Int)⊕(Int×Int)):=fun s1 =>
 bif decide (s1.2 < (a0.1.length:Int)) then (
((idx a0.1 s1.2 fun x2 =>
 bif (x2.2.2.2.1 == 2) then (
 idx a0.1 s1.2 fun x3 =>
 bif (x3.2.2.1 == a1) then (
 idx a0.1 s1.2 fun x4 =>
 some x4.2.2.2.2.2.2.2.2.2.2.2.2.1)
 else (
 some false))
 else (
 some false)):Option Bool).bind fun o5 =>
((bif o5 then (
 some (IntKind.wrap .i64 (s1.1 + 1)))
 else (
 some s1.1)):Option Int).bind fun o6 =>
 some (.inl (o6,IntKind.wrap .i64 (s1.2 + 1))))
 else (
 some (.inr s1))
def t9 (a0:ac.D) (a1:Int):Option Int :=
(aw (sv a0 a1) (0,0)).bind fun o7 =>
 some o7.1
def Kc:Hints:=(n0 (n0 (nd (n0 (nd (.node none (some ⟨[.tmp 5 (.int .i64),.tmp 6 (.int .i64)],[some 0],none,[]⟩) (n0 (nd (nd (nd (cu ⟨[.tmp 38 .bool],[none],none,[]⟩) (cu ⟨[.tmp 5 (.int .i64)],[none],none,[]⟩)) .none) .none)) .none) .none)) .none)))
def Kd:Ct:=.pure true false (.pair ac (.pair (.int .i64) .unit)) (.int .i64) (fun x=>t9 x.1 x.2.1)
theorem Iu:KC 386 Kd:=pq En Kc Tryz.func386
def wx (a0:ac.D) (a1:Int) (a2:bP.D):Option Bool :=
(((jr a2).bind fun y1 =>
 bif (!y1) then (
 some true)
 else (
(aM a1 0 (IntKind.wrap .i64 ((a0.2.1.length:Int) - 1))).bind fun y2 =>
 some (!y2))):Option Bool).bind fun o3 =>
 bif o3 then (
 some false)
 else (
 bif (a2.1 == 1) then (
 idx a0.2.1 a1 fun x4 =>
 some (decide (x4.1≤a2.2.1)))
 else (
 bif (a2.1 == 2) then (
(t8 a0 a1).bind fun y5 =>
 some (decide (y5≥a2.2.1)))
 else (
 bif (a2.1 == 3) then (
 some (a0.2.2.1 == a1))
 else (
 bif (a2.1 == 4) then (
(t9 a0 a1).bind fun y6 =>
 some (decide (y6≥a2.2.1)))
 else (
 some true)))))
def Mx:Hints:=(n0 (nd (nd (cu ⟨[.tmp 18 .bool],[none],none,[]⟩) .none) .none))
def My:Ct:=.pure true false (.pair ac (.pair (.int .i64) (.pair bP .unit))) .bool (fun x=>wx x.1 x.2.1 x.2.2.1)
theorem Ke:KC 366 My:=pq (Ec cj (Ec xB (Ec It (Ec Iu En)))) Mx Tryz.func366
def kz (a0:ac.D) (a1:Int):Int→Option (Int⊕(Int⊕Int)):=fun s1 =>
 bif decide (s1 < (a0.1.length:Int)) then (
 idx a0.1 s1 fun x2 =>
 bif (x2.1 == a1) then (
 some (.inr (.inr s1)))
 else (
 some (.inl (IntKind.wrap .i64 (s1 + 1)))))
 else (
 some (.inr (.inl s1)))
def eZ (a0:ac.D) (a1:Int):Option Int :=
(aw (kz a0 a1) 0).bind fun o3 =>
 match o3 with
| .inl s4=>(
 some (-1))
| .inr o5=>(
 some o5)
def Iv:Hints:=(n0 (nd (n0 (nd (.node none (some ⟨[.tmp 5 (.int .i64)],[some 0],some [.tmp 4 (.int .i64)],[]⟩) .none .none) .none)) .none))
def Iw:Ct:=.pure true false (.pair ac (.pair (.int .i64) .unit)) (.int .i64) (fun x=>eZ x.1 x.2.1)
theorem fN:KC 321 Iw:=pq En Iv Tryz.func321
def jb (a0:ac.D) (a1:ae.D):Option Int :=
 bif (a1.2.2.1 == 0) then (
(aM a1.2.2.2.1 0 (IntKind.wrap .i64 ((a0.2.1.length:Int) - 1))).bind fun y1 =>
 bif (!y1) then (
 some (-1))
 else (
 some a1.2.2.2.1))
 else (
(eZ a0 a1.2.2.1).bind fun y2 =>
 bif decide (y2 < 0) then (
 some (-1))
 else (
 idx a0.1 y2 fun x3 =>
 some x3.2.2.1))
def Kf:Ct:=.pure true false (.pair ac (.pair ae .unit)) (.int .i64) (fun x=>jb x.1 x.2.1)
theorem yV:KC 339 Kf:=pq (Ec cj (Ec fN En)) .none Tryz.func339
def kA (a0:ac.D) (a1:Int) (a2:de.D) (a3:ae.D):Option Bool :=
(jb a0 a3).bind fun y1 =>
((bif (y1 == (-1)) then (
 some true)
 else (
 bif (a2.2.1 == 1) then (
 bif (y1 != a1) then (
 some true)
 else (
 bif (a2.2.1 == 2) then (
 some (y1 == a1))
 else (
 some false)))
 else (
 bif (a2.2.1 == 2) then (
 some (y1 == a1))
 else (
 some false)))):Option Bool).bind fun o2 =>
 bif o2 then (
 some false)
 else (
 bif (a2.2.2.2.2.1 == 0) then (
 some true)
 else (
 some (a2.2.2.2.2.1 == a3.2.2.1)))
def Dq:Hints:=(n0 (n0 (nd (nd (cu ⟨[.tmp 34 .bool],[none],none,[]⟩) .none) .none)))
def Dr:Ct:=.pure true false (.pair ac (.pair (.int .i64) (.pair de (.pair ae .unit)))) .bool (fun x=>kA x.1 x.2.1 x.2.2.1 x.2.2.2.1)
theorem BU:KC 387 Dr:=pq (Ec yV En) Dq Tryz.func387
def gY (a0:ac.D) (a1:ae.D):Option ai.D :=
(eZ a0 a1.2.1).bind fun y1 =>
((bif (a1.1 != 1) then (
 some true)
 else (
 some (decide (y1 < 0)))):Option Bool).bind fun o2 =>
 bif o2 then (
 some (0,0,0,0,0,0,0,0,0,0,0,false,false,()))
 else (
 idx a0.1 y1 fun x3 =>
 some x3)
def Kg:Hints:=(n0 (n0 (nd (nd (cu ⟨[.tmp 16 .bool],[none],none,[]⟩) .none) .none)))
def Kh:Ct:=.pure true false (.pair ac (.pair ae .unit)) ai (fun x=>gY x.1 x.2.1)
theorem sw:KC 327 Kh:=pq (Ec fN En) Kg Tryz.func327
def kC (a0:ac.D) (a1:de.D) (a2:ae.D):Option Bool :=
 bif (a1.2.2.1 == 0) then (
(gY a0 a2).bind fun y1 =>
 let k2:Int:=IntKind.wrap .i64 (BitVec.ofInt (IntKind.bits .i64) y1.2.2.2.2.2.2.2.1 &&& BitVec.ofInt (IntKind.bits .i64) a1.2.2.2.1).toNat
 some (k2 == a1.2.2.2.1))
 else (
 bif (a1.2.2.1 == a2.2.1) then (
(gY a0 a2).bind fun y3 =>
 let k4:Int:=IntKind.wrap .i64 (BitVec.ofInt (IntKind.bits .i64) y3.2.2.2.2.2.2.2.1 &&& BitVec.ofInt (IntKind.bits .i64) a1.2.2.2.1).toNat
 some (k4 == a1.2.2.2.1))
 else (
 some false))
def Ds:Ct:=.pure true false (.pair ac (.pair de (.pair ae .unit))) .bool (fun x=>kC x.1 x.2.1 x.2.2.1)
theorem BV:KC 388 Ds:=pq (Ec sw En) .none Tryz.func388
def rc (a0:ac.D) (a1:Int) (a2:de.D) (a3:ae.D):Option Bool :=
(oq a2).bind fun y1 =>
 bif y1 then (
(cm a3).bind fun y2 =>
 bif y2 then (
 bif (a2.1 == a3.1) then (
(kA a0 a1 a2 a3).bind fun y3 =>
 bif y3 then (
(kC a0 a2 a3).bind fun y4 =>
 bif y4 then (
 bif decide (a3.2.2.2.2.1≥a2.2.2.2.2.2.1) then (
 bif (a2.2.2.2.2.2.2.1 == 0) then (
 some true)
 else (
 some (a2.2.2.2.2.2.2.1 == a3.2.2.2.2.2.1)))
 else (
 some false))
 else (
 some false))
 else (
 some false))
 else (
 some false))
 else (
 some false))
 else (
 some false)
def Ix:Ct:=.pure true false (.pair ac (.pair (.int .i64) (.pair de (.pair ae .unit)))) .bool (fun x=>rc x.1 x.2.1 x.2.2.1 x.2.2.2.1)
theorem GD:KC 367 Ix:=pq (Ec da (Ec Bo (Ec BU (Ec BV En)))) .none Tryz.func367
def rL (a0:ac.D) (a1:aa.D) (a2:ae.D):Option Bool :=
(gj a1).bind fun y1 =>
 bif y1 then (
(ou a1 a0.2.2.2.1).bind fun y2 =>
 bif y2 then (
(E1 a1 a2).bind fun y3 =>
 bif y3 then (
(wx a0 a1.2.1 a1.2.2.2.2.2.1).bind fun y4 =>
 bif y4 then (
(rc a0 a1.2.1 a1.2.2.2.2.1 a2).bind fun y5 =>
 some y5)
 else (
 some false))
 else (
 some false))
 else (
 some false))
 else (
 some false)
def Oj:Ct:=.pure true false (.pair ac (.pair aa (.pair ae .unit))) .bool (fun x=>rL x.1 x.2.1 x.2.2.1)
theorem Dt:KC 333 Oj:=pq (Ec Bp (Ec ot (Ec Mw (Ec Ke (Ec GD En))))) .none Tryz.func333
def vz (a1:ac.D) (a2:(List aa.D)) (s5:(Int×(ae.D×(aj.D×(Int×(Int×(Int×(Int×(Int×(Int×(Bool×Unit))))))))))):(Int×(Int×(Int×(Int×(Int×(Int×(Int×(Bool×Unit))))))))→Option ((Int×(Int×(Int×(Int×(Int×(Int×(Int×(Bool×Unit))))))))⊕((Int×(Int×(Int×(Int×(Int×(Int×(Int×(Bool×Unit))))))))⊕ae.D)):=fun s7 =>
 bif decide (s7.1 < (a2.length:Int)) then (
 idx a2 s7.1 fun x8 =>
(rL a1 x8 s5.2.2.2).bind fun y9 =>
 bif y9 then (
 some (.inr (.inr s5.2.2.2)))
 else (
 some (.inl (IntKind.wrap .i64 (s7.1 + 1),s7.2))))
 else (
 some (.inr (.inl s7)))
def vA (a1:ac.D) (a2:(List aa.D)):(Int×(ae.D×(aj.D×(Int×(Int×(Int×(Int×(Int×(Int×(Bool×Unit))))))))))→Option ((Int×(ae.D×(aj.D×(Int×(Int×(Int×(Int×(Int×(Int×(Bool×Unit))))))))))⊕((Int×(ae.D×(aj.D×(Int×(Int×(Int×(Int×(Int×(Int×(Bool×Unit))))))))))⊕(ae.D×((List Int)×(Int×(Int×Unit)))))):=fun s5 =>
 bif decide (s5.1 < 5) then (
(aw (vz a1 a2 s5) (0,s5.2.1)).bind fun o10 =>
 match o10 with
| .inl s11=>(
(fw s5.2.2.1 a1).bind fun y13 =>
 some (.inl (IntKind.wrap .i64 (s5.1 + 1),s11.2,y13.2.1,y13.1)))
| .inr o12=>(
 some (.inr (.inr ((o12,s5.2.2.1))))))
 else (
 some (.inr (.inl s5)))
def j7 (a0:aj.D) (a1:ac.D) (a2:(List aa.D)):Option (ae.D×(aj.D×Unit)) :=
(fw a0 a1).bind fun y1 =>
(aw (vA a1 a2) (0,(0,0,0,0,0,0,false,()),y1.2.1,y1.1)).bind fun o14 =>
 match o14 with
| .inl s15=>(
 some (s15.2.2.2,(s15.2.2.1,())))
| .inr o16=>(
 some (o16.1,(o16.2,())))
def GE:Hints:=(n0 (n0 (nd (n0 (nd (.node none (some ⟨[.tmp 8 (.int .i64),.box 6 0 ae,.box 0 0 aj,.box 7 0 ae],[some 0],some [.box 6 0 ae,.box 0 0 aj],[]⟩) (n0 (nd (nd (nd (n0 (nd (.node none (some ⟨[.tmp 9 (.int .i64),.box 6 0 ae],[some 2],some [.box 6 0 ae],[]⟩) .none .none) .none)) .none) .none) .none)) .none) .none)) .none)))
def xC:Ct:=.mut [.ptr,.rd,.rd] true true (.pair aj (.pair ac (.pair (.slice aa) .unit))) ae (fun x=>j7 x.1 x.2.1 x.2.2.1)
theorem vB:KC 286 xC:=mq (Ec mA (Ec Dt En)) GE Tryz.func286
def vC (a1:ac.D) (a2:(List aa.D)):((List ae.D)×(Int×((List Int)×(Int×(Int×Unit)))))→Option (((List ae.D)×(Int×((List Int)×(Int×(Int×Unit)))))⊕((List ae.D)×(Int×((List Int)×(Int×(Int×Unit)))))):=fun s3 =>
 bif decide (s3.2.1 > 0) then (
(j7 s3.2.2 a1 a2).bind fun y4 =>
 if (s3.1.length + [y4.1].length) * (24 * 7)≤aG then (
 some (.inl ((s3.1++[y4.1]),IntKind.wrap .i64 (s3.2.1 - 1),y4.2.1))) else none)
 else (
 some (.inr s3))
def ph (a0:aj.D) (a1:ac.D) (a2:(List aa.D)):Option ((List ae.D)×(aj.D×Unit)) :=
(aI a0 3).bind fun y1 =>
(aw (vC a1 a2) ([],IntKind.wrap .i64 (1 + y1.1),y1.2.1)).bind fun o5 =>
 some (o5.1,(o5.2.2,()))
def GF:Hints:=(n0 (n0 (nd (n0 (nd (.node none (some ⟨[.tmpO 7 0 (.slice ae),.tmp 8 (.int .i64),.box 0 0 aj],[some 0],none,[]⟩) .none .none) .none)) .none)))
def nU:Ct:=.mut [.ptr,.rd,.rd] true true (.pair aj (.pair ac (.pair (.slice aa) .unit))) (.slice ae) (fun x=>ph x.1 x.2.1 x.2.2.1)
theorem wy:KC 177 nU:=mq (Ec aO (Ec vB En)) GF Tryz.func177
def j8 (a0:aj.D) (a1:aC.D):Option (bi.D×(aj.D×Unit)) :=
(aF a0 ([1,2,3,3,3,3,4]:List Int)).bind fun y1 =>
 bif (y1.1 == 1) then (
(aI y1.2.1 9).bind fun y2 =>
(dz y2.2.1 a1.1 (IntKind.wrap .i64 (1 + y2.1))).bind fun y3 =>
 some ((y1.1,y3.1,0,[],()),y3.2))
 else (
 bif (y1.1 == 2) then (
(aI y1.2.1 6).bind fun y4 =>
 some ((y1.1,(0,0,0,0,(0,0,0,0,0,0,0,()),(0,0,()),(0,0,0,0,0,false,[],()),0,0,()),IntKind.wrap .i64 (1 + y4.1),[],()),y4.2))
 else (
 bif (y1.1 == 3) then (
(ph y1.2.1 a1.1 a1.2.1).bind fun y5 =>
 some ((y1.1,(0,0,0,0,(0,0,0,0,0,0,0,()),(0,0,()),(0,0,0,0,0,false,[],()),0,0,()),0,y5.1,()),y5.2))
 else (
 some ((y1.1,(0,0,0,0,(0,0,0,0,0,0,0,()),(0,0,()),(0,0,0,0,0,false,[],()),0,0,()),0,[],()),y1.2))))
def nV:Ct:=.mut [.ptr,.rd] true true (.pair aj (.pair aC .unit)) bi (fun x=>j8 x.1 x.2.1)
theorem mC:cI Tryz.prog 87 nV:=d8 (E:={ T:=tab,G:=[(88,bd),(177,nU),(198,bj),(199,ja)],V:=[7] }) (ar.views (ar.cons aO (ar.cons wy (ar.cons bg (ar.cons fG (ar.nil dL)))))) mixed (fn:=Tryz.f87) _ _ _ _ _ _ .none Tryz.func87 (by kernel_rfl) (fun x=>by kernel_rfl)
def wz (a0:aA.D):Option aA.D :=
 if (([]:List ae.D).length + a0.2.2.2.2.2.1.length) * (24 * 7)≤aG then (
 some (a0.1,a0.2.1,a0.2.2.1,a0.2.2.2.1,a0.2.2.2.2.1,([]++a0.2.2.2.2.2.1),a0.2.2.2.2.2.2)) else none
def yW:Ct:=.pure true true (.pair aA .unit) aA (fun x=>wz x.1)
theorem xU:KC 317 yW:=pq En .none Tryz.func317
def ox (a0:(List aA.D)):((List aA.D)×Int)→Option (((List aA.D)×Int)⊕((List aA.D)×Int)):=fun s1 =>
 bif decide (s1.2 < (a0.length:Int)) then (
 idx a0 s1.2 fun x2 =>
(wz x2).bind fun y3 =>
 if (s1.1.length + [y3].length) * (24 * 14)≤aG then (
 some (.inl ((s1.1++[y3]),IntKind.wrap .i64 (s1.2 + 1)))) else none)
 else (
 some (.inr s1))
def j9 (a0:(List aA.D)):Option (List aA.D) :=
(aw (ox a0) ([],0)).bind fun o4 =>
 some o4.1
def GG:Hints:=(n0 (n0 (nd (n0 (nd (.node none (some ⟨[.tmpO 3 0 (.slice aA),.tmp 4 (.int .i64)],[some 0],none,[]⟩) .none .none) .none)) .none)))
def xV:Ct:=.pure true true (.pair (.slice aA) .unit) (.slice aA) (fun x=>j9 x.1)
theorem mD:KC 222 xV:=pq (Ec xU En) GG Tryz.func222
def ia (a0:aC.D):Option aC.D :=
(eH a0.1).bind fun y1 =>
(ck a0.2.1).bind fun y2 =>
 if (([]:List Int).length + a0.2.2.1.length) * (24 * 1)≤aG then (
 if (([]:List ah.D).length + a0.2.2.2.1.length) * (24 * 16)≤aG then (
 if (([]:List aq.D).length + a0.2.2.2.2.1.length) * (24 * 23)≤aG then (
(j9 a0.2.2.2.2.2.1).bind fun y3 =>
 some (y1,y2,([]++a0.2.2.1),([]++a0.2.2.2.1),([]++a0.2.2.2.2.1),y3,())) else none) else none) else none
def pL:Ct:=.pure true true (.pair aC .unit) aC (fun x=>ia x.1)
theorem iJ:KC 97 pL:=pq (Ec bZ (Ec cf (Ec mD En))) .none Tryz.func97
def jc (a0:aA.D):Int→Option (Int⊕(Int⊕Bool)):=fun s9 =>
 bif decide (s9 < (a0.2.2.2.2.2.1.length:Int)) then (
 idx a0.2.2.2.2.2.1 s9 fun x10 =>
(cm x10).bind fun y11 =>
 bif (!y11) then (
 some (.inr (.inr false)))
 else (
 some (.inl (IntKind.wrap .i64 (s9 + 1)))))
 else (
 some (.inr (.inl s9)))
def pM (a0:aA.D):Option Bool :=
(((aM a0.1 1 99).bind fun y1 =>
 bif (!y1) then (
 some true)
 else (
(aM a0.2.1 0 2).bind fun y2 =>
 bif (!y2) then (
 some true)
 else (
(aM a0.2.2.2.1 1 5).bind fun y3 =>
 bif (!y3) then (
 some true)
 else (
(aM a0.2.2.1 0 (IntKind.wrap .i64 (a0.2.2.2.1 - 1))).bind fun y4 =>
 bif (!y4) then (
 some true)
 else (
(cm a0.2.2.2.2.1).bind fun y5 =>
 bif (!y5) then (
 some true)
 else (
 bif decide ((a0.2.2.2.2.2.1.length:Int) > 3) then (
 some true)
 else (
(aM a0.2.2.2.2.2.2.1 0 2147483647).bind fun y6 =>
 bif (!y6) then (
 some true)
 else (
(aM a0.2.2.2.2.2.2.2.1 0 4).bind fun y7 =>
 some (!y7))))))))):Option Bool).bind fun o8 =>
 bif o8 then (
 some false)
 else (
(aw (jc a0) 0).bind fun o12 =>
 match o12 with
| .inl s13=>(
 some true)
| .inr o14=>(
 some o14))
def Ki:Hints:=(n0 (nd (nd (cu ⟨[.tmp 52 .bool],[none],none,[]⟩) .none) (nd (n0 (nd (.node none (some ⟨[.tmp 3 (.int .i64)],[some 0],some [.tmp 2 .bool],[]⟩) .none .none) .none)) .none)))
def Kj:Ct:=.pure true false (.pair aA .unit) .bool (fun x=>pM x.1)
theorem Iy:KC 117 Kj:=pq (Ec da (Ec cj En)) Ki Tryz.func117
def re (a0:ai.D):Option Bool :=
(((aM a0.1 1 99).bind fun y1 =>
 bif (!y1) then (
 some true)
 else (
(aM a0.2.1 0 2).bind fun y2 =>
 bif (!y2) then (
 some true)
 else (
(aM a0.2.2.1 0 2).bind fun y3 =>
 bif (!y3) then (
 some true)
 else (
(aM a0.2.2.2.1 1 4).bind fun y4 =>
 bif (!y4) then (
 some true)
 else (
(aM a0.2.2.2.2.1 0 9999).bind fun y5 =>
 bif (!y5) then (
 some true)
 else (
(aM a0.2.2.2.2.2.1 0 999).bind fun y6 =>
 bif (!y6) then (
 some true)
 else (
(aM a0.2.2.2.2.2.2.1 0 999).bind fun y7 =>
 bif (!y7) then (
 some true)
 else (
(aM a0.2.2.2.2.2.2.2.1 0 63).bind fun y8 =>
 some (!y8))))))))):Option Bool).bind fun o9 =>
 bif o9 then (
 some false)
 else (
(((aM a0.2.2.2.2.2.2.2.2.1 0 2147483647).bind fun y10 =>
 bif (!y10) then (
 some true)
 else (
(aM a0.2.2.2.2.2.2.2.2.2.1 0 2147483647).bind fun y11 =>
 bif (!y11) then (
 some true)
 else (
(aM a0.2.2.2.2.2.2.2.2.2.2.1 0 2147483647).bind fun y12 =>
 some (!y12)))):Option Bool).bind fun o13 =>
 bif o13 then (
 some false)
 else (
 bif (a0.2.2.2.1 == 2) then (
 some true)
 else (
 bif (a0.2.2.1 == a0.2.1) then (
 bif (a0.2.2.2.2.2.2.2.2.1 == 0) then (
 bif (a0.2.2.2.2.2.2.2.2.2.1 == 0) then (
 bif (a0.2.2.2.2.2.2.2.2.2.2.1 == 0) then (
 bif (!a0.2.2.2.2.2.2.2.2.2.2.2.1) then (
 some (!a0.2.2.2.2.2.2.2.2.2.2.2.2.1))
 else (
 some false))
 else (
 some false))
 else (
 some false))
 else (
 some false))
 else (
 some false))))
def Iz:Hints:=(n0 (nd (nd (cu ⟨[.tmp 48 .bool],[none],none,[]⟩) .none) (nd (nd (cu ⟨[.tmp 64 .bool],[none],none,[]⟩) .none) .none)))
def IA:Ct:=.pure true false (.pair ai .unit) .bool (fun x=>re x.1)
theorem GH:KC 239 IA:=pq (Ec cj En) Iz Tryz.func239
def ua (a0:ay.D):Option Bool :=
(aM a0.1 (-2147483647) 2147483647).bind fun y1 =>
 bif y1 then (
(aM a0.2.1 0 2147483647).bind fun y2 =>
 some y2)
 else (
 some false)
def Kk:Ct:=.pure true false (.pair ay .unit) .bool (fun x=>ua x.1)
theorem IB:KC 240 Kk:=pq (Ec cj En) .none Tryz.func240
def kD (a0:ac.D):Int→Option (Int⊕(Int⊕Bool)):=fun s5 =>
 bif decide (s5 < (a0.1.length:Int)) then (
 idx a0.1 s5 fun x6 =>
(((re x6).bind fun y7 =>
 bif (!y7) then (
 some true)
 else (
 bif decide (s5 > 0) then (
 idx a0.1 (IntKind.wrap .i64 (s5 - 1)) fun x8 =>
 bif decide (x8.1≥x6.1) then (
 some true)
 else (
 bif decide (x6.2.1≥(a0.2.1.length:Int)) then (
 some true)
 else (
 bif decide (x6.2.2.1≥(a0.2.1.length:Int)) then (
 some true)
 else (
 some (decide (x6.2.2.2.2.1 > a0.2.2.2.1))))))
 else (
 bif decide (x6.2.1≥(a0.2.1.length:Int)) then (
 some true)
 else (
 bif decide (x6.2.2.1≥(a0.2.1.length:Int)) then (
 some true)
 else (
 some (decide (x6.2.2.2.2.1 > a0.2.2.2.1))))))):Option Bool).bind fun o9 =>
 bif o9 then (
 some (.inr (.inr false)))
 else (
 some (.inl (IntKind.wrap .i64 (s5 + 1)))))
 else (
 some (.inr (.inl s5)))
def kE (a0:ac.D):Int→Option (Int⊕(Int⊕Bool)):=fun s13 =>
 bif decide (s13 < (a0.2.1.length:Int)) then (
 idx a0.2.1 s13 fun x14 =>
(ua x14).bind fun y15 =>
 bif (!y15) then (
 some (.inr (.inr false)))
 else (
 some (.inl (IntKind.wrap .i64 (s13 + 1)))))
 else (
 some (.inr (.inl s13)))
def dA (a0:ac.D):Option Bool :=
((bif decide ((a0.1.length:Int) > 8) then (
 some true)
 else (
(aM (a0.2.1.length:Int) 2 3).bind fun y1 =>
 bif (!y1) then (
 some true)
 else (
(aM a0.2.2.1 0 (IntKind.wrap .i64 ((a0.2.1.length:Int) - 1))).bind fun y2 =>
 bif (!y2) then (
 some true)
 else (
(aM a0.2.2.2.1 0 9999).bind fun y3 =>
 some (!y3))))):Option Bool).bind fun o4 =>
 bif o4 then (
 some false)
 else (
(aw (kD a0) 0).bind fun o10 =>
 match o10 with
| .inl s11=>(
(aw (kE a0) 0).bind fun o16 =>
 match o16 with
| .inl s17=>(
 some true)
| .inr o18=>(
 some o18))
| .inr o12=>(
 some o12))
def IC:Hints:=(n0 (nd (nd (cu ⟨[.tmp 32 .bool],[none],none,[]⟩) .none) (nd (n0 (nd (.node none (some ⟨[.tmp 3 (.int .i64)],[some 0],some [.tmp 2 .bool],[]⟩) (n0 (nd (nd (n0 (nd (cu ⟨[.tmp 86 .bool],[none],none,[]⟩) .none)) .none) .none)) .none) .none)) (nd (n0 (nd (.node none (some ⟨[.tmp 5 (.int .i64)],[some 2],some [.tmp 2 .bool],[]⟩) .none .none) .none)) .none))))
def yX:Ct:=.pure true false (.pair ac .unit) .bool (fun x=>dA x.1)
theorem dM:KC 118 yX:=pq (Ec cj (Ec GH (Ec IB En))) IC Tryz.func118
def kF (a0:(List aa.D)):Int→Option (Int⊕(Int⊕Bool)):=fun s1 =>
 bif decide (s1 < (a0.length:Int)) then (
((idx a0 s1 fun x2 =>
(gj x2).bind fun y3 =>
 bif (!y3) then (
 some true)
 else (
 bif decide (s1 > 0) then (
 idx a0 (IntKind.wrap .i64 (s1 - 1)) fun x4 =>
 idx a0 s1 fun x5 =>
 some (decide (x4.1≥x5.1)))
 else (
 some false))):Option Bool).bind fun o6 =>
 bif o6 then (
 some (.inr (.inr false)))
 else (
 some (.inl (IntKind.wrap .i64 (s1 + 1)))))
 else (
 some (.inr (.inl s1)))
def fU (a0:(List aa.D)):Option Bool :=
(aw (kF a0) 0).bind fun o7 =>
 match o7 with
| .inl s8=>(
 some (decide ((a0.length:Int)≤5)))
| .inr o9=>(
 some o9)
def ID:Hints:=(n0 (nd (n0 (nd (.node none (some ⟨[.tmp 3 (.int .i64)],[some 0],some [.tmp 2 .bool],[]⟩) (n0 (nd (nd (nd (cu ⟨[.tmp 33 .bool],[none],none,[]⟩) .none) .none) .none)) .none) .none)) .none))
def yY:Ct:=.pure true false (.pair (.slice aa) .unit) .bool (fun x=>fU x.1)
theorem kG:KC 119 yY:=pq (Ec ot En) ID Tryz.func119
def jd (a0:aC.D):Int→Option (Int⊕(Int⊕Bool)):=fun s1 =>
 bif decide (s1 < (a0.2.2.2.2.2.1.length:Int)) then (
 idx a0.2.2.2.2.2.1 s1 fun x2 =>
(pM x2).bind fun y3 =>
 bif (!y3) then (
 some (.inr (.inr false)))
 else (
 some (.inl (IntKind.wrap .i64 (s1 + 1)))))
 else (
 some (.inr (.inl s1)))
def pN (a0:aC.D):Option Bool :=
(aw (jd a0) 0).bind fun o4 =>
 match o4 with
| .inl s5=>(
(dA a0.1).bind fun y7 =>
 bif y7 then (
(fU a0.2.1).bind fun y8 =>
 some y8)
 else (
 some false))
| .inr o6=>(
 some o6)
def Kl:Hints:=(n0 (nd (n0 (nd (.node none (some ⟨[.tmp 3 (.int .i64)],[some 0],some [.tmp 2 .bool],[]⟩) .none .none) .none)) .none))
def Bq:Ct:=.pure true false (.pair aC .unit) .bool (fun x=>pN x.1)
theorem yZ:KC 18 Bq:=pq (Ec Iy (Ec dM (Ec kG En))) Kl Tryz.func18
def jt (a0:(List aa.D)) (a1:Int):Int→Option (Int⊕(Int⊕Int)):=fun s1 =>
 bif decide (s1 < (a0.length:Int)) then (
 idx a0 s1 fun x2 =>
 bif (x2.1 == a1) then (
 some (.inr (.inr s1)))
 else (
 some (.inl (IntKind.wrap .i64 (s1 + 1)))))
 else (
 some (.inr (.inl s1)))
def gk (a0:(List aa.D)) (a1:Int):Option Int :=
(aw (jt a0 a1) 0).bind fun o3 =>
 match o3 with
| .inl s4=>(
 some (-1))
| .inr o5=>(
 some o5)
def GI:Hints:=(n0 (nd (n0 (nd (.node none (some ⟨[.tmp 5 (.int .i64)],[some 0],some [.tmp 4 (.int .i64)],[]⟩) .none .none) .none)) .none))
def xD:Ct:=.pure true false (.pair (.slice aa) (.pair (.int .i64) .unit)) (.int .i64) (fun x=>gk x.1 x.2.1)
theorem ju:KC 224 xD:=pq En GI Tryz.func224
def kH (a0:(List aa.D)) (a1:aa.D):Int→Option (Int⊕Int):=fun s1 =>
((bif decide (s1 < (a0.length:Int)) then (
 idx a0 s1 fun x2 =>
 some (decide (x2.1 < a1.1)))
 else (
 some false)):Option Bool).bind fun o3 =>
 bif o3 then (
 some (.inl (IntKind.wrap .i64 (s1 + 1))))
 else (
 some (.inr s1))
def rf (a0:(List aa.D)) (a1:aa.D):Option ((List aa.D)×(Bool×Unit)) :=
(aw (kH a0 a1) 0).bind fun o4 =>
 if 0≤(0:Int) then (if (0:Int)≤o4 then (if o4≤(a0.length:Int) then (
(ck ((a0.take o4.toNat).drop (0:Int).toNat)).bind fun y5 =>
(ew a1).bind fun y6 =>
 if (y5.length + [y6].length) * (24 * 22)≤aG then (
 if 0≤o4 then (if o4≤(a0.length:Int) then (if (a0.length:Int)≤(a0.length:Int) then (
(ck ((a0.take (a0.length:Int).toNat).drop o4.toNat)).bind fun y7 =>
 if ((y5++[y6]).length + y7.length) * (24 * 22)≤aG then (
(((gk a0 a1.1).bind fun y8 =>
 bif decide (y8≥0) then (
 some true)
 else (
(fU ((y5++[y6])++y7)).bind fun y9 =>
 some (!y9))):Option Bool).bind fun o10 =>
 bif o10 then (
(ck a0).bind fun y11 =>
 some (y11,false,()))
 else (
 some (((y5++[y6])++y7),true,()))) else none) else none) else none) else none) else none) else none) else none) else none
def IE:Hints:=(n0 (n0 (nd (nd (.node none (some ⟨[.tmp 6 (.int .i64)],[some 0],none,[]⟩) (nd (nd (cu ⟨[.tmp 21 .bool],[none],none,[]⟩) .none) .none) .none) .none) (n0 (n0 (n0 (nd (nd (cu ⟨[.tmp 48 .bool],[none],none,[]⟩) .none) .none)))))))
def pO:Ct:=.pure false true (.pair (.slice aa) (.pair aa .unit)) (.pair (.slice aa) (.pair .bool .unit)) (fun x=>rf x.1 x.2.1)
theorem xW:KC 98 pO:=pq (Ec kG (Ec cf (Ec cU (Ec ju En)))) IE Tryz.func98
def Aj (a0:(List aa.D)) (a1:Int):Option ((List aa.D)×(Bool×Unit)) :=
(gk a0 a1).bind fun y1 =>
 bif decide (y1 < 0) then (
(ck a0).bind fun y2 =>
 some (y2,false,()))
 else (
 if 0≤(0:Int) then (if (0:Int)≤y1 then (if y1≤(a0.length:Int) then (
(ck ((a0.take y1.toNat).drop (0:Int).toNat)).bind fun y3 =>
 if 0≤(IntKind.wrap .i64 (y1 + 1)) then (if (IntKind.wrap .i64 (y1 + 1))≤(a0.length:Int) then (if (a0.length:Int)≤(a0.length:Int) then (
(ck ((a0.take (a0.length:Int).toNat).drop (IntKind.wrap .i64 (y1 + 1)).toNat)).bind fun y4 =>
 if (y3.length + y4.length) * (24 * 22)≤aG then (
 some ((y3++y4),true,())) else none) else none) else none) else none) else none) else none) else none)
def ub:Ct:=.pure false true (.pair (.slice aa) (.pair (.int .i64) .unit)) (.pair (.slice aa) (.pair .bool .unit)) (fun x=>Aj x.1 x.2.1)
theorem BW:KC 99 ub:=pq (Ec cf (Ec ju En)) .none Tryz.func99
def kI (a0:(List ae.D)):Int→Option (Int⊕(Int⊕Bool)):=fun s1 =>
 bif decide (s1 < (a0.length:Int)) then (
 idx a0 s1 fun x2 =>
(cm x2).bind fun y3 =>
 bif (!y3) then (
 some (.inr (.inr false)))
 else (
 some (.inl (IntKind.wrap .i64 (s1 + 1)))))
 else (
 some (.inr (.inl s1)))
def mE (a0:(List ae.D)):Option Bool :=
(aw (kI a0) 0).bind fun o4 =>
 match o4 with
| .inl s5=>(
 some (decide ((a0.length:Int)≤4)))
| .inr o6=>(
 some o6)
def IF:Hints:=(n0 (nd (n0 (nd (.node none (some ⟨[.tmp 3 (.int .i64)],[some 0],some [.tmp 2 .bool],[]⟩) .none .none) .none)) .none))
def za:Ct:=.pure true false (.pair (.slice ae) .unit) .bool (fun x=>mE x.1)
theorem xE:KC 78 za:=pq (Ec da En) IF Tryz.func78
def jv (a0:bp.D):Option bp.D :=
 if (([]:List ae.D).length + a0.1.length) * (24 * 7)≤aG then (
(ck a0.2.1).bind fun y1 =>
 if (([]:List Int).length + a0.2.2.1.length) * (24 * 1)≤aG then (
(j9 a0.2.2.2.1).bind fun y2 =>
 some (([]++a0.1),y1,([]++a0.2.2.1),y2,())) else none) else none
def zb:Ct:=.pure true true (.pair bp .unit) bp (fun x=>jv x.1)
theorem nW:KC 173 zb:=pq (Ec cf (Ec mD En)) .none Tryz.func173
def uc (a0:(List Int)) (a1:Int):Int→Option (Int⊕(Int⊕Bool)):=fun s1 =>
 bif decide (s1 < (a0.length:Int)) then (
 idx a0 s1 fun x2 =>
 bif (x2 == a1) then (
 some (.inr (.inr true)))
 else (
 some (.inl (IntKind.wrap .i64 (s1 + 1)))))
 else (
 some (.inr (.inl s1)))
def vD (a0:(List Int)) (a1:Int):Option Bool :=
(aw (uc a0 a1) 0).bind fun o3 =>
 match o3 with
| .inl s4=>(
 some false)
| .inr o5=>(
 some o5)
def PY:Hints:=(n0 (nd (n0 (nd (.node none (some ⟨[.tmp 5 (.int .i64)],[some 0],some [.tmp 4 .bool],[]⟩) .none .none) .none)) .none))
def PZ:Ct:=.pure true false (.pair (.slice (.int .i64)) (.pair (.int .i64) .unit)) .bool (fun x=>vD x.1 x.2.1)
theorem zc:KC 324 PZ:=pq En PY Tryz.func324
def kJ (a0:ac.D) (a1:(List aa.D)) (a2:ae.D) (a3:(List Int)):((List Int)×(Int×Int))→Option (((List Int)×(Int×Int))⊕((List Int)×(Int×Int))):=fun s1 =>
 bif decide (s1.2.2 < (a1.length:Int)) then (
((((idx a1 s1.2.2 fun x2 =>
(vD a3 x2.1).bind fun y3 =>
 bif y3 then (
 some true)
 else (
 idx a1 s1.2.2 fun x4 =>
(rL a0 x4 a2).bind fun y5 =>
 bif (!y5) then (
 some true)
 else (
 idx a1 s1.2.2 fun x6 =>
 some (decide (x6.2.2.2.1 > s1.2.1))))):Option Bool).bind fun o7 =>
 bif o7 then (
 some (s1.1,s1.2.1))
 else (
 idx a1 s1.2.2 fun x8 =>
((bif decide (x8.2.2.2.1 < s1.2.1) then (
 idx a1 s1.2.2 fun x9 =>
 some ([],x9.2.2.2.1))
 else (
 some (s1.1,s1.2.1))):Option ((List Int)×Int)).bind fun o10 =>
 idx a1 s1.2.2 fun x11 =>
 if (o10.1.length + [x11.1].length) * (24 * 1)≤aG then (
 some ((o10.1++[x11.1]),o10.2)) else none)):Option ((List Int)×Int)).bind fun o12 =>
 some (.inl (o12.1,o12.2,IntKind.wrap .i64 (s1.2.2 + 1))))
 else (
 some (.inr s1))
def rg (a0:ac.D) (a1:(List aa.D)) (a2:ae.D) (a3:(List Int)):Option (List Int) :=
(aw (kJ a0 a1 a2 a3) ([],5,0)).bind fun o13 =>
 some o13.1
def IG:Hints:=(n0 (n0 (n0 (nd (n0 (nd (.node none (some ⟨[.tmpO 9 0 (.slice (.int .i64)),.tmp 10 (.int .i64),.tmp 11 (.int .i64)],[some 0],none,[]⟩) (n0 (nd (.node (some ⟨[.tmpO 9 1 (.slice (.int .i64)),.tmp 10 (.int .i64)],[none],none,[(9,0)]⟩) none (nd (nd (cu ⟨[.tmp 44 .bool],[none],none,[]⟩) .none) (nd (n0 (cu ⟨[.tmpO 9 1 (.slice (.int .i64)),.tmp 10 (.int .i64)],[none],none,[(9,0)]⟩)) .none)) .none) .none)) .none) .none)) .none))))
def pP:Ct:=.pure true true (.pair ac (.pair (.slice aa) (.pair ae (.pair (.slice (.int .i64)) .unit)))) (.slice (.int .i64)) (fun x=>rg x.1 x.2.1 x.2.2.1 x.2.2.2.1)
theorem xX:KC 265 pP:=pq (Ec zc (Ec Dt En)) IG Tryz.func265
def vE (a0:ae.D):Option Bool :=
 bif (a0.2.2.2.2.1 == 0) then (
 some (a0.1 != 2))
 else (
 some false)
def Gi:Ct:=.pure true false (.pair ae .unit) .bool (fun x=>vE x.1)
theorem Du:KC 266 Gi:=pq En .none Tryz.func266
def vF (a0:(List Int)) (a1:Int):Option (Int×((List Int)×Unit)) :=
((bif decide (a1 < 2) then (
 some true)
 else (
 some ((a0.length:Int) == 0))):Option Bool).bind fun o1 =>
 bif o1 then (
 if (([]:List Int).length + a0.length) * (24 * 1)≤aG then (
 some (0,([]++a0),())) else none)
 else (
 idx a0 0 fun x2 =>
 if a1=0 then none else (
((bif decide ((x2.tmod a1) < 0) then (
 some (IntKind.wrap .i64 ((x2.tmod a1) + a1)))
 else (
 some (x2.tmod a1))):Option Int).bind fun o3 =>
 if 0≤(1:Int) then (if (1:Int)≤(a0.length:Int) then (if (a0.length:Int)≤(a0.length:Int) then (
 if (([]:List Int).length + ((a0.take (a0.length:Int).toNat).drop (1:Int).toNat).length) * (24 * 1)≤aG then (
 some (o3,([]++((a0.take (a0.length:Int).toNat).drop (1:Int).toNat)),())) else none) else none) else none) else none))
def Ok:Hints:=(n0 (nd (nd (cu ⟨[.tmp 13 .bool],[none],none,[]⟩) .none) (n0 (nd (n0 (cu ⟨[.tmp 6 (.int .i64)],[none],none,[]⟩)) .none))))
def ud:Ct:=.pure false true (.pair (.slice (.int .i64)) (.pair (.int .i64) .unit)) (.pair (.int .i64) (.pair (.slice (.int .i64)) .unit)) (fun x=>vF x.1 x.2.1)
theorem sy:KC 267 ud:=pq En Ok Tryz.func267
def fx (a0:Int) (a1:Int):Option Int :=
((bif decide (a1 < a0) then (
 some a1)
 else (
 some a0)):Option Int).bind fun o1 =>
 bif decide (o1 < 0) then (
 some 0)
 else (
 some o1)
def Ol:Hints:=(n0 (n0 (nd (n0 (cu ⟨[.tmp 5 (.int .i64)],[none],none,[]⟩)) .none)))
def Om:Ct:=.pure true false bP (.int .i64) (fun x=>fx x.1 x.2.1)
theorem ib:KC 334 Om:=pq En Ol Tryz.func334
def oy (a0:ae.D) (a1:Int):Option ae.D :=
(fx a1 2147483647).bind fun y1 =>
 some (a0.1,a0.2.1,a0.2.2.1,a0.2.2.2.1,y1,a0.2.2.2.2.2)
def Mz:Ct:=.pure true false (.pair ae (.pair (.int .i64) .unit)) ae (fun x=>oy x.1 x.2.1)
theorem Br:KC 335 Mz:=pq (Ec ib En) .none Tryz.func335
def uQ (a0:bM.D) (a1:ae.D):((List ae.D)×Int)→Option (((List ae.D)×Int)⊕((List ae.D)×Int)):=fun s1 =>
((bif decide (s1.2 < (a0.2.2.2.2.2.2.1.length:Int)) then (
 some (a0.1 == 9))
 else (
 some false)):Option Bool).bind fun o2 =>
 bif o2 then (
 idx a0.2.2.2.2.2.2.1 s1.2 fun x3 =>
((bif (x3.2.2.2.2.1 == (-1)) then (
(fx a1.2.2.2.2.1 2147483647).bind fun y4 =>
 some (x3.1,x3.2.1,x3.2.2.1,x3.2.2.2.1,y4,x3.2.2.2.2.2))
 else (
 some x3)):Option ae.D).bind fun o5 =>
 if (s1.1.length + [o5].length) * (24 * 7)≤aG then (
 some (.inl ((s1.1++[o5]),IntKind.wrap .i64 (s1.2 + 1)))) else none)
 else (
 some (.inr s1))
def sA (a0:bM.D) (a1:ae.D):Option (List ae.D) :=
(aw (uQ a0 a1) ([],0)).bind fun o6 =>
 some o6.1
def MA:Hints:=(n0 (n0 (nd (n0 (nd (.node none (some ⟨[.tmpO 5 0 (.slice ae),.tmp 6 (.int .i64)],[some 0],none,[]⟩) (nd (nd (cu ⟨[.tmp 18 .bool],[none],none,[]⟩) .none) (nd (nd (n0 (nd (n0 (cu ⟨[.box 7 0 ae],[none],none,[(7,0)]⟩)) .none)) .none) .none)) .none) .none)) .none)))
def BX:Ct:=.pure true true (.pair bM (.pair ae .unit)) (.slice ae) (fun x=>sA x.1 x.2.1)
theorem AB:KC 336 BX:=pq (Ec ib En) MA Tryz.func336
def dB (a0:Int):Option Int :=
 bif decide (a0 > 2147483647) then (
 some 2147483647)
 else (
 bif decide (a0 < (-2147483647)) then (
 some (-2147483647))
 else (
 some a0))
def MB:Ct:=.pure true false (.pair (.int .i64) .unit) (.int .i64) (fun x=>dB x.1)
theorem pi:KC 391 MB:=pq En .none Tryz.func391
def eL (a0:Int) (a1:Int):Option Int :=
(dB a0).bind fun y1 =>
(dB a1).bind fun y2 =>
(dB (IntKind.wrap .i64 (y1 + y2))).bind fun y3 =>
 some y3
def On:Ct:=.pure true false bP (.int .i64) (fun x=>eL x.1 x.2.1)
theorem rh:KC 383 On:=pq (Ec pi En) .none Tryz.func383
def BY (a0:Int):Option Int :=
(dB a0).bind fun y1 =>
(dB (IntKind.wrap .i64 (2 * y1))).bind fun y2 =>
 some y2
def MC:Ct:=.pure true false (.pair (.int .i64) .unit) (.int .i64) (fun x=>BY x.1)
theorem Km:KC 389 MC:=pq (Ec pi En) .none Tryz.func389
def E2 (a0:Int):Option Int :=
(dB a0).bind fun y1 =>
 if 2=0 then none else (
 some (IntKind.wrap .i64 (y1.tdiv 2)))
def Oo:Ct:=.pure true false (.pair (.int .i64) .unit) (.int .i64) (fun x=>E2 x.1)
theorem MD:KC 390 Oo:=pq (Ec pi En) .none Tryz.func390
def ue (a0:bM.D) (a1:Int):Option Int :=
(fx a1 2147483647).bind fun y1 =>
 bif (a0.1 == 1) then (
 some 0)
 else (
 bif (a0.1 == 3) then (
(eL y1 a0.2.1).bind fun y2 =>
 some y2)
 else (
 bif (a0.1 == 4) then (
(BY y1).bind fun y3 =>
 some y3)
 else (
 bif (a0.1 == 5) then (
(E2 y1).bind fun y4 =>
 some y4)
 else (
 some y1))))
def Kn:Ct:=.pure true false (.pair bM (.pair (.int .i64) .unit)) (.int .i64) (fun x=>ue x.1 x.2.1)
theorem II:KC 368 Kn:=pq (Ec ib (Ec rh (Ec Km (Ec MD En)))) .none Tryz.func368
def uf (a0:bM.D) (a1:ae.D):Option ae.D :=
((bif (a0.1 == 3) then (
 some (a0.1 == 3))
 else (
((bif (a0.1 == 4) then (
 some (a0.1 == 4))
 else (
 some (a0.1 == 5))):Option Bool).bind fun o1 =>
 some o1)):Option Bool).bind fun o2 =>
 bif o2 then (
(ue a0 a1.2.2.2.2.1).bind fun y3 =>
(oy a1 y3).bind fun y4 =>
 some y4)
 else (
 bif (a0.1 == 6) then (
 some (a1.1,a1.2.1,a0.2.2.1,a0.2.2.2.1,a1.2.2.2.2))
 else (
 bif (a0.1 == 7) then (
 bif (a0.2.2.2.2.1 != 2) then (
 some (a1.1,a1.2.1,a1.2.2.1,a1.2.2.2.1,0,a0.2.2.2.2.1,false,()))
 else (
 some (a1.1,a1.2.1,a1.2.2.1,a1.2.2.2.1,a1.2.2.2.2.1,a0.2.2.2.2.1,a1.2.2.2.2.2.2)))
 else (
 bif (a0.1 == 8) then (
 bif (a1.2.2.2.2.2.1 == 2) then (
(fx (IntKind.wrap .i64 (a1.2.2.2.2.1 + a0.2.1)) 99).bind fun y5 =>
 bif a1.2.2.2.2.2.2.1 then (
 some (a1.1,a1.2.1,a1.2.2.1,a1.2.2.2.1,y5,a1.2.2.2.2.2.1,true,()))
 else (
 some (a1.1,a1.2.1,a1.2.2.1,a1.2.2.2.1,y5,a1.2.2.2.2.2.1,a0.2.2.2.2.2.1,())))
 else (
 some a1))
 else (
 some a1))))
def Ko:Hints:=(n0 (nd (n0 (nd (nd (n0 (.node (some ⟨[.tmp 7 .bool],[none],none,[]⟩) none .none (n0 (cu ⟨[.tmp 7 .bool],[none],none,[]⟩)))) .none) .none)) .none))
def Kp:Ct:=.pure true false (.pair bM (.pair ae .unit)) ae (fun x=>uf x.1 x.2.1)
theorem IJ:KC 337 Kp:=pq (Ec ib (Ec Br (Ec II En))) Ko Tryz.func337
def jw (a0:Int) (a1:Int):Option Int :=
(dB a0).bind fun y1 =>
(dB a1).bind fun y2 =>
(dB (IntKind.wrap .i64 (y1 - y2))).bind fun y3 =>
 some y3
def Oq:Ct:=.pure true false bP (.int .i64) (fun x=>jw x.1 x.2.1)
theorem ri:KC 369 Oq:=pq (Ec pi En) .none Tryz.func369
def wA (a0:aa.D) (a1:Int):Option aa.D :=
(ew a0).bind fun y1 =>
 bif (a0.2.2.2.2.2.2.1.1 == 2) then (
(jw a0.2.2.2.2.2.2.2.2.1 a1).bind fun y2 =>
(fx y2 2147483647).bind fun y3 =>
 some (y1.1,y1.2.1,y1.2.2.1,y1.2.2.2.1,y1.2.2.2.2.1,y1.2.2.2.2.2.1,y1.2.2.2.2.2.2.1,y1.2.2.2.2.2.2.2.1,y3,()))
 else (
 bif decide (a0.2.2.2.2.2.2.2.2.1 > 0) then (
 some (y1.1,y1.2.1,y1.2.2.1,y1.2.2.2.1,y1.2.2.2.2.1,y1.2.2.2.2.2.1,y1.2.2.2.2.2.2.1,y1.2.2.2.2.2.2.2.1,IntKind.wrap .i64 (a0.2.2.2.2.2.2.2.2.1 - 1),()))
 else (
 some y1))
def BZ:Ct:=.pure true true (.pair aa (.pair (.int .i64) .unit)) aa (fun x=>wA x.1 x.2.1)
theorem AC:KC 338 BZ:=pq (Ec cU (Ec ib (Ec ri En))) .none Tryz.func338
def pj (o13:((List ae.D)×Int)):((List ae.D)×Int)→Option (((List ae.D)×Int)⊕((List ae.D)×Int)):=fun s14 =>
 bif decide (s14.2 < (o13.1.length:Int)) then (
((idx o13.1 s14.2 fun _ =>
(o13.1[(s14.2:Int).toNat]?).bind fun x15 =>
(cm x15).bind fun y16 =>
 bif y16 then (
 idx o13.1 s14.2 fun _ =>
(o13.1[(s14.2:Int).toNat]?).bind fun x17 =>
(vE x17).bind fun y18 =>
 some (!y18))
 else (
 some false)):Option Bool).bind fun o19 =>
((bif o19 then (
 idx o13.1 s14.2 fun _ =>
(o13.1[(s14.2:Int).toNat]?).bind fun x20 =>
 if (s14.1.length + [x20].length) * (24 * 7)≤aG then (
 some (s14.1++[x20])) else none)
 else (
 some s14.1)):Option (List ae.D)).bind fun o21 =>
 some (.inl (o21,IntKind.wrap .i64 (s14.2 + 1))))
 else (
 some (.inr s14))
def sB (a0:aa.D) (a1:ae.D):Option ((List ae.D)×(Int×(aa.D×Unit))) :=
(((gj a0).bind fun y1 =>
 bif (!y1) then (
 some true)
 else (
(cm a1).bind fun y2 =>
 bif (!y2) then (
 some true)
 else (
(fT a0.2.2.2.2.2.2.1 a1.1).bind fun y3 =>
 some (!y3)))):Option Bool).bind fun o4 =>
 bif o4 then (
(ew a0).bind fun y5 =>
 some ([a1],0,y5,()))
 else (
((bif (a0.2.2.2.2.2.2.1.1 == 1) then (
((bif (a1.1 == 1) then (
 some a1.2.2.2.2.1)
 else (
 some 0)):Option Int).bind fun o6 =>
 some ([],o6))
 else (
((bif (a0.2.2.2.2.2.2.1.1 == 2) then (
(fx a1.2.2.2.2.1 a0.2.2.2.2.2.2.2.2.1).bind fun y7 =>
(oy a1 (IntKind.wrap .i64 (a1.2.2.2.2.1 - y7))).bind fun y8 =>
 if (([]:List ae.D).length + [y8].length) * (24 * 7)≤aG then (
 some (([]++[y8]),y7)) else none)
 else (
((bif (a0.2.2.2.2.2.2.1.1 == 9) then (
(sA a0.2.2.2.2.2.2.1 a1).bind fun y9 =>
 some y9)
 else (
(uf a0.2.2.2.2.2.2.1 a1).bind fun y10 =>
 if (([]:List ae.D).length + [y10].length) * (24 * 7)≤aG then (
 some ([]++[y10])) else none)):Option (List ae.D)).bind fun o11 =>
 some (o11,0))):Option ((List ae.D)×Int)).bind fun o12 =>
 some o12)):Option ((List ae.D)×Int)).bind fun o13 =>
(aw (pj o13) ([],0)).bind fun o22 =>
(wA a0 o13.2).bind fun y23 =>
 some (o22.1,o13.2,y23,()))
def ME:Hints:=(n0 (nd (nd (cu ⟨[.tmp 26 .bool],[none],none,[]⟩) .none) (n0 (n0 (nd (n0 (nd (n0 (.node (some ⟨[.tmpO 7 0 (.slice ae),.tmp 8 (.int .i64)],[none],none,[(31,0)]⟩) none (n0 (cu ⟨[.tmp 8 (.int .i64)],[none],none,[]⟩)) (n0 (.node (some ⟨[.tmpO 7 0 (.slice ae),.tmp 8 (.int .i64)],[none],none,[(31,0)]⟩) none .none (n0 (cu ⟨[.tmpO 7 0 (.slice ae)],[none],none,[(31,0)]⟩)))))) .none)) (n0 (nd (n0 (nd (.node none (some ⟨[.tmpO 9 0 (.slice ae),.tmp 10 (.int .i64)],[some 1],none,[]⟩) (n0 (nd (nd (nd (cu ⟨[.tmp 90 .bool],[none],none,[]⟩) (cu ⟨[.tmpO 9 1 (.slice ae)],[none],none,[(9,0)]⟩)) .none) .none)) .none) .none)) .none)))))))
def lq:Ct:=.pure false true (.pair aa (.pair ae .unit)) (.pair (.slice ae) (.pair (.int .i64) (.pair aa .unit))) (fun x=>sB x.1 x.2.1)
theorem qR:KC 268 lq:=pq (Ec da (Ec cU (Ec ot (Ec Du (Ec qw (Ec ib (Ec Br (Ec AB (Ec IJ (Ec AC En)))))))))) ME Tryz.func268
def ug (a0:(List aa.D)) (a1:aa.D):Option (List aa.D) :=
(ck a0).bind fun y1 =>
(gk a0 a1.1).bind fun y2 =>
 bif decide (y2≥0) then (
(ew a1).bind fun y3 =>
 idx y1 y2 fun _ =>
(y1[(y2:Int).toNat]?).bind fun x4 =>
 let u5:(List aa.D):=y1.set (y2:Int).toNat y3
 some u5)
 else (
 some y1)
def qS:Ct:=.pure true true (.pair (.slice aa) (.pair aa .unit)) (.slice aa) (fun x=>ug x.1 x.2.1)
theorem zd:KC 269 qS:=pq (Ec cf (Ec cU (Ec ju En))) .none Tryz.func269
def ic (a0:ac.D) (a1:ae.D):Option Int :=
(jb a0 a1).bind fun y1 =>
 bif (y1 == (-1)) then (
 some a0.2.2.1)
 else (
 some y1)
def sC:Ct:=.pure true false (.pair ac (.pair ae .unit)) (.int .i64) (fun x=>ic x.1 x.2.1)
theorem xF:KC 270 sC:=pq (Ec yV En) .none Tryz.func270
def uR (a0:(List Int)) (s1:((List Int)×Int)):Int→Option (Int⊕Int):=fun s4 =>
((bif decide (s4 > 0) then (
 idx s1.1 (IntKind.wrap .i64 (s4 - 1)) fun _ =>
(s1.1[(IntKind.wrap .i64 (s4 - 1):Int).toNat]?).bind fun x5 =>
 idx a0 s1.2 fun x6 =>
 some (decide (x5 > x6)))
 else (
 some false)):Option Bool).bind fun o7 =>
 bif o7 then (
 some (.inl (IntKind.wrap .i64 (s4 - 1))))
 else (
 some (.inr s4))
def uT (a0:(List Int)):((List Int)×Int)→Option (((List Int)×Int)⊕((List Int)×Int)):=fun s1 =>
 bif decide (s1.2 < (a0.length:Int)) then (
((idx a0 s1.2 fun x2 =>
(vD s1.1 x2).bind fun y3 =>
 bif y3 then (
 some s1.1)
 else (
(aw (uR a0 s1) (s1.1.length:Int)).bind fun o8 =>
 if 0≤(0:Int) then (if (0:Int)≤o8 then (if o8≤(s1.1.length:Int) then (
 if (([]:List Int).length + ((s1.1.take (o8.toNat)).drop ((0:Int).toNat)).length) * (24 * 1)≤aG then (
 idx a0 s1.2 fun x9 =>
 if (([]++((s1.1.take (o8.toNat)).drop ((0:Int).toNat))).length + [x9].length) * (24 * 1)≤aG then (
 if 0≤o8 then (if o8≤(s1.1.length:Int) then (if (s1.1.length:Int)≤(s1.1.length:Int) then (
 if ((([]++((s1.1.take (o8.toNat)).drop ((0:Int).toNat)))++[x9]).length + ((s1.1.take ((s1.1.length:Int).toNat)).drop (o8.toNat)).length) * (24 * 1)≤aG then (
 some ((([]++((s1.1.take (o8.toNat)).drop ((0:Int).toNat)))++[x9])++((s1.1.take ((s1.1.length:Int).toNat)).drop (o8.toNat)))) else none) else none) else none) else none) else none) else none) else none) else none) else none)):Option (List Int)).bind fun o10 =>
 some (.inl (o10,IntKind.wrap .i64 (s1.2 + 1))))
 else (
 some (.inr s1))
def wB (a0:(List Int)):Option (List Int) :=
(aw (uT a0) ([],0)).bind fun o11 =>
 some o11.1
def MF:Hints:=(n0 (n0 (nd (n0 (nd (.node none (some ⟨[.tmpO 3 0 (.slice (.int .i64)),.tmp 4 (.int .i64)],[some 0],none,[]⟩) (n0 (nd (.node (some ⟨[.tmpO 3 1 (.slice (.int .i64))],[none],none,[(3,0)]⟩) none (n0 (n0 (nd (nd (.node none (some ⟨[.tmp 5 (.int .i64)],[some 2],none,[]⟩) (nd (nd (cu ⟨[.tmp 34 .bool],[none],none,[]⟩) .none) .none) .none) .none) .none))) .none) .none)) .none) .none)) .none)))
def B0:Ct:=.pure true true (.pair (.slice (.int .i64)) .unit) (.slice (.int .i64)) (fun x=>wB x.1)
theorem AD:KC 340 B0:=pq (Ec zc En) MF Tryz.func340
def Ak (a0:(List Int)) (a1:Int):Option (List Int) :=
 if (([]:List Int).length + a0.length) * (24 * 1)≤aG then (
 if (([]++a0).length + [a1].length) * (24 * 1)≤aG then (
(wB (([]++a0)++[a1])).bind fun y1 =>
 some y1) else none) else none
def uh:Ct:=.pure true true (.pair (.slice (.int .i64)) (.pair (.int .i64) .unit)) (.slice (.int .i64)) (fun x=>Ak x.1 x.2.1)
theorem B1:KC 271 uh:=pq (Ec AD En) .none Tryz.func271
def pm (rec:(nS.D→ae.D→(List Int)→Option (Unit×nS.D))) (y8:((List ae.D)×(Int×(aa.D×Unit)))) (y11:(List Int)):(Int×(mr.D×((List aa.D)×((List Int)×((List ae.D)×((List aA.D)×Unit))))))→Option ((Int×(mr.D×((List aa.D)×((List Int)×((List ae.D)×((List aA.D)×Unit))))))⊕(Int×(mr.D×((List aa.D)×((List Int)×((List ae.D)×((List aA.D)×Unit))))))):=fun s13 =>
 bif decide (s13.1 < (y8.1.length:Int)) then (
 idx y8.1 s13.1 fun _ =>
(y8.1[(s13.1:Int).toNat]?).bind fun x14 =>
(rec s13.2 x14 y11).bind fun y15 =>
 some (.inl (IntKind.wrap .i64 (s13.1 + 1),y15.2)))
 else (
 some (.inr s13))
def kK (rec:(nS.D→ae.D→(List Int)→Option (Unit×nS.D))) (x:nS.D) (a0:ae.D) (a1:(List Int)):Option (Unit×nS.D) :=
(rg x.1 x.2.1 a0 a1).bind fun y1 =>
 bif ((y1.length:Int) == 0) then (
(vE a0).bind fun y2 =>
((bif (!y2) then (
 if (x.2.2.2.1.length + [a0].length) * (24 * 7)≤aG then (
 some (x.1,x.2.1,x.2.2.1,(x.2.2.2.1++[a0]),x.2.2.2.2)) else none)
 else (
 some x)):Option nS.D).bind fun o3 =>
 some ((),o3))
 else (
(vF x.2.2.1 (y1.length:Int)).bind fun y4 =>
 idx y1 y4.1 fun _ =>
(y1[(y4.1:Int).toNat]?).bind fun x5 =>
(gk x.2.1 x5).bind fun y6 =>
 idx x.2.1 y6 fun x7 =>
(sB x7 a0).bind fun y8 =>
(ug x.2.1 y8.2.2.1).bind fun y9 =>
(ic x.1 a0).bind fun y10 =>
 if (([]:List ae.D).length + y8.1.length) * (24 * 7)≤aG then (
 if (x.2.2.2.2.1.length + ([(x7.1,y10,y4.1,(y1.length:Int),a0,([]++y8.1),y8.2.1,(a1.length:Int),())]).length) * (24 * 14)≤aG then (
(Ak a1 x7.1).bind fun y11 =>
(aw (pm rec y8 y11) (0,x.1,y9,y4.2.1,x.2.2.2.1,(x.2.2.2.2.1++([(x7.1,y10,y4.1,(y1.length:Int),a0,([]++y8.1),y8.2.1,(a1.length:Int),())])),())).bind fun o16 =>
 some ((),o16.2)) else none) else none)
def je (n:Nat):nS.D→ae.D→(List Int)→Option (Unit×nS.D):=Nat.rec (motive:=fun _=>(nS.D→ae.D→(List Int)→Option (Unit×nS.D))) (fun _ _ _=>none) (fun _ g=>kK g) n
def MG:Hints:=(n0 (n0 (nd (n0 (nd (nd (n0 (cu ⟨[.boxO 0 0 6 nS],[none],none,[(0,4),(0,0),(0,2),(0,3),(0,5)]⟩)) .none) .none)) (n0 (n0 (nd (nd (cu ⟨[],[],none,[(0,2)]⟩) .none) (n0 (n0 (n0 (n0 (nd (nd (cu ⟨[],[],none,[(118,0)]⟩) .none) (nd (.node none (some ⟨[.tmp 14 (.int .i64),.boxO 0 0 6 nS],[some 0],none,[]⟩) (n0 (nd (nd (.node none (some ⟨[],[some 6],none,[]⟩) .none .none) .none) .none)) .none) .none))))))))))))
def wC (g:(nS.D→ae.D→(List Int)→Option (Unit×nS.D))):Ct:=.run nS [] false false false (.pair ae (.pair (.slice (.int .i64)) .unit)) .unit (fun x y=>g x y.1 y.2.1)
theorem Kq (n:Nat):cI Tryz.prog 159 (wC (je n)):=by
 induction n with
 | zero=>exact Oa (fn:=Tryz.f159) nS [] false false false (.pair ae (.pair (.slice (.int .i64)) .unit)) .unit Tryz.func159 (by kernel_rfl)
 | succ n ih=>exact Mm (E:={ T:=tab,G:=[(159,wC (je n)),(224,xD),(265,pP),(266,Gi),(267,ud),(268,lq),(269,qS),(270,sC),(271,uh)],Z:=true }) (ar.frz (ar.cons (ih) (ar.cons ju (ar.cons xX (ar.cons Du (ar.cons sy (ar.cons qR (ar.cons zd (ar.cons xF (ar.cons B1 (ar.nil dL))))))))))) mixed (fn:=Tryz.f159) nS [] false false false (.pair ae (.pair (.slice (.int .i64)) .unit)) .unit (fun x y=>kK (je n) x y.1 y.2.1) MG Tryz.func159 (by kernel_rfl) (fun x y=>by kernel_rfl)
def mF (a0:ac.D) (a1:(List aa.D)) (a2:ae.D) (a3:(List Int)):Option bp.D :=
(ck a1).bind fun y1 =>
 if (([]:List Int).length + a3.length) * (24 * 1)≤aG then (
(dA a0).bind fun y2 =>
 bif y2 then (
(fU a1).bind fun y3 =>
 bif y3 then (
(cm a2).bind fun y4 =>
 bif y4 then (
(je 8 (a0,y1,([]++a3),[],[],()) a2 []).bind fun y5 =>
 some (y5.2.2.2.2.1,y5.2.2.1,y5.2.2.2.1,y5.2.2.2.2.2))
 else (
 some ([],y1,([]++a3),[],())))
 else (
 some ([],y1,([]++a3),[],())))
 else (
 some ([],y1,([]++a3),[],()))) else none
def IK:Hints:=(n0 (n0 (nd (n0 (nd (.node none (some ⟨[],[some 3],none,[]⟩) .none .none) .none)) .none)))
def ze:Ct:=.pure true true (.pair ac (.pair (.slice aa) (.pair ae (.pair (.slice (.int .i64)) .unit)))) bp (fun x=>mF x.1 x.2.1 x.2.2.1 x.2.2.2.1)
theorem xY:cI Tryz.prog 47 ze:=wv (E:={ T:=tab,G:=[(159,wC (je 8)),(118,yX),(119,yY),(155,pK),(158,yU)],V:=[32],Z:=true }) (ar.frz (ar.views (ar.cons (Kq 8) (ar.cons dM (ar.cons kG (ar.cons cf (ar.cons da (ar.nil dL)))))))) mixed (fn:=Tryz.f47) _ _ _ _ _ IK Tryz.func47 (by kernel_rfl) (fun x=>by kernel_rfl)
def vG (a0:bp.D) (a1:bp.D):Option bp.D :=
(jv a0).bind fun y1 =>
(jv a1).bind fun y2 =>
 if (y1.1.length + y2.1.length) * (24 * 7)≤aG then (
 if (y1.2.2.2.1.length + y2.2.2.2.1.length) * (24 * 14)≤aG then (
 some ((y1.1++y2.1),y2.2.1,y2.2.2.1,(y1.2.2.2.1++y2.2.2.2.1),())) else none) else none
def Dv:Ct:=.pure true true (.pair bp (.pair bp .unit)) bp (fun x=>vG x.1 x.2.1)
theorem B2:KC 76 Dv:=pq (Ec nW En) .none Tryz.func76
def ie (a0:ac.D) (a2:(List ae.D)):(Int×((List ae.D)×((List aa.D)×((List Int)×((List aA.D)×Unit)))))→Option ((Int×((List ae.D)×((List aa.D)×((List Int)×((List aA.D)×Unit)))))⊕(Int×((List ae.D)×((List aa.D)×((List Int)×((List aA.D)×Unit)))))):=fun s7 =>
 bif decide (s7.1 < (a2.length:Int)) then (
 idx a2 s7.1 fun x8 =>
(mF a0 s7.2.2.1 x8 s7.2.2.2.1).bind fun y9 =>
(vG s7.2 y9).bind fun y10 =>
 some (.inl (IntKind.wrap .i64 (s7.1 + 1),y10)))
 else (
 some (.inr s7))
def kL (a0:ac.D) (a1:(List aa.D)) (a2:(List ae.D)) (a3:(List Int)):Option bp.D :=
(jv ([],a1,a3,[],())).bind fun y1 =>
(((mE a2).bind fun y2 =>
 bif (!y2) then (
 some true)
 else (
(dA a0).bind fun y3 =>
 bif (!y3) then (
 some true)
 else (
(fU a1).bind fun y4 =>
 some (!y4)))):Option Bool).bind fun o5 =>
 bif o5 then (
 some y1)
 else (
(aw (ie a0 a2) (0,y1)).bind fun o11 =>
 some o11.2)
def Dw:Hints:=(n0 (n0 (nd (nd (cu ⟨[.tmp 28 .bool],[none],none,[]⟩) .none) (nd (n0 (nd (.node none (some ⟨[.tmp 10 (.int .i64),.boxO 9 0 1 bp],[some 0],none,[]⟩) .none .none) .none)) .none))))
def lK:Ct:=.pure true true (.pair ac (.pair (.slice aa) (.pair (.slice ae) (.pair (.slice (.int .i64)) .unit)))) bp (fun x=>kL x.1 x.2.1 x.2.2.1 x.2.2.2.1)
theorem uU:KC 63 lK:=pq (Ec xY (Ec B2 (Ec xE (Ec dM (Ec kG (Ec nW En)))))) Dw Tryz.func63
def cC (a0:ai.D) (a1:Int):Option Bool :=
 bif (a1 == 1) then (
 let k1:Int:=IntKind.wrap .i64 (BitVec.ofInt (IntKind.bits .i64) a0.2.2.2.2.2.2.2.1 &&& BitVec.ofInt (IntKind.bits .i64) a1).toNat
 some (k1 != 0))
 else (
 bif (a1 == 2) then (
 let k2:Int:=IntKind.wrap .i64 (BitVec.ofInt (IntKind.bits .i64) a0.2.2.2.2.2.2.2.1 &&& BitVec.ofInt (IntKind.bits .i64) a1).toNat
 some (k2 != 0))
 else (
 bif (a1 == 4) then (
 let k3:Int:=IntKind.wrap .i64 (BitVec.ofInt (IntKind.bits .i64) a0.2.2.2.2.2.2.2.1 &&& BitVec.ofInt (IntKind.bits .i64) a1).toNat
 some (k3 != 0))
 else (
 bif (a1 == 8) then (
 let k4:Int:=IntKind.wrap .i64 (BitVec.ofInt (IntKind.bits .i64) a0.2.2.2.2.2.2.2.1 &&& BitVec.ofInt (IntKind.bits .i64) a1).toNat
 some (k4 != 0))
 else (
 bif (a1 == 16) then (
 let k5:Int:=IntKind.wrap .i64 (BitVec.ofInt (IntKind.bits .i64) a0.2.2.2.2.2.2.2.1 &&& BitVec.ofInt (IntKind.bits .i64) a1).toNat
 some (k5 != 0))
 else (
 bif (a1 == 32) then (
 let k6:Int:=IntKind.wrap .i64 (BitVec.ofInt (IntKind.bits .i64) a0.2.2.2.2.2.2.2.1 &&& BitVec.ofInt (IntKind.bits .i64) a1).toNat
 some (k6 != 0))
 else (
 some false))))))
def GJ:Ct:=.pure true false (.pair ai (.pair (.int .i64) .unit)) .bool (fun x=>cC x.1 x.2.1)
theorem oz:KC 326 GJ:=pq En .none Tryz.func326
def lL (a0:ac.D) (a1:ai.D) (a2:ae.D):Option (ac.D×(Int×Unit)) :=
(eH a0).bind fun y1 =>
(((dA a0).bind fun y2 =>
 bif (!y2) then (
 some true)
 else (
(cm a2).bind fun y3 =>
 bif (!y3) then (
 some true)
 else (
 some (a2.1 != 1)))):Option Bool).bind fun o4 =>
 bif o4 then (
 some (y1,0,()))
 else (
(cC a1 2).bind fun y5 =>
((bif (a2.2.2.1 == 0) then (
 bif decide (a2.2.2.2.1≥(a0.2.1.length:Int)) then (
 some (.inr ((0,y1))))
 else (
((bif y5 then (
 idx a0.2.1 a2.2.2.2.1 fun x6 =>
(eL x6.2.1 a2.2.2.2.2.1).bind fun y7 =>
 idx y1.2.1 a2.2.2.2.1 fun _ =>
(y1.2.1[(a2.2.2.2.1:Int).toNat]?).bind fun x8 =>
 let u9:(List ay.D):=y1.2.1.set (a2.2.2.2.1:Int).toNat (x8.1,y7,x8.2.2)
 some (y1.1,u9,y1.2.2))
 else (
 idx a0.2.1 a2.2.2.2.1 fun x10 =>
(jw x10.1 a2.2.2.2.2.1).bind fun y11 =>
 idx y1.2.1 a2.2.2.2.1 fun _ =>
(y1.2.1[(a2.2.2.2.1:Int).toNat]?).bind fun x12 =>
 let u13:(List ay.D):=y1.2.1.set (a2.2.2.2.1:Int).toNat (y11,x12.2)
 some (y1.1,u13,y1.2.2))):Option ac.D).bind fun o14 =>
 some (.inl (([],[],0,0,()),o14))))
 else (
(eZ a0 a2.2.2.1).bind fun y15 =>
((bif decide (y15 < 0) then (
 some true)
 else (
 idx a0.1 y15 fun x16 =>
 some (x16.2.2.2.1 != 2))):Option Bool).bind fun o17 =>
 bif o17 then (
 some (.inr ((0,y1))))
 else (
((bif y5 then (
 idx a0.1 y15 fun x18 =>
(eL x18.2.2.2.2.2.2.2.2.2.1 a2.2.2.2.2.1).bind fun y19 =>
 idx y1.1 y15 fun _ =>
(y1.1[(y15:Int).toNat]?).bind fun x20 =>
 let u21:(List ai.D):=y1.1.set (y15:Int).toNat (x20.1,x20.2.1,x20.2.2.1,x20.2.2.2.1,x20.2.2.2.2.1,x20.2.2.2.2.2.1,x20.2.2.2.2.2.2.1,x20.2.2.2.2.2.2.2.1,x20.2.2.2.2.2.2.2.2.1,y19,x20.2.2.2.2.2.2.2.2.2.2)
 some (u21,y1.2))
 else (
 idx a0.1 y15 fun x22 =>
(eL x22.2.2.2.2.2.2.2.2.2.2.1 a2.2.2.2.2.1).bind fun y23 =>
 idx y1.1 y15 fun _ =>
(y1.1[(y15:Int).toNat]?).bind fun x24 =>
 let u25:(List ai.D):=y1.1.set (y15:Int).toNat (x24.1,x24.2.1,x24.2.2.1,x24.2.2.2.1,x24.2.2.2.2.1,x24.2.2.2.2.2.1,x24.2.2.2.2.2.2.1,x24.2.2.2.2.2.2.2.1,x24.2.2.2.2.2.2.2.2.1,x24.2.2.2.2.2.2.2.2.2.1,y23,x24.2.2.2.2.2.2.2.2.2.2.2)
 some (u25,y1.2))):Option ac.D).bind fun o26 =>
(((cC a1 4).bind fun y27 =>
 bif y27 then (
 some (decide (a2.2.2.2.2.1≥1)))
 else (
 some false)):Option Bool).bind fun o28 =>
((bif o28 then (
 idx o26.1 y15 fun _ =>
(o26.1[(y15:Int).toNat]?).bind fun x29 =>
 let u30:(List ai.D):=o26.1.set (y15:Int).toNat (x29.1,x29.2.1,x29.2.2.1,x29.2.2.2.1,x29.2.2.2.2.1,x29.2.2.2.2.2.1,x29.2.2.2.2.2.2.1,x29.2.2.2.2.2.2.2.1,x29.2.2.2.2.2.2.2.2.1,x29.2.2.2.2.2.2.2.2.2.1,x29.2.2.2.2.2.2.2.2.2.2.1,true,x29.2.2.2.2.2.2.2.2.2.2.2.2)
 some (u30,o26.2))
 else (
 some o26)):Option ac.D).bind fun o31 =>
 some (.inl (([],[],0,0,()),o31))))):Option ((ac.D×((List ai.D)×((List ay.D)×(Int×(Int×Unit)))))⊕(Int×((List ai.D)×((List ay.D)×(Int×(Int×Unit))))))).bind fun o32 =>
 match o32 with
| .inl s33=>(
(((cC a1 1).bind fun y35 =>
 bif y35 then (
(aM a1.2.2.1 0 (IntKind.wrap .i64 ((a0.2.1.length:Int) - 1))).bind fun y36 =>
 some y36)
 else (
 some false)):Option Bool).bind fun o37 =>
((bif o37 then (
 idx s33.2.2.1 a1.2.2.1 fun _ =>
(s33.2.2.1[(a1.2.2.1:Int).toNat]?).bind fun x38 =>
(eL x38.1 a2.2.2.2.2.1).bind fun y39 =>
 idx s33.2.2.1 a1.2.2.1 fun _ =>
(s33.2.2.1[(a1.2.2.1:Int).toNat]?).bind fun x40 =>
 let u41:(List ay.D):=s33.2.2.1.set (a1.2.2.1:Int).toNat (y39,x40.2)
 some (s33.2.1,u41,s33.2.2.2))
 else (
 some s33.2)):Option ac.D).bind fun o42 =>
 some (o42,a2.2.2.2.2.1,()))
| .inr o34=>(
 some (o34.2,o34.1,())))
def Kr:Hints:=(n0 (n0 (nd (nd (cu ⟨[.tmp 25 .bool],[none],none,[]⟩) .none) (n0 (nd (n0 (.node (some ⟨[.boxO 6 0 1 ac,.boxO 8 0 1 ac],[none],some [.tmp 7 (.int .i64),.boxO 6 0 1 ac],[(6,0),(12,1),(8,0),(12,0)]⟩) none (n0 (n0 (cu ⟨[.boxO 8 0 1 ac],[none],none,[(12,1),(8,0),(12,0)]⟩))) (n0 (nd (nd (cu ⟨[.tmp 86 .bool],[none],none,[]⟩) .none) (nd (n0 (cu ⟨[.boxO 8 0 1 ac],[none],none,[(12,0),(8,0),(12,1)]⟩)) (nd (cu ⟨[.tmp 123 .bool],[none],none,[]⟩) (cu ⟨[.boxO 8 0 3 ac],[none],none,[(8,1),(8,0),(8,2)]⟩))))))) (nd (nd (cu ⟨[.tmp 139 .bool],[none],none,[]⟩) (cu ⟨[.boxO 8 0 3 ac],[none],none,[(8,2),(8,0),(8,1)]⟩)) .none))))))
def AE:Ct:=.pure false true (.pair ac (.pair ai (.pair ae .unit))) (.pair ac (.pair (.int .i64) .unit)) (fun x=>lL x.1 x.2.1 x.2.2.1)
theorem zf:KC 357 AE:=pq (Ec dM (Ec bZ (Ec da (Ec cj (Ec fN (Ec oz (Ec ri (Ec rh En)))))))) Kr Tryz.func357
def vH (a0:ac.D) (a1:ae.D):Option (ac.D×(Bool×Unit)) :=
(eH a0).bind fun y1 =>
(((dA a0).bind fun y2 =>
 bif (!y2) then (
 some true)
 else (
(cm a1).bind fun y3 =>
 some (!y3))):Option Bool).bind fun o4 =>
 bif o4 then (
 some (y1,false,()))
 else (
((bif (a1.1 == 3) then (
 some (a1.1 == 3))
 else (
 some (a1.1 == 4))):Option Bool).bind fun o5 =>
 bif o5 then (
 bif decide (a1.2.2.2.1≥(a0.2.1.length:Int)) then (
 some (y1,false,()))
 else (
((bif (a1.1 == 3) then (
 idx a0.2.1 a1.2.2.2.1 fun x6 =>
(eL x6.1 a1.2.2.2.2.1).bind fun y7 =>
 idx y1.2.1 a1.2.2.2.1 fun _ =>
(y1.2.1[(a1.2.2.2.1:Int).toNat]?).bind fun x8 =>
 let u9:(List ay.D):=y1.2.1.set (a1.2.2.2.1:Int).toNat (y7,x8.2)
 some (y1.1,u9,y1.2.2))
 else (
 idx a0.2.1 a1.2.2.2.1 fun x10 =>
(jw x10.1 a1.2.2.2.2.1).bind fun y11 =>
 idx y1.2.1 a1.2.2.2.1 fun _ =>
(y1.2.1[(a1.2.2.2.1:Int).toNat]?).bind fun x12 =>
 let u13:(List ay.D):=y1.2.1.set (a1.2.2.2.1:Int).toNat (y11,x12.2)
 some (y1.1,u13,y1.2.2))):Option ac.D).bind fun o14 =>
 some (o14,true,())))
 else (
((bif (a1.1 == 5) then (
 some (a1.1 == 5))
 else (
 some (a1.1 == 6))):Option Bool).bind fun o15 =>
 bif o15 then (
(eZ a0 a1.2.2.1).bind fun y16 =>
((bif decide (y16 < 0) then (
 some true)
 else (
 idx a0.1 y16 fun x17 =>
 some (x17.2.2.2.1 != 2))):Option Bool).bind fun o18 =>
 bif o18 then (
 some (y1,false,()))
 else (
((bif (a1.1 == 5) then (
 idx a0.1 y16 fun x19 =>
(eL x19.2.2.2.2.2.2.2.2.1 a1.2.2.2.2.1).bind fun y20 =>
 idx y1.1 y16 fun _ =>
(y1.1[(y16:Int).toNat]?).bind fun x21 =>
 let u22:(List ai.D):=y1.1.set (y16:Int).toNat (x21.1,x21.2.1,x21.2.2.1,x21.2.2.2.1,x21.2.2.2.2.1,x21.2.2.2.2.2.1,x21.2.2.2.2.2.2.1,x21.2.2.2.2.2.2.2.1,y20,x21.2.2.2.2.2.2.2.2.2)
 some (u22,y1.2))
 else (
 idx a0.1 y16 fun x23 =>
(eL x23.2.2.2.2.2.2.2.2.2.1 a1.2.2.2.2.1).bind fun y24 =>
 idx y1.1 y16 fun _ =>
(y1.1[(y16:Int).toNat]?).bind fun x25 =>
 let u26:(List ai.D):=y1.1.set (y16:Int).toNat (x25.1,x25.2.1,x25.2.2.1,x25.2.2.2.1,x25.2.2.2.2.1,x25.2.2.2.2.2.1,x25.2.2.2.2.2.2.1,x25.2.2.2.2.2.2.2.1,x25.2.2.2.2.2.2.2.2.1,y24,x25.2.2.2.2.2.2.2.2.2.2)
 some (u26,y1.2))):Option ac.D).bind fun o27 =>
 some (o27,true,())))
 else (
 some (y1,false,()))))
def Ot:Hints:=(n0 (n0 (nd (nd (cu ⟨[.tmp 17 .bool],[none],none,[]⟩) .none) (nd (n0 (nd (nd (n0 (cu ⟨[.tmp 21 .bool],[none],none,[]⟩)) (nd (n0 (nd (n0 (cu ⟨[.boxO 6 0 1 ac],[none],none,[(9,1),(6,0),(9,0)]⟩)) .none)) (nd (n0 (cu ⟨[.tmp 67 .bool],[none],none,[]⟩)) (nd (n0 (nd (nd (cu ⟨[.tmp 84 .bool],[none],none,[]⟩) .none) (nd (n0 (cu ⟨[.boxO 6 0 1 ac],[none],none,[(9,0),(6,0),(9,1)]⟩)) .none))) .none)))) .none)) .none))))
def Dx:Ct:=.pure false true (.pair ac (.pair ae .unit)) (.pair ac (.pair .bool .unit)) (fun x=>vH x.1 x.2.1)
theorem B3:KC 358 Dx:=pq (Ec dM (Ec bZ (Ec da (Ec fN (Ec ri (Ec rh En)))))) Ot Tryz.func358
def oA (a0:ac.D) (a1:ac.D) (a2:ae.D):Option (ac.D×(aq.D×Unit)) :=
 bif (a2.1 == 1) then (
(gY a0 a2).bind fun y1 =>
(lL a1 y1 a2).bind fun y2 =>
 bif decide (y2.2.1≥1) then (
 some (y2.1,(1,a2,y2.2.1,0,(0,0,0,0,0,0,0,0,0,0,0,false,false,()),()),()))
 else (
 some (y2.1,(4,a2,0,0,(0,0,0,0,0,0,0,0,0,0,0,false,false,()),()),())))
 else (
(vH a1 a2).bind fun y3 =>
 bif y3.2.1 then (
 some (y3.1,(2,a2,0,0,(0,0,0,0,0,0,0,0,0,0,0,false,false,()),()),()))
 else (
 some (y3.1,(4,a2,0,0,(0,0,0,0,0,0,0,0,0,0,0,false,false,()),()),())))
def B4:Ct:=.pure false true (.pair ac (.pair ac (.pair ae .unit))) (.pair ac (.pair aq .unit)) (fun x=>oA x.1 x.2.1 x.2.2.1)
theorem AF:KC 319 B4:=pq (Ec sw (Ec zf (Ec B3 En))) .none Tryz.func319
def sD (a0:ai.D) (a1:Int) (a2:Int):Option ai.D :=
 some (a0.1,a0.2.1,a0.2.1,a1,a2,a0.2.2.2.2.2.1,a0.2.2.2.2.2.2.1,a0.2.2.2.2.2.2.2.1,0,0,0,false,false,())
def MH:Ct:=.pure true false (.pair ai (.pair (.int .i64) (.pair (.int .i64) .unit))) ai (fun x=>sD x.1 x.2.1 x.2.2.1)
theorem Bs:KC 359 MH:=pq En .none Tryz.func359
def oB (a0:ac.D) (a1:ae.D):Option (ac.D×(Bool×Unit)) :=
(eH a0).bind fun y1 =>
(eZ a0 a1.2.2.1).bind fun y2 =>
(((dA a0).bind fun y3 =>
 bif (!y3) then (
 some true)
 else (
(cm a1).bind fun y4 =>
 bif (!y4) then (
 some true)
 else (
 bif (a1.1 != 2) then (
 some true)
 else (
 bif decide (y2 < 0) then (
 some true)
 else (
 idx a0.1 y2 fun x5 =>
 some (x5.2.2.2.1 == a1.2.2.2.2.2.1)))))):Option Bool).bind fun o6 =>
 bif o6 then (
 some (y1,false,()))
 else (
 idx a0.1 y2 fun x7 =>
(sD x7 a1.2.2.2.2.2.1 a0.2.2.2.1).bind fun y8 =>
((bif (a1.2.2.2.2.2.1 == 2) then (
 some (y8.1,y8.2.1,y8.2.2.1,y8.2.2.2.1,y8.2.2.2.2.1,y8.2.2.2.2.2.1,y8.2.2.2.2.2.2.1,y8.2.2.2.2.2.2.2.1,a1.2.2.2.2.1,y8.2.2.2.2.2.2.2.2.2.1,y8.2.2.2.2.2.2.2.2.2.2.1,y8.2.2.2.2.2.2.2.2.2.2.2.1,a1.2.2.2.2.2.2))
 else (
 some y8)):Option ai.D).bind fun o9 =>
 idx y1.1 y2 fun _ =>
(y1.1[(y2:Int).toNat]?).bind fun x10 =>
 let u11:(List ai.D):=y1.1.set (y2:Int).toNat o9
 some ((u11,y1.2),true,()))
def MI:Hints:=(n0 (n0 (n0 (nd (nd (cu ⟨[.tmp 42 .bool],[none],none,[]⟩) .none) (n0 (nd (n0 (cu ⟨[.box 8 0 ai],[none],none,[(8,0)]⟩)) .none))))))
def B5:Ct:=.pure false true (.pair ac (.pair ae .unit)) (.pair ac (.pair .bool .unit)) (fun x=>oB x.1 x.2.1)
theorem AG:KC 320 B5:=pq (Ec dM (Ec bZ (Ec da (Ec fN (Ec Bs En))))) MI Tryz.func320
def mG (a0:ac.D) (a1:(List ae.D)):((List aq.D)×(Int×((List ai.D)×((List ay.D)×(Int×(Int×Unit))))))→Option (((List aq.D)×(Int×((List ai.D)×((List ay.D)×(Int×(Int×Unit))))))⊕((List aq.D)×(Int×((List ai.D)×((List ay.D)×(Int×(Int×Unit))))))):=fun s4 =>
 bif decide (s4.2.1 < (a1.length:Int)) then (
 idx a1 s4.2.1 fun x5 =>
((bif (x5.1 != 2) then (
 idx a1 s4.2.1 fun x6 =>
(oA a0 s4.2.2 x6).bind fun y7 =>
 if (s4.1.length + [y7.2.1].length) * (24 * 23)≤aG then (
 some ((s4.1++[y7.2.1]),y7.1)) else none)
 else (
 some (s4.1,s4.2.2))):Option ((List aq.D)×((List ai.D)×((List ay.D)×(Int×(Int×Unit)))))).bind fun o8 =>
 some (.inl (o8.1,IntKind.wrap .i64 (s4.2.1 + 1),o8.2)))
 else (
 some (.inr s4))
def mH (a0:ac.D) (a1:(List ae.D)):((List aq.D)×(Int×((List ai.D)×((List ay.D)×(Int×(Int×Unit))))))→Option (((List aq.D)×(Int×((List ai.D)×((List ay.D)×(Int×(Int×Unit))))))⊕((List aq.D)×(Int×((List ai.D)×((List ay.D)×(Int×(Int×Unit))))))):=fun s11 =>
 bif decide (s11.2.1 < (a1.length:Int)) then (
((idx a1 s11.2.1 fun x12 =>
 bif (x12.1 != 2) then (
 some (s11.1,s11.2.2))
 else (
 idx a1 s11.2.1 fun x13 =>
(oB s11.2.2 x13).bind fun y14 =>
 bif (!y14.2.1) then (
 idx a1 s11.2.1 fun x15 =>
 if (s11.1.length + ([(4,x15,0,0,(0,0,0,0,0,0,0,0,0,0,0,false,false,()),())]:List aq.D).length) * (24 * 23)≤aG then (
 some ((s11.1++([(4,x15,0,0,(0,0,0,0,0,0,0,0,0,0,0,false,false,()),())]:List aq.D)),s11.2.2)) else none)
 else (
 idx a1 s11.2.1 fun x16 =>
 idx a1 s11.2.1 fun x17 =>
(eZ a0 x17.2.2.1).bind fun y18 =>
 idx a0.1 y18 fun x19 =>
 if (s11.1.length + ([(3,x16,0,0,x19,())]:List aq.D).length) * (24 * 23)≤aG then (
 some ((s11.1++([(3,x16,0,0,x19,())]:List aq.D)),y14.1)) else none))):Option ((List aq.D)×((List ai.D)×((List ay.D)×(Int×(Int×Unit)))))).bind fun o20 =>
 some (.inl (o20.1,IntKind.wrap .i64 (s11.2.1 + 1),o20.2)))
 else (
 some (.inr s11))
def ui (a0:ac.D) (a1:(List ae.D)):Option (ac.D×((List aq.D)×Unit)) :=
(eH a0).bind fun y1 =>
(dA a0).bind fun y2 =>
 bif (!y2) then (
 some (y1,[],()))
 else (
(aw (mG a0 a1) ([],0,y1)).bind fun o9 =>
(aw (mH a0 a1) (o9.1,0,o9.2.2)).bind fun o21 =>
 some (o21.2.2,o21.1,()))
def Ks:Hints:=(n0 (n0 (n0 (n0 (nd (n0 (nd (.node none (some ⟨[.tmpO 7 0 (.slice aq),.tmp 8 (.int .i64),.boxO 6 0 1 ac],[some 0],none,[]⟩) (n0 (nd (nd (n0 (cu ⟨[.tmpO 7 1 (.slice aq),.boxO 6 0 3 ac],[none],none,[(6,0),(7,0),(6,1),(6,2)]⟩)) .none) .none)) .none) .none)) (nd (n0 (nd (.node none (some ⟨[.tmpO 7 1 (.slice aq),.tmp 11 (.int .i64),.boxO 6 0 3 ac],[some 2],none,[]⟩) (n0 (nd (cu ⟨[.tmpO 7 2 (.slice aq),.boxO 6 0 5 ac],[none],none,[(7,1),(6,0),(6,3),(6,4)]⟩) .none)) .none) .none)) .none))))))
def qT:Ct:=.pure false true (.pair ac (.pair (.slice ae) .unit)) (.pair ac (.pair (.slice aq) .unit)) (fun x=>ui x.1 x.2.1)
theorem zg:KC 225 qT:=pq (Ec dM (Ec bZ (Ec AF (Ec AG (Ec fN En))))) Ks Tryz.func225
def rj (a0:ai.D):Option Int :=
(eL a0.2.2.2.2.2.2.1 a0.2.2.2.2.2.2.2.2.1).bind fun y1 =>
(jw y1 a0.2.2.2.2.2.2.2.2.2.1).bind fun y2 =>
 some y2
def IL:Ct:=.pure true false (.pair ai .unit) (.int .i64) (fun x=>rj x.1)
theorem GK:KC 384 IL:=pq (Ec ri (Ec rh En)) .none Tryz.func384
def pQ (a0:ai.D):Option Bool :=
 bif (a0.2.2.2.1 != 2) then (
 some false)
 else (
(rj a0).bind fun y1 =>
 bif decide (y1≤0) then (
 some true)
 else (
(cC a0 8).bind fun y2 =>
 bif (!y2) then (
 bif a0.2.2.2.2.2.2.2.2.2.2.2.1 then (
 some true)
 else (
 some (decide (a0.2.2.2.2.2.2.2.2.2.2.1≥y1))))
 else (
 some false)))
def Kt:Ct:=.pure true false (.pair ai .unit) .bool (fun x=>pQ x.1)
theorem IM:KC 360 Kt:=pq (Ec oz (Ec GK En)) .none Tryz.func360
def ka (a0:ac.D):((List aq.D)×(Int×((List ai.D)×((List ay.D)×(Int×(Int×Unit))))))→Option (((List aq.D)×(Int×((List ai.D)×((List ay.D)×(Int×(Int×Unit))))))⊕((List aq.D)×(Int×((List ai.D)×((List ay.D)×(Int×(Int×Unit))))))):=fun s4 =>
 bif decide (s4.2.1 < (a0.2.1.length:Int)) then (
 idx a0.2.1 s4.2.1 fun x5 =>
((bif (!x5.2.2.1) then (
 bif decide (x5.1≤0) then (
 some true)
 else (
 some (decide (x5.2.1≥10))))
 else (
 some false)):Option Bool).bind fun o6 =>
((bif o6 then (
 idx s4.2.2.2.1 s4.2.1 fun _ =>
(s4.2.2.2.1[(s4.2.1:Int).toNat]?).bind fun x7 =>
 let u8:(List ay.D):=s4.2.2.2.1.set (s4.2.1:Int).toNat (x7.1,x7.2.1,true,())
 if (s4.1.length + ([(5,(0,0,0,0,0,0,false,()),0,s4.2.1,(0,0,0,0,0,0,0,0,0,0,0,false,false,()),())]:List aq.D).length) * (24 * 23)≤aG then (
 some ((s4.1++([(5,(0,0,0,0,0,0,false,()),0,s4.2.1,(0,0,0,0,0,0,0,0,0,0,0,false,false,()),())]:List aq.D)),s4.2.2.1,u8,s4.2.2.2.2)) else none)
 else (
 some (s4.1,s4.2.2))):Option ((List aq.D)×((List ai.D)×((List ay.D)×(Int×(Int×Unit)))))).bind fun o9 =>
 some (.inl (o9.1,IntKind.wrap .i64 (s4.2.1 + 1),o9.2)))
 else (
 some (.inr s4))
def kb (a0:ac.D):((List aq.D)×(Int×((List ai.D)×((List ay.D)×(Int×(Int×Unit))))))→Option (((List aq.D)×(Int×((List ai.D)×((List ay.D)×(Int×(Int×Unit))))))⊕((List aq.D)×(Int×((List ai.D)×((List ay.D)×(Int×(Int×Unit))))))):=fun s12 =>
 bif decide (s12.2.1 < (a0.1.length:Int)) then (
((idx a0.1 s12.2.1 fun x13 =>
(pQ x13).bind fun y14 =>
 bif y14 then (
(sD x13 3 a0.2.2.2.1).bind fun y15 =>
 idx s12.2.2.1 s12.2.1 fun _ =>
(s12.2.2.1[(s12.2.1:Int).toNat]?).bind fun x16 =>
 let u17:(List ai.D):=s12.2.2.1.set (s12.2.1:Int).toNat y15
 if (s12.1.length + ([(6,(0,0,0,0,0,0,false,()),0,0,x13,())]:List aq.D).length) * (24 * 23)≤aG then (
 some ((s12.1++([(6,(0,0,0,0,0,0,false,()),0,0,x13,())]:List aq.D)),u17,s12.2.2.2)) else none)
 else (
(fx x13.2.2.2.2.2.2.2.2.1 x13.2.2.2.2.2.2.2.2.2.1).bind fun y18 =>
((bif (x13.2.2.2.1 == 2) then (
 some (decide (y18 > 0)))
 else (
 some false)):Option Bool).bind fun o19 =>
((bif o19 then (
 idx s12.2.2.1 s12.2.1 fun _ =>
(s12.2.2.1[(s12.2.1:Int).toNat]?).bind fun x20 =>
 let u21:(List ai.D):=s12.2.2.1.set (s12.2.1:Int).toNat (x20.1,x20.2.1,x20.2.2.1,x20.2.2.2.1,x20.2.2.2.2.1,x20.2.2.2.2.2.1,x20.2.2.2.2.2.2.1,x20.2.2.2.2.2.2.2.1,IntKind.wrap .i64 (x13.2.2.2.2.2.2.2.2.1 - y18),x20.2.2.2.2.2.2.2.2.2)
 idx u21 s12.2.1 fun _ =>
(u21[(s12.2.1:Int).toNat]?).bind fun x22 =>
 let u23:(List ai.D):=u21.set (s12.2.1:Int).toNat (x22.1,x22.2.1,x22.2.2.1,x22.2.2.2.1,x22.2.2.2.2.1,x22.2.2.2.2.2.1,x22.2.2.2.2.2.2.1,x22.2.2.2.2.2.2.2.1,x22.2.2.2.2.2.2.2.2.1,IntKind.wrap .i64 (x13.2.2.2.2.2.2.2.2.2.1 - y18),x22.2.2.2.2.2.2.2.2.2.2)
 if (s12.1.length + ([(7,(0,0,0,0,0,0,false,()),y18,0,x13,())]:List aq.D).length) * (24 * 23)≤aG then (
 some ((s12.1++([(7,(0,0,0,0,0,0,false,()),y18,0,x13,())]:List aq.D)),u23,s12.2.2.2)) else none)
 else (
 some (s12.1,s12.2.2))):Option ((List aq.D)×((List ai.D)×((List ay.D)×(Int×(Int×Unit)))))).bind fun o24 =>
 some o24)):Option ((List aq.D)×((List ai.D)×((List ay.D)×(Int×(Int×Unit)))))).bind fun o25 =>
 some (.inl (o25.1,IntKind.wrap .i64 (s12.2.1 + 1),o25.2)))
 else (
 some (.inr s12))
def wD (a0:ac.D):Option (ac.D×((List aq.D)×Unit)) :=
(eH a0).bind fun y1 =>
(dA a0).bind fun y2 =>
 bif (!y2) then (
 some (y1,[],()))
 else (
(aw (ka a0) ([],0,y1)).bind fun o10 =>
(aw (kb a0) (o10.1,0,o10.2.2)).bind fun o26 =>
 some (o26.2.2,o26.1,()))
def MJ:Hints:=(n0 (n0 (n0 (n0 (nd (n0 (nd (.node none (some ⟨[.tmpO 5 0 (.slice aq),.tmp 6 (.int .i64),.boxO 4 0 1 ac],[some 0],none,[]⟩) (n0 (nd (nd (n0 (nd (cu ⟨[.tmp 43 .bool],[none],none,[]⟩) (cu ⟨[.tmpO 5 1 (.slice aq),.boxO 4 0 3 ac],[none],none,[(4,2),(4,0),(5,0),(4,1)]⟩))) .none) .none)) .none) .none)) (nd (n0 (nd (.node none (some ⟨[.tmpO 5 1 (.slice aq),.tmp 8 (.int .i64),.boxO 4 0 3 ac],[some 2],none,[]⟩) (n0 (nd (.node (some ⟨[.tmpO 5 2 (.slice aq),.boxO 4 0 5 ac],[none],none,[(4,3),(4,0),(5,1),(4,4)]⟩) none (n0 (n0 (n0 (nd (cu ⟨[.tmp 92 .bool],[none],none,[]⟩) (cu ⟨[.tmpO 5 2 (.slice aq),.boxO 4 0 5 ac],[none],none,[(4,3),(4,0),(5,1),(4,4)]⟩))))) .none) .none)) .none) .none)) .none))))))
def B6:Ct:=.pure false true (.pair ac .unit) (.pair ac (.pair (.slice aq) .unit)) (fun x=>wD x.1)
theorem AH:KC 322 B6:=pq (Ec dM (Ec bZ (Ec ib (Ec Bs (Ec IM En))))) MJ Tryz.func322
def mI:((List aq.D)×(Int×(ac.D×((List ai.D)×((List ay.D)×(Int×(Int×Unit)))))))→Option (((List aq.D)×(Int×(ac.D×((List ai.D)×((List ay.D)×(Int×(Int×Unit)))))))⊕((List aq.D)×(Int×((List ai.D)×((List ay.D)×(Int×(Int×Unit))))))):=fun s4 =>
(wD s4.2.2.2).bind fun y5 =>
 bif ((y5.2.1.length:Int) == 0) then (
 some (.inr (s4.1,s4.2.1,s4.2.2.2)))
 else (
 if (s4.1.length + y5.2.1.length) * (24 * 23)≤aG then (
 some (.inl ((s4.1++y5.2.1),IntKind.wrap .i64 (s4.2.1 + 1),s4.2.2.1,y5.1))) else none)
def pR (a0:ac.D):Option (ac.D×((List aq.D)×(Int×Unit))) :=
(eH a0).bind fun y1 =>
(aw (mI) ([],0,([],[],0,0,()),y1)).bind fun o6 =>
 some (o6.2.2,o6.1,o6.2.1,())
def Ku:Hints:=(n0 (n0 (n0 (n0 (nd (.node none (some ⟨[.tmpO 6 0 (.slice aq),.tmp 7 (.int .i64),.boxO 2 0 1 ac,.boxO 5 0 1 ac],[],some [.tmpO 3 0 (.slice aq),.tmp 4 (.int .i64),.boxO 2 0 1 ac],[]⟩) .none .none) .none)))))
def qU:Ct:=.pure false true (.pair ac .unit) (.pair ac (.pair (.slice aq) (.pair (.int .i64) .unit))) (fun x=>pR x.1)
theorem zh:KC 226 qU:=pq (Ec bZ (Ec AH En)) Ku Tryz.func226
def rk (a0:aq.D):Option Bool :=
 bif (a0.1 == 6) then (
 some true)
 else (
 bif (a0.1 == 3) then (
 bif (a0.2.2.2.2.1.2.2.2.1 == 2) then (
 some (a0.2.1.2.2.2.2.2.1 != 2))
 else (
 some false))
 else (
 some false))
def IN:Ct:=.pure true false (.pair aq .unit) .bool (fun x=>rk x.1)
theorem GL:KC 325 IN:=pq En .none Tryz.func325
def wE (a0:ac.D) (a1:(List aq.D)):((List ah.D)×Int)→Option (((List ah.D)×Int)⊕((List ah.D)×Int)):=fun s1 =>
 bif decide (s1.2 < (a1.length:Int)) then (
 idx a1 s1.2 fun x2 =>
(((rk x2).bind fun y3 =>
 bif y3 then (
(cC x2.2.2.2.2.1 16).bind fun y4 =>
 some y4)
 else (
 some false)):Option Bool).bind fun o5 =>
((bif o5 then (
 if (s1.1.length + ([(1,x2.2.2.2.2.1.2.2.1,0,x2.2.2.2.2)]:List ah.D).length) * (24 * 16)≤aG then (
 some (s1.1++([(1,x2.2.2.2.2.1.2.2.1,0,x2.2.2.2.2)]:List ah.D))) else none)
 else (
 some s1.1)):Option (List ah.D)).bind fun o6 =>
((bif (x2.1 == 1) then (
 some (decide (x2.2.2.1≥1)))
 else (
 some false)):Option Bool).bind fun o7 =>
((bif o7 then (
(gY a0 x2.2.1).bind fun y8 =>
(cC y8 32).bind fun y9 =>
((bif y9 then (
 if (o6.length + ([(2,y8.2.2.1,x2.2.2.1,y8,())]:List ah.D).length) * (24 * 16)≤aG then (
 some (o6++([(2,y8.2.2.1,x2.2.2.1,y8,())]:List ah.D))) else none)
 else (
 some o6)):Option (List ah.D)).bind fun o10 =>
 some o10)
 else (
 some o6)):Option (List ah.D)).bind fun o11 =>
 some (.inl (o11,IntKind.wrap .i64 (s1.2 + 1))))
 else (
 some (.inr s1))
def vI (a0:ac.D) (a1:(List aq.D)):Option (List ah.D) :=
(aw (wE a0 a1) ([],0)).bind fun o12 =>
 some o12.1
def Ou:Hints:=(n0 (n0 (nd (n0 (nd (.node none (some ⟨[.tmpO 5 0 (.slice ah),.tmp 6 (.int .i64)],[some 0],none,[]⟩) (n0 (nd (nd (n0 (nd (nd (cu ⟨[.tmp 26 .bool],[none],none,[]⟩) (cu ⟨[.tmpO 5 1 (.slice ah)],[none],none,[(5,0)]⟩)) (nd (cu ⟨[.tmp 43 .bool],[none],none,[]⟩) (.node (some ⟨[.tmpO 5 2 (.slice ah)],[none],none,[(5,1)]⟩) none (n0 (n0 (cu ⟨[.tmpO 5 2 (.slice ah)],[none],none,[(5,1)]⟩))) .none)))) .none) .none)) .none) .none)) .none)))
def uj:Ct:=.pure true true (.pair ac (.pair (.slice aq) .unit)) (.slice ah) (fun x=>vI x.1 x.2.1)
theorem B7:KC 228 uj:=pq (Ec GL (Ec oz (Ec sw En))) Ou Tryz.func228
def iM (a0:ac.D):((List Int)×Int)→Option (((List Int)×Int)⊕((List Int)×Int)):=fun s1 =>
((bif decide (s1.2 < (a0.2.1.length:Int)) then (
(aM a0.2.2.1 0 (IntKind.wrap .i64 ((a0.2.1.length:Int) - 1))).bind fun y2 =>
 some y2)
 else (
 some false)):Option Bool).bind fun o3 =>
 bif o3 then (
 if (a0.2.1.length:Int)=0 then none else (
 let k4:Int:=(IntKind.wrap .i64 (a0.2.2.1 + s1.2)).tmod (a0.2.1.length:Int)
 if (s1.1.length + [k4].length) * (24 * 1)≤aG then (
 some (.inl ((s1.1++[k4]),IntKind.wrap .i64 (s1.2 + 1)))) else none))
 else (
 some (.inr s1))
def gJ (a0:ac.D):Option (List Int) :=
(aw (iM a0) ([],0)).bind fun o5 =>
 some o5.1
def E3:Hints:=(n0 (n0 (nd (n0 (nd (.node none (some ⟨[.tmpO 3 0 (.slice (.int .i64)),.tmp 4 (.int .i64)],[some 0],none,[]⟩) (nd (nd (cu ⟨[.tmp 19 .bool],[none],none,[]⟩) .none) .none) .none) .none)) .none)))
def mJ:Ct:=.pure true true (.pair ac .unit) (.slice (.int .i64)) (fun x=>gJ x.1)
theorem lM:KC 101 mJ:=pq (Ec cj En) E3 Tryz.func101
def lr (a0:(List ah.D)) (a1:Int):((List ah.D)×Int)→Option (((List ah.D)×Int)⊕((List ah.D)×Int)):=fun s1 =>
 bif decide (s1.2 < (a0.length:Int)) then (
 idx a0 s1.2 fun x2 =>
((bif (x2.2.1 == a1) then (
 idx a0 s1.2 fun x3 =>
 if (s1.1.length + [x3].length) * (24 * 16)≤aG then (
 some (s1.1++[x3])) else none)
 else (
 some s1.1)):Option (List ah.D)).bind fun o4 =>
 some (.inl (o4,IntKind.wrap .i64 (s1.2 + 1))))
 else (
 some (.inr s1))
def kM (a0:(List ah.D)) (a1:Int):Option (List ah.D) :=
(aw (lr a0 a1) ([],0)).bind fun o5 =>
 some o5.1
def Dy:Hints:=(n0 (n0 (nd (n0 (nd (.node none (some ⟨[.tmpO 5 0 (.slice ah),.tmp 6 (.int .i64)],[some 0],none,[]⟩) (n0 (nd (nd (n0 (cu ⟨[.tmpO 5 1 (.slice ah)],[none],none,[(5,0)]⟩)) .none) .none)) .none) .none)) .none)))
def vJ:Ct:=.pure true true (.pair (.slice ah) (.pair (.int .i64) .unit)) (.slice ah) (fun x=>kM x.1 x.2.1)
theorem uV:KC 323 vJ:=pq En Dy Tryz.func323
def kN:((List ah.D)×((List Int)×(List ah.D)))→Option (((List ah.D)×((List Int)×(List ah.D)))⊕((List ah.D)×((List Int)×(List ah.D)))):=fun s5 =>
 bif decide ((s5.2.2.length:Int) > 0) then (
(vF s5.2.1 (s5.2.2.length:Int)).bind fun y6 =>
 idx s5.2.2 y6.1 fun _ =>
(s5.2.2[(y6.1:Int).toNat]?).bind fun x7 =>
 if (s5.1.length + [x7].length) * (24 * 16)≤aG then (
 if 0≤(0:Int) then (if (0:Int)≤y6.1 then (if y6.1≤(s5.2.2.length:Int) then (
 if (([]:List ah.D).length + ((s5.2.2.take (y6.1.toNat)).drop ((0:Int).toNat)).length) * (24 * 16)≤aG then (
 if 0≤(IntKind.wrap .i64 (y6.1 + 1)) then (if (IntKind.wrap .i64 (y6.1 + 1))≤(s5.2.2.length:Int) then (if (s5.2.2.length:Int)≤(s5.2.2.length:Int) then (
 if (([]++((s5.2.2.take (y6.1.toNat)).drop ((0:Int).toNat))).length + ((s5.2.2.take ((s5.2.2.length:Int).toNat)).drop ((IntKind.wrap .i64 (y6.1 + 1)).toNat)).length) * (24 * 16)≤aG then (
 some (.inl ((s5.1++[x7]),y6.2.1,(([]++((s5.2.2.take (y6.1.toNat)).drop ((0:Int).toNat)))++((s5.2.2.take ((s5.2.2.length:Int).toNat)).drop ((IntKind.wrap .i64 (y6.1 + 1)).toNat)))))) else none) else none) else none) else none) else none) else none) else none) else none) else none)
 else (
 some (.inr s5))
def kO (a1:(List ah.D)) (y1:(List Int)):((List ah.D)×((List Int)×Int))→Option (((List ah.D)×((List Int)×Int))⊕((List ah.D)×((List Int)×Int))):=fun s2 =>
 bif decide (s2.2.2 < (y1.length:Int)) then (
 idx y1 s2.2.2 fun _ =>
(y1[(s2.2.2:Int).toNat]?).bind fun x3 =>
(kM a1 x3).bind fun y4 =>
(aw (kN) (s2.1,s2.2.1,y4)).bind fun o8 =>
 some (.inl (o8.1,o8.2.1,IntKind.wrap .i64 (s2.2.2 + 1))))
 else (
 some (.inr s2))
def iv (a1:(List ah.D)) (y1:(List Int)):((List ah.D)×Int)→Option (((List ah.D)×Int)⊕((List ah.D)×Int)):=fun s10 =>
 bif decide (s10.2 < (a1.length:Int)) then (
 idx a1 s10.2 fun x11 =>
(vD y1 x11.2.1).bind fun y12 =>
((bif (!y12) then (
 idx a1 s10.2 fun x13 =>
 if (s10.1.length + [x13].length) * (24 * 16)≤aG then (
 some (s10.1++[x13])) else none)
 else (
 some s10.1)):Option (List ah.D)).bind fun o14 =>
 some (.inl (o14,IntKind.wrap .i64 (s10.2 + 1))))
 else (
 some (.inr s10))
def mK (a0:ac.D) (a1:(List ah.D)) (a2:(List Int)):Option ((List ah.D)×((List Int)×Unit)) :=
 if (([]:List Int).length + a2.length) * (24 * 1)≤aG then (
(gJ a0).bind fun y1 =>
(aw (kO a1 y1) ([],([]++a2),0)).bind fun o9 =>
(aw (iv a1 y1) (o9.1,0)).bind fun o15 =>
 some (o15.1,o9.2.1,())) else none
def IOq:Hints:=(n0 (n0 (n0 (n0 (nd (n0 (nd (.node none (some ⟨[.tmpO 8 0 (.slice ah),.tmpO 9 0 (.slice (.int .i64)),.tmp 11 (.int .i64)],[some 0],none,[]⟩) (n0 (nd (nd (n0 (nd (.node none (some ⟨[.tmpO 8 1 (.slice ah),.tmpO 9 1 (.slice (.int .i64)),.tmpO 12 0 (.slice ah)],[some 2],none,[]⟩) .none .none) .none)) .none) .none)) .none) .none)) (nd (n0 (nd (.node none (some ⟨[.tmpO 8 1 (.slice ah),.tmp 15 (.int .i64)],[some 4],none,[]⟩) (n0 (nd (nd (n0 (cu ⟨[.tmpO 8 2 (.slice ah)],[none],none,[(8,1)]⟩)) .none) .none)) .none) .none)) .none))))))
def pS:Ct:=.pure false true (.pair ac (.pair (.slice ah) (.pair (.slice (.int .i64)) .unit))) (.pair (.slice ah) (.pair (.slice (.int .i64)) .unit)) (fun x=>mK x.1 x.2.1 x.2.2.1)
theorem xZ:KC 227 pS:=pq (Ec lM (Ec sy (Ec uV (Ec zc En)))) IOq Tryz.func227
def sE (a0:(List aa.D)) (a1:Int):((List aa.D)×Int)→Option (((List aa.D)×Int)⊕((List aa.D)×Int)):=fun s1 =>
 bif decide (s1.2 < (a0.length:Int)) then (
 idx a0 s1.2 fun x2 =>
(ou x2 a1).bind fun y3 =>
((bif y3 then (
 idx a0 s1.2 fun x4 =>
(ew x4).bind fun y5 =>
 if (s1.1.length + [y5].length) * (24 * 22)≤aG then (
 some (s1.1++[y5])) else none)
 else (
 some s1.1)):Option (List aa.D)).bind fun o6 =>
 some (.inl (o6,IntKind.wrap .i64 (s1.2 + 1))))
 else (
 some (.inr s1))
def pT (a0:(List aa.D)) (a1:Int):Option (List aa.D) :=
(aw (sE a0 a1) ([],0)).bind fun o7 =>
 some o7.1
def Kv:Hints:=(n0 (n0 (nd (n0 (nd (.node none (some ⟨[.tmpO 5 0 (.slice aa),.tmp 6 (.int .i64)],[some 0],none,[]⟩) (n0 (nd (nd (n0 (cu ⟨[.tmpO 5 1 (.slice aa)],[none],none,[(5,0)]⟩)) .none) .none)) .none) .none)) .none)))
def jQ:Ct:=.pure true true (.pair (.slice aa) (.pair (.int .i64) .unit)) (.slice aa) (fun x=>pT x.1 x.2.1)
theorem pU:KC 102 jQ:=pq (Ec cU (Ec Bp En)) Kv Tryz.func102
def po (x:aC.D) (a0:(List ae.D)):Option (Unit×aC.D) :=
(kL x.1 x.2.1 a0 x.2.2.1).bind fun y1 =>
(ui x.1 y1.1).bind fun y2 =>
(pR y2.1).bind fun y3 =>
(vI x.1 y2.2.1).bind fun y4 =>
(mK y3.1 y4 y1.2.2.1).bind fun y5 =>
(vI y2.1 y3.2.1).bind fun y6 =>
(mK y3.1 y6 y5.2.1).bind fun y7 =>
(pT y1.2.1 x.1.2.2.2.1).bind fun y8 =>
 if (x.2.2.2.1.length + y5.1.length) * (24 * 16)≤aG then (
 if ((x.2.2.2.1++y5.1).length + y7.1.length) * (24 * 16)≤aG then (
 if (x.2.2.2.2.1.length + y2.2.1.length) * (24 * 23)≤aG then (
 if ((x.2.2.2.2.1++y2.2.1).length + y3.2.1.length) * (24 * 23)≤aG then (
 if (x.2.2.2.2.2.1.length + y1.2.2.2.1.length) * (24 * 14)≤aG then (
 some ((),(y3.1,y8,y7.2.1,((x.2.2.2.1++y5.1)++y7.1),((x.2.2.2.2.1++y2.2.1)++y3.2.1),(x.2.2.2.2.2.1++y1.2.2.2.1),()))) else none) else none) else none) else none) else none
def xG:Ct:=.run aC [] false false false (.pair (.slice ae) .unit) .unit (fun x y=>po x y.1)
theorem E4:cI Tryz.prog 100 xG:=Mm (E:={ T:=tab,G:=[(63,lK),(102,jQ),(225,qT),(226,qU),(227,pS),(228,uj)] }) (ar.cons uU (ar.cons pU (ar.cons zg (ar.cons zh (ar.cons xZ (ar.cons B7 (ar.nil dL))))))) mixed (fn:=Tryz.f100) _ _ _ _ _ _ _ _ .none Tryz.func100 (by kernel_rfl) (fun x y=>by kernel_rfl)
def jx (a0:aC.D) (a1:bi.D):Option (aC.D×(Bool×Unit)) :=
(ia a0).bind fun y1 =>
(pN a0).bind fun y2 =>
 bif (!y2) then (
 some (y1,false,()))
 else (
 bif (a1.1 == 1) then (
(rf a0.2.1 a1.2.1).bind fun y3 =>
 some ((y1.1,y3.1,y1.2.2),y3.2))
 else (
 bif (a1.1 == 2) then (
(Aj a0.2.1 a1.2.2.1).bind fun y4 =>
 some ((y1.1,y4.1,y1.2.2),y4.2))
 else (
 bif (a1.1 == 3) then (
(mE a1.2.2.2.1).bind fun y5 =>
 bif (!y5) then (
 some (y1,false,()))
 else (
(po y1 a1.2.2.2.1).bind fun y6 =>
 some (y6.2,true,())))
 else (
 bif (a1.1 == 4) then (
 bif (a0.1.2.2.2.1 == 9999) then (
 some (y1,false,()))
 else (
(gJ a0.1).bind fun y7 =>
 idx y7 1 fun _ =>
(y7[(1:Int).toNat]?).bind fun x8 =>
(pT a0.2.1 (IntKind.wrap .i64 (a0.1.2.2.2.1 + 1))).bind fun y9 =>
 some (((y1.1.1,y1.1.2.1,x8,IntKind.wrap .i64 (a0.1.2.2.2.1 + 1),()),y9,y1.2.2),true,())))
 else (
 some (y1,false,()))))))
def IP:Hints:=(n0 (n0 (n0 (nd (n0 (nd (n0 (n0 (n0 (n0 (n0 (nd (n0 (nd (.node none (some ⟨[],[some 2],none,[]⟩) .none .none) .none)) .none)))))) .none)) .none))))
def pV:Ct:=.pure false true (.pair aC (.pair bi .unit)) (.pair aC (.pair .bool .unit)) (fun x=>jx x.1 x.2.1)
theorem iK:cI Tryz.prog 13 pV:=wv (E:={ T:=tab,G:=[(100,xG),(18,Bq),(78,za),(97,pL),(98,pO),(99,ub),(101,mJ),(102,jQ)],Z:=true }) (ar.frz (ar.cons E4 (ar.cons yZ (ar.cons xE (ar.cons iJ (ar.cons xW (ar.cons BW (ar.cons lM (ar.cons pU (ar.nil dL)))))))))) mixed (fn:=Tryz.f13) _ _ _ _ _ IP Tryz.func13 (by kernel_rfl) (fun x=>by kernel_rfl)
def uk:((List bi.D)×(Int×(aj.D×(ac.D×((List aa.D)×((List Int)×((List ah.D)×((List aq.D)×((List aA.D)×Unit)))))))))→Option (((List bi.D)×(Int×(aj.D×(ac.D×((List aa.D)×((List Int)×((List ah.D)×((List aq.D)×((List aA.D)×Unit)))))))))⊕((List bi.D)×(Int×(aj.D×(ac.D×((List aa.D)×((List Int)×((List ah.D)×((List aq.D)×((List aA.D)×Unit)))))))))):=fun s4 =>
 bif decide (s4.2.1 > 0) then (
(j8 s4.2.2.1 s4.2.2.2).bind fun y5 =>
(jx s4.2.2.2 y5.1).bind fun y6 =>
 if (s4.1.length + [y5.1].length) * (24 * 25)≤aG then (
 some (.inl ((s4.1++[y5.1]),IntKind.wrap .i64 (s4.2.1 - 1),y5.2.1,y6.1))) else none)
 else (
 some (.inr s4))
def mL (a0:aj.D) (a1:aC.D) (a2:Int):Option ((List bi.D)×(aj.D×Unit)) :=
(aI a0 a2).bind fun y1 =>
(aw (uk) ([],IntKind.wrap .i64 (1 + y1.1),y1.2.1,a1)).bind fun o7 =>
 some (o7.1,(o7.2.2.1,()))
def E5:Hints:=(n0 (n0 (nd (n0 (nd (.node none (some ⟨[.tmpO 7 0 (.slice bi),.tmp 8 (.int .i64),.box 0 0 aj,.box 4 0 aC],[some 0],none,[]⟩) (n0 (nd (nd (n0 (n0 (nd (cu ⟨[],[],none,[(25,0),(25,1),(25,2),(25,3),(25,4),(25,5),(25,6)]⟩) .none))) .none) .none)) .none) .none)) .none)))
def mM:Ct:=.mut [.ptr,.rd,.rd] true true (.pair aj (.pair aC (.pair (.int .i64) .unit))) (.slice bi) (fun x=>mL x.1 x.2.1 x.2.2.1)
theorem vK:cI Tryz.prog 147 mM:=d8 (E:={ T:=tab,G:=[(13,pV),(87,nV),(88,bd)],Z:=true }) (ar.frz (ar.cons iK (ar.cons mC (ar.cons aO (ar.nil dL))))) mixed (fn:=Tryz.f147) _ _ _ _ _ _ E5 Tryz.func147 (by kernel_rfl) (fun x=>by kernel_rfl)
def mN (a1:(List bi.D)):(Int×(Int×(ac.D×((List aa.D)×((List Int)×((List ah.D)×((List aq.D)×((List aA.D)×Unit))))))))→Option ((Int×(Int×(ac.D×((List aa.D)×((List Int)×((List ah.D)×((List aq.D)×((List aA.D)×Unit))))))))⊕(Int×(Int×(ac.D×((List aa.D)×((List Int)×((List ah.D)×((List aq.D)×((List aA.D)×Unit))))))))):=fun s3 =>
((bif decide (s3.2.1 < (a1.length:Int)) then (
 some (decide (s3.2.1 < 12)))
 else (
 some false)):Option Bool).bind fun o4 =>
 bif o4 then (
 idx a1 s3.2.1 fun x5 =>
(jx s3.2.2 x5).bind fun y6 =>
((bif y6.2.1 then (
 some (IntKind.wrap .i64 (s3.1 + 1)))
 else (
 some s3.1)):Option Int).bind fun o7 =>
 some (.inl (o7,IntKind.wrap .i64 (s3.2.1 + 1),y6.1)))
 else (
 some (.inr s3))
def Al (a0:aC.D) (a1:(List bi.D)):Option (aC.D×(Int×Unit)) :=
(ia a0).bind fun y1 =>
(aw (mN a1) (0,0,y1)).bind fun o8 =>
 some (o8.2.2,o8.1,())
def Ov:Hints:=(n0 (n0 (n0 (nd (n0 (nd (.node none (some ⟨[.tmp 7 (.int .i64),.tmp 8 (.int .i64),.boxO 6 0 1 aC],[some 0],none,[]⟩) (nd (nd (cu ⟨[.tmp 20 .bool],[none],none,[]⟩) .none) (nd (nd (n0 (n0 (n0 (cu ⟨[.tmp 7 (.int .i64)],[none],none,[]⟩)))) .none) .none)) .none) .none)) .none))))
def ul:Ct:=.pure false true (.pair aC (.pair (.slice bi) .unit)) (.pair aC (.pair (.int .i64) .unit)) (fun x=>Al x.1 x.2.1)
theorem B8:KC 33 ul:=pq (Ec iK (Ec iJ En)) Ov Tryz.func33
def wF (a0:aj.D):Option (Int×(aj.D×Unit)) :=
(aF a0 ([(-1),0,1,2,255,256,65535,2147483647,2147483648,4294967295,4294967296,(-2147483648),9223372036854775807,(-9223372036854775808)]:List Int)).bind fun y1 =>
 some (y1.1,y1.2)
def Dz:Ct:=.mut [.ptr] true true (.pair aj .unit) (.int .i64) (fun x=>wF x.1)
theorem Kw:cI Tryz.prog 301 Dz:=d8 (E:={ T:=tab,G:=[(198,bj)],V:=[4] }) (ar.views (ar.cons bg (ar.nil dL))) mixed (fn:=Tryz.f301) _ _ _ _ _ _ .none Tryz.func301 (by kernel_rfl) (fun x=>by kernel_rfl)
def eh (a0:aj.D):Option (Int×(aj.D×Unit)) :=
(bu a0 2).bind fun y1 =>
 bif y1.1 then (
(wF y1.2.1).bind fun y2 =>
 some (y2.1,y2.2))
 else (
(aF y1.2.1 ([(-2147483648),(-2147483647),(-3),(-1),0,1,3,7,2147483647,2147483648]:List Int)).bind fun y3 =>
 some (y3.1,y3.2))
def fV:Ct:=.mut [.ptr] true true (.pair aj .unit) (.int .i64) (fun x=>eh x.1)
theorem gm:cI Tryz.prog 201 fV:=d8 (E:={ T:=tab,G:=[(103,eq),(198,bj),(301,Dz)],V:=[8] }) (ar.views (ar.cons cW (ar.cons bg (ar.cons Kw (ar.nil dL))))) mixed (fn:=Tryz.f201) _ _ _ _ _ _ .none Tryz.func201 (by kernel_rfl) (fun x=>by kernel_rfl)
def sF (a0:aj.D):Option (ai.D×(aj.D×Unit)) :=
(aI a0 9).bind fun y1 =>
(lH y1.2.1 (IntKind.wrap .i64 (1 + y1.1))).bind fun y2 =>
(aI y2.2.1 20).bind fun y3 =>
 bif (y3.1 == 0) then (
(aF y3.2.1 ([0,99,100]:List Int)).bind fun y4 =>
 some ((y4.1,y2.1.2),y4.2))
 else (
 bif (y3.1 == 1) then (
(aF y3.2.1 ([(-1),2,3]:List Int)).bind fun y5 =>
 some ((y2.1.1,y5.1,y2.1.2.2),y5.2))
 else (
 bif (y3.1 == 2) then (
(aF y3.2.1 ([(-1),2,3]:List Int)).bind fun y6 =>
 some ((y2.1.1,y2.1.2.1,y6.1,y2.1.2.2.2),y6.2))
 else (
 bif (y3.1 == 3) then (
(aF y3.2.1 ([0,1,4,5]:List Int)).bind fun y7 =>
 some ((y2.1.1,y2.1.2.1,y2.1.2.2.1,y7.1,y2.1.2.2.2.2),y7.2))
 else (
 bif (y3.1 == 4) then (
(aF y3.2.1 ([(-1),9999,10000]:List Int)).bind fun y8 =>
 some ((y2.1.1,y2.1.2.1,y2.1.2.2.1,y2.1.2.2.2.1,y8.1,y2.1.2.2.2.2.2),y8.2))
 else (
 bif (y3.1 == 5) then (
(aF y3.2.1 ([(-1),999,1000]:List Int)).bind fun y9 =>
 some ((y2.1.1,y2.1.2.1,y2.1.2.2.1,y2.1.2.2.2.1,y2.1.2.2.2.2.1,y9.1,y2.1.2.2.2.2.2.2),y9.2))
 else (
 bif (y3.1 == 6) then (
(aF y3.2.1 ([(-1),999,1000]:List Int)).bind fun y10 =>
 some ((y2.1.1,y2.1.2.1,y2.1.2.2.1,y2.1.2.2.2.1,y2.1.2.2.2.2.1,y2.1.2.2.2.2.2.1,y10.1,y2.1.2.2.2.2.2.2.2),y10.2))
 else (
 bif (y3.1 == 7) then (
(aF y3.2.1 ([(-1),63,64]:List Int)).bind fun y11 =>
 some ((y2.1.1,y2.1.2.1,y2.1.2.2.1,y2.1.2.2.2.1,y2.1.2.2.2.2.1,y2.1.2.2.2.2.2.1,y2.1.2.2.2.2.2.2.1,y11.1,y2.1.2.2.2.2.2.2.2.2),y11.2))
 else (
 bif (y3.1 == 8) then (
(eh y3.2.1).bind fun y12 =>
 some ((y2.1.1,y2.1.2.1,y2.1.2.2.1,y2.1.2.2.2.1,y2.1.2.2.2.2.1,y2.1.2.2.2.2.2.1,y2.1.2.2.2.2.2.2.1,y2.1.2.2.2.2.2.2.2.1,y12.1,y2.1.2.2.2.2.2.2.2.2.2),y12.2))
 else (
 bif (y3.1 == 9) then (
(eh y3.2.1).bind fun y13 =>
 some ((y2.1.1,y2.1.2.1,y2.1.2.2.1,y2.1.2.2.2.1,y2.1.2.2.2.2.1,y2.1.2.2.2.2.2.1,y2.1.2.2.2.2.2.2.1,y2.1.2.2.2.2.2.2.2.1,y2.1.2.2.2.2.2.2.2.2.1,y13.1,y2.1.2.2.2.2.2.2.2.2.2.2),y13.2))
 else (
 bif (y3.1 == 10) then (
(eh y3.2.1).bind fun y14 =>
 some ((y2.1.1,y2.1.2.1,y2.1.2.2.1,y2.1.2.2.2.1,y2.1.2.2.2.2.1,y2.1.2.2.2.2.2.1,y2.1.2.2.2.2.2.2.1,y2.1.2.2.2.2.2.2.2.1,y2.1.2.2.2.2.2.2.2.2.1,y2.1.2.2.2.2.2.2.2.2.2.1,y14.1,y2.1.2.2.2.2.2.2.2.2.2.2.2),y14.2))
 else (
 bif (y3.1 == 11) then (
 some ((y2.1.1,y2.1.2.1,y2.1.2.2.1,y2.1.2.2.2.1,y2.1.2.2.2.2.1,y2.1.2.2.2.2.2.1,y2.1.2.2.2.2.2.2.1,y2.1.2.2.2.2.2.2.2.1,y2.1.2.2.2.2.2.2.2.2.1,y2.1.2.2.2.2.2.2.2.2.2.1,y2.1.2.2.2.2.2.2.2.2.2.2.1,true,y2.1.2.2.2.2.2.2.2.2.2.2.2.2),y3.2))
 else (
 some (y2.1,y3.2)))))))))))))
def DA:Ct:=.mut [.ptr] true true (.pair aj .unit) ai (fun x=>sF x.1)
theorem Kx:cI Tryz.prog 261 DA:=d8 (E:={ T:=tab,G:=[(88,bd),(198,bj),(201,fV),(262,j5)],V:=[14,20,26,32,38,44,50,56] }) (ar.views (ar.cons aO (ar.cons bg (ar.cons gm (ar.cons my (ar.nil dL)))))) mixed (fn:=Tryz.f261) _ _ _ _ _ _ .none Tryz.func261 (by kernel_rfl) (fun x=>by kernel_rfl)
def Bt:(Int×(aj.D×((List ai.D)×((List ay.D)×(Int×(Int×Unit))))))→Option ((Int×(aj.D×((List ai.D)×((List ay.D)×(Int×(Int×Unit))))))⊕(Int×(aj.D×((List ai.D)×((List ay.D)×(Int×(Int×Unit))))))):=fun s15 =>
 bif decide (s15.1 < 46) then (
(lH s15.2.1 s15.1).bind fun y16 =>
 if (s15.2.2.1.length + [y16.1].length) * (24 * 13)≤aG then (
 some (.inl (IntKind.wrap .i64 (s15.1 + 1),y16.2.1,(s15.2.2.1++[y16.1]),s15.2.2.2))) else none)
 else (
 some (.inr s15))
def wG (a0:aj.D):Option (ac.D×(aj.D×Unit)) :=
(lI a0).bind fun y1 =>
(aI y1.2.1 18).bind fun y2 =>
 bif (y2.1 == 0) then (
(aF y2.2.1 ([(-1),2,3]:List Int)).bind fun y3 =>
 some ((y1.1.1,y1.1.2.1,y3.1,y1.1.2.2.2),y3.2))
 else (
 bif (y2.1 == 1) then (
(aF y2.2.1 ([(-1),0,9999,10000]:List Int)).bind fun y4 =>
 some ((y1.1.1,y1.1.2.1,y1.1.2.2.1,y4.1,()),y4.2))
 else (
 bif (y2.1 == 2) then (
(eh y2.2.1).bind fun y5 =>
 if (y1.1.2.1.length + [(y5.1,0,false,())].length) * (24 * 3)≤aG then (
 some ((y1.1.1,(y1.1.2.1++[(y5.1,0,false,())]),y1.1.2.2),y5.2)) else none)
 else (
 bif (y2.1 == 3) then (
(eh y2.2.1).bind fun y6 =>
 idx y1.1.2.1 0 fun _ =>
(y1.1.2.1[(0:Int).toNat]?).bind fun x7 =>
 let u8:(List ay.D):=y1.1.2.1.set (0:Int).toNat (x7.1,y6.1,x7.2.2)
 some ((y1.1.1,u8,y1.1.2.2),y6.2))
 else (
 bif (y2.1 == 4) then (
(sF y2.2.1).bind fun y9 =>
 if (y1.1.1.length + [y9.1].length) * (24 * 13)≤aG then (
 some (((y1.1.1++[y9.1]),y1.1.2),y9.2)) else none)
 else (
 bif (y2.1 == 5) then (
 if 0≤(0:Int) then (if (0:Int)≤(1:Int) then (if (1:Int)≤(y1.1.2.1.length:Int) then (
 some ((y1.1.1,((y1.1.2.1.take ((1:Int).toNat)).drop ((0:Int).toNat)),y1.1.2.2),y2.2)) else none) else none) else none)
 else (
 bif (y2.1 == 6) then (
(sF y2.2.1).bind fun y10 =>
 idx y1.1.1 0 fun _ =>
(y1.1.1[(0:Int).toNat]?).bind fun x11 =>
 let u12:(List ai.D):=y1.1.1.set (0:Int).toNat y10.1
 some ((u12,y1.1.2),y10.2))
 else (
 bif (y2.1 == 7) then (
(aw (Bt) (40,y2.2.1,y1.1)).bind fun o17 =>
 some (o17.2.2,(o17.2.1,())))
 else (
 some (y1.1,y2.2)))))))))
def MK:Hints:=(n0 (n0 (nd (n0 (nd (n0 (n0 (n0 (n0 (n0 (n0 (n0 (n0 (n0 (n0 (n0 (n0 (n0 (n0 (n0 (nd (n0 (nd (.node none (some ⟨[.tmp 4 (.int .i64),.box 0 0 aj,.boxO 3 0 1 ac],[some 1],none,[]⟩) .none .none) .none)) .none)))))))))))))))) .none)) .none)))
def sG:Ct:=.mut [.ptr] true true (.pair aj .unit) ac (fun x=>wG x.1)
theorem AI:cI Tryz.prog 148 sG:=d8 (E:={ T:=tab,G:=[(88,bd),(175,qP),(198,bj),(201,fV),(261,DA),(262,j5)],V:=[12,18] }) (ar.views (ar.cons aO (ar.cons yJ (ar.cons bg (ar.cons gm (ar.cons Kx (ar.cons my (ar.nil dL)))))))) mixed (fn:=Tryz.f148) _ _ _ _ _ _ MK Tryz.func148 (by kernel_rfl) (fun x=>by kernel_rfl)
def wH (a0:aj.D) (a1:ac.D):Option (de.D×(aj.D×Unit)) :=
(pG a0 a1).bind fun y1 =>
(aI y1.2.1 16).bind fun y2 =>
 bif (y2.1 == 0) then (
(aF y2.2.1 ([0,1,2,3,7]:List Int)).bind fun y3 =>
 some ((y3.1,y1.1.2),y3.2))
 else (
 bif (y2.1 == 1) then (
(aF y2.2.1 ([(-1),3]:List Int)).bind fun y4 =>
 some ((y1.1.1,y4.1,y1.1.2.2),y4.2))
 else (
 bif (y2.1 == 2) then (
(aF y2.2.1 ([(-1),1,99,100]:List Int)).bind fun y5 =>
 some ((y1.1.1,y1.1.2.1,y5.1,y1.1.2.2.2),y5.2))
 else (
 bif (y2.1 == 3) then (
(aF y2.2.1 ([(-1),1,63,64]:List Int)).bind fun y6 =>
 some ((y1.1.1,y1.1.2.1,y1.1.2.2.1,y6.1,y1.1.2.2.2.2),y6.2))
 else (
 bif (y2.1 == 4) then (
(aF y2.2.1 ([(-1),1,100]:List Int)).bind fun y7 =>
 some ((y1.1.1,y1.1.2.1,y1.1.2.2.1,y1.1.2.2.2.1,y7.1,y1.1.2.2.2.2.2),y7.2))
 else (
 bif (y2.1 == 5) then (
(eh y2.2.1).bind fun y8 =>
 some ((y1.1.1,y1.1.2.1,y1.1.2.2.1,y1.1.2.2.2.1,y1.1.2.2.2.2.1,y8.1,y1.1.2.2.2.2.2.2),y8.2))
 else (
 bif (y2.1 == 6) then (
(aF y2.2.1 ([(-1),2,5]:List Int)).bind fun y9 =>
 some ((y1.1.1,y1.1.2.1,y1.1.2.2.1,y1.1.2.2.2.1,y1.1.2.2.2.2.1,y1.1.2.2.2.2.2.1,y9.1,()),y9.2))
 else (
 some (y1.1,y2.2))))))))
def DB:Ct:=.mut [.ptr,.rd] true true (.pair aj (.pair ac .unit)) de (fun x=>wH x.1 x.2.1)
theorem Ky:cI Tryz.prog 202 DB:=d8 (E:={ T:=tab,G:=[(88,bd),(198,bj),(201,fV),(298,pe)],V:=[14,20,26,32,38,49] }) (ar.views (ar.cons aO (ar.cons bg (ar.cons gm (ar.cons sk (ar.nil dL)))))) mixed (fn:=Tryz.f202) _ _ _ _ _ _ .none Tryz.func202 (by kernel_rfl) (fun x=>by kernel_rfl)
def wI (a0:aj.D):Option (bP.D×(aj.D×Unit)) :=
(pI a0).bind fun y1 =>
(aI y1.2.1 8).bind fun y2 =>
 bif (y2.1 == 0) then (
(aF y2.2.1 ([(-1),1,2,3,4,5]:List Int)).bind fun y3 =>
 some ((y3.1,y1.1.2),y3.2))
 else (
 bif (y2.1 == 1) then (
(eh y2.2.1).bind fun y4 =>
 some ((y1.1.1,y4.1,()),y4.2))
 else (
 bif (y2.1 == 2) then (
(aF y2.2.1 ([1,8,9,(-1)]:List Int)).bind fun y5 =>
 some ((y1.1.1,y5.1,()),y5.2))
 else (
 some (y1.1,y2.2))))
def DC:Ct:=.mut [.ptr] true true (.pair aj .unit) bP (fun x=>wI x.1)
theorem Kz:cI Tryz.prog 203 DC:=d8 (E:={ T:=tab,G:=[(88,bd),(198,bj),(201,fV),(299,pf)],V:=[11,22] }) (ar.views (ar.cons aO (ar.cons bg (ar.cons gm (ar.cons sl (ar.nil dL)))))) mixed (fn:=Tryz.f203) _ _ _ _ _ _ .none Tryz.func203 (by kernel_rfl) (fun x=>by kernel_rfl)
def oC (a0:aj.D) (a1:ac.D):Option (ae.D×(aj.D×Unit)) :=
(fw a0 a1).bind fun y1 =>
(aI y1.2.1 16).bind fun y2 =>
 bif (y2.1 == 0) then (
(aF y2.2.1 ([0,1,2,3,5,7]:List Int)).bind fun y3 =>
 some ((y3.1,y1.1.2),y3.2))
 else (
 bif (y2.1 == 1) then (
(aF y2.2.1 ([0,1,99,100]:List Int)).bind fun y4 =>
 some ((y1.1.1,y4.1,y1.1.2.2),y4.2))
 else (
 bif (y2.1 == 2) then (
(aF y2.2.1 ([0,99,100,(-1)]:List Int)).bind fun y5 =>
 some ((y1.1.1,y1.1.2.1,y5.1,y1.1.2.2.2),y5.2))
 else (
 bif (y2.1 == 3) then (
(aF y2.2.1 ([(-2),(-1),0,2,3]:List Int)).bind fun y6 =>
 some ((y1.1.1,y1.1.2.1,y1.1.2.2.1,y6.1,y1.1.2.2.2.2),y6.2))
 else (
 bif (y2.1 == 4) then (
(eh y2.2.1).bind fun y7 =>
 some ((y1.1.1,y1.1.2.1,y1.1.2.2.1,y1.1.2.2.2.1,y7.1,y1.1.2.2.2.2.2),y7.2))
 else (
 bif (y2.1 == 5) then (
(aF y2.2.1 ([0,2,4,5]:List Int)).bind fun y8 =>
 some ((y1.1.1,y1.1.2.1,y1.1.2.2.1,y1.1.2.2.2.1,y1.1.2.2.2.2.1,y8.1,y1.1.2.2.2.2.2.2),y8.2))
 else (
 bif (y2.1 == 6) then (
 some ((y1.1.1,y1.1.2.1,y1.1.2.2.1,y1.1.2.2.2.1,y1.1.2.2.2.2.1,y1.1.2.2.2.2.2.1,(!y1.1.2.2.2.2.2.2.1),()),y2.2))
 else (
 some (y1.1,y2.2))))))))
def wJ:Ct:=.mut [.ptr,.rd] true true (.pair aj (.pair ac .unit)) ae (fun x=>oC x.1 x.2.1)
theorem uW:cI Tryz.prog 89 wJ:=d8 (E:={ T:=tab,G:=[(88,bd),(178,pg),(198,bj),(201,fV)],V:=[14,20,26,32,43] }) (ar.views (ar.cons aO (ar.cons mA (ar.cons bg (ar.cons gm (ar.nil dL)))))) mixed (fn:=Tryz.f89) _ _ _ _ _ _ .none Tryz.func89 (by kernel_rfl) (fun x=>by kernel_rfl)
def wK (a0:aj.D) (a1:ac.D):Option (bM.D×(aj.D×Unit)) :=
(aI a0 6).bind fun y1 =>
(pJ y1.2.1 a1 (IntKind.wrap .i64 (1 + y1.1))).bind fun y2 =>
(aI y2.2.1 18).bind fun y3 =>
 bif (y3.1 == 0) then (
(aF y3.2.1 ([0,1,3,6,7,8,9,10]:List Int)).bind fun y4 =>
 some ((y4.1,y2.1.2),y4.2))
 else (
 bif (y3.1 == 1) then (
(eh y3.2.1).bind fun y5 =>
 some ((y2.1.1,y5.1,y2.1.2.2),y5.2))
 else (
 bif (y3.1 == 2) then (
(aF y3.2.1 ([0,1,99,100]:List Int)).bind fun y6 =>
 some ((y2.1.1,y2.1.2.1,y6.1,y2.1.2.2.2),y6.2))
 else (
 bif (y3.1 == 3) then (
(aF y3.2.1 ([(-2),0,2,3]:List Int)).bind fun y7 =>
 some ((y2.1.1,y2.1.2.1,y2.1.2.2.1,y7.1,y2.1.2.2.2.2),y7.2))
 else (
 bif (y3.1 == 4) then (
(aF y3.2.1 ([0,4,5]:List Int)).bind fun y8 =>
 some ((y2.1.1,y2.1.2.1,y2.1.2.2.1,y2.1.2.2.2.1,y8.1,y2.1.2.2.2.2.2),y8.2))
 else (
 bif (y3.1 == 5) then (
 some ((y2.1.1,y2.1.2.1,y2.1.2.2.1,y2.1.2.2.2.1,y2.1.2.2.2.2.1,(!y2.1.2.2.2.2.2.1),y2.1.2.2.2.2.2.2),y3.2))
 else (
 bif (y3.1 == 6) then (
(oC y3.2.1 a1).bind fun y9 =>
 if (y2.1.2.2.2.2.2.2.1.length + [y9.1].length) * (24 * 7)≤aG then (
 some ((y2.1.1,y2.1.2.1,y2.1.2.2.1,y2.1.2.2.2.1,y2.1.2.2.2.2.1,y2.1.2.2.2.2.2.1,(y2.1.2.2.2.2.2.2.1++[y9.1]),()),y9.2)) else none)
 else (
 bif (y3.1 == 7) then (
(fw y3.2.1 a1).bind fun y10 =>
(fw y10.2.1 a1).bind fun y11 =>
(fw y11.2.1 a1).bind fun y12 =>
 if (y2.1.2.2.2.2.2.2.1.length + [y10.1,y11.1,y12.1].length) * (24 * 7)≤aG then (
 some ((y2.1.1,y2.1.2.1,y2.1.2.2.1,y2.1.2.2.2.1,y2.1.2.2.2.2.1,y2.1.2.2.2.2.2.1,(y2.1.2.2.2.2.2.2.1++[y10.1,y11.1,y12.1]),()),y12.2)) else none)
 else (
 some (y2.1,y3.2)))))))))
def sH:Ct:=.mut [.ptr,.rd] true true (.pair aj (.pair ac .unit)) bM (fun x=>wK x.1 x.2.1)
theorem AJ:cI Tryz.prog 204 sH:=d8 (E:={ T:=tab,G:=[(88,bd),(89,wJ),(178,pg),(198,bj),(201,fV),(300,gv)],V:=[17,28,34,40] }) (ar.views (ar.cons aO (ar.cons uW (ar.cons mA (ar.cons bg (ar.cons gm (ar.cons i9 (ar.nil dL)))))))) mixed (fn:=Tryz.f204) _ _ _ _ _ _ .none Tryz.func204 (by kernel_rfl) (fun x=>by kernel_rfl)
def lN (a0:aj.D) (a1:ac.D):Option (aa.D×(aj.D×Unit)) :=
(aI a0 9).bind fun y1 =>
(dz y1.2.1 a1 (IntKind.wrap .i64 (1 + y1.1))).bind fun y2 =>
(aI y2.2.1 20).bind fun y3 =>
 bif (y3.1 == 0) then (
(aF y3.2.1 ([0,99,100]:List Int)).bind fun y4 =>
 some ((y4.1,y2.1.2),y4.2))
 else (
 bif (y3.1 == 1) then (
(aF y3.2.1 ([(-1),2,3]:List Int)).bind fun y5 =>
 some ((y2.1.1,y5.1,y2.1.2.2),y5.2))
 else (
 bif (y3.1 == 2) then (
(aF y3.2.1 ([(-1),0,99,100]:List Int)).bind fun y6 =>
 some ((y2.1.1,y2.1.2.1,y6.1,y2.1.2.2.2),y6.2))
 else (
 bif (y3.1 == 3) then (
(aF y3.2.1 ([(-1),0,5]:List Int)).bind fun y7 =>
 some ((y2.1.1,y2.1.2.1,y2.1.2.2.1,y7.1,y2.1.2.2.2.2),y7.2))
 else (
 bif (y3.1 == 4) then (
(wH y3.2.1 a1).bind fun y8 =>
 some ((y2.1.1,y2.1.2.1,y2.1.2.2.1,y2.1.2.2.2.1,y8.1,y2.1.2.2.2.2.2),y8.2))
 else (
 bif (y3.1 == 5) then (
(wI y3.2.1).bind fun y9 =>
 some ((y2.1.1,y2.1.2.1,y2.1.2.2.1,y2.1.2.2.2.1,y2.1.2.2.2.2.1,y9.1,y2.1.2.2.2.2.2.2),y9.2))
 else (
 bif (y3.1 == 6) then (
(wK y3.2.1 a1).bind fun y10 =>
 some ((y2.1.1,y2.1.2.1,y2.1.2.2.1,y2.1.2.2.2.1,y2.1.2.2.2.2.1,y2.1.2.2.2.2.2.1,y10.1,y2.1.2.2.2.2.2.2.2),y10.2))
 else (
 bif (y3.1 == 7) then (
(aF y3.2.1 ([(-2),0,9999,10000]:List Int)).bind fun y11 =>
 some ((y2.1.1,y2.1.2.1,y2.1.2.2.1,y2.1.2.2.2.1,y2.1.2.2.2.2.1,y2.1.2.2.2.2.2.1,y2.1.2.2.2.2.2.2.1,y11.1,y2.1.2.2.2.2.2.2.2.2),y11.2))
 else (
 bif (y3.1 == 8) then (
(aF y3.2.1 ([(-2),(-1),0,1,2147483648]:List Int)).bind fun y12 =>
 some ((y2.1.1,y2.1.2.1,y2.1.2.2.1,y2.1.2.2.2.1,y2.1.2.2.2.2.1,y2.1.2.2.2.2.2.1,y2.1.2.2.2.2.2.2.1,y2.1.2.2.2.2.2.2.2.1,y12.1,()),y12.2))
 else (
 some (y2.1,y3.2))))))))))
def AK:Ct:=.mut [.ptr,.rd] true true (.pair aj (.pair ac .unit)) aa (fun x=>lN x.1 x.2.1)
theorem pW:cI Tryz.prog 90 AK:=d8 (E:={ T:=tab,G:=[(88,bd),(198,bj),(199,ja),(202,DB),(203,DC),(204,sH)],V:=[17,23,29,35,58,64] }) (ar.views (ar.cons aO (ar.cons bg (ar.cons fG (ar.cons Ky (ar.cons Kz (ar.cons AJ (ar.nil dL)))))))) mixed (fn:=Tryz.f90) _ _ _ _ _ _ .none Tryz.func90 (by kernel_rfl) (fun x=>by kernel_rfl)
def um (a0:aj.D) (a1:ac.D):Option ((List aa.D)×(aj.D×Unit)) :=
(mB a0 a1).bind fun y1 =>
(aI y1.2.1 12).bind fun y2 =>
 bif (y2.1 == 0) then (
(lN y2.2.1 a1).bind fun y3 =>
 if (y1.1.length + [y3.1].length) * (24 * 22)≤aG then (
 some ((y1.1++[y3.1]),y3.2)) else none)
 else (
 bif (y2.1 == 1) then (
(dz y2.2.1 a1 50).bind fun y4 =>
(dz y4.2.1 a1 51).bind fun y5 =>
(dz y5.2.1 a1 52).bind fun y6 =>
 if (y1.1.length + [y4.1,y5.1,y6.1].length) * (24 * 22)≤aG then (
 some ((y1.1++[y4.1,y5.1,y6.1]),y6.2)) else none)
 else (
 bif (y2.1 == 2) then (
 bif decide ((y1.1.length:Int) > 0) then (
(lN y2.2.1 a1).bind fun y7 =>
 idx y1.1 0 fun _ =>
(y1.1[(0:Int).toNat]?).bind fun x8 =>
 let u9:(List aa.D):=y1.1.set (0:Int).toNat y7.1
 some (u9,y7.2))
 else (
 some (y1.1,y2.2)))
 else (
 some (y1.1,y2.2))))
def qV:Ct:=.mut [.ptr,.rd] true true (.pair aj (.pair ac .unit)) (.slice aa) (fun x=>um x.1 x.2.1)
theorem zi:KC 149 qV:=mq (Ec aO (Ec pW (Ec nT (Ec fG En)))) .none Tryz.func149
def rl (a0:aj.D) (a1:ac.D):Option (aA.D×(aj.D×Unit)) :=
(aI a0 5).bind fun y1 =>
(dz y1.2.1 a1 (IntKind.wrap .i64 (1 + y1.1))).bind fun y2 =>
(j7 y2.2.1 a1 [y2.1]).bind fun y3 =>
(ic a1 y3.1).bind fun y4 =>
(aI y3.2.1 3).bind fun y5 =>
(sB y2.1 y3.1).bind fun y6 =>
(aI y5.2.1 (IntKind.wrap .i64 (1 + y5.1))).bind fun y7 =>
(aI y7.2.1 14).bind fun y8 =>
 bif (y8.1 == 0) then (
(aF y8.2.1 ([0,99,100]:List Int)).bind fun y9 =>
 some ((y9.1,y4,y7.1,IntKind.wrap .i64 (1 + y5.1),y3.1,y6.1,y6.2.1,0,()),y9.2))
 else (
 bif (y8.1 == 1) then (
(aF y8.2.1 ([(-1),3]:List Int)).bind fun y10 =>
 some ((y2.1.1,y10.1,y7.1,IntKind.wrap .i64 (1 + y5.1),y3.1,y6.1,y6.2.1,0,()),y10.2))
 else (
 bif (y8.1 == 2) then (
 some ((y2.1.1,y4,IntKind.wrap .i64 (1 + y5.1),IntKind.wrap .i64 (1 + y5.1),y3.1,y6.1,y6.2.1,0,()),y8.2))
 else (
 bif (y8.1 == 3) then (
(aF y8.2.1 ([0,5,6]:List Int)).bind fun y11 =>
 some ((y2.1.1,y4,y7.1,y11.1,y3.1,y6.1,y6.2.1,0,()),y11.2))
 else (
 bif (y8.1 == 4) then (
(oC y8.2.1 a1).bind fun y12 =>
 if (y6.1.length + [y12.1].length) * (24 * 7)≤aG then (
 some ((y2.1.1,y4,y7.1,IntKind.wrap .i64 (1 + y5.1),y3.1,(y6.1++[y12.1]),y6.2.1,0,()),y12.2)) else none)
 else (
 bif (y8.1 == 5) then (
(eh y8.2.1).bind fun y13 =>
 some ((y2.1.1,y4,y7.1,IntKind.wrap .i64 (1 + y5.1),y3.1,y6.1,y13.1,0,()),y13.2))
 else (
 bif (y8.1 == 6) then (
(aF y8.2.1 ([(-1),4,5]:List Int)).bind fun y14 =>
 some ((y2.1.1,y4,y7.1,IntKind.wrap .i64 (1 + y5.1),y3.1,y6.1,y6.2.1,y14.1,()),y14.2))
 else (
 some ((y2.1.1,y4,y7.1,IntKind.wrap .i64 (1 + y5.1),y3.1,y6.1,y6.2.1,0,()),y8.2))))))))
def pX:Ct:=.mut [.ptr,.rd] true true (.pair aj (.pair ac .unit)) aA (fun x=>rl x.1 x.2.1)
theorem ya:cI Tryz.prog 197 pX:=d8 (E:={ T:=tab,G:=[(88,bd),(89,wJ),(198,bj),(199,yO),(201,fV),(268,lq),(270,sC),(286,xC)],V:=[17,48,54,65,86] }) (ar.views (ar.cons aO (ar.cons uW (ar.cons bg (ar.cons Gz (ar.cons gm (ar.cons qR (ar.cons xF (ar.cons vB (ar.nil dL)))))))))) mixed (fn:=Tryz.f197) _ _ _ _ _ _ .none Tryz.func197 (by kernel_rfl) (fun x=>by kernel_rfl)
def lO (a0:aj.D):Option (aC.D×(aj.D×Unit)) :=
(t6 a0).bind fun y1 =>
(mL y1.2.1 y1.1 3).bind fun y2 =>
(Al y1.1 y2.1).bind fun y3 =>
(aI y2.2.1 12).bind fun y4 =>
 bif (y4.1 == 0) then (
(wG y4.2.1).bind fun y5 =>
 some ((y5.1,y3.1.2),y5.2))
 else (
 bif (y4.1 == 1) then (
(um y4.2.1 y3.1.1).bind fun y6 =>
 some ((y3.1.1,y6.1,y3.1.2.2),y6.2))
 else (
 bif (y4.1 == 2) then (
(rl y4.2.1 y3.1.1).bind fun y7 =>
 if (y3.1.2.2.2.2.2.1.length + [y7.1].length) * (24 * 14)≤aG then (
 some ((y3.1.1,y3.1.2.1,y3.1.2.2.1,y3.1.2.2.2.1,y3.1.2.2.2.2.1,(y3.1.2.2.2.2.2.1++[y7.1]),()),y7.2)) else none)
 else (
 bif (y4.1 == 3) then (
 some (((y3.1.1.1,y3.1.1.2.1,y3.1.1.2.2.1,9999,()),y3.1.2),y4.2))
 else (
 some (y3.1,y4.2)))))
def KA:Hints:=(n0 (n0 (nd (nd (cu ⟨[],[],none,[(5,0),(5,1),(5,2),(5,3),(5,4),(5,5),(5,6)]⟩) .none) (nd (nd (nd (cu ⟨[],[],none,[(11,0),(11,1)]⟩) .none) .none) .none))))
def KB:Ct:=.mut [.ptr] true false (.pair aj .unit) aC (fun x=>lO x.1)
theorem zj:cI Tryz.prog 86 KB:=d8 (E:={ T:=tab,G:=[(33,ul),(88,bd),(146,qQ),(147,mM),(148,sG),(149,qV),(197,pX)],Z:=true }) (ar.frz (ar.cons B8 (ar.cons aO (ar.cons yT (ar.cons vK (ar.cons AI (ar.cons zi (ar.cons ya (ar.nil dL))))))))) mixed (fn:=Tryz.f86) _ _ _ _ _ _ KA Tryz.func86 (by kernel_rfl) (fun x=>by kernel_rfl)
def jy (a0:(List Int)):Option (aC.D×(bi.D×Unit)) :=
(sj a0).bind fun y1 =>
(lO y1).bind fun y2 =>
(j8 y2.2.1 y2.1).bind fun y3 =>
(aI y3.2.1 10).bind fun y4 =>
((bif (y4.1 == 0) then (
(aI y4.2.1 6).bind fun y5 =>
 some (y5.2.1,y5.1,y3.1.2))
 else (
((bif (y4.1 == 1) then (
(oC y4.2.1 y2.1.1).bind fun y6 =>
 if (y3.1.2.2.2.1.length + [y6.1].length) * (24 * 7)≤aG then (
 some (y6.2.1,y3.1.1,y3.1.2.1,y3.1.2.2.1,(y3.1.2.2.2.1++[y6.1]),())) else none)
 else (
((bif (y4.1 == 2) then (
(lN y4.2.1 y2.1.1).bind fun y7 =>
 some (y7.2.1,y3.1.1,y7.1,y3.1.2.2))
 else (
 some (y4.2.1,y3.1))):Option (aj.D×(Int×(aa.D×(Int×((List ae.D)×Unit)))))).bind fun o8 =>
 some o8)):Option (aj.D×(Int×(aa.D×(Int×((List ae.D)×Unit)))))).bind fun o9 =>
 some o9)):Option (aj.D×(Int×(aa.D×(Int×((List ae.D)×Unit)))))).bind fun o10 =>
 some (y2.1,o10.2,())
def B9:Hints:=(n0 (n0 (n0 (n0 (nd (n0 (nd (n0 (.node (some ⟨[.box 8 0 aj,.boxO 6 0 1 bi],[none],none,[(8,0),(6,0),(13,1),(13,0)]⟩) none .none (n0 (.node (some ⟨[.box 8 0 aj,.boxO 6 0 1 bi],[none],none,[(8,0),(13,1),(6,0),(13,0)]⟩) none .none (n0 (cu ⟨[.box 8 0 aj,.boxO 6 0 1 bi],[none],none,[(8,0),(6,0),(13,1),(13,0)]⟩)))))) .none)) .none)))))
def Ca:Ct:=.pure false false (.pair (.slice (.int .u8)) .unit) (.pair aC (.pair bi .unit)) (fun x=>jy x.1)
theorem AL:KC 11 Ca:=pq (Ec Bl (Ec zj (Ec mC (Ec aO (Ec uW (Ec pW En)))))) B9 Tryz.func11
def eM (a0:(List ai.D)):Option (List ai.D) :=
 if (([]:List ai.D).length + a0.length) * (24 * 13)≤aG then (
 some ([]++a0)) else none
def nD:Ct:=.pure true true (.pair (.slice ai) .unit) (.slice ai) (fun x=>eM x.1)
theorem mO:cI Tryz.prog 263 nD:=EZ (E:={ T:=tab,G:=[] }) (ar.nil dL) mixed (fn:=Tryz.f263) _ _ ai _ _ .none .none Tryz.func263 (by kernel_rfl) (by kernel_rfl) (fun x=>by kernel_rfl)
def fd (a0:(List ay.D)):Option (List ay.D) :=
 if (([]:List ay.D).length + a0.length) * (24 * 3)≤aG then (
 some ([]++a0)) else none
def oD:Ct:=.pure true true (.pair (.slice ay) .unit) (.slice ay) (fun x=>fd x.1)
theorem nE:cI Tryz.prog 264 oD:=EZ (E:={ T:=tab,G:=[] }) (ar.nil dL) mixed (fn:=Tryz.f264) _ _ ay _ _ .none .none Tryz.func264 (by kernel_rfl) (by kernel_rfl) (fun x=>by kernel_rfl)
def cX (a0:ac.D):Option ac.D :=
(eM a0.1).bind fun y1 =>
(fd a0.2.1).bind fun y2 =>
 some (y1,y2,a0.2.2)
def wL:Ct:=.pure true true (.pair ac .unit) ac (fun x=>cX x.1)
theorem bT:KC 151 wL:=pq (Ec mO (Ec nE En)) .none Tryz.func151
def bq (a0:(List ae.D)):Option (List ae.D) :=
 if (([]:List ae.D).length + a0.length) * (24 * 7)≤aG then (
 some ([]++a0)) else none
def nF:Ct:=.pure true true (.pair (.slice ae) .unit) (.slice ae) (fun x=>bq x.1)
theorem dC:cI Tryz.prog 282 nF:=EZ (E:={ T:=tab,G:=[] }) (ar.nil dL) mixed (fn:=Tryz.f282) _ _ ae _ _ .none .none Tryz.func282 (by kernel_rfl) (by kernel_rfl) (fun x=>by kernel_rfl)
def db (a0:aa.D):Option aa.D :=
(bq a0.2.2.2.2.2.2.1.2.2.2.2.2.2.1).bind fun y1 =>
 some (a0.1,a0.2.1,a0.2.2.1,a0.2.2.2.1,a0.2.2.2.2.1,a0.2.2.2.2.2.1,(a0.2.2.2.2.2.2.1.1,a0.2.2.2.2.2.2.1.2.1,a0.2.2.2.2.2.2.1.2.2.1,a0.2.2.2.2.2.2.1.2.2.2.1,a0.2.2.2.2.2.2.1.2.2.2.2.1,a0.2.2.2.2.2.2.1.2.2.2.2.2.1,y1,()),a0.2.2.2.2.2.2.2)
def vL:Ct:=.pure true true (.pair aa .unit) aa (fun x=>db x.1)
theorem cY:KC 210 vL:=pq (Ec dC En) .none Tryz.func210
def mP (a0:(List aa.D)):((List aa.D)×Int)→Option (((List aa.D)×Int)⊕((List aa.D)×Int)):=fun s1 =>
 bif decide (s1.2 < (a0.length:Int)) then (
 idx a0 s1.2 fun x2 =>
(db x2).bind fun y3 =>
 if (s1.1.length + [y3].length) * (24 * 22)≤aG then (
 some (.inl ((s1.1++[y3]),IntKind.wrap .i64 (s1.2 + 1)))) else none)
 else (
 some (.inr s1))
def b9 (a0:(List aa.D)):Option (List aa.D) :=
(aw (mP a0) ([],0)).bind fun o4 =>
 some o4.1
def E6:Hints:=(n0 (n0 (nd (n0 (nd (.node none (some ⟨[.tmpO 3 0 (.slice aa),.tmp 9 (.int .i64)],[some 0],none,[]⟩) .none .none) .none)) .none)))
def ig:Ct:=.pure true true (.pair (.slice aa) .unit) (.slice aa) (fun x=>b9 x.1)
theorem bB:KC 152 ig:=pq (Ec cY En) E6 Tryz.func152
def bA (a0:(List Int)):Option (List Int) :=
 if (([]:List Int).length + a0.length) * (24 * 1)≤aG then (
 some ([]++a0)) else none
def eC:Ct:=.pure true true (.pair (.slice (.int .i64)) .unit) (.slice (.int .i64)) (fun x=>bA x.1)
theorem bG:cI Tryz.prog 153 eC:=EZ (E:={ T:=tab,G:=[] }) (ar.nil dL) mixed (fn:=Tryz.f153) _ _ (.int .i64) _ _ .none .none Tryz.func153 (by kernel_rfl) (by kernel_rfl) (fun x=>by kernel_rfl)
def bH (a0:(List ah.D)):Option (List ah.D) :=
 if (([]:List ah.D).length + a0.length) * (24 * 16)≤aG then (
 some ([]++a0)) else none
def l0:Ct:=.pure true true (.pair (.slice ah) .unit) (.slice ah) (fun x=>bH x.1)
theorem dg:cI Tryz.prog 205 l0:=EZ (E:={ T:=tab,G:=[] }) (ar.nil dL) mixed (fn:=Tryz.f205) _ _ ah _ _ .none .none Tryz.func205 (by kernel_rfl) (by kernel_rfl) (fun x=>by kernel_rfl)
def ii (a0:(List aq.D)):Option (List aq.D) :=
 if (([]:List aq.D).length + a0.length) * (24 * 23)≤aG then (
 some ([]++a0)) else none
def oE:Ct:=.pure true true (.pair (.slice aq) .unit) (.slice aq) (fun x=>ii x.1)
theorem nG:cI Tryz.prog 206 oE:=EZ (E:={ T:=tab,G:=[] }) (ar.nil dL) mixed (fn:=Tryz.f206) _ _ aq _ _ .none .none Tryz.func206 (by kernel_rfl) (by kernel_rfl) (fun x=>by kernel_rfl)
def mQ (a0:(List aA.D)):((List aA.D)×Int)→Option (((List aA.D)×Int)⊕((List aA.D)×Int)):=fun s1 =>
 bif decide (s1.2 < (a0.length:Int)) then (
 idx a0 s1.2 fun x2 =>
(bq x2.2.2.2.2.2.1).bind fun y3 =>
 if (s1.1.length + [(x2.1,x2.2.1,x2.2.2.1,x2.2.2.2.1,x2.2.2.2.2.1,y3,x2.2.2.2.2.2.2)].length) * (24 * 14)≤aG then (
 some (.inl ((s1.1++[(x2.1,x2.2.1,x2.2.2.1,x2.2.2.2.1,x2.2.2.2.2.1,y3,x2.2.2.2.2.2.2)]),IntKind.wrap .i64 (s1.2 + 1)))) else none)
 else (
 some (.inr s1))
def gK (a0:(List aA.D)):Option (List aA.D) :=
(aw (mQ a0) ([],0)).bind fun o4 =>
 some o4.1
def E7:Hints:=(n0 (n0 (nd (n0 (nd (.node none (some ⟨[.tmpO 3 0 (.slice aA),.tmp 9 (.int .i64)],[some 0],none,[]⟩) .none .none) .none)) .none)))
def ij:Ct:=.pure true true (.pair (.slice aA) .unit) (.slice aA) (fun x=>gK x.1)
theorem gL:KC 167 ij:=pq (Ec dC En) E7 Tryz.func167
def kc (a0:aC.D):Option aC.D :=
(cX a0.1).bind fun y1 =>
(b9 a0.2.1).bind fun y2 =>
(bA a0.2.2.1).bind fun y3 =>
(bH a0.2.2.2.1).bind fun y4 =>
(ii a0.2.2.2.2.1).bind fun y5 =>
(gK a0.2.2.2.2.2.1).bind fun y6 =>
 some (y1,y2,y3,y4,y5,y6,())
def yb:Ct:=.pure true true (.pair aC .unit) aC (fun x=>kc x.1)
theorem wM:KC 91 yb:=pq (Ec bT (Ec bB (Ec bG (Ec gL (Ec dg (Ec nG En)))))) .none Tryz.func91
def bl (a0:Int) (a1:Int) (a2:Int):Option Bool :=
 bif decide (a0≥a1) then (
 some (decide (a0≤a2)))
 else (
 some false)
def Ow:Ct:=.pure true false (.pair (.int .i64) (.pair (.int .i64) (.pair (.int .i64) .unit))) .bool (fun x=>bl x.1 x.2.1 x.2.2.1)
theorem b6:KC 186 Ow:=pq En .none Tryz.func186
def aZ (a0:ac.D) (a1:Int):Option Bool :=
(bl a1 0 (IntKind.wrap .i64 ((a0.2.1.length:Int) - 1))).bind fun y1 =>
 some y1
def KD:Ct:=.pure true false (.pair ac (.pair (.int .i64) .unit)) .bool (fun x=>aZ x.1 x.2.1)
theorem gM:KC 187 KD:=pq (Ec b6 En) .none Tryz.func187
def pY (a0:Int):Option Bool :=
(bl a0 0 9999).bind fun y1 =>
 some y1
def KE:Ct:=.pure true false (.pair (.int .i64) .unit) .bool (fun x=>pY x.1)
theorem zk:KC 188 KE:=pq (Ec b6 En) .none Tryz.func188
def cV (a0:Int):Option Bool :=
(bl a0 1 99).bind fun y1 =>
 some y1
def Ox:Ct:=.pure true false (.pair (.int .i64) .unit) .bool (fun x=>cV x.1)
theorem jz:KC 236 Ox:=pq (Ec b6 En) .none Tryz.func236
def bo (a0:Int):Option Bool :=
(bl a0 0 2).bind fun y1 =>
 some y1
def GM:Ct:=.pure true false (.pair (.int .i64) .unit) .bool (fun x=>bo x.1)
theorem gN:KC 237 GM:=pq (Ec b6 En) .none Tryz.func237
def jf (a0:Int):Option Bool :=
(bl a0 1 4).bind fun y1 =>
 some y1
def KF:Ct:=.pure true false (.pair (.int .i64) .unit) .bool (fun x=>jf x.1)
theorem sI:KC 276 KF:=pq (Ec b6 En) .none Tryz.func276
def kd (a0:Int):Option Bool :=
(bl a0 0 63).bind fun y1 =>
 some y1
def GN:Ct:=.pure true false (.pair (.int .i64) .unit) .bool (fun x=>kd x.1)
theorem vM:KC 291 GN:=pq (Ec b6 En) .none Tryz.func291
def bY (a0:Int):Option Bool :=
(bl a0 0 2147483647).bind fun y1 =>
 some y1
def GO:Ct:=.pure true false (.pair (.int .i64) .unit) .bool (fun x=>bY x.1)
theorem gO:KC 193 GO:=pq (Ec b6 En) .none Tryz.func193
def rq (a0:ai.D):Option Bool :=
(((cV a0.1).bind fun y1 =>
 bif (!y1) then (
 some true)
 else (
(bo a0.2.1).bind fun y2 =>
 bif (!y2) then (
 some true)
 else (
(bo a0.2.2.1).bind fun y3 =>
 bif (!y3) then (
 some true)
 else (
(jf a0.2.2.2.1).bind fun y4 =>
 bif (!y4) then (
 some true)
 else (
(pY a0.2.2.2.2.1).bind fun y5 =>
 bif (!y5) then (
 some true)
 else (
(bl a0.2.2.2.2.2.1 0 999).bind fun y6 =>
 bif (!y6) then (
 some true)
 else (
(bl a0.2.2.2.2.2.2.1 0 999).bind fun y7 =>
 bif (!y7) then (
 some true)
 else (
(kd a0.2.2.2.2.2.2.2.1).bind fun y8 =>
 some (!y8))))))))):Option Bool).bind fun o9 =>
 bif o9 then (
 some false)
 else (
 bif (a0.2.2.2.1 != 2) then (
((bif (a0.2.2.1 == a0.2.1) then (
 bif (a0.2.2.2.2.2.2.2.2.1 == 0) then (
 bif (a0.2.2.2.2.2.2.2.2.2.1 == 0) then (
 bif (a0.2.2.2.2.2.2.2.2.2.2.1 == 0) then (
 bif (!a0.2.2.2.2.2.2.2.2.2.2.2.1) then (
 some (!a0.2.2.2.2.2.2.2.2.2.2.2.2.1))
 else (
 some false))
 else (
 some false))
 else (
 some false))
 else (
 some false))
 else (
 some false)):Option Bool).bind fun o10 =>
 some o10)
 else (
(bY a0.2.2.2.2.2.2.2.2.1).bind fun y11 =>
 bif y11 then (
(bY a0.2.2.2.2.2.2.2.2.2.1).bind fun y12 =>
 bif y12 then (
(bY a0.2.2.2.2.2.2.2.2.2.2.1).bind fun y13 =>
 some y13)
 else (
 some false))
 else (
 some false)))
def IQ:Hints:=(n0 (nd (nd (cu ⟨[.tmp 48 .bool],[none],none,[]⟩) .none) (nd (n0 (nd (nd (cu ⟨[.tmp 2 .bool],[none],none,[]⟩) .none) .none)) .none)))
def IR:Ct:=.pure true false (.pair ai .unit) .bool (fun x=>rq x.1)
theorem GP:KC 189 IR:=pq (Ec b6 (Ec zk (Ec gO (Ec jz (Ec gN (Ec sI (Ec vM En))))))) IQ Tryz.func189
def cO (a0:(List ay.D)) (a1:((ay.D×Unit)→Option Bool)):Int→Option (Int⊕(Int⊕Int)):=fun s1 =>
 bif decide (s1 < (a0.length:Int)) then (
 idx a0 s1 fun x2 =>
(a1 (x2,())).bind fun y3 =>
 bif y3 then (
 some (.inr (.inr s1)))
 else (
 some (.inl (IntKind.wrap .i64 (s1 + 1)))))
 else (
 some (.inr (.inl s1)))
def dD (a0:(List ay.D)) (a1:((ay.D×Unit)→Option Bool)):Option Int :=
(aw (cO a0 a1) 0).bind fun o4 =>
 match o4 with
| .inl s5=>(
 some (-1))
| .inr o6=>(
 some o6)
def qy:Hints:=(n0 (nd (n0 (nd (.node none (some ⟨[.tmp 8 (.int .i64)],[some 0],some [.tmp 4 (.int .i64)],[]⟩) .none .none) .none)) .none))
def qz:Ct:=.pure true false (.pair (.slice ay) (.pair (.fn (.pair ay .unit) .bool) .unit)) (.int .i64) (fun x=>dD x.1 x.2.1)
theorem pZ:KC 292 qz:=pq En qy Tryz.func292
def cP (a0:(List ay.D)) (a1:((ay.D×Unit)→Option Bool)):Option Bool :=
(dD a0 a1).bind fun y1 =>
 some (decide (y1≥0))
def nH:Ct:=.pure true false (.pair (.slice ay) (.pair (.fn (.pair ay .unit) .bool) .unit)) .bool (fun x=>cP x.1 x.2.1)
theorem mR:KC 190 nH:=pq (Ec pZ En) .none Tryz.func190
def cz (a0:Int):Option Int :=
 some (if (if 2147483647 < a0 then 2147483647 else a0) > (-2147483647) then (if 2147483647 < a0 then 2147483647 else a0) else (-2147483647))
def ML:Ct:=.pure true false (.pair (.int .i64) .unit) (.int .i64) (fun x=>cz x.1)
theorem iC:KC 192 ML:=pq En .none Tryz.func192
def jg (a0:ay.D):Option Bool :=
(cz a0.1).bind fun y1 =>
 bif (y1 != a0.1) then (
 some true)
 else (
(bY a0.2.1).bind fun y2 =>
 some (!y2))
def E8:Ct:=.pure true false (.pair ay .unit) .bool (fun x=>jg x.1)
theorem DD:KC 191 E8:=pq (Ec iC (Ec gO En)) .none Tryz.func191
def kP (a0:ac.D):Int→Option (Int⊕(Int⊕Bool)):=fun s5 =>
 bif decide (s5 < (a0.1.length:Int)) then (
 idx a0.1 s5 fun x6 =>
(((rq x6).bind fun y7 =>
 bif (!y7) then (
 some true)
 else (
(aZ a0 x6.2.1).bind fun y8 =>
 bif (!y8) then (
 some true)
 else (
(aZ a0 x6.2.2.1).bind fun y9 =>
 bif (!y9) then (
 some true)
 else (
 bif decide (x6.2.2.2.2.1 > a0.2.2.2.1) then (
 some true)
 else (
 bif decide (s5 > 0) then (
 idx a0.1 (IntKind.wrap .i64 (s5 - 1)) fun x10 =>
 some (decide (x10.1≥x6.1)))
 else (
 some false)))))):Option Bool).bind fun o11 =>
 bif o11 then (
 some (.inr (.inr false)))
 else (
 some (.inl (IntKind.wrap .i64 (s5 + 1)))))
 else (
 some (.inr (.inl s5)))
def dE (a0:ac.D):Option Bool :=
((bif decide ((a0.1.length:Int) > 8) then (
 some true)
 else (
(bl (a0.2.1.length:Int) 2 3).bind fun y1 =>
 bif (!y1) then (
 some true)
 else (
(aZ a0 a0.2.2.1).bind fun y2 =>
 bif (!y2) then (
 some true)
 else (
(pY a0.2.2.2.1).bind fun y3 =>
 some (!y3))))):Option Bool).bind fun o4 =>
 bif o4 then (
 some false)
 else (
(aw (kP a0) 0).bind fun o12 =>
 match o12 with
| .inl s13=>(
(cP a0.2.1 (fun q=>jg q.1)).bind fun y15 =>
 some (!y15))
| .inr o14=>(
 some o14))
def IS:Hints:=(n0 (nd (nd (cu ⟨[.tmp 28 .bool],[none],none,[]⟩) .none) (nd (n0 (nd (.node none (some ⟨[.tmp 32 (.int .i64)],[some 0],some [.tmp 2 .bool],[]⟩) (n0 (n0 (nd (nd (n0 (nd (cu ⟨[.tmp 76 .bool],[none],none,[]⟩) .none)) .none) .none))) .none) .none)) .none)))
def zl:Ct:=.pure true false (.pair ac .unit) .bool (fun x=>dE x.1)
theorem dN:KC 81 zl:=pq (Ec b6 (Ec gM (Ec zk (Ec GP (Ec mR (Ec DD En)))))) IS Tryz.func81
def lP (a0:Int):Option Bool :=
(bl a0 1 6).bind fun y1 =>
 some y1
def KG:Ct:=.pure true false (.pair (.int .i64) .unit) .bool (fun x=>lP x.1)
theorem zm:KC 347 KG:=pq (Ec b6 En) .none Tryz.func347
def lu (a0:de.D):Option Bool :=
(((lP a0.1).bind fun y1 =>
 bif (!y1) then (
 some true)
 else (
(bl a0.2.1 0 2).bind fun y2 =>
 bif (!y2) then (
 some true)
 else (
(bl a0.2.2.1 0 99).bind fun y3 =>
 bif (!y3) then (
 some true)
 else (
(kd a0.2.2.2.1).bind fun y4 =>
 bif (!y4) then (
 some true)
 else (
(bl a0.2.2.2.2.1 0 99).bind fun y5 =>
 bif (!y5) then (
 some true)
 else (
(bY a0.2.2.2.2.2.1).bind fun y6 =>
 bif (!y6) then (
 some true)
 else (
(bl a0.2.2.2.2.2.2.1 0 4).bind fun y7 =>
 some (!y7)))))))):Option Bool).bind fun o8 =>
 bif o8 then (
 some false)
 else (
((bif (a0.1 != 1) then (
 bif (a0.2.2.1 != 0) then (
 some true)
 else (
 bif (a0.2.2.2.1 != 0) then (
 some true)
 else (
 bif (a0.1 != 2) then (
 some (a0.2.2.2.2.2.2.1 != 0))
 else (
 some false))))
 else (
 bif (a0.1 != 2) then (
 some (a0.2.2.2.2.2.2.1 != 0))
 else (
 some false))):Option Bool).bind fun o9 =>
 bif o9 then (
 some false)
 else (
 bif (a0.2.2.2.2.1 == 0) then (
 some true)
 else (
 bif (a0.1 != 3) then (
 some (a0.1 != 4))
 else (
 some false))))
def MM:Hints:=(n0 (nd (nd (cu ⟨[.tmp 42 .bool],[none],none,[]⟩) .none) (nd (nd (cu ⟨[.tmp 65 .bool],[none],none,[]⟩) .none) .none)))
def MN:Ct:=.pure true false (.pair de .unit) .bool (fun x=>lu x.1)
theorem Bu:KC 293 MN:=pq (Ec b6 (Ec gO (Ec vM (Ec zm En)))) MM Tryz.func293
def ik (a0:bP.D):Option Bool :=
((bif (a0.1 == 0) then (
 some (a0.1 == 0))
 else (
 some (a0.1 == 3))):Option Bool).bind fun o1 =>
 bif o1 then (
 some (a0.2.1 == 0))
 else (
 bif (a0.1 == 1) then (
(cz a0.2.1).bind fun y2 =>
 some (y2 == a0.2.1))
 else (
((bif (a0.1 == 2) then (
 some (a0.1 == 2))
 else (
 some (a0.1 == 4))):Option Bool).bind fun o3 =>
 bif o3 then (
(bl a0.2.1 0 8).bind fun y4 =>
 some y4)
 else (
 some false)))
def IT:Hints:=(n0 (nd (n0 (nd (nd (n0 (cu ⟨[.tmp 5 .bool],[none],none,[]⟩)) (n0 (n0 (n0 (nd (n0 (cu ⟨[.tmp 19 .bool],[none],none,[]⟩)) .none))))) .none)) .none))
def IU:Ct:=.pure true false (.pair bP .unit) .bool (fun x=>ik x.1)
theorem xH:KC 294 IU:=pq (Ec b6 (Ec iC En)) IT Tryz.func294
def bm (a0:(List ae.D)) (a1:((ae.D×Unit)→Option Bool)):Int→Option (Int⊕(Int⊕Int)):=fun s1 =>
 bif decide (s1 < (a0.length:Int)) then (
 idx a0 s1 fun x2 =>
(a1 (x2,())).bind fun y3 =>
 bif y3 then (
 some (.inr (.inr s1)))
 else (
 some (.inl (IntKind.wrap .i64 (s1 + 1)))))
 else (
 some (.inr (.inl s1)))
def bz (a0:(List ae.D)) (a1:((ae.D×Unit)→Option Bool)):Option Int :=
(aw (bm a0 a1) 0).bind fun o4 =>
 match o4 with
| .inl s5=>(
 some (-1))
| .inr o6=>(
 some o6)
def p7:Hints:=(n0 (nd (n0 (nd (.node none (some ⟨[.tmp 8 (.int .i64)],[some 0],some [.tmp 4 (.int .i64)],[]⟩) .none .none) .none)) .none))
def p8:Ct:=.pure true false (.pair (.slice ae) (.pair (.fn (.pair ae .unit) .bool) .unit)) (.int .i64) (fun x=>bz x.1 x.2.1)
theorem gP:KC 290 p8:=pq En p7 Tryz.func290
def aR (a0:(List ae.D)) (a1:((ae.D×Unit)→Option Bool)):Option Bool :=
(bz a0 a1).bind fun y1 =>
 some (decide (y1≥0))
def mS:Ct:=.pure true false (.pair (.slice ae) (.pair (.fn (.pair ae .unit) .bool) .unit)) .bool (fun x=>aR x.1 x.2.1)
theorem dt:KC 183 mS:=pq (Ec gP En) .none Tryz.func183
def jA (a0:ae.D):Option Bool :=
(cV a0.2.2.1).bind fun y1 =>
 bif y1 then (
 some (a0.2.2.2.1 == (-1)))
 else (
 some false)
def IV:Ct:=.pure true false (.pair ae .unit) .bool (fun x=>jA x.1)
theorem GQ:KC 274 IV:=pq (Ec jz En) .none Tryz.func274
def pp (a0:ae.D):Option Bool :=
 bif (a0.2.2.1 == 0) then (
(bo a0.2.2.2.1).bind fun y1 =>
 some y1)
 else (
 some false)
def GR:Ct:=.pure true false (.pair ae .unit) .bool (fun x=>pp x.1)
theorem E9:KC 275 GR:=pq (Ec gN En) .none Tryz.func275
def b7 (a0:ae.D):Option Bool :=
(((bY a0.2.2.2.2.1).bind fun y1 =>
 bif (!y1) then (
 some true)
 else (
 bif (a0.1 != 1) then (
 bif (a0.2.1 != 0) then (
 some true)
 else (
 bif (a0.1 != 2) then (
 bif (a0.2.2.2.2.2.1 != 0) then (
 some true)
 else (
 some a0.2.2.2.2.2.2.1))
 else (
 some false)))
 else (
 bif (a0.1 != 2) then (
 bif (a0.2.2.2.2.2.1 != 0) then (
 some true)
 else (
 some a0.2.2.2.2.2.2.1))
 else (
 some false)))):Option Bool).bind fun o2 =>
 bif o2 then (
 some false)
 else (
 bif (a0.1 == 1) then (
(cV a0.2.1).bind fun y3 =>
 bif y3 then (
(jA a0).bind fun y4 =>
 bif y4 then (
 some true)
 else (
(pp a0).bind fun y5 =>
 some y5))
 else (
 some false))
 else (
 bif (a0.1 == 2) then (
 bif (a0.2.2.2.2.2.1 == 2) then (
(((jA a0).bind fun y6 =>
 bif y6 then (
 some (decide (a0.2.2.2.2.1≤99)))
 else (
 some false)):Option Bool).bind fun o7 =>
 some o7)
 else (
(jA a0).bind fun y8 =>
 bif y8 then (
(jf a0.2.2.2.2.2.1).bind fun y9 =>
 bif y9 then (
 bif (a0.2.2.2.2.1 == 0) then (
 some (!a0.2.2.2.2.2.2.1))
 else (
 some false))
 else (
 some false))
 else (
 some false)))
 else (
((bif (a0.1 == 3) then (
 some (a0.1 == 3))
 else (
 some (a0.1 == 4))):Option Bool).bind fun o10 =>
 bif o10 then (
(pp a0).bind fun y11 =>
 some y11)
 else (
((bif (a0.1 == 5) then (
 some (a0.1 == 5))
 else (
 some (a0.1 == 6))):Option Bool).bind fun o12 =>
 bif o12 then (
(jA a0).bind fun y13 =>
 some y13)
 else (
 some false)))))
def IW:Hints:=(n0 (nd (nd (cu ⟨[.tmp 30 .bool],[none],none,[]⟩) .none) (nd (n0 (nd (n0 (n0 (n0 (nd (nd (n0 (nd (nd (cu ⟨[.tmp 2 .bool],[none],none,[]⟩) .none) .none)) .none) (nd (n0 (cu ⟨[.tmp 75 .bool],[none],none,[]⟩)) (n0 (nd (n0 (cu ⟨[.tmp 80 .bool],[none],none,[]⟩)) .none))))))) .none)) .none)))
def zn:Ct:=.pure true false (.pair ae .unit) .bool (fun x=>b7 x.1)
theorem cd:KC 162 zn:=pq (Ec gO (Ec jz (Ec GQ (Ec E9 (Ec sI En))))) IW Tryz.func162
def uo (a0:ae.D):Option Bool :=
(b7 a0).bind fun y1 =>
 bif y1 then (
 some true)
 else (
((bif (a0.1 != 2) then (
 some (a0.2.2.2.2.1 == (-1)))
 else (
 some false)):Option Bool).bind fun o2 =>
 bif o2 then (
(b7 (a0.1,a0.2.1,a0.2.2.1,a0.2.2.2.1,0,a0.2.2.2.2.2)).bind fun y3 =>
 some y3)
 else (
 some false))
def KH:Hints:=(n0 (n0 (nd (cu ⟨[.tmp 3 .bool],[none],none,[]⟩) .none)))
def KI:Ct:=.pure true false (.pair ae .unit) .bool (fun x=>uo x.1)
theorem IX:KC 349 KI:=pq (Ec cd En) KH Tryz.func349
def jB (a0:ae.D):Option Bool :=
(uo a0).bind fun y1 =>
 some (!y1)
def IY:Ct:=.pure true false (.pair ae .unit) .bool (fun x=>jB x.1)
theorem GS:KC 348 IY:=pq (Ec IX En) .none Tryz.func348
def fB (a0:bM.D):Option Bool :=
((bif (a0.1 != 3) then (
 bif (a0.1 != 8) then (
 bif (a0.2.1 != 0) then (
 some true)
 else (
 bif (a0.1 != 6) then (
 bif (a0.2.2.1 != 0) then (
 some true)
 else (
 bif (a0.2.2.2.1 != (-1)) then (
 some true)
 else (
 bif (a0.1 != 7) then (
 bif (a0.2.2.2.2.1 != 0) then (
 some true)
 else (
 bif (a0.1 != 8) then (
 bif a0.2.2.2.2.2.1 then (
 some true)
 else (
 bif (a0.1 != 9) then (
 some (decide ((a0.2.2.2.2.2.2.1.length:Int) > 0)))
 else (
 some false)))
 else (
 bif (a0.1 != 9) then (
 some (decide ((a0.2.2.2.2.2.2.1.length:Int) > 0)))
 else (
 some false))))
 else (
 bif (a0.1 != 8) then (
 bif a0.2.2.2.2.2.1 then (
 some true)
 else (
 bif (a0.1 != 9) then (
 some (decide ((a0.2.2.2.2.2.2.1.length:Int) > 0)))
 else (
 some false)))
 else (
 bif (a0.1 != 9) then (
 some (decide ((a0.2.2.2.2.2.2.1.length:Int) > 0)))
 else (
 some false))))))
 else (
 bif (a0.1 != 7) then (
 bif (a0.2.2.2.2.1 != 0) then (
 some true)
 else (
 bif (a0.1 != 8) then (
 bif a0.2.2.2.2.2.1 then (
 some true)
 else (
 bif (a0.1 != 9) then (
 some (decide ((a0.2.2.2.2.2.2.1.length:Int) > 0)))
 else (
 some false)))
 else (
 bif (a0.1 != 9) then (
 some (decide ((a0.2.2.2.2.2.2.1.length:Int) > 0)))
 else (
 some false))))
 else (
 bif (a0.1 != 8) then (
 bif a0.2.2.2.2.2.1 then (
 some true)
 else (
 bif (a0.1 != 9) then (
 some (decide ((a0.2.2.2.2.2.2.1.length:Int) > 0)))
 else (
 some false)))
 else (
 bif (a0.1 != 9) then (
 some (decide ((a0.2.2.2.2.2.2.1.length:Int) > 0)))
 else (
 some false))))))
 else (
 bif (a0.1 != 6) then (
 bif (a0.2.2.1 != 0) then (
 some true)
 else (
 bif (a0.2.2.2.1 != (-1)) then (
 some true)
 else (
 bif (a0.1 != 7) then (
 bif (a0.2.2.2.2.1 != 0) then (
 some true)
 else (
 bif (a0.1 != 8) then (
 bif a0.2.2.2.2.2.1 then (
 some true)
 else (
 bif (a0.1 != 9) then (
 some (decide ((a0.2.2.2.2.2.2.1.length:Int) > 0)))
 else (
 some false)))
 else (
 bif (a0.1 != 9) then (
 some (decide ((a0.2.2.2.2.2.2.1.length:Int) > 0)))
 else (
 some false))))
 else (
 bif (a0.1 != 8) then (
 bif a0.2.2.2.2.2.1 then (
 some true)
 else (
 bif (a0.1 != 9) then (
 some (decide ((a0.2.2.2.2.2.2.1.length:Int) > 0)))
 else (
 some false)))
 else (
 bif (a0.1 != 9) then (
 some (decide ((a0.2.2.2.2.2.2.1.length:Int) > 0)))
 else (
 some false))))))
 else (
 bif (a0.1 != 7) then (
 bif (a0.2.2.2.2.1 != 0) then (
 some true)
 else (
 bif (a0.1 != 8) then (
 bif a0.2.2.2.2.2.1 then (
 some true)
 else (
 bif (a0.1 != 9) then (
 some (decide ((a0.2.2.2.2.2.2.1.length:Int) > 0)))
 else (
 some false)))
 else (
 bif (a0.1 != 9) then (
 some (decide ((a0.2.2.2.2.2.2.1.length:Int) > 0)))
 else (
 some false))))
 else (
 bif (a0.1 != 8) then (
 bif a0.2.2.2.2.2.1 then (
 some true)
 else (
 bif (a0.1 != 9) then (
 some (decide ((a0.2.2.2.2.2.2.1.length:Int) > 0)))
 else (
 some false)))
 else (
 bif (a0.1 != 9) then (
 some (decide ((a0.2.2.2.2.2.2.1.length:Int) > 0)))
 else (
 some false))))))
 else (
 bif (a0.1 != 6) then (
 bif (a0.2.2.1 != 0) then (
 some true)
 else (
 bif (a0.2.2.2.1 != (-1)) then (
 some true)
 else (
 bif (a0.1 != 7) then (
 bif (a0.2.2.2.2.1 != 0) then (
 some true)
 else (
 bif (a0.1 != 8) then (
 bif a0.2.2.2.2.2.1 then (
 some true)
 else (
 bif (a0.1 != 9) then (
 some (decide ((a0.2.2.2.2.2.2.1.length:Int) > 0)))
 else (
 some false)))
 else (
 bif (a0.1 != 9) then (
 some (decide ((a0.2.2.2.2.2.2.1.length:Int) > 0)))
 else (
 some false))))
 else (
 bif (a0.1 != 8) then (
 bif a0.2.2.2.2.2.1 then (
 some true)
 else (
 bif (a0.1 != 9) then (
 some (decide ((a0.2.2.2.2.2.2.1.length:Int) > 0)))
 else (
 some false)))
 else (
 bif (a0.1 != 9) then (
 some (decide ((a0.2.2.2.2.2.2.1.length:Int) > 0)))
 else (
 some false))))))
 else (
 bif (a0.1 != 7) then (
 bif (a0.2.2.2.2.1 != 0) then (
 some true)
 else (
 bif (a0.1 != 8) then (
 bif a0.2.2.2.2.2.1 then (
 some true)
 else (
 bif (a0.1 != 9) then (
 some (decide ((a0.2.2.2.2.2.2.1.length:Int) > 0)))
 else (
 some false)))
 else (
 bif (a0.1 != 9) then (
 some (decide ((a0.2.2.2.2.2.2.1.length:Int) > 0)))
 else (
 some false))))
 else (
 bif (a0.1 != 8) then (
 bif a0.2.2.2.2.2.1 then (
 some true)
 else (
 bif (a0.1 != 9) then (
 some (decide ((a0.2.2.2.2.2.2.1.length:Int) > 0)))
 else (
 some false)))
 else (
 bif (a0.1 != 9) then (
 some (decide ((a0.2.2.2.2.2.2.1.length:Int) > 0)))
 else (
 some false)))))):Option Bool).bind fun o1 =>
 bif o1 then (
 some false)
 else (
((bif (a0.1 == 1) then (
 some (a0.1 == 1))
 else (
((bif (a0.1 == 2) then (
 some (a0.1 == 2))
 else (
((bif (a0.1 == 4) then (
 some (a0.1 == 4))
 else (
 some (a0.1 == 5))):Option Bool).bind fun o2 =>
 some o2)):Option Bool).bind fun o3 =>
 some o3)):Option Bool).bind fun o4 =>
 bif o4 then (
 some true)
 else (
 bif (a0.1 == 3) then (
(bl a0.2.1 1 2147483647).bind fun y5 =>
 some y5)
 else (
 bif (a0.1 == 6) then (
(cV a0.2.2.1).bind fun y6 =>
 bif y6 then (
 bif (a0.2.2.2.1 == (-1)) then (
 some true)
 else (
 bif (a0.2.2.1 == 0) then (
(bo a0.2.2.2.1).bind fun y7 =>
 some y7)
 else (
 some false)))
 else (
 bif (a0.2.2.1 == 0) then (
(bo a0.2.2.2.1).bind fun y8 =>
 some y8)
 else (
 some false)))
 else (
 bif (a0.1 == 7) then (
(jf a0.2.2.2.2.1).bind fun y9 =>
 some y9)
 else (
 bif (a0.1 == 8) then (
(bl a0.2.1 0 99).bind fun y10 =>
 some y10)
 else (
 bif (a0.1 == 9) then (
(bl (a0.2.2.2.2.2.2.1.length:Int) 1 3).bind fun y11 =>
 bif y11 then (
(aR a0.2.2.2.2.2.2.1 (fun q=>jB q.1)).bind fun y12 =>
 some (!y12))
 else (
 some false))
 else (
 some false)))))))
def MO:Hints:=(n0 (nd (nd (cu ⟨[.tmp 60 .bool],[none],none,[]⟩) .none) (nd (n0 (nd (nd (n0 (.node (some ⟨[.tmp 63 .bool],[none],none,[]⟩) none .none (n0 (.node (some ⟨[.tmp 63 .bool],[none],none,[]⟩) none .none (n0 (cu ⟨[.tmp 63 .bool],[none],none,[]⟩)))))) .none) .none)) .none)))
def MP:Ct:=.pure true false (.pair bM .unit) .bool (fun x=>fB x.1)
theorem KJ:KC 295 MP:=pq (Ec dt (Ec b6 (Ec jz (Ec gN (Ec sI (Ec GS En)))))) MO Tryz.func295
def dF (a0:bM.D) (a1:Int):Option Bool :=
(lP a1).bind fun y1 =>
 bif (!y1) then (
 some false)
 else (
((bif (a0.1 == 1) then (
 some (a0.1 == 1))
 else (
 some (a0.1 == 9))):Option Bool).bind fun o2 =>
 bif o2 then (
 some true)
 else (
((bif (a0.1 == 2) then (
 some (a0.1 == 2))
 else (
 some (a0.1 == 6))):Option Bool).bind fun o3 =>
 bif o3 then (
 some (a1 == 1))
 else (
((bif (a0.1 == 3) then (
 some (a0.1 == 3))
 else (
((bif (a0.1 == 4) then (
 some (a0.1 == 4))
 else (
 some (a0.1 == 5))):Option Bool).bind fun o4 =>
 some o4)):Option Bool).bind fun o5 =>
 bif o5 then (
 some (a1 != 2))
 else (
((bif (a0.1 == 7) then (
 some (a0.1 == 7))
 else (
 some (a0.1 == 8))):Option Bool).bind fun o6 =>
 bif o6 then (
 some (a1 == 2))
 else (
 some false)))))
def IZ:Hints:=(n0 (n0 (nd (n0 (nd (nd (n0 (cu ⟨[.tmp 10 .bool],[none],none,[]⟩)) (n0 (nd (n0 (cu ⟨[.tmp 13 .bool],[none],none,[]⟩)) (n0 (nd (n0 (.node (some ⟨[.tmp 18 .bool],[none],none,[]⟩) none .none (n0 (cu ⟨[.tmp 18 .bool],[none],none,[]⟩)))) (n0 (nd (n0 (cu ⟨[.tmp 24 .bool],[none],none,[]⟩)) .none))))))) .none)) .none)))
def I0:Ct:=.pure true false (.pair bM (.pair (.int .i64) .unit)) .bool (fun x=>dF x.1 x.2.1)
theorem xI:KC 296 I0:=pq (Ec zm En) IZ Tryz.func296
def cD (a0:aa.D):Option Bool :=
((bif (a0.2.2.2.2.2.2.1.1 == 2) then (
 some 0)
 else (
 some (-1))):Option Int).bind fun o1 =>
(cV a0.1).bind fun y2 =>
 bif y2 then (
(bo a0.2.1).bind fun y3 =>
 bif y3 then (
(bl a0.2.2.1 0 99).bind fun y4 =>
 bif y4 then (
(bl a0.2.2.2.1 0 4).bind fun y5 =>
 bif y5 then (
 bif (a0.2.2.2.1 != 0) then (
(lu a0.2.2.2.2.1).bind fun y6 =>
 bif y6 then (
(ik a0.2.2.2.2.2.1).bind fun y7 =>
 bif y7 then (
(fB a0.2.2.2.2.2.2.1).bind fun y8 =>
 bif y8 then (
(dF a0.2.2.2.2.2.2.1 a0.2.2.2.2.1.1).bind fun y9 =>
 bif y9 then (
(bl a0.2.2.2.2.2.2.2.1 (-1) 9999).bind fun y10 =>
 bif y10 then (
(bl a0.2.2.2.2.2.2.2.2.1 o1 2147483647).bind fun y11 =>
 some y11)
 else (
 some false))
 else (
 some false))
 else (
 some false))
 else (
 some false))
 else (
 some false))
 else (
 bif (a0.2.2.1 != 0) then (
(lu a0.2.2.2.2.1).bind fun y12 =>
 bif y12 then (
(ik a0.2.2.2.2.2.1).bind fun y13 =>
 bif y13 then (
(fB a0.2.2.2.2.2.2.1).bind fun y14 =>
 bif y14 then (
(dF a0.2.2.2.2.2.2.1 a0.2.2.2.2.1.1).bind fun y15 =>
 bif y15 then (
(bl a0.2.2.2.2.2.2.2.1 (-1) 9999).bind fun y16 =>
 bif y16 then (
(bl a0.2.2.2.2.2.2.2.2.1 o1 2147483647).bind fun y17 =>
 some y17)
 else (
 some false))
 else (
 some false))
 else (
 some false))
 else (
 some false))
 else (
 some false))
 else (
 some false)))
 else (
 some false))
 else (
 some false))
 else (
 some false))
 else (
 some false)
def GT:Hints:=(n0 (n0 (nd (n0 (cu ⟨[.tmp 3 (.int .i64)],[none],none,[]⟩)) .none)))
def GU:Ct:=.pure true false (.pair aa .unit) .bool (fun x=>cD x.1)
theorem oF:KC 194 GU:=pq (Ec b6 (Ec jz (Ec gN (Ec Bu (Ec xH (Ec KJ (Ec xI En))))))) GT Tryz.func194
def kQ (a0:(List aa.D)):Int→Option (Int⊕(Int⊕Bool)):=fun s1 =>
 bif decide (s1 < (a0.length:Int)) then (
 idx a0 s1 fun x2 =>
(((cD x2).bind fun y3 =>
 bif (!y3) then (
 some true)
 else (
 bif decide (s1 > 0) then (
 idx a0 (IntKind.wrap .i64 (s1 - 1)) fun x4 =>
 some (decide (x4.1≥x2.1)))
 else (
 some false))):Option Bool).bind fun o5 =>
 bif o5 then (
 some (.inr (.inr false)))
 else (
 some (.inl (IntKind.wrap .i64 (s1 + 1)))))
 else (
 some (.inr (.inl s1)))
def fW (a0:(List aa.D)):Option Bool :=
(aw (kQ a0) 0).bind fun o6 =>
 match o6 with
| .inl s7=>(
 some (decide ((a0.length:Int)≤5)))
| .inr o8=>(
 some o8)
def I4:Hints:=(n0 (nd (n0 (nd (.node none (some ⟨[.tmp 7 (.int .i64)],[some 0],some [.tmp 2 .bool],[]⟩) (n0 (n0 (nd (nd (n0 (nd (cu ⟨[.tmp 29 .bool],[none],none,[]⟩) .none)) .none) .none))) .none) .none)) .none))
def zo:Ct:=.pure true false (.pair (.slice aa) .unit) .bool (fun x=>fW x.1)
theorem kR:KC 82 zo:=pq (Ec oF En) I4 Tryz.func82
def cQ (a0:(List aA.D)) (a1:((aA.D×Unit)→Option Bool)):Int→Option (Int⊕(Int⊕Int)):=fun s1 =>
 bif decide (s1 < (a0.length:Int)) then (
 idx a0 s1 fun x2 =>
(a1 (x2,())).bind fun y3 =>
 bif y3 then (
 some (.inr (.inr s1)))
 else (
 some (.inl (IntKind.wrap .i64 (s1 + 1)))))
 else (
 some (.inr (.inl s1)))
def dG (a0:(List aA.D)) (a1:((aA.D×Unit)→Option Bool)):Option Int :=
(aw (cQ a0 a1) 0).bind fun o4 =>
 match o4 with
| .inl s5=>(
 some (-1))
| .inr o6=>(
 some o6)
def qA:Hints:=(n0 (nd (n0 (nd (.node none (some ⟨[.tmp 8 (.int .i64)],[some 0],some [.tmp 4 (.int .i64)],[]⟩) .none .none) .none)) .none))
def qB:Ct:=.pure true false (.pair (.slice aA) (.pair (.fn (.pair aA .unit) .bool) .unit)) (.int .i64) (fun x=>dG x.1 x.2.1)
theorem p9:KC 235 qB:=pq En qA Tryz.func235
end
end Go.Abs
