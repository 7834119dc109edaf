/- Part of a proof of FnExactPlay: see the row. -/
import Derived.Test.YtenadnbpibhmiaaGreatProg
import Derived.Test.YtenadnbpibhmiaaGreatPlAbsHd
import Derived.Test.YtenadnbpibhmiaaGreatPlAbsPure
import Derived.Test.YtenadnbpibhmiaaGreatPlInsZ
set_option linter.unusedVariables false
set_option linter.unusedSimpArgs false
namespace Go.Abs
open Go.Proofs
set_option maxRecDepth 100000
noncomputable section
def nd (a b:Hints):Hints:=.node none none a b
def n0 (b:Hints):Hints:=.node none none .none b
def cu (h:Hint):Hints:=.node (some h) none .none .none
@[reducible] def ah:Ty:=(.pair (.int .i64) (.pair (.int .i64) (.pair (.int .i64) (.pair (.int .i64) (.pair (.int .i64) (.pair (.int .i64) (.pair (.int .i64) (.pair (.int .i64) (.pair (.int .i64) (.pair (.int .i64) (.pair (.int .i64) (.pair .bool (.pair .bool .unit)))))))))))))
@[reducible] def au:Ty:=(.pair (.int .i64) (.pair (.int .i64) (.pair .bool .unit)))
@[reducible] def ae:Ty:=(.pair (.slice ah) (.pair (.slice au) (.pair (.int .i64) (.pair (.int .i64) .unit))))
@[reducible] def cp:Ty:=(.pair (.int .i64) (.pair (.int .i64) (.pair (.int .i64) (.pair (.int .i64) (.pair (.int .i64) (.pair (.int .i64) (.pair (.int .i64) .unit)))))))
@[reducible] def bc:Ty:=(.pair (.int .i64) (.pair (.int .i64) .unit))
@[reducible] def ac:Ty:=(.pair (.int .i64) (.pair (.int .i64) (.pair (.int .i64) (.pair (.int .i64) (.pair (.int .i64) (.pair (.int .i64) (.pair .bool .unit)))))))
@[reducible] def bm:Ty:=(.pair (.int .i64) (.pair (.int .i64) (.pair (.int .i64) (.pair (.int .i64) (.pair (.int .i64) (.pair .bool (.pair (.slice ac) .unit)))))))
@[reducible] def aa:Ty:=(.pair (.int .i64) (.pair (.int .i64) (.pair (.int .i64) (.pair (.int .i64) (.pair cp (.pair bc (.pair bm (.pair (.int .i64) (.pair (.int .i64) .unit)))))))))
@[reducible] def ar:Ty:=(.pair (.int .i64) (.pair (.int .i64) (.pair (.int .i64) (.pair (.int .i64) (.pair ac (.pair (.slice ac) (.pair (.int .i64) (.pair (.int .i64) .unit))))))))
@[reducible] def lS:Ty:=(.pair (.vw ah) (.pair (.vw au) (.pair (.int .i64) (.pair (.int .i64) .unit))))
@[reducible] def nz:Ty:=(.pair lS (.pair (.slice aa) (.pair (.slice (.int .i64)) (.pair (.slice ac) (.pair (.slice ar) .unit)))))
@[reducible] def af:Ty:=(.pair (.int .i64) (.pair (.int .i64) (.pair (.int .i64) (.pair ah .unit))))
@[reducible] def ai:Ty:=(.pair (.int .i64) (.pair ac (.pair (.int .i64) (.pair (.int .i64) (.pair ah .unit)))))
@[reducible] def T_Game:Ty:=(.pair ae (.pair (.slice aa) (.pair (.slice (.int .i64)) (.pair (.slice af) (.pair (.slice ai) (.pair (.slice ar) .unit))))))
@[reducible] def ba:Ty:=(.pair (.slice ac) (.pair (.slice aa) (.pair (.slice (.int .i64)) (.pair (.slice ar) .unit))))
@[reducible] def dV:Ty:=(.pair (.int .i64) (.pair (.int .i64) (.pair (.int .i64) (.pair (.int .i64) (.pair ac (.pair (.vw ac) (.pair (.int .i64) (.pair (.int .i64) .unit))))))))
@[reducible] def vO:Ty:=(.pair (.slice ac) (.pair (.slice aa) (.pair (.slice (.int .i64)) (.pair (.slice dV) .unit))))
@[reducible] def sJ:Ty:=(.pair lS (.pair vO .unit))
@[reducible] def T_Order:Ty:=(.pair (.int .i64) (.pair aa (.pair (.int .i64) (.pair (.slice ac) .unit))))
@[reducible] def PI:Ty:=(.pair ae (.pair (.slice aa) (.pair (.slice (.int .i64)) (.pair (.slice ac) (.pair (.slice ar) .unit)))))
@[reducible] def TY:Ty:=(.pair (.int .i64) (.pair (.int .i64) (.pair (.int .i64) (.pair (.int .i64) (.pair (.int .i64) (.pair .bool (.pair .hd .unit)))))))
@[reducible] def aT:Ty:=(.pair (.int .i64) (.pair (.int .i64) (.pair (.int .i64) (.pair (.int .i64) (.pair cp (.pair bc (.pair TY (.pair (.int .i64) (.pair (.int .i64) .unit)))))))))
@[reducible] def U0:Ty:=(.pair ae (.pair (.slice aa) (.pair (.slice (.int .i64)) (.pair (.slice af) (.pair (.slice ai) (.pair (.slice dV) .unit))))))
@[reducible] def TZ:Ty:=(.pair ae (.pair (.slice aa) (.pair (.slice (.int .i64)) (.pair (.slice ac) (.pair (.slice dV) .unit)))))
def tab:Tab:=[
 (3,⟨.int .i64,1,0,(.int .i64),[.int .i64 0]⟩),
 (4,⟨.bool,1,0,.bool,[.bool false]⟩),
 (24,⟨.slice 101,1,0,(.slice ah),[.nil]⟩),
 (25,⟨.slice 224,1,0,(.slice au),[.nil]⟩),
 (26,⟨.struct [(0,24),(1,25),(2,3),(3,3)],4,0,ae,[.nil,.nil,.int .i64 0,.int .i64 0]⟩),
 (27,⟨.struct [(0,24),(1,25),(2,3),(3,3)],4,0,ae,[.nil,.nil,.int .i64 0,.int .i64 0]⟩),
 (28,⟨.slice 43,1,0,(.slice aa),[.nil]⟩),
 (29,⟨.slice 3,1,0,(.slice (.int .i64)),[.nil]⟩),
 (30,⟨.slice 103,1,0,(.slice af),[.nil]⟩),
 (31,⟨.slice 159,1,0,(.slice ai),[.nil]⟩),
 (32,⟨.slice 162,1,0,(.slice ar),[.nil]⟩),
 (33,⟨.struct [(0,27),(4,28),(5,29),(6,30),(7,31),(8,32)],9,0,T_Game,[.nil,.nil,.int .i64 0,.int .i64 0,.nil,.nil,.nil,.nil,.nil]⟩),
 (34,⟨.struct [(0,27),(4,28),(5,29),(6,30),(7,31),(8,32)],9,0,T_Game,[.nil,.nil,.int .i64 0,.int .i64 0,.nil,.nil,.nil,.nil,.nil]⟩),
 (35,⟨.struct [(0,3),(1,3),(2,3),(3,3),(4,3),(5,3),(6,3)],7,0,cp,[.int .i64 0,.int .i64 0,.int .i64 0,.int .i64 0,.int .i64 0,.int .i64 0,.int .i64 0]⟩),
 (36,⟨.struct [(0,3),(1,3),(2,3),(3,3),(4,3),(5,3),(6,3)],7,0,cp,[.int .i64 0,.int .i64 0,.int .i64 0,.int .i64 0,.int .i64 0,.int .i64 0,.int .i64 0]⟩),
 (37,⟨.struct [(0,3),(1,3)],2,0,bc,[.int .i64 0,.int .i64 0]⟩),
 (38,⟨.struct [(0,3),(1,3)],2,0,bc,[.int .i64 0,.int .i64 0]⟩),
 (39,⟨.slice 114,1,0,(.slice ac),[.nil]⟩),
 (40,⟨.struct [(0,3),(1,3),(2,3),(3,3),(4,3),(5,4),(6,39)],7,0,bm,[.int .i64 0,.int .i64 0,.int .i64 0,.int .i64 0,.int .i64 0,.bool false,.nil]⟩),
 (41,⟨.struct [(0,3),(1,3),(2,3),(3,3),(4,3),(5,4),(6,39)],7,0,bm,[.int .i64 0,.int .i64 0,.int .i64 0,.int .i64 0,.int .i64 0,.bool false,.nil]⟩),
 (42,⟨.struct [(0,3),(1,3),(2,3),(3,3),(4,36),(11,38),(13,41),(20,3),(21,3)],22,0,aa,[.int .i64 0,.int .i64 0,.int .i64 0,.int .i64 0,.int .i64 0,.int .i64 0,.int .i64 0,.int .i64 0,.int .i64 0,.int .i64 0,.int .i64 0,.int .i64 0,.int .i64 0,.int .i64 0,.int .i64 0,.int .i64 0,.int .i64 0,.int .i64 0,.bool false,.nil,.int .i64 0,.int .i64 0]⟩),
 (43,⟨.struct [(0,3),(1,3),(2,3),(3,3),(4,36),(11,38),(13,41),(20,3),(21,3)],22,0,aa,[.int .i64 0,.int .i64 0,.int .i64 0,.int .i64 0,.int .i64 0,.int .i64 0,.int .i64 0,.int .i64 0,.int .i64 0,.int .i64 0,.int .i64 0,.int .i64 0,.int .i64 0,.int .i64 0,.int .i64 0,.int .i64 0,.int .i64 0,.int .i64 0,.bool false,.nil,.int .i64 0,.int .i64 0]⟩),
 (44,⟨.struct [(0,3),(1,43),(23,3),(24,39)],25,0,T_Order,[.int .i64 0,.int .i64 0,.int .i64 0,.int .i64 0,.int .i64 0,.int .i64 0,.int .i64 0,.int .i64 0,.int .i64 0,.int .i64 0,.int .i64 0,.int .i64 0,.int .i64 0,.int .i64 0,.int .i64 0,.int .i64 0,.int .i64 0,.int .i64 0,.int .i64 0,.bool false,.nil,.int .i64 0,.int .i64 0,.int .i64 0,.nil]⟩),
 (45,⟨.struct [(0,3),(1,43),(23,3),(24,39)],25,0,T_Order,[.int .i64 0,.int .i64 0,.int .i64 0,.int .i64 0,.int .i64 0,.int .i64 0,.int .i64 0,.int .i64 0,.int .i64 0,.int .i64 0,.int .i64 0,.int .i64 0,.int .i64 0,.int .i64 0,.int .i64 0,.int .i64 0,.int .i64 0,.int .i64 0,.int .i64 0,.bool false,.nil,.int .i64 0,.int .i64 0,.int .i64 0,.nil]⟩),
 (58,⟨.slice 261,1,0,(.slice ah),[.nil]⟩),
 (59,⟨.slice 289,1,0,(.slice au),[.nil]⟩),
 (60,⟨.struct [(0,58),(1,59),(2,3),(3,3)],4,0,ae,[.nil,.nil,.int .i64 0,.int .i64 0]⟩),
 (61,⟨.struct [(0,58),(1,59),(2,3),(3,3)],4,0,ae,[.nil,.nil,.int .i64 0,.int .i64 0]⟩),
 (62,⟨.slice 74,1,0,(.slice aa),[.nil]⟩),
 (63,⟨.slice 263,1,0,(.slice af),[.nil]⟩),
 (64,⟨.slice 266,1,0,(.slice ai),[.nil]⟩),
 (65,⟨.slice 258,1,0,(.slice ar),[.nil]⟩),
 (66,⟨.struct [(0,61),(4,62),(5,29),(6,63),(7,64),(8,65)],9,0,T_Game,[.nil,.nil,.int .i64 0,.int .i64 0,.nil,.nil,.nil,.nil,.nil]⟩),
 (67,⟨.struct [(0,61),(4,62),(5,29),(6,63),(7,64),(8,65)],9,0,T_Game,[.nil,.nil,.int .i64 0,.int .i64 0,.nil,.nil,.nil,.nil,.nil]⟩),
 (68,⟨.struct [(0,3),(1,3),(2,3),(3,3),(4,3),(5,3),(6,3)],7,0,cp,[.int .i64 0,.int .i64 0,.int .i64 0,.int .i64 0,.int .i64 0,.int .i64 0,.int .i64 0]⟩),
 (69,⟨.struct [(0,3),(1,3)],2,0,bc,[.int .i64 0,.int .i64 0]⟩),
 (70,⟨.slice 106,1,0,(.slice ac),[.nil]⟩),
 (71,⟨.struct [(0,3),(1,3),(2,3),(3,3),(4,3),(5,4),(6,70)],7,0,bm,[.int .i64 0,.int .i64 0,.int .i64 0,.int .i64 0,.int .i64 0,.bool false,.nil]⟩),
 (72,⟨.struct [(0,3),(1,3),(2,3),(3,3),(4,3),(5,4),(6,70)],7,0,bm,[.int .i64 0,.int .i64 0,.int .i64 0,.int .i64 0,.int .i64 0,.bool false,.nil]⟩),
 (73,⟨.struct [(0,3),(1,3),(2,3),(3,3),(4,68),(11,69),(13,72),(20,3),(21,3)],22,0,aa,[.int .i64 0,.int .i64 0,.int .i64 0,.int .i64 0,.int .i64 0,.int .i64 0,.int .i64 0,.int .i64 0,.int .i64 0,.int .i64 0,.int .i64 0,.int .i64 0,.int .i64 0,.int .i64 0,.int .i64 0,.int .i64 0,.int .i64 0,.int .i64 0,.bool false,.nil,.int .i64 0,.int .i64 0]⟩),
 (74,⟨.struct [(0,3),(1,3),(2,3),(3,3),(4,68),(11,69),(13,72),(20,3),(21,3)],22,0,aa,[.int .i64 0,.int .i64 0,.int .i64 0,.int .i64 0,.int .i64 0,.int .i64 0,.int .i64 0,.int .i64 0,.int .i64 0,.int .i64 0,.int .i64 0,.int .i64 0,.int .i64 0,.int .i64 0,.int .i64 0,.int .i64 0,.int .i64 0,.int .i64 0,.bool false,.nil,.int .i64 0,.int .i64 0]⟩),
 (75,⟨.struct [(0,3),(1,74),(23,3),(24,70)],25,0,T_Order,[.int .i64 0,.int .i64 0,.int .i64 0,.int .i64 0,.int .i64 0,.int .i64 0,.int .i64 0,.int .i64 0,.int .i64 0,.int .i64 0,.int .i64 0,.int .i64 0,.int .i64 0,.int .i64 0,.int .i64 0,.int .i64 0,.int .i64 0,.int .i64 0,.int .i64 0,.bool false,.nil,.int .i64 0,.int .i64 0,.int .i64 0,.nil]⟩),
 (76,⟨.struct [(0,3),(1,74),(23,3),(24,70)],25,0,T_Order,[.int .i64 0,.int .i64 0,.int .i64 0,.int .i64 0,.int .i64 0,.int .i64 0,.int .i64 0,.int .i64 0,.int .i64 0,.int .i64 0,.int .i64 0,.int .i64 0,.int .i64 0,.int .i64 0,.int .i64 0,.int .i64 0,.int .i64 0,.int .i64 0,.int .i64 0,.bool false,.nil,.int .i64 0,.int .i64 0,.int .i64 0,.nil]⟩),
 (85,⟨.slice 76,1,0,(.slice T_Order),[.nil]⟩),
 (89,⟨.slice 45,1,0,(.slice T_Order),[.nil]⟩),
 (100,⟨.struct [(0,3),(1,3),(2,3),(3,3),(4,3),(5,3),(6,3),(7,3),(8,3),(9,3),(10,3),(11,4),(12,4)],13,0,ah,[.int .i64 0,.int .i64 0,.int .i64 0,.int .i64 0,.int .i64 0,.int .i64 0,.int .i64 0,.int .i64 0,.int .i64 0,.int .i64 0,.int .i64 0,.bool false,.bool false]⟩),
 (101,⟨.struct [(0,3),(1,3),(2,3),(3,3),(4,3),(5,3),(6,3),(7,3),(8,3),(9,3),(10,3),(11,4),(12,4)],13,0,ah,[.int .i64 0,.int .i64 0,.int .i64 0,.int .i64 0,.int .i64 0,.int .i64 0,.int .i64 0,.int .i64 0,.int .i64 0,.int .i64 0,.int .i64 0,.bool false,.bool false]⟩),
 (102,⟨.struct [(0,3),(1,3),(2,3),(3,101)],16,0,af,[.int .i64 0,.int .i64 0,.int .i64 0,.int .i64 0,.int .i64 0,.int .i64 0,.int .i64 0,.int .i64 0,.int .i64 0,.int .i64 0,.int .i64 0,.int .i64 0,.int .i64 0,.int .i64 0,.bool false,.bool false]⟩),
 (103,⟨.struct [(0,3),(1,3),(2,3),(3,101)],16,0,af,[.int .i64 0,.int .i64 0,.int .i64 0,.int .i64 0,.int .i64 0,.int .i64 0,.int .i64 0,.int .i64 0,.int .i64 0,.int .i64 0,.int .i64 0,.int .i64 0,.int .i64 0,.int .i64 0,.bool false,.bool false]⟩),
 (105,⟨.struct [(0,3),(1,3),(2,3),(3,3),(4,3),(5,3),(6,4)],7,0,ac,[.int .i64 0,.int .i64 0,.int .i64 0,.int .i64 0,.int .i64 0,.int .i64 0,.bool false]⟩),
 (106,⟨.struct [(0,3),(1,3),(2,3),(3,3),(4,3),(5,3),(6,4)],7,0,ac,[.int .i64 0,.int .i64 0,.int .i64 0,.int .i64 0,.int .i64 0,.int .i64 0,.bool false]⟩),
 (109,⟨.struct [(0,39),(1,28),(2,29),(3,32)],4,0,ba,[.nil,.nil,.nil,.nil]⟩),
 (110,⟨.struct [(0,39),(1,28),(2,29),(3,32)],4,0,ba,[.nil,.nil,.nil,.nil]⟩),
 (114,⟨.struct [(0,3),(1,3),(2,3),(3,3),(4,3),(5,3),(6,4)],7,0,ac,[.int .i64 0,.int .i64 0,.int .i64 0,.int .i64 0,.int .i64 0,.int .i64 0,.bool false]⟩),
 (156,⟨.other,1,0,.unit,[.undef]⟩),
 (158,⟨.struct [(0,3),(1,114),(8,3),(9,3),(10,101)],23,0,ai,[.int .i64 0,.int .i64 0,.int .i64 0,.int .i64 0,.int .i64 0,.int .i64 0,.int .i64 0,.bool false,.int .i64 0,.int .i64 0,.int .i64 0,.int .i64 0,.int .i64 0,.int .i64 0,.int .i64 0,.int .i64 0,.int .i64 0,.int .i64 0,.int .i64 0,.int .i64 0,.int .i64 0,.bool false,.bool false]⟩),
 (159,⟨.struct [(0,3),(1,114),(8,3),(9,3),(10,101)],23,0,ai,[.int .i64 0,.int .i64 0,.int .i64 0,.int .i64 0,.int .i64 0,.int .i64 0,.int .i64 0,.bool false,.int .i64 0,.int .i64 0,.int .i64 0,.int .i64 0,.int .i64 0,.int .i64 0,.int .i64 0,.int .i64 0,.int .i64 0,.int .i64 0,.int .i64 0,.int .i64 0,.int .i64 0,.bool false,.bool false]⟩),
 (161,⟨.struct [(0,3),(1,3),(2,3),(3,3),(4,114),(11,39),(12,3),(13,3)],14,0,ar,[.int .i64 0,.int .i64 0,.int .i64 0,.int .i64 0,.int .i64 0,.int .i64 0,.int .i64 0,.int .i64 0,.int .i64 0,.int .i64 0,.bool false,.nil,.int .i64 0,.int .i64 0]⟩),
 (162,⟨.struct [(0,3),(1,3),(2,3),(3,3),(4,114),(11,39),(12,3),(13,3)],14,0,ar,[.int .i64 0,.int .i64 0,.int .i64 0,.int .i64 0,.int .i64 0,.int .i64 0,.int .i64 0,.int .i64 0,.int .i64 0,.int .i64 0,.bool false,.nil,.int .i64 0,.int .i64 0]⟩),
 (166,⟨.other,1,0,.unit,[.undef]⟩),
 (190,⟨.other,1,0,.unit,[.undef]⟩),
 (191,⟨.struct [(0,27),(4,28),(5,29),(6,39),(7,32)],8,0,PI,[.nil,.nil,.int .i64 0,.int .i64 0,.nil,.nil,.nil,.nil]⟩),
 (192,⟨.struct [(0,27),(4,28),(5,29),(6,39),(7,32)],8,0,PI,[.nil,.nil,.int .i64 0,.int .i64 0,.nil,.nil,.nil,.nil]⟩),
 (193,⟨.other,1,0,.unit,[.undef]⟩),
 (197,⟨.other,1,0,.unit,[.undef]⟩),
 (198,⟨.other,1,0,.unit,[.undef]⟩),
 (200,⟨.struct [(0,27),(4,110),(8,198),(9,166)],10,0,.unit,[.nil,.nil,.int .i64 0,.int .i64 0,.nil,.nil,.nil,.nil,.undef,.undef]⟩),
 (221,⟨.other,1,0,.unit,[.undef]⟩),
 (223,⟨.struct [(0,3),(1,3),(2,4)],3,0,au,[.int .i64 0,.int .i64 0,.bool false]⟩),
 (224,⟨.struct [(0,3),(1,3),(2,4)],3,0,au,[.int .i64 0,.int .i64 0,.bool false]⟩),
 (226,⟨.other,1,0,.unit,[.undef]⟩),
 (227,⟨.other,1,0,.unit,[.undef]⟩),
 (257,⟨.struct [(0,3),(1,3),(2,3),(3,3),(4,106),(11,70),(12,3),(13,3)],14,0,ar,[.int .i64 0,.int .i64 0,.int .i64 0,.int .i64 0,.int .i64 0,.int .i64 0,.int .i64 0,.int .i64 0,.int .i64 0,.int .i64 0,.bool false,.nil,.int .i64 0,.int .i64 0]⟩),
 (258,⟨.struct [(0,3),(1,3),(2,3),(3,3),(4,106),(11,70),(12,3),(13,3)],14,0,ar,[.int .i64 0,.int .i64 0,.int .i64 0,.int .i64 0,.int .i64 0,.int .i64 0,.int .i64 0,.int .i64 0,.int .i64 0,.int .i64 0,.bool false,.nil,.int .i64 0,.int .i64 0]⟩),
 (261,⟨.struct [(0,3),(1,3),(2,3),(3,3),(4,3),(5,3),(6,3),(7,3),(8,3),(9,3),(10,3),(11,4),(12,4)],13,0,ah,[.int .i64 0,.int .i64 0,.int .i64 0,.int .i64 0,.int .i64 0,.int .i64 0,.int .i64 0,.int .i64 0,.int .i64 0,.int .i64 0,.int .i64 0,.bool false,.bool false]⟩),
 (262,⟨.struct [(0,3),(1,3),(2,3),(3,261)],16,0,af,[.int .i64 0,.int .i64 0,.int .i64 0,.int .i64 0,.int .i64 0,.int .i64 0,.int .i64 0,.int .i64 0,.int .i64 0,.int .i64 0,.int .i64 0,.int .i64 0,.int .i64 0,.int .i64 0,.bool false,.bool false]⟩),
 (263,⟨.struct [(0,3),(1,3),(2,3),(3,261)],16,0,af,[.int .i64 0,.int .i64 0,.int .i64 0,.int .i64 0,.int .i64 0,.int .i64 0,.int .i64 0,.int .i64 0,.int .i64 0,.int .i64 0,.int .i64 0,.int .i64 0,.int .i64 0,.int .i64 0,.bool false,.bool false]⟩),
 (265,⟨.struct [(0,3),(1,106),(8,3),(9,3),(10,261)],23,0,ai,[.int .i64 0,.int .i64 0,.int .i64 0,.int .i64 0,.int .i64 0,.int .i64 0,.int .i64 0,.bool false,.int .i64 0,.int .i64 0,.int .i64 0,.int .i64 0,.int .i64 0,.int .i64 0,.int .i64 0,.int .i64 0,.int .i64 0,.int .i64 0,.int .i64 0,.int .i64 0,.int .i64 0,.bool false,.bool false]⟩),
 (266,⟨.struct [(0,3),(1,106),(8,3),(9,3),(10,261)],23,0,ai,[.int .i64 0,.int .i64 0,.int .i64 0,.int .i64 0,.int .i64 0,.int .i64 0,.int .i64 0,.bool false,.int .i64 0,.int .i64 0,.int .i64 0,.int .i64 0,.int .i64 0,.int .i64 0,.int .i64 0,.int .i64 0,.int .i64 0,.int .i64 0,.int .i64 0,.int .i64 0,.int .i64 0,.bool false,.bool false]⟩),
 (289,⟨.struct [(0,3),(1,3),(2,4)],3,0,au,[.int .i64 0,.int .i64 0,.bool false]⟩),
 (297,⟨.slice 39,1,0,(.slice (.slice ac)),[.nil]⟩),
 (299,⟨.slice 32,1,0,(.slice (.slice ar)),[.nil]⟩),
 (315,⟨.other,1,0,.unit,[.undef]⟩),
 (319,⟨.slice 30,1,0,(.slice (.slice af)),[.nil]⟩),
 (320,⟨.slice 31,1,0,(.slice (.slice ai)),[.nil]⟩),
 (344,⟨.other,1,0,.unit,[.undef]⟩)]
def UI:Tab:=[
 (3,⟨.int .i64,1,0,(.int .i64),[.int .i64 0]⟩),
 (4,⟨.bool,1,0,.bool,[.bool false]⟩),
 (24,⟨.slice 101,1,0,(.slice ah),[.nil]⟩),
 (25,⟨.slice 224,1,0,(.slice au),[.nil]⟩),
 (26,⟨.struct [(0,24),(1,25),(2,3),(3,3)],4,0,ae,[.nil,.nil,.int .i64 0,.int .i64 0]⟩),
 (27,⟨.struct [(0,24),(1,25),(2,3),(3,3)],4,0,ae,[.nil,.nil,.int .i64 0,.int .i64 0]⟩),
 (28,⟨.slice 43,1,0,(.slice aa),[.nil]⟩),
 (29,⟨.slice 3,1,0,(.slice (.int .i64)),[.nil]⟩),
 (30,⟨.slice 103,1,0,(.slice af),[.nil]⟩),
 (31,⟨.slice 159,1,0,(.slice ai),[.nil]⟩),
 (32,⟨.slice 162,1,0,(.slice dV),[.nil]⟩),
 (33,⟨.struct [(0,27),(4,28),(5,29),(6,30),(7,31),(8,32)],9,0,U0,[.nil,.nil,.int .i64 0,.int .i64 0,.nil,.nil,.nil,.nil,.nil]⟩),
 (34,⟨.struct [(0,27),(4,28),(5,29),(6,30),(7,31),(8,32)],9,0,U0,[.nil,.nil,.int .i64 0,.int .i64 0,.nil,.nil,.nil,.nil,.nil]⟩),
 (35,⟨.struct [(0,3),(1,3),(2,3),(3,3),(4,3),(5,3),(6,3)],7,0,cp,[.int .i64 0,.int .i64 0,.int .i64 0,.int .i64 0,.int .i64 0,.int .i64 0,.int .i64 0]⟩),
 (36,⟨.struct [(0,3),(1,3),(2,3),(3,3),(4,3),(5,3),(6,3)],7,0,cp,[.int .i64 0,.int .i64 0,.int .i64 0,.int .i64 0,.int .i64 0,.int .i64 0,.int .i64 0]⟩),
 (37,⟨.struct [(0,3),(1,3)],2,0,bc,[.int .i64 0,.int .i64 0]⟩),
 (38,⟨.struct [(0,3),(1,3)],2,0,bc,[.int .i64 0,.int .i64 0]⟩),
 (39,⟨.slice 114,1,0,(.slice ac),[.nil]⟩),
 (40,⟨.struct [(0,3),(1,3),(2,3),(3,3),(4,3),(5,4),(6,39)],7,0,bm,[.int .i64 0,.int .i64 0,.int .i64 0,.int .i64 0,.int .i64 0,.bool false,.nil]⟩),
 (41,⟨.struct [(0,3),(1,3),(2,3),(3,3),(4,3),(5,4),(6,39)],7,0,bm,[.int .i64 0,.int .i64 0,.int .i64 0,.int .i64 0,.int .i64 0,.bool false,.nil]⟩),
 (42,⟨.struct [(0,3),(1,3),(2,3),(3,3),(4,36),(11,38),(13,41),(20,3),(21,3)],22,0,aa,[.int .i64 0,.int .i64 0,.int .i64 0,.int .i64 0,.int .i64 0,.int .i64 0,.int .i64 0,.int .i64 0,.int .i64 0,.int .i64 0,.int .i64 0,.int .i64 0,.int .i64 0,.int .i64 0,.int .i64 0,.int .i64 0,.int .i64 0,.int .i64 0,.bool false,.nil,.int .i64 0,.int .i64 0]⟩),
 (43,⟨.struct [(0,3),(1,3),(2,3),(3,3),(4,36),(11,38),(13,41),(20,3),(21,3)],22,0,aa,[.int .i64 0,.int .i64 0,.int .i64 0,.int .i64 0,.int .i64 0,.int .i64 0,.int .i64 0,.int .i64 0,.int .i64 0,.int .i64 0,.int .i64 0,.int .i64 0,.int .i64 0,.int .i64 0,.int .i64 0,.int .i64 0,.int .i64 0,.int .i64 0,.bool false,.nil,.int .i64 0,.int .i64 0]⟩),
 (44,⟨.struct [(0,3),(1,43),(23,3),(24,39)],25,0,T_Order,[.int .i64 0,.int .i64 0,.int .i64 0,.int .i64 0,.int .i64 0,.int .i64 0,.int .i64 0,.int .i64 0,.int .i64 0,.int .i64 0,.int .i64 0,.int .i64 0,.int .i64 0,.int .i64 0,.int .i64 0,.int .i64 0,.int .i64 0,.int .i64 0,.int .i64 0,.bool false,.nil,.int .i64 0,.int .i64 0,.int .i64 0,.nil]⟩),
 (45,⟨.struct [(0,3),(1,43),(23,3),(24,39)],25,0,T_Order,[.int .i64 0,.int .i64 0,.int .i64 0,.int .i64 0,.int .i64 0,.int .i64 0,.int .i64 0,.int .i64 0,.int .i64 0,.int .i64 0,.int .i64 0,.int .i64 0,.int .i64 0,.int .i64 0,.int .i64 0,.int .i64 0,.int .i64 0,.int .i64 0,.int .i64 0,.bool false,.nil,.int .i64 0,.int .i64 0,.int .i64 0,.nil]⟩),
 (58,⟨.slice 261,1,0,(.slice ah),[.nil]⟩),
 (59,⟨.slice 289,1,0,(.slice au),[.nil]⟩),
 (60,⟨.struct [(0,58),(1,59),(2,3),(3,3)],4,0,ae,[.nil,.nil,.int .i64 0,.int .i64 0]⟩),
 (61,⟨.struct [(0,58),(1,59),(2,3),(3,3)],4,0,ae,[.nil,.nil,.int .i64 0,.int .i64 0]⟩),
 (62,⟨.slice 74,1,0,(.slice aa),[.nil]⟩),
 (63,⟨.slice 263,1,0,(.slice af),[.nil]⟩),
 (64,⟨.slice 266,1,0,(.slice ai),[.nil]⟩),
 (65,⟨.slice 258,1,0,(.slice ar),[.nil]⟩),
 (66,⟨.struct [(0,61),(4,62),(5,29),(6,63),(7,64),(8,65)],9,0,T_Game,[.nil,.nil,.int .i64 0,.int .i64 0,.nil,.nil,.nil,.nil,.nil]⟩),
 (67,⟨.struct [(0,61),(4,62),(5,29),(6,63),(7,64),(8,65)],9,0,T_Game,[.nil,.nil,.int .i64 0,.int .i64 0,.nil,.nil,.nil,.nil,.nil]⟩),
 (68,⟨.struct [(0,3),(1,3),(2,3),(3,3),(4,3),(5,3),(6,3)],7,0,cp,[.int .i64 0,.int .i64 0,.int .i64 0,.int .i64 0,.int .i64 0,.int .i64 0,.int .i64 0]⟩),
 (69,⟨.struct [(0,3),(1,3)],2,0,bc,[.int .i64 0,.int .i64 0]⟩),
 (70,⟨.slice 106,1,0,(.slice ac),[.nil]⟩),
 (71,⟨.struct [(0,3),(1,3),(2,3),(3,3),(4,3),(5,4),(6,70)],7,0,bm,[.int .i64 0,.int .i64 0,.int .i64 0,.int .i64 0,.int .i64 0,.bool false,.nil]⟩),
 (72,⟨.struct [(0,3),(1,3),(2,3),(3,3),(4,3),(5,4),(6,70)],7,0,bm,[.int .i64 0,.int .i64 0,.int .i64 0,.int .i64 0,.int .i64 0,.bool false,.nil]⟩),
 (73,⟨.struct [(0,3),(1,3),(2,3),(3,3),(4,68),(11,69),(13,72),(20,3),(21,3)],22,0,aa,[.int .i64 0,.int .i64 0,.int .i64 0,.int .i64 0,.int .i64 0,.int .i64 0,.int .i64 0,.int .i64 0,.int .i64 0,.int .i64 0,.int .i64 0,.int .i64 0,.int .i64 0,.int .i64 0,.int .i64 0,.int .i64 0,.int .i64 0,.int .i64 0,.bool false,.nil,.int .i64 0,.int .i64 0]⟩),
 (74,⟨.struct [(0,3),(1,3),(2,3),(3,3),(4,68),(11,69),(13,72),(20,3),(21,3)],22,0,aa,[.int .i64 0,.int .i64 0,.int .i64 0,.int .i64 0,.int .i64 0,.int .i64 0,.int .i64 0,.int .i64 0,.int .i64 0,.int .i64 0,.int .i64 0,.int .i64 0,.int .i64 0,.int .i64 0,.int .i64 0,.int .i64 0,.int .i64 0,.int .i64 0,.bool false,.nil,.int .i64 0,.int .i64 0]⟩),
 (75,⟨.struct [(0,3),(1,74),(23,3),(24,70)],25,0,T_Order,[.int .i64 0,.int .i64 0,.int .i64 0,.int .i64 0,.int .i64 0,.int .i64 0,.int .i64 0,.int .i64 0,.int .i64 0,.int .i64 0,.int .i64 0,.int .i64 0,.int .i64 0,.int .i64 0,.int .i64 0,.int .i64 0,.int .i64 0,.int .i64 0,.int .i64 0,.bool false,.nil,.int .i64 0,.int .i64 0,.int .i64 0,.nil]⟩),
 (76,⟨.struct [(0,3),(1,74),(23,3),(24,70)],25,0,T_Order,[.int .i64 0,.int .i64 0,.int .i64 0,.int .i64 0,.int .i64 0,.int .i64 0,.int .i64 0,.int .i64 0,.int .i64 0,.int .i64 0,.int .i64 0,.int .i64 0,.int .i64 0,.int .i64 0,.int .i64 0,.int .i64 0,.int .i64 0,.int .i64 0,.int .i64 0,.bool false,.nil,.int .i64 0,.int .i64 0,.int .i64 0,.nil]⟩),
 (85,⟨.slice 76,1,0,(.slice T_Order),[.nil]⟩),
 (89,⟨.slice 45,1,0,(.slice T_Order),[.nil]⟩),
 (100,⟨.struct [(0,3),(1,3),(2,3),(3,3),(4,3),(5,3),(6,3),(7,3),(8,3),(9,3),(10,3),(11,4),(12,4)],13,0,ah,[.int .i64 0,.int .i64 0,.int .i64 0,.int .i64 0,.int .i64 0,.int .i64 0,.int .i64 0,.int .i64 0,.int .i64 0,.int .i64 0,.int .i64 0,.bool false,.bool false]⟩),
 (101,⟨.struct [(0,3),(1,3),(2,3),(3,3),(4,3),(5,3),(6,3),(7,3),(8,3),(9,3),(10,3),(11,4),(12,4)],13,0,ah,[.int .i64 0,.int .i64 0,.int .i64 0,.int .i64 0,.int .i64 0,.int .i64 0,.int .i64 0,.int .i64 0,.int .i64 0,.int .i64 0,.int .i64 0,.bool false,.bool false]⟩),
 (102,⟨.struct [(0,3),(1,3),(2,3),(3,101)],16,0,af,[.int .i64 0,.int .i64 0,.int .i64 0,.int .i64 0,.int .i64 0,.int .i64 0,.int .i64 0,.int .i64 0,.int .i64 0,.int .i64 0,.int .i64 0,.int .i64 0,.int .i64 0,.int .i64 0,.bool false,.bool false]⟩),
 (103,⟨.struct [(0,3),(1,3),(2,3),(3,101)],16,0,af,[.int .i64 0,.int .i64 0,.int .i64 0,.int .i64 0,.int .i64 0,.int .i64 0,.int .i64 0,.int .i64 0,.int .i64 0,.int .i64 0,.int .i64 0,.int .i64 0,.int .i64 0,.int .i64 0,.bool false,.bool false]⟩),
 (105,⟨.struct [(0,3),(1,3),(2,3),(3,3),(4,3),(5,3),(6,4)],7,0,ac,[.int .i64 0,.int .i64 0,.int .i64 0,.int .i64 0,.int .i64 0,.int .i64 0,.bool false]⟩),
 (106,⟨.struct [(0,3),(1,3),(2,3),(3,3),(4,3),(5,3),(6,4)],7,0,ac,[.int .i64 0,.int .i64 0,.int .i64 0,.int .i64 0,.int .i64 0,.int .i64 0,.bool false]⟩),
 (109,⟨.struct [(0,39),(1,28),(2,29),(3,32)],4,0,vO,[.nil,.nil,.nil,.nil]⟩),
 (110,⟨.struct [(0,39),(1,28),(2,29),(3,32)],4,0,vO,[.nil,.nil,.nil,.nil]⟩),
 (114,⟨.struct [(0,3),(1,3),(2,3),(3,3),(4,3),(5,3),(6,4)],7,0,ac,[.int .i64 0,.int .i64 0,.int .i64 0,.int .i64 0,.int .i64 0,.int .i64 0,.bool false]⟩),
 (156,⟨.other,1,0,.unit,[.undef]⟩),
 (158,⟨.struct [(0,3),(1,114),(8,3),(9,3),(10,101)],23,0,ai,[.int .i64 0,.int .i64 0,.int .i64 0,.int .i64 0,.int .i64 0,.int .i64 0,.int .i64 0,.bool false,.int .i64 0,.int .i64 0,.int .i64 0,.int .i64 0,.int .i64 0,.int .i64 0,.int .i64 0,.int .i64 0,.int .i64 0,.int .i64 0,.int .i64 0,.int .i64 0,.int .i64 0,.bool false,.bool false]⟩),
 (159,⟨.struct [(0,3),(1,114),(8,3),(9,3),(10,101)],23,0,ai,[.int .i64 0,.int .i64 0,.int .i64 0,.int .i64 0,.int .i64 0,.int .i64 0,.int .i64 0,.bool false,.int .i64 0,.int .i64 0,.int .i64 0,.int .i64 0,.int .i64 0,.int .i64 0,.int .i64 0,.int .i64 0,.int .i64 0,.int .i64 0,.int .i64 0,.int .i64 0,.int .i64 0,.bool false,.bool false]⟩),
 (161,⟨.struct [(0,3),(1,3),(2,3),(3,3),(4,114),(11,39),(12,3),(13,3)],14,0,ar,[.int .i64 0,.int .i64 0,.int .i64 0,.int .i64 0,.int .i64 0,.int .i64 0,.int .i64 0,.int .i64 0,.int .i64 0,.int .i64 0,.bool false,.nil,.int .i64 0,.int .i64 0]⟩),
 (162,⟨.struct [(0,3),(1,3),(2,3),(3,3),(4,114),(11,39),(12,3),(13,3)],14,0,dV,[.int .i64 0,.int .i64 0,.int .i64 0,.int .i64 0,.int .i64 0,.int .i64 0,.int .i64 0,.int .i64 0,.int .i64 0,.int .i64 0,.bool false,.nil,.int .i64 0,.int .i64 0]⟩),
 (166,⟨.other,1,0,.unit,[.undef]⟩),
 (190,⟨.other,1,0,.unit,[.undef]⟩),
 (191,⟨.struct [(0,27),(4,28),(5,29),(6,39),(7,32)],8,0,TZ,[.nil,.nil,.int .i64 0,.int .i64 0,.nil,.nil,.nil,.nil]⟩),
 (192,⟨.struct [(0,27),(4,28),(5,29),(6,39),(7,32)],8,0,TZ,[.nil,.nil,.int .i64 0,.int .i64 0,.nil,.nil,.nil,.nil]⟩),
 (193,⟨.other,1,0,.unit,[.undef]⟩),
 (197,⟨.other,1,0,.unit,[.undef]⟩),
 (198,⟨.other,1,0,.unit,[.undef]⟩),
 (200,⟨.struct [(0,27),(4,110),(8,198),(9,166)],10,0,.unit,[.nil,.nil,.int .i64 0,.int .i64 0,.nil,.nil,.nil,.nil,.undef,.undef]⟩),
 (221,⟨.other,1,0,.unit,[.undef]⟩),
 (223,⟨.struct [(0,3),(1,3),(2,4)],3,0,au,[.int .i64 0,.int .i64 0,.bool false]⟩),
 (224,⟨.struct [(0,3),(1,3),(2,4)],3,0,au,[.int .i64 0,.int .i64 0,.bool false]⟩),
 (226,⟨.other,1,0,.unit,[.undef]⟩),
 (227,⟨.other,1,0,.unit,[.undef]⟩),
 (257,⟨.struct [(0,3),(1,3),(2,3),(3,3),(4,106),(11,70),(12,3),(13,3)],14,0,ar,[.int .i64 0,.int .i64 0,.int .i64 0,.int .i64 0,.int .i64 0,.int .i64 0,.int .i64 0,.int .i64 0,.int .i64 0,.int .i64 0,.bool false,.nil,.int .i64 0,.int .i64 0]⟩),
 (258,⟨.struct [(0,3),(1,3),(2,3),(3,3),(4,106),(11,70),(12,3),(13,3)],14,0,ar,[.int .i64 0,.int .i64 0,.int .i64 0,.int .i64 0,.int .i64 0,.int .i64 0,.int .i64 0,.int .i64 0,.int .i64 0,.int .i64 0,.bool false,.nil,.int .i64 0,.int .i64 0]⟩),
 (261,⟨.struct [(0,3),(1,3),(2,3),(3,3),(4,3),(5,3),(6,3),(7,3),(8,3),(9,3),(10,3),(11,4),(12,4)],13,0,ah,[.int .i64 0,.int .i64 0,.int .i64 0,.int .i64 0,.int .i64 0,.int .i64 0,.int .i64 0,.int .i64 0,.int .i64 0,.int .i64 0,.int .i64 0,.bool false,.bool false]⟩),
 (262,⟨.struct [(0,3),(1,3),(2,3),(3,261)],16,0,af,[.int .i64 0,.int .i64 0,.int .i64 0,.int .i64 0,.int .i64 0,.int .i64 0,.int .i64 0,.int .i64 0,.int .i64 0,.int .i64 0,.int .i64 0,.int .i64 0,.int .i64 0,.int .i64 0,.bool false,.bool false]⟩),
 (263,⟨.struct [(0,3),(1,3),(2,3),(3,261)],16,0,af,[.int .i64 0,.int .i64 0,.int .i64 0,.int .i64 0,.int .i64 0,.int .i64 0,.int .i64 0,.int .i64 0,.int .i64 0,.int .i64 0,.int .i64 0,.int .i64 0,.int .i64 0,.int .i64 0,.bool false,.bool false]⟩),
 (265,⟨.struct [(0,3),(1,106),(8,3),(9,3),(10,261)],23,0,ai,[.int .i64 0,.int .i64 0,.int .i64 0,.int .i64 0,.int .i64 0,.int .i64 0,.int .i64 0,.bool false,.int .i64 0,.int .i64 0,.int .i64 0,.int .i64 0,.int .i64 0,.int .i64 0,.int .i64 0,.int .i64 0,.int .i64 0,.int .i64 0,.int .i64 0,.int .i64 0,.int .i64 0,.bool false,.bool false]⟩),
 (266,⟨.struct [(0,3),(1,106),(8,3),(9,3),(10,261)],23,0,ai,[.int .i64 0,.int .i64 0,.int .i64 0,.int .i64 0,.int .i64 0,.int .i64 0,.int .i64 0,.bool false,.int .i64 0,.int .i64 0,.int .i64 0,.int .i64 0,.int .i64 0,.int .i64 0,.int .i64 0,.int .i64 0,.int .i64 0,.int .i64 0,.int .i64 0,.int .i64 0,.int .i64 0,.bool false,.bool false]⟩),
 (289,⟨.struct [(0,3),(1,3),(2,4)],3,0,au,[.int .i64 0,.int .i64 0,.bool false]⟩),
 (297,⟨.slice 39,1,0,(.slice (.slice ac)),[.nil]⟩),
 (299,⟨.slice 32,1,0,(.slice (.slice dV)),[.nil]⟩),
 (315,⟨.other,1,0,.unit,[.undef]⟩),
 (319,⟨.slice 30,1,0,(.slice (.slice af)),[.nil]⟩),
 (320,⟨.slice 31,1,0,(.slice (.slice ai)),[.nil]⟩),
 (344,⟨.other,1,0,.unit,[.undef]⟩)]
theorem Rb:fU Tryz.prog UI:=H8 (by kernel_rfl)
theorem sU:fU Tryz.prog tab:=H8 (by kernel_rfl)
theorem mixed:Tryz.prog.follows .mixedOrders=true:=by kernel_rfl
abbrev KC (f:Nat) (c:Ct):Prop:=fC Tryz.prog f c
theorem En:aE Tryz.prog { T:=tab,G:=[] }:=aE.nil sU
theorem Ec {f:Nat} {ct:Ct} {G:List (Nat×Ct)} (h:fC Tryz.prog f ct) (hE:aE Tryz.prog { T:=tab,G:=G }):aE Tryz.prog { T:=tab,G:=(f,ct) :: G }:=aE.cons h hE
theorem pq {G:List (Nat×Ct)} (hE:aE Tryz.prog { T:=tab,G:=G }) {f:Nat} {fn:Func} {one fr:Bool} {a r:Ty} {F:a.D→Option r.D} (hs:Hints) (hf:Tryz.prog.funcs[f]?=some fn) (hok:ym fn one (go a)=true:=by kernel_rfl)
  (hev:∀ x,ev { T:=tab,G:=G } (f8 fn) hs (iF (kP a x) fn.ntmps) (Gx tab one fr fn.results.toList r)=F x:=by (intro x;kernel_rfl)):KC f (.pure one fr a r F):=vN hE mixed one fr a r F hs hf hok hev
theorem cq {G:List (Nat×Ct)} (hE:aE Tryz.prog { T:=tab,G:=G }) {f:Nat} {fn:Func} {a c r:Ty} {F:c.D→a.D→Option r.D} (hs:Hints) (hf:Tryz.prog.funcs[f]?=some fn) (hok:(ym fn true (go a + go c) && r.flat)=true:=by kernel_rfl)
  (hev:∀ z x,ev { T:=tab,G:=G } (f8 fn) hs (iF (kP a x++vF c z) fn.ntmps) (Gx tab true false fn.results.toList r)=F z x:=by (intro z x;kernel_rfl)):KC f (.clo a c r F):=Vk hE mixed a c r F hs hf hok hev
theorem mq {G:List (Nat×Ct)} (hE:aE Tryz.prog { T:=tab,G:=G }) {f:Nat} {fn:Func} {ms:List Md} {one fr:Bool} {a r:Ty} {F:a.D→Option (r.D×(fS ms a).D)} (hs:Hints) (hf:Tryz.prog.funcs[f]?=some fn) (hok:(M2 fn one ms && (fr || xU ms))=true:=by kernel_rfl)
  (hev:∀ x,(jx ms a x 0 (fF ms a x fn.ntmps) fun st=>ev { T:=tab,G:=G } (f8 fn) hs st (UB tab ms a one fr fn.results.toList r))=F x:=by (intro x;kernel_rfl)):KC f (.mut ms one fr a r F):=NN hE mixed ms one fr a r F hs hf hok hev
def UJ:Tab:=[
 (3,⟨.int .i64,1,0,(.int .i64),[.int .i64 0]⟩),
 (4,⟨.bool,1,0,.bool,[.bool false]⟩),
 (28,⟨.slice 43,1,0,(.slice aT),[.nil]⟩),
 (35,⟨.struct [(0,3),(1,3),(2,3),(3,3),(4,3),(5,3),(6,3)],7,0,cp,[.int .i64 0,.int .i64 0,.int .i64 0,.int .i64 0,.int .i64 0,.int .i64 0,.int .i64 0]⟩),
 (36,⟨.struct [(0,3),(1,3),(2,3),(3,3),(4,3),(5,3),(6,3)],7,0,cp,[.int .i64 0,.int .i64 0,.int .i64 0,.int .i64 0,.int .i64 0,.int .i64 0,.int .i64 0]⟩),
 (37,⟨.struct [(0,3),(1,3)],2,0,bc,[.int .i64 0,.int .i64 0]⟩),
 (38,⟨.struct [(0,3),(1,3)],2,0,bc,[.int .i64 0,.int .i64 0]⟩),
 (39,⟨.slice 114,1,0,(.slice ac),[.nil]⟩),
 (40,⟨.struct [(0,3),(1,3),(2,3),(3,3),(4,3),(5,4),(6,39)],7,0,bm,[.int .i64 0,.int .i64 0,.int .i64 0,.int .i64 0,.int .i64 0,.bool false,.nil]⟩),
 (41,⟨.struct [(0,3),(1,3),(2,3),(3,3),(4,3),(5,4),(6,39)],7,0,TY,[.int .i64 0,.int .i64 0,.int .i64 0,.int .i64 0,.int .i64 0,.bool false,.nil]⟩),
 (42,⟨.struct [(0,3),(1,3),(2,3),(3,3),(4,36),(11,38),(13,41),(20,3),(21,3)],22,0,aT,[.int .i64 0,.int .i64 0,.int .i64 0,.int .i64 0,.int .i64 0,.int .i64 0,.int .i64 0,.int .i64 0,.int .i64 0,.int .i64 0,.int .i64 0,.int .i64 0,.int .i64 0,.int .i64 0,.int .i64 0,.int .i64 0,.int .i64 0,.int .i64 0,.bool false,.nil,.int .i64 0,.int .i64 0]⟩),
 (43,⟨.struct [(0,3),(1,3),(2,3),(3,3),(4,36),(11,38),(13,41),(20,3),(21,3)],22,0,aT,[.int .i64 0,.int .i64 0,.int .i64 0,.int .i64 0,.int .i64 0,.int .i64 0,.int .i64 0,.int .i64 0,.int .i64 0,.int .i64 0,.int .i64 0,.int .i64 0,.int .i64 0,.int .i64 0,.int .i64 0,.int .i64 0,.int .i64 0,.int .i64 0,.bool false,.nil,.int .i64 0,.int .i64 0]⟩),
 (105,⟨.struct [(0,3),(1,3),(2,3),(3,3),(4,3),(5,3),(6,4)],7,0,ac,[.int .i64 0,.int .i64 0,.int .i64 0,.int .i64 0,.int .i64 0,.int .i64 0,.bool false]⟩),
 (114,⟨.struct [(0,3),(1,3),(2,3),(3,3),(4,3),(5,3),(6,4)],7,0,ac,[.int .i64 0,.int .i64 0,.int .i64 0,.int .i64 0,.int .i64 0,.int .i64 0,.bool false]⟩),
 (227,⟨.other,1,0,.unit,[.undef]⟩)]
theorem Rc:fU Tryz.prog UJ:=H8 (by kernel_rfl)
def da (a0:(List aT.D)) (a1:Int) (a2:Int):Option ((List aT.D)×Unit) :=
 if 0≤a1 then (if a1≤a2 then (if a2≤(a0.length:Int) then (
 if a2≤(a0.length:Int) then (if (a0.length:Int)≤(a0.length:Int) then (
 bif (a1 == a2) then (
 some (a0,()))
 else (
 if 0≤(0:Int) then (if (0:Int)≤a1 then (if a1≤(a0.length:Int) then (
 if 0≤a2 then (if a2≤(a0.length:Int) then (if (a0.length:Int)≤(a0.length:Int) then (
 if a2.toNat≤(a0.length:Int).toNat then (if a1.toNat + ((a0.length:Int).toNat - a2.toNat)≤a0.length then (
 let u1:(List aT.D):=a0.take (a1.toNat)++(a0.take ((a0.length:Int).toNat)).drop (a2.toNat)++a0.drop (a1.toNat + ((a0.length:Int).toNat - a2.toNat))
 if 0≤((a1.toNat + ((a0.length:Int).toNat - a2.toNat) - 0:Nat):Int) then (if ((a1.toNat + ((a0.length:Int).toNat - a2.toNat) - 0:Nat):Int)≤(a0.length:Int) then (if (a0.length:Int)≤(u1.length:Int) then (
 some ((((u1.take (((a1.toNat + ((a0.length:Int).toNat - a2.toNat) - 0:Nat):Int).toNat)++List.replicate ((a0.length:Int).toNat - ((a1.toNat + ((a0.length:Int).toNat - a2.toNat) - 0:Nat):Int).toNat) (0,0,0,0,(0,0,0,0,0,0,0,()),(0,0,()),(0,0,0,0,0,false,(none,0,0),()),0,0,())++u1.drop ((a0.length:Int).toNat)).take (a1.toNat + ((a0.length:Int).toNat - a2.toNat))).drop (0)),())) else none) else none) else none) else none) else none) else none) else none) else none) else none) else none) else none)) else none) else none) else none) else none) else none
def kS:Ct:=.mut [.tk,.rd,.rd] true true (.pair (.slice aT) (.pair (.int .i64) (.pair (.int .i64) .unit))) (.slice aT) (fun x=>da x.1 x.2.1 x.2.2.1)
theorem jG:fC Tryz.prog 212 kS:=NN (E:={ T:=UJ,G:=[] }) (aE.nil Rc) mixed (fn:=Tryz.f212) _ _ _ _ _ _ .none Tryz.func212 (by kernel_rfl) (fun x=>by kernel_rfl)
def bU (a0:(List aT.D)) (a1:((aT.D×Unit)→Option Bool)):Int→Option (Int⊕(Int⊕Int)):=fun s1 =>
 bif decide (s1 < (a0.length:Int)) then (
 idx a0 s1 fun x2 =>
(a1 (x2,())).bind fun y3 =>
 bif y3 then (
 some (.inr (.inr s1)))
 else (
 some (.inl (IntKind.wrap .i64 (s1 + 1)))))
 else (
 some (.inr (.inl s1)))
def cz (a0:(List aT.D)) (a1:((aT.D×Unit)→Option Bool)):Option Int :=
(al (bU a0 a1) 0).bind fun o4 =>
 match o4 with
| .inl s5=>(
 some (-1))
| .inr o6=>(
 some o6)
def ng:Hints:=(n0 (nd (n0 (nd (.node none (some ⟨[.tmp 8 (.int .i64)],[some 0],some [.tmp 4 (.int .i64)],[]⟩) .none .none) .none)) .none))
def fM:Ct:=.pure true false (.pair (.slice aT) (.pair (.fn (.pair aT .unit) .bool) .unit)) (.int .i64) (fun x=>cz x.1 x.2.1)
theorem lT:fC Tryz.prog 207 fM:=vN (E:={ T:=UJ,G:=[] }) (aE.nil Rc) mixed (fn:=Tryz.f207) _ _ _ _ _ ng Tryz.func207 (by kernel_rfl) (fun x=>by kernel_rfl)
def bq (a1:((aT.D×Unit)→Option Bool)):((List aT.D)×(Int×Int))→Option (((List aT.D)×(Int×Int))⊕((List aT.D)×(Int×Int))):=fun s3 =>
 bif decide (s3.2.2 < (s3.1.length:Int)) then (
 idx s3.1 s3.2.2 fun _ =>
(s3.1[(s3.2.2:Int).toNat]?).bind fun x4 =>
(a1 (x4,())).bind fun y5 =>
((bif (!y5) then (
 idx s3.1 s3.2.1 fun _ =>
(s3.1[(s3.2.1:Int).toNat]?).bind fun x6 =>
 let u7:(List aT.D):=s3.1.set (s3.2.1:Int).toNat x4
 some (u7,IntKind.wrap .i64 (s3.2.1 + 1)))
 else (
 some (s3.1,s3.2.1))):Option ((List aT.D)×Int)).bind fun o8 =>
 some (.inl (o8.1,o8.2,IntKind.wrap .i64 (s3.2.2 + 1))))
 else (
 some (.inr s3))
def ck (a0:(List aT.D)) (a1:((aT.D×Unit)→Option Bool)):Option ((List aT.D)×Unit) :=
(cz a0 a1).bind fun y1 =>
 bif (y1 == (-1)) then (
 some (a0,()))
 else (
(al (bq a1) (a0,y1,IntKind.wrap .i64 (y1 + 1))).bind fun o9 =>
 if 0≤o9.2.1 then (if o9.2.1≤(o9.1.length:Int) then (if (o9.1.length:Int)≤(o9.1.length:Int) then (
 if 0≤(0:Int) then (if (0:Int)≤o9.2.1 then (if o9.2.1≤((o9.1.take (o9.2.1.toNat)++List.replicate ((o9.1.length:Int).toNat - o9.2.1.toNat) (0,0,0,0,(0,0,0,0,0,0,0,()),(0,0,()),(0,0,0,0,0,false,(none,0,0),()),0,0,())++o9.1.drop ((o9.1.length:Int).toNat)).length:Int) then (
 some ((((o9.1.take (o9.2.1.toNat)++List.replicate ((o9.1.length:Int).toNat - o9.2.1.toNat) (0,0,0,0,(0,0,0,0,0,0,0,()),(0,0,()),(0,0,0,0,0,false,(none,0,0),()),0,0,())++o9.1.drop ((o9.1.length:Int).toNat)).take (o9.2.1.toNat)).drop ((0:Int).toNat)),())) else none) else none) else none) else none) else none) else none)
def lU:Hints:=(n0 (n0 (n0 (nd (n0 (nd (.node none (some ⟨[.tmpO 0 1 (.slice aT),.tmp 5 (.int .i64),.tmp 6 (.int .i64)],[some 0],none,[]⟩) (n0 (nd (nd (n0 (n0 (cu ⟨[.tmpO 0 2 (.slice aT),.tmp 5 (.int .i64)],[none],none,[(0,1)]⟩))) .none) .none)) .none) .none)) .none))))
def iH:Ct:=.mut [.tk,.rd] true true (.pair (.slice aT) (.pair (.fn (.pair aT .unit) .bool) .unit)) (.slice aT) (fun x=>ck x.1 x.2.1)
theorem it:fC Tryz.prog 219 iH:=NN (E:={ T:=UJ,G:=[(207,fM)] }) (aE.cons lT (aE.nil Rc)) mixed (fn:=Tryz.f219) _ _ _ _ _ _ lU Tryz.func219 (by kernel_rfl) (fun x=>by kernel_rfl)
def jH (a0:(List ah.D)) (a1:Int):Option Int :=
 bif decide ((IntKind.wrap .i64 (a1 - (a0.length:Int))) < 0) then (
 some (-1))
 else (
 some (IntKind.wrap .i64 (a1 - (a0.length:Int))))
def Gz:Ct:=.pure true false (.pair (.slice ah) (.pair (.int .i64) .unit)) (.int .i64) (fun x=>jH x.1 x.2.1)
theorem ET:KC 156 Gz:=pq En .none Tryz.func156
def lV (a0:(List au.D)) (a1:Int):Option Int :=
 bif decide ((IntKind.wrap .i64 (a1 - (a0.length:Int))) < 0) then (
 some (-1))
 else (
 some (IntKind.wrap .i64 (a1 - (a0.length:Int))))
def IX:Ct:=.pure true false (.pair (.slice au) (.pair (.int .i64) .unit)) (.int .i64) (fun x=>lV x.1 x.2.1)
theorem GA:KC 157 IX:=pq En .none Tryz.func157
def qr (a0:ae.D) (a1:Int):Option Int :=
(jH a0.1 a1).bind fun y1 =>
 bif decide (y1 < 0) then (
 some (-1))
 else (
(lV a0.2.1 y1).bind fun y2 =>
 bif decide (y2 < 0) then (
 some (-1))
 else (
 some y2))
def IY:Ct:=.pure true false (.pair ae (.pair (.int .i64) .unit)) (.int .i64) (fun x=>qr x.1 x.2.1)
theorem GB:KC 45 IY:=pq (Ec ET (Ec GA En)) .none Tryz.func45
def fH (a0:(List ac.D)) (a1:Int):Option Int :=
 bif decide ((IntKind.wrap .i64 (a1 - (a0.length:Int))) < 0) then (
 some (-1))
 else (
 some (IntKind.wrap .i64 (a1 - (a0.length:Int))))
def GC:Ct:=.pure true false (.pair (.slice ac) (.pair (.int .i64) .unit)) (.int .i64) (fun x=>fH x.1 x.2.1)
theorem nM:KC 62 GC:=pq En .none Tryz.func62
def vP (a0:bm.D) (a1:Int):Option Int :=
(fH a0.2.2.2.2.2.2.1 a1).bind fun y1 =>
 bif decide (y1 < 0) then (
 some (-1))
 else (
 some y1)
def NS:Ct:=.pure true false (.pair bm (.pair (.int .i64) .unit)) (.int .i64) (fun x=>vP x.1 x.2.1)
theorem Ln:KC 245 NS:=pq (Ec nM En) .none Tryz.func245
def gW (a0:aa.D) (a1:Int):Option Int :=
(vP a0.2.2.2.2.2.2.1 a1).bind fun y1 =>
 bif decide (y1 < 0) then (
 some (-1))
 else (
 some y1)
def GD:Ct:=.pure true false (.pair aa (.pair (.int .i64) .unit)) (.int .i64) (fun x=>gW x.1 x.2.1)
theorem ux:KC 127 GD:=pq (Ec Ln En) .none Tryz.func127
def sV (a0:(List aa.D)):(Int×Int)→Option ((Int×Int)⊕((Int×Int)⊕Int)):=fun s1 =>
 bif decide (s1.2 < (a0.length:Int)) then (
 idx a0 s1.2 fun x2 =>
(gW x2 s1.1).bind fun y3 =>
 bif decide (y3 < 0) then (
 some (.inr (.inr (-1))))
 else (
 some (.inl (y3,IntKind.wrap .i64 (s1.2 + 1)))))
 else (
 some (.inr (.inl s1)))
def lW (a0:(List aa.D)) (a1:Int):Option Int :=
 bif decide ((IntKind.wrap .i64 (a1 - (a0.length:Int))) < 0) then (
 some (-1))
 else (
(al (sV a0) (IntKind.wrap .i64 (a1 - (a0.length:Int)),0)).bind fun o4 =>
 match o4 with
| .inl s5=>(
 some s5.1)
| .inr o6=>(
 some o6))
def EU:Hints:=(n0 (n0 (n0 (nd (n0 (nd (.node none (some ⟨[.tmp 1 (.int .i64),.tmp 5 (.int .i64)],[some 0],some [.tmp 4 (.int .i64)],[]⟩) .none .none) .none)) .none))))
def EV:Ct:=.pure true false (.pair (.slice aa) (.pair (.int .i64) .unit)) (.int .i64) (fun x=>lW x.1 x.2.1)
theorem C3:KC 46 EV:=pq (Ec ux En) EU Tryz.func46
def pd (a0:(List Int)) (a1:Int):Option Int :=
 bif decide ((IntKind.wrap .i64 (a1 - (a0.length:Int))) < 0) then (
 some (-1))
 else (
 some (IntKind.wrap .i64 (a1 - (a0.length:Int))))
def Lo:Ct:=.pure true false (.pair (.slice (.int .i64)) (.pair (.int .i64) .unit)) (.int .i64) (fun x=>pd x.1 x.2.1)
theorem IZ:KC 123 Lo:=pq En .none Tryz.func123
def gP (a0:(List af.D)) (a1:Int):Option Int :=
 bif decide ((IntKind.wrap .i64 (a1 - (a0.length:Int))) < 0) then (
 some (-1))
 else (
 some (IntKind.wrap .i64 (a1 - (a0.length:Int))))
def C4:Ct:=.pure true false (.pair (.slice af) (.pair (.int .i64) .unit)) (.int .i64) (fun x=>gP x.1 x.2.1)
theorem Bs:KC 124 C4:=pq En .none Tryz.func124
def lX (a0:(List ai.D)) (a1:Int):Option Int :=
 bif decide ((IntKind.wrap .i64 (a1 - (a0.length:Int))) < 0) then (
 some (-1))
 else (
 some (IntKind.wrap .i64 (a1 - (a0.length:Int))))
def I0:Ct:=.pure true false (.pair (.slice ai) (.pair (.int .i64) .unit)) (.int .i64) (fun x=>lX x.1 x.2.1)
theorem GE:KC 125 I0:=pq En .none Tryz.func125
def lj (a0:ar.D) (a1:Int):Option Int :=
(fH a0.2.2.2.2.2.1 a1).bind fun y1 =>
 bif decide (y1 < 0) then (
 some (-1))
 else (
 some y1)
def Lp:Ct:=.pure true false (.pair ar (.pair (.int .i64) .unit)) (.int .i64) (fun x=>lj x.1 x.2.1)
theorem I4:KC 244 Lp:=pq (Ec nM En) .none Tryz.func244
def pW (a0:(List ar.D)):(Int×Int)→Option ((Int×Int)⊕((Int×Int)⊕Int)):=fun s1 =>
 bif decide (s1.2 < (a0.length:Int)) then (
 idx a0 s1.2 fun x2 =>
(lj x2 s1.1).bind fun y3 =>
 bif decide (y3 < 0) then (
 some (.inr (.inr (-1))))
 else (
 some (.inl (y3,IntKind.wrap .i64 (s1.2 + 1)))))
 else (
 some (.inr (.inl s1)))
def lY (a0:(List ar.D)) (a1:Int):Option Int :=
 bif decide ((IntKind.wrap .i64 (a1 - (a0.length:Int))) < 0) then (
 some (-1))
 else (
(al (pW a0) (IntKind.wrap .i64 (a1 - (a0.length:Int)),0)).bind fun o4 =>
 match o4 with
| .inl s5=>(
 some s5.1)
| .inr o6=>(
 some o6))
def I5:Hints:=(n0 (n0 (n0 (nd (n0 (nd (.node none (some ⟨[.tmp 1 (.int .i64),.tmp 5 (.int .i64)],[some 0],some [.tmp 4 (.int .i64)],[]⟩) .none .none) .none)) .none))))
def I6:Ct:=.pure true false (.pair (.slice ar) (.pair (.int .i64) .unit)) (.int .i64) (fun x=>lY x.1 x.2.1)
theorem GF:KC 126 I6:=pq (Ec I4 En) I5 Tryz.func126
def iI (a0:T_Game.D) (a1:Int):Option Int :=
(qr a0.1 a1).bind fun y1 =>
 bif decide (y1 < 0) then (
 some (-1))
 else (
(lW a0.2.1 y1).bind fun y2 =>
 bif decide (y2 < 0) then (
 some (-1))
 else (
(pd a0.2.2.1 y2).bind fun y3 =>
 bif decide (y3 < 0) then (
 some (-1))
 else (
(gP a0.2.2.2.1 y3).bind fun y4 =>
 bif decide (y4 < 0) then (
 some (-1))
 else (
(lX a0.2.2.2.2.1 y4).bind fun y5 =>
 bif decide (y5 < 0) then (
 some (-1))
 else (
(lY a0.2.2.2.2.2.1 y5).bind fun y6 =>
 bif decide (y6 < 0) then (
 some (-1))
 else (
 some y6))))))
def Lq:Ct:=.pure true false (.pair T_Game (.pair (.int .i64) .unit)) (.int .i64) (fun x=>iI x.1 x.2.1)
theorem I7:KC 23 Lq:=pq (Ec GB (Ec C3 (Ec IZ (Ec Bs (Ec GE (Ec GF En)))))) .none Tryz.func23
def lZ (a0:T_Order.D) (a1:Int):Option Int :=
(gW a0.2.1 a1).bind fun y1 =>
 bif decide (y1 < 0) then (
 some (-1))
 else (
(fH a0.2.2.2.1 y1).bind fun y2 =>
 bif decide (y2 < 0) then (
 some (-1))
 else (
 some y2))
def I8:Ct:=.pure true false (.pair T_Order (.pair (.int .i64) .unit)) (.int .i64) (fun x=>lZ x.1 x.2.1)
theorem GG:KC 24 I8:=pq (Ec nM (Ec ux En)) .none Tryz.func24
def uy (a0:(List T_Order.D)):(Int×Int)→Option ((Int×Int)⊕((Int×Int)⊕Int)):=fun s1 =>
 bif decide (s1.2 < (a0.length:Int)) then (
 idx a0 s1.2 fun x2 =>
(lZ x2 s1.1).bind fun y3 =>
 bif decide (y3 < 0) then (
 some (.inr (.inr (-1))))
 else (
 some (.inl (y3,IntKind.wrap .i64 (s1.2 + 1)))))
 else (
 some (.inr (.inl s1)))
def oG (a0:(List T_Order.D)) (a1:Int):Option Int :=
 bif decide ((IntKind.wrap .i64 (a1 - (a0.length:Int))) < 0) then (
 some (-1))
 else (
(al (uy a0) (IntKind.wrap .i64 (a1 - (a0.length:Int)),0)).bind fun o4 =>
 match o4 with
| .inl s5=>(
 some s5.1)
| .inr o6=>(
 some o6))
def GH:Hints:=(n0 (n0 (n0 (nd (n0 (nd (.node none (some ⟨[.tmp 1 (.int .i64),.tmp 5 (.int .i64)],[some 0],some [.tmp 4 (.int .i64)],[]⟩) .none .none) .none)) .none))))
def GI:Ct:=.pure true false (.pair (.slice T_Order) (.pair (.int .i64) .unit)) (.int .i64) (fun x=>oG x.1 x.2.1)
theorem EW:KC 32 GI:=pq (Ec GG En) GH Tryz.func32
def gv (a0:ah.D):Option ah.D :=
 some a0
def I9:Ct:=.pure true false (.pair ah .unit) ah (fun x=>gv x.1)
theorem pX:KC 272 I9:=pq En .none Tryz.func272
def uz (a0:(List ah.D)):((List ah.D)×Int)→Option (((List ah.D)×Int)⊕((List ah.D)×Int)):=fun s2 =>
 bif decide (s2.2 < (a0.length:Int)) then (
 idx a0 s2.2 fun x3 =>
(gv x3).bind fun y4 =>
 idx s2.1 s2.2 fun _ =>
(s2.1[(s2.2:Int).toNat]?).bind fun x5 =>
 let u6:(List ah.D):=s2.1.set (s2.2:Int).toNat y4
 some (.inl (u6,IntKind.wrap .i64 (s2.2 + 1))))
 else (
 some (.inr s2))
def oH (a0:(List ah.D)):Option (List ah.D) :=
 if 0≤(a0.length:Int) then (if ((a0.length:Int)).toNat * (24 * 13)≤aC then (
(al (uz a0) ((List.replicate ((a0.length:Int)).toNat (0,0,0,0,0,0,0,0,0,0,0,false,false,())),0)).bind fun o7 =>
 some o7.1) else none) else none
def GJ:Hints:=(n0 (n0 (nd (n0 (nd (.node none (some ⟨[.tmpO 3 0 (.slice ah),.tmp 4 (.int .i64)],[some 0],none,[]⟩) .none .none) .none)) .none)))
def xj:Ct:=.pure true true (.pair (.slice ah) .unit) (.slice ah) (fun x=>oH x.1)
theorem vQ:KC 160 xj:=pq (Ec pX En) GJ Tryz.func160
def pe (a0:au.D):Option au.D :=
 some a0
def Lr:Ct:=.pure true false (.pair au .unit) au (fun x=>pe x.1)
theorem Ja:KC 273 Lr:=pq En .none Tryz.func273
def wI (a0:(List au.D)):((List au.D)×Int)→Option (((List au.D)×Int)⊕((List au.D)×Int)):=fun s2 =>
 bif decide (s2.2 < (a0.length:Int)) then (
 idx a0 s2.2 fun x3 =>
(pe x3).bind fun y4 =>
 idx s2.1 s2.2 fun _ =>
(s2.1[(s2.2:Int).toNat]?).bind fun x5 =>
 let u6:(List au.D):=s2.1.set (s2.2:Int).toNat y4
 some (.inl (u6,IntKind.wrap .i64 (s2.2 + 1))))
 else (
 some (.inr s2))
def qs (a0:(List au.D)):Option (List au.D) :=
 if 0≤(a0.length:Int) then (if ((a0.length:Int)).toNat * (24 * 3)≤aC then (
(al (wI a0) ((List.replicate ((a0.length:Int)).toNat (0,0,false,())),0)).bind fun o7 =>
 some o7.1) else none) else none
def Jb:Hints:=(n0 (n0 (nd (n0 (nd (.node none (some ⟨[.tmpO 3 0 (.slice au),.tmp 4 (.int .i64)],[some 0],none,[]⟩) .none .none) .none)) .none)))
def yq:Ct:=.pure true true (.pair (.slice au) .unit) (.slice au) (fun x=>qs x.1)
theorem xn:KC 161 yq:=pq (Ec Ja En) Jb Tryz.func161
def qt (a0:ae.D):Option ae.D :=
(oH a0.1).bind fun y1 =>
(qs a0.2.1).bind fun y2 =>
 some (y1,y2,a0.2.2)
def yr:Ct:=.pure true true (.pair ae .unit) ae (fun x=>qt x.1)
theorem xq:KC 48 yr:=pq (Ec vQ (Ec xn En)) .none Tryz.func48
def vR (a0:cp.D):Option cp.D :=
 some a0
def NT:Ct:=.pure true false (.pair cp .unit) cp (fun x=>vR x.1)
theorem Ls:KC 249 NT:=pq En .none Tryz.func249
def qv (a0:bc.D):Option bc.D :=
 some a0
def Jc:Ct:=.pure true false (.pair bc .unit) bc (fun x=>qv x.1)
theorem GK:KC 250 Jc:=pq En .none Tryz.func250
def gw (a0:ac.D):Option ac.D :=
 some a0
def Jd:Ct:=.pure true false (.pair ac .unit) ac (fun x=>gw x.1)
theorem pY:KC 50 Jd:=pq En .none Tryz.func50
def uA (a0:(List ac.D)):((List ac.D)×Int)→Option (((List ac.D)×Int)⊕((List ac.D)×Int)):=fun s2 =>
 bif decide (s2.2 < (a0.length:Int)) then (
 idx a0 s2.2 fun x3 =>
(gw x3).bind fun y4 =>
 idx s2.1 s2.2 fun _ =>
(s2.1[(s2.2:Int).toNat]?).bind fun x5 =>
 let u6:(List ac.D):=s2.1.set (s2.2:Int).toNat y4
 some (.inl (u6,IntKind.wrap .i64 (s2.2 + 1))))
 else (
 some (.inr s2))
def gX (a0:(List ac.D)):Option (List ac.D) :=
 if 0≤(a0.length:Int) then (if ((a0.length:Int)).toNat * (24 * 7)≤aC then (
(al (uA a0) ((List.replicate ((a0.length:Int)).toNat (0,0,0,0,0,0,false,())),0)).bind fun o7 =>
 some o7.1) else none) else none
def GL:Hints:=(n0 (n0 (nd (n0 (nd (.node none (some ⟨[.tmpO 3 0 (.slice ac),.tmp 4 (.int .i64)],[some 0],none,[]⟩) .none .none) .none)) .none)))
def xv:Ct:=.pure true true (.pair (.slice ac) .unit) (.slice ac) (fun x=>gX x.1)
theorem gx:KC 64 xv:=pq (Ec pY En) GL Tryz.func64
def vS (a0:bm.D):Option bm.D :=
(gX a0.2.2.2.2.2.2.1).bind fun y1 =>
 some (a0.1,a0.2.1,a0.2.2.1,a0.2.2.2.1,a0.2.2.2.2.1,a0.2.2.2.2.2.1,y1,())
def Bt:Ct:=.pure true true (.pair bm .unit) bm (fun x=>vS x.1)
theorem Ab:KC 251 Bt:=pq (Ec gx En) .none Tryz.func251
def gY (a0:aa.D):Option aa.D :=
(vR a0.2.2.2.2.1).bind fun y1 =>
(qv a0.2.2.2.2.2.1).bind fun y2 =>
(vS a0.2.2.2.2.2.2.1).bind fun y3 =>
 some (a0.1,a0.2.1,a0.2.2.1,a0.2.2.2.1,y1,y2,y3,a0.2.2.2.2.2.2.2)
def xw:Ct:=.pure true true (.pair aa .unit) aa (fun x=>gY x.1)
theorem l0:KC 131 xw:=pq (Ec Ls (Ec GK (Ec Ab En))) .none Tryz.func131
def sW (a0:(List aa.D)):((List aa.D)×Int)→Option (((List aa.D)×Int)⊕((List aa.D)×Int)):=fun s2 =>
 bif decide (s2.2 < (a0.length:Int)) then (
 idx a0 s2.2 fun x3 =>
(gY x3).bind fun y4 =>
 idx s2.1 s2.2 fun _ =>
(s2.1[(s2.2:Int).toNat]?).bind fun x5 =>
 let u6:(List aa.D):=s2.1.set (s2.2:Int).toNat y4
 some (.inl (u6,IntKind.wrap .i64 (s2.2 + 1))))
 else (
 some (.inr s2))
def l8 (a0:(List aa.D)):Option (List aa.D) :=
 if 0≤(a0.length:Int) then (if ((a0.length:Int)).toNat * (24 * 22)≤aC then (
(al (sW a0) ((List.replicate ((a0.length:Int)).toNat (0,0,0,0,(0,0,0,0,0,0,0,()),(0,0,()),(0,0,0,0,0,false,[],()),0,0,())),0)).bind fun o7 =>
 some o7.1) else none) else none
def EX:Hints:=(n0 (n0 (nd (n0 (nd (.node none (some ⟨[.tmpO 3 0 (.slice aa),.tmp 4 (.int .i64)],[some 0],none,[]⟩) .none .none) .none)) .none)))
def vT:Ct:=.pure true true (.pair (.slice aa) .unit) (.slice aa) (fun x=>l8 x.1)
theorem uB:KC 49 vT:=pq (Ec l0 En) EX Tryz.func49
def yt (a0:(List Int)):((List Int)×Int)→Option (((List Int)×Int)⊕((List Int)×Int)):=fun s2 =>
 bif decide (s2.2 < (a0.length:Int)) then (
 idx a0 s2.2 fun x3 =>
 idx s2.1 s2.2 fun _ =>
(s2.1[(s2.2:Int).toNat]?).bind fun x4 =>
 let u5:(List Int):=s2.1.set (s2.2:Int).toNat x3
 some (.inl (u5,IntKind.wrap .i64 (s2.2 + 1))))
 else (
 some (.inr s2))
def sX (a0:(List Int)):Option (List Int) :=
 if 0≤(a0.length:Int) then (if ((a0.length:Int)).toNat * (24 * 1)≤aC then (
(al (yt a0) ((List.replicate ((a0.length:Int)).toNat 0),0)).bind fun o6 =>
 some o6.1) else none) else none
def Lt:Hints:=(n0 (n0 (nd (n0 (nd (.node none (some ⟨[.tmpO 3 0 (.slice (.int .i64)),.tmp 4 (.int .i64)],[some 0],none,[]⟩) .none .none) .none)) .none)))
def Ac:Ct:=.pure true true (.pair (.slice (.int .i64)) .unit) (.slice (.int .i64)) (fun x=>sX x.1)
theorem yu:KC 51 Ac:=pq En Lt Tryz.func51
def iJ (a0:af.D):Option af.D :=
(gv a0.2.2.2.1).bind fun y1 =>
 some (a0.1,a0.2.1,a0.2.2.1,y1,())
def EY:Ct:=.pure true false (.pair af .unit) af (fun x=>iJ x.1)
theorem C5:KC 246 EY:=pq (Ec pX En) .none Tryz.func246
def rH (a0:(List af.D)):((List af.D)×Int)→Option (((List af.D)×Int)⊕((List af.D)×Int)):=fun s2 =>
 bif decide (s2.2 < (a0.length:Int)) then (
 idx a0 s2.2 fun x3 =>
(iJ x3).bind fun y4 =>
 idx s2.1 s2.2 fun _ =>
(s2.1[(s2.2:Int).toNat]?).bind fun x5 =>
 let u6:(List af.D):=s2.1.set (s2.2:Int).toNat y4
 some (.inl (u6,IntKind.wrap .i64 (s2.2 + 1))))
 else (
 some (.inr s2))
def jZ (a0:(List af.D)):Option (List af.D) :=
 if 0≤(a0.length:Int) then (if ((a0.length:Int)).toNat * (24 * 16)≤aC then (
(al (rH a0) ((List.replicate ((a0.length:Int)).toNat (0,0,0,(0,0,0,0,0,0,0,0,0,0,0,false,false,()),())),0)).bind fun o7 =>
 some o7.1) else none) else none
def C6:Hints:=(n0 (n0 (nd (n0 (nd (.node none (some ⟨[.tmpO 3 0 (.slice af),.tmp 4 (.int .i64)],[some 0],none,[]⟩) .none .none) .none)) .none)))
def uC:Ct:=.pure true true (.pair (.slice af) .unit) (.slice af) (fun x=>jZ x.1)
theorem tX:KC 128 uC:=pq (Ec C5 En) C6 Tryz.func128
def pf (a0:ai.D):Option ai.D :=
(gw a0.2.1).bind fun y1 =>
(gv a0.2.2.2.2.1).bind fun y2 =>
 some (a0.1,y1,a0.2.2.1,a0.2.2.2.1,y2,())
def Lu:Ct:=.pure true false (.pair ai .unit) ai (fun x=>pf x.1)
theorem Je:KC 247 Lu:=pq (Ec pY (Ec pX En)) .none Tryz.func247
def wJ (a0:(List ai.D)):((List ai.D)×Int)→Option (((List ai.D)×Int)⊕((List ai.D)×Int)):=fun s2 =>
 bif decide (s2.2 < (a0.length:Int)) then (
 idx a0 s2.2 fun x3 =>
(pf x3).bind fun y4 =>
 idx s2.1 s2.2 fun _ =>
(s2.1[(s2.2:Int).toNat]?).bind fun x5 =>
 let u6:(List ai.D):=s2.1.set (s2.2:Int).toNat y4
 some (.inl (u6,IntKind.wrap .i64 (s2.2 + 1))))
 else (
 some (.inr s2))
def qw (a0:(List ai.D)):Option (List ai.D) :=
 if 0≤(a0.length:Int) then (if ((a0.length:Int)).toNat * (24 * 23)≤aC then (
(al (wJ a0) ((List.replicate ((a0.length:Int)).toNat (0,(0,0,0,0,0,0,false,()),0,0,(0,0,0,0,0,0,0,0,0,0,0,false,false,()),())),0)).bind fun o7 =>
 some o7.1) else none) else none
def Jf:Hints:=(n0 (n0 (nd (n0 (nd (.node none (some ⟨[.tmpO 3 0 (.slice ai),.tmp 4 (.int .i64)],[some 0],none,[]⟩) .none .none) .none)) .none)))
def yv:Ct:=.pure true true (.pair (.slice ai) .unit) (.slice ai) (fun x=>qw x.1)
theorem xx:KC 129 yv:=pq (Ec Je En) Jf Tryz.func129
def pg (a0:ar.D):Option ar.D :=
(gw a0.2.2.2.2.1).bind fun y1 =>
(gX a0.2.2.2.2.2.1).bind fun y2 =>
 some (a0.1,a0.2.1,a0.2.2.1,a0.2.2.2.1,y1,y2,a0.2.2.2.2.2.2)
def Ad:Ct:=.pure true true (.pair ar .unit) ar (fun x=>pg x.1)
theorem yw:KC 248 Ad:=pq (Ec pY (Ec gx En)) .none Tryz.func248
def wK (a0:(List ar.D)):((List ar.D)×Int)→Option (((List ar.D)×Int)⊕((List ar.D)×Int)):=fun s2 =>
 bif decide (s2.2 < (a0.length:Int)) then (
 idx a0 s2.2 fun x3 =>
(pg x3).bind fun y4 =>
 idx s2.1 s2.2 fun _ =>
(s2.1[(s2.2:Int).toNat]?).bind fun x5 =>
 let u6:(List ar.D):=s2.1.set (s2.2:Int).toNat y4
 some (.inl (u6,IntKind.wrap .i64 (s2.2 + 1))))
 else (
 some (.inr s2))
def qx (a0:(List ar.D)):Option (List ar.D) :=
 if 0≤(a0.length:Int) then (if ((a0.length:Int)).toNat * (24 * 14)≤aC then (
(al (wK a0) ((List.replicate ((a0.length:Int)).toNat (0,0,0,0,(0,0,0,0,0,0,false,()),[],0,0,())),0)).bind fun o7 =>
 some o7.1) else none) else none
def Jg:Hints:=(n0 (n0 (nd (n0 (nd (.node none (some ⟨[.tmpO 3 0 (.slice ar),.tmp 4 (.int .i64)],[some 0],none,[]⟩) .none .none) .none)) .none)))
def yx:Ct:=.pure true true (.pair (.slice ar) .unit) (.slice ar) (fun x=>qx x.1)
theorem xy:KC 130 yx:=pq (Ec yw En) Jg Tryz.func130
def iK (a0:T_Game.D):Option T_Game.D :=
(qt a0.1).bind fun y1 =>
(l8 a0.2.1).bind fun y2 =>
(sX a0.2.2.1).bind fun y3 =>
(jZ a0.2.2.2.1).bind fun y4 =>
(qw a0.2.2.2.2.1).bind fun y5 =>
(qx a0.2.2.2.2.2.1).bind fun y6 =>
 some (y1,y2,y3,y4,y5,y6,())
def Ae:Ct:=.pure true true (.pair T_Game .unit) T_Game (fun x=>iK x.1)
theorem yy:KC 25 Ae:=pq (Ec xq (Ec uB (Ec yu (Ec tX (Ec xx (Ec xy En)))))) .none Tryz.func25
def l9 (a0:T_Order.D):Option T_Order.D :=
(gY a0.2.1).bind fun y1 =>
(gX a0.2.2.2.1).bind fun y2 =>
 some (a0.1,y1,a0.2.2.1,y2,())
def yz:Ct:=.pure true true (.pair T_Order .unit) T_Order (fun x=>l9 x.1)
theorem xA:KC 26 yz:=pq (Ec gx (Ec l0 En)) .none Tryz.func26
def uD (a0:(List T_Order.D)):((List T_Order.D)×Int)→Option (((List T_Order.D)×Int)⊕((List T_Order.D)×Int)):=fun s2 =>
 bif decide (s2.2 < (a0.length:Int)) then (
 idx a0 s2.2 fun x3 =>
(l9 x3).bind fun y4 =>
 idx s2.1 s2.2 fun _ =>
(s2.1[(s2.2:Int).toNat]?).bind fun x5 =>
 let u6:(List T_Order.D):=s2.1.set (s2.2:Int).toNat y4
 some (.inl (u6,IntKind.wrap .i64 (s2.2 + 1))))
 else (
 some (.inr s2))
def fI (a0:(List T_Order.D)):Option (List T_Order.D) :=
 if 0≤(a0.length:Int) then (if ((a0.length:Int)).toNat * (24 * 25)≤aC then (
(al (uD a0) ((List.replicate ((a0.length:Int)).toNat (0,(0,0,0,0,(0,0,0,0,0,0,0,()),(0,0,()),(0,0,0,0,0,false,[],()),0,0,()),0,[],())),0)).bind fun o7 =>
 some o7.1) else none) else none
def GM:Hints:=(n0 (n0 (nd (n0 (nd (.node none (some ⟨[.tmpO 3 0 (.slice T_Order),.tmp 4 (.int .i64)],[some 0],none,[]⟩) .none .none) .none)) .none)))
def xB:Ct:=.pure true true (.pair (.slice T_Order) .unit) (.slice T_Order) (fun x=>fI x.1)
theorem vU:KC 34 xB:=pq (Ec xA En) GM Tryz.func34
def eK (a0:ae.D):Option ae.D :=
 if (([]:List ah.D).length + a0.1.length) * (24 * 13)≤aC then (
 if (([]:List au.D).length + a0.2.1.length) * (24 * 3)≤aC then (
 some (([]++a0.1),([]++a0.2.1),a0.2.2)) else none) else none
def Af:Ct:=.pure true true (.pair ae .unit) ae (fun x=>eK x.1)
theorem cd:KC 154 Af:=pq En .none Tryz.func154
def sY (a0:bm.D):Option bm.D :=
 if (([]:List ac.D).length + a0.2.2.2.2.2.2.1.length) * (24 * 7)≤aC then (
 some (a0.1,a0.2.1,a0.2.2.1,a0.2.2.2.1,a0.2.2.2.2.1,a0.2.2.2.2.2.1,([]++a0.2.2.2.2.2.2.1),())) else none
def Ag:Ct:=.pure true true (.pair bm .unit) bm (fun x=>sY x.1)
theorem yA:KC 318 Ag:=pq En .none Tryz.func318
def dN (a0:aa.D):Option aa.D :=
(sY a0.2.2.2.2.2.2.1).bind fun y1 =>
 some (a0.1,a0.2.1,a0.2.2.1,a0.2.2.2.1,a0.2.2.2.2.1,a0.2.2.2.2.2.1,y1,a0.2.2.2.2.2.2.2)
def yB:Ct:=.pure true true (.pair aa .unit) aa (fun x=>dN x.1)
theorem cG:KC 223 yB:=pq (Ec yA En) .none Tryz.func223
def pZ (a0:(List aa.D)):((List aa.D)×Int)→Option (((List aa.D)×Int)⊕((List aa.D)×Int)):=fun s1 =>
 bif decide (s1.2 < (a0.length:Int)) then (
 idx a0 s1.2 fun x2 =>
(dN x2).bind fun y3 =>
 if (s1.1.length + [y3].length) * (24 * 22)≤aC then (
 some (.inl ((s1.1++[y3]),IntKind.wrap .i64 (s1.2 + 1)))) else none)
 else (
 some (.inr s1))
def cm (a0:(List aa.D)):Option (List aa.D) :=
(al (pZ a0) ([],0)).bind fun o4 =>
 some o4.1
def Jh:Hints:=(n0 (n0 (nd (n0 (nd (.node none (some ⟨[.tmpO 3 0 (.slice aa),.tmp 4 (.int .i64)],[some 0],none,[]⟩) .none .none) .none)) .none)))
def ph:Ct:=.pure true true (.pair (.slice aa) .unit) (.slice aa) (fun x=>cm x.1)
theorem cH:KC 155 ph:=pq (Ec cG En) Jh Tryz.func155
def vV (a0:ar.D):Option ar.D :=
 if (([]:List ac.D).length + a0.2.2.2.2.2.1.length) * (24 * 7)≤aC then (
 some (a0.1,a0.2.1,a0.2.2.1,a0.2.2.2.1,a0.2.2.2.2.1,([]++a0.2.2.2.2.2.1),a0.2.2.2.2.2.2)) else none
def yC:Ct:=.pure true true (.pair ar .unit) ar (fun x=>vV x.1)
theorem xC:KC 317 yC:=pq En .none Tryz.func317
def nN (a0:(List ar.D)):((List ar.D)×Int)→Option (((List ar.D)×Int)⊕((List ar.D)×Int)):=fun s1 =>
 bif decide (s1.2 < (a0.length:Int)) then (
 idx a0 s1.2 fun x2 =>
(vV x2).bind fun y3 =>
 if (s1.1.length + [y3].length) * (24 * 14)≤aC then (
 some (.inl ((s1.1++[y3]),IntKind.wrap .i64 (s1.2 + 1)))) else none)
 else (
 some (.inr s1))
def jI (a0:(List ar.D)):Option (List ar.D) :=
(al (nN a0) ([],0)).bind fun o4 =>
 some o4.1
def GN:Hints:=(n0 (n0 (nd (n0 (nd (.node none (some ⟨[.tmpO 3 0 (.slice ar),.tmp 4 (.int .i64)],[some 0],none,[]⟩) .none .none) .none)) .none)))
def xD:Ct:=.pure true true (.pair (.slice ar) .unit) (.slice ar) (fun x=>jI x.1)
theorem ma:KC 222 xD:=pq (Ec xC En) GN Tryz.func222
def mb (a0:T_Game.D):Option T_Game.D :=
(eK a0.1).bind fun y1 =>
(cm a0.2.1).bind fun y2 =>
 if (([]:List Int).length + a0.2.2.1.length) * (24 * 1)≤aC then (
 if (([]:List af.D).length + a0.2.2.2.1.length) * (24 * 16)≤aC then (
 if (([]:List ai.D).length + a0.2.2.2.2.1.length) * (24 * 23)≤aC then (
(jI a0.2.2.2.2.2.1).bind fun y3 =>
 some (y1,y2,([]++a0.2.2.1),([]++a0.2.2.2.1),([]++a0.2.2.2.2.1),y3,())) else none) else none) else none
def pi:Ct:=.pure true true (.pair T_Game .unit) T_Game (fun x=>mb x.1)
theorem nA:KC 97 pi:=pq (Ec cd (Ec cH (Ec ma En))) .none Tryz.func97
def aD (a0:Int) (a1:Int) (a2:Int):Option Bool :=
 bif decide (a0≥a1) then (
 some (decide (a0≤a2)))
 else (
 some false)
def PJ:Ct:=.pure true false (.pair (.int .i64) (.pair (.int .i64) (.pair (.int .i64) .unit))) .bool (fun x=>aD x.1 x.2.1 x.2.2.1)
theorem bV:KC 229 PJ:=pq En .none Tryz.func229
def bW (a0:ac.D):Option Bool :=
(((aD a0.2.2.1 1 99).bind fun y1 =>
 bif y1 then (
 some (a0.2.2.2.1 == (-1)))
 else (
 some false)):Option Bool).bind fun o2 =>
((bif (a0.2.2.1 == 0) then (
(aD a0.2.2.2.1 0 2).bind fun y3 =>
 some y3)
 else (
 some false)):Option Bool).bind fun o4 =>
(aD a0.2.2.2.2.1 0 2147483647).bind fun y5 =>
 bif (!y5) then (
 some false)
 else (
 bif (a0.1 == 1) then (
(aD a0.2.1 1 99).bind fun y6 =>
 bif y6 then (
 bif o2 then (
 bif (a0.2.2.2.2.2.1 == 0) then (
 some (!a0.2.2.2.2.2.2.1))
 else (
 some false))
 else (
 bif o4 then (
 bif (a0.2.2.2.2.2.1 == 0) then (
 some (!a0.2.2.2.2.2.2.1))
 else (
 some false))
 else (
 some false)))
 else (
 some false))
 else (
 bif (a0.1 == 2) then (
 bif (a0.2.1 == 0) then (
 bif o2 then (
(aD a0.2.2.2.2.2.1 1 4).bind fun y7 =>
 bif y7 then (
 bif decide (a0.2.2.2.2.1≤99) then (
 bif (a0.2.2.2.2.2.1 == 2) then (
 some true)
 else (
 bif (a0.2.2.2.2.1 == 0) then (
 some (!a0.2.2.2.2.2.2.1))
 else (
 some false)))
 else (
 some false))
 else (
 some false))
 else (
 some false))
 else (
 some false))
 else (
((bif (a0.1 == 3) then (
 some (a0.1 == 3))
 else (
 some (a0.1 == 4))):Option Bool).bind fun o8 =>
 bif o8 then (
 bif (a0.2.1 == 0) then (
 bif o4 then (
 bif (a0.2.2.2.2.2.1 == 0) then (
 some (!a0.2.2.2.2.2.2.1))
 else (
 some false))
 else (
 some false))
 else (
 some false))
 else (
((bif (a0.1 == 5) then (
 some (a0.1 == 5))
 else (
 some (a0.1 == 6))):Option Bool).bind fun o9 =>
 bif o9 then (
 bif (a0.2.1 == 0) then (
 bif o2 then (
 bif (a0.2.2.2.2.2.1 == 0) then (
 some (!a0.2.2.2.2.2.2.1))
 else (
 some false))
 else (
 some false))
 else (
 some false))
 else (
 some false)))))
def Ji:Hints:=(n0 (nd (cu ⟨[.tmp 3 .bool],[none],none,[]⟩) (nd (cu ⟨[.tmp 4 .bool],[none],none,[]⟩) (n0 (nd (n0 (nd (n0 (n0 (n0 (n0 (nd (n0 (cu ⟨[.tmp 81 .bool],[none],none,[]⟩)) (n0 (nd (n0 (cu ⟨[.tmp 100 .bool],[none],none,[]⟩)) .none))))))) .none)) .none)))))
def yD:Ct:=.pure true false (.pair ac .unit) .bool (fun x=>bW x.1)
theorem cM:KC 158 yD:=pq (Ec bV En) Ji Tryz.func158
def iL (a0:ar.D):Int→Option (Int⊕(Int⊕Bool)):=fun s9 =>
 bif decide (s9 < (a0.2.2.2.2.2.1.length:Int)) then (
 idx a0.2.2.2.2.2.1 s9 fun x10 =>
(bW x10).bind fun y11 =>
 bif (!y11) then (
 some (.inr (.inr false)))
 else (
 some (.inl (IntKind.wrap .i64 (s9 + 1)))))
 else (
 some (.inr (.inl s9)))
def pj (a0:ar.D):Option Bool :=
(((aD a0.1 1 99).bind fun y1 =>
 bif (!y1) then (
 some true)
 else (
(aD a0.2.1 0 2).bind fun y2 =>
 bif (!y2) then (
 some true)
 else (
(aD a0.2.2.2.1 1 5).bind fun y3 =>
 bif (!y3) then (
 some true)
 else (
(aD a0.2.2.1 0 (IntKind.wrap .i64 (a0.2.2.2.1 - 1))).bind fun y4 =>
 bif (!y4) then (
 some true)
 else (
(bW a0.2.2.2.2.1).bind fun y5 =>
 bif (!y5) then (
 some true)
 else (
 bif decide ((a0.2.2.2.2.2.1.length:Int) > 3) then (
 some true)
 else (
(aD a0.2.2.2.2.2.2.1 0 2147483647).bind fun y6 =>
 bif (!y6) then (
 some true)
 else (
(aD a0.2.2.2.2.2.2.2.1 0 4).bind fun y7 =>
 some (!y7))))))))):Option Bool).bind fun o8 =>
 bif o8 then (
 some false)
 else (
(al (iL a0) 0).bind fun o12 =>
 match o12 with
| .inl s13=>(
 some true)
| .inr o14=>(
 some o14))
def Lv:Hints:=(n0 (nd (nd (cu ⟨[.tmp 52 .bool],[none],none,[]⟩) .none) (nd (n0 (nd (.node none (some ⟨[.tmp 3 (.int .i64)],[some 0],some [.tmp 2 .bool],[]⟩) .none .none) .none)) .none)))
def Lw:Ct:=.pure true false (.pair ar .unit) .bool (fun x=>pj x.1)
theorem Jj:KC 117 Lw:=pq (Ec cM (Ec bV En)) Lv Tryz.func117
def qy (a0:ah.D):Option Bool :=
(((aD a0.1 1 99).bind fun y1 =>
 bif (!y1) then (
 some true)
 else (
(aD a0.2.1 0 2).bind fun y2 =>
 bif (!y2) then (
 some true)
 else (
(aD a0.2.2.1 0 2).bind fun y3 =>
 bif (!y3) then (
 some true)
 else (
(aD a0.2.2.2.1 1 4).bind fun y4 =>
 bif (!y4) then (
 some true)
 else (
(aD a0.2.2.2.2.1 0 9999).bind fun y5 =>
 bif (!y5) then (
 some true)
 else (
(aD a0.2.2.2.2.2.1 0 999).bind fun y6 =>
 bif (!y6) then (
 some true)
 else (
(aD a0.2.2.2.2.2.2.1 0 999).bind fun y7 =>
 bif (!y7) then (
 some true)
 else (
(aD a0.2.2.2.2.2.2.2.1 0 63).bind fun y8 =>
 some (!y8))))))))):Option Bool).bind fun o9 =>
 bif o9 then (
 some false)
 else (
(((aD a0.2.2.2.2.2.2.2.2.1 0 2147483647).bind fun y10 =>
 bif (!y10) then (
 some true)
 else (
(aD a0.2.2.2.2.2.2.2.2.2.1 0 2147483647).bind fun y11 =>
 bif (!y11) then (
 some true)
 else (
(aD a0.2.2.2.2.2.2.2.2.2.2.1 0 2147483647).bind fun y12 =>
 some (!y12)))):Option Bool).bind fun o13 =>
 bif o13 then (
 some false)
 else (
 bif (a0.2.2.2.1 == 2) then (
 some true)
 else (
 bif (a0.2.2.1 == a0.2.1) then (
 bif (a0.2.2.2.2.2.2.2.2.1 == 0) then (
 bif (a0.2.2.2.2.2.2.2.2.2.1 == 0) then (
 bif (a0.2.2.2.2.2.2.2.2.2.2.1 == 0) then (
 bif (!a0.2.2.2.2.2.2.2.2.2.2.2.1) then (
 some (!a0.2.2.2.2.2.2.2.2.2.2.2.2.1))
 else (
 some false))
 else (
 some false))
 else (
 some false))
 else (
 some false))
 else (
 some false))))
def Jk:Hints:=(n0 (nd (nd (cu ⟨[.tmp 48 .bool],[none],none,[]⟩) .none) (nd (nd (cu ⟨[.tmp 64 .bool],[none],none,[]⟩) .none) .none)))
def Jl:Ct:=.pure true false (.pair ah .unit) .bool (fun x=>qy x.1)
theorem GO:KC 239 Jl:=pq (Ec bV En) Jk Tryz.func239
def sZ (a0:au.D):Option Bool :=
(aD a0.1 (-2147483647) 2147483647).bind fun y1 =>
 bif y1 then (
(aD a0.2.1 0 2147483647).bind fun y2 =>
 some y2)
 else (
 some false)
def Lx:Ct:=.pure true false (.pair au .unit) .bool (fun x=>sZ x.1)
theorem Jm:KC 240 Lx:=pq (Ec bV En) .none Tryz.func240
def j7 (a0:ae.D):Int→Option (Int⊕(Int⊕Bool)):=fun s5 =>
 bif decide (s5 < (a0.1.length:Int)) then (
 idx a0.1 s5 fun x6 =>
(((qy x6).bind fun y7 =>
 bif (!y7) then (
 some true)
 else (
 bif decide (s5 > 0) then (
 idx a0.1 (IntKind.wrap .i64 (s5 - 1)) fun x8 =>
 bif decide (x8.1≥x6.1) then (
 some true)
 else (
 bif decide (x6.2.1≥(a0.2.1.length:Int)) then (
 some true)
 else (
 bif decide (x6.2.2.1≥(a0.2.1.length:Int)) then (
 some true)
 else (
 some (decide (x6.2.2.2.2.1 > a0.2.2.2.1))))))
 else (
 bif decide (x6.2.1≥(a0.2.1.length:Int)) then (
 some true)
 else (
 bif decide (x6.2.2.1≥(a0.2.1.length:Int)) then (
 some true)
 else (
 some (decide (x6.2.2.2.2.1 > a0.2.2.2.1))))))):Option Bool).bind fun o9 =>
 bif o9 then (
 some (.inr (.inr false)))
 else (
 some (.inl (IntKind.wrap .i64 (s5 + 1)))))
 else (
 some (.inr (.inl s5)))
def j8 (a0:ae.D):Int→Option (Int⊕(Int⊕Bool)):=fun s13 =>
 bif decide (s13 < (a0.2.1.length:Int)) then (
 idx a0.2.1 s13 fun x14 =>
(sZ x14).bind fun y15 =>
 bif (!y15) then (
 some (.inr (.inr false)))
 else (
 some (.inl (IntKind.wrap .i64 (s13 + 1)))))
 else (
 some (.inr (.inl s13)))
def db (a0:ae.D):Option Bool :=
((bif decide ((a0.1.length:Int) > 8) then (
 some true)
 else (
(aD (a0.2.1.length:Int) 2 3).bind fun y1 =>
 bif (!y1) then (
 some true)
 else (
(aD a0.2.2.1 0 (IntKind.wrap .i64 ((a0.2.1.length:Int) - 1))).bind fun y2 =>
 bif (!y2) then (
 some true)
 else (
(aD a0.2.2.2.1 0 9999).bind fun y3 =>
 some (!y3))))):Option Bool).bind fun o4 =>
 bif o4 then (
 some false)
 else (
(al (j7 a0) 0).bind fun o10 =>
 match o10 with
| .inl s11=>(
(al (j8 a0) 0).bind fun o16 =>
 match o16 with
| .inl s17=>(
 some true)
| .inr o18=>(
 some o18))
| .inr o12=>(
 some o12))
def Jn:Hints:=(n0 (nd (nd (cu ⟨[.tmp 32 .bool],[none],none,[]⟩) .none) (nd (n0 (nd (.node none (some ⟨[.tmp 3 (.int .i64)],[some 0],some [.tmp 2 .bool],[]⟩) (n0 (nd (nd (n0 (nd (cu ⟨[.tmp 86 .bool],[none],none,[]⟩) .none)) .none) .none)) .none) .none)) (nd (n0 (nd (.node none (some ⟨[.tmp 5 (.int .i64)],[some 2],some [.tmp 2 .bool],[]⟩) .none .none) .none)) .none))))
def yE:Ct:=.pure true false (.pair ae .unit) .bool (fun x=>db x.1)
theorem dv:KC 118 yE:=pq (Ec bV (Ec GO (Ec Jm En))) Jn Tryz.func118
def nO (a0:cp.D):Option Bool :=
(((aD a0.1 1 6).bind fun y1 =>
 bif (!y1) then (
 some true)
 else (
(aD a0.2.1 0 2).bind fun y2 =>
 bif (!y2) then (
 some true)
 else (
(aD a0.2.2.2.2.1 0 99).bind fun y3 =>
 bif (!y3) then (
 some true)
 else (
(aD a0.2.2.2.2.2.1 0 2147483647).bind fun y4 =>
 bif (!y4) then (
 some true)
 else (
(aD a0.2.2.1 0 99).bind fun y5 =>
 bif (!y5) then (
 some true)
 else (
(aD a0.2.2.2.1 0 63).bind fun y6 =>
 bif (!y6) then (
 some true)
 else (
(aD a0.2.2.2.2.2.2.1 0 4).bind fun y7 =>
 some (!y7)))))))):Option Bool).bind fun o8 =>
 bif o8 then (
 some false)
 else (
((bif (a0.1 != 1) then (
 bif (a0.2.2.1 != 0) then (
 some true)
 else (
 bif (a0.2.2.2.1 != 0) then (
 some true)
 else (
 bif (a0.1 != 2) then (
 some (a0.2.2.2.2.2.2.1 != 0))
 else (
 some false))))
 else (
 bif (a0.1 != 2) then (
 some (a0.2.2.2.2.2.2.1 != 0))
 else (
 some false))):Option Bool).bind fun o9 =>
 bif o9 then (
 some false)
 else (
 bif (a0.1 != 3) then (
 bif (a0.1 != 4) then (
 some true)
 else (
 some (a0.2.2.2.2.1 == 0)))
 else (
 some (a0.2.2.2.2.1 == 0))))
def NU:Hints:=(n0 (nd (nd (cu ⟨[.tmp 42 .bool],[none],none,[]⟩) .none) (nd (nd (cu ⟨[.tmp 65 .bool],[none],none,[]⟩) .none) .none)))
def NV:Ct:=.pure true false (.pair cp .unit) .bool (fun x=>nO x.1)
theorem AY:KC 328 NV:=pq (Ec bV En) NU Tryz.func328
def i7 (a0:bc.D):Option Bool :=
((bif (a0.1 == 0) then (
 some (a0.1 == 0))
 else (
 some (a0.1 == 3))):Option Bool).bind fun o1 =>
 bif o1 then (
 some (a0.2.1 == 0))
 else (
 bif (a0.1 == 1) then (
(aD a0.2.1 (-2147483647) 2147483647).bind fun y2 =>
 some y2)
 else (
 bif (a0.1 == 2) then (
(aD a0.2.1 0 8).bind fun y3 =>
 some y3)
 else (
 bif (a0.1 == 4) then (
(aD a0.2.1 0 8).bind fun y4 =>
 some y4)
 else (
 some false))))
def Jo:Hints:=(n0 (nd (n0 (nd (nd (n0 (cu ⟨[.tmp 5 .bool],[none],none,[]⟩)) .none) .none)) .none))
def Jp:Ct:=.pure true false (.pair bc .unit) .bool (fun x=>i7 x.1)
theorem wL:KC 329 Jp:=pq (Ec bV En) Jo Tryz.func329
def qz (a0:bm.D):Option Bool :=
 bif (a0.2.2.1 == 0) then (
 bif (a0.2.2.2.1 == (-1)) then (
 bif (a0.2.2.2.2.1 == 0) then (
 bif (!a0.2.2.2.2.2.1) then (
 some ((a0.2.2.2.2.2.2.1.length:Int) == 0))
 else (
 some false))
 else (
 some false))
 else (
 some false))
 else (
 some false)
def Jq:Ct:=.pure true false (.pair bm .unit) .bool (fun x=>qz x.1)
theorem GP:KC 361 Jq:=pq En .none Tryz.func361
def tc (a0:ac.D):Option Bool :=
((bif (a0.2.2.2.2.1 == (-1)) then (
 some (a0.1 != 2))
 else (
 some false)):Option Bool).bind fun o1 =>
((bif o1 then (
 some (a0.1,a0.2.1,a0.2.2.1,a0.2.2.2.1,0,a0.2.2.2.2.2))
 else (
 some a0)):Option ac.D).bind fun o2 =>
(bW o2).bind fun y3 =>
 some y3
def Ly:Hints:=(n0 (nd (nd (cu ⟨[.tmp 10 .bool],[none],none,[]⟩) (cu ⟨[.box 1 0 ac],[none],none,[(1,0)]⟩)) .none))
def Lz:Ct:=.pure true false (.pair ac .unit) .bool (fun x=>tc x.1)
theorem Jr:KC 362 Lz:=pq (Ec cM En) Ly Tryz.func362
def jJ (a0:bm.D):Int→Option (Int⊕(Int⊕Bool)):=fun s12 =>
 bif decide (s12 < (a0.2.2.2.2.2.2.1.length:Int)) then (
 idx a0.2.2.2.2.2.2.1 s12 fun x13 =>
(tc x13).bind fun y14 =>
 bif (!y14) then (
 some (.inr (.inr false)))
 else (
 some (.inl (IntKind.wrap .i64 (s12 + 1)))))
 else (
 some (.inr (.inl s12)))
def rI (a0:bm.D):Option Bool :=
((bif (a0.1 == 1) then (
 some (a0.1 == 1))
 else (
((bif (a0.1 == 2) then (
 some (a0.1 == 2))
 else (
((bif (a0.1 == 4) then (
 some (a0.1 == 4))
 else (
 some (a0.1 == 5))):Option Bool).bind fun o1 =>
 some o1)):Option Bool).bind fun o2 =>
 some o2)):Option Bool).bind fun o3 =>
 bif o3 then (
(qz a0).bind fun y4 =>
 bif y4 then (
 some (a0.2.1 == 0))
 else (
 some false))
 else (
 bif (a0.1 == 3) then (
(qz a0).bind fun y5 =>
 bif y5 then (
(aD a0.2.1 1 2147483647).bind fun y6 =>
 some y6)
 else (
 some false))
 else (
 bif (a0.1 == 6) then (
 bif (a0.2.1 == 0) then (
 bif (a0.2.2.2.2.1 == 0) then (
 bif (!a0.2.2.2.2.2.1) then (
 bif ((a0.2.2.2.2.2.2.1.length:Int) == 0) then (
(aD a0.2.2.1 1 99).bind fun y7 =>
 bif y7 then (
 bif (a0.2.2.2.1 == (-1)) then (
 some true)
 else (
 bif (a0.2.2.1 == 0) then (
(aD a0.2.2.2.1 0 2).bind fun y8 =>
 some y8)
 else (
 some false)))
 else (
 bif (a0.2.2.1 == 0) then (
(aD a0.2.2.2.1 0 2).bind fun y9 =>
 some y9)
 else (
 some false)))
 else (
 some false))
 else (
 some false))
 else (
 some false))
 else (
 some false))
 else (
 bif (a0.1 == 7) then (
 bif (a0.2.1 == 0) then (
 bif (a0.2.2.1 == 0) then (
 bif (a0.2.2.2.1 == (-1)) then (
 bif (!a0.2.2.2.2.2.1) then (
 bif ((a0.2.2.2.2.2.2.1.length:Int) == 0) then (
(aD a0.2.2.2.2.1 1 4).bind fun y10 =>
 some y10)
 else (
 some false))
 else (
 some false))
 else (
 some false))
 else (
 some false))
 else (
 some false))
 else (
 bif (a0.1 == 8) then (
(aD a0.2.1 0 99).bind fun y11 =>
 bif y11 then (
 bif (a0.2.2.1 == 0) then (
 bif (a0.2.2.2.1 == (-1)) then (
 bif (a0.2.2.2.2.1 == 0) then (
 some ((a0.2.2.2.2.2.2.1.length:Int) == 0))
 else (
 some false))
 else (
 some false))
 else (
 some false))
 else (
 some false))
 else (
 bif (a0.1 == 9) then (
(al (jJ a0) 0).bind fun o15 =>
 match o15 with
| .inl s16=>(
 bif (a0.2.1 == 0) then (
 bif (a0.2.2.1 == 0) then (
 bif (a0.2.2.2.1 == (-1)) then (
 bif (a0.2.2.2.2.1 == 0) then (
 bif (!a0.2.2.2.2.2.1) then (
(aD (a0.2.2.2.2.2.2.1.length:Int) 1 3).bind fun y18 =>
 some y18)
 else (
 some false))
 else (
 some false))
 else (
 some false))
 else (
 some false))
 else (
 some false))
| .inr o17=>(
 some o17))
 else (
 some false))))))
def NW:Hints:=(n0 (nd (n0 (nd (nd (n0 (.node (some ⟨[.tmp 6 .bool],[none],none,[]⟩) none .none (n0 (.node (some ⟨[.tmp 6 .bool],[none],none,[]⟩) none .none (n0 (cu ⟨[.tmp 6 .bool],[none],none,[]⟩)))))) (n0 (n0 (n0 (n0 (n0 (n0 (n0 (n0 (n0 (n0 (nd (nd (n0 (nd (.node none (some ⟨[.tmp 3 (.int .i64)],[some 1],some [.tmp 2 .bool],[]⟩) .none .none) .none)) .none) .none)))))))))))) .none)) .none))
def NX:Ct:=.pure true false (.pair bm .unit) .bool (fun x=>rI x.1)
theorem LA:KC 330 NX:=pq (Ec bV (Ec GP (Ec Jr En))) NW Tryz.func330
def mc (a0:bm.D) (a1:Int):Option Bool :=
(aD a1 1 6).bind fun y1 =>
 bif (!y1) then (
 some false)
 else (
((bif (a0.1 == 2) then (
 some (a0.1 == 2))
 else (
 some (a0.1 == 6))):Option Bool).bind fun o2 =>
 bif o2 then (
 some (a1 == 1))
 else (
((bif (a0.1 == 3) then (
 some (a0.1 == 3))
 else (
((bif (a0.1 == 4) then (
 some (a0.1 == 4))
 else (
 some (a0.1 == 5))):Option Bool).bind fun o3 =>
 some o3)):Option Bool).bind fun o4 =>
 bif o4 then (
 some (a1 != 2))
 else (
((bif (a0.1 == 7) then (
 some (a0.1 == 7))
 else (
 some (a0.1 == 8))):Option Bool).bind fun o5 =>
 bif o5 then (
 some (a1 == 2))
 else (
 bif (a0.1 == 1) then (
 some true)
 else (
 some (a0.1 == 9))))))
def Js:Hints:=(n0 (n0 (nd (n0 (nd (nd (n0 (cu ⟨[.tmp 10 .bool],[none],none,[]⟩)) (n0 (nd (n0 (.node (some ⟨[.tmp 15 .bool],[none],none,[]⟩) none .none (n0 (cu ⟨[.tmp 15 .bool],[none],none,[]⟩)))) (n0 (nd (n0 (cu ⟨[.tmp 21 .bool],[none],none,[]⟩)) .none))))) .none)) .none)))
def Jt:Ct:=.pure true false (.pair bm (.pair (.int .i64) .unit)) .bool (fun x=>mc x.1 x.2.1)
theorem wM:KC 331 Jt:=pq (Ec bV En) Js Tryz.func331
def fJ (a0:aa.D):Option Bool :=
(((aD a0.1 1 99).bind fun y1 =>
 bif (!y1) then (
 some true)
 else (
(aD a0.2.1 0 2).bind fun y2 =>
 bif (!y2) then (
 some true)
 else (
(aD a0.2.2.1 0 99).bind fun y3 =>
 bif (!y3) then (
 some true)
 else (
(aD a0.2.2.2.1 0 4).bind fun y4 =>
 bif (!y4) then (
 some true)
 else (
(aD a0.2.2.2.2.2.2.2.1 (-1) 9999).bind fun y5 =>
 bif (!y5) then (
 some true)
 else (
(aD a0.2.2.2.2.2.2.2.2.1 (-1) 2147483647).bind fun y6 =>
 some (!y6))))))):Option Bool).bind fun o7 =>
 bif o7 then (
 some false)
 else (
((bif (a0.2.2.2.1 == 0) then (
 bif (a0.2.2.1 == 0) then (
 some true)
 else (
 bif (a0.2.2.2.2.2.2.1.1 == 2) then (
 some (decide (a0.2.2.2.2.2.2.2.2.1 < 0)))
 else (
 some false)))
 else (
 bif (a0.2.2.2.2.2.2.1.1 == 2) then (
 some (decide (a0.2.2.2.2.2.2.2.2.1 < 0)))
 else (
 some false))):Option Bool).bind fun o8 =>
 bif o8 then (
 some false)
 else (
(nO a0.2.2.2.2.1).bind fun y9 =>
 bif y9 then (
(i7 a0.2.2.2.2.2.1).bind fun y10 =>
 bif y10 then (
(rI a0.2.2.2.2.2.2.1).bind fun y11 =>
 bif y11 then (
(mc a0.2.2.2.2.2.2.1 a0.2.2.2.2.1.1).bind fun y12 =>
 some y12)
 else (
 some false))
 else (
 some false))
 else (
 some false)))
def GQ:Hints:=(n0 (nd (nd (cu ⟨[.tmp 36 .bool],[none],none,[]⟩) .none) (nd (nd (cu ⟨[.tmp 55 .bool],[none],none,[]⟩) .none) .none)))
def GR:Ct:=.pure true false (.pair aa .unit) .bool (fun x=>fJ x.1)
theorem nP:KC 241 GR:=pq (Ec bV (Ec AY (Ec wL (Ec LA (Ec wM En))))) GQ Tryz.func241
def j9 (a0:(List aa.D)):Int→Option (Int⊕(Int⊕Bool)):=fun s1 =>
 bif decide (s1 < (a0.length:Int)) then (
((idx a0 s1 fun x2 =>
(fJ x2).bind fun y3 =>
 bif (!y3) then (
 some true)
 else (
 bif decide (s1 > 0) then (
 idx a0 (IntKind.wrap .i64 (s1 - 1)) fun x4 =>
 idx a0 s1 fun x5 =>
 some (decide (x4.1≥x5.1)))
 else (
 some false))):Option Bool).bind fun o6 =>
 bif o6 then (
 some (.inr (.inr false)))
 else (
 some (.inl (IntKind.wrap .i64 (s1 + 1)))))
 else (
 some (.inr (.inl s1)))
def fh (a0:(List aa.D)):Option Bool :=
(al (j9 a0) 0).bind fun o7 =>
 match o7 with
| .inl s8=>(
 some (decide ((a0.length:Int)≤5)))
| .inr o9=>(
 some o9)
def Ju:Hints:=(n0 (nd (n0 (nd (.node none (some ⟨[.tmp 3 (.int .i64)],[some 0],some [.tmp 2 .bool],[]⟩) (n0 (nd (nd (nd (cu ⟨[.tmp 33 .bool],[none],none,[]⟩) .none) .none) .none)) .none) .none)) .none))
def yF:Ct:=.pure true false (.pair (.slice aa) .unit) .bool (fun x=>fh x.1)
theorem ka:KC 119 yF:=pq (Ec nP En) Ju Tryz.func119
def iM (a0:T_Game.D):Int→Option (Int⊕(Int⊕Bool)):=fun s1 =>
 bif decide (s1 < (a0.2.2.2.2.2.1.length:Int)) then (
 idx a0.2.2.2.2.2.1 s1 fun x2 =>
(pj x2).bind fun y3 =>
 bif (!y3) then (
 some (.inr (.inr false)))
 else (
 some (.inl (IntKind.wrap .i64 (s1 + 1)))))
 else (
 some (.inr (.inl s1)))
def td (a0:T_Game.D):Option Bool :=
(al (iM a0) 0).bind fun o4 =>
 match o4 with
| .inl s5=>(
(db a0.1).bind fun y7 =>
 bif y7 then (
(fh a0.2.1).bind fun y8 =>
 some y8)
 else (
 some false))
| .inr o6=>(
 some o6)
def LB:Hints:=(n0 (nd (n0 (nd (.node none (some ⟨[.tmp 3 (.int .i64)],[some 0],some [.tmp 2 .bool],[]⟩) .none .none) .none)) .none))
def AZ:Ct:=.pure true false (.pair T_Game .unit) .bool (fun x=>td x.1)
theorem Jv:KC 18 AZ:=pq (Ec Jj (Ec dv (Ec ka En))) LB Tryz.func18
def i8 (a0:(List aa.D)) (a1:Int):Int→Option (Int⊕(Int⊕Int)):=fun s1 =>
 bif decide (s1 < (a0.length:Int)) then (
 idx a0 s1 fun x2 =>
 bif (x2.1 == a1) then (
 some (.inr (.inr s1)))
 else (
 some (.inl (IntKind.wrap .i64 (s1 + 1)))))
 else (
 some (.inr (.inl s1)))
def fK (a0:(List aa.D)) (a1:Int):Option Int :=
(al (i8 a0 a1) 0).bind fun o3 =>
 match o3 with
| .inl s4=>(
 some (-1))
| .inr o5=>(
 some o5)
def GS:Hints:=(n0 (nd (n0 (nd (.node none (some ⟨[.tmp 5 (.int .i64)],[some 0],some [.tmp 4 (.int .i64)],[]⟩) .none .none) .none)) .none))
def wN:Ct:=.pure true false (.pair (.slice aa) (.pair (.int .i64) .unit)) (.int .i64) (fun x=>fK x.1 x.2.1)
theorem i9:KC 224 wN:=pq En GS Tryz.func224
def kb (a0:(List aa.D)) (a1:aa.D):Int→Option (Int⊕Int):=fun s1 =>
((bif decide (s1 < (a0.length:Int)) then (
 idx a0 s1 fun x2 =>
 some (decide (x2.1 < a1.1)))
 else (
 some false)):Option Bool).bind fun o3 =>
 bif o3 then (
 some (.inl (IntKind.wrap .i64 (s1 + 1))))
 else (
 some (.inr s1))
def qA (a0:(List aa.D)) (a1:aa.D):Option ((List aa.D)×(Bool×Unit)) :=
(al (kb a0 a1) 0).bind fun o4 =>
 if 0≤(0:Int) then (if (0:Int)≤o4 then (if o4≤(a0.length:Int) then (
(cm ((a0.take o4.toNat).drop (0:Int).toNat)).bind fun y5 =>
(dN a1).bind fun y6 =>
 if (y5.length + [y6].length) * (24 * 22)≤aC then (
 if 0≤o4 then (if o4≤(a0.length:Int) then (if (a0.length:Int)≤(a0.length:Int) then (
(cm ((a0.take (a0.length:Int).toNat).drop o4.toNat)).bind fun y7 =>
 if ((y5++[y6]).length + y7.length) * (24 * 22)≤aC then (
(((fK a0 a1.1).bind fun y8 =>
 bif decide (y8≥0) then (
 some true)
 else (
(fh ((y5++[y6])++y7)).bind fun y9 =>
 some (!y9))):Option Bool).bind fun o10 =>
 bif o10 then (
(cm a0).bind fun y11 =>
 some (y11,false,()))
 else (
 some (((y5++[y6])++y7),true,()))) else none) else none) else none) else none) else none) else none) else none) else none
def Jw:Hints:=(n0 (n0 (nd (nd (.node none (some ⟨[.tmp 6 (.int .i64)],[some 0],none,[]⟩) (nd (nd (cu ⟨[.tmp 21 .bool],[none],none,[]⟩) .none) .none) .none) .none) (n0 (n0 (n0 (nd (nd (cu ⟨[.tmp 48 .bool],[none],none,[]⟩) .none) .none)))))))
def pk:Ct:=.pure false true (.pair (.slice aa) (.pair aa .unit)) (.pair (.slice aa) (.pair .bool .unit)) (fun x=>qA x.1 x.2.1)
theorem xE:KC 98 pk:=pq (Ec ka (Ec cH (Ec cG (Ec i9 En)))) Jw Tryz.func98
def zW (a0:(List aa.D)) (a1:Int):Option ((List aa.D)×(Bool×Unit)) :=
(fK a0 a1).bind fun y1 =>
 bif decide (y1 < 0) then (
(cm a0).bind fun y2 =>
 some (y2,false,()))
 else (
 if 0≤(0:Int) then (if (0:Int)≤y1 then (if y1≤(a0.length:Int) then (
(cm ((a0.take y1.toNat).drop (0:Int).toNat)).bind fun y3 =>
 if 0≤(IntKind.wrap .i64 (y1 + 1)) then (if (IntKind.wrap .i64 (y1 + 1))≤(a0.length:Int) then (if (a0.length:Int)≤(a0.length:Int) then (
(cm ((a0.take (a0.length:Int).toNat).drop (IntKind.wrap .i64 (y1 + 1)).toNat)).bind fun y4 =>
 if (y3.length + y4.length) * (24 * 22)≤aC then (
 some ((y3++y4),true,())) else none) else none) else none) else none) else none) else none) else none)
def th:Ct:=.pure false true (.pair (.slice aa) (.pair (.int .i64) .unit)) (.pair (.slice aa) (.pair .bool .unit)) (fun x=>zW x.1 x.2.1)
theorem Bu:KC 99 th:=pq (Ec cH (Ec i9 En)) .none Tryz.func99
def kc (a0:(List ac.D)):Int→Option (Int⊕(Int⊕Bool)):=fun s1 =>
 bif decide (s1 < (a0.length:Int)) then (
 idx a0 s1 fun x2 =>
(bW x2).bind fun y3 =>
 bif (!y3) then (
 some (.inr (.inr false)))
 else (
 some (.inl (IntKind.wrap .i64 (s1 + 1)))))
 else (
 some (.inr (.inl s1)))
def md (a0:(List ac.D)):Option Bool :=
(al (kc a0) 0).bind fun o4 =>
 match o4 with
| .inl s5=>(
 some (decide ((a0.length:Int)≤4)))
| .inr o6=>(
 some o6)
def Jx:Hints:=(n0 (nd (n0 (nd (.node none (some ⟨[.tmp 3 (.int .i64)],[some 0],some [.tmp 2 .bool],[]⟩) .none .none) .none)) .none))
def yG:Ct:=.pure true false (.pair (.slice ac) .unit) .bool (fun x=>md x.1)
theorem wO:KC 78 yG:=pq (Ec cM En) Jx Tryz.func78
def ja (a0:ba.D):Option ba.D :=
 if (([]:List ac.D).length + a0.1.length) * (24 * 7)≤aC then (
(cm a0.2.1).bind fun y1 =>
 if (([]:List Int).length + a0.2.2.1.length) * (24 * 1)≤aC then (
(jI a0.2.2.2.1).bind fun y2 =>
 some (([]++a0.1),y1,([]++a0.2.2.1),y2,())) else none) else none
def yI:Ct:=.pure true true (.pair ba .unit) ba (fun x=>ja x.1)
theorem nB:KC 173 yI:=pq (Ec cH (Ec ma En)) .none Tryz.func173
def tj (a0:(List Int)) (a1:Int):Int→Option (Int⊕(Int⊕Bool)):=fun s1 =>
 bif decide (s1 < (a0.length:Int)) then (
 idx a0 s1 fun x2 =>
 bif (x2 == a1) then (
 some (.inr (.inr true)))
 else (
 some (.inl (IntKind.wrap .i64 (s1 + 1)))))
 else (
 some (.inr (.inl s1)))
def uE (a0:(List Int)) (a1:Int):Option Bool :=
(al (tj a0 a1) 0).bind fun o3 =>
 match o3 with
| .inl s4=>(
 some false)
| .inr o5=>(
 some o5)
def Re:Hints:=(n0 (nd (n0 (nd (.node none (some ⟨[.tmp 5 (.int .i64)],[some 0],some [.tmp 4 .bool],[]⟩) .none .none) .none)) .none))
def Rf:Ct:=.pure true false (.pair (.slice (.int .i64)) (.pair (.int .i64) .unit)) .bool (fun x=>uE x.1 x.2.1)
theorem yJ:KC 324 Rf:=pq En Re Tryz.func324
def nQ (a0:aa.D) (a1:Int):Option Bool :=
 bif (a0.2.2.2.2.2.2.2.2.1 != 0) then (
 bif (a0.2.2.2.2.2.2.2.1 == (-1)) then (
 some true)
 else (
 some (decide (a0.2.2.2.2.2.2.2.1≥a1))))
 else (
 some false)
def NY:Ct:=.pure true false (.pair aa (.pair (.int .i64) .unit)) .bool (fun x=>nQ x.1 x.2.1)
theorem A0:KC 230 NY:=pq En .none Tryz.func230
def EZ (a0:aa.D) (a1:ac.D):Option Bool :=
 bif (a0.2.2.2.1 != 0) then (
 some true)
 else (
 bif (a0.2.2.1 == a1.2.1) then (
 some true)
 else (
 some (a0.2.2.1 == a1.2.2.1)))
def PK:Ct:=.pure true false (.pair aa (.pair ac .unit)) .bool (fun x=>EZ x.1 x.2.1)
theorem NZ:KC 365 PK:=pq En .none Tryz.func365
def rJ (a0:ae.D) (a1:Int):(Int×Int)→Option ((Int×Int)⊕(Int×Int)):=fun s1 =>
 bif decide (s1.2 < (a0.1.length:Int)) then (
((idx a0.1 s1.2 fun x2 =>
 bif (x2.2.2.2.1 == 2) then (
 idx a0.1 s1.2 fun x3 =>
 some (x3.2.2.1 == a1))
 else (
 some false)):Option Bool).bind fun o4 =>
((bif o4 then (
 some (IntKind.wrap .i64 (s1.1 + 1)))
 else (
 some s1.1)):Option Int).bind fun o5 =>
 some (.inl (o5,IntKind.wrap .i64 (s1.2 + 1))))
 else (
 some (.inr s1))
def tp (a0:ae.D) (a1:Int):Option Int :=
(al (rJ a0 a1) (0,0)).bind fun o6 =>
 some o6.1
def LC:Hints:=(n0 (n0 (nd (n0 (nd (.node none (some ⟨[.tmp 5 (.int .i64),.tmp 6 (.int .i64)],[some 0],none,[]⟩) (n0 (nd (nd (nd (cu ⟨[.tmp 30 .bool],[none],none,[]⟩) (cu ⟨[.tmp 5 (.int .i64)],[none],none,[]⟩)) .none) .none)) .none) .none)) .none)))
def LD:Ct:=.pure true false (.pair ae (.pair (.int .i64) .unit)) (.int .i64) (fun x=>tp x.1 x.2.1)
theorem Jy:KC 385 LD:=pq En LC Tryz.func385
def rK (a0:ae.D) (a1:Int):(Int×Int)→Option ((Int×Int)⊕(Int×Int)):=fun s1 =>
 bif decide (s1.2 < (a0.1.length:Int)) then (
((idx a0.1 s1.2 fun x2 =>
 bif (x2.2.2.2.1 == 2) then (
 idx a0.1 s1.2 fun x3 =>
 bif (x3.2.2.1 == a1) then (
 idx a0.1 s1.2 fun x4 =>
 some x4.2.2.2.2.2.2.2.2.2.2.2.2.1)
 else (
 some false))
 else (
 some false)):Option Bool).bind fun o5 =>
((bif o5 then (
 some (IntKind.wrap .i64 (s1.1 + 1)))
 else (
 some s1.1)):Option Int).bind fun o6 =>
 some (.inl (o6,IntKind.wrap .i64 (s1.2 + 1))))
 else (
 some (.inr s1))
def tq (a0:ae.D) (a1:Int):Option Int :=
(al (rK a0 a1) (0,0)).bind fun o7 =>
 some o7.1
def LE:Hints:=(n0 (n0 (nd (n0 (nd (.node none (some ⟨[.tmp 5 (.int .i64),.tmp 6 (.int .i64)],[some 0],none,[]⟩) (n0 (nd (nd (nd (cu ⟨[.tmp 38 .bool],[none],none,[]⟩) (cu ⟨[.tmp 5 (.int .i64)],[none],none,[]⟩)) .none) .none)) .none) .none)) .none)))
def LF:Ct:=.pure true false (.pair ae (.pair (.int .i64) .unit)) (.int .i64) (fun x=>tq x.1 x.2.1)
theorem Jz:KC 386 LF:=pq En LE Tryz.func386
def vW (a0:ae.D) (a1:Int) (a2:bc.D):Option Bool :=
(((i7 a2).bind fun y1 =>
 bif (!y1) then (
 some true)
 else (
(aD a1 0 (IntKind.wrap .i64 ((a0.2.1.length:Int) - 1))).bind fun y2 =>
 some (!y2))):Option Bool).bind fun o3 =>
 bif o3 then (
 some false)
 else (
 bif (a2.1 == 1) then (
 idx a0.2.1 a1 fun x4 =>
 some (decide (x4.1≤a2.2.1)))
 else (
 bif (a2.1 == 2) then (
(tp a0 a1).bind fun y5 =>
 some (decide (y5≥a2.2.1)))
 else (
 bif (a2.1 == 3) then (
 some (a0.2.2.1 == a1))
 else (
 bif (a2.1 == 4) then (
(tq a0 a1).bind fun y6 =>
 some (decide (y6≥a2.2.1)))
 else (
 some true)))))
def N0:Hints:=(n0 (nd (nd (cu ⟨[.tmp 18 .bool],[none],none,[]⟩) .none) .none))
def N1:Ct:=.pure true false (.pair ae (.pair (.int .i64) (.pair bc .unit))) .bool (fun x=>vW x.1 x.2.1 x.2.2.1)
theorem LG:KC 366 N1:=pq (Ec bV (Ec wL (Ec Jy (Ec Jz En)))) N0 Tryz.func366
def kd (a0:ae.D) (a1:Int):Int→Option (Int⊕(Int⊕Int)):=fun s1 =>
 bif decide (s1 < (a0.1.length:Int)) then (
 idx a0.1 s1 fun x2 =>
 bif (x2.1 == a1) then (
 some (.inr (.inr s1)))
 else (
 some (.inl (IntKind.wrap .i64 (s1 + 1)))))
 else (
 some (.inr (.inl s1)))
def ew (a0:ae.D) (a1:Int):Option Int :=
(al (kd a0 a1) 0).bind fun o3 =>
 match o3 with
| .inl s4=>(
 some (-1))
| .inr o5=>(
 some o5)
def JA:Hints:=(n0 (nd (n0 (nd (.node none (some ⟨[.tmp 5 (.int .i64)],[some 0],some [.tmp 4 (.int .i64)],[]⟩) .none .none) .none)) .none))
def JB:Ct:=.pure true false (.pair ae (.pair (.int .i64) .unit)) (.int .i64) (fun x=>ew x.1 x.2.1)
theorem eX:KC 321 JB:=pq En JA Tryz.func321
def pm (a0:ae.D) (a1:ac.D):Option Int :=
 bif (a1.2.2.1 == 0) then (
(aD a1.2.2.2.1 0 (IntKind.wrap .i64 ((a0.2.1.length:Int) - 1))).bind fun y1 =>
 bif (!y1) then (
 some (-1))
 else (
 some a1.2.2.2.1))
 else (
(ew a0 a1.2.2.1).bind fun y2 =>
 bif decide (y2 < 0) then (
 some (-1))
 else (
 idx a0.1 y2 fun x3 =>
 some x3.2.2.1))
def LH:Ct:=.pure true false (.pair ae (.pair ac .unit)) (.int .i64) (fun x=>pm x.1 x.2.1)
theorem yK:KC 339 LH:=pq (Ec bV (Ec eX En)) .none Tryz.func339
def kg (a0:ae.D) (a1:Int) (a2:cp.D) (a3:ac.D):Option Bool :=
(pm a0 a3).bind fun y1 =>
((bif (y1 == (-1)) then (
 some true)
 else (
 bif (a2.2.1 == 1) then (
 bif (y1 != a1) then (
 some true)
 else (
 bif (a2.2.1 == 2) then (
 some (y1 == a1))
 else (
 some false)))
 else (
 bif (a2.2.1 == 2) then (
 some (y1 == a1))
 else (
 some false)))):Option Bool).bind fun o2 =>
 bif o2 then (
 some false)
 else (
 bif (a2.2.2.2.2.1 == 0) then (
 some true)
 else (
 some (a2.2.2.2.2.1 == a3.2.2.1)))
def C7:Hints:=(n0 (n0 (nd (nd (cu ⟨[.tmp 34 .bool],[none],none,[]⟩) .none) .none)))
def C8:Ct:=.pure true false (.pair ae (.pair (.int .i64) (.pair cp (.pair ac .unit)))) .bool (fun x=>kg x.1 x.2.1 x.2.2.1 x.2.2.2.1)
theorem Bv:KC 387 C8:=pq (Ec yK En) C7 Tryz.func387
def gp (a0:ae.D) (a1:ac.D):Option ah.D :=
(ew a0 a1.2.1).bind fun y1 =>
((bif (a1.1 != 1) then (
 some true)
 else (
 some (decide (y1 < 0)))):Option Bool).bind fun o2 =>
 bif o2 then (
 some (0,0,0,0,0,0,0,0,0,0,0,false,false,()))
 else (
 idx a0.1 y1 fun x3 =>
 some x3)
def LI:Hints:=(n0 (n0 (nd (nd (cu ⟨[.tmp 16 .bool],[none],none,[]⟩) .none) .none)))
def LJ:Ct:=.pure true false (.pair ae (.pair ac .unit)) ah (fun x=>gp x.1 x.2.1)
theorem rL:KC 327 LJ:=pq (Ec eX En) LI Tryz.func327
def ki (a0:ae.D) (a1:cp.D) (a2:ac.D):Option Bool :=
 bif (a1.2.2.1 == 0) then (
(gp a0 a2).bind fun y1 =>
 let k2:Int:=IntKind.wrap .i64 (BitVec.ofInt (IntKind.bits .i64) y1.2.2.2.2.2.2.2.1 &&& BitVec.ofInt (IntKind.bits .i64) a1.2.2.2.1).toNat
 some (k2 == a1.2.2.2.1))
 else (
 bif (a1.2.2.1 == a2.2.1) then (
(gp a0 a2).bind fun y3 =>
 let k4:Int:=IntKind.wrap .i64 (BitVec.ofInt (IntKind.bits .i64) y3.2.2.2.2.2.2.2.1 &&& BitVec.ofInt (IntKind.bits .i64) a1.2.2.2.1).toNat
 some (k4 == a1.2.2.2.1))
 else (
 some false))
def C9:Ct:=.pure true false (.pair ae (.pair cp (.pair ac .unit))) .bool (fun x=>ki x.1 x.2.1 x.2.2.1)
theorem Bw:KC 388 C9:=pq (Ec rL En) .none Tryz.func388
def qB (a0:ae.D) (a1:Int) (a2:cp.D) (a3:ac.D):Option Bool :=
(nO a2).bind fun y1 =>
 bif y1 then (
(bW a3).bind fun y2 =>
 bif y2 then (
 bif (a2.1 == a3.1) then (
(kg a0 a1 a2 a3).bind fun y3 =>
 bif y3 then (
(ki a0 a2 a3).bind fun y4 =>
 bif y4 then (
 bif decide (a3.2.2.2.2.1≥a2.2.2.2.2.2.1) then (
 bif (a2.2.2.2.2.2.2.1 == 0) then (
 some true)
 else (
 some (a2.2.2.2.2.2.2.1 == a3.2.2.2.2.2.1)))
 else (
 some false))
 else (
 some false))
 else (
 some false))
 else (
 some false))
 else (
 some false))
 else (
 some false)
def JC:Ct:=.pure true false (.pair ae (.pair (.int .i64) (.pair cp (.pair ac .unit)))) .bool (fun x=>qB x.1 x.2.1 x.2.2.1 x.2.2.2.1)
theorem GT:KC 367 JC:=pq (Ec cM (Ec AY (Ec Bv (Ec Bw En)))) .none Tryz.func367
def uF (a0:ae.D) (a1:aa.D) (a2:ac.D):Option Bool :=
(fJ a1).bind fun y1 =>
 bif y1 then (
(nQ a1 a0.2.2.2.1).bind fun y2 =>
 bif y2 then (
(EZ a1 a2).bind fun y3 =>
 bif y3 then (
(vW a0 a1.2.1 a1.2.2.2.2.2.1).bind fun y4 =>
 bif y4 then (
(qB a0 a1.2.1 a1.2.2.2.2.1 a2).bind fun y5 =>
 some y5)
 else (
 some false))
 else (
 some false))
 else (
 some false))
 else (
 some false)
def PL:Ct:=.pure true false (.pair ae (.pair aa (.pair ac .unit))) .bool (fun x=>uF x.1 x.2.1 x.2.2.1)
theorem N2:KC 333 PL:=pq (Ec A0 (Ec nP (Ec NZ (Ec LG (Ec GT En))))) .none Tryz.func333
def kj (a0:ae.D) (a1:(List aa.D)) (a2:ac.D) (a3:(List Int)):((List Int)×(Int×Int))→Option (((List Int)×(Int×Int))⊕((List Int)×(Int×Int))):=fun s1 =>
 bif decide (s1.2.2 < (a1.length:Int)) then (
((((idx a1 s1.2.2 fun x2 =>
(uE a3 x2.1).bind fun y3 =>
 bif y3 then (
 some true)
 else (
 idx a1 s1.2.2 fun x4 =>
(uF a0 x4 a2).bind fun y5 =>
 bif (!y5) then (
 some true)
 else (
 idx a1 s1.2.2 fun x6 =>
 some (decide (x6.2.2.2.1 > s1.2.1))))):Option Bool).bind fun o7 =>
 bif o7 then (
 some (s1.1,s1.2.1))
 else (
 idx a1 s1.2.2 fun x8 =>
((bif decide (x8.2.2.2.1 < s1.2.1) then (
 idx a1 s1.2.2 fun x9 =>
 some ([],x9.2.2.2.1))
 else (
 some (s1.1,s1.2.1))):Option ((List Int)×Int)).bind fun o10 =>
 idx a1 s1.2.2 fun x11 =>
 if (o10.1.length + [x11.1].length) * (24 * 1)≤aC then (
 some ((o10.1++[x11.1]),o10.2)) else none)):Option ((List Int)×Int)).bind fun o12 =>
 some (.inl (o12.1,o12.2,IntKind.wrap .i64 (s1.2.2 + 1))))
 else (
 some (.inr s1))
def qC (a0:ae.D) (a1:(List aa.D)) (a2:ac.D) (a3:(List Int)):Option (List Int) :=
(al (kj a0 a1 a2 a3) ([],5,0)).bind fun o13 =>
 some o13.1
def JD:Hints:=(n0 (n0 (n0 (nd (n0 (nd (.node none (some ⟨[.tmpO 9 0 (.slice (.int .i64)),.tmp 10 (.int .i64),.tmp 11 (.int .i64)],[some 0],none,[]⟩) (n0 (nd (.node (some ⟨[.tmpO 9 1 (.slice (.int .i64)),.tmp 10 (.int .i64)],[none],none,[(9,0)]⟩) none (nd (nd (cu ⟨[.tmp 44 .bool],[none],none,[]⟩) .none) (nd (n0 (cu ⟨[.tmpO 9 1 (.slice (.int .i64)),.tmp 10 (.int .i64)],[none],none,[(9,0)]⟩)) .none)) .none) .none)) .none) .none)) .none))))
def po:Ct:=.pure true true (.pair ae (.pair (.slice aa) (.pair ac (.pair (.slice (.int .i64)) .unit)))) (.slice (.int .i64)) (fun x=>qC x.1 x.2.1 x.2.2.1 x.2.2.2.1)
theorem xF:KC 265 po:=pq (Ec yJ (Ec N2 En)) JD Tryz.func265
def uG (a0:ac.D):Option Bool :=
 bif (a0.2.2.2.2.1 == 0) then (
 some (a0.1 != 2))
 else (
 some false)
def Gp:Ct:=.pure true false (.pair ac .unit) .bool (fun x=>uG x.1)
theorem Da:KC 266 Gp:=pq En .none Tryz.func266
def uH (a0:(List Int)) (a1:Int):Option (Int×((List Int)×Unit)) :=
((bif decide (a1 < 2) then (
 some true)
 else (
 some ((a0.length:Int) == 0))):Option Bool).bind fun o1 =>
 bif o1 then (
 if (([]:List Int).length + a0.length) * (24 * 1)≤aC then (
 some (0,([]++a0),())) else none)
 else (
 idx a0 0 fun x2 =>
 if a1=0 then none else (
((bif decide ((x2.tmod a1) < 0) then (
 some (IntKind.wrap .i64 ((x2.tmod a1) + a1)))
 else (
 some (x2.tmod a1))):Option Int).bind fun o3 =>
 if 0≤(1:Int) then (if (1:Int)≤(a0.length:Int) then (if (a0.length:Int)≤(a0.length:Int) then (
 if (([]:List Int).length + ((a0.take (a0.length:Int).toNat).drop (1:Int).toNat).length) * (24 * 1)≤aC then (
 some (o3,([]++((a0.take (a0.length:Int).toNat).drop (1:Int).toNat)),())) else none) else none) else none) else none))
def PM:Hints:=(n0 (nd (nd (cu ⟨[.tmp 13 .bool],[none],none,[]⟩) .none) (n0 (nd (n0 (cu ⟨[.tmp 6 (.int .i64)],[none],none,[]⟩)) .none))))
def tt:Ct:=.pure false true (.pair (.slice (.int .i64)) (.pair (.int .i64) .unit)) (.pair (.int .i64) (.pair (.slice (.int .i64)) .unit)) (fun x=>uH x.1 x.2.1)
theorem rM:KC 267 tt:=pq En PM Tryz.func267
def eL (a0:Int) (a1:Int):Option Int :=
((bif decide (a1 < a0) then (
 some a1)
 else (
 some a0)):Option Int).bind fun o1 =>
 bif decide (o1 < 0) then (
 some 0)
 else (
 some o1)
def PN:Hints:=(n0 (n0 (nd (n0 (cu ⟨[.tmp 5 (.int .i64)],[none],none,[]⟩)) .none)))
def PO:Ct:=.pure true false bc (.int .i64) (fun x=>eL x.1 x.2.1)
theorem gy:KC 334 PO:=pq En PN Tryz.func334
def nR (a0:ac.D) (a1:Int):Option ac.D :=
(eL a1 2147483647).bind fun y1 =>
 some (a0.1,a0.2.1,a0.2.2.1,a0.2.2.2.1,y1,a0.2.2.2.2.2)
def N3:Ct:=.pure true false (.pair ac (.pair (.int .i64) .unit)) ac (fun x=>nR x.1 x.2.1)
theorem A1:KC 335 N3:=pq (Ec gy En) .none Tryz.func335
def tY (a0:bm.D) (a1:ac.D):((List ac.D)×Int)→Option (((List ac.D)×Int)⊕((List ac.D)×Int)):=fun s1 =>
((bif decide (s1.2 < (a0.2.2.2.2.2.2.1.length:Int)) then (
 some (a0.1 == 9))
 else (
 some false)):Option Bool).bind fun o2 =>
 bif o2 then (
 idx a0.2.2.2.2.2.2.1 s1.2 fun x3 =>
((bif (x3.2.2.2.2.1 == (-1)) then (
(eL a1.2.2.2.2.1 2147483647).bind fun y4 =>
 some (x3.1,x3.2.1,x3.2.2.1,x3.2.2.2.1,y4,x3.2.2.2.2.2))
 else (
 some x3)):Option ac.D).bind fun o5 =>
 if (s1.1.length + [o5].length) * (24 * 7)≤aC then (
 some (.inl ((s1.1++[o5]),IntKind.wrap .i64 (s1.2 + 1)))) else none)
 else (
 some (.inr s1))
def rN (a0:bm.D) (a1:ac.D):Option (List ac.D) :=
(al (tY a0 a1) ([],0)).bind fun o6 =>
 some o6.1
def N4:Hints:=(n0 (n0 (nd (n0 (nd (.node none (some ⟨[.tmpO 5 0 (.slice ac),.tmp 6 (.int .i64)],[some 0],none,[]⟩) (nd (nd (cu ⟨[.tmp 18 .bool],[none],none,[]⟩) .none) (nd (nd (n0 (nd (n0 (cu ⟨[.box 7 0 ac],[none],none,[(7,0)]⟩)) .none)) .none) .none)) .none) .none)) .none)))
def Bx:Ct:=.pure true true (.pair bm (.pair ac .unit)) (.slice ac) (fun x=>rN x.1 x.2.1)
theorem Ah:KC 336 Bx:=pq (Ec gy En) N4 Tryz.func336
def dd (a0:Int):Option Int :=
 bif decide (a0 > 2147483647) then (
 some 2147483647)
 else (
 bif decide (a0 < (-2147483647)) then (
 some (-2147483647))
 else (
 some a0))
def N5:Ct:=.pure true false (.pair (.int .i64) .unit) (.int .i64) (fun x=>dd x.1)
theorem oI:KC 391 N5:=pq En .none Tryz.func391
def dW (a0:Int) (a1:Int):Option Int :=
(dd a0).bind fun y1 =>
(dd a1).bind fun y2 =>
(dd (IntKind.wrap .i64 (y1 + y2))).bind fun y3 =>
 some y3
def PP:Ct:=.pure true false bc (.int .i64) (fun x=>dW x.1 x.2.1)
theorem qD:KC 383 PP:=pq (Ec oI En) .none Tryz.func383
def By (a0:Int):Option Int :=
(dd a0).bind fun y1 =>
(dd (IntKind.wrap .i64 (2 * y1))).bind fun y2 =>
 some y2
def N6:Ct:=.pure true false (.pair (.int .i64) .unit) (.int .i64) (fun x=>By x.1)
theorem LK:KC 389 N6:=pq (Ec oI En) .none Tryz.func389
def E0 (a0:Int):Option Int :=
(dd a0).bind fun y1 =>
 if 2=0 then none else (
 some (IntKind.wrap .i64 (y1.tdiv 2)))
def PQ:Ct:=.pure true false (.pair (.int .i64) .unit) (.int .i64) (fun x=>E0 x.1)
theorem N7:KC 390 PQ:=pq (Ec oI En) .none Tryz.func390
def tu (a0:bm.D) (a1:Int):Option Int :=
(eL a1 2147483647).bind fun y1 =>
 bif (a0.1 == 1) then (
 some 0)
 else (
 bif (a0.1 == 3) then (
(dW y1 a0.2.1).bind fun y2 =>
 some y2)
 else (
 bif (a0.1 == 4) then (
(By y1).bind fun y3 =>
 some y3)
 else (
 bif (a0.1 == 5) then (
(E0 y1).bind fun y4 =>
 some y4)
 else (
 some y1))))
def LL:Ct:=.pure true false (.pair bm (.pair (.int .i64) .unit)) (.int .i64) (fun x=>tu x.1 x.2.1)
theorem JE:KC 368 LL:=pq (Ec gy (Ec qD (Ec LK (Ec N7 En)))) .none Tryz.func368
def tw (a0:bm.D) (a1:ac.D):Option ac.D :=
((bif (a0.1 == 3) then (
 some (a0.1 == 3))
 else (
((bif (a0.1 == 4) then (
 some (a0.1 == 4))
 else (
 some (a0.1 == 5))):Option Bool).bind fun o1 =>
 some o1)):Option Bool).bind fun o2 =>
 bif o2 then (
(tu a0 a1.2.2.2.2.1).bind fun y3 =>
(nR a1 y3).bind fun y4 =>
 some y4)
 else (
 bif (a0.1 == 6) then (
 some (a1.1,a1.2.1,a0.2.2.1,a0.2.2.2.1,a1.2.2.2.2))
 else (
 bif (a0.1 == 7) then (
 bif (a0.2.2.2.2.1 != 2) then (
 some (a1.1,a1.2.1,a1.2.2.1,a1.2.2.2.1,0,a0.2.2.2.2.1,false,()))
 else (
 some (a1.1,a1.2.1,a1.2.2.1,a1.2.2.2.1,a1.2.2.2.2.1,a0.2.2.2.2.1,a1.2.2.2.2.2.2)))
 else (
 bif (a0.1 == 8) then (
 bif (a1.2.2.2.2.2.1 == 2) then (
(eL (IntKind.wrap .i64 (a1.2.2.2.2.1 + a0.2.1)) 99).bind fun y5 =>
 bif a1.2.2.2.2.2.2.1 then (
 some (a1.1,a1.2.1,a1.2.2.1,a1.2.2.2.1,y5,a1.2.2.2.2.2.1,true,()))
 else (
 some (a1.1,a1.2.1,a1.2.2.1,a1.2.2.2.1,y5,a1.2.2.2.2.2.1,a0.2.2.2.2.2.1,())))
 else (
 some a1))
 else (
 some a1))))
def LM:Hints:=(n0 (nd (n0 (nd (nd (n0 (.node (some ⟨[.tmp 7 .bool],[none],none,[]⟩) none .none (n0 (cu ⟨[.tmp 7 .bool],[none],none,[]⟩)))) .none) .none)) .none))
def LN:Ct:=.pure true false (.pair bm (.pair ac .unit)) ac (fun x=>tw x.1 x.2.1)
theorem JF:KC 337 LN:=pq (Ec gy (Ec A1 (Ec JE En))) LM Tryz.func337
def jb (a0:Int) (a1:Int):Option Int :=
(dd a0).bind fun y1 =>
(dd a1).bind fun y2 =>
(dd (IntKind.wrap .i64 (y1 - y2))).bind fun y3 =>
 some y3
def PR:Ct:=.pure true false bc (.int .i64) (fun x=>jb x.1 x.2.1)
theorem qE:KC 369 PR:=pq (Ec oI En) .none Tryz.func369
def vX (a0:aa.D) (a1:Int):Option aa.D :=
(dN a0).bind fun y1 =>
 bif (a0.2.2.2.2.2.2.1.1 == 2) then (
(jb a0.2.2.2.2.2.2.2.2.1 a1).bind fun y2 =>
(eL y2 2147483647).bind fun y3 =>
 some (y1.1,y1.2.1,y1.2.2.1,y1.2.2.2.1,y1.2.2.2.2.1,y1.2.2.2.2.2.1,y1.2.2.2.2.2.2.1,y1.2.2.2.2.2.2.2.1,y3,()))
 else (
 bif decide (a0.2.2.2.2.2.2.2.2.1 > 0) then (
 some (y1.1,y1.2.1,y1.2.2.1,y1.2.2.2.1,y1.2.2.2.2.1,y1.2.2.2.2.2.1,y1.2.2.2.2.2.2.1,y1.2.2.2.2.2.2.2.1,IntKind.wrap .i64 (a0.2.2.2.2.2.2.2.2.1 - 1),()))
 else (
 some y1))
def Bz:Ct:=.pure true true (.pair aa (.pair (.int .i64) .unit)) aa (fun x=>vX x.1 x.2.1)
theorem Ai:KC 338 Bz:=pq (Ec cG (Ec gy (Ec qE En))) .none Tryz.func338
def oJ (o13:((List ac.D)×Int)):((List ac.D)×Int)→Option (((List ac.D)×Int)⊕((List ac.D)×Int)):=fun s14 =>
 bif decide (s14.2 < (o13.1.length:Int)) then (
((idx o13.1 s14.2 fun _ =>
(o13.1[(s14.2:Int).toNat]?).bind fun x15 =>
(bW x15).bind fun y16 =>
 bif y16 then (
 idx o13.1 s14.2 fun _ =>
(o13.1[(s14.2:Int).toNat]?).bind fun x17 =>
(uG x17).bind fun y18 =>
 some (!y18))
 else (
 some false)):Option Bool).bind fun o19 =>
((bif o19 then (
 idx o13.1 s14.2 fun _ =>
(o13.1[(s14.2:Int).toNat]?).bind fun x20 =>
 if (s14.1.length + [x20].length) * (24 * 7)≤aC then (
 some (s14.1++[x20])) else none)
 else (
 some s14.1)):Option (List ac.D)).bind fun o21 =>
 some (.inl (o21,IntKind.wrap .i64 (s14.2 + 1))))
 else (
 some (.inr s14))
def vY (a0:aa.D) (a1:ac.D):Option ((List ac.D)×(Int×(aa.D×Unit))) :=
(((fJ a0).bind fun y1 =>
 bif (!y1) then (
 some true)
 else (
(bW a1).bind fun y2 =>
 bif (!y2) then (
 some true)
 else (
(mc a0.2.2.2.2.2.2.1 a1.1).bind fun y3 =>
 some (!y3)))):Option Bool).bind fun o4 =>
 bif o4 then (
(dN a0).bind fun y5 =>
 some ([a1],0,y5,()))
 else (
((bif (a0.2.2.2.2.2.2.1.1 == 1) then (
((bif (a1.1 == 1) then (
 some a1.2.2.2.2.1)
 else (
 some 0)):Option Int).bind fun o6 =>
 some ([],o6))
 else (
((bif (a0.2.2.2.2.2.2.1.1 == 2) then (
(eL a1.2.2.2.2.1 a0.2.2.2.2.2.2.2.2.1).bind fun y7 =>
(nR a1 (IntKind.wrap .i64 (a1.2.2.2.2.1 - y7))).bind fun y8 =>
 if (([]:List ac.D).length + [y8].length) * (24 * 7)≤aC then (
 some (([]++[y8]),y7)) else none)
 else (
((bif (a0.2.2.2.2.2.2.1.1 == 9) then (
(rN a0.2.2.2.2.2.2.1 a1).bind fun y9 =>
 some y9)
 else (
(tw a0.2.2.2.2.2.2.1 a1).bind fun y10 =>
 if (([]:List ac.D).length + [y10].length) * (24 * 7)≤aC then (
 some ([]++[y10])) else none)):Option (List ac.D)).bind fun o11 =>
 some (o11,0))):Option ((List ac.D)×Int)).bind fun o12 =>
 some o12)):Option ((List ac.D)×Int)).bind fun o13 =>
(al (oJ o13) ([],0)).bind fun o22 =>
(vX a0 o13.2).bind fun y23 =>
 some (o22.1,o13.2,y23,()))
def N8:Hints:=(n0 (nd (nd (cu ⟨[.tmp 26 .bool],[none],none,[]⟩) .none) (n0 (n0 (nd (n0 (nd (n0 (.node (some ⟨[.tmpO 7 0 (.slice ac),.tmp 8 (.int .i64)],[none],none,[(31,0)]⟩) none (n0 (cu ⟨[.tmp 8 (.int .i64)],[none],none,[]⟩)) (n0 (.node (some ⟨[.tmpO 7 0 (.slice ac),.tmp 8 (.int .i64)],[none],none,[(31,0)]⟩) none .none (n0 (cu ⟨[.tmpO 7 0 (.slice ac)],[none],none,[(31,0)]⟩)))))) .none)) (n0 (nd (n0 (nd (.node none (some ⟨[.tmpO 9 0 (.slice ac),.tmp 10 (.int .i64)],[some 1],none,[]⟩) (n0 (nd (nd (nd (cu ⟨[.tmp 90 .bool],[none],none,[]⟩) (cu ⟨[.tmpO 9 1 (.slice ac)],[none],none,[(9,0)]⟩)) .none) .none)) .none) .none)) .none)))))))
def rO:Ct:=.pure false true (.pair aa (.pair ac .unit)) (.pair (.slice ac) (.pair (.int .i64) (.pair aa .unit))) (fun x=>vY x.1 x.2.1)
theorem Aj:KC 268 rO:=pq (Ec cM (Ec cG (Ec nP (Ec Da (Ec wM (Ec gy (Ec A1 (Ec Ah (Ec JF (Ec Ai En)))))))))) N8 Tryz.func268
def tx (a0:(List aa.D)) (a1:aa.D):Option (List aa.D) :=
(cm a0).bind fun y1 =>
(fK a0 a1.1).bind fun y2 =>
 bif decide (y2≥0) then (
(dN a1).bind fun y3 =>
 idx y1 y2 fun _ =>
(y1[(y2:Int).toNat]?).bind fun x4 =>
 let u5:(List aa.D):=y1.set (y2:Int).toNat y3
 some u5)
 else (
 some y1)
def ql:Ct:=.pure true true (.pair (.slice aa) (.pair aa .unit)) (.slice aa) (fun x=>tx x.1 x.2.1)
theorem yL:KC 269 ql:=pq (Ec cH (Ec cG (Ec i9 En))) .none Tryz.func269
def qF (a0:ae.D) (a1:ac.D):Option Int :=
(pm a0 a1).bind fun y1 =>
 bif (y1 == (-1)) then (
 some a0.2.2.1)
 else (
 some y1)
def yM:Ct:=.pure true false (.pair ae (.pair ac .unit)) (.int .i64) (fun x=>qF x.1 x.2.1)
theorem GU:KC 270 yM:=pq (Ec yK En) .none Tryz.func270
def tZ (a0:(List Int)) (s1:((List Int)×Int)):Int→Option (Int⊕Int):=fun s4 =>
((bif decide (s4 > 0) then (
 idx s1.1 (IntKind.wrap .i64 (s4 - 1)) fun _ =>
(s1.1[(IntKind.wrap .i64 (s4 - 1):Int).toNat]?).bind fun x5 =>
 idx a0 s1.2 fun x6 =>
 some (decide (x5 > x6)))
 else (
 some false)):Option Bool).bind fun o7 =>
 bif o7 then (
 some (.inl (IntKind.wrap .i64 (s4 - 1))))
 else (
 some (.inr s4))
def t5 (a0:(List Int)):((List Int)×Int)→Option (((List Int)×Int)⊕((List Int)×Int)):=fun s1 =>
 bif decide (s1.2 < (a0.length:Int)) then (
((idx a0 s1.2 fun x2 =>
(uE s1.1 x2).bind fun y3 =>
 bif y3 then (
 some s1.1)
 else (
(al (tZ a0 s1) (s1.1.length:Int)).bind fun o8 =>
 if 0≤(0:Int) then (if (0:Int)≤o8 then (if o8≤(s1.1.length:Int) then (
 if (([]:List Int).length + ((s1.1.take (o8.toNat)).drop ((0:Int).toNat)).length) * (24 * 1)≤aC then (
 idx a0 s1.2 fun x9 =>
 if (([]++((s1.1.take (o8.toNat)).drop ((0:Int).toNat))).length + [x9].length) * (24 * 1)≤aC then (
 if 0≤o8 then (if o8≤(s1.1.length:Int) then (if (s1.1.length:Int)≤(s1.1.length:Int) then (
 if ((([]++((s1.1.take (o8.toNat)).drop ((0:Int).toNat)))++[x9]).length + ((s1.1.take ((s1.1.length:Int).toNat)).drop (o8.toNat)).length) * (24 * 1)≤aC then (
 some ((([]++((s1.1.take (o8.toNat)).drop ((0:Int).toNat)))++[x9])++((s1.1.take ((s1.1.length:Int).toNat)).drop (o8.toNat)))) else none) else none) else none) else none) else none) else none) else none) else none) else none)):Option (List Int)).bind fun o10 =>
 some (.inl (o10,IntKind.wrap .i64 (s1.2 + 1))))
 else (
 some (.inr s1))
def vZ (a0:(List Int)):Option (List Int) :=
(al (t5 a0) ([],0)).bind fun o11 =>
 some o11.1
def N9:Hints:=(n0 (n0 (nd (n0 (nd (.node none (some ⟨[.tmpO 3 0 (.slice (.int .i64)),.tmp 4 (.int .i64)],[some 0],none,[]⟩) (n0 (nd (.node (some ⟨[.tmpO 3 1 (.slice (.int .i64))],[none],none,[(3,0)]⟩) none (n0 (n0 (nd (nd (.node none (some ⟨[.tmp 5 (.int .i64)],[some 2],none,[]⟩) (nd (nd (cu ⟨[.tmp 34 .bool],[none],none,[]⟩) .none) .none) .none) .none) .none))) .none) .none)) .none) .none)) .none)))
def BA:Ct:=.pure true true (.pair (.slice (.int .i64)) .unit) (.slice (.int .i64)) (fun x=>vZ x.1)
theorem Ak:KC 340 BA:=pq (Ec yJ En) N9 Tryz.func340
def zX (a0:(List Int)) (a1:Int):Option (List Int) :=
 if (([]:List Int).length + a0.length) * (24 * 1)≤aC then (
 if (([]++a0).length + [a1].length) * (24 * 1)≤aC then (
(vZ (([]++a0)++[a1])).bind fun y1 =>
 some y1) else none) else none
def tz:Ct:=.pure true true (.pair (.slice (.int .i64)) (.pair (.int .i64) .unit)) (.slice (.int .i64)) (fun x=>zX x.1 x.2.1)
theorem BB:KC 271 tz:=pq (Ec Ak En) .none Tryz.func271
def oK (rec:(nz.D→ac.D→(List Int)→Option (Unit×nz.D))) (y8:((List ac.D)×(Int×(aa.D×Unit)))) (y11:(List Int)):(Int×(lS.D×((List aa.D)×((List Int)×((List ac.D)×((List ar.D)×Unit))))))→Option ((Int×(lS.D×((List aa.D)×((List Int)×((List ac.D)×((List ar.D)×Unit))))))⊕(Int×(lS.D×((List aa.D)×((List Int)×((List ac.D)×((List ar.D)×Unit))))))):=fun s13 =>
 bif decide (s13.1 < (y8.1.length:Int)) then (
 idx y8.1 s13.1 fun _ =>
(y8.1[(s13.1:Int).toNat]?).bind fun x14 =>
(rec s13.2 x14 y11).bind fun y15 =>
 some (.inl (IntKind.wrap .i64 (s13.1 + 1),y15.2)))
 else (
 some (.inr s13))
def kl (rec:(nz.D→ac.D→(List Int)→Option (Unit×nz.D))) (x:nz.D) (a0:ac.D) (a1:(List Int)):Option (Unit×nz.D) :=
(qC x.1 x.2.1 a0 a1).bind fun y1 =>
 bif ((y1.length:Int) == 0) then (
(uG a0).bind fun y2 =>
((bif (!y2) then (
 if (x.2.2.2.1.length + [a0].length) * (24 * 7)≤aC then (
 some (x.1,x.2.1,x.2.2.1,(x.2.2.2.1++[a0]),x.2.2.2.2)) else none)
 else (
 some x)):Option nz.D).bind fun o3 =>
 some ((),o3))
 else (
(uH x.2.2.1 (y1.length:Int)).bind fun y4 =>
 idx y1 y4.1 fun _ =>
(y1[(y4.1:Int).toNat]?).bind fun x5 =>
(fK x.2.1 x5).bind fun y6 =>
 idx x.2.1 y6 fun x7 =>
(vY x7 a0).bind fun y8 =>
(tx x.2.1 y8.2.2.1).bind fun y9 =>
(qF x.1 a0).bind fun y10 =>
 if (([]:List ac.D).length + y8.1.length) * (24 * 7)≤aC then (
 if (x.2.2.2.2.1.length + ([(x7.1,y10,y4.1,(y1.length:Int),a0,([]++y8.1),y8.2.1,(a1.length:Int),())]).length) * (24 * 14)≤aC then (
(zX a1 x7.1).bind fun y11 =>
(al (oK rec y8 y11) (0,x.1,y9,y4.2.1,x.2.2.2.1,(x.2.2.2.2.1++([(x7.1,y10,y4.1,(y1.length:Int),a0,([]++y8.1),y8.2.1,(a1.length:Int),())])),())).bind fun o16 =>
 some ((),o16.2)) else none) else none)
def iN (n:Nat):nz.D→ac.D→(List Int)→Option (Unit×nz.D):=Nat.rec (motive:=fun _=>(nz.D→ac.D→(List Int)→Option (Unit×nz.D))) (fun _ _ _=>none) (fun _ g=>kl g) n
def Oa:Hints:=(n0 (n0 (nd (n0 (nd (nd (n0 (cu ⟨[.boxO 0 0 6 nz],[none],none,[(0,4),(0,0),(0,2),(0,3),(0,5)]⟩)) .none) .none)) (n0 (n0 (nd (nd (cu ⟨[],[],none,[(0,2)]⟩) .none) (n0 (n0 (n0 (n0 (nd (nd (cu ⟨[],[],none,[(118,0)]⟩) .none) (nd (.node none (some ⟨[.tmp 14 (.int .i64),.boxO 0 0 6 nz],[some 0],none,[]⟩) (n0 (nd (nd (.node none (some ⟨[],[some 6],none,[]⟩) .none .none) .none) .none)) .none) .none))))))))))))
def v5 (g:(nz.D→ac.D→(List Int)→Option (Unit×nz.D))):Ct:=.run nz [] false false false (.pair ac (.pair (.slice (.int .i64)) .unit)) .unit (fun x y=>g x y.1 y.2.1)
theorem LO (n:Nat):fC Tryz.prog 159 (v5 (iN n)):=by
 induction n with
 | zero=>exact PD (fn:=Tryz.f159) nz [] false false false (.pair ac (.pair (.slice (.int .i64)) .unit)) .unit Tryz.func159 (by kernel_rfl)
 | succ n ih=>exact NO (E:={ T:=tab,G:=[(159,v5 (iN n)),(224,wN),(265,po),(266,Gp),(267,tt),(268,rO),(269,ql),(270,yM),(271,tz)],Z:=true }) (aE.frz (aE.cons (ih) (aE.cons i9 (aE.cons xF (aE.cons Da (aE.cons rM (aE.cons Aj (aE.cons yL (aE.cons GU (aE.cons BB (aE.nil sU))))))))))) mixed (fn:=Tryz.f159) nz [] false false false (.pair ac (.pair (.slice (.int .i64)) .unit)) .unit (fun x y=>kl (iN n) x y.1 y.2.1) Oa Tryz.func159 (by kernel_rfl) (fun x y=>by kernel_rfl)
def me (a0:ae.D) (a1:(List aa.D)) (a2:ac.D) (a3:(List Int)):Option ba.D :=
(cm a1).bind fun y1 =>
 if (([]:List Int).length + a3.length) * (24 * 1)≤aC then (
(db a0).bind fun y2 =>
 bif y2 then (
(fh a1).bind fun y3 =>
 bif y3 then (
(bW a2).bind fun y4 =>
 bif y4 then (
(iN 8 (a0,y1,([]++a3),[],[],()) a2 []).bind fun y5 =>
 some (y5.2.2.2.2.1,y5.2.2.1,y5.2.2.2.1,y5.2.2.2.2.2))
 else (
 some ([],y1,([]++a3),[],())))
 else (
 some ([],y1,([]++a3),[],())))
 else (
 some ([],y1,([]++a3),[],()))) else none
def JG:Hints:=(n0 (n0 (nd (n0 (nd (.node none (some ⟨[],[some 3],none,[]⟩) .none .none) .none)) .none)))
def yN:Ct:=.pure true true (.pair ae (.pair (.slice aa) (.pair ac (.pair (.slice (.int .i64)) .unit)))) ba (fun x=>me x.1 x.2.1 x.2.2.1 x.2.2.2.1)
theorem xG:fC Tryz.prog 47 yN:=vN (E:={ T:=tab,G:=[(159,v5 (iN 8)),(118,yE),(119,yF),(155,ph),(158,yD)],V:=[32],Z:=true }) (aE.frz (aE.views (aE.cons (LO 8) (aE.cons dv (aE.cons ka (aE.cons cH (aE.cons cM (aE.nil sU)))))))) mixed (fn:=Tryz.f47) _ _ _ _ _ JG Tryz.func47 (by kernel_rfl) (fun x=>by kernel_rfl)
def uJ (a0:ba.D) (a1:ba.D):Option ba.D :=
(ja a0).bind fun y1 =>
(ja a1).bind fun y2 =>
 if (y1.1.length + y2.1.length) * (24 * 7)≤aC then (
 if (y1.2.2.2.1.length + y2.2.2.2.1.length) * (24 * 14)≤aC then (
 some ((y1.1++y2.1),y2.2.1,y2.2.2.1,(y1.2.2.2.1++y2.2.2.2.1),())) else none) else none
def Db:Ct:=.pure true true (.pair ba (.pair ba .unit)) ba (fun x=>uJ x.1 x.2.1)
theorem BC:KC 76 Db:=pq (Ec nB En) .none Tryz.func76
def gz (a0:ae.D) (a2:(List ac.D)):(Int×((List ac.D)×((List aa.D)×((List Int)×((List ar.D)×Unit)))))→Option ((Int×((List ac.D)×((List aa.D)×((List Int)×((List ar.D)×Unit)))))⊕(Int×((List ac.D)×((List aa.D)×((List Int)×((List ar.D)×Unit)))))):=fun s7 =>
 bif decide (s7.1 < (a2.length:Int)) then (
 idx a2 s7.1 fun x8 =>
(me a0 s7.2.2.1 x8 s7.2.2.2.1).bind fun y9 =>
(uJ s7.2 y9).bind fun y10 =>
 some (.inl (IntKind.wrap .i64 (s7.1 + 1),y10)))
 else (
 some (.inr s7))
def ko (a0:ae.D) (a1:(List aa.D)) (a2:(List ac.D)) (a3:(List Int)):Option ba.D :=
(ja ([],a1,a3,[],())).bind fun y1 =>
(((md a2).bind fun y2 =>
 bif (!y2) then (
 some true)
 else (
(db a0).bind fun y3 =>
 bif (!y3) then (
 some true)
 else (
(fh a1).bind fun y4 =>
 some (!y4)))):Option Bool).bind fun o5 =>
 bif o5 then (
 some y1)
 else (
(al (gz a0 a2) (0,y1)).bind fun o11 =>
 some o11.2)
def Dc:Hints:=(n0 (n0 (nd (nd (cu ⟨[.tmp 28 .bool],[none],none,[]⟩) .none) (nd (n0 (nd (.node none (some ⟨[.tmp 10 (.int .i64),.boxO 9 0 1 ba],[some 0],none,[]⟩) .none .none) .none)) .none))))
def lk:Ct:=.pure true true (.pair ae (.pair (.slice aa) (.pair (.slice ac) (.pair (.slice (.int .i64)) .unit)))) ba (fun x=>ko x.1 x.2.1 x.2.2.1 x.2.2.2.1)
theorem t6:KC 63 lk:=pq (Ec xG (Ec BC (Ec wO (Ec dv (Ec ka (Ec nB En)))))) Dc Tryz.func63
def ci (a0:ah.D) (a1:Int):Option Bool :=
 bif (a1 == 1) then (
 let k1:Int:=IntKind.wrap .i64 (BitVec.ofInt (IntKind.bits .i64) a0.2.2.2.2.2.2.2.1 &&& BitVec.ofInt (IntKind.bits .i64) a1).toNat
 some (k1 != 0))
 else (
 bif (a1 == 2) then (
 let k2:Int:=IntKind.wrap .i64 (BitVec.ofInt (IntKind.bits .i64) a0.2.2.2.2.2.2.2.1 &&& BitVec.ofInt (IntKind.bits .i64) a1).toNat
 some (k2 != 0))
 else (
 bif (a1 == 4) then (
 let k3:Int:=IntKind.wrap .i64 (BitVec.ofInt (IntKind.bits .i64) a0.2.2.2.2.2.2.2.1 &&& BitVec.ofInt (IntKind.bits .i64) a1).toNat
 some (k3 != 0))
 else (
 bif (a1 == 8) then (
 let k4:Int:=IntKind.wrap .i64 (BitVec.ofInt (IntKind.bits .i64) a0.2.2.2.2.2.2.2.1 &&& BitVec.ofInt (IntKind.bits .i64) a1).toNat
 some (k4 != 0))
 else (
 bif (a1 == 16) then (
 let k5:Int:=IntKind.wrap .i64 (BitVec.ofInt (IntKind.bits .i64) a0.2.2.2.2.2.2.2.1 &&& BitVec.ofInt (IntKind.bits .i64) a1).toNat
 some (k5 != 0))
 else (
 bif (a1 == 32) then (
 let k6:Int:=IntKind.wrap .i64 (BitVec.ofInt (IntKind.bits .i64) a0.2.2.2.2.2.2.2.1 &&& BitVec.ofInt (IntKind.bits .i64) a1).toNat
 some (k6 != 0))
 else (
 some false))))))
def GV:Ct:=.pure true false (.pair ah (.pair (.int .i64) .unit)) .bool (fun x=>ci x.1 x.2.1)
theorem nS:KC 326 GV:=pq En .none Tryz.func326
def ll (a0:ae.D) (a1:ah.D) (a2:ac.D):Option (ae.D×(Int×Unit)) :=
(eK a0).bind fun y1 =>
(((db a0).bind fun y2 =>
 bif (!y2) then (
 some true)
 else (
(bW a2).bind fun y3 =>
 bif (!y3) then (
 some true)
 else (
 some (a2.1 != 1)))):Option Bool).bind fun o4 =>
 bif o4 then (
 some (y1,0,()))
 else (
(ci a1 2).bind fun y5 =>
((bif (a2.2.2.1 == 0) then (
 bif decide (a2.2.2.2.1≥(a0.2.1.length:Int)) then (
 some (.inr ((0,y1))))
 else (
((bif y5 then (
 idx a0.2.1 a2.2.2.2.1 fun x6 =>
(dW x6.2.1 a2.2.2.2.2.1).bind fun y7 =>
 idx y1.2.1 a2.2.2.2.1 fun _ =>
(y1.2.1[(a2.2.2.2.1:Int).toNat]?).bind fun x8 =>
 let u9:(List au.D):=y1.2.1.set (a2.2.2.2.1:Int).toNat (x8.1,y7,x8.2.2)
 some (y1.1,u9,y1.2.2))
 else (
 idx a0.2.1 a2.2.2.2.1 fun x10 =>
(jb x10.1 a2.2.2.2.2.1).bind fun y11 =>
 idx y1.2.1 a2.2.2.2.1 fun _ =>
(y1.2.1[(a2.2.2.2.1:Int).toNat]?).bind fun x12 =>
 let u13:(List au.D):=y1.2.1.set (a2.2.2.2.1:Int).toNat (y11,x12.2)
 some (y1.1,u13,y1.2.2))):Option ae.D).bind fun o14 =>
 some (.inl (([],[],0,0,()),o14))))
 else (
(ew a0 a2.2.2.1).bind fun y15 =>
((bif decide (y15 < 0) then (
 some true)
 else (
 idx a0.1 y15 fun x16 =>
 some (x16.2.2.2.1 != 2))):Option Bool).bind fun o17 =>
 bif o17 then (
 some (.inr ((0,y1))))
 else (
((bif y5 then (
 idx a0.1 y15 fun x18 =>
(dW x18.2.2.2.2.2.2.2.2.2.1 a2.2.2.2.2.1).bind fun y19 =>
 idx y1.1 y15 fun _ =>
(y1.1[(y15:Int).toNat]?).bind fun x20 =>
 let u21:(List ah.D):=y1.1.set (y15:Int).toNat (x20.1,x20.2.1,x20.2.2.1,x20.2.2.2.1,x20.2.2.2.2.1,x20.2.2.2.2.2.1,x20.2.2.2.2.2.2.1,x20.2.2.2.2.2.2.2.1,x20.2.2.2.2.2.2.2.2.1,y19,x20.2.2.2.2.2.2.2.2.2.2)
 some (u21,y1.2))
 else (
 idx a0.1 y15 fun x22 =>
(dW x22.2.2.2.2.2.2.2.2.2.2.1 a2.2.2.2.2.1).bind fun y23 =>
 idx y1.1 y15 fun _ =>
(y1.1[(y15:Int).toNat]?).bind fun x24 =>
 let u25:(List ah.D):=y1.1.set (y15:Int).toNat (x24.1,x24.2.1,x24.2.2.1,x24.2.2.2.1,x24.2.2.2.2.1,x24.2.2.2.2.2.1,x24.2.2.2.2.2.2.1,x24.2.2.2.2.2.2.2.1,x24.2.2.2.2.2.2.2.2.1,x24.2.2.2.2.2.2.2.2.2.1,y23,x24.2.2.2.2.2.2.2.2.2.2.2)
 some (u25,y1.2))):Option ae.D).bind fun o26 =>
(((ci a1 4).bind fun y27 =>
 bif y27 then (
 some (decide (a2.2.2.2.2.1≥1)))
 else (
 some false)):Option Bool).bind fun o28 =>
((bif o28 then (
 idx o26.1 y15 fun _ =>
(o26.1[(y15:Int).toNat]?).bind fun x29 =>
 let u30:(List ah.D):=o26.1.set (y15:Int).toNat (x29.1,x29.2.1,x29.2.2.1,x29.2.2.2.1,x29.2.2.2.2.1,x29.2.2.2.2.2.1,x29.2.2.2.2.2.2.1,x29.2.2.2.2.2.2.2.1,x29.2.2.2.2.2.2.2.2.1,x29.2.2.2.2.2.2.2.2.2.1,x29.2.2.2.2.2.2.2.2.2.2.1,true,x29.2.2.2.2.2.2.2.2.2.2.2.2)
 some (u30,o26.2))
 else (
 some o26)):Option ae.D).bind fun o31 =>
 some (.inl (([],[],0,0,()),o31))))):Option ((ae.D×((List ah.D)×((List au.D)×(Int×(Int×Unit)))))⊕(Int×((List ah.D)×((List au.D)×(Int×(Int×Unit))))))).bind fun o32 =>
 match o32 with
| .inl s33=>(
(((ci a1 1).bind fun y35 =>
 bif y35 then (
(aD a1.2.2.1 0 (IntKind.wrap .i64 ((a0.2.1.length:Int) - 1))).bind fun y36 =>
 some y36)
 else (
 some false)):Option Bool).bind fun o37 =>
((bif o37 then (
 idx s33.2.2.1 a1.2.2.1 fun _ =>
(s33.2.2.1[(a1.2.2.1:Int).toNat]?).bind fun x38 =>
(dW x38.1 a2.2.2.2.2.1).bind fun y39 =>
 idx s33.2.2.1 a1.2.2.1 fun _ =>
(s33.2.2.1[(a1.2.2.1:Int).toNat]?).bind fun x40 =>
 let u41:(List au.D):=s33.2.2.1.set (a1.2.2.1:Int).toNat (y39,x40.2)
 some (s33.2.1,u41,s33.2.2.2))
 else (
 some s33.2)):Option ae.D).bind fun o42 =>
 some (o42,a2.2.2.2.2.1,()))
| .inr o34=>(
 some (o34.2,o34.1,())))
def LP:Hints:=(n0 (n0 (nd (nd (cu ⟨[.tmp 25 .bool],[none],none,[]⟩) .none) (n0 (nd (n0 (.node (some ⟨[.boxO 6 0 1 ae,.boxO 8 0 1 ae],[none],some [.tmp 7 (.int .i64),.boxO 6 0 1 ae],[(6,0),(12,1),(8,0),(12,0)]⟩) none (n0 (n0 (cu ⟨[.boxO 8 0 1 ae],[none],none,[(12,1),(8,0),(12,0)]⟩))) (n0 (nd (nd (cu ⟨[.tmp 86 .bool],[none],none,[]⟩) .none) (nd (n0 (cu ⟨[.boxO 8 0 1 ae],[none],none,[(12,0),(8,0),(12,1)]⟩)) (nd (cu ⟨[.tmp 123 .bool],[none],none,[]⟩) (cu ⟨[.boxO 8 0 3 ae],[none],none,[(8,1),(8,0),(8,2)]⟩))))))) (nd (nd (cu ⟨[.tmp 139 .bool],[none],none,[]⟩) (cu ⟨[.boxO 8 0 3 ae],[none],none,[(8,2),(8,0),(8,1)]⟩)) .none))))))
def Al:Ct:=.pure false true (.pair ae (.pair ah (.pair ac .unit))) (.pair ae (.pair (.int .i64) .unit)) (fun x=>ll x.1 x.2.1 x.2.2.1)
theorem yO:KC 357 Al:=pq (Ec dv (Ec cd (Ec cM (Ec bV (Ec eX (Ec nS (Ec qE (Ec qD En)))))))) LP Tryz.func357
def uK (a0:ae.D) (a1:ac.D):Option (ae.D×(Bool×Unit)) :=
(eK a0).bind fun y1 =>
(((db a0).bind fun y2 =>
 bif (!y2) then (
 some true)
 else (
(bW a1).bind fun y3 =>
 some (!y3))):Option Bool).bind fun o4 =>
 bif o4 then (
 some (y1,false,()))
 else (
((bif (a1.1 == 3) then (
 some (a1.1 == 3))
 else (
 some (a1.1 == 4))):Option Bool).bind fun o5 =>
 bif o5 then (
 bif decide (a1.2.2.2.1≥(a0.2.1.length:Int)) then (
 some (y1,false,()))
 else (
((bif (a1.1 == 3) then (
 idx a0.2.1 a1.2.2.2.1 fun x6 =>
(dW x6.1 a1.2.2.2.2.1).bind fun y7 =>
 idx y1.2.1 a1.2.2.2.1 fun _ =>
(y1.2.1[(a1.2.2.2.1:Int).toNat]?).bind fun x8 =>
 let u9:(List au.D):=y1.2.1.set (a1.2.2.2.1:Int).toNat (y7,x8.2)
 some (y1.1,u9,y1.2.2))
 else (
 idx a0.2.1 a1.2.2.2.1 fun x10 =>
(jb x10.1 a1.2.2.2.2.1).bind fun y11 =>
 idx y1.2.1 a1.2.2.2.1 fun _ =>
(y1.2.1[(a1.2.2.2.1:Int).toNat]?).bind fun x12 =>
 let u13:(List au.D):=y1.2.1.set (a1.2.2.2.1:Int).toNat (y11,x12.2)
 some (y1.1,u13,y1.2.2))):Option ae.D).bind fun o14 =>
 some (o14,true,())))
 else (
((bif (a1.1 == 5) then (
 some (a1.1 == 5))
 else (
 some (a1.1 == 6))):Option Bool).bind fun o15 =>
 bif o15 then (
(ew a0 a1.2.2.1).bind fun y16 =>
((bif decide (y16 < 0) then (
 some true)
 else (
 idx a0.1 y16 fun x17 =>
 some (x17.2.2.2.1 != 2))):Option Bool).bind fun o18 =>
 bif o18 then (
 some (y1,false,()))
 else (
((bif (a1.1 == 5) then (
 idx a0.1 y16 fun x19 =>
(dW x19.2.2.2.2.2.2.2.2.1 a1.2.2.2.2.1).bind fun y20 =>
 idx y1.1 y16 fun _ =>
(y1.1[(y16:Int).toNat]?).bind fun x21 =>
 let u22:(List ah.D):=y1.1.set (y16:Int).toNat (x21.1,x21.2.1,x21.2.2.1,x21.2.2.2.1,x21.2.2.2.2.1,x21.2.2.2.2.2.1,x21.2.2.2.2.2.2.1,x21.2.2.2.2.2.2.2.1,y20,x21.2.2.2.2.2.2.2.2.2)
 some (u22,y1.2))
 else (
 idx a0.1 y16 fun x23 =>
(dW x23.2.2.2.2.2.2.2.2.2.1 a1.2.2.2.2.1).bind fun y24 =>
 idx y1.1 y16 fun _ =>
(y1.1[(y16:Int).toNat]?).bind fun x25 =>
 let u26:(List ah.D):=y1.1.set (y16:Int).toNat (x25.1,x25.2.1,x25.2.2.1,x25.2.2.2.1,x25.2.2.2.2.1,x25.2.2.2.2.2.1,x25.2.2.2.2.2.2.1,x25.2.2.2.2.2.2.2.1,x25.2.2.2.2.2.2.2.2.1,y24,x25.2.2.2.2.2.2.2.2.2.2)
 some (u26,y1.2))):Option ae.D).bind fun o27 =>
 some (o27,true,())))
 else (
 some (y1,false,()))))
def PT:Hints:=(n0 (n0 (nd (nd (cu ⟨[.tmp 17 .bool],[none],none,[]⟩) .none) (nd (n0 (nd (nd (n0 (cu ⟨[.tmp 21 .bool],[none],none,[]⟩)) (nd (n0 (nd (n0 (cu ⟨[.boxO 6 0 1 ae],[none],none,[(9,1),(6,0),(9,0)]⟩)) .none)) (nd (n0 (cu ⟨[.tmp 67 .bool],[none],none,[]⟩)) (nd (n0 (nd (nd (cu ⟨[.tmp 84 .bool],[none],none,[]⟩) .none) (nd (n0 (cu ⟨[.boxO 6 0 1 ae],[none],none,[(9,0),(6,0),(9,1)]⟩)) .none))) .none)))) .none)) .none))))
def Dd:Ct:=.pure false true (.pair ae (.pair ac .unit)) (.pair ae (.pair .bool .unit)) (fun x=>uK x.1 x.2.1)
theorem BD:KC 358 Dd:=pq (Ec dv (Ec cd (Ec cM (Ec eX (Ec qE (Ec qD En)))))) PT Tryz.func358
def nT (a0:ae.D) (a1:ae.D) (a2:ac.D):Option (ae.D×(ai.D×Unit)) :=
 bif (a2.1 == 1) then (
(gp a0 a2).bind fun y1 =>
(ll a1 y1 a2).bind fun y2 =>
 bif decide (y2.2.1≥1) then (
 some (y2.1,(1,a2,y2.2.1,0,(0,0,0,0,0,0,0,0,0,0,0,false,false,()),()),()))
 else (
 some (y2.1,(4,a2,0,0,(0,0,0,0,0,0,0,0,0,0,0,false,false,()),()),())))
 else (
(uK a1 a2).bind fun y3 =>
 bif y3.2.1 then (
 some (y3.1,(2,a2,0,0,(0,0,0,0,0,0,0,0,0,0,0,false,false,()),()),()))
 else (
 some (y3.1,(4,a2,0,0,(0,0,0,0,0,0,0,0,0,0,0,false,false,()),()),())))
def BE:Ct:=.pure false true (.pair ae (.pair ae (.pair ac .unit))) (.pair ae (.pair ai .unit)) (fun x=>nT x.1 x.2.1 x.2.2.1)
theorem Am:KC 319 BE:=pq (Ec rL (Ec yO (Ec BD En))) .none Tryz.func319
def rP (a0:ah.D) (a1:Int) (a2:Int):Option ah.D :=
 some (a0.1,a0.2.1,a0.2.1,a1,a2,a0.2.2.2.2.2.1,a0.2.2.2.2.2.2.1,a0.2.2.2.2.2.2.2.1,0,0,0,false,false,())
def Ob:Ct:=.pure true false (.pair ah (.pair (.int .i64) (.pair (.int .i64) .unit))) ah (fun x=>rP x.1 x.2.1 x.2.2.1)
theorem A2:KC 359 Ob:=pq En .none Tryz.func359
def nU (a0:ae.D) (a1:ac.D):Option (ae.D×(Bool×Unit)) :=
(eK a0).bind fun y1 =>
(ew a0 a1.2.2.1).bind fun y2 =>
(((db a0).bind fun y3 =>
 bif (!y3) then (
 some true)
 else (
(bW a1).bind fun y4 =>
 bif (!y4) then (
 some true)
 else (
 bif (a1.1 != 2) then (
 some true)
 else (
 bif decide (y2 < 0) then (
 some true)
 else (
 idx a0.1 y2 fun x5 =>
 some (x5.2.2.2.1 == a1.2.2.2.2.2.1)))))):Option Bool).bind fun o6 =>
 bif o6 then (
 some (y1,false,()))
 else (
 idx a0.1 y2 fun x7 =>
(rP x7 a1.2.2.2.2.2.1 a0.2.2.2.1).bind fun y8 =>
((bif (a1.2.2.2.2.2.1 == 2) then (
 some (y8.1,y8.2.1,y8.2.2.1,y8.2.2.2.1,y8.2.2.2.2.1,y8.2.2.2.2.2.1,y8.2.2.2.2.2.2.1,y8.2.2.2.2.2.2.2.1,a1.2.2.2.2.1,y8.2.2.2.2.2.2.2.2.2.1,y8.2.2.2.2.2.2.2.2.2.2.1,y8.2.2.2.2.2.2.2.2.2.2.2.1,a1.2.2.2.2.2.2))
 else (
 some y8)):Option ah.D).bind fun o9 =>
 idx y1.1 y2 fun _ =>
(y1.1[(y2:Int).toNat]?).bind fun x10 =>
 let u11:(List ah.D):=y1.1.set (y2:Int).toNat o9
 some ((u11,y1.2),true,()))
def Oc:Hints:=(n0 (n0 (n0 (nd (nd (cu ⟨[.tmp 42 .bool],[none],none,[]⟩) .none) (n0 (nd (n0 (cu ⟨[.box 8 0 ah],[none],none,[(8,0)]⟩)) .none))))))
def BF:Ct:=.pure false true (.pair ae (.pair ac .unit)) (.pair ae (.pair .bool .unit)) (fun x=>nU x.1 x.2.1)
theorem An:KC 320 BF:=pq (Ec dv (Ec cd (Ec cM (Ec eX (Ec A2 En))))) Oc Tryz.func320
def mf (a0:ae.D) (a1:(List ac.D)):((List ai.D)×(Int×((List ah.D)×((List au.D)×(Int×(Int×Unit))))))→Option (((List ai.D)×(Int×((List ah.D)×((List au.D)×(Int×(Int×Unit))))))⊕((List ai.D)×(Int×((List ah.D)×((List au.D)×(Int×(Int×Unit))))))):=fun s4 =>
 bif decide (s4.2.1 < (a1.length:Int)) then (
 idx a1 s4.2.1 fun x5 =>
((bif (x5.1 != 2) then (
 idx a1 s4.2.1 fun x6 =>
(nT a0 s4.2.2 x6).bind fun y7 =>
 if (s4.1.length + [y7.2.1].length) * (24 * 23)≤aC then (
 some ((s4.1++[y7.2.1]),y7.1)) else none)
 else (
 some (s4.1,s4.2.2))):Option ((List ai.D)×((List ah.D)×((List au.D)×(Int×(Int×Unit)))))).bind fun o8 =>
 some (.inl (o8.1,IntKind.wrap .i64 (s4.2.1 + 1),o8.2)))
 else (
 some (.inr s4))
def mg (a0:ae.D) (a1:(List ac.D)):((List ai.D)×(Int×((List ah.D)×((List au.D)×(Int×(Int×Unit))))))→Option (((List ai.D)×(Int×((List ah.D)×((List au.D)×(Int×(Int×Unit))))))⊕((List ai.D)×(Int×((List ah.D)×((List au.D)×(Int×(Int×Unit))))))):=fun s11 =>
 bif decide (s11.2.1 < (a1.length:Int)) then (
((idx a1 s11.2.1 fun x12 =>
 bif (x12.1 != 2) then (
 some (s11.1,s11.2.2))
 else (
 idx a1 s11.2.1 fun x13 =>
(nU s11.2.2 x13).bind fun y14 =>
 bif (!y14.2.1) then (
 idx a1 s11.2.1 fun x15 =>
 if (s11.1.length + ([(4,x15,0,0,(0,0,0,0,0,0,0,0,0,0,0,false,false,()),())]:List ai.D).length) * (24 * 23)≤aC then (
 some ((s11.1++([(4,x15,0,0,(0,0,0,0,0,0,0,0,0,0,0,false,false,()),())]:List ai.D)),s11.2.2)) else none)
 else (
 idx a1 s11.2.1 fun x16 =>
 idx a1 s11.2.1 fun x17 =>
(ew a0 x17.2.2.1).bind fun y18 =>
 idx a0.1 y18 fun x19 =>
 if (s11.1.length + ([(3,x16,0,0,x19,())]:List ai.D).length) * (24 * 23)≤aC then (
 some ((s11.1++([(3,x16,0,0,x19,())]:List ai.D)),y14.1)) else none))):Option ((List ai.D)×((List ah.D)×((List au.D)×(Int×(Int×Unit)))))).bind fun o20 =>
 some (.inl (o20.1,IntKind.wrap .i64 (s11.2.1 + 1),o20.2)))
 else (
 some (.inr s11))
def tA (a0:ae.D) (a1:(List ac.D)):Option (ae.D×((List ai.D)×Unit)) :=
(eK a0).bind fun y1 =>
(db a0).bind fun y2 =>
 bif (!y2) then (
 some (y1,[],()))
 else (
(al (mf a0 a1) ([],0,y1)).bind fun o9 =>
(al (mg a0 a1) (o9.1,0,o9.2.2)).bind fun o21 =>
 some (o21.2.2,o21.1,()))
def LQ:Hints:=(n0 (n0 (n0 (n0 (nd (n0 (nd (.node none (some ⟨[.tmpO 7 0 (.slice ai),.tmp 8 (.int .i64),.boxO 6 0 1 ae],[some 0],none,[]⟩) (n0 (nd (nd (n0 (cu ⟨[.tmpO 7 1 (.slice ai),.boxO 6 0 3 ae],[none],none,[(6,0),(7,0),(6,1),(6,2)]⟩)) .none) .none)) .none) .none)) (nd (n0 (nd (.node none (some ⟨[.tmpO 7 1 (.slice ai),.tmp 11 (.int .i64),.boxO 6 0 3 ae],[some 2],none,[]⟩) (n0 (nd (cu ⟨[.tmpO 7 2 (.slice ai),.boxO 6 0 5 ae],[none],none,[(7,1),(6,0),(6,3),(6,4)]⟩) .none)) .none) .none)) .none))))))
def qm:Ct:=.pure false true (.pair ae (.pair (.slice ac) .unit)) (.pair ae (.pair (.slice ai) .unit)) (fun x=>tA x.1 x.2.1)
theorem yP:KC 225 qm:=pq (Ec dv (Ec cd (Ec Am (Ec An (Ec eX En))))) LQ Tryz.func225
def qG (a0:ah.D):Option Int :=
(dW a0.2.2.2.2.2.2.1 a0.2.2.2.2.2.2.2.2.1).bind fun y1 =>
(jb y1 a0.2.2.2.2.2.2.2.2.2.1).bind fun y2 =>
 some y2
def JH:Ct:=.pure true false (.pair ah .unit) (.int .i64) (fun x=>qG x.1)
theorem GW:KC 384 JH:=pq (Ec qE (Ec qD En)) .none Tryz.func384
def pp (a0:ah.D):Option Bool :=
 bif (a0.2.2.2.1 != 2) then (
 some false)
 else (
(qG a0).bind fun y1 =>
 bif decide (y1≤0) then (
 some true)
 else (
(ci a0 8).bind fun y2 =>
 bif (!y2) then (
 bif a0.2.2.2.2.2.2.2.2.2.2.2.1 then (
 some true)
 else (
 some (decide (a0.2.2.2.2.2.2.2.2.2.2.1≥y1))))
 else (
 some false)))
def LS:Ct:=.pure true false (.pair ah .unit) .bool (fun x=>pp x.1)
theorem JI:KC 360 LS:=pq (Ec nS (Ec GW En)) .none Tryz.func360
def jK (a0:ae.D):((List ai.D)×(Int×((List ah.D)×((List au.D)×(Int×(Int×Unit))))))→Option (((List ai.D)×(Int×((List ah.D)×((List au.D)×(Int×(Int×Unit))))))⊕((List ai.D)×(Int×((List ah.D)×((List au.D)×(Int×(Int×Unit))))))):=fun s4 =>
 bif decide (s4.2.1 < (a0.2.1.length:Int)) then (
 idx a0.2.1 s4.2.1 fun x5 =>
((bif (!x5.2.2.1) then (
 bif decide (x5.1≤0) then (
 some true)
 else (
 some (decide (x5.2.1≥10))))
 else (
 some false)):Option Bool).bind fun o6 =>
((bif o6 then (
 idx s4.2.2.2.1 s4.2.1 fun _ =>
(s4.2.2.2.1[(s4.2.1:Int).toNat]?).bind fun x7 =>
 let u8:(List au.D):=s4.2.2.2.1.set (s4.2.1:Int).toNat (x7.1,x7.2.1,true,())
 if (s4.1.length + ([(5,(0,0,0,0,0,0,false,()),0,s4.2.1,(0,0,0,0,0,0,0,0,0,0,0,false,false,()),())]:List ai.D).length) * (24 * 23)≤aC then (
 some ((s4.1++([(5,(0,0,0,0,0,0,false,()),0,s4.2.1,(0,0,0,0,0,0,0,0,0,0,0,false,false,()),())]:List ai.D)),s4.2.2.1,u8,s4.2.2.2.2)) else none)
 else (
 some (s4.1,s4.2.2))):Option ((List ai.D)×((List ah.D)×((List au.D)×(Int×(Int×Unit)))))).bind fun o9 =>
 some (.inl (o9.1,IntKind.wrap .i64 (s4.2.1 + 1),o9.2)))
 else (
 some (.inr s4))
def jL (a0:ae.D):((List ai.D)×(Int×((List ah.D)×((List au.D)×(Int×(Int×Unit))))))→Option (((List ai.D)×(Int×((List ah.D)×((List au.D)×(Int×(Int×Unit))))))⊕((List ai.D)×(Int×((List ah.D)×((List au.D)×(Int×(Int×Unit))))))):=fun s12 =>
 bif decide (s12.2.1 < (a0.1.length:Int)) then (
((idx a0.1 s12.2.1 fun x13 =>
(pp x13).bind fun y14 =>
 bif y14 then (
(rP x13 3 a0.2.2.2.1).bind fun y15 =>
 idx s12.2.2.1 s12.2.1 fun _ =>
(s12.2.2.1[(s12.2.1:Int).toNat]?).bind fun x16 =>
 let u17:(List ah.D):=s12.2.2.1.set (s12.2.1:Int).toNat y15
 if (s12.1.length + ([(6,(0,0,0,0,0,0,false,()),0,0,x13,())]:List ai.D).length) * (24 * 23)≤aC then (
 some ((s12.1++([(6,(0,0,0,0,0,0,false,()),0,0,x13,())]:List ai.D)),u17,s12.2.2.2)) else none)
 else (
(eL x13.2.2.2.2.2.2.2.2.1 x13.2.2.2.2.2.2.2.2.2.1).bind fun y18 =>
((bif (x13.2.2.2.1 == 2) then (
 some (decide (y18 > 0)))
 else (
 some false)):Option Bool).bind fun o19 =>
((bif o19 then (
 idx s12.2.2.1 s12.2.1 fun _ =>
(s12.2.2.1[(s12.2.1:Int).toNat]?).bind fun x20 =>
 let u21:(List ah.D):=s12.2.2.1.set (s12.2.1:Int).toNat (x20.1,x20.2.1,x20.2.2.1,x20.2.2.2.1,x20.2.2.2.2.1,x20.2.2.2.2.2.1,x20.2.2.2.2.2.2.1,x20.2.2.2.2.2.2.2.1,IntKind.wrap .i64 (x13.2.2.2.2.2.2.2.2.1 - y18),x20.2.2.2.2.2.2.2.2.2)
 idx u21 s12.2.1 fun _ =>
(u21[(s12.2.1:Int).toNat]?).bind fun x22 =>
 let u23:(List ah.D):=u21.set (s12.2.1:Int).toNat (x22.1,x22.2.1,x22.2.2.1,x22.2.2.2.1,x22.2.2.2.2.1,x22.2.2.2.2.2.1,x22.2.2.2.2.2.2.1,x22.2.2.2.2.2.2.2.1,x22.2.2.2.2.2.2.2.2.1,IntKind.wrap .i64 (x13.2.2.2.2.2.2.2.2.2.1 - y18),x22.2.2.2.2.2.2.2.2.2.2)
 if (s12.1.length + ([(7,(0,0,0,0,0,0,false,()),y18,0,x13,())]:List ai.D).length) * (24 * 23)≤aC then (
 some ((s12.1++([(7,(0,0,0,0,0,0,false,()),y18,0,x13,())]:List ai.D)),u23,s12.2.2.2)) else none)
 else (
 some (s12.1,s12.2.2))):Option ((List ai.D)×((List ah.D)×((List au.D)×(Int×(Int×Unit)))))).bind fun o24 =>
 some o24)):Option ((List ai.D)×((List ah.D)×((List au.D)×(Int×(Int×Unit)))))).bind fun o25 =>
 some (.inl (o25.1,IntKind.wrap .i64 (s12.2.1 + 1),o25.2)))
 else (
 some (.inr s12))
def v6 (a0:ae.D):Option (ae.D×((List ai.D)×Unit)) :=
(eK a0).bind fun y1 =>
(db a0).bind fun y2 =>
 bif (!y2) then (
 some (y1,[],()))
 else (
(al (jK a0) ([],0,y1)).bind fun o10 =>
(al (jL a0) (o10.1,0,o10.2.2)).bind fun o26 =>
 some (o26.2.2,o26.1,()))
def Od:Hints:=(n0 (n0 (n0 (n0 (nd (n0 (nd (.node none (some ⟨[.tmpO 5 0 (.slice ai),.tmp 6 (.int .i64),.boxO 4 0 1 ae],[some 0],none,[]⟩) (n0 (nd (nd (n0 (nd (cu ⟨[.tmp 43 .bool],[none],none,[]⟩) (cu ⟨[.tmpO 5 1 (.slice ai),.boxO 4 0 3 ae],[none],none,[(4,2),(4,0),(5,0),(4,1)]⟩))) .none) .none)) .none) .none)) (nd (n0 (nd (.node none (some ⟨[.tmpO 5 1 (.slice ai),.tmp 8 (.int .i64),.boxO 4 0 3 ae],[some 2],none,[]⟩) (n0 (nd (.node (some ⟨[.tmpO 5 2 (.slice ai),.boxO 4 0 5 ae],[none],none,[(4,3),(4,0),(5,1),(4,4)]⟩) none (n0 (n0 (n0 (nd (cu ⟨[.tmp 92 .bool],[none],none,[]⟩) (cu ⟨[.tmpO 5 2 (.slice ai),.boxO 4 0 5 ae],[none],none,[(4,3),(4,0),(5,1),(4,4)]⟩))))) .none) .none)) .none) .none)) .none))))))
def BG:Ct:=.pure false true (.pair ae .unit) (.pair ae (.pair (.slice ai) .unit)) (fun x=>v6 x.1)
theorem Ao:KC 322 BG:=pq (Ec dv (Ec cd (Ec gy (Ec A2 (Ec JI En))))) Od Tryz.func322
def mh:((List ai.D)×(Int×(ae.D×((List ah.D)×((List au.D)×(Int×(Int×Unit)))))))→Option (((List ai.D)×(Int×(ae.D×((List ah.D)×((List au.D)×(Int×(Int×Unit)))))))⊕((List ai.D)×(Int×((List ah.D)×((List au.D)×(Int×(Int×Unit))))))):=fun s4 =>
(v6 s4.2.2.2).bind fun y5 =>
 bif ((y5.2.1.length:Int) == 0) then (
 some (.inr (s4.1,s4.2.1,s4.2.2.2)))
 else (
 if (s4.1.length + y5.2.1.length) * (24 * 23)≤aC then (
 some (.inl ((s4.1++y5.2.1),IntKind.wrap .i64 (s4.2.1 + 1),s4.2.2.1,y5.1))) else none)
def pr (a0:ae.D):Option (ae.D×((List ai.D)×(Int×Unit))) :=
(eK a0).bind fun y1 =>
(al (mh) ([],0,([],[],0,0,()),y1)).bind fun o6 =>
 some (o6.2.2,o6.1,o6.2.1,())
def LT:Hints:=(n0 (n0 (n0 (n0 (nd (.node none (some ⟨[.tmpO 6 0 (.slice ai),.tmp 7 (.int .i64),.boxO 2 0 1 ae,.boxO 5 0 1 ae],[],some [.tmpO 3 0 (.slice ai),.tmp 4 (.int .i64),.boxO 2 0 1 ae],[]⟩) .none .none) .none)))))
def qn:Ct:=.pure false true (.pair ae .unit) (.pair ae (.pair (.slice ai) (.pair (.int .i64) .unit))) (fun x=>pr x.1)
theorem yQ:KC 226 qn:=pq (Ec cd (Ec Ao En)) LT Tryz.func226
def qH (a0:ai.D):Option Bool :=
 bif (a0.1 == 6) then (
 some true)
 else (
 bif (a0.1 == 3) then (
 bif (a0.2.2.2.2.1.2.2.2.1 == 2) then (
 some (a0.2.1.2.2.2.2.2.1 != 2))
 else (
 some false))
 else (
 some false))
def JJ:Ct:=.pure true false (.pair ai .unit) .bool (fun x=>qH x.1)
theorem GX:KC 325 JJ:=pq En .none Tryz.func325
def v7 (a0:ae.D) (a1:(List ai.D)):((List af.D)×Int)→Option (((List af.D)×Int)⊕((List af.D)×Int)):=fun s1 =>
 bif decide (s1.2 < (a1.length:Int)) then (
 idx a1 s1.2 fun x2 =>
(((qH x2).bind fun y3 =>
 bif y3 then (
(ci x2.2.2.2.2.1 16).bind fun y4 =>
 some y4)
 else (
 some false)):Option Bool).bind fun o5 =>
((bif o5 then (
 if (s1.1.length + ([(1,x2.2.2.2.2.1.2.2.1,0,x2.2.2.2.2)]:List af.D).length) * (24 * 16)≤aC then (
 some (s1.1++([(1,x2.2.2.2.2.1.2.2.1,0,x2.2.2.2.2)]:List af.D))) else none)
 else (
 some s1.1)):Option (List af.D)).bind fun o6 =>
((bif (x2.1 == 1) then (
 some (decide (x2.2.2.1≥1)))
 else (
 some false)):Option Bool).bind fun o7 =>
((bif o7 then (
(gp a0 x2.2.1).bind fun y8 =>
(ci y8 32).bind fun y9 =>
((bif y9 then (
 if (o6.length + ([(2,y8.2.2.1,x2.2.2.1,y8,())]:List af.D).length) * (24 * 16)≤aC then (
 some (o6++([(2,y8.2.2.1,x2.2.2.1,y8,())]:List af.D))) else none)
 else (
 some o6)):Option (List af.D)).bind fun o10 =>
 some o10)
 else (
 some o6)):Option (List af.D)).bind fun o11 =>
 some (.inl (o11,IntKind.wrap .i64 (s1.2 + 1))))
 else (
 some (.inr s1))
def uL (a0:ae.D) (a1:(List ai.D)):Option (List af.D) :=
(al (v7 a0 a1) ([],0)).bind fun o12 =>
 some o12.1
def PU:Hints:=(n0 (n0 (nd (n0 (nd (.node none (some ⟨[.tmpO 5 0 (.slice af),.tmp 6 (.int .i64)],[some 0],none,[]⟩) (n0 (nd (nd (n0 (nd (nd (cu ⟨[.tmp 26 .bool],[none],none,[]⟩) (cu ⟨[.tmpO 5 1 (.slice af)],[none],none,[(5,0)]⟩)) (nd (cu ⟨[.tmp 43 .bool],[none],none,[]⟩) (.node (some ⟨[.tmpO 5 2 (.slice af)],[none],none,[(5,1)]⟩) none (n0 (n0 (cu ⟨[.tmpO 5 2 (.slice af)],[none],none,[(5,1)]⟩))) .none)))) .none) .none)) .none) .none)) .none)))
def tB:Ct:=.pure true true (.pair ae (.pair (.slice ai) .unit)) (.slice af) (fun x=>uL x.1 x.2.1)
theorem BH:KC 228 tB:=pq (Ec GX (Ec nS (Ec rL En))) PU Tryz.func228
def ie (a0:ae.D):((List Int)×Int)→Option (((List Int)×Int)⊕((List Int)×Int)):=fun s1 =>
((bif decide (s1.2 < (a0.2.1.length:Int)) then (
(aD a0.2.2.1 0 (IntKind.wrap .i64 ((a0.2.1.length:Int) - 1))).bind fun y2 =>
 some y2)
 else (
 some false)):Option Bool).bind fun o3 =>
 bif o3 then (
 if (a0.2.1.length:Int)=0 then none else (
 let k4:Int:=(IntKind.wrap .i64 (a0.2.2.1 + s1.2)).tmod (a0.2.1.length:Int)
 if (s1.1.length + [k4].length) * (24 * 1)≤aC then (
 some (.inl ((s1.1++[k4]),IntKind.wrap .i64 (s1.2 + 1)))) else none))
 else (
 some (.inr s1))
def f9 (a0:ae.D):Option (List Int) :=
(al (ie a0) ([],0)).bind fun o5 =>
 some o5.1
def E1:Hints:=(n0 (n0 (nd (n0 (nd (.node none (some ⟨[.tmpO 3 0 (.slice (.int .i64)),.tmp 4 (.int .i64)],[some 0],none,[]⟩) (nd (nd (cu ⟨[.tmp 19 .bool],[none],none,[]⟩) .none) .none) .none) .none)) .none)))
def mj:Ct:=.pure true true (.pair ae .unit) (.slice (.int .i64)) (fun x=>f9 x.1)
theorem lm:KC 101 mj:=pq (Ec bV En) E1 Tryz.func101
def kT (a0:(List af.D)) (a1:Int):((List af.D)×Int)→Option (((List af.D)×Int)⊕((List af.D)×Int)):=fun s1 =>
 bif decide (s1.2 < (a0.length:Int)) then (
 idx a0 s1.2 fun x2 =>
((bif (x2.2.1 == a1) then (
 idx a0 s1.2 fun x3 =>
 if (s1.1.length + [x3].length) * (24 * 16)≤aC then (
 some (s1.1++[x3])) else none)
 else (
 some s1.1)):Option (List af.D)).bind fun o4 =>
 some (.inl (o4,IntKind.wrap .i64 (s1.2 + 1))))
 else (
 some (.inr s1))
def kq (a0:(List af.D)) (a1:Int):Option (List af.D) :=
(al (kT a0 a1) ([],0)).bind fun o5 =>
 some o5.1
def De:Hints:=(n0 (n0 (nd (n0 (nd (.node none (some ⟨[.tmpO 5 0 (.slice af),.tmp 6 (.int .i64)],[some 0],none,[]⟩) (n0 (nd (nd (n0 (cu ⟨[.tmpO 5 1 (.slice af)],[none],none,[(5,0)]⟩)) .none) .none)) .none) .none)) .none)))
def uM:Ct:=.pure true true (.pair (.slice af) (.pair (.int .i64) .unit)) (.slice af) (fun x=>kq x.1 x.2.1)
theorem t7:KC 323 uM:=pq En De Tryz.func323
def kr:((List af.D)×((List Int)×(List af.D)))→Option (((List af.D)×((List Int)×(List af.D)))⊕((List af.D)×((List Int)×(List af.D)))):=fun s5 =>
 bif decide ((s5.2.2.length:Int) > 0) then (
(uH s5.2.1 (s5.2.2.length:Int)).bind fun y6 =>
 idx s5.2.2 y6.1 fun _ =>
(s5.2.2[(y6.1:Int).toNat]?).bind fun x7 =>
 if (s5.1.length + [x7].length) * (24 * 16)≤aC then (
 if 0≤(0:Int) then (if (0:Int)≤y6.1 then (if y6.1≤(s5.2.2.length:Int) then (
 if (([]:List af.D).length + ((s5.2.2.take (y6.1.toNat)).drop ((0:Int).toNat)).length) * (24 * 16)≤aC then (
 if 0≤(IntKind.wrap .i64 (y6.1 + 1)) then (if (IntKind.wrap .i64 (y6.1 + 1))≤(s5.2.2.length:Int) then (if (s5.2.2.length:Int)≤(s5.2.2.length:Int) then (
 if (([]++((s5.2.2.take (y6.1.toNat)).drop ((0:Int).toNat))).length + ((s5.2.2.take ((s5.2.2.length:Int).toNat)).drop ((IntKind.wrap .i64 (y6.1 + 1)).toNat)).length) * (24 * 16)≤aC then (
 some (.inl ((s5.1++[x7]),y6.2.1,(([]++((s5.2.2.take (y6.1.toNat)).drop ((0:Int).toNat)))++((s5.2.2.take ((s5.2.2.length:Int).toNat)).drop ((IntKind.wrap .i64 (y6.1 + 1)).toNat)))))) else none) else none) else none) else none) else none) else none) else none) else none) else none)
 else (
 some (.inr s5))
def kt (a1:(List af.D)) (y1:(List Int)):((List af.D)×((List Int)×Int))→Option (((List af.D)×((List Int)×Int))⊕((List af.D)×((List Int)×Int))):=fun s2 =>
 bif decide (s2.2.2 < (y1.length:Int)) then (
 idx y1 s2.2.2 fun _ =>
(y1[(s2.2.2:Int).toNat]?).bind fun x3 =>
(kq a1 x3).bind fun y4 =>
(al (kr) (s2.1,s2.2.1,y4)).bind fun o8 =>
 some (.inl (o8.1,o8.2.1,IntKind.wrap .i64 (s2.2.2 + 1))))
 else (
 some (.inr s2))
def gQ (a1:(List af.D)) (y1:(List Int)):((List af.D)×Int)→Option (((List af.D)×Int)⊕((List af.D)×Int)):=fun s10 =>
 bif decide (s10.2 < (a1.length:Int)) then (
 idx a1 s10.2 fun x11 =>
(uE y1 x11.2.1).bind fun y12 =>
((bif (!y12) then (
 idx a1 s10.2 fun x13 =>
 if (s10.1.length + [x13].length) * (24 * 16)≤aC then (
 some (s10.1++[x13])) else none)
 else (
 some s10.1)):Option (List af.D)).bind fun o14 =>
 some (.inl (o14,IntKind.wrap .i64 (s10.2 + 1))))
 else (
 some (.inr s10))
def ml (a0:ae.D) (a1:(List af.D)) (a2:(List Int)):Option ((List af.D)×((List Int)×Unit)) :=
 if (([]:List Int).length + a2.length) * (24 * 1)≤aC then (
(f9 a0).bind fun y1 =>
(al (kt a1 y1) ([],([]++a2),0)).bind fun o9 =>
(al (gQ a1 y1) (o9.1,0)).bind fun o15 =>
 some (o15.1,o9.2.1,())) else none
def JK:Hints:=(n0 (n0 (n0 (n0 (nd (n0 (nd (.node none (some ⟨[.tmpO 8 0 (.slice af),.tmpO 9 0 (.slice (.int .i64)),.tmp 11 (.int .i64)],[some 0],none,[]⟩) (n0 (nd (nd (n0 (nd (.node none (some ⟨[.tmpO 8 1 (.slice af),.tmpO 9 1 (.slice (.int .i64)),.tmpO 12 0 (.slice af)],[some 2],none,[]⟩) .none .none) .none)) .none) .none)) .none) .none)) (nd (n0 (nd (.node none (some ⟨[.tmpO 8 1 (.slice af),.tmp 15 (.int .i64)],[some 4],none,[]⟩) (n0 (nd (nd (n0 (cu ⟨[.tmpO 8 2 (.slice af)],[none],none,[(8,1)]⟩)) .none) .none)) .none) .none)) .none))))))
def pt:Ct:=.pure false true (.pair ae (.pair (.slice af) (.pair (.slice (.int .i64)) .unit))) (.pair (.slice af) (.pair (.slice (.int .i64)) .unit)) (fun x=>ml x.1 x.2.1 x.2.2.1)
theorem xH:KC 227 pt:=pq (Ec lm (Ec rM (Ec t7 (Ec yJ En)))) JK Tryz.func227
def rQ (a0:(List aa.D)) (a1:Int):((List aa.D)×Int)→Option (((List aa.D)×Int)⊕((List aa.D)×Int)):=fun s1 =>
 bif decide (s1.2 < (a0.length:Int)) then (
 idx a0 s1.2 fun x2 =>
(nQ x2 a1).bind fun y3 =>
((bif y3 then (
 idx a0 s1.2 fun x4 =>
(dN x4).bind fun y5 =>
 if (s1.1.length + [y5].length) * (24 * 22)≤aC then (
 some (s1.1++[y5])) else none)
 else (
 some s1.1)):Option (List aa.D)).bind fun o6 =>
 some (.inl (o6,IntKind.wrap .i64 (s1.2 + 1))))
 else (
 some (.inr s1))
def pu (a0:(List aa.D)) (a1:Int):Option (List aa.D) :=
(al (rQ a0 a1) ([],0)).bind fun o7 =>
 some o7.1
def LU:Hints:=(n0 (n0 (nd (n0 (nd (.node none (some ⟨[.tmpO 5 0 (.slice aa),.tmp 6 (.int .i64)],[some 0],none,[]⟩) (n0 (nd (nd (n0 (cu ⟨[.tmpO 5 1 (.slice aa)],[none],none,[(5,0)]⟩)) .none) .none)) .none) .none)) .none)))
def jy:Ct:=.pure true true (.pair (.slice aa) (.pair (.int .i64) .unit)) (.slice aa) (fun x=>pu x.1 x.2.1)
theorem pv:KC 102 jy:=pq (Ec cG (Ec A0 En)) LU Tryz.func102
def oL (x:T_Game.D) (a0:(List ac.D)):Option (Unit×T_Game.D) :=
(ko x.1 x.2.1 a0 x.2.2.1).bind fun y1 =>
(tA x.1 y1.1).bind fun y2 =>
(pr y2.1).bind fun y3 =>
(uL x.1 y2.2.1).bind fun y4 =>
(ml y3.1 y4 y1.2.2.1).bind fun y5 =>
(uL y2.1 y3.2.1).bind fun y6 =>
(ml y3.1 y6 y5.2.1).bind fun y7 =>
(pu y1.2.1 x.1.2.2.2.1).bind fun y8 =>
 if (x.2.2.2.1.length + y5.1.length) * (24 * 16)≤aC then (
 if ((x.2.2.2.1++y5.1).length + y7.1.length) * (24 * 16)≤aC then (
 if (x.2.2.2.2.1.length + y2.2.1.length) * (24 * 23)≤aC then (
 if ((x.2.2.2.2.1++y2.2.1).length + y3.2.1.length) * (24 * 23)≤aC then (
 if (x.2.2.2.2.2.1.length + y1.2.2.2.1.length) * (24 * 14)≤aC then (
 some ((),(y3.1,y8,y7.2.1,((x.2.2.2.1++y5.1)++y7.1),((x.2.2.2.2.1++y2.2.1)++y3.2.1),(x.2.2.2.2.2.1++y1.2.2.2.1),()))) else none) else none) else none) else none) else none
def wQ:Ct:=.run T_Game [] false false false (.pair (.slice ac) .unit) .unit (fun x y=>oL x y.1)
theorem E2:fC Tryz.prog 100 wQ:=NO (E:={ T:=tab,G:=[(63,lk),(102,jy),(225,qm),(226,qn),(227,pt),(228,tB)] }) (aE.cons t6 (aE.cons pv (aE.cons yP (aE.cons yQ (aE.cons xH (aE.cons BH (aE.nil sU))))))) mixed (fn:=Tryz.f100) _ _ _ _ _ _ _ _ .none Tryz.func100 (by kernel_rfl) (fun x y=>by kernel_rfl)
def qI (a0:T_Game.D) (a1:T_Order.D):Option (T_Game.D×(Bool×Unit)) :=
(mb a0).bind fun y1 =>
(td a0).bind fun y2 =>
 bif (!y2) then (
 some (y1,false,()))
 else (
 bif (a1.1 == 1) then (
(qA a0.2.1 a1.2.1).bind fun y3 =>
 some ((y1.1,y3.1,y1.2.2),y3.2))
 else (
 bif (a1.1 == 2) then (
(zW a0.2.1 a1.2.2.1).bind fun y4 =>
 some ((y1.1,y4.1,y1.2.2),y4.2))
 else (
 bif (a1.1 == 3) then (
(md a1.2.2.2.1).bind fun y5 =>
 bif (!y5) then (
 some (y1,false,()))
 else (
(oL y1 a1.2.2.2.1).bind fun y6 =>
 some (y6.2,true,())))
 else (
 bif (a1.1 == 4) then (
 bif (a0.1.2.2.2.1 == 9999) then (
 some (y1,false,()))
 else (
(f9 a0.1).bind fun y7 =>
 idx y7 1 fun _ =>
(y7[(1:Int).toNat]?).bind fun x8 =>
(pu a0.2.1 (IntKind.wrap .i64 (a0.1.2.2.2.1 + 1))).bind fun y9 =>
 some (((y1.1.1,y1.1.2.1,x8,IntKind.wrap .i64 (a0.1.2.2.2.1 + 1),()),y9,y1.2.2),true,())))
 else (
 some (y1,false,()))))))
def JL:Hints:=(n0 (n0 (n0 (nd (n0 (nd (n0 (n0 (n0 (n0 (n0 (nd (n0 (nd (.node none (some ⟨[],[some 2],none,[]⟩) .none .none) .none)) .none)))))) .none)) .none))))
def yR:Ct:=.pure false true (.pair T_Game (.pair T_Order .unit)) (.pair T_Game (.pair .bool .unit)) (fun x=>qI x.1 x.2.1)
theorem xI:fC Tryz.prog 13 yR:=vN (E:={ T:=tab,G:=[(100,wQ),(18,AZ),(78,yG),(97,pi),(98,pk),(99,th),(101,mj),(102,jy)],Z:=true }) (aE.frz (aE.cons E2 (aE.cons Jv (aE.cons wO (aE.cons nA (aE.cons xE (aE.cons Bu (aE.cons lm (aE.cons pv (aE.nil sU)))))))))) mixed (fn:=Tryz.f13) _ _ _ _ _ JL Tryz.func13 (by kernel_rfl) (fun x=>by kernel_rfl)
def mn (a1:(List T_Order.D)):(Int×(Int×(ae.D×((List aa.D)×((List Int)×((List af.D)×((List ai.D)×((List ar.D)×Unit))))))))→Option ((Int×(Int×(ae.D×((List aa.D)×((List Int)×((List af.D)×((List ai.D)×((List ar.D)×Unit))))))))⊕(Int×(Int×(ae.D×((List aa.D)×((List Int)×((List af.D)×((List ai.D)×((List ar.D)×Unit))))))))):=fun s3 =>
((bif decide (s3.2.1 < (a1.length:Int)) then (
 some (decide (s3.2.1 < 12)))
 else (
 some false)):Option Bool).bind fun o4 =>
 bif o4 then (
 idx a1 s3.2.1 fun x5 =>
(qI s3.2.2 x5).bind fun y6 =>
((bif y6.2.1 then (
 some (IntKind.wrap .i64 (s3.1 + 1)))
 else (
 some s3.1)):Option Int).bind fun o7 =>
 some (.inl (o7,IntKind.wrap .i64 (s3.2.1 + 1),y6.1)))
 else (
 some (.inr s3))
def zY (a0:T_Game.D) (a1:(List T_Order.D)):Option (T_Game.D×(Int×Unit)) :=
(mb a0).bind fun y1 =>
(al (mn a1) (0,0,y1)).bind fun o8 =>
 some (o8.2.2,o8.1,())
def PV:Hints:=(n0 (n0 (n0 (nd (n0 (nd (.node none (some ⟨[.tmp 7 (.int .i64),.tmp 8 (.int .i64),.boxO 6 0 1 T_Game],[some 0],none,[]⟩) (nd (nd (cu ⟨[.tmp 20 .bool],[none],none,[]⟩) .none) (nd (nd (n0 (n0 (n0 (cu ⟨[.tmp 7 (.int .i64)],[none],none,[]⟩)))) .none) .none)) .none) .none)) .none))))
def Df:Ct:=.pure false true (.pair T_Game (.pair (.slice T_Order) .unit)) (.pair T_Game (.pair (.int .i64) .unit)) (fun x=>zY x.1 x.2.1)
theorem BI:KC 33 Df:=pq (Ec xI (Ec nA En)) PV Tryz.func33
def dX (a0:(List ah.D)):Option (List ah.D) :=
 if (([]:List ah.D).length + a0.length) * (24 * 13)≤aC then (
 some ([]++a0)) else none
def nh:Ct:=.pure true true (.pair (.slice ah) .unit) (.slice ah) (fun x=>dX x.1)
theorem mr:fC Tryz.prog 263 nh:=EQ (E:={ T:=tab,G:=[] }) (aE.nil sU) mixed (fn:=Tryz.f263) _ _ ah _ _ .none .none Tryz.func263 (by kernel_rfl) (by kernel_rfl) (fun x=>by kernel_rfl)
def eC (a0:(List au.D)):Option (List au.D) :=
 if (([]:List au.D).length + a0.length) * (24 * 3)≤aC then (
 some ([]++a0)) else none
def nV:Ct:=.pure true true (.pair (.slice au) .unit) (.slice au) (fun x=>eC x.1)
theorem ni:fC Tryz.prog 264 nV:=EQ (E:={ T:=tab,G:=[] }) (aE.nil sU) mixed (fn:=Tryz.f264) _ _ au _ _ .none .none Tryz.func264 (by kernel_rfl) (by kernel_rfl) (fun x=>by kernel_rfl)
def cJ (a0:ae.D):Option ae.D :=
(dX a0.1).bind fun y1 =>
(eC a0.2.1).bind fun y2 =>
 some (y1,y2,a0.2.2)
def v8:Ct:=.pure true true (.pair ae .unit) ae (fun x=>cJ x.1)
theorem bE:KC 151 v8:=pq (Ec mr (Ec ni En)) .none Tryz.func151
def bd (a0:(List ac.D)):Option (List ac.D) :=
 if (([]:List ac.D).length + a0.length) * (24 * 7)≤aC then (
 some ([]++a0)) else none
def nj:Ct:=.pure true true (.pair (.slice ac) .unit) (.slice ac) (fun x=>bd x.1)
theorem de:fC Tryz.prog 282 nj:=EQ (E:={ T:=tab,G:=[] }) (aE.nil sU) mixed (fn:=Tryz.f282) _ _ ac _ _ .none .none Tryz.func282 (by kernel_rfl) (by kernel_rfl) (fun x=>by kernel_rfl)
def cN (a0:aa.D):Option aa.D :=
(bd a0.2.2.2.2.2.2.1.2.2.2.2.2.2.1).bind fun y1 =>
 some (a0.1,a0.2.1,a0.2.2.1,a0.2.2.2.1,a0.2.2.2.2.1,a0.2.2.2.2.2.1,(a0.2.2.2.2.2.2.1.1,a0.2.2.2.2.2.2.1.2.1,a0.2.2.2.2.2.2.1.2.2.1,a0.2.2.2.2.2.2.1.2.2.2.1,a0.2.2.2.2.2.2.1.2.2.2.2.1,a0.2.2.2.2.2.2.1.2.2.2.2.2.1,y1,()),a0.2.2.2.2.2.2.2)
def uN:Ct:=.pure true true (.pair aa .unit) aa (fun x=>cN x.1)
theorem cK:KC 210 uN:=pq (Ec de En) .none Tryz.func210
def mt (a0:(List aa.D)):((List aa.D)×Int)→Option (((List aa.D)×Int)⊕((List aa.D)×Int)):=fun s1 =>
 bif decide (s1.2 < (a0.length:Int)) then (
 idx a0 s1.2 fun x2 =>
(cN x2).bind fun y3 =>
 if (s1.1.length + [y3].length) * (24 * 22)≤aC then (
 some (.inl ((s1.1++[y3]),IntKind.wrap .i64 (s1.2 + 1)))) else none)
 else (
 some (.inr s1))
def bO (a0:(List aa.D)):Option (List aa.D) :=
(al (mt a0) ([],0)).bind fun o4 =>
 some o4.1
def E3:Hints:=(n0 (n0 (nd (n0 (nd (.node none (some ⟨[.tmpO 3 0 (.slice aa),.tmp 9 (.int .i64)],[some 0],none,[]⟩) .none .none) .none)) .none)))
def gA:Ct:=.pure true true (.pair (.slice aa) .unit) (.slice aa) (fun x=>bO x.1)
theorem bn:KC 152 gA:=pq (Ec cK En) E3 Tryz.func152
def bl (a0:(List Int)):Option (List Int) :=
 if (([]:List Int).length + a0.length) * (24 * 1)≤aC then (
 some ([]++a0)) else none
def dO:Ct:=.pure true true (.pair (.slice (.int .i64)) .unit) (.slice (.int .i64)) (fun x=>bl x.1)
theorem bu:fC Tryz.prog 153 dO:=EQ (E:={ T:=tab,G:=[] }) (aE.nil sU) mixed (fn:=Tryz.f153) _ _ (.int .i64) _ _ .none .none Tryz.func153 (by kernel_rfl) (by kernel_rfl) (fun x=>by kernel_rfl)
def bv (a0:(List af.D)):Option (List af.D) :=
 if (([]:List af.D).length + a0.length) * (24 * 16)≤aC then (
 some ([]++a0)) else none
def lE:Ct:=.pure true true (.pair (.slice af) .unit) (.slice af) (fun x=>bv x.1)
theorem cS:fC Tryz.prog 205 lE:=EQ (E:={ T:=tab,G:=[] }) (aE.nil sU) mixed (fn:=Tryz.f205) _ _ af _ _ .none .none Tryz.func205 (by kernel_rfl) (by kernel_rfl) (fun x=>by kernel_rfl)
def gB (a0:(List ai.D)):Option (List ai.D) :=
 if (([]:List ai.D).length + a0.length) * (24 * 23)≤aC then (
 some ([]++a0)) else none
def nW:Ct:=.pure true true (.pair (.slice ai) .unit) (.slice ai) (fun x=>gB x.1)
theorem nk:fC Tryz.prog 206 nW:=EQ (E:={ T:=tab,G:=[] }) (aE.nil sU) mixed (fn:=Tryz.f206) _ _ ai _ _ .none .none Tryz.func206 (by kernel_rfl) (by kernel_rfl) (fun x=>by kernel_rfl)
def mu (a0:(List ar.D)):((List ar.D)×Int)→Option (((List ar.D)×Int)⊕((List ar.D)×Int)):=fun s1 =>
 bif decide (s1.2 < (a0.length:Int)) then (
 idx a0 s1.2 fun x2 =>
(bd x2.2.2.2.2.2.1).bind fun y3 =>
 if (s1.1.length + [(x2.1,x2.2.1,x2.2.2.1,x2.2.2.2.1,x2.2.2.2.2.1,y3,x2.2.2.2.2.2.2)].length) * (24 * 14)≤aC then (
 some (.inl ((s1.1++[(x2.1,x2.2.1,x2.2.2.1,x2.2.2.2.1,x2.2.2.2.2.1,y3,x2.2.2.2.2.2.2)]),IntKind.wrap .i64 (s1.2 + 1)))) else none)
 else (
 some (.inr s1))
def ga (a0:(List ar.D)):Option (List ar.D) :=
(al (mu a0) ([],0)).bind fun o4 =>
 some o4.1
def E4:Hints:=(n0 (n0 (nd (n0 (nd (.node none (some ⟨[.tmpO 3 0 (.slice ar),.tmp 9 (.int .i64)],[some 0],none,[]⟩) .none .none) .none)) .none)))
def gC:Ct:=.pure true true (.pair (.slice ar) .unit) (.slice ar) (fun x=>ga x.1)
theorem gb:KC 167 gC:=pq (Ec de En) E4 Tryz.func167
def jM (a0:T_Game.D):Option T_Game.D :=
(cJ a0.1).bind fun y1 =>
(bO a0.2.1).bind fun y2 =>
(bl a0.2.2.1).bind fun y3 =>
(bv a0.2.2.2.1).bind fun y4 =>
(gB a0.2.2.2.2.1).bind fun y5 =>
(ga a0.2.2.2.2.2.1).bind fun y6 =>
 some (y1,y2,y3,y4,y5,y6,())
def xJ:Ct:=.pure true true (.pair T_Game .unit) T_Game (fun x=>jM x.1)
theorem mw:KC 91 xJ:=pq (Ec bE (Ec bn (Ec bu (Ec gb (Ec cS (Ec nk En)))))) .none Tryz.func91
def aX (a0:Int) (a1:Int) (a2:Int):Option Bool :=
 bif decide (a0≥a1) then (
 some (decide (a0≤a2)))
 else (
 some false)
def PW:Ct:=.pure true false (.pair (.int .i64) (.pair (.int .i64) (.pair (.int .i64) .unit))) .bool (fun x=>aX x.1 x.2.1 x.2.2.1)
theorem bL:KC 186 PW:=pq En .none Tryz.func186
def aQ (a0:ae.D) (a1:Int):Option Bool :=
(aX a1 0 (IntKind.wrap .i64 ((a0.2.1.length:Int) - 1))).bind fun y1 =>
 some y1
def LV:Ct:=.pure true false (.pair ae (.pair (.int .i64) .unit)) .bool (fun x=>aQ x.1 x.2.1)
theorem gc:KC 187 LV:=pq (Ec bL En) .none Tryz.func187
def px (a0:Int):Option Bool :=
(aX a0 0 9999).bind fun y1 =>
 some y1
def LW:Ct:=.pure true false (.pair (.int .i64) .unit) .bool (fun x=>px x.1)
theorem yS:KC 188 LW:=pq (Ec bL En) .none Tryz.func188
def dr (a0:Int):Option Bool :=
(aX a0 1 99).bind fun y1 =>
 some y1
def PX:Ct:=.pure true false (.pair (.int .i64) .unit) .bool (fun x=>dr x.1)
theorem jc:KC 236 PX:=pq (Ec bL En) .none Tryz.func236
def bj (a0:Int):Option Bool :=
(aX a0 0 2).bind fun y1 =>
 some y1
def GY:Ct:=.pure true false (.pair (.int .i64) .unit) .bool (fun x=>bj x.1)
theorem gf:KC 237 GY:=pq (Ec bL En) .none Tryz.func237
def iO (a0:Int):Option Bool :=
(aX a0 1 4).bind fun y1 =>
 some y1
def LX:Ct:=.pure true false (.pair (.int .i64) .unit) .bool (fun x=>iO x.1)
theorem rR:KC 276 LX:=pq (Ec bL En) .none Tryz.func276
def jN (a0:Int):Option Bool :=
(aX a0 0 63).bind fun y1 =>
 some y1
def GZ:Ct:=.pure true false (.pair (.int .i64) .unit) .bool (fun x=>jN x.1)
theorem uO:KC 291 GZ:=pq (Ec bL En) .none Tryz.func291
def bS (a0:Int):Option Bool :=
(aX a0 0 2147483647).bind fun y1 =>
 some y1
def G0:Ct:=.pure true false (.pair (.int .i64) .unit) .bool (fun x=>bS x.1)
theorem gg:KC 193 G0:=pq (Ec bL En) .none Tryz.func193
def qJ (a0:ah.D):Option Bool :=
(((dr a0.1).bind fun y1 =>
 bif (!y1) then (
 some true)
 else (
(bj a0.2.1).bind fun y2 =>
 bif (!y2) then (
 some true)
 else (
(bj a0.2.2.1).bind fun y3 =>
 bif (!y3) then (
 some true)
 else (
(iO a0.2.2.2.1).bind fun y4 =>
 bif (!y4) then (
 some true)
 else (
(px a0.2.2.2.2.1).bind fun y5 =>
 bif (!y5) then (
 some true)
 else (
(aX a0.2.2.2.2.2.1 0 999).bind fun y6 =>
 bif (!y6) then (
 some true)
 else (
(aX a0.2.2.2.2.2.2.1 0 999).bind fun y7 =>
 bif (!y7) then (
 some true)
 else (
(jN a0.2.2.2.2.2.2.2.1).bind fun y8 =>
 some (!y8))))))))):Option Bool).bind fun o9 =>
 bif o9 then (
 some false)
 else (
 bif (a0.2.2.2.1 != 2) then (
((bif (a0.2.2.1 == a0.2.1) then (
 bif (a0.2.2.2.2.2.2.2.2.1 == 0) then (
 bif (a0.2.2.2.2.2.2.2.2.2.1 == 0) then (
 bif (a0.2.2.2.2.2.2.2.2.2.2.1 == 0) then (
 bif (!a0.2.2.2.2.2.2.2.2.2.2.2.1) then (
 some (!a0.2.2.2.2.2.2.2.2.2.2.2.2.1))
 else (
 some false))
 else (
 some false))
 else (
 some false))
 else (
 some false))
 else (
 some false)):Option Bool).bind fun o10 =>
 some o10)
 else (
(bS a0.2.2.2.2.2.2.2.2.1).bind fun y11 =>
 bif y11 then (
(bS a0.2.2.2.2.2.2.2.2.2.1).bind fun y12 =>
 bif y12 then (
(bS a0.2.2.2.2.2.2.2.2.2.2.1).bind fun y13 =>
 some y13)
 else (
 some false))
 else (
 some false)))
def JM:Hints:=(n0 (nd (nd (cu ⟨[.tmp 48 .bool],[none],none,[]⟩) .none) (nd (n0 (nd (nd (cu ⟨[.tmp 2 .bool],[none],none,[]⟩) .none) .none)) .none)))
def JN:Ct:=.pure true false (.pair ah .unit) .bool (fun x=>qJ x.1)
theorem G1:KC 189 JN:=pq (Ec bL (Ec yS (Ec gg (Ec jc (Ec gf (Ec rR (Ec uO En))))))) JM Tryz.func189
def cA (a0:(List au.D)) (a1:((au.D×Unit)→Option Bool)):Int→Option (Int⊕(Int⊕Int)):=fun s1 =>
 bif decide (s1 < (a0.length:Int)) then (
 idx a0 s1 fun x2 =>
(a1 (x2,())).bind fun y3 =>
 bif y3 then (
 some (.inr (.inr s1)))
 else (
 some (.inl (IntKind.wrap .i64 (s1 + 1)))))
 else (
 some (.inr (.inl s1)))
def df (a0:(List au.D)) (a1:((au.D×Unit)→Option Bool)):Option Int :=
(al (cA a0 a1) 0).bind fun o4 =>
 match o4 with
| .inl s5=>(
 some (-1))
| .inr o6=>(
 some o6)
def p7:Hints:=(n0 (nd (n0 (nd (.node none (some ⟨[.tmp 8 (.int .i64)],[some 0],some [.tmp 4 (.int .i64)],[]⟩) .none .none) .none)) .none))
def p8:Ct:=.pure true false (.pair (.slice au) (.pair (.fn (.pair au .unit) .bool) .unit)) (.int .i64) (fun x=>df x.1 x.2.1)
theorem py:KC 292 p8:=pq En p7 Tryz.func292
def cB (a0:(List au.D)) (a1:((au.D×Unit)→Option Bool)):Option Bool :=
(df a0 a1).bind fun y1 =>
 some (decide (y1≥0))
def nl:Ct:=.pure true false (.pair (.slice au) (.pair (.fn (.pair au .unit) .bool) .unit)) .bool (fun x=>cB x.1 x.2.1)
theorem my:KC 190 nl:=pq (Ec py En) .none Tryz.func190
def ce (a0:Int):Option Int :=
 some (if (if 2147483647 < a0 then 2147483647 else a0) > (-2147483647) then (if 2147483647 < a0 then 2147483647 else a0) else (-2147483647))
def Oe:Ct:=.pure true false (.pair (.int .i64) .unit) (.int .i64) (fun x=>ce x.1)
theorem gZ:KC 192 Oe:=pq En .none Tryz.func192
def iP (a0:au.D):Option Bool :=
(ce a0.1).bind fun y1 =>
 bif (y1 != a0.1) then (
 some true)
 else (
(bS a0.2.1).bind fun y2 =>
 some (!y2))
def E5:Ct:=.pure true false (.pair au .unit) .bool (fun x=>iP x.1)
theorem Dg:KC 191 E5:=pq (Ec gZ (Ec gg En)) .none Tryz.func191
def ku (a0:ae.D):Int→Option (Int⊕(Int⊕Bool)):=fun s5 =>
 bif decide (s5 < (a0.1.length:Int)) then (
 idx a0.1 s5 fun x6 =>
(((qJ x6).bind fun y7 =>
 bif (!y7) then (
 some true)
 else (
(aQ a0 x6.2.1).bind fun y8 =>
 bif (!y8) then (
 some true)
 else (
(aQ a0 x6.2.2.1).bind fun y9 =>
 bif (!y9) then (
 some true)
 else (
 bif decide (x6.2.2.2.2.1 > a0.2.2.2.1) then (
 some true)
 else (
 bif decide (s5 > 0) then (
 idx a0.1 (IntKind.wrap .i64 (s5 - 1)) fun x10 =>
 some (decide (x10.1≥x6.1)))
 else (
 some false)))))):Option Bool).bind fun o11 =>
 bif o11 then (
 some (.inr (.inr false)))
 else (
 some (.inl (IntKind.wrap .i64 (s5 + 1)))))
 else (
 some (.inr (.inl s5)))
def dg (a0:ae.D):Option Bool :=
((bif decide ((a0.1.length:Int) > 8) then (
 some true)
 else (
(aX (a0.2.1.length:Int) 2 3).bind fun y1 =>
 bif (!y1) then (
 some true)
 else (
(aQ a0 a0.2.2.1).bind fun y2 =>
 bif (!y2) then (
 some true)
 else (
(px a0.2.2.2.1).bind fun y3 =>
 some (!y3))))):Option Bool).bind fun o4 =>
 bif o4 then (
 some false)
 else (
(al (ku a0) 0).bind fun o12 =>
 match o12 with
| .inl s13=>(
(cB a0.2.1 (fun q=>iP q.1)).bind fun y15 =>
 some (!y15))
| .inr o14=>(
 some o14))
def JO:Hints:=(n0 (nd (nd (cu ⟨[.tmp 28 .bool],[none],none,[]⟩) .none) (nd (n0 (nd (.node none (some ⟨[.tmp 32 (.int .i64)],[some 0],some [.tmp 2 .bool],[]⟩) (n0 (n0 (nd (nd (n0 (nd (cu ⟨[.tmp 76 .bool],[none],none,[]⟩) .none)) .none) .none))) .none) .none)) .none)))
def yT:Ct:=.pure true false (.pair ae .unit) .bool (fun x=>dg x.1)
theorem dw:KC 81 yT:=pq (Ec bL (Ec gc (Ec yS (Ec G1 (Ec my (Ec Dg En)))))) JO Tryz.func81
def ln (a0:Int):Option Bool :=
(aX a0 1 6).bind fun y1 =>
 some y1
def LY:Ct:=.pure true false (.pair (.int .i64) .unit) .bool (fun x=>ln x.1)
theorem yU:KC 347 LY:=pq (Ec bL En) .none Tryz.func347
def kU (a0:cp.D):Option Bool :=
(((ln a0.1).bind fun y1 =>
 bif (!y1) then (
 some true)
 else (
(aX a0.2.1 0 2).bind fun y2 =>
 bif (!y2) then (
 some true)
 else (
(aX a0.2.2.1 0 99).bind fun y3 =>
 bif (!y3) then (
 some true)
 else (
(jN a0.2.2.2.1).bind fun y4 =>
 bif (!y4) then (
 some true)
 else (
(aX a0.2.2.2.2.1 0 99).bind fun y5 =>
 bif (!y5) then (
 some true)
 else (
(bS a0.2.2.2.2.2.1).bind fun y6 =>
 bif (!y6) then (
 some true)
 else (
(aX a0.2.2.2.2.2.2.1 0 4).bind fun y7 =>
 some (!y7)))))))):Option Bool).bind fun o8 =>
 bif o8 then (
 some false)
 else (
((bif (a0.1 != 1) then (
 bif (a0.2.2.1 != 0) then (
 some true)
 else (
 bif (a0.2.2.2.1 != 0) then (
 some true)
 else (
 bif (a0.1 != 2) then (
 some (a0.2.2.2.2.2.2.1 != 0))
 else (
 some false))))
 else (
 bif (a0.1 != 2) then (
 some (a0.2.2.2.2.2.2.1 != 0))
 else (
 some false))):Option Bool).bind fun o9 =>
 bif o9 then (
 some false)
 else (
 bif (a0.2.2.2.2.1 == 0) then (
 some true)
 else (
 bif (a0.1 != 3) then (
 some (a0.1 != 4))
 else (
 some false))))
def Of:Hints:=(n0 (nd (nd (cu ⟨[.tmp 42 .bool],[none],none,[]⟩) .none) (nd (nd (cu ⟨[.tmp 65 .bool],[none],none,[]⟩) .none) .none)))
def Og:Ct:=.pure true false (.pair cp .unit) .bool (fun x=>kU x.1)
theorem A3:KC 293 Og:=pq (Ec bL (Ec gg (Ec uO (Ec yU En)))) Of Tryz.func293
def gD (a0:bc.D):Option Bool :=
((bif (a0.1 == 0) then (
 some (a0.1 == 0))
 else (
 some (a0.1 == 3))):Option Bool).bind fun o1 =>
 bif o1 then (
 some (a0.2.1 == 0))
 else (
 bif (a0.1 == 1) then (
(ce a0.2.1).bind fun y2 =>
 some (y2 == a0.2.1))
 else (
((bif (a0.1 == 2) then (
 some (a0.1 == 2))
 else (
 some (a0.1 == 4))):Option Bool).bind fun o3 =>
 bif o3 then (
(aX a0.2.1 0 8).bind fun y4 =>
 some y4)
 else (
 some false)))
def JP:Hints:=(n0 (nd (n0 (nd (nd (n0 (cu ⟨[.tmp 5 .bool],[none],none,[]⟩)) (n0 (n0 (n0 (nd (n0 (cu ⟨[.tmp 19 .bool],[none],none,[]⟩)) .none))))) .none)) .none))
def JQ:Ct:=.pure true false (.pair bc .unit) .bool (fun x=>gD x.1)
theorem wR:KC 294 JQ:=pq (Ec bL (Ec gZ En)) JP Tryz.func294
def aY (a0:(List ac.D)) (a1:((ac.D×Unit)→Option Bool)):Int→Option (Int⊕(Int⊕Int)):=fun s1 =>
 bif decide (s1 < (a0.length:Int)) then (
 idx a0 s1 fun x2 =>
(a1 (x2,())).bind fun y3 =>
 bif y3 then (
 some (.inr (.inr s1)))
 else (
 some (.inl (IntKind.wrap .i64 (s1 + 1)))))
 else (
 some (.inr (.inl s1)))
def bi (a0:(List ac.D)) (a1:((ac.D×Unit)→Option Bool)):Option Int :=
(al (aY a0 a1) 0).bind fun o4 =>
 match o4 with
| .inl s5=>(
 some (-1))
| .inr o6=>(
 some o6)
def pz:Hints:=(n0 (nd (n0 (nd (.node none (some ⟨[.tmp 8 (.int .i64)],[some 0],some [.tmp 4 (.int .i64)],[]⟩) .none .none) .none)) .none))
def pA:Ct:=.pure true false (.pair (.slice ac) (.pair (.fn (.pair ac .unit) .bool) .unit)) (.int .i64) (fun x=>bi x.1 x.2.1)
theorem gh:KC 290 pA:=pq En pz Tryz.func290
def aM (a0:(List ac.D)) (a1:((ac.D×Unit)→Option Bool)):Option Bool :=
(bi a0 a1).bind fun y1 =>
 some (decide (y1≥0))
def mz:Ct:=.pure true false (.pair (.slice ac) (.pair (.fn (.pair ac .unit) .bool) .unit)) .bool (fun x=>aM x.1 x.2.1)
theorem cX:KC 183 mz:=pq (Ec gh En) .none Tryz.func183
def jd (a0:ac.D):Option Bool :=
(dr a0.2.2.1).bind fun y1 =>
 bif y1 then (
 some (a0.2.2.2.1 == (-1)))
 else (
 some false)
def JR:Ct:=.pure true false (.pair ac .unit) .bool (fun x=>jd x.1)
theorem G2:KC 274 JR:=pq (Ec jc En) .none Tryz.func274
def oM (a0:ac.D):Option Bool :=
 bif (a0.2.2.1 == 0) then (
(bj a0.2.2.2.1).bind fun y1 =>
 some y1)
 else (
 some false)
def G3:Ct:=.pure true false (.pair ac .unit) .bool (fun x=>oM x.1)
theorem E6:KC 275 G3:=pq (Ec gf En) .none Tryz.func275
def bM (a0:ac.D):Option Bool :=
(((bS a0.2.2.2.2.1).bind fun y1 =>
 bif (!y1) then (
 some true)
 else (
 bif (a0.1 != 1) then (
 bif (a0.2.1 != 0) then (
 some true)
 else (
 bif (a0.1 != 2) then (
 bif (a0.2.2.2.2.2.1 != 0) then (
 some true)
 else (
 some a0.2.2.2.2.2.2.1))
 else (
 some false)))
 else (
 bif (a0.1 != 2) then (
 bif (a0.2.2.2.2.2.1 != 0) then (
 some true)
 else (
 some a0.2.2.2.2.2.2.1))
 else (
 some false)))):Option Bool).bind fun o2 =>
 bif o2 then (
 some false)
 else (
 bif (a0.1 == 1) then (
(dr a0.2.1).bind fun y3 =>
 bif y3 then (
(jd a0).bind fun y4 =>
 bif y4 then (
 some true)
 else (
(oM a0).bind fun y5 =>
 some y5))
 else (
 some false))
 else (
 bif (a0.1 == 2) then (
 bif (a0.2.2.2.2.2.1 == 2) then (
(((jd a0).bind fun y6 =>
 bif y6 then (
 some (decide (a0.2.2.2.2.1≤99)))
 else (
 some false)):Option Bool).bind fun o7 =>
 some o7)
 else (
(jd a0).bind fun y8 =>
 bif y8 then (
(iO a0.2.2.2.2.2.1).bind fun y9 =>
 bif y9 then (
 bif (a0.2.2.2.2.1 == 0) then (
 some (!a0.2.2.2.2.2.2.1))
 else (
 some false))
 else (
 some false))
 else (
 some false)))
 else (
((bif (a0.1 == 3) then (
 some (a0.1 == 3))
 else (
 some (a0.1 == 4))):Option Bool).bind fun o10 =>
 bif o10 then (
(oM a0).bind fun y11 =>
 some y11)
 else (
((bif (a0.1 == 5) then (
 some (a0.1 == 5))
 else (
 some (a0.1 == 6))):Option Bool).bind fun o12 =>
 bif o12 then (
(jd a0).bind fun y13 =>
 some y13)
 else (
 some false)))))
def JS:Hints:=(n0 (nd (nd (cu ⟨[.tmp 30 .bool],[none],none,[]⟩) .none) (nd (n0 (nd (n0 (n0 (n0 (nd (nd (n0 (nd (nd (cu ⟨[.tmp 2 .bool],[none],none,[]⟩) .none) .none)) .none) (nd (n0 (cu ⟨[.tmp 75 .bool],[none],none,[]⟩)) (n0 (nd (n0 (cu ⟨[.tmp 80 .bool],[none],none,[]⟩)) .none))))))) .none)) .none)))
def yV:Ct:=.pure true false (.pair ac .unit) .bool (fun x=>bM x.1)
theorem bP:KC 162 yV:=pq (Ec gg (Ec jc (Ec G2 (Ec E6 (Ec rR En))))) JS Tryz.func162
def tC (a0:ac.D):Option Bool :=
(bM a0).bind fun y1 =>
 bif y1 then (
 some true)
 else (
((bif (a0.1 != 2) then (
 some (a0.2.2.2.2.1 == (-1)))
 else (
 some false)):Option Bool).bind fun o2 =>
 bif o2 then (
(bM (a0.1,a0.2.1,a0.2.2.1,a0.2.2.2.1,0,a0.2.2.2.2.2)).bind fun y3 =>
 some y3)
 else (
 some false))
def LZ:Hints:=(n0 (n0 (nd (cu ⟨[.tmp 3 .bool],[none],none,[]⟩) .none)))
def L0:Ct:=.pure true false (.pair ac .unit) .bool (fun x=>tC x.1)
theorem JT:KC 349 L0:=pq (Ec bP En) LZ Tryz.func349
def je (a0:ac.D):Option Bool :=
(tC a0).bind fun y1 =>
 some (!y1)
def JU:Ct:=.pure true false (.pair ac .unit) .bool (fun x=>je x.1)
theorem G4:KC 348 JU:=pq (Ec JT En) .none Tryz.func348
def eO (a0:bm.D):Option Bool :=
((bif (a0.1 != 3) then (
 bif (a0.1 != 8) then (
 bif (a0.2.1 != 0) then (
 some true)
 else (
 bif (a0.1 != 6) then (
 bif (a0.2.2.1 != 0) then (
 some true)
 else (
 bif (a0.2.2.2.1 != (-1)) then (
 some true)
 else (
 bif (a0.1 != 7) then (
 bif (a0.2.2.2.2.1 != 0) then (
 some true)
 else (
 bif (a0.1 != 8) then (
 bif a0.2.2.2.2.2.1 then (
 some true)
 else (
 bif (a0.1 != 9) then (
 some (decide ((a0.2.2.2.2.2.2.1.length:Int) > 0)))
 else (
 some false)))
 else (
 bif (a0.1 != 9) then (
 some (decide ((a0.2.2.2.2.2.2.1.length:Int) > 0)))
 else (
 some false))))
 else (
 bif (a0.1 != 8) then (
 bif a0.2.2.2.2.2.1 then (
 some true)
 else (
 bif (a0.1 != 9) then (
 some (decide ((a0.2.2.2.2.2.2.1.length:Int) > 0)))
 else (
 some false)))
 else (
 bif (a0.1 != 9) then (
 some (decide ((a0.2.2.2.2.2.2.1.length:Int) > 0)))
 else (
 some false))))))
 else (
 bif (a0.1 != 7) then (
 bif (a0.2.2.2.2.1 != 0) then (
 some true)
 else (
 bif (a0.1 != 8) then (
 bif a0.2.2.2.2.2.1 then (
 some true)
 else (
 bif (a0.1 != 9) then (
 some (decide ((a0.2.2.2.2.2.2.1.length:Int) > 0)))
 else (
 some false)))
 else (
 bif (a0.1 != 9) then (
 some (decide ((a0.2.2.2.2.2.2.1.length:Int) > 0)))
 else (
 some false))))
 else (
 bif (a0.1 != 8) then (
 bif a0.2.2.2.2.2.1 then (
 some true)
 else (
 bif (a0.1 != 9) then (
 some (decide ((a0.2.2.2.2.2.2.1.length:Int) > 0)))
 else (
 some false)))
 else (
 bif (a0.1 != 9) then (
 some (decide ((a0.2.2.2.2.2.2.1.length:Int) > 0)))
 else (
 some false))))))
 else (
 bif (a0.1 != 6) then (
 bif (a0.2.2.1 != 0) then (
 some true)
 else (
 bif (a0.2.2.2.1 != (-1)) then (
 some true)
 else (
 bif (a0.1 != 7) then (
 bif (a0.2.2.2.2.1 != 0) then (
 some true)
 else (
 bif (a0.1 != 8) then (
 bif a0.2.2.2.2.2.1 then (
 some true)
 else (
 bif (a0.1 != 9) then (
 some (decide ((a0.2.2.2.2.2.2.1.length:Int) > 0)))
 else (
 some false)))
 else (
 bif (a0.1 != 9) then (
 some (decide ((a0.2.2.2.2.2.2.1.length:Int) > 0)))
 else (
 some false))))
 else (
 bif (a0.1 != 8) then (
 bif a0.2.2.2.2.2.1 then (
 some true)
 else (
 bif (a0.1 != 9) then (
 some (decide ((a0.2.2.2.2.2.2.1.length:Int) > 0)))
 else (
 some false)))
 else (
 bif (a0.1 != 9) then (
 some (decide ((a0.2.2.2.2.2.2.1.length:Int) > 0)))
 else (
 some false))))))
 else (
 bif (a0.1 != 7) then (
 bif (a0.2.2.2.2.1 != 0) then (
 some true)
 else (
 bif (a0.1 != 8) then (
 bif a0.2.2.2.2.2.1 then (
 some true)
 else (
 bif (a0.1 != 9) then (
 some (decide ((a0.2.2.2.2.2.2.1.length:Int) > 0)))
 else (
 some false)))
 else (
 bif (a0.1 != 9) then (
 some (decide ((a0.2.2.2.2.2.2.1.length:Int) > 0)))
 else (
 some false))))
 else (
 bif (a0.1 != 8) then (
 bif a0.2.2.2.2.2.1 then (
 some true)
 else (
 bif (a0.1 != 9) then (
 some (decide ((a0.2.2.2.2.2.2.1.length:Int) > 0)))
 else (
 some false)))
 else (
 bif (a0.1 != 9) then (
 some (decide ((a0.2.2.2.2.2.2.1.length:Int) > 0)))
 else (
 some false))))))
 else (
 bif (a0.1 != 6) then (
 bif (a0.2.2.1 != 0) then (
 some true)
 else (
 bif (a0.2.2.2.1 != (-1)) then (
 some true)
 else (
 bif (a0.1 != 7) then (
 bif (a0.2.2.2.2.1 != 0) then (
 some true)
 else (
 bif (a0.1 != 8) then (
 bif a0.2.2.2.2.2.1 then (
 some true)
 else (
 bif (a0.1 != 9) then (
 some (decide ((a0.2.2.2.2.2.2.1.length:Int) > 0)))
 else (
 some false)))
 else (
 bif (a0.1 != 9) then (
 some (decide ((a0.2.2.2.2.2.2.1.length:Int) > 0)))
 else (
 some false))))
 else (
 bif (a0.1 != 8) then (
 bif a0.2.2.2.2.2.1 then (
 some true)
 else (
 bif (a0.1 != 9) then (
 some (decide ((a0.2.2.2.2.2.2.1.length:Int) > 0)))
 else (
 some false)))
 else (
 bif (a0.1 != 9) then (
 some (decide ((a0.2.2.2.2.2.2.1.length:Int) > 0)))
 else (
 some false))))))
 else (
 bif (a0.1 != 7) then (
 bif (a0.2.2.2.2.1 != 0) then (
 some true)
 else (
 bif (a0.1 != 8) then (
 bif a0.2.2.2.2.2.1 then (
 some true)
 else (
 bif (a0.1 != 9) then (
 some (decide ((a0.2.2.2.2.2.2.1.length:Int) > 0)))
 else (
 some false)))
 else (
 bif (a0.1 != 9) then (
 some (decide ((a0.2.2.2.2.2.2.1.length:Int) > 0)))
 else (
 some false))))
 else (
 bif (a0.1 != 8) then (
 bif a0.2.2.2.2.2.1 then (
 some true)
 else (
 bif (a0.1 != 9) then (
 some (decide ((a0.2.2.2.2.2.2.1.length:Int) > 0)))
 else (
 some false)))
 else (
 bif (a0.1 != 9) then (
 some (decide ((a0.2.2.2.2.2.2.1.length:Int) > 0)))
 else (
 some false)))))):Option Bool).bind fun o1 =>
 bif o1 then (
 some false)
 else (
((bif (a0.1 == 1) then (
 some (a0.1 == 1))
 else (
((bif (a0.1 == 2) then (
 some (a0.1 == 2))
 else (
((bif (a0.1 == 4) then (
 some (a0.1 == 4))
 else (
 some (a0.1 == 5))):Option Bool).bind fun o2 =>
 some o2)):Option Bool).bind fun o3 =>
 some o3)):Option Bool).bind fun o4 =>
 bif o4 then (
 some true)
 else (
 bif (a0.1 == 3) then (
(aX a0.2.1 1 2147483647).bind fun y5 =>
 some y5)
 else (
 bif (a0.1 == 6) then (
(dr a0.2.2.1).bind fun y6 =>
 bif y6 then (
 bif (a0.2.2.2.1 == (-1)) then (
 some true)
 else (
 bif (a0.2.2.1 == 0) then (
(bj a0.2.2.2.1).bind fun y7 =>
 some y7)
 else (
 some false)))
 else (
 bif (a0.2.2.1 == 0) then (
(bj a0.2.2.2.1).bind fun y8 =>
 some y8)
 else (
 some false)))
 else (
 bif (a0.1 == 7) then (
(iO a0.2.2.2.2.1).bind fun y9 =>
 some y9)
 else (
 bif (a0.1 == 8) then (
(aX a0.2.1 0 99).bind fun y10 =>
 some y10)
 else (
 bif (a0.1 == 9) then (
(aX (a0.2.2.2.2.2.2.1.length:Int) 1 3).bind fun y11 =>
 bif y11 then (
(aM a0.2.2.2.2.2.2.1 (fun q=>je q.1)).bind fun y12 =>
 some (!y12))
 else (
 some false))
 else (
 some false)))))))
def Oh:Hints:=(n0 (nd (nd (cu ⟨[.tmp 60 .bool],[none],none,[]⟩) .none) (nd (n0 (nd (nd (n0 (.node (some ⟨[.tmp 63 .bool],[none],none,[]⟩) none .none (n0 (.node (some ⟨[.tmp 63 .bool],[none],none,[]⟩) none .none (n0 (cu ⟨[.tmp 63 .bool],[none],none,[]⟩)))))) .none) .none)) .none)))
def Oi:Ct:=.pure true false (.pair bm .unit) .bool (fun x=>eO x.1)
theorem L1:KC 295 Oi:=pq (Ec cX (Ec bL (Ec jc (Ec gf (Ec rR (Ec G4 En)))))) Oh Tryz.func295
def dh (a0:bm.D) (a1:Int):Option Bool :=
(ln a1).bind fun y1 =>
 bif (!y1) then (
 some false)
 else (
((bif (a0.1 == 1) then (
 some (a0.1 == 1))
 else (
 some (a0.1 == 9))):Option Bool).bind fun o2 =>
 bif o2 then (
 some true)
 else (
((bif (a0.1 == 2) then (
 some (a0.1 == 2))
 else (
 some (a0.1 == 6))):Option Bool).bind fun o3 =>
 bif o3 then (
 some (a1 == 1))
 else (
((bif (a0.1 == 3) then (
 some (a0.1 == 3))
 else (
((bif (a0.1 == 4) then (
 some (a0.1 == 4))
 else (
 some (a0.1 == 5))):Option Bool).bind fun o4 =>
 some o4)):Option Bool).bind fun o5 =>
 bif o5 then (
 some (a1 != 2))
 else (
((bif (a0.1 == 7) then (
 some (a0.1 == 7))
 else (
 some (a0.1 == 8))):Option Bool).bind fun o6 =>
 bif o6 then (
 some (a1 == 2))
 else (
 some false)))))
def JV:Hints:=(n0 (n0 (nd (n0 (nd (nd (n0 (cu ⟨[.tmp 10 .bool],[none],none,[]⟩)) (n0 (nd (n0 (cu ⟨[.tmp 13 .bool],[none],none,[]⟩)) (n0 (nd (n0 (.node (some ⟨[.tmp 18 .bool],[none],none,[]⟩) none .none (n0 (cu ⟨[.tmp 18 .bool],[none],none,[]⟩)))) (n0 (nd (n0 (cu ⟨[.tmp 24 .bool],[none],none,[]⟩)) .none))))))) .none)) .none)))
def JW:Ct:=.pure true false (.pair bm (.pair (.int .i64) .unit)) .bool (fun x=>dh x.1 x.2.1)
theorem wT:KC 296 JW:=pq (Ec yU En) JV Tryz.func296
def cL (a0:aa.D):Option Bool :=
((bif (a0.2.2.2.2.2.2.1.1 == 2) then (
 some 0)
 else (
 some (-1))):Option Int).bind fun o1 =>
(dr a0.1).bind fun y2 =>
 bif y2 then (
(bj a0.2.1).bind fun y3 =>
 bif y3 then (
(aX a0.2.2.1 0 99).bind fun y4 =>
 bif y4 then (
(aX a0.2.2.2.1 0 4).bind fun y5 =>
 bif y5 then (
 bif (a0.2.2.2.1 != 0) then (
(kU a0.2.2.2.2.1).bind fun y6 =>
 bif y6 then (
(gD a0.2.2.2.2.2.1).bind fun y7 =>
 bif y7 then (
(eO a0.2.2.2.2.2.2.1).bind fun y8 =>
 bif y8 then (
(dh a0.2.2.2.2.2.2.1 a0.2.2.2.2.1.1).bind fun y9 =>
 bif y9 then (
(aX a0.2.2.2.2.2.2.2.1 (-1) 9999).bind fun y10 =>
 bif y10 then (
(aX a0.2.2.2.2.2.2.2.2.1 o1 2147483647).bind fun y11 =>
 some y11)
 else (
 some false))
 else (
 some false))
 else (
 some false))
 else (
 some false))
 else (
 some false))
 else (
 bif (a0.2.2.1 != 0) then (
(kU a0.2.2.2.2.1).bind fun y12 =>
 bif y12 then (
(gD a0.2.2.2.2.2.1).bind fun y13 =>
 bif y13 then (
(eO a0.2.2.2.2.2.2.1).bind fun y14 =>
 bif y14 then (
(dh a0.2.2.2.2.2.2.1 a0.2.2.2.2.1.1).bind fun y15 =>
 bif y15 then (
(aX a0.2.2.2.2.2.2.2.1 (-1) 9999).bind fun y16 =>
 bif y16 then (
(aX a0.2.2.2.2.2.2.2.2.1 o1 2147483647).bind fun y17 =>
 some y17)
 else (
 some false))
 else (
 some false))
 else (
 some false))
 else (
 some false))
 else (
 some false))
 else (
 some false)))
 else (
 some false))
 else (
 some false))
 else (
 some false))
 else (
 some false)
def G5:Hints:=(n0 (n0 (nd (n0 (cu ⟨[.tmp 3 (.int .i64)],[none],none,[]⟩)) .none)))
def G6:Ct:=.pure true false (.pair aa .unit) .bool (fun x=>cL x.1)
theorem nX:KC 194 G6:=pq (Ec bL (Ec jc (Ec gf (Ec A3 (Ec wR (Ec L1 (Ec wT En))))))) G5 Tryz.func194
def kv (a0:(List aa.D)):Int→Option (Int⊕(Int⊕Bool)):=fun s1 =>
 bif decide (s1 < (a0.length:Int)) then (
 idx a0 s1 fun x2 =>
(((cL x2).bind fun y3 =>
 bif (!y3) then (
 some true)
 else (
 bif decide (s1 > 0) then (
 idx a0 (IntKind.wrap .i64 (s1 - 1)) fun x4 =>
 some (decide (x4.1≥x2.1)))
 else (
 some false))):Option Bool).bind fun o5 =>
 bif o5 then (
 some (.inr (.inr false)))
 else (
 some (.inl (IntKind.wrap .i64 (s1 + 1)))))
 else (
 some (.inr (.inl s1)))
def fi (a0:(List aa.D)):Option Bool :=
(al (kv a0) 0).bind fun o6 =>
 match o6 with
| .inl s7=>(
 some (decide ((a0.length:Int)≤5)))
| .inr o8=>(
 some o8)
def JX:Hints:=(n0 (nd (n0 (nd (.node none (some ⟨[.tmp 7 (.int .i64)],[some 0],some [.tmp 2 .bool],[]⟩) (n0 (n0 (nd (nd (n0 (nd (cu ⟨[.tmp 29 .bool],[none],none,[]⟩) .none)) .none) .none))) .none) .none)) .none))
def yW:Ct:=.pure true false (.pair (.slice aa) .unit) .bool (fun x=>fi x.1)
theorem kw:KC 82 yW:=pq (Ec nX En) JX Tryz.func82
def cC (a0:(List ar.D)) (a1:((ar.D×Unit)→Option Bool)):Int→Option (Int⊕(Int⊕Int)):=fun s1 =>
 bif decide (s1 < (a0.length:Int)) then (
 idx a0 s1 fun x2 =>
(a1 (x2,())).bind fun y3 =>
 bif y3 then (
 some (.inr (.inr s1)))
 else (
 some (.inl (IntKind.wrap .i64 (s1 + 1)))))
 else (
 some (.inr (.inl s1)))
def di (a0:(List ar.D)) (a1:((ar.D×Unit)→Option Bool)):Option Int :=
(al (cC a0 a1) 0).bind fun o4 =>
 match o4 with
| .inl s5=>(
 some (-1))
| .inr o6=>(
 some o6)
def p9:Hints:=(n0 (nd (n0 (nd (.node none (some ⟨[.tmp 8 (.int .i64)],[some 0],some [.tmp 4 (.int .i64)],[]⟩) .none .none) .none)) .none))
def qa:Ct:=.pure true false (.pair (.slice ar) (.pair (.fn (.pair ar .unit) .bool) .unit)) (.int .i64) (fun x=>di x.1 x.2.1)
theorem pB:KC 235 qa:=pq En p9 Tryz.func235
def cD (a0:(List ar.D)) (a1:((ar.D×Unit)→Option Bool)):Option Bool :=
(di a0 a1).bind fun y1 =>
 some (decide (y1≥0))
def no:Ct:=.pure true false (.pair (.slice ar) (.pair (.fn (.pair ar .unit) .bool) .unit)) .bool (fun x=>cD x.1 x.2.1)
theorem mA:KC 114 no:=pq (Ec pB En) .none Tryz.func114
def oN (a0:ac.D):Option Bool :=
(bM a0).bind fun y1 =>
 some (!y1)
def G7:Ct:=.pure true false (.pair ac .unit) .bool (fun x=>oN x.1)
theorem E7:KC 238 G7:=pq (Ec bP En) .none Tryz.func238
def lq (a0:ar.D):Option Bool :=
(dr a0.1).bind fun y1 =>
 bif y1 then (
(bj a0.2.1).bind fun y2 =>
 bif y2 then (
(aX a0.2.2.2.1 1 5).bind fun y3 =>
 bif y3 then (
(aX a0.2.2.1 0 (IntKind.wrap .i64 (a0.2.2.2.1 - 1))).bind fun y4 =>
 bif y4 then (
(bS a0.2.2.2.2.2.2.1).bind fun y5 =>
 bif y5 then (
(aX a0.2.2.2.2.2.2.2.1 0 4).bind fun y6 =>
 bif y6 then (
(bM a0.2.2.2.2.1).bind fun y7 =>
 bif y7 then (
 bif decide ((a0.2.2.2.2.2.1.length:Int)≤3) then (
(aM a0.2.2.2.2.2.1 (fun q=>oN q.1)).bind fun y8 =>
 some (!y8))
 else (
 some false))
 else (
 some false))
 else (
 some false))
 else (
 some false))
 else (
 some false))
 else (
 some false))
 else (
 some false))
 else (
 some false)
def L3:Ct:=.pure true false (.pair ar .unit) .bool (fun x=>lq x.1)
theorem JY:KC 116 L3:=pq (Ec bP (Ec cX (Ec bL (Ec gg (Ec jc (Ec gf (Ec E7 En))))))) .none Tryz.func116
def oO (a0:ar.D):Option Bool :=
(lq a0).bind fun y1 =>
 some (!y1)
def G8:Ct:=.pure true false (.pair ar .unit) .bool (fun x=>oO x.1)
theorem E8:KC 115 G8:=pq (Ec JY En) .none Tryz.func115
def lr (a0:T_Game.D):Option Bool :=
(dg a0.1).bind fun y1 =>
 bif y1 then (
(fi a0.2.1).bind fun y2 =>
 bif y2 then (
(cD a0.2.2.2.2.2.1 (fun q=>oO q.1)).bind fun y3 =>
 some (!y3))
 else (
 some false))
 else (
 some false)
def L4:Ct:=.pure true false (.pair T_Game .unit) .bool (fun x=>lr x.1)
theorem JZ:KC 17 L4:=pq (Ec dw (Ec kw (Ec mA (Ec E8 En)))) .none Tryz.func17
def b7 (a0:(List aa.D)) (a1:((aa.D×Unit)→Option Bool)):Int→Option (Int⊕(Int⊕Int)):=fun s1 =>
 bif decide (s1 < (a0.length:Int)) then (
 idx a0 s1 fun x2 =>
(a1 (x2,())).bind fun y3 =>
 bif y3 then (
 some (.inr (.inr s1)))
 else (
 some (.inl (IntKind.wrap .i64 (s1 + 1)))))
 else (
 some (.inr (.inl s1)))
def bw (a0:(List aa.D)) (a1:((aa.D×Unit)→Option Bool)):Option Int :=
(al (b7 a0 a1) 0).bind fun o4 =>
 match o4 with
| .inl s5=>(
 some (-1))
| .inr o6=>(
 some o6)
def nY:Hints:=(n0 (nd (n0 (nd (.node none (some ⟨[.tmp 8 (.int .i64)],[some 0],some [.tmp 4 (.int .i64)],[]⟩) .none .none) .none)) .none))
def nZ:Ct:=.pure true false (.pair (.slice aa) (.pair (.fn (.pair aa .unit) .bool) .unit)) (.int .i64) (fun x=>bw x.1 x.2.1)
theorem fN:KC 207 nZ:=pq En nY Tryz.func207
def rS (z0:aa.D) (a0:aa.D):Option Bool :=
 some (decide (a0.1≥z0.1))
def E9:Ct:=.clo (.pair aa .unit) (.pair aa .unit) .bool (fun z x=>rS z.1 x.1)
theorem Dh:KC 208 E9:=cq En .none Tryz.func208
def dE (a0:List aa.D) (a1:Int) (a2:List aa.D):Option (List aa.D×Unit):=if 0≤a1∧a1≤(a0.length:Int)∧a2.length=1∧a0.length≤1048576 then some (a0.take a1.toNat++a2++a0.drop a1.toNat,()) else none
def lF:Ct:=.mut [.tk,.rd,.tk] true true (.pair (.slice aa) (.pair (.int .i64) (.pair (.slice aa) .unit))) (.slice aa) (fun x=>dE x.1 x.2.1 x.2.2.1)
theorem kV:fC Tryz.prog 209 lF:=TX rfl
def wU (z0:Int) (a0:aa.D):Option Bool :=
 some (a0.1 == z0)
def Di:Ct:=.clo (.pair aa .unit) (.pair (.int .i64) .unit) .bool (fun z x=>wU z.1 x.1)
theorem BJ:KC 304 Di:=cq En .none Tryz.func304
def fL (a0:(List aa.D)) (a1:Int):Option Int :=
(bw a0 (fun q=>wU a1 q.1)).bind fun y1 =>
 some y1
def wV:Ct:=.pure true false (.pair (.slice aa) (.pair (.int .i64) .unit)) (.int .i64) (fun x=>fL x.1 x.2.1)
theorem jf:KC 211 wV:=pq (Ec fN (Ec BJ En)) .none Tryz.func211
def qK (a0:(List aa.D)) (a1:aa.D):Option ((List aa.D)×(Bool×Unit)) :=
(bO a0).bind fun y1 =>
(bw a0 (fun q=>rS a1 q.1)).bind fun y2 =>
((bif decide (y2 < 0) then (
 some (a0.length:Int))
 else (
 some y2)):Option Int).bind fun o3 =>
(bO a0).bind fun y4 =>
(cN a1).bind fun y5 =>
(dE y4 o3 [y5]).bind fun y6 =>
(((fL a0 a1.1).bind fun y7 =>
 bif decide (y7≥0) then (
 some true)
 else (
(fi y6.1).bind fun y8 =>
 some (!y8))):Option Bool).bind fun o9 =>
 bif o9 then (
 some (y1,false,()))
 else (
 some (y6.1,true,()))
def J0:Hints:=(n0 (n0 (n0 (nd (n0 (cu ⟨[.tmp 7 (.int .i64)],[none],none,[]⟩)) (n0 (nd (nd (cu ⟨[.tmp 34 .bool],[none],none,[]⟩) .none) .none))))))
def yX:Ct:=.pure false true (.pair (.slice aa) (.pair aa .unit)) (.pair (.slice aa) (.pair .bool .unit)) (fun x=>qK x.1 x.2.1)
theorem xK:KC 92 yX:=pq (Ec kw (Ec bn (Ec fN (Ec Dh (Ec kV (Ec cK (Ec jf En))))))) J0 Tryz.func92
theorem pC (xs:List aT.D) (i j:Nat) (hij:i < j) (hj:j≤xs.length):da xs (i:Int) (j:Int)=some (xs.take i++xs.drop j,()):=by
 unfold da
 have e0:((i:Int) == (j:Int))=false:=by rw [beq_eq_false_iff_ne];omega
 have t2:(xs.length:Int).toNat=xs.length:=by omega
 have t3:i + (xs.length - j) - 0=i + (xs.length - j):=by omega
 simp only [e0,cond_false,t2,Int.toNat_natCast,t3]
 rw [if_pos (by omega),if_pos (by omega),if_pos (by omega),if_pos (by omega),if_pos (by omega),if_pos (by omega),if_pos (by omega),if_pos (by omega),if_pos (by omega),if_pos (by omega),if_pos (by omega),if_pos (by omega),if_pos (by omega),if_pos (by omega),if_pos (by omega)]
 have hlen:(xs.take i++(xs.take xs.length).drop j++xs.drop (i + (xs.length - j))).length=xs.length:=by simp;omega
 rw [if_pos (by rw [hlen];omega)]
 rw [List.drop_zero,List.append_assoc (List.take (i + (xs.length - j)) _),List.take_append_of_le_length (by rw [List.length_take,hlen];omega),List.take_take,Nat.min_self,List.take_append_of_le_length (by simp;omega),List.take_of_length_le (by simp;omega),List.take_length]
def cr (a0:List aa.D) (a1 a2:Int):Option (List aa.D×Unit):=if 0≤a1∧a1 < a2∧a2≤(a0.length:Int) then some (a0.take a1.toNat++a0.drop a2.toNat,()) else none
def lG:Ct:=.mut [.tk,.rd,.rd] true true (.pair (.slice aa) (.pair (.int .i64) (.pair (.int .i64) .unit))) (.slice aa) (fun x=>cr x.1 x.2.1 x.2.2.1)
theorem kW:fC Tryz.prog 212 lG:=by
 refine Vl (t:=aa) (FH:=fun x=>da x.1 x.2.1 x.2.2.1) rfl jG fun xs i j z hz=>?_
 have hz:cr xs i j=some z:=hz
 unfold cr at hz
 split at hz
 ·rename_i h
  obtain ⟨h1,h2,h3⟩:=h
  cases hz
  obtain ⟨i,rfl⟩:=Int.eq_ofNat_of_zero_le h1
  obtain ⟨j,rfl⟩:=Int.eq_ofNat_of_zero_le (show 0≤j by omega)
  obtain ⟨p1,p2⟩:=PF xs i j (by omega) (by omega)
  refine ⟨_,p2,p1,fun xsH hl=>⟨_,pC xsH i j (by omega) (by omega),?_⟩⟩
  rw [← hl]
  exact (PF xsH i j (by omega) (by omega)).1
 ·cases hz
def zZ (a0:(List aa.D)) (a1:Int):Option ((List aa.D)×(Bool×Unit)) :=
(bO a0).bind fun y1 =>
(fL a0 a1).bind fun y2 =>
 bif decide (y2 < 0) then (
 some (y1,false,()))
 else (
(cr y1 y2 (IntKind.wrap .i64 (y2 + 1))).bind fun y3 =>
 some (y3.1,true,()))
def Dj:Ct:=.pure false true (.pair (.slice aa) (.pair (.int .i64) .unit)) (.pair (.slice aa) (.pair .bool .unit)) (fun x=>zZ x.1 x.2.1)
theorem BK:KC 93 Dj:=pq (Ec bn (Ec jf (Ec kW En))) .none Tryz.func93
def mB (a0:ac.D):Option Bool :=
(bM a0).bind fun y1 =>
 some (!y1)
def Fa:Ct:=.pure true false (.pair ac .unit) .bool (fun x=>mB x.1)
theorem Dk:KC 184 Fa:=pq (Ec bP En) .none Tryz.func184
def mC (a0:(List ac.D)):Option Bool :=
 bif decide ((a0.length:Int)≤4) then (
(aM a0 (fun q=>mB q.1)).bind fun y1 =>
 some (!y1))
 else (
 some false)
def J1:Ct:=.pure true false (.pair (.slice ac) .unit) .bool (fun x=>mC x.1)
theorem wW:KC 77 J1:=pq (Ec cX (Ec Dk En)) .none Tryz.func77
def fO (a0:(List Int)) (a1:Int):Int→Option (Int⊕(Int⊕Int)):=fun s1 =>
 bif decide (s1 < (a0.length:Int)) then (
 idx a0 s1 fun x2 =>
 bif (a1 == x2) then (
 some (.inr (.inr s1)))
 else (
 some (.inl (IntKind.wrap .i64 (s1 + 1)))))
 else (
 some (.inr (.inl s1)))
def n8 (a0:(List Int)) (a1:Int):Option Int :=
(al (fO a0 a1) 0).bind fun o3 =>
 match o3 with
| .inl s4=>(
 some (-1))
| .inr o5=>(
 some o5)
def BL:Hints:=(n0 (nd (n0 (nd (.node none (some ⟨[.tmp 8 (.int .i64)],[some 0],some [.tmp 4 (.int .i64)],[]⟩) .none .none) .none)) .none))
def BM:Ct:=.pure true false (.pair (.slice (.int .i64)) (.pair (.int .i64) .unit)) (.int .i64) (fun x=>n8 x.1 x.2.1)
theorem Ap:KC 392 BM:=pq En BL Tryz.func392
def jz (a0:(List Int)) (a1:Int):Option Bool :=
(n8 a0 a1).bind fun y1 =>
 some (decide (y1≥0))
def xL:Ct:=.pure true false (.pair (.slice (.int .i64)) (.pair (.int .i64) .unit)) .bool (fun x=>jz x.1 x.2.1)
theorem v9:KC 370 xL:=pq (Ec Ap En) .none Tryz.func370
def Dm (a0:(List Int)) (a1:Int):Option Bool :=
(jz a0 a1).bind fun y1 =>
 some y1
def Rg:Ct:=.pure true false (.pair (.slice (.int .i64)) (.pair (.int .i64) .unit)) .bool (fun x=>Dm x.1 x.2.1)
theorem PY:KC 341 Rg:=pq (Ec v9 En) .none Tryz.func341
def n9 (a0:aa.D) (a1:Int):Option Bool :=
 bif (a0.2.2.2.2.2.2.2.2.1 != 0) then (
 bif (a0.2.2.2.2.2.2.2.1 == (-1)) then (
 some true)
 else (
 some (decide (a0.2.2.2.2.2.2.2.1≥a1))))
 else (
 some false)
def Oj:Ct:=.pure true false (.pair aa (.pair (.int .i64) .unit)) .bool (fun x=>n9 x.1 x.2.1)
theorem A4:KC 221 Oj:=pq En .none Tryz.func221
def Fb (a0:aa.D) (a1:ac.D):Option Bool :=
 bif (a0.2.2.2.1 != 0) then (
 some true)
 else (
 bif (a0.2.2.1 == a1.2.1) then (
 some true)
 else (
 some (a0.2.2.1 == a1.2.2.1)))
def PZ:Ct:=.pure true false (.pair aa (.pair ac .unit)) .bool (fun x=>Fb x.1 x.2.1)
theorem Ok:KC 371 PZ:=pq En .none Tryz.func371
def qb (a0:ae.D) (a1:Int):((List Int)×Int)→Option (((List Int)×Int)⊕((List Int)×Int)):=fun s1 =>
 bif decide (s1.2 < (a0.1.length:Int)) then (
 idx a0.1 s1.2 fun x2 =>
((bif (x2.2.2.2.1 == 2) then (
 bif (a1 == (-1)) then (
 some true)
 else (
 some (x2.2.2.1 == a1)))
 else (
 some false)):Option Bool).bind fun o3 =>
 bif o3 then (
 if (s1.1.length + [x2.1].length) * (24 * 1)≤aC then (
 some (.inl ((s1.1++[x2.1]),IntKind.wrap .i64 (s1.2 + 1)))) else none)
 else (
 some (.inl (s1.1,IntKind.wrap .i64 (s1.2 + 1)))))
 else (
 some (.inr s1))
def qL (a0:ae.D) (a1:Int):Option (List Int) :=
(al (qb a0 a1) ([],0)).bind fun o4 =>
 some o4.1
def J2:Hints:=(n0 (n0 (nd (n0 (nd (.node none (some ⟨[.tmpO 5 0 (.slice (.int .i64)),.tmp 12 (.int .i64)],[some 0],none,[]⟩) (n0 (n0 (nd (nd (n0 (nd (cu ⟨[.tmp 28 .bool],[none],none,[]⟩) .none)) .none) .none))) .none) .none)) .none)))
def yY:Ct:=.pure true true (.pair ae (.pair (.int .i64) .unit)) (.slice (.int .i64)) (fun x=>qL x.1 x.2.1)
theorem xM:KC 393 yY:=pq En J2 Tryz.func393
def rT (a0:ae.D) (a1:Int):(Int×Int)→Option ((Int×Int)⊕(Int×Int)):=fun s1 =>
 bif decide (s1.2 < (a0.1.length:Int)) then (
 idx a0.1 s1.2 fun x2 =>
((bif (x2.2.2.2.1 == 2) then (
 bif (x2.2.2.1 == a1) then (
 some x2.2.2.2.2.2.2.2.2.2.2.2.2.1)
 else (
 some false))
 else (
 some false)):Option Bool).bind fun o3 =>
 bif o3 then (
 some (.inl (IntKind.wrap .i64 (s1.1 + 1),IntKind.wrap .i64 (s1.2 + 1))))
 else (
 some (.inl (s1.1,IntKind.wrap .i64 (s1.2 + 1)))))
 else (
 some (.inr s1))
def tD (a0:ae.D) (a1:Int):Option Int :=
(al (rT a0 a1) (0,0)).bind fun o4 =>
 some o4.1
def L5:Hints:=(n0 (n0 (nd (n0 (nd (.node none (some ⟨[.tmp 5 (.int .i64),.tmp 11 (.int .i64)],[some 0],none,[]⟩) (n0 (n0 (nd (nd (n0 (nd (cu ⟨[.tmp 27 .bool],[none],none,[]⟩) .none)) .none) .none))) .none) .none)) .none)))
def L6:Ct:=.pure true false (.pair ae (.pair (.int .i64) .unit)) (.int .i64) (fun x=>tD x.1 x.2.1)
theorem J3:KC 394 L6:=pq En L5 Tryz.func394
def wa (a0:ae.D) (a1:Int) (a2:bc.D):Option Bool :=
(((gD a2).bind fun y1 =>
 bif (!y1) then (
 some true)
 else (
(aQ a0 a1).bind fun y2 =>
 some (!y2))):Option Bool).bind fun o3 =>
 bif o3 then (
 some false)
 else (
 bif (a2.1 == 1) then (
 idx a0.2.1 a1 fun x4 =>
 some (decide (x4.1≤a2.2.1)))
 else (
 bif (a2.1 == 2) then (
(qL a0 a1).bind fun y5 =>
 some (decide ((y5.length:Int)≥a2.2.1)))
 else (
 bif (a2.1 == 3) then (
 some (a0.2.2.1 == a1))
 else (
 bif (a2.1 == 4) then (
(tD a0 a1).bind fun y6 =>
 some (decide (y6≥a2.2.1)))
 else (
 some true)))))
def Ol:Hints:=(n0 (nd (nd (cu ⟨[.tmp 15 .bool],[none],none,[]⟩) .none) .none))
def Om:Ct:=.pure true false (.pair ae (.pair (.int .i64) (.pair bc .unit))) .bool (fun x=>wa x.1 x.2.1 x.2.2.1)
theorem L7:KC 372 Om:=pq (Ec gc (Ec wR (Ec xM (Ec J3 En)))) Ol Tryz.func372
def cn (a0:(List ah.D)) (a1:((ah.D×Unit)→Option Bool)):Int→Option (Int⊕(Int⊕Int)):=fun s1 =>
 bif decide (s1 < (a0.length:Int)) then (
 idx a0 s1 fun x2 =>
(a1 (x2,())).bind fun y3 =>
 bif y3 then (
 some (.inr (.inr s1)))
 else (
 some (.inl (IntKind.wrap .i64 (s1 + 1)))))
 else (
 some (.inr (.inl s1)))
def cW (a0:(List ah.D)) (a1:((ah.D×Unit)→Option Bool)):Option Int :=
(al (cn a0 a1) 0).bind fun o4 =>
 match o4 with
| .inl s5=>(
 some (-1))
| .inr o6=>(
 some o6)
def pD:Hints:=(n0 (nd (n0 (nd (.node none (some ⟨[.tmp 8 (.int .i64)],[some 0],some [.tmp 4 (.int .i64)],[]⟩) .none .none) .none)) .none))
def pE:Ct:=.pure true false (.pair (.slice ah) (.pair (.fn (.pair ah .unit) .bool) .unit)) (.int .i64) (fun x=>cW x.1 x.2.1)
theorem od:KC 381 pE:=pq En pD Tryz.func381
def yZ (z0:Int) (a0:ah.D):Option Bool :=
 some (a0.1 == z0)
def Fc:Ct:=.clo (.pair ah .unit) (.pair (.int .i64) .unit) .bool (fun z x=>yZ z.1 x.1)
theorem Dn:KC 382 Fc:=cq En .none Tryz.func382
def fj (a0:ae.D) (a1:Int):Option Int :=
(cW a0.1 (fun q=>yZ a1 q.1)).bind fun y1 =>
 some y1
def J4:Ct:=.pure true false (.pair ae (.pair (.int .i64) .unit)) (.int .i64) (fun x=>fj x.1 x.2.1)
theorem gR:KC 353 J4:=pq (Ec od (Ec Dn En)) .none Tryz.func353
def pF (a0:ae.D) (a1:ac.D):Option Int :=
 bif (a1.2.2.1 == 0) then (
(aQ a0 a1.2.2.2.1).bind fun y1 =>
 bif y1 then (
 some a1.2.2.2.1)
 else (
 some (-1)))
 else (
(fj a0 a1.2.2.1).bind fun y2 =>
 bif decide (y2 < 0) then (
 some (-1))
 else (
 idx a0.1 y2 fun x3 =>
 some x3.2.2.1))
def L8:Ct:=.pure true false (.pair ae (.pair ac .unit)) (.int .i64) (fun x=>pF x.1 x.2.1)
theorem za:KC 346 L8:=pq (Ec gc (Ec gR En)) .none Tryz.func346
def kx (a0:ae.D) (a1:Int) (a2:cp.D) (a3:ac.D):Option Bool :=
(pF a0 a3).bind fun y1 =>
((bif (y1 == (-1)) then (
 some true)
 else (
 bif (a2.2.1 == 1) then (
 bif (y1 != a1) then (
 some true)
 else (
 bif (a2.2.1 == 2) then (
 some (y1 == a1))
 else (
 some false)))
 else (
 bif (a2.2.1 == 2) then (
 some (y1 == a1))
 else (
 some false)))):Option Bool).bind fun o2 =>
 bif o2 then (
 some false)
 else (
 bif (a2.2.2.2.2.1 == 0) then (
 some true)
 else (
 some (a2.2.2.2.2.1 == a3.2.2.1)))
def Do:Hints:=(n0 (n0 (nd (nd (cu ⟨[.tmp 34 .bool],[none],none,[]⟩) .none) .none)))
def Dp:Ct:=.pure true false (.pair ae (.pair (.int .i64) (.pair cp (.pair ac .unit)))) .bool (fun x=>kx x.1 x.2.1 x.2.2.1 x.2.2.2.1)
theorem BN:KC 395 Dp:=pq (Ec za En) Do Tryz.func395
def fk (a0:ae.D) (a1:ac.D):Option ah.D :=
(fj a0 a1.2.1).bind fun y1 =>
((bif (a1.1 != 1) then (
 some true)
 else (
 some (decide (y1 < 0)))):Option Bool).bind fun o2 =>
 bif o2 then (
 some (0,0,0,0,0,0,0,0,0,0,0,false,false,()))
 else (
 idx a0.1 y1 fun x3 =>
 some x3)
def L9:Hints:=(n0 (n0 (nd (nd (cu ⟨[.tmp 16 .bool],[none],none,[]⟩) .none) .none)))
def Ma:Ct:=.pure true false (.pair ae (.pair ac .unit)) ah (fun x=>fk x.1 x.2.1)
theorem rU:KC 313 Ma:=pq (Ec gR En) L9 Tryz.func313
def ky (a0:ae.D) (a1:cp.D) (a2:ac.D):Option Bool :=
 bif (a1.2.2.1 == 0) then (
(fk a0 a2).bind fun y1 =>
 let k2:Int:=IntKind.wrap .i64 (BitVec.ofInt (IntKind.bits .i64) y1.2.2.2.2.2.2.2.1 &&& BitVec.ofInt (IntKind.bits .i64) a1.2.2.2.1).toNat
 some (k2 == a1.2.2.2.1))
 else (
 bif (a1.2.2.1 == a2.2.1) then (
(fk a0 a2).bind fun y3 =>
 let k4:Int:=IntKind.wrap .i64 (BitVec.ofInt (IntKind.bits .i64) y3.2.2.2.2.2.2.2.1 &&& BitVec.ofInt (IntKind.bits .i64) a1.2.2.2.1).toNat
 some (k4 == a1.2.2.2.1))
 else (
 some false))
def Dq:Ct:=.pure true false (.pair ae (.pair cp (.pair ac .unit))) .bool (fun x=>ky x.1 x.2.1 x.2.2.1)
theorem BO:KC 396 Dq:=pq (Ec rU En) .none Tryz.func396
def qM (a0:ae.D) (a1:Int) (a2:cp.D) (a3:ac.D):Option Bool :=
(kU a2).bind fun y1 =>
 bif y1 then (
(bM a3).bind fun y2 =>
 bif y2 then (
 bif (a2.1 == a3.1) then (
(kx a0 a1 a2 a3).bind fun y3 =>
 bif y3 then (
(ky a0 a2 a3).bind fun y4 =>
 bif y4 then (
 bif decide (a3.2.2.2.2.1≥a2.2.2.2.2.2.1) then (
 bif (a2.2.2.2.2.2.2.1 == 0) then (
 some true)
 else (
 some (a2.2.2.2.2.2.2.1 == a3.2.2.2.2.2.1)))
 else (
 some false))
 else (
 some false))
 else (
 some false))
 else (
 some false))
 else (
 some false))
 else (
 some false)
def J5:Ct:=.pure true false (.pair ae (.pair (.int .i64) (.pair cp (.pair ac .unit)))) .bool (fun x=>qM x.1 x.2.1 x.2.2.1 x.2.2.2.1)
theorem G9:KC 373 J5:=pq (Ec bP (Ec A3 (Ec BN (Ec BO En)))) .none Tryz.func373
def rh (a0:ae.D) (a1:aa.D) (a2:ac.D):Option Bool :=
(cL a1).bind fun y1 =>
 bif y1 then (
(n9 a1 a0.2.2.2.1).bind fun y2 =>
 bif y2 then (
(Fb a1 a2).bind fun y3 =>
 bif y3 then (
(wa a0 a1.2.1 a1.2.2.2.2.2.1).bind fun y4 =>
 bif y4 then (
(qM a0 a1.2.1 a1.2.2.2.2.1 a2).bind fun y5 =>
 some y5)
 else (
 some false))
 else (
 some false))
 else (
 some false))
 else (
 some false)
def P0:Ct:=.pure true false (.pair ae (.pair aa (.pair ac .unit))) .bool (fun x=>rh x.1 x.2.1 x.2.2.1)
theorem On:KC 342 P0:=pq (Ec nX (Ec A4 (Ec Ok (Ec L7 (Ec G9 En))))) .none Tryz.func342
def kz (a0:ae.D) (a1:(List aa.D)) (a2:ac.D) (a3:(List Int)):((List Int)×(Int×Int))→Option (((List Int)×(Int×Int))⊕((List Int)×(Int×Int))):=fun s1 =>
 bif decide (s1.2.2 < (a1.length:Int)) then (
 idx a1 s1.2.2 fun x2 =>
(((Dm a3 x2.1).bind fun y3 =>
 bif y3 then (
 some true)
 else (
(rh a0 x2 a2).bind fun y4 =>
 some (!y4))):Option Bool).bind fun o5 =>
 bif o5 then (
 some (.inl (s1.1,s1.2.1,IntKind.wrap .i64 (s1.2.2 + 1))))
 else (
((bif ((s1.1.length:Int) == 0) then (
 some true)
 else (
 some (decide (x2.2.2.2.1 < s1.2.1)))):Option Bool).bind fun o6 =>
((bif o6 then (
 if 0≤(0:Int) then (if (0:Int)≤(0:Int) then (if (0:Int)≤(s1.1.length:Int) then (
 some ((s1.1.take ((0:Int).toNat)),x2.2.2.2.1)) else none) else none) else none)
 else (
 some (s1.1,s1.2.1))):Option ((List Int)×Int)).bind fun o7 =>
 bif (x2.2.2.2.1 == o7.2) then (
 if (o7.1.length + [x2.1].length) * (24 * 1)≤aC then (
 some (.inl ((o7.1++[x2.1]),o7.2,IntKind.wrap .i64 (s1.2.2 + 1)))) else none)
 else (
 some (.inl (o7.1,o7.2,IntKind.wrap .i64 (s1.2.2 + 1))))))
 else (
 some (.inr s1))
def qN (a0:ae.D) (a1:(List aa.D)) (a2:ac.D) (a3:(List Int)):Option (List Int) :=
(al (kz a0 a1 a2 a3) ([],0,0)).bind fun o8 =>
 some o8.1
def J6:Hints:=(n0 (n0 (n0 (nd (n0 (nd (.node none (some ⟨[.tmpO 9 0 (.slice (.int .i64)),.tmp 10 (.int .i64),.tmp 16 (.int .i64)],[some 0],none,[]⟩) (n0 (n0 (nd (nd (n0 (nd (nd (cu ⟨[.tmp 30 .bool],[none],none,[]⟩) .none) (nd (nd (cu ⟨[.tmp 39 .bool],[none],none,[]⟩) (cu ⟨[.tmpO 9 1 (.slice (.int .i64)),.tmp 10 (.int .i64)],[none],none,[(9,0)]⟩)) .none))) .none) .none))) .none) .none)) .none))))
def pG:Ct:=.pure true true (.pair ae (.pair (.slice aa) (.pair ac (.pair (.slice (.int .i64)) .unit)))) (.slice (.int .i64)) (fun x=>qN x.1 x.2.1 x.2.2.1 x.2.2.2.1)
theorem xN:KC 277 pG:=pq (Ec PY (Ec On En)) J6 Tryz.func277
def uP (a0:ac.D):Option Bool :=
 bif (a0.2.2.2.2.1 == 0) then (
 some (a0.1 != 2))
 else (
 some false)
def Gq:Ct:=.pure true false (.pair ac .unit) .bool (fun x=>uP x.1)
theorem Dr:KC 278 Gq:=pq En .none Tryz.func278
def uQ (a0:(List Int)) (a1:Int):Option (Int×((List Int)×Unit)) :=
((bif decide (a1 < 2) then (
 some true)
 else (
 some ((a0.length:Int) == 0))):Option Bool).bind fun o1 =>
 bif o1 then (
(bl a0).bind fun y2 =>
 some (0,y2,()))
 else (
 idx a0 0 fun x3 =>
 if a1=0 then none else (
((bif decide ((x3.tmod a1) < 0) then (
 some (IntKind.wrap .i64 ((x3.tmod a1) + a1)))
 else (
 some (x3.tmod a1))):Option Int).bind fun o4 =>
 if 0≤(1:Int) then (if (1:Int)≤(a0.length:Int) then (if (a0.length:Int)≤(a0.length:Int) then (
(bl ((a0.take (a0.length:Int).toNat).drop (1:Int).toNat)).bind fun y5 =>
 some (o4,y5,())) else none) else none) else none))
def P1:Hints:=(n0 (nd (nd (cu ⟨[.tmp 13 .bool],[none],none,[]⟩) .none) (n0 (nd (n0 (cu ⟨[.tmp 6 (.int .i64)],[none],none,[]⟩)) .none))))
def tE:Ct:=.pure false true (.pair (.slice (.int .i64)) (.pair (.int .i64) .unit)) (.pair (.int .i64) (.pair (.slice (.int .i64)) .unit)) (fun x=>uQ x.1 x.2.1)
theorem rV:KC 164 tE:=pq (Ec bu En) P1 Tryz.func164
def rW (x:sJ.D) (a0:Int):Option ((Int×(Bool×Unit))×sJ.D) :=
(uQ x.2.1.2.2.1 a0).bind fun y1 =>
 some ((y1.1,true,()),(x.1,(x.2.1.1,x.2.1.2.1,y1.2.1,x.2.1.2.2.2),()))
def uR:Ct:=.run sJ [(163,true),(165,false)] true true false (.pair (.int .i64) .unit) (.pair (.int .i64) (.pair .bool .unit)) (fun x y=>rW x y.1)
theorem Ds:fC Tryz.prog 163 uR:=NO (E:={ T:=tab,G:=[(164,tE)] }) (aE.cons rV (aE.nil sU)) mixed (fn:=Tryz.f163) _ _ _ _ _ _ _ _ .none Tryz.func163 (by kernel_rfl) (fun x y=>by kernel_rfl)
def lu (a0:Int) (a1:Int):Option Int :=
 some (if (if a1 < a0 then a1 else a0) > 0 then (if a1 < a0 then a1 else a0) else 0)
def P2:Ct:=.pure true false bc (.int .i64) (fun x=>lu x.1 x.2.1)
theorem mD:KC 374 P2:=pq En .none Tryz.func374
end
end Go.Abs
