/- Part of a proof of FnExactDoOrder: see the row. -/
import Derived.Test.YtenadnbpibhmiaaGreatProg
import Derived.Test.YtenadnbpibhmiaaGreatDoAbsHd
import Derived.Test.YtenadnbpibhmiaaGreatDoAbsPure
import Derived.Test.YtenadnbpibhmiaaGreatDoInsZ
set_option linter.unusedVariables false
set_option linter.unusedSimpArgs false
namespace Go.Abs
open Go.Proofs
set_option maxRecDepth 100000
noncomputable section
def nd (a b:Hints):Hints:=.node none none a b
def n0 (b:Hints):Hints:=.node none none .none b
def cu (h:Hint):Hints:=.node (some h) none .none .none
@[reducible] def ah:Ty:=(.pair (.int .i64) (.pair (.int .i64) (.pair (.int .i64) (.pair (.int .i64) (.pair (.int .i64) (.pair (.int .i64) (.pair (.int .i64) (.pair (.int .i64) (.pair (.int .i64) (.pair (.int .i64) (.pair (.int .i64) (.pair .bool (.pair .bool .unit)))))))))))))
@[reducible] def ar:Ty:=(.pair (.int .i64) (.pair (.int .i64) (.pair .bool .unit)))
@[reducible] def ae:Ty:=(.pair (.slice ah) (.pair (.slice ar) (.pair (.int .i64) (.pair (.int .i64) .unit))))
@[reducible] def cn:Ty:=(.pair (.int .i64) (.pair (.int .i64) (.pair (.int .i64) (.pair (.int .i64) (.pair (.int .i64) (.pair (.int .i64) (.pair (.int .i64) .unit)))))))
@[reducible] def bc:Ty:=(.pair (.int .i64) (.pair (.int .i64) .unit))
@[reducible] def ac:Ty:=(.pair (.int .i64) (.pair (.int .i64) (.pair (.int .i64) (.pair (.int .i64) (.pair (.int .i64) (.pair (.int .i64) (.pair .bool .unit)))))))
@[reducible] def bg:Ty:=(.pair (.int .i64) (.pair (.int .i64) (.pair (.int .i64) (.pair (.int .i64) (.pair (.int .i64) (.pair .bool (.pair (.slice ac) .unit)))))))
@[reducible] def aa:Ty:=(.pair (.int .i64) (.pair (.int .i64) (.pair (.int .i64) (.pair (.int .i64) (.pair cn (.pair bc (.pair bg (.pair (.int .i64) (.pair (.int .i64) .unit)))))))))
@[reducible] def au:Ty:=(.pair (.int .i64) (.pair (.int .i64) (.pair (.int .i64) (.pair (.int .i64) (.pair ac (.pair (.slice ac) (.pair (.int .i64) (.pair (.int .i64) .unit))))))))
@[reducible] def lR:Ty:=(.pair (.vw ah) (.pair (.vw ar) (.pair (.int .i64) (.pair (.int .i64) .unit))))
@[reducible] def nq:Ty:=(.pair lR (.pair (.slice aa) (.pair (.slice (.int .i64)) (.pair (.slice ac) (.pair (.slice au) .unit)))))
@[reducible] def af:Ty:=(.pair (.int .i64) (.pair (.int .i64) (.pair (.int .i64) (.pair ah .unit))))
@[reducible] def ai:Ty:=(.pair (.int .i64) (.pair ac (.pair (.int .i64) (.pair (.int .i64) (.pair ah .unit)))))
@[reducible] def T_Game:Ty:=(.pair ae (.pair (.slice aa) (.pair (.slice (.int .i64)) (.pair (.slice af) (.pair (.slice ai) (.pair (.slice au) .unit))))))
@[reducible] def ba:Ty:=(.pair (.slice ac) (.pair (.slice aa) (.pair (.slice (.int .i64)) (.pair (.slice au) .unit))))
@[reducible] def dU:Ty:=(.pair (.int .i64) (.pair (.int .i64) (.pair (.int .i64) (.pair (.int .i64) (.pair ac (.pair (.vw ac) (.pair (.int .i64) (.pair (.int .i64) .unit))))))))
@[reducible] def vE:Ty:=(.pair (.slice ac) (.pair (.slice aa) (.pair (.slice (.int .i64)) (.pair (.slice dU) .unit))))
@[reducible] def sC:Ty:=(.pair lR (.pair vE .unit))
@[reducible] def T_Order:Ty:=(.pair (.int .i64) (.pair aa (.pair (.int .i64) (.pair (.slice ac) .unit))))
@[reducible] def Pk:Ty:=(.pair ae (.pair (.slice aa) (.pair (.slice (.int .i64)) (.pair (.slice ac) (.pair (.slice au) .unit)))))
@[reducible] def Tv:Ty:=(.pair (.int .i64) (.pair (.int .i64) (.pair (.int .i64) (.pair (.int .i64) (.pair (.int .i64) (.pair .bool (.pair .hd .unit)))))))
@[reducible] def aT:Ty:=(.pair (.int .i64) (.pair (.int .i64) (.pair (.int .i64) (.pair (.int .i64) (.pair cn (.pair bc (.pair Tv (.pair (.int .i64) (.pair (.int .i64) .unit)))))))))
@[reducible] def Uz:Ty:=(.pair ae (.pair (.slice aa) (.pair (.slice (.int .i64)) (.pair (.slice af) (.pair (.slice ai) (.pair (.slice dU) .unit))))))
@[reducible] def Tw:Ty:=(.pair ae (.pair (.slice aa) (.pair (.slice (.int .i64)) (.pair (.slice ac) (.pair (.slice dU) .unit)))))
def tab:Tab:=[
 (3,⟨.int .i64,1,0,(.int .i64),[.int .i64 0]⟩),
 (4,⟨.bool,1,0,.bool,[.bool false]⟩),
 (24,⟨.slice 101,1,0,(.slice ah),[.nil]⟩),
 (25,⟨.slice 224,1,0,(.slice ar),[.nil]⟩),
 (26,⟨.struct [(0,24),(1,25),(2,3),(3,3)],4,0,ae,[.nil,.nil,.int .i64 0,.int .i64 0]⟩),
 (27,⟨.struct [(0,24),(1,25),(2,3),(3,3)],4,0,ae,[.nil,.nil,.int .i64 0,.int .i64 0]⟩),
 (28,⟨.slice 43,1,0,(.slice aa),[.nil]⟩),
 (29,⟨.slice 3,1,0,(.slice (.int .i64)),[.nil]⟩),
 (30,⟨.slice 103,1,0,(.slice af),[.nil]⟩),
 (31,⟨.slice 159,1,0,(.slice ai),[.nil]⟩),
 (32,⟨.slice 162,1,0,(.slice au),[.nil]⟩),
 (33,⟨.struct [(0,27),(4,28),(5,29),(6,30),(7,31),(8,32)],9,0,T_Game,[.nil,.nil,.int .i64 0,.int .i64 0,.nil,.nil,.nil,.nil,.nil]⟩),
 (34,⟨.struct [(0,27),(4,28),(5,29),(6,30),(7,31),(8,32)],9,0,T_Game,[.nil,.nil,.int .i64 0,.int .i64 0,.nil,.nil,.nil,.nil,.nil]⟩),
 (35,⟨.struct [(0,3),(1,3),(2,3),(3,3),(4,3),(5,3),(6,3)],7,0,cn,[.int .i64 0,.int .i64 0,.int .i64 0,.int .i64 0,.int .i64 0,.int .i64 0,.int .i64 0]⟩),
 (36,⟨.struct [(0,3),(1,3),(2,3),(3,3),(4,3),(5,3),(6,3)],7,0,cn,[.int .i64 0,.int .i64 0,.int .i64 0,.int .i64 0,.int .i64 0,.int .i64 0,.int .i64 0]⟩),
 (37,⟨.struct [(0,3),(1,3)],2,0,bc,[.int .i64 0,.int .i64 0]⟩),
 (38,⟨.struct [(0,3),(1,3)],2,0,bc,[.int .i64 0,.int .i64 0]⟩),
 (39,⟨.slice 114,1,0,(.slice ac),[.nil]⟩),
 (40,⟨.struct [(0,3),(1,3),(2,3),(3,3),(4,3),(5,4),(6,39)],7,0,bg,[.int .i64 0,.int .i64 0,.int .i64 0,.int .i64 0,.int .i64 0,.bool false,.nil]⟩),
 (41,⟨.struct [(0,3),(1,3),(2,3),(3,3),(4,3),(5,4),(6,39)],7,0,bg,[.int .i64 0,.int .i64 0,.int .i64 0,.int .i64 0,.int .i64 0,.bool false,.nil]⟩),
 (42,⟨.struct [(0,3),(1,3),(2,3),(3,3),(4,36),(11,38),(13,41),(20,3),(21,3)],22,0,aa,[.int .i64 0,.int .i64 0,.int .i64 0,.int .i64 0,.int .i64 0,.int .i64 0,.int .i64 0,.int .i64 0,.int .i64 0,.int .i64 0,.int .i64 0,.int .i64 0,.int .i64 0,.int .i64 0,.int .i64 0,.int .i64 0,.int .i64 0,.int .i64 0,.bool false,.nil,.int .i64 0,.int .i64 0]⟩),
 (43,⟨.struct [(0,3),(1,3),(2,3),(3,3),(4,36),(11,38),(13,41),(20,3),(21,3)],22,0,aa,[.int .i64 0,.int .i64 0,.int .i64 0,.int .i64 0,.int .i64 0,.int .i64 0,.int .i64 0,.int .i64 0,.int .i64 0,.int .i64 0,.int .i64 0,.int .i64 0,.int .i64 0,.int .i64 0,.int .i64 0,.int .i64 0,.int .i64 0,.int .i64 0,.bool false,.nil,.int .i64 0,.int .i64 0]⟩),
 (44,⟨.struct [(0,3),(1,43),(23,3),(24,39)],25,0,T_Order,[.int .i64 0,.int .i64 0,.int .i64 0,.int .i64 0,.int .i64 0,.int .i64 0,.int .i64 0,.int .i64 0,.int .i64 0,.int .i64 0,.int .i64 0,.int .i64 0,.int .i64 0,.int .i64 0,.int .i64 0,.int .i64 0,.int .i64 0,.int .i64 0,.int .i64 0,.bool false,.nil,.int .i64 0,.int .i64 0,.int .i64 0,.nil]⟩),
 (45,⟨.struct [(0,3),(1,43),(23,3),(24,39)],25,0,T_Order,[.int .i64 0,.int .i64 0,.int .i64 0,.int .i64 0,.int .i64 0,.int .i64 0,.int .i64 0,.int .i64 0,.int .i64 0,.int .i64 0,.int .i64 0,.int .i64 0,.int .i64 0,.int .i64 0,.int .i64 0,.int .i64 0,.int .i64 0,.int .i64 0,.int .i64 0,.bool false,.nil,.int .i64 0,.int .i64 0,.int .i64 0,.nil]⟩),
 (58,⟨.slice 261,1,0,(.slice ah),[.nil]⟩),
 (59,⟨.slice 289,1,0,(.slice ar),[.nil]⟩),
 (60,⟨.struct [(0,58),(1,59),(2,3),(3,3)],4,0,ae,[.nil,.nil,.int .i64 0,.int .i64 0]⟩),
 (61,⟨.struct [(0,58),(1,59),(2,3),(3,3)],4,0,ae,[.nil,.nil,.int .i64 0,.int .i64 0]⟩),
 (62,⟨.slice 74,1,0,(.slice aa),[.nil]⟩),
 (63,⟨.slice 263,1,0,(.slice af),[.nil]⟩),
 (64,⟨.slice 266,1,0,(.slice ai),[.nil]⟩),
 (65,⟨.slice 258,1,0,(.slice au),[.nil]⟩),
 (66,⟨.struct [(0,61),(4,62),(5,29),(6,63),(7,64),(8,65)],9,0,T_Game,[.nil,.nil,.int .i64 0,.int .i64 0,.nil,.nil,.nil,.nil,.nil]⟩),
 (67,⟨.struct [(0,61),(4,62),(5,29),(6,63),(7,64),(8,65)],9,0,T_Game,[.nil,.nil,.int .i64 0,.int .i64 0,.nil,.nil,.nil,.nil,.nil]⟩),
 (68,⟨.struct [(0,3),(1,3),(2,3),(3,3),(4,3),(5,3),(6,3)],7,0,cn,[.int .i64 0,.int .i64 0,.int .i64 0,.int .i64 0,.int .i64 0,.int .i64 0,.int .i64 0]⟩),
 (69,⟨.struct [(0,3),(1,3)],2,0,bc,[.int .i64 0,.int .i64 0]⟩),
 (70,⟨.slice 106,1,0,(.slice ac),[.nil]⟩),
 (71,⟨.struct [(0,3),(1,3),(2,3),(3,3),(4,3),(5,4),(6,70)],7,0,bg,[.int .i64 0,.int .i64 0,.int .i64 0,.int .i64 0,.int .i64 0,.bool false,.nil]⟩),
 (72,⟨.struct [(0,3),(1,3),(2,3),(3,3),(4,3),(5,4),(6,70)],7,0,bg,[.int .i64 0,.int .i64 0,.int .i64 0,.int .i64 0,.int .i64 0,.bool false,.nil]⟩),
 (73,⟨.struct [(0,3),(1,3),(2,3),(3,3),(4,68),(11,69),(13,72),(20,3),(21,3)],22,0,aa,[.int .i64 0,.int .i64 0,.int .i64 0,.int .i64 0,.int .i64 0,.int .i64 0,.int .i64 0,.int .i64 0,.int .i64 0,.int .i64 0,.int .i64 0,.int .i64 0,.int .i64 0,.int .i64 0,.int .i64 0,.int .i64 0,.int .i64 0,.int .i64 0,.bool false,.nil,.int .i64 0,.int .i64 0]⟩),
 (74,⟨.struct [(0,3),(1,3),(2,3),(3,3),(4,68),(11,69),(13,72),(20,3),(21,3)],22,0,aa,[.int .i64 0,.int .i64 0,.int .i64 0,.int .i64 0,.int .i64 0,.int .i64 0,.int .i64 0,.int .i64 0,.int .i64 0,.int .i64 0,.int .i64 0,.int .i64 0,.int .i64 0,.int .i64 0,.int .i64 0,.int .i64 0,.int .i64 0,.int .i64 0,.bool false,.nil,.int .i64 0,.int .i64 0]⟩),
 (75,⟨.struct [(0,3),(1,74),(23,3),(24,70)],25,0,T_Order,[.int .i64 0,.int .i64 0,.int .i64 0,.int .i64 0,.int .i64 0,.int .i64 0,.int .i64 0,.int .i64 0,.int .i64 0,.int .i64 0,.int .i64 0,.int .i64 0,.int .i64 0,.int .i64 0,.int .i64 0,.int .i64 0,.int .i64 0,.int .i64 0,.int .i64 0,.bool false,.nil,.int .i64 0,.int .i64 0,.int .i64 0,.nil]⟩),
 (76,⟨.struct [(0,3),(1,74),(23,3),(24,70)],25,0,T_Order,[.int .i64 0,.int .i64 0,.int .i64 0,.int .i64 0,.int .i64 0,.int .i64 0,.int .i64 0,.int .i64 0,.int .i64 0,.int .i64 0,.int .i64 0,.int .i64 0,.int .i64 0,.int .i64 0,.int .i64 0,.int .i64 0,.int .i64 0,.int .i64 0,.int .i64 0,.bool false,.nil,.int .i64 0,.int .i64 0,.int .i64 0,.nil]⟩),
 (100,⟨.struct [(0,3),(1,3),(2,3),(3,3),(4,3),(5,3),(6,3),(7,3),(8,3),(9,3),(10,3),(11,4),(12,4)],13,0,ah,[.int .i64 0,.int .i64 0,.int .i64 0,.int .i64 0,.int .i64 0,.int .i64 0,.int .i64 0,.int .i64 0,.int .i64 0,.int .i64 0,.int .i64 0,.bool false,.bool false]⟩),
 (101,⟨.struct [(0,3),(1,3),(2,3),(3,3),(4,3),(5,3),(6,3),(7,3),(8,3),(9,3),(10,3),(11,4),(12,4)],13,0,ah,[.int .i64 0,.int .i64 0,.int .i64 0,.int .i64 0,.int .i64 0,.int .i64 0,.int .i64 0,.int .i64 0,.int .i64 0,.int .i64 0,.int .i64 0,.bool false,.bool false]⟩),
 (102,⟨.struct [(0,3),(1,3),(2,3),(3,101)],16,0,af,[.int .i64 0,.int .i64 0,.int .i64 0,.int .i64 0,.int .i64 0,.int .i64 0,.int .i64 0,.int .i64 0,.int .i64 0,.int .i64 0,.int .i64 0,.int .i64 0,.int .i64 0,.int .i64 0,.bool false,.bool false]⟩),
 (103,⟨.struct [(0,3),(1,3),(2,3),(3,101)],16,0,af,[.int .i64 0,.int .i64 0,.int .i64 0,.int .i64 0,.int .i64 0,.int .i64 0,.int .i64 0,.int .i64 0,.int .i64 0,.int .i64 0,.int .i64 0,.int .i64 0,.int .i64 0,.int .i64 0,.bool false,.bool false]⟩),
 (105,⟨.struct [(0,3),(1,3),(2,3),(3,3),(4,3),(5,3),(6,4)],7,0,ac,[.int .i64 0,.int .i64 0,.int .i64 0,.int .i64 0,.int .i64 0,.int .i64 0,.bool false]⟩),
 (106,⟨.struct [(0,3),(1,3),(2,3),(3,3),(4,3),(5,3),(6,4)],7,0,ac,[.int .i64 0,.int .i64 0,.int .i64 0,.int .i64 0,.int .i64 0,.int .i64 0,.bool false]⟩),
 (109,⟨.struct [(0,39),(1,28),(2,29),(3,32)],4,0,ba,[.nil,.nil,.nil,.nil]⟩),
 (110,⟨.struct [(0,39),(1,28),(2,29),(3,32)],4,0,ba,[.nil,.nil,.nil,.nil]⟩),
 (114,⟨.struct [(0,3),(1,3),(2,3),(3,3),(4,3),(5,3),(6,4)],7,0,ac,[.int .i64 0,.int .i64 0,.int .i64 0,.int .i64 0,.int .i64 0,.int .i64 0,.bool false]⟩),
 (156,⟨.other,1,0,.unit,[.undef]⟩),
 (158,⟨.struct [(0,3),(1,114),(8,3),(9,3),(10,101)],23,0,ai,[.int .i64 0,.int .i64 0,.int .i64 0,.int .i64 0,.int .i64 0,.int .i64 0,.int .i64 0,.bool false,.int .i64 0,.int .i64 0,.int .i64 0,.int .i64 0,.int .i64 0,.int .i64 0,.int .i64 0,.int .i64 0,.int .i64 0,.int .i64 0,.int .i64 0,.int .i64 0,.int .i64 0,.bool false,.bool false]⟩),
 (159,⟨.struct [(0,3),(1,114),(8,3),(9,3),(10,101)],23,0,ai,[.int .i64 0,.int .i64 0,.int .i64 0,.int .i64 0,.int .i64 0,.int .i64 0,.int .i64 0,.bool false,.int .i64 0,.int .i64 0,.int .i64 0,.int .i64 0,.int .i64 0,.int .i64 0,.int .i64 0,.int .i64 0,.int .i64 0,.int .i64 0,.int .i64 0,.int .i64 0,.int .i64 0,.bool false,.bool false]⟩),
 (161,⟨.struct [(0,3),(1,3),(2,3),(3,3),(4,114),(11,39),(12,3),(13,3)],14,0,au,[.int .i64 0,.int .i64 0,.int .i64 0,.int .i64 0,.int .i64 0,.int .i64 0,.int .i64 0,.int .i64 0,.int .i64 0,.int .i64 0,.bool false,.nil,.int .i64 0,.int .i64 0]⟩),
 (162,⟨.struct [(0,3),(1,3),(2,3),(3,3),(4,114),(11,39),(12,3),(13,3)],14,0,au,[.int .i64 0,.int .i64 0,.int .i64 0,.int .i64 0,.int .i64 0,.int .i64 0,.int .i64 0,.int .i64 0,.int .i64 0,.int .i64 0,.bool false,.nil,.int .i64 0,.int .i64 0]⟩),
 (166,⟨.other,1,0,.unit,[.undef]⟩),
 (190,⟨.other,1,0,.unit,[.undef]⟩),
 (191,⟨.struct [(0,27),(4,28),(5,29),(6,39),(7,32)],8,0,Pk,[.nil,.nil,.int .i64 0,.int .i64 0,.nil,.nil,.nil,.nil]⟩),
 (192,⟨.struct [(0,27),(4,28),(5,29),(6,39),(7,32)],8,0,Pk,[.nil,.nil,.int .i64 0,.int .i64 0,.nil,.nil,.nil,.nil]⟩),
 (193,⟨.other,1,0,.unit,[.undef]⟩),
 (197,⟨.other,1,0,.unit,[.undef]⟩),
 (198,⟨.other,1,0,.unit,[.undef]⟩),
 (200,⟨.struct [(0,27),(4,110),(8,198),(9,166)],10,0,.unit,[.nil,.nil,.int .i64 0,.int .i64 0,.nil,.nil,.nil,.nil,.undef,.undef]⟩),
 (221,⟨.other,1,0,.unit,[.undef]⟩),
 (223,⟨.struct [(0,3),(1,3),(2,4)],3,0,ar,[.int .i64 0,.int .i64 0,.bool false]⟩),
 (224,⟨.struct [(0,3),(1,3),(2,4)],3,0,ar,[.int .i64 0,.int .i64 0,.bool false]⟩),
 (226,⟨.other,1,0,.unit,[.undef]⟩),
 (227,⟨.other,1,0,.unit,[.undef]⟩),
 (257,⟨.struct [(0,3),(1,3),(2,3),(3,3),(4,106),(11,70),(12,3),(13,3)],14,0,au,[.int .i64 0,.int .i64 0,.int .i64 0,.int .i64 0,.int .i64 0,.int .i64 0,.int .i64 0,.int .i64 0,.int .i64 0,.int .i64 0,.bool false,.nil,.int .i64 0,.int .i64 0]⟩),
 (258,⟨.struct [(0,3),(1,3),(2,3),(3,3),(4,106),(11,70),(12,3),(13,3)],14,0,au,[.int .i64 0,.int .i64 0,.int .i64 0,.int .i64 0,.int .i64 0,.int .i64 0,.int .i64 0,.int .i64 0,.int .i64 0,.int .i64 0,.bool false,.nil,.int .i64 0,.int .i64 0]⟩),
 (261,⟨.struct [(0,3),(1,3),(2,3),(3,3),(4,3),(5,3),(6,3),(7,3),(8,3),(9,3),(10,3),(11,4),(12,4)],13,0,ah,[.int .i64 0,.int .i64 0,.int .i64 0,.int .i64 0,.int .i64 0,.int .i64 0,.int .i64 0,.int .i64 0,.int .i64 0,.int .i64 0,.int .i64 0,.bool false,.bool false]⟩),
 (262,⟨.struct [(0,3),(1,3),(2,3),(3,261)],16,0,af,[.int .i64 0,.int .i64 0,.int .i64 0,.int .i64 0,.int .i64 0,.int .i64 0,.int .i64 0,.int .i64 0,.int .i64 0,.int .i64 0,.int .i64 0,.int .i64 0,.int .i64 0,.int .i64 0,.bool false,.bool false]⟩),
 (263,⟨.struct [(0,3),(1,3),(2,3),(3,261)],16,0,af,[.int .i64 0,.int .i64 0,.int .i64 0,.int .i64 0,.int .i64 0,.int .i64 0,.int .i64 0,.int .i64 0,.int .i64 0,.int .i64 0,.int .i64 0,.int .i64 0,.int .i64 0,.int .i64 0,.bool false,.bool false]⟩),
 (265,⟨.struct [(0,3),(1,106),(8,3),(9,3),(10,261)],23,0,ai,[.int .i64 0,.int .i64 0,.int .i64 0,.int .i64 0,.int .i64 0,.int .i64 0,.int .i64 0,.bool false,.int .i64 0,.int .i64 0,.int .i64 0,.int .i64 0,.int .i64 0,.int .i64 0,.int .i64 0,.int .i64 0,.int .i64 0,.int .i64 0,.int .i64 0,.int .i64 0,.int .i64 0,.bool false,.bool false]⟩),
 (266,⟨.struct [(0,3),(1,106),(8,3),(9,3),(10,261)],23,0,ai,[.int .i64 0,.int .i64 0,.int .i64 0,.int .i64 0,.int .i64 0,.int .i64 0,.int .i64 0,.bool false,.int .i64 0,.int .i64 0,.int .i64 0,.int .i64 0,.int .i64 0,.int .i64 0,.int .i64 0,.int .i64 0,.int .i64 0,.int .i64 0,.int .i64 0,.int .i64 0,.int .i64 0,.bool false,.bool false]⟩),
 (289,⟨.struct [(0,3),(1,3),(2,4)],3,0,ar,[.int .i64 0,.int .i64 0,.bool false]⟩),
 (297,⟨.slice 39,1,0,(.slice (.slice ac)),[.nil]⟩),
 (299,⟨.slice 32,1,0,(.slice (.slice au)),[.nil]⟩),
 (315,⟨.other,1,0,.unit,[.undef]⟩),
 (319,⟨.slice 30,1,0,(.slice (.slice af)),[.nil]⟩),
 (320,⟨.slice 31,1,0,(.slice (.slice ai)),[.nil]⟩),
 (344,⟨.other,1,0,.unit,[.undef]⟩)]
def Ui:Tab:=[
 (3,⟨.int .i64,1,0,(.int .i64),[.int .i64 0]⟩),
 (4,⟨.bool,1,0,.bool,[.bool false]⟩),
 (24,⟨.slice 101,1,0,(.slice ah),[.nil]⟩),
 (25,⟨.slice 224,1,0,(.slice ar),[.nil]⟩),
 (26,⟨.struct [(0,24),(1,25),(2,3),(3,3)],4,0,ae,[.nil,.nil,.int .i64 0,.int .i64 0]⟩),
 (27,⟨.struct [(0,24),(1,25),(2,3),(3,3)],4,0,ae,[.nil,.nil,.int .i64 0,.int .i64 0]⟩),
 (28,⟨.slice 43,1,0,(.slice aa),[.nil]⟩),
 (29,⟨.slice 3,1,0,(.slice (.int .i64)),[.nil]⟩),
 (30,⟨.slice 103,1,0,(.slice af),[.nil]⟩),
 (31,⟨.slice 159,1,0,(.slice ai),[.nil]⟩),
 (32,⟨.slice 162,1,0,(.slice dU),[.nil]⟩),
 (33,⟨.struct [(0,27),(4,28),(5,29),(6,30),(7,31),(8,32)],9,0,Uz,[.nil,.nil,.int .i64 0,.int .i64 0,.nil,.nil,.nil,.nil,.nil]⟩),
 (34,⟨.struct [(0,27),(4,28),(5,29),(6,30),(7,31),(8,32)],9,0,Uz,[.nil,.nil,.int .i64 0,.int .i64 0,.nil,.nil,.nil,.nil,.nil]⟩),
 (35,⟨.struct [(0,3),(1,3),(2,3),(3,3),(4,3),(5,3),(6,3)],7,0,cn,[.int .i64 0,.int .i64 0,.int .i64 0,.int .i64 0,.int .i64 0,.int .i64 0,.int .i64 0]⟩),
 (36,⟨.struct [(0,3),(1,3),(2,3),(3,3),(4,3),(5,3),(6,3)],7,0,cn,[.int .i64 0,.int .i64 0,.int .i64 0,.int .i64 0,.int .i64 0,.int .i64 0,.int .i64 0]⟩),
 (37,⟨.struct [(0,3),(1,3)],2,0,bc,[.int .i64 0,.int .i64 0]⟩),
 (38,⟨.struct [(0,3),(1,3)],2,0,bc,[.int .i64 0,.int .i64 0]⟩),
 (39,⟨.slice 114,1,0,(.slice ac),[.nil]⟩),
 (40,⟨.struct [(0,3),(1,3),(2,3),(3,3),(4,3),(5,4),(6,39)],7,0,bg,[.int .i64 0,.int .i64 0,.int .i64 0,.int .i64 0,.int .i64 0,.bool false,.nil]⟩),
 (41,⟨.struct [(0,3),(1,3),(2,3),(3,3),(4,3),(5,4),(6,39)],7,0,bg,[.int .i64 0,.int .i64 0,.int .i64 0,.int .i64 0,.int .i64 0,.bool false,.nil]⟩),
 (42,⟨.struct [(0,3),(1,3),(2,3),(3,3),(4,36),(11,38),(13,41),(20,3),(21,3)],22,0,aa,[.int .i64 0,.int .i64 0,.int .i64 0,.int .i64 0,.int .i64 0,.int .i64 0,.int .i64 0,.int .i64 0,.int .i64 0,.int .i64 0,.int .i64 0,.int .i64 0,.int .i64 0,.int .i64 0,.int .i64 0,.int .i64 0,.int .i64 0,.int .i64 0,.bool false,.nil,.int .i64 0,.int .i64 0]⟩),
 (43,⟨.struct [(0,3),(1,3),(2,3),(3,3),(4,36),(11,38),(13,41),(20,3),(21,3)],22,0,aa,[.int .i64 0,.int .i64 0,.int .i64 0,.int .i64 0,.int .i64 0,.int .i64 0,.int .i64 0,.int .i64 0,.int .i64 0,.int .i64 0,.int .i64 0,.int .i64 0,.int .i64 0,.int .i64 0,.int .i64 0,.int .i64 0,.int .i64 0,.int .i64 0,.bool false,.nil,.int .i64 0,.int .i64 0]⟩),
 (44,⟨.struct [(0,3),(1,43),(23,3),(24,39)],25,0,T_Order,[.int .i64 0,.int .i64 0,.int .i64 0,.int .i64 0,.int .i64 0,.int .i64 0,.int .i64 0,.int .i64 0,.int .i64 0,.int .i64 0,.int .i64 0,.int .i64 0,.int .i64 0,.int .i64 0,.int .i64 0,.int .i64 0,.int .i64 0,.int .i64 0,.int .i64 0,.bool false,.nil,.int .i64 0,.int .i64 0,.int .i64 0,.nil]⟩),
 (45,⟨.struct [(0,3),(1,43),(23,3),(24,39)],25,0,T_Order,[.int .i64 0,.int .i64 0,.int .i64 0,.int .i64 0,.int .i64 0,.int .i64 0,.int .i64 0,.int .i64 0,.int .i64 0,.int .i64 0,.int .i64 0,.int .i64 0,.int .i64 0,.int .i64 0,.int .i64 0,.int .i64 0,.int .i64 0,.int .i64 0,.int .i64 0,.bool false,.nil,.int .i64 0,.int .i64 0,.int .i64 0,.nil]⟩),
 (58,⟨.slice 261,1,0,(.slice ah),[.nil]⟩),
 (59,⟨.slice 289,1,0,(.slice ar),[.nil]⟩),
 (60,⟨.struct [(0,58),(1,59),(2,3),(3,3)],4,0,ae,[.nil,.nil,.int .i64 0,.int .i64 0]⟩),
 (61,⟨.struct [(0,58),(1,59),(2,3),(3,3)],4,0,ae,[.nil,.nil,.int .i64 0,.int .i64 0]⟩),
 (62,⟨.slice 74,1,0,(.slice aa),[.nil]⟩),
 (63,⟨.slice 263,1,0,(.slice af),[.nil]⟩),
 (64,⟨.slice 266,1,0,(.slice ai),[.nil]⟩),
 (65,⟨.slice 258,1,0,(.slice au),[.nil]⟩),
 (66,⟨.struct [(0,61),(4,62),(5,29),(6,63),(7,64),(8,65)],9,0,T_Game,[.nil,.nil,.int .i64 0,.int .i64 0,.nil,.nil,.nil,.nil,.nil]⟩),
 (67,⟨.struct [(0,61),(4,62),(5,29),(6,63),(7,64),(8,65)],9,0,T_Game,[.nil,.nil,.int .i64 0,.int .i64 0,.nil,.nil,.nil,.nil,.nil]⟩),
 (68,⟨.struct [(0,3),(1,3),(2,3),(3,3),(4,3),(5,3),(6,3)],7,0,cn,[.int .i64 0,.int .i64 0,.int .i64 0,.int .i64 0,.int .i64 0,.int .i64 0,.int .i64 0]⟩),
 (69,⟨.struct [(0,3),(1,3)],2,0,bc,[.int .i64 0,.int .i64 0]⟩),
 (70,⟨.slice 106,1,0,(.slice ac),[.nil]⟩),
 (71,⟨.struct [(0,3),(1,3),(2,3),(3,3),(4,3),(5,4),(6,70)],7,0,bg,[.int .i64 0,.int .i64 0,.int .i64 0,.int .i64 0,.int .i64 0,.bool false,.nil]⟩),
 (72,⟨.struct [(0,3),(1,3),(2,3),(3,3),(4,3),(5,4),(6,70)],7,0,bg,[.int .i64 0,.int .i64 0,.int .i64 0,.int .i64 0,.int .i64 0,.bool false,.nil]⟩),
 (73,⟨.struct [(0,3),(1,3),(2,3),(3,3),(4,68),(11,69),(13,72),(20,3),(21,3)],22,0,aa,[.int .i64 0,.int .i64 0,.int .i64 0,.int .i64 0,.int .i64 0,.int .i64 0,.int .i64 0,.int .i64 0,.int .i64 0,.int .i64 0,.int .i64 0,.int .i64 0,.int .i64 0,.int .i64 0,.int .i64 0,.int .i64 0,.int .i64 0,.int .i64 0,.bool false,.nil,.int .i64 0,.int .i64 0]⟩),
 (74,⟨.struct [(0,3),(1,3),(2,3),(3,3),(4,68),(11,69),(13,72),(20,3),(21,3)],22,0,aa,[.int .i64 0,.int .i64 0,.int .i64 0,.int .i64 0,.int .i64 0,.int .i64 0,.int .i64 0,.int .i64 0,.int .i64 0,.int .i64 0,.int .i64 0,.int .i64 0,.int .i64 0,.int .i64 0,.int .i64 0,.int .i64 0,.int .i64 0,.int .i64 0,.bool false,.nil,.int .i64 0,.int .i64 0]⟩),
 (75,⟨.struct [(0,3),(1,74),(23,3),(24,70)],25,0,T_Order,[.int .i64 0,.int .i64 0,.int .i64 0,.int .i64 0,.int .i64 0,.int .i64 0,.int .i64 0,.int .i64 0,.int .i64 0,.int .i64 0,.int .i64 0,.int .i64 0,.int .i64 0,.int .i64 0,.int .i64 0,.int .i64 0,.int .i64 0,.int .i64 0,.int .i64 0,.bool false,.nil,.int .i64 0,.int .i64 0,.int .i64 0,.nil]⟩),
 (76,⟨.struct [(0,3),(1,74),(23,3),(24,70)],25,0,T_Order,[.int .i64 0,.int .i64 0,.int .i64 0,.int .i64 0,.int .i64 0,.int .i64 0,.int .i64 0,.int .i64 0,.int .i64 0,.int .i64 0,.int .i64 0,.int .i64 0,.int .i64 0,.int .i64 0,.int .i64 0,.int .i64 0,.int .i64 0,.int .i64 0,.int .i64 0,.bool false,.nil,.int .i64 0,.int .i64 0,.int .i64 0,.nil]⟩),
 (100,⟨.struct [(0,3),(1,3),(2,3),(3,3),(4,3),(5,3),(6,3),(7,3),(8,3),(9,3),(10,3),(11,4),(12,4)],13,0,ah,[.int .i64 0,.int .i64 0,.int .i64 0,.int .i64 0,.int .i64 0,.int .i64 0,.int .i64 0,.int .i64 0,.int .i64 0,.int .i64 0,.int .i64 0,.bool false,.bool false]⟩),
 (101,⟨.struct [(0,3),(1,3),(2,3),(3,3),(4,3),(5,3),(6,3),(7,3),(8,3),(9,3),(10,3),(11,4),(12,4)],13,0,ah,[.int .i64 0,.int .i64 0,.int .i64 0,.int .i64 0,.int .i64 0,.int .i64 0,.int .i64 0,.int .i64 0,.int .i64 0,.int .i64 0,.int .i64 0,.bool false,.bool false]⟩),
 (102,⟨.struct [(0,3),(1,3),(2,3),(3,101)],16,0,af,[.int .i64 0,.int .i64 0,.int .i64 0,.int .i64 0,.int .i64 0,.int .i64 0,.int .i64 0,.int .i64 0,.int .i64 0,.int .i64 0,.int .i64 0,.int .i64 0,.int .i64 0,.int .i64 0,.bool false,.bool false]⟩),
 (103,⟨.struct [(0,3),(1,3),(2,3),(3,101)],16,0,af,[.int .i64 0,.int .i64 0,.int .i64 0,.int .i64 0,.int .i64 0,.int .i64 0,.int .i64 0,.int .i64 0,.int .i64 0,.int .i64 0,.int .i64 0,.int .i64 0,.int .i64 0,.int .i64 0,.bool false,.bool false]⟩),
 (105,⟨.struct [(0,3),(1,3),(2,3),(3,3),(4,3),(5,3),(6,4)],7,0,ac,[.int .i64 0,.int .i64 0,.int .i64 0,.int .i64 0,.int .i64 0,.int .i64 0,.bool false]⟩),
 (106,⟨.struct [(0,3),(1,3),(2,3),(3,3),(4,3),(5,3),(6,4)],7,0,ac,[.int .i64 0,.int .i64 0,.int .i64 0,.int .i64 0,.int .i64 0,.int .i64 0,.bool false]⟩),
 (109,⟨.struct [(0,39),(1,28),(2,29),(3,32)],4,0,vE,[.nil,.nil,.nil,.nil]⟩),
 (110,⟨.struct [(0,39),(1,28),(2,29),(3,32)],4,0,vE,[.nil,.nil,.nil,.nil]⟩),
 (114,⟨.struct [(0,3),(1,3),(2,3),(3,3),(4,3),(5,3),(6,4)],7,0,ac,[.int .i64 0,.int .i64 0,.int .i64 0,.int .i64 0,.int .i64 0,.int .i64 0,.bool false]⟩),
 (156,⟨.other,1,0,.unit,[.undef]⟩),
 (158,⟨.struct [(0,3),(1,114),(8,3),(9,3),(10,101)],23,0,ai,[.int .i64 0,.int .i64 0,.int .i64 0,.int .i64 0,.int .i64 0,.int .i64 0,.int .i64 0,.bool false,.int .i64 0,.int .i64 0,.int .i64 0,.int .i64 0,.int .i64 0,.int .i64 0,.int .i64 0,.int .i64 0,.int .i64 0,.int .i64 0,.int .i64 0,.int .i64 0,.int .i64 0,.bool false,.bool false]⟩),
 (159,⟨.struct [(0,3),(1,114),(8,3),(9,3),(10,101)],23,0,ai,[.int .i64 0,.int .i64 0,.int .i64 0,.int .i64 0,.int .i64 0,.int .i64 0,.int .i64 0,.bool false,.int .i64 0,.int .i64 0,.int .i64 0,.int .i64 0,.int .i64 0,.int .i64 0,.int .i64 0,.int .i64 0,.int .i64 0,.int .i64 0,.int .i64 0,.int .i64 0,.int .i64 0,.bool false,.bool false]⟩),
 (161,⟨.struct [(0,3),(1,3),(2,3),(3,3),(4,114),(11,39),(12,3),(13,3)],14,0,au,[.int .i64 0,.int .i64 0,.int .i64 0,.int .i64 0,.int .i64 0,.int .i64 0,.int .i64 0,.int .i64 0,.int .i64 0,.int .i64 0,.bool false,.nil,.int .i64 0,.int .i64 0]⟩),
 (162,⟨.struct [(0,3),(1,3),(2,3),(3,3),(4,114),(11,39),(12,3),(13,3)],14,0,dU,[.int .i64 0,.int .i64 0,.int .i64 0,.int .i64 0,.int .i64 0,.int .i64 0,.int .i64 0,.int .i64 0,.int .i64 0,.int .i64 0,.bool false,.nil,.int .i64 0,.int .i64 0]⟩),
 (166,⟨.other,1,0,.unit,[.undef]⟩),
 (190,⟨.other,1,0,.unit,[.undef]⟩),
 (191,⟨.struct [(0,27),(4,28),(5,29),(6,39),(7,32)],8,0,Tw,[.nil,.nil,.int .i64 0,.int .i64 0,.nil,.nil,.nil,.nil]⟩),
 (192,⟨.struct [(0,27),(4,28),(5,29),(6,39),(7,32)],8,0,Tw,[.nil,.nil,.int .i64 0,.int .i64 0,.nil,.nil,.nil,.nil]⟩),
 (193,⟨.other,1,0,.unit,[.undef]⟩),
 (197,⟨.other,1,0,.unit,[.undef]⟩),
 (198,⟨.other,1,0,.unit,[.undef]⟩),
 (200,⟨.struct [(0,27),(4,110),(8,198),(9,166)],10,0,.unit,[.nil,.nil,.int .i64 0,.int .i64 0,.nil,.nil,.nil,.nil,.undef,.undef]⟩),
 (221,⟨.other,1,0,.unit,[.undef]⟩),
 (223,⟨.struct [(0,3),(1,3),(2,4)],3,0,ar,[.int .i64 0,.int .i64 0,.bool false]⟩),
 (224,⟨.struct [(0,3),(1,3),(2,4)],3,0,ar,[.int .i64 0,.int .i64 0,.bool false]⟩),
 (226,⟨.other,1,0,.unit,[.undef]⟩),
 (227,⟨.other,1,0,.unit,[.undef]⟩),
 (257,⟨.struct [(0,3),(1,3),(2,3),(3,3),(4,106),(11,70),(12,3),(13,3)],14,0,au,[.int .i64 0,.int .i64 0,.int .i64 0,.int .i64 0,.int .i64 0,.int .i64 0,.int .i64 0,.int .i64 0,.int .i64 0,.int .i64 0,.bool false,.nil,.int .i64 0,.int .i64 0]⟩),
 (258,⟨.struct [(0,3),(1,3),(2,3),(3,3),(4,106),(11,70),(12,3),(13,3)],14,0,au,[.int .i64 0,.int .i64 0,.int .i64 0,.int .i64 0,.int .i64 0,.int .i64 0,.int .i64 0,.int .i64 0,.int .i64 0,.int .i64 0,.bool false,.nil,.int .i64 0,.int .i64 0]⟩),
 (261,⟨.struct [(0,3),(1,3),(2,3),(3,3),(4,3),(5,3),(6,3),(7,3),(8,3),(9,3),(10,3),(11,4),(12,4)],13,0,ah,[.int .i64 0,.int .i64 0,.int .i64 0,.int .i64 0,.int .i64 0,.int .i64 0,.int .i64 0,.int .i64 0,.int .i64 0,.int .i64 0,.int .i64 0,.bool false,.bool false]⟩),
 (262,⟨.struct [(0,3),(1,3),(2,3),(3,261)],16,0,af,[.int .i64 0,.int .i64 0,.int .i64 0,.int .i64 0,.int .i64 0,.int .i64 0,.int .i64 0,.int .i64 0,.int .i64 0,.int .i64 0,.int .i64 0,.int .i64 0,.int .i64 0,.int .i64 0,.bool false,.bool false]⟩),
 (263,⟨.struct [(0,3),(1,3),(2,3),(3,261)],16,0,af,[.int .i64 0,.int .i64 0,.int .i64 0,.int .i64 0,.int .i64 0,.int .i64 0,.int .i64 0,.int .i64 0,.int .i64 0,.int .i64 0,.int .i64 0,.int .i64 0,.int .i64 0,.int .i64 0,.bool false,.bool false]⟩),
 (265,⟨.struct [(0,3),(1,106),(8,3),(9,3),(10,261)],23,0,ai,[.int .i64 0,.int .i64 0,.int .i64 0,.int .i64 0,.int .i64 0,.int .i64 0,.int .i64 0,.bool false,.int .i64 0,.int .i64 0,.int .i64 0,.int .i64 0,.int .i64 0,.int .i64 0,.int .i64 0,.int .i64 0,.int .i64 0,.int .i64 0,.int .i64 0,.int .i64 0,.int .i64 0,.bool false,.bool false]⟩),
 (266,⟨.struct [(0,3),(1,106),(8,3),(9,3),(10,261)],23,0,ai,[.int .i64 0,.int .i64 0,.int .i64 0,.int .i64 0,.int .i64 0,.int .i64 0,.int .i64 0,.bool false,.int .i64 0,.int .i64 0,.int .i64 0,.int .i64 0,.int .i64 0,.int .i64 0,.int .i64 0,.int .i64 0,.int .i64 0,.int .i64 0,.int .i64 0,.int .i64 0,.int .i64 0,.bool false,.bool false]⟩),
 (289,⟨.struct [(0,3),(1,3),(2,4)],3,0,ar,[.int .i64 0,.int .i64 0,.bool false]⟩),
 (297,⟨.slice 39,1,0,(.slice (.slice ac)),[.nil]⟩),
 (299,⟨.slice 32,1,0,(.slice (.slice dU)),[.nil]⟩),
 (315,⟨.other,1,0,.unit,[.undef]⟩),
 (319,⟨.slice 30,1,0,(.slice (.slice af)),[.nil]⟩),
 (320,⟨.slice 31,1,0,(.slice (.slice ai)),[.nil]⟩),
 (344,⟨.other,1,0,.unit,[.undef]⟩)]
theorem QK:fS Tryz.prog Ui:=HJ (by kernel_rfl)
theorem sM:fS Tryz.prog tab:=HJ (by kernel_rfl)
theorem mixed:Tryz.prog.follows .mixedOrders=true:=by kernel_rfl
abbrev KC (f:Nat) (c:Ct):Prop:=fB Tryz.prog f c
theorem En:aE Tryz.prog { T:=tab,G:=[] }:=aE.nil sM
theorem Ec {f:Nat} {ct:Ct} {G:List (Nat×Ct)} (h:fB Tryz.prog f ct) (hE:aE Tryz.prog { T:=tab,G:=G }):aE Tryz.prog { T:=tab,G:=(f,ct) :: G }:=aE.cons h hE
theorem pq {G:List (Nat×Ct)} (hE:aE Tryz.prog { T:=tab,G:=G }) {f:Nat} {fn:Func} {one fr:Bool} {a r:Ty} {F:a.D→Option r.D} (hs:Hints) (hf:Tryz.prog.funcs[f]?=some fn) (hok:yf fn one (gm a)=true:=by kernel_rfl)
  (hev:∀ x,ev { T:=tab,G:=G } (fY fn) hs (iD (kO a x) fn.ntmps) (Gc tab one fr fn.results.toList r)=F x:=by (intro x;kernel_rfl)):KC f (.pure one fr a r F):=vD hE mixed one fr a r F hs hf hok hev
theorem cq {G:List (Nat×Ct)} (hE:aE Tryz.prog { T:=tab,G:=G }) {f:Nat} {fn:Func} {a c r:Ty} {F:c.D→a.D→Option r.D} (hs:Hints) (hf:Tryz.prog.funcs[f]?=some fn) (hok:(yf fn true (gm a + gm c) && r.flat)=true:=by kernel_rfl)
  (hev:∀ z x,ev { T:=tab,G:=G } (fY fn) hs (iD (kO a x++vq c z) fn.ntmps) (Gc tab true false fn.results.toList r)=F z x:=by (intro z x;kernel_rfl)):KC f (.clo a c r F):=UT hE mixed a c r F hs hf hok hev
theorem mq {G:List (Nat×Ct)} (hE:aE Tryz.prog { T:=tab,G:=G }) {f:Nat} {fn:Func} {ms:List Md} {one fr:Bool} {a r:Ty} {F:a.D→Option (r.D×(fQ ms a).D)} (hs:Hints) (hf:Tryz.prog.funcs[f]?=some fn) (hok:(ME fn one ms && (fr || xN ms))=true:=by kernel_rfl)
  (hev:∀ x,(jw ms a x 0 (fE ms a x fn.ntmps) fun st=>ev { T:=tab,G:=G } (fY fn) hs st (Ub tab ms a one fr fn.results.toList r))=F x:=by (intro x;kernel_rfl)):KC f (.mut ms one fr a r F):=Nq hE mixed ms one fr a r F hs hf hok hev
def Uj:Tab:=[
 (3,⟨.int .i64,1,0,(.int .i64),[.int .i64 0]⟩),
 (4,⟨.bool,1,0,.bool,[.bool false]⟩),
 (28,⟨.slice 43,1,0,(.slice aT),[.nil]⟩),
 (35,⟨.struct [(0,3),(1,3),(2,3),(3,3),(4,3),(5,3),(6,3)],7,0,cn,[.int .i64 0,.int .i64 0,.int .i64 0,.int .i64 0,.int .i64 0,.int .i64 0,.int .i64 0]⟩),
 (36,⟨.struct [(0,3),(1,3),(2,3),(3,3),(4,3),(5,3),(6,3)],7,0,cn,[.int .i64 0,.int .i64 0,.int .i64 0,.int .i64 0,.int .i64 0,.int .i64 0,.int .i64 0]⟩),
 (37,⟨.struct [(0,3),(1,3)],2,0,bc,[.int .i64 0,.int .i64 0]⟩),
 (38,⟨.struct [(0,3),(1,3)],2,0,bc,[.int .i64 0,.int .i64 0]⟩),
 (39,⟨.slice 114,1,0,(.slice ac),[.nil]⟩),
 (40,⟨.struct [(0,3),(1,3),(2,3),(3,3),(4,3),(5,4),(6,39)],7,0,bg,[.int .i64 0,.int .i64 0,.int .i64 0,.int .i64 0,.int .i64 0,.bool false,.nil]⟩),
 (41,⟨.struct [(0,3),(1,3),(2,3),(3,3),(4,3),(5,4),(6,39)],7,0,Tv,[.int .i64 0,.int .i64 0,.int .i64 0,.int .i64 0,.int .i64 0,.bool false,.nil]⟩),
 (42,⟨.struct [(0,3),(1,3),(2,3),(3,3),(4,36),(11,38),(13,41),(20,3),(21,3)],22,0,aT,[.int .i64 0,.int .i64 0,.int .i64 0,.int .i64 0,.int .i64 0,.int .i64 0,.int .i64 0,.int .i64 0,.int .i64 0,.int .i64 0,.int .i64 0,.int .i64 0,.int .i64 0,.int .i64 0,.int .i64 0,.int .i64 0,.int .i64 0,.int .i64 0,.bool false,.nil,.int .i64 0,.int .i64 0]⟩),
 (43,⟨.struct [(0,3),(1,3),(2,3),(3,3),(4,36),(11,38),(13,41),(20,3),(21,3)],22,0,aT,[.int .i64 0,.int .i64 0,.int .i64 0,.int .i64 0,.int .i64 0,.int .i64 0,.int .i64 0,.int .i64 0,.int .i64 0,.int .i64 0,.int .i64 0,.int .i64 0,.int .i64 0,.int .i64 0,.int .i64 0,.int .i64 0,.int .i64 0,.int .i64 0,.bool false,.nil,.int .i64 0,.int .i64 0]⟩),
 (105,⟨.struct [(0,3),(1,3),(2,3),(3,3),(4,3),(5,3),(6,4)],7,0,ac,[.int .i64 0,.int .i64 0,.int .i64 0,.int .i64 0,.int .i64 0,.int .i64 0,.bool false]⟩),
 (114,⟨.struct [(0,3),(1,3),(2,3),(3,3),(4,3),(5,3),(6,4)],7,0,ac,[.int .i64 0,.int .i64 0,.int .i64 0,.int .i64 0,.int .i64 0,.int .i64 0,.bool false]⟩),
 (227,⟨.other,1,0,.unit,[.undef]⟩)]
theorem QL:fS Tryz.prog Uj:=HJ (by kernel_rfl)
def cZ (a0:(List aT.D)) (a1:Int) (a2:Int):Option ((List aT.D)×Unit) :=
 if 0≤a1 then (if a1≤a2 then (if a2≤(a0.length:Int) then (
 if a2≤(a0.length:Int) then (if (a0.length:Int)≤(a0.length:Int) then (
 bif (a1 == a2) then (
 some (a0,()))
 else (
 if 0≤(0:Int) then (if (0:Int)≤a1 then (if a1≤(a0.length:Int) then (
 if 0≤a2 then (if a2≤(a0.length:Int) then (if (a0.length:Int)≤(a0.length:Int) then (
 if a2.toNat≤(a0.length:Int).toNat then (if a1.toNat + ((a0.length:Int).toNat - a2.toNat)≤a0.length then (
 let u1:(List aT.D):=a0.take (a1.toNat)++(a0.take ((a0.length:Int).toNat)).drop (a2.toNat)++a0.drop (a1.toNat + ((a0.length:Int).toNat - a2.toNat))
 if 0≤((a1.toNat + ((a0.length:Int).toNat - a2.toNat) - 0:Nat):Int) then (if ((a1.toNat + ((a0.length:Int).toNat - a2.toNat) - 0:Nat):Int)≤(a0.length:Int) then (if (a0.length:Int)≤(u1.length:Int) then (
 some ((((u1.take (((a1.toNat + ((a0.length:Int).toNat - a2.toNat) - 0:Nat):Int).toNat)++List.replicate ((a0.length:Int).toNat - ((a1.toNat + ((a0.length:Int).toNat - a2.toNat) - 0:Nat):Int).toNat) (0,0,0,0,(0,0,0,0,0,0,0,()),(0,0,()),(0,0,0,0,0,false,(none,0,0),()),0,0,())++u1.drop ((a0.length:Int).toNat)).take (a1.toNat + ((a0.length:Int).toNat - a2.toNat))).drop (0)),())) else none) else none) else none) else none) else none) else none) else none) else none) else none) else none) else none)) else none) else none) else none) else none) else none
def kR:Ct:=.mut [.tk,.rd,.rd] true true (.pair (.slice aT) (.pair (.int .i64) (.pair (.int .i64) .unit))) (.slice aT) (fun x=>cZ x.1 x.2.1 x.2.2.1)
theorem jG:fB Tryz.prog 212 kR:=Nq (E:={ T:=Uj,G:=[] }) (aE.nil QL) mixed (fn:=Tryz.f212) _ _ _ _ _ _ .none Tryz.func212 (by kernel_rfl) (fun x=>by kernel_rfl)
def bT (a0:(List aT.D)) (a1:((aT.D×Unit)→Option Bool)):Int→Option (Int⊕(Int⊕Int)):=fun s1 =>
 bif decide (s1 < (a0.length:Int)) then (
 idx a0 s1 fun x2 =>
(a1 (x2,())).bind fun y3 =>
 bif y3 then (
 some (.inr (.inr s1)))
 else (
 some (.inl (IntKind.wrap .i64 (s1 + 1)))))
 else (
 some (.inr (.inl s1)))
def cy (a0:(List aT.D)) (a1:((aT.D×Unit)→Option Bool)):Option Int :=
(al (bT a0 a1) 0).bind fun o4 =>
 match o4 with
| .inl s5=>(
 some (-1))
| .inr o6=>(
 some o6)
def m7:Hints:=(n0 (nd (n0 (nd (.node none (some ⟨[.tmp 8 (.int .i64)],[some 0],some [.tmp 4 (.int .i64)],[]⟩) .none .none) .none)) .none))
def fK:Ct:=.pure true false (.pair (.slice aT) (.pair (.fn (.pair aT .unit) .bool) .unit)) (.int .i64) (fun x=>cy x.1 x.2.1)
theorem lS:fB Tryz.prog 207 fK:=vD (E:={ T:=Uj,G:=[] }) (aE.nil QL) mixed (fn:=Tryz.f207) _ _ _ _ _ m7 Tryz.func207 (by kernel_rfl) (fun x=>by kernel_rfl)
def bq (a1:((aT.D×Unit)→Option Bool)):((List aT.D)×(Int×Int))→Option (((List aT.D)×(Int×Int))⊕((List aT.D)×(Int×Int))):=fun s3 =>
 bif decide (s3.2.2 < (s3.1.length:Int)) then (
 idx s3.1 s3.2.2 fun _ =>
(s3.1[(s3.2.2:Int).toNat]?).bind fun x4 =>
(a1 (x4,())).bind fun y5 =>
((bif (!y5) then (
 idx s3.1 s3.2.1 fun _ =>
(s3.1[(s3.2.1:Int).toNat]?).bind fun x6 =>
 let u7:(List aT.D):=s3.1.set (s3.2.1:Int).toNat x4
 some (u7,IntKind.wrap .i64 (s3.2.1 + 1)))
 else (
 some (s3.1,s3.2.1))):Option ((List aT.D)×Int)).bind fun o8 =>
 some (.inl (o8.1,o8.2,IntKind.wrap .i64 (s3.2.2 + 1))))
 else (
 some (.inr s3))
def cj (a0:(List aT.D)) (a1:((aT.D×Unit)→Option Bool)):Option ((List aT.D)×Unit) :=
(cy a0 a1).bind fun y1 =>
 bif (y1 == (-1)) then (
 some (a0,()))
 else (
(al (bq a1) (a0,y1,IntKind.wrap .i64 (y1 + 1))).bind fun o9 =>
 if 0≤o9.2.1 then (if o9.2.1≤(o9.1.length:Int) then (if (o9.1.length:Int)≤(o9.1.length:Int) then (
 if 0≤(0:Int) then (if (0:Int)≤o9.2.1 then (if o9.2.1≤((o9.1.take (o9.2.1.toNat)++List.replicate ((o9.1.length:Int).toNat - o9.2.1.toNat) (0,0,0,0,(0,0,0,0,0,0,0,()),(0,0,()),(0,0,0,0,0,false,(none,0,0),()),0,0,())++o9.1.drop ((o9.1.length:Int).toNat)).length:Int) then (
 some ((((o9.1.take (o9.2.1.toNat)++List.replicate ((o9.1.length:Int).toNat - o9.2.1.toNat) (0,0,0,0,(0,0,0,0,0,0,0,()),(0,0,()),(0,0,0,0,0,false,(none,0,0),()),0,0,())++o9.1.drop ((o9.1.length:Int).toNat)).take (o9.2.1.toNat)).drop ((0:Int).toNat)),())) else none) else none) else none) else none) else none) else none)
def lT:Hints:=(n0 (n0 (n0 (nd (n0 (nd (.node none (some ⟨[.tmpO 0 1 (.slice aT),.tmp 5 (.int .i64),.tmp 6 (.int .i64)],[some 0],none,[]⟩) (n0 (nd (nd (n0 (n0 (cu ⟨[.tmpO 0 2 (.slice aT),.tmp 5 (.int .i64)],[none],none,[(0,1)]⟩))) .none) .none)) .none) .none)) .none))))
def iF:Ct:=.mut [.tk,.rd] true true (.pair (.slice aT) (.pair (.fn (.pair aT .unit) .bool) .unit)) (.slice aT) (fun x=>cj x.1 x.2.1)
theorem iq:fB Tryz.prog 219 iF:=Nq (E:={ T:=Uj,G:=[(207,fK)] }) (aE.cons lS (aE.nil QL)) mixed (fn:=Tryz.f219) _ _ _ _ _ _ lT Tryz.func219 (by kernel_rfl) (fun x=>by kernel_rfl)
def jH (a0:(List ah.D)) (a1:Int):Option Int :=
 bif decide ((IntKind.wrap .i64 (a1 - (a0.length:Int))) < 0) then (
 some (-1))
 else (
 some (IntKind.wrap .i64 (a1 - (a0.length:Int))))
def Ge:Ct:=.pure true false (.pair (.slice ah) (.pair (.int .i64) .unit)) (.int .i64) (fun x=>jH x.1 x.2.1)
theorem EE:KC 156 Ge:=pq En .none Tryz.func156
def lU (a0:(List ar.D)) (a1:Int):Option Int :=
 bif decide ((IntKind.wrap .i64 (a1 - (a0.length:Int))) < 0) then (
 some (-1))
 else (
 some (IntKind.wrap .i64 (a1 - (a0.length:Int))))
def Ix:Ct:=.pure true false (.pair (.slice ar) (.pair (.int .i64) .unit)) (.int .i64) (fun x=>lU x.1 x.2.1)
theorem Gf:KC 157 Ix:=pq En .none Tryz.func157
def qi (a0:ae.D) (a1:Int):Option Int :=
(jH a0.1 a1).bind fun y1 =>
 bif decide (y1 < 0) then (
 some (-1))
 else (
(lU a0.2.1 y1).bind fun y2 =>
 bif decide (y2 < 0) then (
 some (-1))
 else (
 some y2))
def Iy:Ct:=.pure true false (.pair ae (.pair (.int .i64) .unit)) (.int .i64) (fun x=>qi x.1 x.2.1)
theorem Gg:KC 45 Iy:=pq (Ec EE (Ec Gf En)) .none Tryz.func45
def fG (a0:(List ac.D)) (a1:Int):Option Int :=
 bif decide ((IntKind.wrap .i64 (a1 - (a0.length:Int))) < 0) then (
 some (-1))
 else (
 some (IntKind.wrap .i64 (a1 - (a0.length:Int))))
def Gh:Ct:=.pure true false (.pair (.slice ac) (.pair (.int .i64) .unit)) (.int .i64) (fun x=>fG x.1 x.2.1)
theorem nF:KC 62 Gh:=pq En .none Tryz.func62
def vF (a0:bg.D) (a1:Int):Option Int :=
(fG a0.2.2.2.2.2.2.1 a1).bind fun y1 =>
 bif decide (y1 < 0) then (
 some (-1))
 else (
 some y1)
def Nu:Ct:=.pure true false (.pair bg (.pair (.int .i64) .unit)) (.int .i64) (fun x=>vF x.1 x.2.1)
theorem KV:KC 245 Nu:=pq (Ec nF En) .none Tryz.func245
def gW (a0:aa.D) (a1:Int):Option Int :=
(vF a0.2.2.2.2.2.2.1 a1).bind fun y1 =>
 bif decide (y1 < 0) then (
 some (-1))
 else (
 some y1)
def Gi:Ct:=.pure true false (.pair aa (.pair (.int .i64) .unit)) (.int .i64) (fun x=>gW x.1 x.2.1)
theorem uo:KC 127 Gi:=pq (Ec KV En) .none Tryz.func127
def sN (a0:(List aa.D)):(Int×Int)→Option ((Int×Int)⊕((Int×Int)⊕Int)):=fun s1 =>
 bif decide (s1.2 < (a0.length:Int)) then (
 idx a0 s1.2 fun x2 =>
(gW x2 s1.1).bind fun y3 =>
 bif decide (y3 < 0) then (
 some (.inr (.inr (-1))))
 else (
 some (.inl (y3,IntKind.wrap .i64 (s1.2 + 1)))))
 else (
 some (.inr (.inl s1)))
def lV (a0:(List aa.D)) (a1:Int):Option Int :=
 bif decide ((IntKind.wrap .i64 (a1 - (a0.length:Int))) < 0) then (
 some (-1))
 else (
(al (sN a0) (IntKind.wrap .i64 (a1 - (a0.length:Int)),0)).bind fun o4 =>
 match o4 with
| .inl s5=>(
 some s5.1)
| .inr o6=>(
 some o6))
def EF:Hints:=(n0 (n0 (n0 (nd (n0 (nd (.node none (some ⟨[.tmp 1 (.int .i64),.tmp 5 (.int .i64)],[some 0],some [.tmp 4 (.int .i64)],[]⟩) .none .none) .none)) .none))))
def EG:Ct:=.pure true false (.pair (.slice aa) (.pair (.int .i64) .unit)) (.int .i64) (fun x=>lV x.1 x.2.1)
theorem CQ:KC 46 EG:=pq (Ec uo En) EF Tryz.func46
def oU (a0:(List Int)) (a1:Int):Option Int :=
 bif decide ((IntKind.wrap .i64 (a1 - (a0.length:Int))) < 0) then (
 some (-1))
 else (
 some (IntKind.wrap .i64 (a1 - (a0.length:Int))))
def KW:Ct:=.pure true false (.pair (.slice (.int .i64)) (.pair (.int .i64) .unit)) (.int .i64) (fun x=>oU x.1 x.2.1)
theorem Iz:KC 123 KW:=pq En .none Tryz.func123
def gP (a0:(List af.D)) (a1:Int):Option Int :=
 bif decide ((IntKind.wrap .i64 (a1 - (a0.length:Int))) < 0) then (
 some (-1))
 else (
 some (IntKind.wrap .i64 (a1 - (a0.length:Int))))
def CR:Ct:=.pure true false (.pair (.slice af) (.pair (.int .i64) .unit)) (.int .i64) (fun x=>gP x.1 x.2.1)
theorem Bi:KC 124 CR:=pq En .none Tryz.func124
def lW (a0:(List ai.D)) (a1:Int):Option Int :=
 bif decide ((IntKind.wrap .i64 (a1 - (a0.length:Int))) < 0) then (
 some (-1))
 else (
 some (IntKind.wrap .i64 (a1 - (a0.length:Int))))
def IA:Ct:=.pure true false (.pair (.slice ai) (.pair (.int .i64) .unit)) (.int .i64) (fun x=>lW x.1 x.2.1)
theorem Gj:KC 125 IA:=pq En .none Tryz.func125
def li (a0:au.D) (a1:Int):Option Int :=
(fG a0.2.2.2.2.2.1 a1).bind fun y1 =>
 bif decide (y1 < 0) then (
 some (-1))
 else (
 some y1)
def KX:Ct:=.pure true false (.pair au (.pair (.int .i64) .unit)) (.int .i64) (fun x=>li x.1 x.2.1)
theorem IB:KC 244 KX:=pq (Ec nF En) .none Tryz.func244
def pN (a0:(List au.D)):(Int×Int)→Option ((Int×Int)⊕((Int×Int)⊕Int)):=fun s1 =>
 bif decide (s1.2 < (a0.length:Int)) then (
 idx a0 s1.2 fun x2 =>
(li x2 s1.1).bind fun y3 =>
 bif decide (y3 < 0) then (
 some (.inr (.inr (-1))))
 else (
 some (.inl (y3,IntKind.wrap .i64 (s1.2 + 1)))))
 else (
 some (.inr (.inl s1)))
def lX (a0:(List au.D)) (a1:Int):Option Int :=
 bif decide ((IntKind.wrap .i64 (a1 - (a0.length:Int))) < 0) then (
 some (-1))
 else (
(al (pN a0) (IntKind.wrap .i64 (a1 - (a0.length:Int)),0)).bind fun o4 =>
 match o4 with
| .inl s5=>(
 some s5.1)
| .inr o6=>(
 some o6))
def IC:Hints:=(n0 (n0 (n0 (nd (n0 (nd (.node none (some ⟨[.tmp 1 (.int .i64),.tmp 5 (.int .i64)],[some 0],some [.tmp 4 (.int .i64)],[]⟩) .none .none) .none)) .none))))
def ID:Ct:=.pure true false (.pair (.slice au) (.pair (.int .i64) .unit)) (.int .i64) (fun x=>lX x.1 x.2.1)
theorem Gk:KC 126 ID:=pq (Ec IB En) IC Tryz.func126
def iG (a0:T_Game.D) (a1:Int):Option Int :=
(qi a0.1 a1).bind fun y1 =>
 bif decide (y1 < 0) then (
 some (-1))
 else (
(lV a0.2.1 y1).bind fun y2 =>
 bif decide (y2 < 0) then (
 some (-1))
 else (
(oU a0.2.2.1 y2).bind fun y3 =>
 bif decide (y3 < 0) then (
 some (-1))
 else (
(gP a0.2.2.2.1 y3).bind fun y4 =>
 bif decide (y4 < 0) then (
 some (-1))
 else (
(lW a0.2.2.2.2.1 y4).bind fun y5 =>
 bif decide (y5 < 0) then (
 some (-1))
 else (
(lX a0.2.2.2.2.2.1 y5).bind fun y6 =>
 bif decide (y6 < 0) then (
 some (-1))
 else (
 some y6))))))
def KY:Ct:=.pure true false (.pair T_Game (.pair (.int .i64) .unit)) (.int .i64) (fun x=>iG x.1 x.2.1)
theorem IE:KC 23 KY:=pq (Ec Gg (Ec CQ (Ec Iz (Ec Bi (Ec Gj (Ec Gk En)))))) .none Tryz.func23
def qj (a0:T_Order.D) (a1:Int):Option Int :=
(gW a0.2.1 a1).bind fun y1 =>
 bif decide (y1 < 0) then (
 some (-1))
 else (
(fG a0.2.2.2.1 y1).bind fun y2 =>
 bif decide (y2 < 0) then (
 some (-1))
 else (
 some y2))
def IF:Ct:=.pure true false (.pair T_Order (.pair (.int .i64) .unit)) (.int .i64) (fun x=>qj x.1 x.2.1)
theorem Gl:KC 24 IF:=pq (Ec nF (Ec uo En)) .none Tryz.func24
def gr (a0:ah.D):Option ah.D :=
 some a0
def IG:Ct:=.pure true false (.pair ah .unit) ah (fun x=>gr x.1)
theorem pO:KC 272 IG:=pq En .none Tryz.func272
def uq (a0:(List ah.D)):((List ah.D)×Int)→Option (((List ah.D)×Int)⊕((List ah.D)×Int)):=fun s2 =>
 bif decide (s2.2 < (a0.length:Int)) then (
 idx a0 s2.2 fun x3 =>
(gr x3).bind fun y4 =>
 idx s2.1 s2.2 fun _ =>
(s2.1[(s2.2:Int).toNat]?).bind fun x5 =>
 let u6:(List ah.D):=s2.1.set (s2.2:Int).toNat y4
 some (.inl (u6,IntKind.wrap .i64 (s2.2 + 1))))
 else (
 some (.inr s2))
def oy (a0:(List ah.D)):Option (List ah.D) :=
 if 0≤(a0.length:Int) then (if ((a0.length:Int)).toNat * (24 * 13)≤aC then (
(al (uq a0) ((List.replicate ((a0.length:Int)).toNat (0,0,0,0,0,0,0,0,0,0,0,false,false,())),0)).bind fun o7 =>
 some o7.1) else none) else none
def Gm:Hints:=(n0 (n0 (nd (n0 (nd (.node none (some ⟨[.tmpO 3 0 (.slice ah),.tmp 4 (.int .i64)],[some 0],none,[]⟩) .none .none) .none)) .none)))
def wZ:Ct:=.pure true true (.pair (.slice ah) .unit) (.slice ah) (fun x=>oy x.1)
theorem vG:KC 160 wZ:=pq (Ec pO En) Gm Tryz.func160
def oV (a0:ar.D):Option ar.D :=
 some a0
def KZ:Ct:=.pure true false (.pair ar .unit) ar (fun x=>oV x.1)
theorem II:KC 273 KZ:=pq En .none Tryz.func273
def wz (a0:(List ar.D)):((List ar.D)×Int)→Option (((List ar.D)×Int)⊕((List ar.D)×Int)):=fun s2 =>
 bif decide (s2.2 < (a0.length:Int)) then (
 idx a0 s2.2 fun x3 =>
(oV x3).bind fun y4 =>
 idx s2.1 s2.2 fun _ =>
(s2.1[(s2.2:Int).toNat]?).bind fun x5 =>
 let u6:(List ar.D):=s2.1.set (s2.2:Int).toNat y4
 some (.inl (u6,IntKind.wrap .i64 (s2.2 + 1))))
 else (
 some (.inr s2))
def qk (a0:(List ar.D)):Option (List ar.D) :=
 if 0≤(a0.length:Int) then (if ((a0.length:Int)).toNat * (24 * 3)≤aC then (
(al (wz a0) ((List.replicate ((a0.length:Int)).toNat (0,0,false,())),0)).bind fun o7 =>
 some o7.1) else none) else none
def IJ:Hints:=(n0 (n0 (nd (n0 (nd (.node none (some ⟨[.tmpO 3 0 (.slice ar),.tmp 4 (.int .i64)],[some 0],none,[]⟩) .none .none) .none)) .none)))
def yj:Ct:=.pure true true (.pair (.slice ar) .unit) (.slice ar) (fun x=>qk x.1)
theorem w4:KC 161 yj:=pq (Ec II En) IJ Tryz.func161
def ql (a0:ae.D):Option ae.D :=
(oy a0.1).bind fun y1 =>
(qk a0.2.1).bind fun y2 =>
 some (y1,y2,a0.2.2)
def yk:Ct:=.pure true true (.pair ae .unit) ae (fun x=>ql x.1)
theorem w5:KC 48 yk:=pq (Ec vG (Ec w4 En)) .none Tryz.func48
def vH (a0:cn.D):Option cn.D :=
 some a0
def Nv:Ct:=.pure true false (.pair cn .unit) cn (fun x=>vH x.1)
theorem K0:KC 249 Nv:=pq En .none Tryz.func249
def qm (a0:bc.D):Option bc.D :=
 some a0
def IK:Ct:=.pure true false (.pair bc .unit) bc (fun x=>qm x.1)
theorem Gn:KC 250 IK:=pq En .none Tryz.func250
def gu (a0:ac.D):Option ac.D :=
 some a0
def IL:Ct:=.pure true false (.pair ac .unit) ac (fun x=>gu x.1)
theorem pP:KC 50 IL:=pq En .none Tryz.func50
def ur (a0:(List ac.D)):((List ac.D)×Int)→Option (((List ac.D)×Int)⊕((List ac.D)×Int)):=fun s2 =>
 bif decide (s2.2 < (a0.length:Int)) then (
 idx a0 s2.2 fun x3 =>
(gu x3).bind fun y4 =>
 idx s2.1 s2.2 fun _ =>
(s2.1[(s2.2:Int).toNat]?).bind fun x5 =>
 let u6:(List ac.D):=s2.1.set (s2.2:Int).toNat y4
 some (.inl (u6,IntKind.wrap .i64 (s2.2 + 1))))
 else (
 some (.inr s2))
def gX (a0:(List ac.D)):Option (List ac.D) :=
 if 0≤(a0.length:Int) then (if ((a0.length:Int)).toNat * (24 * 7)≤aC then (
(al (ur a0) ((List.replicate ((a0.length:Int)).toNat (0,0,0,0,0,0,false,())),0)).bind fun o7 =>
 some o7.1) else none) else none
def Gp:Hints:=(n0 (n0 (nd (n0 (nd (.node none (some ⟨[.tmpO 3 0 (.slice ac),.tmp 4 (.int .i64)],[some 0],none,[]⟩) .none .none) .none)) .none)))
def w6:Ct:=.pure true true (.pair (.slice ac) .unit) (.slice ac) (fun x=>gX x.1)
theorem gv:KC 64 w6:=pq (Ec pP En) Gp Tryz.func64
def vI (a0:bg.D):Option bg.D :=
(gX a0.2.2.2.2.2.2.1).bind fun y1 =>
 some (a0.1,a0.2.1,a0.2.2.1,a0.2.2.2.1,a0.2.2.2.2.1,a0.2.2.2.2.2.1,y1,())
def Bj:Ct:=.pure true true (.pair bg .unit) bg (fun x=>vI x.1)
theorem zW:KC 251 Bj:=pq (Ec gv En) .none Tryz.func251
def gY (a0:aa.D):Option aa.D :=
(vH a0.2.2.2.2.1).bind fun y1 =>
(qm a0.2.2.2.2.2.1).bind fun y2 =>
(vI a0.2.2.2.2.2.2.1).bind fun y3 =>
 some (a0.1,a0.2.1,a0.2.2.1,a0.2.2.2.1,y1,y2,y3,a0.2.2.2.2.2.2.2)
def w7:Ct:=.pure true true (.pair aa .unit) aa (fun x=>gY x.1)
theorem lY:KC 131 w7:=pq (Ec K0 (Ec Gn (Ec zW En))) .none Tryz.func131
def sO (a0:(List aa.D)):((List aa.D)×Int)→Option (((List aa.D)×Int)⊕((List aa.D)×Int)):=fun s2 =>
 bif decide (s2.2 < (a0.length:Int)) then (
 idx a0 s2.2 fun x3 =>
(gY x3).bind fun y4 =>
 idx s2.1 s2.2 fun _ =>
(s2.1[(s2.2:Int).toNat]?).bind fun x5 =>
 let u6:(List aa.D):=s2.1.set (s2.2:Int).toNat y4
 some (.inl (u6,IntKind.wrap .i64 (s2.2 + 1))))
 else (
 some (.inr s2))
def lZ (a0:(List aa.D)):Option (List aa.D) :=
 if 0≤(a0.length:Int) then (if ((a0.length:Int)).toNat * (24 * 22)≤aC then (
(al (sO a0) ((List.replicate ((a0.length:Int)).toNat (0,0,0,0,(0,0,0,0,0,0,0,()),(0,0,()),(0,0,0,0,0,false,[],()),0,0,())),0)).bind fun o7 =>
 some o7.1) else none) else none
def EH:Hints:=(n0 (n0 (nd (n0 (nd (.node none (some ⟨[.tmpO 3 0 (.slice aa),.tmp 4 (.int .i64)],[some 0],none,[]⟩) .none .none) .none)) .none)))
def vJ:Ct:=.pure true true (.pair (.slice aa) .unit) (.slice aa) (fun x=>lZ x.1)
theorem ut:KC 49 vJ:=pq (Ec lY En) EH Tryz.func49
def yl (a0:(List Int)):((List Int)×Int)→Option (((List Int)×Int)⊕((List Int)×Int)):=fun s2 =>
 bif decide (s2.2 < (a0.length:Int)) then (
 idx a0 s2.2 fun x3 =>
 idx s2.1 s2.2 fun _ =>
(s2.1[(s2.2:Int).toNat]?).bind fun x4 =>
 let u5:(List Int):=s2.1.set (s2.2:Int).toNat x3
 some (.inl (u5,IntKind.wrap .i64 (s2.2 + 1))))
 else (
 some (.inr s2))
def sP (a0:(List Int)):Option (List Int) :=
 if 0≤(a0.length:Int) then (if ((a0.length:Int)).toNat * (24 * 1)≤aC then (
(al (yl a0) ((List.replicate ((a0.length:Int)).toNat 0),0)).bind fun o6 =>
 some o6.1) else none) else none
def K7:Hints:=(n0 (n0 (nd (n0 (nd (.node none (some ⟨[.tmpO 3 0 (.slice (.int .i64)),.tmp 4 (.int .i64)],[some 0],none,[]⟩) .none .none) .none)) .none)))
def zX:Ct:=.pure true true (.pair (.slice (.int .i64)) .unit) (.slice (.int .i64)) (fun x=>sP x.1)
theorem ym:KC 51 zX:=pq En K7 Tryz.func51
def iH (a0:af.D):Option af.D :=
(gr a0.2.2.2.1).bind fun y1 =>
 some (a0.1,a0.2.1,a0.2.2.1,y1,())
def EI:Ct:=.pure true false (.pair af .unit) af (fun x=>iH x.1)
theorem CS:KC 246 EI:=pq (Ec pO En) .none Tryz.func246
def rA (a0:(List af.D)):((List af.D)×Int)→Option (((List af.D)×Int)⊕((List af.D)×Int)):=fun s2 =>
 bif decide (s2.2 < (a0.length:Int)) then (
 idx a0 s2.2 fun x3 =>
(iH x3).bind fun y4 =>
 idx s2.1 s2.2 fun _ =>
(s2.1[(s2.2:Int).toNat]?).bind fun x5 =>
 let u6:(List af.D):=s2.1.set (s2.2:Int).toNat y4
 some (.inl (u6,IntKind.wrap .i64 (s2.2 + 1))))
 else (
 some (.inr s2))
def jY (a0:(List af.D)):Option (List af.D) :=
 if 0≤(a0.length:Int) then (if ((a0.length:Int)).toNat * (24 * 16)≤aC then (
(al (rA a0) ((List.replicate ((a0.length:Int)).toNat (0,0,0,(0,0,0,0,0,0,0,0,0,0,0,false,false,()),())),0)).bind fun o7 =>
 some o7.1) else none) else none
def CT:Hints:=(n0 (n0 (nd (n0 (nd (.node none (some ⟨[.tmpO 3 0 (.slice af),.tmp 4 (.int .i64)],[some 0],none,[]⟩) .none .none) .none)) .none)))
def uu:Ct:=.pure true true (.pair (.slice af) .unit) (.slice af) (fun x=>jY x.1)
theorem tQ:KC 128 uu:=pq (Ec CS En) CT Tryz.func128
def oW (a0:ai.D):Option ai.D :=
(gu a0.2.1).bind fun y1 =>
(gr a0.2.2.2.2.1).bind fun y2 =>
 some (a0.1,y1,a0.2.2.1,a0.2.2.2.1,y2,())
def K8:Ct:=.pure true false (.pair ai .unit) ai (fun x=>oW x.1)
theorem IM:KC 247 K8:=pq (Ec pP (Ec pO En)) .none Tryz.func247
def wA (a0:(List ai.D)):((List ai.D)×Int)→Option (((List ai.D)×Int)⊕((List ai.D)×Int)):=fun s2 =>
 bif decide (s2.2 < (a0.length:Int)) then (
 idx a0 s2.2 fun x3 =>
(oW x3).bind fun y4 =>
 idx s2.1 s2.2 fun _ =>
(s2.1[(s2.2:Int).toNat]?).bind fun x5 =>
 let u6:(List ai.D):=s2.1.set (s2.2:Int).toNat y4
 some (.inl (u6,IntKind.wrap .i64 (s2.2 + 1))))
 else (
 some (.inr s2))
def qn (a0:(List ai.D)):Option (List ai.D) :=
 if 0≤(a0.length:Int) then (if ((a0.length:Int)).toNat * (24 * 23)≤aC then (
(al (wA a0) ((List.replicate ((a0.length:Int)).toNat (0,(0,0,0,0,0,0,false,()),0,0,(0,0,0,0,0,0,0,0,0,0,0,false,false,()),())),0)).bind fun o7 =>
 some o7.1) else none) else none
def IN:Hints:=(n0 (n0 (nd (n0 (nd (.node none (some ⟨[.tmpO 3 0 (.slice ai),.tmp 4 (.int .i64)],[some 0],none,[]⟩) .none .none) .none)) .none)))
def yn:Ct:=.pure true true (.pair (.slice ai) .unit) (.slice ai) (fun x=>qn x.1)
theorem w8:KC 129 yn:=pq (Ec IM En) IN Tryz.func129
def oX (a0:au.D):Option au.D :=
(gu a0.2.2.2.2.1).bind fun y1 =>
(gX a0.2.2.2.2.2.1).bind fun y2 =>
 some (a0.1,a0.2.1,a0.2.2.1,a0.2.2.2.1,y1,y2,a0.2.2.2.2.2.2)
def zY:Ct:=.pure true true (.pair au .unit) au (fun x=>oX x.1)
theorem yo:KC 248 zY:=pq (Ec pP (Ec gv En)) .none Tryz.func248
def wB (a0:(List au.D)):((List au.D)×Int)→Option (((List au.D)×Int)⊕((List au.D)×Int)):=fun s2 =>
 bif decide (s2.2 < (a0.length:Int)) then (
 idx a0 s2.2 fun x3 =>
(oX x3).bind fun y4 =>
 idx s2.1 s2.2 fun _ =>
(s2.1[(s2.2:Int).toNat]?).bind fun x5 =>
 let u6:(List au.D):=s2.1.set (s2.2:Int).toNat y4
 some (.inl (u6,IntKind.wrap .i64 (s2.2 + 1))))
 else (
 some (.inr s2))
def qo (a0:(List au.D)):Option (List au.D) :=
 if 0≤(a0.length:Int) then (if ((a0.length:Int)).toNat * (24 * 14)≤aC then (
(al (wB a0) ((List.replicate ((a0.length:Int)).toNat (0,0,0,0,(0,0,0,0,0,0,false,()),[],0,0,())),0)).bind fun o7 =>
 some o7.1) else none) else none
def IOq:Hints:=(n0 (n0 (nd (n0 (nd (.node none (some ⟨[.tmpO 3 0 (.slice au),.tmp 4 (.int .i64)],[some 0],none,[]⟩) .none .none) .none)) .none)))
def yp:Ct:=.pure true true (.pair (.slice au) .unit) (.slice au) (fun x=>qo x.1)
theorem w9:KC 130 yp:=pq (Ec yo En) IOq Tryz.func130
def iI (a0:T_Game.D):Option T_Game.D :=
(ql a0.1).bind fun y1 =>
(lZ a0.2.1).bind fun y2 =>
(sP a0.2.2.1).bind fun y3 =>
(jY a0.2.2.2.1).bind fun y4 =>
(qn a0.2.2.2.2.1).bind fun y5 =>
(qo a0.2.2.2.2.2.1).bind fun y6 =>
 some (y1,y2,y3,y4,y5,y6,())
def zZ:Ct:=.pure true true (.pair T_Game .unit) T_Game (fun x=>iI x.1)
theorem yq:KC 25 zZ:=pq (Ec w5 (Ec ut (Ec ym (Ec tQ (Ec w8 (Ec w9 En)))))) .none Tryz.func25
def gw (a0:T_Order.D):Option T_Order.D :=
(gY a0.2.1).bind fun y1 =>
(gX a0.2.2.2.1).bind fun y2 =>
 some (a0.1,y1,a0.2.2.1,y2,())
def yr:Ct:=.pure true true (.pair T_Order .unit) T_Order (fun x=>gw x.1)
theorem xe:KC 26 yr:=pq (Ec gv (Ec lY En)) .none Tryz.func26
def eJ (a0:ae.D):Option ae.D :=
 if (([]:List ah.D).length + a0.1.length) * (24 * 13)≤aC then (
 if (([]:List ar.D).length + a0.2.1.length) * (24 * 3)≤aC then (
 some (([]++a0.1),([]++a0.2.1),a0.2.2)) else none) else none
def z5:Ct:=.pure true true (.pair ae .unit) ae (fun x=>eJ x.1)
theorem b9:KC 154 z5:=pq En .none Tryz.func154
def sQ (a0:bg.D):Option bg.D :=
 if (([]:List ac.D).length + a0.2.2.2.2.2.2.1.length) * (24 * 7)≤aC then (
 some (a0.1,a0.2.1,a0.2.2.1,a0.2.2.2.1,a0.2.2.2.2.1,a0.2.2.2.2.2.1,([]++a0.2.2.2.2.2.2.1),())) else none
def z6:Ct:=.pure true true (.pair bg .unit) bg (fun x=>sQ x.1)
theorem yt:KC 318 z6:=pq En .none Tryz.func318
def dM (a0:aa.D):Option aa.D :=
(sQ a0.2.2.2.2.2.2.1).bind fun y1 =>
 some (a0.1,a0.2.1,a0.2.2.1,a0.2.2.2.1,a0.2.2.2.2.1,a0.2.2.2.2.2.1,y1,a0.2.2.2.2.2.2.2)
def yu:Ct:=.pure true true (.pair aa .unit) aa (fun x=>dM x.1)
theorem cF:KC 223 yu:=pq (Ec yt En) .none Tryz.func223
def pQ (a0:(List aa.D)):((List aa.D)×Int)→Option (((List aa.D)×Int)⊕((List aa.D)×Int)):=fun s1 =>
 bif decide (s1.2 < (a0.length:Int)) then (
 idx a0 s1.2 fun x2 =>
(dM x2).bind fun y3 =>
 if (s1.1.length + [y3].length) * (24 * 22)≤aC then (
 some (.inl ((s1.1++[y3]),IntKind.wrap .i64 (s1.2 + 1)))) else none)
 else (
 some (.inr s1))
def ck (a0:(List aa.D)):Option (List aa.D) :=
(al (pQ a0) ([],0)).bind fun o4 =>
 some o4.1
def IP:Hints:=(n0 (n0 (nd (n0 (nd (.node none (some ⟨[.tmpO 3 0 (.slice aa),.tmp 4 (.int .i64)],[some 0],none,[]⟩) .none .none) .none)) .none)))
def oY:Ct:=.pure true true (.pair (.slice aa) .unit) (.slice aa) (fun x=>ck x.1)
theorem cG:KC 155 oY:=pq (Ec cF En) IP Tryz.func155
def vK (a0:au.D):Option au.D :=
 if (([]:List ac.D).length + a0.2.2.2.2.2.1.length) * (24 * 7)≤aC then (
 some (a0.1,a0.2.1,a0.2.2.1,a0.2.2.2.1,a0.2.2.2.2.1,([]++a0.2.2.2.2.2.1),a0.2.2.2.2.2.2)) else none
def yv:Ct:=.pure true true (.pair au .unit) au (fun x=>vK x.1)
theorem xf:KC 317 yv:=pq En .none Tryz.func317
def nG (a0:(List au.D)):((List au.D)×Int)→Option (((List au.D)×Int)⊕((List au.D)×Int)):=fun s1 =>
 bif decide (s1.2 < (a0.length:Int)) then (
 idx a0 s1.2 fun x2 =>
(vK x2).bind fun y3 =>
 if (s1.1.length + [y3].length) * (24 * 14)≤aC then (
 some (.inl ((s1.1++[y3]),IntKind.wrap .i64 (s1.2 + 1)))) else none)
 else (
 some (.inr s1))
def jI (a0:(List au.D)):Option (List au.D) :=
(al (nG a0) ([],0)).bind fun o4 =>
 some o4.1
def Gq:Hints:=(n0 (n0 (nd (n0 (nd (.node none (some ⟨[.tmpO 3 0 (.slice au),.tmp 4 (.int .i64)],[some 0],none,[]⟩) .none .none) .none)) .none)))
def xj:Ct:=.pure true true (.pair (.slice au) .unit) (.slice au) (fun x=>jI x.1)
theorem l0:KC 222 xj:=pq (Ec xf En) Gq Tryz.func222
def qp (a0:T_Game.D):Option T_Game.D :=
(eJ a0.1).bind fun y1 =>
(ck a0.2.1).bind fun y2 =>
 if (([]:List Int).length + a0.2.2.1.length) * (24 * 1)≤aC then (
 if (([]:List af.D).length + a0.2.2.2.1.length) * (24 * 16)≤aC then (
 if (([]:List ai.D).length + a0.2.2.2.2.1.length) * (24 * 23)≤aC then (
(jI a0.2.2.2.2.2.1).bind fun y3 =>
 some (y1,y2,([]++a0.2.2.1),([]++a0.2.2.2.1),([]++a0.2.2.2.2.1),y3,())) else none) else none) else none
def oZ:Ct:=.pure true true (.pair T_Game .unit) T_Game (fun x=>qp x.1)
theorem xn:KC 97 oZ:=pq (Ec b9 (Ec cG (Ec l0 En))) .none Tryz.func97
def aD (a0:Int) (a1:Int) (a2:Int):Option Bool :=
 bif decide (a0≥a1) then (
 some (decide (a0≤a2)))
 else (
 some false)
def Pl:Ct:=.pure true false (.pair (.int .i64) (.pair (.int .i64) (.pair (.int .i64) .unit))) .bool (fun x=>aD x.1 x.2.1 x.2.2.1)
theorem bU:KC 229 Pl:=pq En .none Tryz.func229
def bV (a0:ac.D):Option Bool :=
(((aD a0.2.2.1 1 99).bind fun y1 =>
 bif y1 then (
 some (a0.2.2.2.1 == (-1)))
 else (
 some false)):Option Bool).bind fun o2 =>
((bif (a0.2.2.1 == 0) then (
(aD a0.2.2.2.1 0 2).bind fun y3 =>
 some y3)
 else (
 some false)):Option Bool).bind fun o4 =>
(aD a0.2.2.2.2.1 0 2147483647).bind fun y5 =>
 bif (!y5) then (
 some false)
 else (
 bif (a0.1 == 1) then (
(aD a0.2.1 1 99).bind fun y6 =>
 bif y6 then (
 bif o2 then (
 bif (a0.2.2.2.2.2.1 == 0) then (
 some (!a0.2.2.2.2.2.2.1))
 else (
 some false))
 else (
 bif o4 then (
 bif (a0.2.2.2.2.2.1 == 0) then (
 some (!a0.2.2.2.2.2.2.1))
 else (
 some false))
 else (
 some false)))
 else (
 some false))
 else (
 bif (a0.1 == 2) then (
 bif (a0.2.1 == 0) then (
 bif o2 then (
(aD a0.2.2.2.2.2.1 1 4).bind fun y7 =>
 bif y7 then (
 bif decide (a0.2.2.2.2.1≤99) then (
 bif (a0.2.2.2.2.2.1 == 2) then (
 some true)
 else (
 bif (a0.2.2.2.2.1 == 0) then (
 some (!a0.2.2.2.2.2.2.1))
 else (
 some false)))
 else (
 some false))
 else (
 some false))
 else (
 some false))
 else (
 some false))
 else (
((bif (a0.1 == 3) then (
 some (a0.1 == 3))
 else (
 some (a0.1 == 4))):Option Bool).bind fun o8 =>
 bif o8 then (
 bif (a0.2.1 == 0) then (
 bif o4 then (
 bif (a0.2.2.2.2.2.1 == 0) then (
 some (!a0.2.2.2.2.2.2.1))
 else (
 some false))
 else (
 some false))
 else (
 some false))
 else (
((bif (a0.1 == 5) then (
 some (a0.1 == 5))
 else (
 some (a0.1 == 6))):Option Bool).bind fun o9 =>
 bif o9 then (
 bif (a0.2.1 == 0) then (
 bif o2 then (
 bif (a0.2.2.2.2.2.1 == 0) then (
 some (!a0.2.2.2.2.2.2.1))
 else (
 some false))
 else (
 some false))
 else (
 some false))
 else (
 some false)))))
def IQ:Hints:=(n0 (nd (cu ⟨[.tmp 3 .bool],[none],none,[]⟩) (nd (cu ⟨[.tmp 4 .bool],[none],none,[]⟩) (n0 (nd (n0 (nd (n0 (n0 (n0 (n0 (nd (n0 (cu ⟨[.tmp 81 .bool],[none],none,[]⟩)) (n0 (nd (n0 (cu ⟨[.tmp 100 .bool],[none],none,[]⟩)) .none))))))) .none)) .none)))))
def yw:Ct:=.pure true false (.pair ac .unit) .bool (fun x=>bV x.1)
theorem cK:KC 158 yw:=pq (Ec bU En) IQ Tryz.func158
def iJ (a0:au.D):Int→Option (Int⊕(Int⊕Bool)):=fun s9 =>
 bif decide (s9 < (a0.2.2.2.2.2.1.length:Int)) then (
 idx a0.2.2.2.2.2.1 s9 fun x10 =>
(bV x10).bind fun y11 =>
 bif (!y11) then (
 some (.inr (.inr false)))
 else (
 some (.inl (IntKind.wrap .i64 (s9 + 1)))))
 else (
 some (.inr (.inl s9)))
def o0 (a0:au.D):Option Bool :=
(((aD a0.1 1 99).bind fun y1 =>
 bif (!y1) then (
 some true)
 else (
(aD a0.2.1 0 2).bind fun y2 =>
 bif (!y2) then (
 some true)
 else (
(aD a0.2.2.2.1 1 5).bind fun y3 =>
 bif (!y3) then (
 some true)
 else (
(aD a0.2.2.1 0 (IntKind.wrap .i64 (a0.2.2.2.1 - 1))).bind fun y4 =>
 bif (!y4) then (
 some true)
 else (
(bV a0.2.2.2.2.1).bind fun y5 =>
 bif (!y5) then (
 some true)
 else (
 bif decide ((a0.2.2.2.2.2.1.length:Int) > 3) then (
 some true)
 else (
(aD a0.2.2.2.2.2.2.1 0 2147483647).bind fun y6 =>
 bif (!y6) then (
 some true)
 else (
(aD a0.2.2.2.2.2.2.2.1 0 4).bind fun y7 =>
 some (!y7))))))))):Option Bool).bind fun o8 =>
 bif o8 then (
 some false)
 else (
(al (iJ a0) 0).bind fun o12 =>
 match o12 with
| .inl s13=>(
 some true)
| .inr o14=>(
 some o14))
def K9:Hints:=(n0 (nd (nd (cu ⟨[.tmp 52 .bool],[none],none,[]⟩) .none) (nd (n0 (nd (.node none (some ⟨[.tmp 3 (.int .i64)],[some 0],some [.tmp 2 .bool],[]⟩) .none .none) .none)) .none)))
def La:Ct:=.pure true false (.pair au .unit) .bool (fun x=>o0 x.1)
theorem IR:KC 117 La:=pq (Ec cK (Ec bU En)) K9 Tryz.func117
def qq (a0:ah.D):Option Bool :=
(((aD a0.1 1 99).bind fun y1 =>
 bif (!y1) then (
 some true)
 else (
(aD a0.2.1 0 2).bind fun y2 =>
 bif (!y2) then (
 some true)
 else (
(aD a0.2.2.1 0 2).bind fun y3 =>
 bif (!y3) then (
 some true)
 else (
(aD a0.2.2.2.1 1 4).bind fun y4 =>
 bif (!y4) then (
 some true)
 else (
(aD a0.2.2.2.2.1 0 9999).bind fun y5 =>
 bif (!y5) then (
 some true)
 else (
(aD a0.2.2.2.2.2.1 0 999).bind fun y6 =>
 bif (!y6) then (
 some true)
 else (
(aD a0.2.2.2.2.2.2.1 0 999).bind fun y7 =>
 bif (!y7) then (
 some true)
 else (
(aD a0.2.2.2.2.2.2.2.1 0 63).bind fun y8 =>
 some (!y8))))))))):Option Bool).bind fun o9 =>
 bif o9 then (
 some false)
 else (
(((aD a0.2.2.2.2.2.2.2.2.1 0 2147483647).bind fun y10 =>
 bif (!y10) then (
 some true)
 else (
(aD a0.2.2.2.2.2.2.2.2.2.1 0 2147483647).bind fun y11 =>
 bif (!y11) then (
 some true)
 else (
(aD a0.2.2.2.2.2.2.2.2.2.2.1 0 2147483647).bind fun y12 =>
 some (!y12)))):Option Bool).bind fun o13 =>
 bif o13 then (
 some false)
 else (
 bif (a0.2.2.2.1 == 2) then (
 some true)
 else (
 bif (a0.2.2.1 == a0.2.1) then (
 bif (a0.2.2.2.2.2.2.2.2.1 == 0) then (
 bif (a0.2.2.2.2.2.2.2.2.2.1 == 0) then (
 bif (a0.2.2.2.2.2.2.2.2.2.2.1 == 0) then (
 bif (!a0.2.2.2.2.2.2.2.2.2.2.2.1) then (
 some (!a0.2.2.2.2.2.2.2.2.2.2.2.2.1))
 else (
 some false))
 else (
 some false))
 else (
 some false))
 else (
 some false))
 else (
 some false))))
def IS:Hints:=(n0 (nd (nd (cu ⟨[.tmp 48 .bool],[none],none,[]⟩) .none) (nd (nd (cu ⟨[.tmp 64 .bool],[none],none,[]⟩) .none) .none)))
def IT:Ct:=.pure true false (.pair ah .unit) .bool (fun x=>qq x.1)
theorem Gr:KC 239 IT:=pq (Ec bU En) IS Tryz.func239
def sR (a0:ar.D):Option Bool :=
(aD a0.1 (-2147483647) 2147483647).bind fun y1 =>
 bif y1 then (
(aD a0.2.1 0 2147483647).bind fun y2 =>
 some y2)
 else (
 some false)
def Lb:Ct:=.pure true false (.pair ar .unit) .bool (fun x=>sR x.1)
theorem IU:KC 240 Lb:=pq (Ec bU En) .none Tryz.func240
def jZ (a0:ae.D):Int→Option (Int⊕(Int⊕Bool)):=fun s5 =>
 bif decide (s5 < (a0.1.length:Int)) then (
 idx a0.1 s5 fun x6 =>
(((qq x6).bind fun y7 =>
 bif (!y7) then (
 some true)
 else (
 bif decide (s5 > 0) then (
 idx a0.1 (IntKind.wrap .i64 (s5 - 1)) fun x8 =>
 bif decide (x8.1≥x6.1) then (
 some true)
 else (
 bif decide (x6.2.1≥(a0.2.1.length:Int)) then (
 some true)
 else (
 bif decide (x6.2.2.1≥(a0.2.1.length:Int)) then (
 some true)
 else (
 some (decide (x6.2.2.2.2.1 > a0.2.2.2.1))))))
 else (
 bif decide (x6.2.1≥(a0.2.1.length:Int)) then (
 some true)
 else (
 bif decide (x6.2.2.1≥(a0.2.1.length:Int)) then (
 some true)
 else (
 some (decide (x6.2.2.2.2.1 > a0.2.2.2.1))))))):Option Bool).bind fun o9 =>
 bif o9 then (
 some (.inr (.inr false)))
 else (
 some (.inl (IntKind.wrap .i64 (s5 + 1)))))
 else (
 some (.inr (.inl s5)))
def j7 (a0:ae.D):Int→Option (Int⊕(Int⊕Bool)):=fun s13 =>
 bif decide (s13 < (a0.2.1.length:Int)) then (
 idx a0.2.1 s13 fun x14 =>
(sR x14).bind fun y15 =>
 bif (!y15) then (
 some (.inr (.inr false)))
 else (
 some (.inl (IntKind.wrap .i64 (s13 + 1)))))
 else (
 some (.inr (.inl s13)))
def da (a0:ae.D):Option Bool :=
((bif decide ((a0.1.length:Int) > 8) then (
 some true)
 else (
(aD (a0.2.1.length:Int) 2 3).bind fun y1 =>
 bif (!y1) then (
 some true)
 else (
(aD a0.2.2.1 0 (IntKind.wrap .i64 ((a0.2.1.length:Int) - 1))).bind fun y2 =>
 bif (!y2) then (
 some true)
 else (
(aD a0.2.2.2.1 0 9999).bind fun y3 =>
 some (!y3))))):Option Bool).bind fun o4 =>
 bif o4 then (
 some false)
 else (
(al (jZ a0) 0).bind fun o10 =>
 match o10 with
| .inl s11=>(
(al (j7 a0) 0).bind fun o16 =>
 match o16 with
| .inl s17=>(
 some true)
| .inr o18=>(
 some o18))
| .inr o12=>(
 some o12))
def IV:Hints:=(n0 (nd (nd (cu ⟨[.tmp 32 .bool],[none],none,[]⟩) .none) (nd (n0 (nd (.node none (some ⟨[.tmp 3 (.int .i64)],[some 0],some [.tmp 2 .bool],[]⟩) (n0 (nd (nd (n0 (nd (cu ⟨[.tmp 86 .bool],[none],none,[]⟩) .none)) .none) .none)) .none) .none)) (nd (n0 (nd (.node none (some ⟨[.tmp 5 (.int .i64)],[some 2],some [.tmp 2 .bool],[]⟩) .none .none) .none)) .none))))
def yx:Ct:=.pure true false (.pair ae .unit) .bool (fun x=>da x.1)
theorem dv:KC 118 yx:=pq (Ec bU (Ec Gr (Ec IU En))) IV Tryz.func118
def nH (a0:cn.D):Option Bool :=
(((aD a0.1 1 6).bind fun y1 =>
 bif (!y1) then (
 some true)
 else (
(aD a0.2.1 0 2).bind fun y2 =>
 bif (!y2) then (
 some true)
 else (
(aD a0.2.2.2.2.1 0 99).bind fun y3 =>
 bif (!y3) then (
 some true)
 else (
(aD a0.2.2.2.2.2.1 0 2147483647).bind fun y4 =>
 bif (!y4) then (
 some true)
 else (
(aD a0.2.2.1 0 99).bind fun y5 =>
 bif (!y5) then (
 some true)
 else (
(aD a0.2.2.2.1 0 63).bind fun y6 =>
 bif (!y6) then (
 some true)
 else (
(aD a0.2.2.2.2.2.2.1 0 4).bind fun y7 =>
 some (!y7)))))))):Option Bool).bind fun o8 =>
 bif o8 then (
 some false)
 else (
((bif (a0.1 != 1) then (
 bif (a0.2.2.1 != 0) then (
 some true)
 else (
 bif (a0.2.2.2.1 != 0) then (
 some true)
 else (
 bif (a0.1 != 2) then (
 some (a0.2.2.2.2.2.2.1 != 0))
 else (
 some false))))
 else (
 bif (a0.1 != 2) then (
 some (a0.2.2.2.2.2.2.1 != 0))
 else (
 some false))):Option Bool).bind fun o9 =>
 bif o9 then (
 some false)
 else (
 bif (a0.1 != 3) then (
 bif (a0.1 != 4) then (
 some true)
 else (
 some (a0.2.2.2.2.1 == 0)))
 else (
 some (a0.2.2.2.2.1 == 0))))
def Nw:Hints:=(n0 (nd (nd (cu ⟨[.tmp 42 .bool],[none],none,[]⟩) .none) (nd (nd (cu ⟨[.tmp 65 .bool],[none],none,[]⟩) .none) .none)))
def Nx:Ct:=.pure true false (.pair cn .unit) .bool (fun x=>nH x.1)
theorem AN:KC 328 Nx:=pq (Ec bU En) Nw Tryz.func328
def i6 (a0:bc.D):Option Bool :=
((bif (a0.1 == 0) then (
 some (a0.1 == 0))
 else (
 some (a0.1 == 3))):Option Bool).bind fun o1 =>
 bif o1 then (
 some (a0.2.1 == 0))
 else (
 bif (a0.1 == 1) then (
(aD a0.2.1 (-2147483647) 2147483647).bind fun y2 =>
 some y2)
 else (
 bif (a0.1 == 2) then (
(aD a0.2.1 0 8).bind fun y3 =>
 some y3)
 else (
 bif (a0.1 == 4) then (
(aD a0.2.1 0 8).bind fun y4 =>
 some y4)
 else (
 some false))))
def IW:Hints:=(n0 (nd (n0 (nd (nd (n0 (cu ⟨[.tmp 5 .bool],[none],none,[]⟩)) .none) .none)) .none))
def IX:Ct:=.pure true false (.pair bc .unit) .bool (fun x=>i6 x.1)
theorem wC:KC 329 IX:=pq (Ec bU En) IW Tryz.func329
def qr (a0:bg.D):Option Bool :=
 bif (a0.2.2.1 == 0) then (
 bif (a0.2.2.2.1 == (-1)) then (
 bif (a0.2.2.2.2.1 == 0) then (
 bif (!a0.2.2.2.2.2.1) then (
 some ((a0.2.2.2.2.2.2.1.length:Int) == 0))
 else (
 some false))
 else (
 some false))
 else (
 some false))
 else (
 some false)
def IY:Ct:=.pure true false (.pair bg .unit) .bool (fun x=>qr x.1)
theorem Gs:KC 361 IY:=pq En .none Tryz.func361
def sS (a0:ac.D):Option Bool :=
((bif (a0.2.2.2.2.1 == (-1)) then (
 some (a0.1 != 2))
 else (
 some false)):Option Bool).bind fun o1 =>
((bif o1 then (
 some (a0.1,a0.2.1,a0.2.2.1,a0.2.2.2.1,0,a0.2.2.2.2.2))
 else (
 some a0)):Option ac.D).bind fun o2 =>
(bV o2).bind fun y3 =>
 some y3
def Lc:Hints:=(n0 (nd (nd (cu ⟨[.tmp 10 .bool],[none],none,[]⟩) (cu ⟨[.box 1 0 ac],[none],none,[(1,0)]⟩)) .none))
def Ld:Ct:=.pure true false (.pair ac .unit) .bool (fun x=>sS x.1)
theorem IZ:KC 362 Ld:=pq (Ec cK En) Lc Tryz.func362
def jJ (a0:bg.D):Int→Option (Int⊕(Int⊕Bool)):=fun s12 =>
 bif decide (s12 < (a0.2.2.2.2.2.2.1.length:Int)) then (
 idx a0.2.2.2.2.2.2.1 s12 fun x13 =>
(sS x13).bind fun y14 =>
 bif (!y14) then (
 some (.inr (.inr false)))
 else (
 some (.inl (IntKind.wrap .i64 (s12 + 1)))))
 else (
 some (.inr (.inl s12)))
def rB (a0:bg.D):Option Bool :=
((bif (a0.1 == 1) then (
 some (a0.1 == 1))
 else (
((bif (a0.1 == 2) then (
 some (a0.1 == 2))
 else (
((bif (a0.1 == 4) then (
 some (a0.1 == 4))
 else (
 some (a0.1 == 5))):Option Bool).bind fun o1 =>
 some o1)):Option Bool).bind fun o2 =>
 some o2)):Option Bool).bind fun o3 =>
 bif o3 then (
(qr a0).bind fun y4 =>
 bif y4 then (
 some (a0.2.1 == 0))
 else (
 some false))
 else (
 bif (a0.1 == 3) then (
(qr a0).bind fun y5 =>
 bif y5 then (
(aD a0.2.1 1 2147483647).bind fun y6 =>
 some y6)
 else (
 some false))
 else (
 bif (a0.1 == 6) then (
 bif (a0.2.1 == 0) then (
 bif (a0.2.2.2.2.1 == 0) then (
 bif (!a0.2.2.2.2.2.1) then (
 bif ((a0.2.2.2.2.2.2.1.length:Int) == 0) then (
(aD a0.2.2.1 1 99).bind fun y7 =>
 bif y7 then (
 bif (a0.2.2.2.1 == (-1)) then (
 some true)
 else (
 bif (a0.2.2.1 == 0) then (
(aD a0.2.2.2.1 0 2).bind fun y8 =>
 some y8)
 else (
 some false)))
 else (
 bif (a0.2.2.1 == 0) then (
(aD a0.2.2.2.1 0 2).bind fun y9 =>
 some y9)
 else (
 some false)))
 else (
 some false))
 else (
 some false))
 else (
 some false))
 else (
 some false))
 else (
 bif (a0.1 == 7) then (
 bif (a0.2.1 == 0) then (
 bif (a0.2.2.1 == 0) then (
 bif (a0.2.2.2.1 == (-1)) then (
 bif (!a0.2.2.2.2.2.1) then (
 bif ((a0.2.2.2.2.2.2.1.length:Int) == 0) then (
(aD a0.2.2.2.2.1 1 4).bind fun y10 =>
 some y10)
 else (
 some false))
 else (
 some false))
 else (
 some false))
 else (
 some false))
 else (
 some false))
 else (
 bif (a0.1 == 8) then (
(aD a0.2.1 0 99).bind fun y11 =>
 bif y11 then (
 bif (a0.2.2.1 == 0) then (
 bif (a0.2.2.2.1 == (-1)) then (
 bif (a0.2.2.2.2.1 == 0) then (
 some ((a0.2.2.2.2.2.2.1.length:Int) == 0))
 else (
 some false))
 else (
 some false))
 else (
 some false))
 else (
 some false))
 else (
 bif (a0.1 == 9) then (
(al (jJ a0) 0).bind fun o15 =>
 match o15 with
| .inl s16=>(
 bif (a0.2.1 == 0) then (
 bif (a0.2.2.1 == 0) then (
 bif (a0.2.2.2.1 == (-1)) then (
 bif (a0.2.2.2.2.1 == 0) then (
 bif (!a0.2.2.2.2.2.1) then (
(aD (a0.2.2.2.2.2.2.1.length:Int) 1 3).bind fun y18 =>
 some y18)
 else (
 some false))
 else (
 some false))
 else (
 some false))
 else (
 some false))
 else (
 some false))
| .inr o17=>(
 some o17))
 else (
 some false))))))
def Ny:Hints:=(n0 (nd (n0 (nd (nd (n0 (.node (some ⟨[.tmp 6 .bool],[none],none,[]⟩) none .none (n0 (.node (some ⟨[.tmp 6 .bool],[none],none,[]⟩) none .none (n0 (cu ⟨[.tmp 6 .bool],[none],none,[]⟩)))))) (n0 (n0 (n0 (n0 (n0 (n0 (n0 (n0 (n0 (n0 (nd (nd (n0 (nd (.node none (some ⟨[.tmp 3 (.int .i64)],[some 1],some [.tmp 2 .bool],[]⟩) .none .none) .none)) .none) .none)))))))))))) .none)) .none))
def Nz:Ct:=.pure true false (.pair bg .unit) .bool (fun x=>rB x.1)
theorem Le:KC 330 Nz:=pq (Ec bU (Ec Gs (Ec IZ En))) Ny Tryz.func330
def l8 (a0:bg.D) (a1:Int):Option Bool :=
(aD a1 1 6).bind fun y1 =>
 bif (!y1) then (
 some false)
 else (
((bif (a0.1 == 2) then (
 some (a0.1 == 2))
 else (
 some (a0.1 == 6))):Option Bool).bind fun o2 =>
 bif o2 then (
 some (a1 == 1))
 else (
((bif (a0.1 == 3) then (
 some (a0.1 == 3))
 else (
((bif (a0.1 == 4) then (
 some (a0.1 == 4))
 else (
 some (a0.1 == 5))):Option Bool).bind fun o3 =>
 some o3)):Option Bool).bind fun o4 =>
 bif o4 then (
 some (a1 != 2))
 else (
((bif (a0.1 == 7) then (
 some (a0.1 == 7))
 else (
 some (a0.1 == 8))):Option Bool).bind fun o5 =>
 bif o5 then (
 some (a1 == 2))
 else (
 bif (a0.1 == 1) then (
 some true)
 else (
 some (a0.1 == 9))))))
def I0:Hints:=(n0 (n0 (nd (n0 (nd (nd (n0 (cu ⟨[.tmp 10 .bool],[none],none,[]⟩)) (n0 (nd (n0 (.node (some ⟨[.tmp 15 .bool],[none],none,[]⟩) none .none (n0 (cu ⟨[.tmp 15 .bool],[none],none,[]⟩)))) (n0 (nd (n0 (cu ⟨[.tmp 21 .bool],[none],none,[]⟩)) .none))))) .none)) .none)))
def I4:Ct:=.pure true false (.pair bg (.pair (.int .i64) .unit)) .bool (fun x=>l8 x.1 x.2.1)
theorem wD:KC 331 I4:=pq (Ec bU En) I0 Tryz.func331
def fH (a0:aa.D):Option Bool :=
(((aD a0.1 1 99).bind fun y1 =>
 bif (!y1) then (
 some true)
 else (
(aD a0.2.1 0 2).bind fun y2 =>
 bif (!y2) then (
 some true)
 else (
(aD a0.2.2.1 0 99).bind fun y3 =>
 bif (!y3) then (
 some true)
 else (
(aD a0.2.2.2.1 0 4).bind fun y4 =>
 bif (!y4) then (
 some true)
 else (
(aD a0.2.2.2.2.2.2.2.1 (-1) 9999).bind fun y5 =>
 bif (!y5) then (
 some true)
 else (
(aD a0.2.2.2.2.2.2.2.2.1 (-1) 2147483647).bind fun y6 =>
 some (!y6))))))):Option Bool).bind fun o7 =>
 bif o7 then (
 some false)
 else (
((bif (a0.2.2.2.1 == 0) then (
 bif (a0.2.2.1 == 0) then (
 some true)
 else (
 bif (a0.2.2.2.2.2.2.1.1 == 2) then (
 some (decide (a0.2.2.2.2.2.2.2.2.1 < 0)))
 else (
 some false)))
 else (
 bif (a0.2.2.2.2.2.2.1.1 == 2) then (
 some (decide (a0.2.2.2.2.2.2.2.2.1 < 0)))
 else (
 some false))):Option Bool).bind fun o8 =>
 bif o8 then (
 some false)
 else (
(nH a0.2.2.2.2.1).bind fun y9 =>
 bif y9 then (
(i6 a0.2.2.2.2.2.1).bind fun y10 =>
 bif y10 then (
(rB a0.2.2.2.2.2.2.1).bind fun y11 =>
 bif y11 then (
(l8 a0.2.2.2.2.2.2.1 a0.2.2.2.2.1.1).bind fun y12 =>
 some y12)
 else (
 some false))
 else (
 some false))
 else (
 some false)))
def Gt:Hints:=(n0 (nd (nd (cu ⟨[.tmp 36 .bool],[none],none,[]⟩) .none) (nd (nd (cu ⟨[.tmp 55 .bool],[none],none,[]⟩) .none) .none)))
def Gu:Ct:=.pure true false (.pair aa .unit) .bool (fun x=>fH x.1)
theorem nI:KC 241 Gu:=pq (Ec bU (Ec AN (Ec wC (Ec Le (Ec wD En))))) Gt Tryz.func241
def j8 (a0:(List aa.D)):Int→Option (Int⊕(Int⊕Bool)):=fun s1 =>
 bif decide (s1 < (a0.length:Int)) then (
((idx a0 s1 fun x2 =>
(fH x2).bind fun y3 =>
 bif (!y3) then (
 some true)
 else (
 bif decide (s1 > 0) then (
 idx a0 (IntKind.wrap .i64 (s1 - 1)) fun x4 =>
 idx a0 s1 fun x5 =>
 some (decide (x4.1≥x5.1)))
 else (
 some false))):Option Bool).bind fun o6 =>
 bif o6 then (
 some (.inr (.inr false)))
 else (
 some (.inl (IntKind.wrap .i64 (s1 + 1)))))
 else (
 some (.inr (.inl s1)))
def fg (a0:(List aa.D)):Option Bool :=
(al (j8 a0) 0).bind fun o7 =>
 match o7 with
| .inl s8=>(
 some (decide ((a0.length:Int)≤5)))
| .inr o9=>(
 some o9)
def I5:Hints:=(n0 (nd (n0 (nd (.node none (some ⟨[.tmp 3 (.int .i64)],[some 0],some [.tmp 2 .bool],[]⟩) (n0 (nd (nd (nd (cu ⟨[.tmp 33 .bool],[none],none,[]⟩) .none) .none) .none)) .none) .none)) .none))
def yy:Ct:=.pure true false (.pair (.slice aa) .unit) .bool (fun x=>fg x.1)
theorem j9:KC 119 yy:=pq (Ec nI En) I5 Tryz.func119
def iK (a0:T_Game.D):Int→Option (Int⊕(Int⊕Bool)):=fun s1 =>
 bif decide (s1 < (a0.2.2.2.2.2.1.length:Int)) then (
 idx a0.2.2.2.2.2.1 s1 fun x2 =>
(o0 x2).bind fun y3 =>
 bif (!y3) then (
 some (.inr (.inr false)))
 else (
 some (.inl (IntKind.wrap .i64 (s1 + 1)))))
 else (
 some (.inr (.inl s1)))
def sU (a0:T_Game.D):Option Bool :=
(al (iK a0) 0).bind fun o4 =>
 match o4 with
| .inl s5=>(
(da a0.1).bind fun y7 =>
 bif y7 then (
(fg a0.2.1).bind fun y8 =>
 some y8)
 else (
 some false))
| .inr o6=>(
 some o6)
def Lf:Hints:=(n0 (nd (n0 (nd (.node none (some ⟨[.tmp 3 (.int .i64)],[some 0],some [.tmp 2 .bool],[]⟩) .none .none) .none)) .none))
def AO:Ct:=.pure true false (.pair T_Game .unit) .bool (fun x=>sU x.1)
theorem I6:KC 18 AO:=pq (Ec IR (Ec dv (Ec j9 En))) Lf Tryz.func18
def i7 (a0:(List aa.D)) (a1:Int):Int→Option (Int⊕(Int⊕Int)):=fun s1 =>
 bif decide (s1 < (a0.length:Int)) then (
 idx a0 s1 fun x2 =>
 bif (x2.1 == a1) then (
 some (.inr (.inr s1)))
 else (
 some (.inl (IntKind.wrap .i64 (s1 + 1)))))
 else (
 some (.inr (.inl s1)))
def fI (a0:(List aa.D)) (a1:Int):Option Int :=
(al (i7 a0 a1) 0).bind fun o3 =>
 match o3 with
| .inl s4=>(
 some (-1))
| .inr o5=>(
 some o5)
def Gv:Hints:=(n0 (nd (n0 (nd (.node none (some ⟨[.tmp 5 (.int .i64)],[some 0],some [.tmp 4 (.int .i64)],[]⟩) .none .none) .none)) .none))
def wE:Ct:=.pure true false (.pair (.slice aa) (.pair (.int .i64) .unit)) (.int .i64) (fun x=>fI x.1 x.2.1)
theorem i8:KC 224 wE:=pq En Gv Tryz.func224
def ka (a0:(List aa.D)) (a1:aa.D):Int→Option (Int⊕Int):=fun s1 =>
((bif decide (s1 < (a0.length:Int)) then (
 idx a0 s1 fun x2 =>
 some (decide (x2.1 < a1.1)))
 else (
 some false)):Option Bool).bind fun o3 =>
 bif o3 then (
 some (.inl (IntKind.wrap .i64 (s1 + 1))))
 else (
 some (.inr s1))
def qs (a0:(List aa.D)) (a1:aa.D):Option ((List aa.D)×(Bool×Unit)) :=
(al (ka a0 a1) 0).bind fun o4 =>
 if 0≤(0:Int) then (if (0:Int)≤o4 then (if o4≤(a0.length:Int) then (
(ck ((a0.take o4.toNat).drop (0:Int).toNat)).bind fun y5 =>
(dM a1).bind fun y6 =>
 if (y5.length + [y6].length) * (24 * 22)≤aC then (
 if 0≤o4 then (if o4≤(a0.length:Int) then (if (a0.length:Int)≤(a0.length:Int) then (
(ck ((a0.take (a0.length:Int).toNat).drop o4.toNat)).bind fun y7 =>
 if ((y5++[y6]).length + y7.length) * (24 * 22)≤aC then (
(((fI a0 a1.1).bind fun y8 =>
 bif decide (y8≥0) then (
 some true)
 else (
(fg ((y5++[y6])++y7)).bind fun y9 =>
 some (!y9))):Option Bool).bind fun o10 =>
 bif o10 then (
(ck a0).bind fun y11 =>
 some (y11,false,()))
 else (
 some (((y5++[y6])++y7),true,()))) else none) else none) else none) else none) else none) else none) else none) else none
def I7:Hints:=(n0 (n0 (nd (nd (.node none (some ⟨[.tmp 6 (.int .i64)],[some 0],none,[]⟩) (nd (nd (cu ⟨[.tmp 21 .bool],[none],none,[]⟩) .none) .none) .none) .none) (n0 (n0 (n0 (nd (nd (cu ⟨[.tmp 48 .bool],[none],none,[]⟩) .none) .none)))))))
def pa:Ct:=.pure false true (.pair (.slice aa) (.pair aa .unit)) (.pair (.slice aa) (.pair .bool .unit)) (fun x=>qs x.1 x.2.1)
theorem xq:KC 98 pa:=pq (Ec j9 (Ec cG (Ec cF (Ec i8 En)))) I7 Tryz.func98
def zN (a0:(List aa.D)) (a1:Int):Option ((List aa.D)×(Bool×Unit)) :=
(fI a0 a1).bind fun y1 =>
 bif decide (y1 < 0) then (
(ck a0).bind fun y2 =>
 some (y2,false,()))
 else (
 if 0≤(0:Int) then (if (0:Int)≤y1 then (if y1≤(a0.length:Int) then (
(ck ((a0.take y1.toNat).drop (0:Int).toNat)).bind fun y3 =>
 if 0≤(IntKind.wrap .i64 (y1 + 1)) then (if (IntKind.wrap .i64 (y1 + 1))≤(a0.length:Int) then (if (a0.length:Int)≤(a0.length:Int) then (
(ck ((a0.take (a0.length:Int).toNat).drop (IntKind.wrap .i64 (y1 + 1)).toNat)).bind fun y4 =>
 if (y3.length + y4.length) * (24 * 22)≤aC then (
 some ((y3++y4),true,())) else none) else none) else none) else none) else none) else none) else none)
def sV:Ct:=.pure false true (.pair (.slice aa) (.pair (.int .i64) .unit)) (.pair (.slice aa) (.pair .bool .unit)) (fun x=>zN x.1 x.2.1)
theorem Bk:KC 99 sV:=pq (Ec cG (Ec i8 En)) .none Tryz.func99
def kb (a0:(List ac.D)):Int→Option (Int⊕(Int⊕Bool)):=fun s1 =>
 bif decide (s1 < (a0.length:Int)) then (
 idx a0 s1 fun x2 =>
(bV x2).bind fun y3 =>
 bif (!y3) then (
 some (.inr (.inr false)))
 else (
 some (.inl (IntKind.wrap .i64 (s1 + 1)))))
 else (
 some (.inr (.inl s1)))
def l9 (a0:(List ac.D)):Option Bool :=
(al (kb a0) 0).bind fun o4 =>
 match o4 with
| .inl s5=>(
 some (decide ((a0.length:Int)≤4)))
| .inr o6=>(
 some o6)
def I8:Hints:=(n0 (nd (n0 (nd (.node none (some ⟨[.tmp 3 (.int .i64)],[some 0],some [.tmp 2 .bool],[]⟩) .none .none) .none)) .none))
def yz:Ct:=.pure true false (.pair (.slice ac) .unit) .bool (fun x=>l9 x.1)
theorem wF:KC 78 yz:=pq (Ec cK En) I8 Tryz.func78
def i9 (a0:ba.D):Option ba.D :=
 if (([]:List ac.D).length + a0.1.length) * (24 * 7)≤aC then (
(ck a0.2.1).bind fun y1 =>
 if (([]:List Int).length + a0.2.2.1.length) * (24 * 1)≤aC then (
(jI a0.2.2.2.1).bind fun y2 =>
 some (([]++a0.1),y1,([]++a0.2.2.1),y2,())) else none) else none
def yA:Ct:=.pure true true (.pair ba .unit) ba (fun x=>i9 x.1)
theorem nr:KC 173 yA:=pq (Ec cG (Ec l0 En)) .none Tryz.func173
def sW (a0:(List Int)) (a1:Int):Int→Option (Int⊕(Int⊕Bool)):=fun s1 =>
 bif decide (s1 < (a0.length:Int)) then (
 idx a0 s1 fun x2 =>
 bif (x2 == a1) then (
 some (.inr (.inr true)))
 else (
 some (.inl (IntKind.wrap .i64 (s1 + 1)))))
 else (
 some (.inr (.inl s1)))
def uv (a0:(List Int)) (a1:Int):Option Bool :=
(al (sW a0 a1) 0).bind fun o3 =>
 match o3 with
| .inl s4=>(
 some false)
| .inr o5=>(
 some o5)
def QM:Hints:=(n0 (nd (n0 (nd (.node none (some ⟨[.tmp 5 (.int .i64)],[some 0],some [.tmp 4 .bool],[]⟩) .none .none) .none)) .none))
def QN:Ct:=.pure true false (.pair (.slice (.int .i64)) (.pair (.int .i64) .unit)) .bool (fun x=>uv x.1 x.2.1)
theorem yB:KC 324 QN:=pq En QM Tryz.func324
def nJ (a0:aa.D) (a1:Int):Option Bool :=
 bif (a0.2.2.2.2.2.2.2.2.1 != 0) then (
 bif (a0.2.2.2.2.2.2.2.1 == (-1)) then (
 some true)
 else (
 some (decide (a0.2.2.2.2.2.2.2.1≥a1))))
 else (
 some false)
def NA:Ct:=.pure true false (.pair aa (.pair (.int .i64) .unit)) .bool (fun x=>nJ x.1 x.2.1)
theorem AP:KC 230 NA:=pq En .none Tryz.func230
def EJ (a0:aa.D) (a1:ac.D):Option Bool :=
 bif (a0.2.2.2.1 != 0) then (
 some true)
 else (
 bif (a0.2.2.1 == a1.2.1) then (
 some true)
 else (
 some (a0.2.2.1 == a1.2.2.1)))
def Pm:Ct:=.pure true false (.pair aa (.pair ac .unit)) .bool (fun x=>EJ x.1 x.2.1)
theorem NB:KC 365 Pm:=pq En .none Tryz.func365
def rC (a0:ae.D) (a1:Int):(Int×Int)→Option ((Int×Int)⊕(Int×Int)):=fun s1 =>
 bif decide (s1.2 < (a0.1.length:Int)) then (
((idx a0.1 s1.2 fun x2 =>
 bif (x2.2.2.2.1 == 2) then (
 idx a0.1 s1.2 fun x3 =>
 some (x3.2.2.1 == a1))
 else (
 some false)):Option Bool).bind fun o4 =>
((bif o4 then (
 some (IntKind.wrap .i64 (s1.1 + 1)))
 else (
 some s1.1)):Option Int).bind fun o5 =>
 some (.inl (o5,IntKind.wrap .i64 (s1.2 + 1))))
 else (
 some (.inr s1))
def sX (a0:ae.D) (a1:Int):Option Int :=
(al (rC a0 a1) (0,0)).bind fun o6 =>
 some o6.1
def Lg:Hints:=(n0 (n0 (nd (n0 (nd (.node none (some ⟨[.tmp 5 (.int .i64),.tmp 6 (.int .i64)],[some 0],none,[]⟩) (n0 (nd (nd (nd (cu ⟨[.tmp 30 .bool],[none],none,[]⟩) (cu ⟨[.tmp 5 (.int .i64)],[none],none,[]⟩)) .none) .none)) .none) .none)) .none)))
def Lh:Ct:=.pure true false (.pair ae (.pair (.int .i64) .unit)) (.int .i64) (fun x=>sX x.1 x.2.1)
theorem I9:KC 385 Lh:=pq En Lg Tryz.func385
def rD (a0:ae.D) (a1:Int):(Int×Int)→Option ((Int×Int)⊕(Int×Int)):=fun s1 =>
 bif decide (s1.2 < (a0.1.length:Int)) then (
((idx a0.1 s1.2 fun x2 =>
 bif (x2.2.2.2.1 == 2) then (
 idx a0.1 s1.2 fun x3 =>
 bif (x3.2.2.1 == a1) then (
 idx a0.1 s1.2 fun x4 =>
 some x4.2.2.2.2.2.2.2.2.2.2.2.2.1)
 else (
 some false))
 else (
 some false)):Option Bool).bind fun o5 =>
((bif o5 then (
 some (IntKind.wrap .i64 (s1.1 + 1)))
 else (
 some s1.1)):Option Int).bind fun o6 =>
 some (.inl (o6,IntKind.wrap .i64 (s1.2 + 1))))
 else (
 some (.inr s1))
def sY (a0:ae.D) (a1:Int):Option Int :=
(al (rD a0 a1) (0,0)).bind fun o7 =>
 some o7.1
def Li:Hints:=(n0 (n0 (nd (n0 (nd (.node none (some ⟨[.tmp 5 (.int .i64),.tmp 6 (.int .i64)],[some 0],none,[]⟩) (n0 (nd (nd (nd (cu ⟨[.tmp 38 .bool],[none],none,[]⟩) (cu ⟨[.tmp 5 (.int .i64)],[none],none,[]⟩)) .none) .none)) .none) .none)) .none)))
def Lj:Ct:=.pure true false (.pair ae (.pair (.int .i64) .unit)) (.int .i64) (fun x=>sY x.1 x.2.1)
theorem Ja:KC 386 Lj:=pq En Li Tryz.func386
def vL (a0:ae.D) (a1:Int) (a2:bc.D):Option Bool :=
(((i6 a2).bind fun y1 =>
 bif (!y1) then (
 some true)
 else (
(aD a1 0 (IntKind.wrap .i64 ((a0.2.1.length:Int) - 1))).bind fun y2 =>
 some (!y2))):Option Bool).bind fun o3 =>
 bif o3 then (
 some false)
 else (
 bif (a2.1 == 1) then (
 idx a0.2.1 a1 fun x4 =>
 some (decide (x4.1≤a2.2.1)))
 else (
 bif (a2.1 == 2) then (
(sX a0 a1).bind fun y5 =>
 some (decide (y5≥a2.2.1)))
 else (
 bif (a2.1 == 3) then (
 some (a0.2.2.1 == a1))
 else (
 bif (a2.1 == 4) then (
(sY a0 a1).bind fun y6 =>
 some (decide (y6≥a2.2.1)))
 else (
 some true)))))
def NC:Hints:=(n0 (nd (nd (cu ⟨[.tmp 18 .bool],[none],none,[]⟩) .none) .none))
def ND:Ct:=.pure true false (.pair ae (.pair (.int .i64) (.pair bc .unit))) .bool (fun x=>vL x.1 x.2.1 x.2.2.1)
theorem Lk:KC 366 ND:=pq (Ec bU (Ec wC (Ec I9 (Ec Ja En)))) NC Tryz.func366
def kc (a0:ae.D) (a1:Int):Int→Option (Int⊕(Int⊕Int)):=fun s1 =>
 bif decide (s1 < (a0.1.length:Int)) then (
 idx a0.1 s1 fun x2 =>
 bif (x2.1 == a1) then (
 some (.inr (.inr s1)))
 else (
 some (.inl (IntKind.wrap .i64 (s1 + 1)))))
 else (
 some (.inr (.inl s1)))
def eq (a0:ae.D) (a1:Int):Option Int :=
(al (kc a0 a1) 0).bind fun o3 =>
 match o3 with
| .inl s4=>(
 some (-1))
| .inr o5=>(
 some o5)
def Jb:Hints:=(n0 (nd (n0 (nd (.node none (some ⟨[.tmp 5 (.int .i64)],[some 0],some [.tmp 4 (.int .i64)],[]⟩) .none .none) .none)) .none))
def Jc:Ct:=.pure true false (.pair ae (.pair (.int .i64) .unit)) (.int .i64) (fun x=>eq x.1 x.2.1)
theorem eW:KC 321 Jc:=pq En Jb Tryz.func321
def pb (a0:ae.D) (a1:ac.D):Option Int :=
 bif (a1.2.2.1 == 0) then (
(aD a1.2.2.2.1 0 (IntKind.wrap .i64 ((a0.2.1.length:Int) - 1))).bind fun y1 =>
 bif (!y1) then (
 some (-1))
 else (
 some a1.2.2.2.1))
 else (
(eq a0 a1.2.2.1).bind fun y2 =>
 bif decide (y2 < 0) then (
 some (-1))
 else (
 idx a0.1 y2 fun x3 =>
 some x3.2.2.1))
def Ll:Ct:=.pure true false (.pair ae (.pair ac .unit)) (.int .i64) (fun x=>pb x.1 x.2.1)
theorem yC:KC 339 Ll:=pq (Ec bU (Ec eW En)) .none Tryz.func339
def kd (a0:ae.D) (a1:Int) (a2:cn.D) (a3:ac.D):Option Bool :=
(pb a0 a3).bind fun y1 =>
((bif (y1 == (-1)) then (
 some true)
 else (
 bif (a2.2.1 == 1) then (
 bif (y1 != a1) then (
 some true)
 else (
 bif (a2.2.1 == 2) then (
 some (y1 == a1))
 else (
 some false)))
 else (
 bif (a2.2.1 == 2) then (
 some (y1 == a1))
 else (
 some false)))):Option Bool).bind fun o2 =>
 bif o2 then (
 some false)
 else (
 bif (a2.2.2.2.2.1 == 0) then (
 some true)
 else (
 some (a2.2.2.2.2.1 == a3.2.2.1)))
def CU:Hints:=(n0 (n0 (nd (nd (cu ⟨[.tmp 34 .bool],[none],none,[]⟩) .none) .none)))
def CV:Ct:=.pure true false (.pair ae (.pair (.int .i64) (.pair cn (.pair ac .unit)))) .bool (fun x=>kd x.1 x.2.1 x.2.2.1 x.2.2.2.1)
theorem Bl:KC 387 CV:=pq (Ec yC En) CU Tryz.func387
def gn (a0:ae.D) (a1:ac.D):Option ah.D :=
(eq a0 a1.2.1).bind fun y1 =>
((bif (a1.1 != 1) then (
 some true)
 else (
 some (decide (y1 < 0)))):Option Bool).bind fun o2 =>
 bif o2 then (
 some (0,0,0,0,0,0,0,0,0,0,0,false,false,()))
 else (
 idx a0.1 y1 fun x3 =>
 some x3)
def Lm:Hints:=(n0 (n0 (nd (nd (cu ⟨[.tmp 16 .bool],[none],none,[]⟩) .none) .none)))
def Ln:Ct:=.pure true false (.pair ae (.pair ac .unit)) ah (fun x=>gn x.1 x.2.1)
theorem rE:KC 327 Ln:=pq (Ec eW En) Lm Tryz.func327
def kg (a0:ae.D) (a1:cn.D) (a2:ac.D):Option Bool :=
 bif (a1.2.2.1 == 0) then (
(gn a0 a2).bind fun y1 =>
 let k2:Int:=IntKind.wrap .i64 (BitVec.ofInt (IntKind.bits .i64) y1.2.2.2.2.2.2.2.1 &&& BitVec.ofInt (IntKind.bits .i64) a1.2.2.2.1).toNat
 some (k2 == a1.2.2.2.1))
 else (
 bif (a1.2.2.1 == a2.2.1) then (
(gn a0 a2).bind fun y3 =>
 let k4:Int:=IntKind.wrap .i64 (BitVec.ofInt (IntKind.bits .i64) y3.2.2.2.2.2.2.2.1 &&& BitVec.ofInt (IntKind.bits .i64) a1.2.2.2.1).toNat
 some (k4 == a1.2.2.2.1))
 else (
 some false))
def CW:Ct:=.pure true false (.pair ae (.pair cn (.pair ac .unit))) .bool (fun x=>kg x.1 x.2.1 x.2.2.1)
theorem Bm:KC 388 CW:=pq (Ec rE En) .none Tryz.func388
def qt (a0:ae.D) (a1:Int) (a2:cn.D) (a3:ac.D):Option Bool :=
(nH a2).bind fun y1 =>
 bif y1 then (
(bV a3).bind fun y2 =>
 bif y2 then (
 bif (a2.1 == a3.1) then (
(kd a0 a1 a2 a3).bind fun y3 =>
 bif y3 then (
(kg a0 a2 a3).bind fun y4 =>
 bif y4 then (
 bif decide (a3.2.2.2.2.1≥a2.2.2.2.2.2.1) then (
 bif (a2.2.2.2.2.2.2.1 == 0) then (
 some true)
 else (
 some (a2.2.2.2.2.2.2.1 == a3.2.2.2.2.2.1)))
 else (
 some false))
 else (
 some false))
 else (
 some false))
 else (
 some false))
 else (
 some false))
 else (
 some false)
def Jd:Ct:=.pure true false (.pair ae (.pair (.int .i64) (.pair cn (.pair ac .unit)))) .bool (fun x=>qt x.1 x.2.1 x.2.2.1 x.2.2.2.1)
theorem Gw:KC 367 Jd:=pq (Ec cK (Ec AN (Ec Bl (Ec Bm En)))) .none Tryz.func367
def uw (a0:ae.D) (a1:aa.D) (a2:ac.D):Option Bool :=
(fH a1).bind fun y1 =>
 bif y1 then (
(nJ a1 a0.2.2.2.1).bind fun y2 =>
 bif y2 then (
(EJ a1 a2).bind fun y3 =>
 bif y3 then (
(vL a0 a1.2.1 a1.2.2.2.2.2.1).bind fun y4 =>
 bif y4 then (
(qt a0 a1.2.1 a1.2.2.2.2.1 a2).bind fun y5 =>
 some y5)
 else (
 some false))
 else (
 some false))
 else (
 some false))
 else (
 some false)
def Pn:Ct:=.pure true false (.pair ae (.pair aa (.pair ac .unit))) .bool (fun x=>uw x.1 x.2.1 x.2.2.1)
theorem NE:KC 333 Pn:=pq (Ec AP (Ec nI (Ec NB (Ec Lk (Ec Gw En))))) .none Tryz.func333
def ki (a0:ae.D) (a1:(List aa.D)) (a2:ac.D) (a3:(List Int)):((List Int)×(Int×Int))→Option (((List Int)×(Int×Int))⊕((List Int)×(Int×Int))):=fun s1 =>
 bif decide (s1.2.2 < (a1.length:Int)) then (
((((idx a1 s1.2.2 fun x2 =>
(uv a3 x2.1).bind fun y3 =>
 bif y3 then (
 some true)
 else (
 idx a1 s1.2.2 fun x4 =>
(uw a0 x4 a2).bind fun y5 =>
 bif (!y5) then (
 some true)
 else (
 idx a1 s1.2.2 fun x6 =>
 some (decide (x6.2.2.2.1 > s1.2.1))))):Option Bool).bind fun o7 =>
 bif o7 then (
 some (s1.1,s1.2.1))
 else (
 idx a1 s1.2.2 fun x8 =>
((bif decide (x8.2.2.2.1 < s1.2.1) then (
 idx a1 s1.2.2 fun x9 =>
 some ([],x9.2.2.2.1))
 else (
 some (s1.1,s1.2.1))):Option ((List Int)×Int)).bind fun o10 =>
 idx a1 s1.2.2 fun x11 =>
 if (o10.1.length + [x11.1].length) * (24 * 1)≤aC then (
 some ((o10.1++[x11.1]),o10.2)) else none)):Option ((List Int)×Int)).bind fun o12 =>
 some (.inl (o12.1,o12.2,IntKind.wrap .i64 (s1.2.2 + 1))))
 else (
 some (.inr s1))
def qv (a0:ae.D) (a1:(List aa.D)) (a2:ac.D) (a3:(List Int)):Option (List Int) :=
(al (ki a0 a1 a2 a3) ([],5,0)).bind fun o13 =>
 some o13.1
def Je:Hints:=(n0 (n0 (n0 (nd (n0 (nd (.node none (some ⟨[.tmpO 9 0 (.slice (.int .i64)),.tmp 10 (.int .i64),.tmp 11 (.int .i64)],[some 0],none,[]⟩) (n0 (nd (.node (some ⟨[.tmpO 9 1 (.slice (.int .i64)),.tmp 10 (.int .i64)],[none],none,[(9,0)]⟩) none (nd (nd (cu ⟨[.tmp 44 .bool],[none],none,[]⟩) .none) (nd (n0 (cu ⟨[.tmpO 9 1 (.slice (.int .i64)),.tmp 10 (.int .i64)],[none],none,[(9,0)]⟩)) .none)) .none) .none)) .none) .none)) .none))))
def pd:Ct:=.pure true true (.pair ae (.pair (.slice aa) (.pair ac (.pair (.slice (.int .i64)) .unit)))) (.slice (.int .i64)) (fun x=>qv x.1 x.2.1 x.2.2.1 x.2.2.2.1)
theorem xv:KC 265 pd:=pq (Ec yB (Ec NE En)) Je Tryz.func265
def ux (a0:ac.D):Option Bool :=
 bif (a0.2.2.2.2.1 == 0) then (
 some (a0.1 != 2))
 else (
 some false)
def F4:Ct:=.pure true false (.pair ac .unit) .bool (fun x=>ux x.1)
theorem CX:KC 266 F4:=pq En .none Tryz.func266
def uy (a0:(List Int)) (a1:Int):Option (Int×((List Int)×Unit)) :=
((bif decide (a1 < 2) then (
 some true)
 else (
 some ((a0.length:Int) == 0))):Option Bool).bind fun o1 =>
 bif o1 then (
 if (([]:List Int).length + a0.length) * (24 * 1)≤aC then (
 some (0,([]++a0),())) else none)
 else (
 idx a0 0 fun x2 =>
 if a1=0 then none else (
((bif decide ((x2.tmod a1) < 0) then (
 some (IntKind.wrap .i64 ((x2.tmod a1) + a1)))
 else (
 some (x2.tmod a1))):Option Int).bind fun o3 =>
 if 0≤(1:Int) then (if (1:Int)≤(a0.length:Int) then (if (a0.length:Int)≤(a0.length:Int) then (
 if (([]:List Int).length + ((a0.take (a0.length:Int).toNat).drop (1:Int).toNat).length) * (24 * 1)≤aC then (
 some (o3,([]++((a0.take (a0.length:Int).toNat).drop (1:Int).toNat)),())) else none) else none) else none) else none))
def Po:Hints:=(n0 (nd (nd (cu ⟨[.tmp 13 .bool],[none],none,[]⟩) .none) (n0 (nd (n0 (cu ⟨[.tmp 6 (.int .i64)],[none],none,[]⟩)) .none))))
def sZ:Ct:=.pure false true (.pair (.slice (.int .i64)) (.pair (.int .i64) .unit)) (.pair (.int .i64) (.pair (.slice (.int .i64)) .unit)) (fun x=>uy x.1 x.2.1)
theorem rF:KC 267 sZ:=pq En Po Tryz.func267
def eK (a0:Int) (a1:Int):Option Int :=
((bif decide (a1 < a0) then (
 some a1)
 else (
 some a0)):Option Int).bind fun o1 =>
 bif decide (o1 < 0) then (
 some 0)
 else (
 some o1)
def Pp:Hints:=(n0 (n0 (nd (n0 (cu ⟨[.tmp 5 (.int .i64)],[none],none,[]⟩)) .none)))
def Pq:Ct:=.pure true false bc (.int .i64) (fun x=>eK x.1 x.2.1)
theorem gx:KC 334 Pq:=pq En Pp Tryz.func334
def nK (a0:ac.D) (a1:Int):Option ac.D :=
(eK a1 2147483647).bind fun y1 =>
 some (a0.1,a0.2.1,a0.2.2.1,a0.2.2.2.1,y1,a0.2.2.2.2.2)
def NF:Ct:=.pure true false (.pair ac (.pair (.int .i64) .unit)) ac (fun x=>nK x.1 x.2.1)
theorem AQ:KC 335 NF:=pq (Ec gx En) .none Tryz.func335
def tR (a0:bg.D) (a1:ac.D):((List ac.D)×Int)→Option (((List ac.D)×Int)⊕((List ac.D)×Int)):=fun s1 =>
((bif decide (s1.2 < (a0.2.2.2.2.2.2.1.length:Int)) then (
 some (a0.1 == 9))
 else (
 some false)):Option Bool).bind fun o2 =>
 bif o2 then (
 idx a0.2.2.2.2.2.2.1 s1.2 fun x3 =>
((bif (x3.2.2.2.2.1 == (-1)) then (
(eK a1.2.2.2.2.1 2147483647).bind fun y4 =>
 some (x3.1,x3.2.1,x3.2.2.1,x3.2.2.2.1,y4,x3.2.2.2.2.2))
 else (
 some x3)):Option ac.D).bind fun o5 =>
 if (s1.1.length + [o5].length) * (24 * 7)≤aC then (
 some (.inl ((s1.1++[o5]),IntKind.wrap .i64 (s1.2 + 1)))) else none)
 else (
 some (.inr s1))
def rG (a0:bg.D) (a1:ac.D):Option (List ac.D) :=
(al (tR a0 a1) ([],0)).bind fun o6 =>
 some o6.1
def NG:Hints:=(n0 (n0 (nd (n0 (nd (.node none (some ⟨[.tmpO 5 0 (.slice ac),.tmp 6 (.int .i64)],[some 0],none,[]⟩) (nd (nd (cu ⟨[.tmp 18 .bool],[none],none,[]⟩) .none) (nd (nd (n0 (nd (n0 (cu ⟨[.box 7 0 ac],[none],none,[(7,0)]⟩)) .none)) .none) .none)) .none) .none)) .none)))
def Bn:Ct:=.pure true true (.pair bg (.pair ac .unit)) (.slice ac) (fun x=>rG x.1 x.2.1)
theorem z7:KC 336 Bn:=pq (Ec gx En) NG Tryz.func336
def db (a0:Int):Option Int :=
 bif decide (a0 > 2147483647) then (
 some 2147483647)
 else (
 bif decide (a0 < (-2147483647)) then (
 some (-2147483647))
 else (
 some a0))
def NH:Ct:=.pure true false (.pair (.int .i64) .unit) (.int .i64) (fun x=>db x.1)
theorem oz:KC 391 NH:=pq En .none Tryz.func391
def dV (a0:Int) (a1:Int):Option Int :=
(db a0).bind fun y1 =>
(db a1).bind fun y2 =>
(db (IntKind.wrap .i64 (y1 + y2))).bind fun y3 =>
 some y3
def Pr:Ct:=.pure true false bc (.int .i64) (fun x=>dV x.1 x.2.1)
theorem qw:KC 383 Pr:=pq (Ec oz En) .none Tryz.func383
def Bo (a0:Int):Option Int :=
(db a0).bind fun y1 =>
(db (IntKind.wrap .i64 (2 * y1))).bind fun y2 =>
 some y2
def NI:Ct:=.pure true false (.pair (.int .i64) .unit) (.int .i64) (fun x=>Bo x.1)
theorem Lo:KC 389 NI:=pq (Ec oz En) .none Tryz.func389
def EK (a0:Int):Option Int :=
(db a0).bind fun y1 =>
 if 2=0 then none else (
 some (IntKind.wrap .i64 (y1.tdiv 2)))
def Ps:Ct:=.pure true false (.pair (.int .i64) .unit) (.int .i64) (fun x=>EK x.1)
theorem NJ:KC 390 Ps:=pq (Ec oz En) .none Tryz.func390
def tc (a0:bg.D) (a1:Int):Option Int :=
(eK a1 2147483647).bind fun y1 =>
 bif (a0.1 == 1) then (
 some 0)
 else (
 bif (a0.1 == 3) then (
(dV y1 a0.2.1).bind fun y2 =>
 some y2)
 else (
 bif (a0.1 == 4) then (
(Bo y1).bind fun y3 =>
 some y3)
 else (
 bif (a0.1 == 5) then (
(EK y1).bind fun y4 =>
 some y4)
 else (
 some y1))))
def Lp:Ct:=.pure true false (.pair bg (.pair (.int .i64) .unit)) (.int .i64) (fun x=>tc x.1 x.2.1)
theorem Jf:KC 368 Lp:=pq (Ec gx (Ec qw (Ec Lo (Ec NJ En)))) .none Tryz.func368
def td (a0:bg.D) (a1:ac.D):Option ac.D :=
((bif (a0.1 == 3) then (
 some (a0.1 == 3))
 else (
((bif (a0.1 == 4) then (
 some (a0.1 == 4))
 else (
 some (a0.1 == 5))):Option Bool).bind fun o1 =>
 some o1)):Option Bool).bind fun o2 =>
 bif o2 then (
(tc a0 a1.2.2.2.2.1).bind fun y3 =>
(nK a1 y3).bind fun y4 =>
 some y4)
 else (
 bif (a0.1 == 6) then (
 some (a1.1,a1.2.1,a0.2.2.1,a0.2.2.2.1,a1.2.2.2.2))
 else (
 bif (a0.1 == 7) then (
 bif (a0.2.2.2.2.1 != 2) then (
 some (a1.1,a1.2.1,a1.2.2.1,a1.2.2.2.1,0,a0.2.2.2.2.1,false,()))
 else (
 some (a1.1,a1.2.1,a1.2.2.1,a1.2.2.2.1,a1.2.2.2.2.1,a0.2.2.2.2.1,a1.2.2.2.2.2.2)))
 else (
 bif (a0.1 == 8) then (
 bif (a1.2.2.2.2.2.1 == 2) then (
(eK (IntKind.wrap .i64 (a1.2.2.2.2.1 + a0.2.1)) 99).bind fun y5 =>
 bif a1.2.2.2.2.2.2.1 then (
 some (a1.1,a1.2.1,a1.2.2.1,a1.2.2.2.1,y5,a1.2.2.2.2.2.1,true,()))
 else (
 some (a1.1,a1.2.1,a1.2.2.1,a1.2.2.2.1,y5,a1.2.2.2.2.2.1,a0.2.2.2.2.2.1,())))
 else (
 some a1))
 else (
 some a1))))
def Lq:Hints:=(n0 (nd (n0 (nd (nd (n0 (.node (some ⟨[.tmp 7 .bool],[none],none,[]⟩) none .none (n0 (cu ⟨[.tmp 7 .bool],[none],none,[]⟩)))) .none) .none)) .none))
def Lr:Ct:=.pure true false (.pair bg (.pair ac .unit)) ac (fun x=>td x.1 x.2.1)
theorem Jg:KC 337 Lr:=pq (Ec gx (Ec AQ (Ec Jf En))) Lq Tryz.func337
def ja (a0:Int) (a1:Int):Option Int :=
(db a0).bind fun y1 =>
(db a1).bind fun y2 =>
(db (IntKind.wrap .i64 (y1 - y2))).bind fun y3 =>
 some y3
def Pt:Ct:=.pure true false bc (.int .i64) (fun x=>ja x.1 x.2.1)
theorem qx:KC 369 Pt:=pq (Ec oz En) .none Tryz.func369
def vM (a0:aa.D) (a1:Int):Option aa.D :=
(dM a0).bind fun y1 =>
 bif (a0.2.2.2.2.2.2.1.1 == 2) then (
(ja a0.2.2.2.2.2.2.2.2.1 a1).bind fun y2 =>
(eK y2 2147483647).bind fun y3 =>
 some (y1.1,y1.2.1,y1.2.2.1,y1.2.2.2.1,y1.2.2.2.2.1,y1.2.2.2.2.2.1,y1.2.2.2.2.2.2.1,y1.2.2.2.2.2.2.2.1,y3,()))
 else (
 bif decide (a0.2.2.2.2.2.2.2.2.1 > 0) then (
 some (y1.1,y1.2.1,y1.2.2.1,y1.2.2.2.1,y1.2.2.2.2.1,y1.2.2.2.2.2.1,y1.2.2.2.2.2.2.1,y1.2.2.2.2.2.2.2.1,IntKind.wrap .i64 (a0.2.2.2.2.2.2.2.2.1 - 1),()))
 else (
 some y1))
def Bp:Ct:=.pure true true (.pair aa (.pair (.int .i64) .unit)) aa (fun x=>vM x.1 x.2.1)
theorem z8:KC 338 Bp:=pq (Ec cF (Ec gx (Ec qx En))) .none Tryz.func338
def oA (o13:((List ac.D)×Int)):((List ac.D)×Int)→Option (((List ac.D)×Int)⊕((List ac.D)×Int)):=fun s14 =>
 bif decide (s14.2 < (o13.1.length:Int)) then (
((idx o13.1 s14.2 fun _ =>
(o13.1[(s14.2:Int).toNat]?).bind fun x15 =>
(bV x15).bind fun y16 =>
 bif y16 then (
 idx o13.1 s14.2 fun _ =>
(o13.1[(s14.2:Int).toNat]?).bind fun x17 =>
(ux x17).bind fun y18 =>
 some (!y18))
 else (
 some false)):Option Bool).bind fun o19 =>
((bif o19 then (
 idx o13.1 s14.2 fun _ =>
(o13.1[(s14.2:Int).toNat]?).bind fun x20 =>
 if (s14.1.length + [x20].length) * (24 * 7)≤aC then (
 some (s14.1++[x20])) else none)
 else (
 some s14.1)):Option (List ac.D)).bind fun o21 =>
 some (.inl (o21,IntKind.wrap .i64 (s14.2 + 1))))
 else (
 some (.inr s14))
def vN (a0:aa.D) (a1:ac.D):Option ((List ac.D)×(Int×(aa.D×Unit))) :=
(((fH a0).bind fun y1 =>
 bif (!y1) then (
 some true)
 else (
(bV a1).bind fun y2 =>
 bif (!y2) then (
 some true)
 else (
(l8 a0.2.2.2.2.2.2.1 a1.1).bind fun y3 =>
 some (!y3)))):Option Bool).bind fun o4 =>
 bif o4 then (
(dM a0).bind fun y5 =>
 some ([a1],0,y5,()))
 else (
((bif (a0.2.2.2.2.2.2.1.1 == 1) then (
((bif (a1.1 == 1) then (
 some a1.2.2.2.2.1)
 else (
 some 0)):Option Int).bind fun o6 =>
 some ([],o6))
 else (
((bif (a0.2.2.2.2.2.2.1.1 == 2) then (
(eK a1.2.2.2.2.1 a0.2.2.2.2.2.2.2.2.1).bind fun y7 =>
(nK a1 (IntKind.wrap .i64 (a1.2.2.2.2.1 - y7))).bind fun y8 =>
 if (([]:List ac.D).length + [y8].length) * (24 * 7)≤aC then (
 some (([]++[y8]),y7)) else none)
 else (
((bif (a0.2.2.2.2.2.2.1.1 == 9) then (
(rG a0.2.2.2.2.2.2.1 a1).bind fun y9 =>
 some y9)
 else (
(td a0.2.2.2.2.2.2.1 a1).bind fun y10 =>
 if (([]:List ac.D).length + [y10].length) * (24 * 7)≤aC then (
 some ([]++[y10])) else none)):Option (List ac.D)).bind fun o11 =>
 some (o11,0))):Option ((List ac.D)×Int)).bind fun o12 =>
 some o12)):Option ((List ac.D)×Int)).bind fun o13 =>
(al (oA o13) ([],0)).bind fun o22 =>
(vM a0 o13.2).bind fun y23 =>
 some (o22.1,o13.2,y23,()))
def NK:Hints:=(n0 (nd (nd (cu ⟨[.tmp 26 .bool],[none],none,[]⟩) .none) (n0 (n0 (nd (n0 (nd (n0 (.node (some ⟨[.tmpO 7 0 (.slice ac),.tmp 8 (.int .i64)],[none],none,[(31,0)]⟩) none (n0 (cu ⟨[.tmp 8 (.int .i64)],[none],none,[]⟩)) (n0 (.node (some ⟨[.tmpO 7 0 (.slice ac),.tmp 8 (.int .i64)],[none],none,[(31,0)]⟩) none .none (n0 (cu ⟨[.tmpO 7 0 (.slice ac)],[none],none,[(31,0)]⟩)))))) .none)) (n0 (nd (n0 (nd (.node none (some ⟨[.tmpO 9 0 (.slice ac),.tmp 10 (.int .i64)],[some 1],none,[]⟩) (n0 (nd (nd (nd (cu ⟨[.tmp 90 .bool],[none],none,[]⟩) (cu ⟨[.tmpO 9 1 (.slice ac)],[none],none,[(9,0)]⟩)) .none) .none)) .none) .none)) .none)))))))
def rH:Ct:=.pure false true (.pair aa (.pair ac .unit)) (.pair (.slice ac) (.pair (.int .i64) (.pair aa .unit))) (fun x=>vN x.1 x.2.1)
theorem z9:KC 268 rH:=pq (Ec cK (Ec cF (Ec nI (Ec CX (Ec wD (Ec gx (Ec AQ (Ec z7 (Ec Jg (Ec z8 En)))))))))) NK Tryz.func268
def th (a0:(List aa.D)) (a1:aa.D):Option (List aa.D) :=
(ck a0).bind fun y1 =>
(fI a0 a1.1).bind fun y2 =>
 bif decide (y2≥0) then (
(dM a1).bind fun y3 =>
 idx y1 y2 fun _ =>
(y1[(y2:Int).toNat]?).bind fun x4 =>
 let u5:(List aa.D):=y1.set (y2:Int).toNat y3
 some u5)
 else (
 some y1)
def qb:Ct:=.pure true true (.pair (.slice aa) (.pair aa .unit)) (.slice aa) (fun x=>th x.1 x.2.1)
theorem yD:KC 269 qb:=pq (Ec cG (Ec cF (Ec i8 En))) .none Tryz.func269
def qy (a0:ae.D) (a1:ac.D):Option Int :=
(pb a0 a1).bind fun y1 =>
 bif (y1 == (-1)) then (
 some a0.2.2.1)
 else (
 some y1)
def yE:Ct:=.pure true false (.pair ae (.pair ac .unit)) (.int .i64) (fun x=>qy x.1 x.2.1)
theorem Gx:KC 270 yE:=pq (Ec yC En) .none Tryz.func270
def tS (a0:(List Int)) (s1:((List Int)×Int)):Int→Option (Int⊕Int):=fun s4 =>
((bif decide (s4 > 0) then (
 idx s1.1 (IntKind.wrap .i64 (s4 - 1)) fun _ =>
(s1.1[(IntKind.wrap .i64 (s4 - 1):Int).toNat]?).bind fun x5 =>
 idx a0 s1.2 fun x6 =>
 some (decide (x5 > x6)))
 else (
 some false)):Option Bool).bind fun o7 =>
 bif o7 then (
 some (.inl (IntKind.wrap .i64 (s4 - 1))))
 else (
 some (.inr s4))
def tT (a0:(List Int)):((List Int)×Int)→Option (((List Int)×Int)⊕((List Int)×Int)):=fun s1 =>
 bif decide (s1.2 < (a0.length:Int)) then (
((idx a0 s1.2 fun x2 =>
(uv s1.1 x2).bind fun y3 =>
 bif y3 then (
 some s1.1)
 else (
(al (tS a0 s1) (s1.1.length:Int)).bind fun o8 =>
 if 0≤(0:Int) then (if (0:Int)≤o8 then (if o8≤(s1.1.length:Int) then (
 if (([]:List Int).length + ((s1.1.take (o8.toNat)).drop ((0:Int).toNat)).length) * (24 * 1)≤aC then (
 idx a0 s1.2 fun x9 =>
 if (([]++((s1.1.take (o8.toNat)).drop ((0:Int).toNat))).length + [x9].length) * (24 * 1)≤aC then (
 if 0≤o8 then (if o8≤(s1.1.length:Int) then (if (s1.1.length:Int)≤(s1.1.length:Int) then (
 if ((([]++((s1.1.take (o8.toNat)).drop ((0:Int).toNat)))++[x9]).length + ((s1.1.take ((s1.1.length:Int).toNat)).drop (o8.toNat)).length) * (24 * 1)≤aC then (
 some ((([]++((s1.1.take (o8.toNat)).drop ((0:Int).toNat)))++[x9])++((s1.1.take ((s1.1.length:Int).toNat)).drop (o8.toNat)))) else none) else none) else none) else none) else none) else none) else none) else none) else none)):Option (List Int)).bind fun o10 =>
 some (.inl (o10,IntKind.wrap .i64 (s1.2 + 1))))
 else (
 some (.inr s1))
def vO (a0:(List Int)):Option (List Int) :=
(al (tT a0) ([],0)).bind fun o11 =>
 some o11.1
def NL:Hints:=(n0 (n0 (nd (n0 (nd (.node none (some ⟨[.tmpO 3 0 (.slice (.int .i64)),.tmp 4 (.int .i64)],[some 0],none,[]⟩) (n0 (nd (.node (some ⟨[.tmpO 3 1 (.slice (.int .i64))],[none],none,[(3,0)]⟩) none (n0 (n0 (nd (nd (.node none (some ⟨[.tmp 5 (.int .i64)],[some 2],none,[]⟩) (nd (nd (cu ⟨[.tmp 34 .bool],[none],none,[]⟩) .none) .none) .none) .none) .none))) .none) .none)) .none) .none)) .none)))
def Bq:Ct:=.pure true true (.pair (.slice (.int .i64)) .unit) (.slice (.int .i64)) (fun x=>vO x.1)
theorem Aa:KC 340 Bq:=pq (Ec yB En) NL Tryz.func340
def zO (a0:(List Int)) (a1:Int):Option (List Int) :=
 if (([]:List Int).length + a0.length) * (24 * 1)≤aC then (
 if (([]++a0).length + [a1].length) * (24 * 1)≤aC then (
(vO (([]++a0)++[a1])).bind fun y1 =>
 some y1) else none) else none
def tj:Ct:=.pure true true (.pair (.slice (.int .i64)) (.pair (.int .i64) .unit)) (.slice (.int .i64)) (fun x=>zO x.1 x.2.1)
theorem Br:KC 271 tj:=pq (Ec Aa En) .none Tryz.func271
def oB (rec:(nq.D→ac.D→(List Int)→Option (Unit×nq.D))) (y8:((List ac.D)×(Int×(aa.D×Unit)))) (y11:(List Int)):(Int×(lR.D×((List aa.D)×((List Int)×((List ac.D)×((List au.D)×Unit))))))→Option ((Int×(lR.D×((List aa.D)×((List Int)×((List ac.D)×((List au.D)×Unit))))))⊕(Int×(lR.D×((List aa.D)×((List Int)×((List ac.D)×((List au.D)×Unit))))))):=fun s13 =>
 bif decide (s13.1 < (y8.1.length:Int)) then (
 idx y8.1 s13.1 fun _ =>
(y8.1[(s13.1:Int).toNat]?).bind fun x14 =>
(rec s13.2 x14 y11).bind fun y15 =>
 some (.inl (IntKind.wrap .i64 (s13.1 + 1),y15.2)))
 else (
 some (.inr s13))
def kj (rec:(nq.D→ac.D→(List Int)→Option (Unit×nq.D))) (x:nq.D) (a0:ac.D) (a1:(List Int)):Option (Unit×nq.D) :=
(qv x.1 x.2.1 a0 a1).bind fun y1 =>
 bif ((y1.length:Int) == 0) then (
(ux a0).bind fun y2 =>
((bif (!y2) then (
 if (x.2.2.2.1.length + [a0].length) * (24 * 7)≤aC then (
 some (x.1,x.2.1,x.2.2.1,(x.2.2.2.1++[a0]),x.2.2.2.2)) else none)
 else (
 some x)):Option nq.D).bind fun o3 =>
 some ((),o3))
 else (
(uy x.2.2.1 (y1.length:Int)).bind fun y4 =>
 idx y1 y4.1 fun _ =>
(y1[(y4.1:Int).toNat]?).bind fun x5 =>
(fI x.2.1 x5).bind fun y6 =>
 idx x.2.1 y6 fun x7 =>
(vN x7 a0).bind fun y8 =>
(th x.2.1 y8.2.2.1).bind fun y9 =>
(qy x.1 a0).bind fun y10 =>
 if (([]:List ac.D).length + y8.1.length) * (24 * 7)≤aC then (
 if (x.2.2.2.2.1.length + ([(x7.1,y10,y4.1,(y1.length:Int),a0,([]++y8.1),y8.2.1,(a1.length:Int),())]).length) * (24 * 14)≤aC then (
(zO a1 x7.1).bind fun y11 =>
(al (oB rec y8 y11) (0,x.1,y9,y4.2.1,x.2.2.2.1,(x.2.2.2.2.1++([(x7.1,y10,y4.1,(y1.length:Int),a0,([]++y8.1),y8.2.1,(a1.length:Int),())])),())).bind fun o16 =>
 some ((),o16.2)) else none) else none)
def iL (n:Nat):nq.D→ac.D→(List Int)→Option (Unit×nq.D):=Nat.rec (motive:=fun _=>(nq.D→ac.D→(List Int)→Option (Unit×nq.D))) (fun _ _ _=>none) (fun _ g=>kj g) n
def NM:Hints:=(n0 (n0 (nd (n0 (nd (nd (n0 (cu ⟨[.boxO 0 0 6 nq],[none],none,[(0,4),(0,0),(0,2),(0,3),(0,5)]⟩)) .none) .none)) (n0 (n0 (nd (nd (cu ⟨[],[],none,[(0,2)]⟩) .none) (n0 (n0 (n0 (n0 (nd (nd (cu ⟨[],[],none,[(118,0)]⟩) .none) (nd (.node none (some ⟨[.tmp 14 (.int .i64),.boxO 0 0 6 nq],[some 0],none,[]⟩) (n0 (nd (nd (.node none (some ⟨[],[some 6],none,[]⟩) .none .none) .none) .none)) .none) .none))))))))))))
def vP (g:(nq.D→ac.D→(List Int)→Option (Unit×nq.D))):Ct:=.run nq [] false false false (.pair ac (.pair (.slice (.int .i64)) .unit)) .unit (fun x y=>g x y.1 y.2.1)
theorem Ls (n:Nat):fB Tryz.prog 159 (vP (iL n)):=by
 induction n with
 | zero=>exact Pf (fn:=Tryz.f159) nq [] false false false (.pair ac (.pair (.slice (.int .i64)) .unit)) .unit Tryz.func159 (by kernel_rfl)
 | succ n ih=>exact Nr (E:={ T:=tab,G:=[(159,vP (iL n)),(224,wE),(265,pd),(266,F4),(267,sZ),(268,rH),(269,qb),(270,yE),(271,tj)],Z:=true }) (aE.frz (aE.cons (ih) (aE.cons i8 (aE.cons xv (aE.cons CX (aE.cons rF (aE.cons z9 (aE.cons yD (aE.cons Gx (aE.cons Br (aE.nil sM))))))))))) mixed (fn:=Tryz.f159) nq [] false false false (.pair ac (.pair (.slice (.int .i64)) .unit)) .unit (fun x y=>kj (iL n) x y.1 y.2.1) NM Tryz.func159 (by kernel_rfl) (fun x y=>by kernel_rfl)
def ma (a0:ae.D) (a1:(List aa.D)) (a2:ac.D) (a3:(List Int)):Option ba.D :=
(ck a1).bind fun y1 =>
 if (([]:List Int).length + a3.length) * (24 * 1)≤aC then (
(da a0).bind fun y2 =>
 bif y2 then (
(fg a1).bind fun y3 =>
 bif y3 then (
(bV a2).bind fun y4 =>
 bif y4 then (
(iL 8 (a0,y1,([]++a3),[],[],()) a2 []).bind fun y5 =>
 some (y5.2.2.2.2.1,y5.2.2.1,y5.2.2.2.1,y5.2.2.2.2.2))
 else (
 some ([],y1,([]++a3),[],())))
 else (
 some ([],y1,([]++a3),[],())))
 else (
 some ([],y1,([]++a3),[],()))) else none
def Jh:Hints:=(n0 (n0 (nd (n0 (nd (.node none (some ⟨[],[some 3],none,[]⟩) .none .none) .none)) .none)))
def yF:Ct:=.pure true true (.pair ae (.pair (.slice aa) (.pair ac (.pair (.slice (.int .i64)) .unit)))) ba (fun x=>ma x.1 x.2.1 x.2.2.1 x.2.2.2.1)
theorem xw:fB Tryz.prog 47 yF:=vD (E:={ T:=tab,G:=[(159,vP (iL 8)),(118,yx),(119,yy),(155,oY),(158,yw)],V:=[32],Z:=true }) (aE.frz (aE.views (aE.cons (Ls 8) (aE.cons dv (aE.cons j9 (aE.cons cG (aE.cons cK (aE.nil sM)))))))) mixed (fn:=Tryz.f47) _ _ _ _ _ Jh Tryz.func47 (by kernel_rfl) (fun x=>by kernel_rfl)
def uz (a0:ba.D) (a1:ba.D):Option ba.D :=
(i9 a0).bind fun y1 =>
(i9 a1).bind fun y2 =>
 if (y1.1.length + y2.1.length) * (24 * 7)≤aC then (
 if (y1.2.2.2.1.length + y2.2.2.2.1.length) * (24 * 14)≤aC then (
 some ((y1.1++y2.1),y2.2.1,y2.2.2.1,(y1.2.2.2.1++y2.2.2.2.1),())) else none) else none
def CY:Ct:=.pure true true (.pair ba (.pair ba .unit)) ba (fun x=>uz x.1 x.2.1)
theorem Bs:KC 76 CY:=pq (Ec nr En) .none Tryz.func76
def gy (a0:ae.D) (a2:(List ac.D)):(Int×((List ac.D)×((List aa.D)×((List Int)×((List au.D)×Unit)))))→Option ((Int×((List ac.D)×((List aa.D)×((List Int)×((List au.D)×Unit)))))⊕(Int×((List ac.D)×((List aa.D)×((List Int)×((List au.D)×Unit)))))):=fun s7 =>
 bif decide (s7.1 < (a2.length:Int)) then (
 idx a2 s7.1 fun x8 =>
(ma a0 s7.2.2.1 x8 s7.2.2.2.1).bind fun y9 =>
(uz s7.2 y9).bind fun y10 =>
 some (.inl (IntKind.wrap .i64 (s7.1 + 1),y10)))
 else (
 some (.inr s7))
def kl (a0:ae.D) (a1:(List aa.D)) (a2:(List ac.D)) (a3:(List Int)):Option ba.D :=
(i9 ([],a1,a3,[],())).bind fun y1 =>
(((l9 a2).bind fun y2 =>
 bif (!y2) then (
 some true)
 else (
(da a0).bind fun y3 =>
 bif (!y3) then (
 some true)
 else (
(fg a1).bind fun y4 =>
 some (!y4)))):Option Bool).bind fun o5 =>
 bif o5 then (
 some y1)
 else (
(al (gy a0 a2) (0,y1)).bind fun o11 =>
 some o11.2)
def CZ:Hints:=(n0 (n0 (nd (nd (cu ⟨[.tmp 28 .bool],[none],none,[]⟩) .none) (nd (n0 (nd (.node none (some ⟨[.tmp 10 (.int .i64),.boxO 9 0 1 ba],[some 0],none,[]⟩) .none .none) .none)) .none))))
def lj:Ct:=.pure true true (.pair ae (.pair (.slice aa) (.pair (.slice ac) (.pair (.slice (.int .i64)) .unit)))) ba (fun x=>kl x.1 x.2.1 x.2.2.1 x.2.2.2.1)
theorem tU:KC 63 lj:=pq (Ec xw (Ec Bs (Ec wF (Ec dv (Ec j9 (Ec nr En)))))) CZ Tryz.func63
def cg (a0:ah.D) (a1:Int):Option Bool :=
 bif (a1 == 1) then (
 let k1:Int:=IntKind.wrap .i64 (BitVec.ofInt (IntKind.bits .i64) a0.2.2.2.2.2.2.2.1 &&& BitVec.ofInt (IntKind.bits .i64) a1).toNat
 some (k1 != 0))
 else (
 bif (a1 == 2) then (
 let k2:Int:=IntKind.wrap .i64 (BitVec.ofInt (IntKind.bits .i64) a0.2.2.2.2.2.2.2.1 &&& BitVec.ofInt (IntKind.bits .i64) a1).toNat
 some (k2 != 0))
 else (
 bif (a1 == 4) then (
 let k3:Int:=IntKind.wrap .i64 (BitVec.ofInt (IntKind.bits .i64) a0.2.2.2.2.2.2.2.1 &&& BitVec.ofInt (IntKind.bits .i64) a1).toNat
 some (k3 != 0))
 else (
 bif (a1 == 8) then (
 let k4:Int:=IntKind.wrap .i64 (BitVec.ofInt (IntKind.bits .i64) a0.2.2.2.2.2.2.2.1 &&& BitVec.ofInt (IntKind.bits .i64) a1).toNat
 some (k4 != 0))
 else (
 bif (a1 == 16) then (
 let k5:Int:=IntKind.wrap .i64 (BitVec.ofInt (IntKind.bits .i64) a0.2.2.2.2.2.2.2.1 &&& BitVec.ofInt (IntKind.bits .i64) a1).toNat
 some (k5 != 0))
 else (
 bif (a1 == 32) then (
 let k6:Int:=IntKind.wrap .i64 (BitVec.ofInt (IntKind.bits .i64) a0.2.2.2.2.2.2.2.1 &&& BitVec.ofInt (IntKind.bits .i64) a1).toNat
 some (k6 != 0))
 else (
 some false))))))
def Gy:Ct:=.pure true false (.pair ah (.pair (.int .i64) .unit)) .bool (fun x=>cg x.1 x.2.1)
theorem nL:KC 326 Gy:=pq En .none Tryz.func326
def lk (a0:ae.D) (a1:ah.D) (a2:ac.D):Option (ae.D×(Int×Unit)) :=
(eJ a0).bind fun y1 =>
(((da a0).bind fun y2 =>
 bif (!y2) then (
 some true)
 else (
(bV a2).bind fun y3 =>
 bif (!y3) then (
 some true)
 else (
 some (a2.1 != 1)))):Option Bool).bind fun o4 =>
 bif o4 then (
 some (y1,0,()))
 else (
(cg a1 2).bind fun y5 =>
((bif (a2.2.2.1 == 0) then (
 bif decide (a2.2.2.2.1≥(a0.2.1.length:Int)) then (
 some (.inr ((0,y1))))
 else (
((bif y5 then (
 idx a0.2.1 a2.2.2.2.1 fun x6 =>
(dV x6.2.1 a2.2.2.2.2.1).bind fun y7 =>
 idx y1.2.1 a2.2.2.2.1 fun _ =>
(y1.2.1[(a2.2.2.2.1:Int).toNat]?).bind fun x8 =>
 let u9:(List ar.D):=y1.2.1.set (a2.2.2.2.1:Int).toNat (x8.1,y7,x8.2.2)
 some (y1.1,u9,y1.2.2))
 else (
 idx a0.2.1 a2.2.2.2.1 fun x10 =>
(ja x10.1 a2.2.2.2.2.1).bind fun y11 =>
 idx y1.2.1 a2.2.2.2.1 fun _ =>
(y1.2.1[(a2.2.2.2.1:Int).toNat]?).bind fun x12 =>
 let u13:(List ar.D):=y1.2.1.set (a2.2.2.2.1:Int).toNat (y11,x12.2)
 some (y1.1,u13,y1.2.2))):Option ae.D).bind fun o14 =>
 some (.inl (([],[],0,0,()),o14))))
 else (
(eq a0 a2.2.2.1).bind fun y15 =>
((bif decide (y15 < 0) then (
 some true)
 else (
 idx a0.1 y15 fun x16 =>
 some (x16.2.2.2.1 != 2))):Option Bool).bind fun o17 =>
 bif o17 then (
 some (.inr ((0,y1))))
 else (
((bif y5 then (
 idx a0.1 y15 fun x18 =>
(dV x18.2.2.2.2.2.2.2.2.2.1 a2.2.2.2.2.1).bind fun y19 =>
 idx y1.1 y15 fun _ =>
(y1.1[(y15:Int).toNat]?).bind fun x20 =>
 let u21:(List ah.D):=y1.1.set (y15:Int).toNat (x20.1,x20.2.1,x20.2.2.1,x20.2.2.2.1,x20.2.2.2.2.1,x20.2.2.2.2.2.1,x20.2.2.2.2.2.2.1,x20.2.2.2.2.2.2.2.1,x20.2.2.2.2.2.2.2.2.1,y19,x20.2.2.2.2.2.2.2.2.2.2)
 some (u21,y1.2))
 else (
 idx a0.1 y15 fun x22 =>
(dV x22.2.2.2.2.2.2.2.2.2.2.1 a2.2.2.2.2.1).bind fun y23 =>
 idx y1.1 y15 fun _ =>
(y1.1[(y15:Int).toNat]?).bind fun x24 =>
 let u25:(List ah.D):=y1.1.set (y15:Int).toNat (x24.1,x24.2.1,x24.2.2.1,x24.2.2.2.1,x24.2.2.2.2.1,x24.2.2.2.2.2.1,x24.2.2.2.2.2.2.1,x24.2.2.2.2.2.2.2.1,x24.2.2.2.2.2.2.2.2.1,x24.2.2.2.2.2.2.2.2.2.1,y23,x24.2.2.2.2.2.2.2.2.2.2.2)
 some (u25,y1.2))):Option ae.D).bind fun o26 =>
(((cg a1 4).bind fun y27 =>
 bif y27 then (
 some (decide (a2.2.2.2.2.1≥1)))
 else (
 some false)):Option Bool).bind fun o28 =>
((bif o28 then (
 idx o26.1 y15 fun _ =>
(o26.1[(y15:Int).toNat]?).bind fun x29 =>
 let u30:(List ah.D):=o26.1.set (y15:Int).toNat (x29.1,x29.2.1,x29.2.2.1,x29.2.2.2.1,x29.2.2.2.2.1,x29.2.2.2.2.2.1,x29.2.2.2.2.2.2.1,x29.2.2.2.2.2.2.2.1,x29.2.2.2.2.2.2.2.2.1,x29.2.2.2.2.2.2.2.2.2.1,x29.2.2.2.2.2.2.2.2.2.2.1,true,x29.2.2.2.2.2.2.2.2.2.2.2.2)
 some (u30,o26.2))
 else (
 some o26)):Option ae.D).bind fun o31 =>
 some (.inl (([],[],0,0,()),o31))))):Option ((ae.D×((List ah.D)×((List ar.D)×(Int×(Int×Unit)))))⊕(Int×((List ah.D)×((List ar.D)×(Int×(Int×Unit))))))).bind fun o32 =>
 match o32 with
| .inl s33=>(
(((cg a1 1).bind fun y35 =>
 bif y35 then (
(aD a1.2.2.1 0 (IntKind.wrap .i64 ((a0.2.1.length:Int) - 1))).bind fun y36 =>
 some y36)
 else (
 some false)):Option Bool).bind fun o37 =>
((bif o37 then (
 idx s33.2.2.1 a1.2.2.1 fun _ =>
(s33.2.2.1[(a1.2.2.1:Int).toNat]?).bind fun x38 =>
(dV x38.1 a2.2.2.2.2.1).bind fun y39 =>
 idx s33.2.2.1 a1.2.2.1 fun _ =>
(s33.2.2.1[(a1.2.2.1:Int).toNat]?).bind fun x40 =>
 let u41:(List ar.D):=s33.2.2.1.set (a1.2.2.1:Int).toNat (y39,x40.2)
 some (s33.2.1,u41,s33.2.2.2))
 else (
 some s33.2)):Option ae.D).bind fun o42 =>
 some (o42,a2.2.2.2.2.1,()))
| .inr o34=>(
 some (o34.2,o34.1,())))
def Lt:Hints:=(n0 (n0 (nd (nd (cu ⟨[.tmp 25 .bool],[none],none,[]⟩) .none) (n0 (nd (n0 (.node (some ⟨[.boxO 6 0 1 ae,.boxO 8 0 1 ae],[none],some [.tmp 7 (.int .i64),.boxO 6 0 1 ae],[(6,0),(12,1),(8,0),(12,0)]⟩) none (n0 (n0 (cu ⟨[.boxO 8 0 1 ae],[none],none,[(12,1),(8,0),(12,0)]⟩))) (n0 (nd (nd (cu ⟨[.tmp 86 .bool],[none],none,[]⟩) .none) (nd (n0 (cu ⟨[.boxO 8 0 1 ae],[none],none,[(12,0),(8,0),(12,1)]⟩)) (nd (cu ⟨[.tmp 123 .bool],[none],none,[]⟩) (cu ⟨[.boxO 8 0 3 ae],[none],none,[(8,1),(8,0),(8,2)]⟩))))))) (nd (nd (cu ⟨[.tmp 139 .bool],[none],none,[]⟩) (cu ⟨[.boxO 8 0 3 ae],[none],none,[(8,2),(8,0),(8,1)]⟩)) .none))))))
def Ab:Ct:=.pure false true (.pair ae (.pair ah (.pair ac .unit))) (.pair ae (.pair (.int .i64) .unit)) (fun x=>lk x.1 x.2.1 x.2.2.1)
theorem yG:KC 357 Ab:=pq (Ec dv (Ec b9 (Ec cK (Ec bU (Ec eW (Ec nL (Ec qx (Ec qw En)))))))) Lt Tryz.func357
def uA (a0:ae.D) (a1:ac.D):Option (ae.D×(Bool×Unit)) :=
(eJ a0).bind fun y1 =>
(((da a0).bind fun y2 =>
 bif (!y2) then (
 some true)
 else (
(bV a1).bind fun y3 =>
 some (!y3))):Option Bool).bind fun o4 =>
 bif o4 then (
 some (y1,false,()))
 else (
((bif (a1.1 == 3) then (
 some (a1.1 == 3))
 else (
 some (a1.1 == 4))):Option Bool).bind fun o5 =>
 bif o5 then (
 bif decide (a1.2.2.2.1≥(a0.2.1.length:Int)) then (
 some (y1,false,()))
 else (
((bif (a1.1 == 3) then (
 idx a0.2.1 a1.2.2.2.1 fun x6 =>
(dV x6.1 a1.2.2.2.2.1).bind fun y7 =>
 idx y1.2.1 a1.2.2.2.1 fun _ =>
(y1.2.1[(a1.2.2.2.1:Int).toNat]?).bind fun x8 =>
 let u9:(List ar.D):=y1.2.1.set (a1.2.2.2.1:Int).toNat (y7,x8.2)
 some (y1.1,u9,y1.2.2))
 else (
 idx a0.2.1 a1.2.2.2.1 fun x10 =>
(ja x10.1 a1.2.2.2.2.1).bind fun y11 =>
 idx y1.2.1 a1.2.2.2.1 fun _ =>
(y1.2.1[(a1.2.2.2.1:Int).toNat]?).bind fun x12 =>
 let u13:(List ar.D):=y1.2.1.set (a1.2.2.2.1:Int).toNat (y11,x12.2)
 some (y1.1,u13,y1.2.2))):Option ae.D).bind fun o14 =>
 some (o14,true,())))
 else (
((bif (a1.1 == 5) then (
 some (a1.1 == 5))
 else (
 some (a1.1 == 6))):Option Bool).bind fun o15 =>
 bif o15 then (
(eq a0 a1.2.2.1).bind fun y16 =>
((bif decide (y16 < 0) then (
 some true)
 else (
 idx a0.1 y16 fun x17 =>
 some (x17.2.2.2.1 != 2))):Option Bool).bind fun o18 =>
 bif o18 then (
 some (y1,false,()))
 else (
((bif (a1.1 == 5) then (
 idx a0.1 y16 fun x19 =>
(dV x19.2.2.2.2.2.2.2.2.1 a1.2.2.2.2.1).bind fun y20 =>
 idx y1.1 y16 fun _ =>
(y1.1[(y16:Int).toNat]?).bind fun x21 =>
 let u22:(List ah.D):=y1.1.set (y16:Int).toNat (x21.1,x21.2.1,x21.2.2.1,x21.2.2.2.1,x21.2.2.2.2.1,x21.2.2.2.2.2.1,x21.2.2.2.2.2.2.1,x21.2.2.2.2.2.2.2.1,y20,x21.2.2.2.2.2.2.2.2.2)
 some (u22,y1.2))
 else (
 idx a0.1 y16 fun x23 =>
(dV x23.2.2.2.2.2.2.2.2.2.1 a1.2.2.2.2.1).bind fun y24 =>
 idx y1.1 y16 fun _ =>
(y1.1[(y16:Int).toNat]?).bind fun x25 =>
 let u26:(List ah.D):=y1.1.set (y16:Int).toNat (x25.1,x25.2.1,x25.2.2.1,x25.2.2.2.1,x25.2.2.2.2.1,x25.2.2.2.2.2.1,x25.2.2.2.2.2.2.1,x25.2.2.2.2.2.2.2.1,x25.2.2.2.2.2.2.2.2.1,y24,x25.2.2.2.2.2.2.2.2.2.2)
 some (u26,y1.2))):Option ae.D).bind fun o27 =>
 some (o27,true,())))
 else (
 some (y1,false,()))))
def Pu:Hints:=(n0 (n0 (nd (nd (cu ⟨[.tmp 17 .bool],[none],none,[]⟩) .none) (nd (n0 (nd (nd (n0 (cu ⟨[.tmp 21 .bool],[none],none,[]⟩)) (nd (n0 (nd (n0 (cu ⟨[.boxO 6 0 1 ae],[none],none,[(9,1),(6,0),(9,0)]⟩)) .none)) (nd (n0 (cu ⟨[.tmp 67 .bool],[none],none,[]⟩)) (nd (n0 (nd (nd (cu ⟨[.tmp 84 .bool],[none],none,[]⟩) .none) (nd (n0 (cu ⟨[.boxO 6 0 1 ae],[none],none,[(9,0),(6,0),(9,1)]⟩)) .none))) .none)))) .none)) .none))))
def C0:Ct:=.pure false true (.pair ae (.pair ac .unit)) (.pair ae (.pair .bool .unit)) (fun x=>uA x.1 x.2.1)
theorem Bt:KC 358 C0:=pq (Ec dv (Ec b9 (Ec cK (Ec eW (Ec qx (Ec qw En)))))) Pu Tryz.func358
def nM (a0:ae.D) (a1:ae.D) (a2:ac.D):Option (ae.D×(ai.D×Unit)) :=
 bif (a2.1 == 1) then (
(gn a0 a2).bind fun y1 =>
(lk a1 y1 a2).bind fun y2 =>
 bif decide (y2.2.1≥1) then (
 some (y2.1,(1,a2,y2.2.1,0,(0,0,0,0,0,0,0,0,0,0,0,false,false,()),()),()))
 else (
 some (y2.1,(4,a2,0,0,(0,0,0,0,0,0,0,0,0,0,0,false,false,()),()),())))
 else (
(uA a1 a2).bind fun y3 =>
 bif y3.2.1 then (
 some (y3.1,(2,a2,0,0,(0,0,0,0,0,0,0,0,0,0,0,false,false,()),()),()))
 else (
 some (y3.1,(4,a2,0,0,(0,0,0,0,0,0,0,0,0,0,0,false,false,()),()),())))
def Bu:Ct:=.pure false true (.pair ae (.pair ae (.pair ac .unit))) (.pair ae (.pair ai .unit)) (fun x=>nM x.1 x.2.1 x.2.2.1)
theorem Ac:KC 319 Bu:=pq (Ec rE (Ec yG (Ec Bt En))) .none Tryz.func319
def rI (a0:ah.D) (a1:Int) (a2:Int):Option ah.D :=
 some (a0.1,a0.2.1,a0.2.1,a1,a2,a0.2.2.2.2.2.1,a0.2.2.2.2.2.2.1,a0.2.2.2.2.2.2.2.1,0,0,0,false,false,())
def NN:Ct:=.pure true false (.pair ah (.pair (.int .i64) (.pair (.int .i64) .unit))) ah (fun x=>rI x.1 x.2.1 x.2.2.1)
theorem AR:KC 359 NN:=pq En .none Tryz.func359
def nN (a0:ae.D) (a1:ac.D):Option (ae.D×(Bool×Unit)) :=
(eJ a0).bind fun y1 =>
(eq a0 a1.2.2.1).bind fun y2 =>
(((da a0).bind fun y3 =>
 bif (!y3) then (
 some true)
 else (
(bV a1).bind fun y4 =>
 bif (!y4) then (
 some true)
 else (
 bif (a1.1 != 2) then (
 some true)
 else (
 bif decide (y2 < 0) then (
 some true)
 else (
 idx a0.1 y2 fun x5 =>
 some (x5.2.2.2.1 == a1.2.2.2.2.2.1)))))):Option Bool).bind fun o6 =>
 bif o6 then (
 some (y1,false,()))
 else (
 idx a0.1 y2 fun x7 =>
(rI x7 a1.2.2.2.2.2.1 a0.2.2.2.1).bind fun y8 =>
((bif (a1.2.2.2.2.2.1 == 2) then (
 some (y8.1,y8.2.1,y8.2.2.1,y8.2.2.2.1,y8.2.2.2.2.1,y8.2.2.2.2.2.1,y8.2.2.2.2.2.2.1,y8.2.2.2.2.2.2.2.1,a1.2.2.2.2.1,y8.2.2.2.2.2.2.2.2.2.1,y8.2.2.2.2.2.2.2.2.2.2.1,y8.2.2.2.2.2.2.2.2.2.2.2.1,a1.2.2.2.2.2.2))
 else (
 some y8)):Option ah.D).bind fun o9 =>
 idx y1.1 y2 fun _ =>
(y1.1[(y2:Int).toNat]?).bind fun x10 =>
 let u11:(List ah.D):=y1.1.set (y2:Int).toNat o9
 some ((u11,y1.2),true,()))
def NO:Hints:=(n0 (n0 (n0 (nd (nd (cu ⟨[.tmp 42 .bool],[none],none,[]⟩) .none) (n0 (nd (n0 (cu ⟨[.box 8 0 ah],[none],none,[(8,0)]⟩)) .none))))))
def Bv:Ct:=.pure false true (.pair ae (.pair ac .unit)) (.pair ae (.pair .bool .unit)) (fun x=>nN x.1 x.2.1)
theorem Ad:KC 320 Bv:=pq (Ec dv (Ec b9 (Ec cK (Ec eW (Ec AR En))))) NO Tryz.func320
def mb (a0:ae.D) (a1:(List ac.D)):((List ai.D)×(Int×((List ah.D)×((List ar.D)×(Int×(Int×Unit))))))→Option (((List ai.D)×(Int×((List ah.D)×((List ar.D)×(Int×(Int×Unit))))))⊕((List ai.D)×(Int×((List ah.D)×((List ar.D)×(Int×(Int×Unit))))))):=fun s4 =>
 bif decide (s4.2.1 < (a1.length:Int)) then (
 idx a1 s4.2.1 fun x5 =>
((bif (x5.1 != 2) then (
 idx a1 s4.2.1 fun x6 =>
(nM a0 s4.2.2 x6).bind fun y7 =>
 if (s4.1.length + [y7.2.1].length) * (24 * 23)≤aC then (
 some ((s4.1++[y7.2.1]),y7.1)) else none)
 else (
 some (s4.1,s4.2.2))):Option ((List ai.D)×((List ah.D)×((List ar.D)×(Int×(Int×Unit)))))).bind fun o8 =>
 some (.inl (o8.1,IntKind.wrap .i64 (s4.2.1 + 1),o8.2)))
 else (
 some (.inr s4))
def mc (a0:ae.D) (a1:(List ac.D)):((List ai.D)×(Int×((List ah.D)×((List ar.D)×(Int×(Int×Unit))))))→Option (((List ai.D)×(Int×((List ah.D)×((List ar.D)×(Int×(Int×Unit))))))⊕((List ai.D)×(Int×((List ah.D)×((List ar.D)×(Int×(Int×Unit))))))):=fun s11 =>
 bif decide (s11.2.1 < (a1.length:Int)) then (
((idx a1 s11.2.1 fun x12 =>
 bif (x12.1 != 2) then (
 some (s11.1,s11.2.2))
 else (
 idx a1 s11.2.1 fun x13 =>
(nN s11.2.2 x13).bind fun y14 =>
 bif (!y14.2.1) then (
 idx a1 s11.2.1 fun x15 =>
 if (s11.1.length + ([(4,x15,0,0,(0,0,0,0,0,0,0,0,0,0,0,false,false,()),())]:List ai.D).length) * (24 * 23)≤aC then (
 some ((s11.1++([(4,x15,0,0,(0,0,0,0,0,0,0,0,0,0,0,false,false,()),())]:List ai.D)),s11.2.2)) else none)
 else (
 idx a1 s11.2.1 fun x16 =>
 idx a1 s11.2.1 fun x17 =>
(eq a0 x17.2.2.1).bind fun y18 =>
 idx a0.1 y18 fun x19 =>
 if (s11.1.length + ([(3,x16,0,0,x19,())]:List ai.D).length) * (24 * 23)≤aC then (
 some ((s11.1++([(3,x16,0,0,x19,())]:List ai.D)),y14.1)) else none))):Option ((List ai.D)×((List ah.D)×((List ar.D)×(Int×(Int×Unit)))))).bind fun o20 =>
 some (.inl (o20.1,IntKind.wrap .i64 (s11.2.1 + 1),o20.2)))
 else (
 some (.inr s11))
def tp (a0:ae.D) (a1:(List ac.D)):Option (ae.D×((List ai.D)×Unit)) :=
(eJ a0).bind fun y1 =>
(da a0).bind fun y2 =>
 bif (!y2) then (
 some (y1,[],()))
 else (
(al (mb a0 a1) ([],0,y1)).bind fun o9 =>
(al (mc a0 a1) (o9.1,0,o9.2.2)).bind fun o21 =>
 some (o21.2.2,o21.1,()))
def Lu:Hints:=(n0 (n0 (n0 (n0 (nd (n0 (nd (.node none (some ⟨[.tmpO 7 0 (.slice ai),.tmp 8 (.int .i64),.boxO 6 0 1 ae],[some 0],none,[]⟩) (n0 (nd (nd (n0 (cu ⟨[.tmpO 7 1 (.slice ai),.boxO 6 0 3 ae],[none],none,[(6,0),(7,0),(6,1),(6,2)]⟩)) .none) .none)) .none) .none)) (nd (n0 (nd (.node none (some ⟨[.tmpO 7 1 (.slice ai),.tmp 11 (.int .i64),.boxO 6 0 3 ae],[some 2],none,[]⟩) (n0 (nd (cu ⟨[.tmpO 7 2 (.slice ai),.boxO 6 0 5 ae],[none],none,[(7,1),(6,0),(6,3),(6,4)]⟩) .none)) .none) .none)) .none))))))
def qc:Ct:=.pure false true (.pair ae (.pair (.slice ac) .unit)) (.pair ae (.pair (.slice ai) .unit)) (fun x=>tp x.1 x.2.1)
theorem yI:KC 225 qc:=pq (Ec dv (Ec b9 (Ec Ac (Ec Ad (Ec eW En))))) Lu Tryz.func225
def qz (a0:ah.D):Option Int :=
(dV a0.2.2.2.2.2.2.1 a0.2.2.2.2.2.2.2.2.1).bind fun y1 =>
(ja y1 a0.2.2.2.2.2.2.2.2.2.1).bind fun y2 =>
 some y2
def Ji:Ct:=.pure true false (.pair ah .unit) (.int .i64) (fun x=>qz x.1)
theorem Gz:KC 384 Ji:=pq (Ec qx (Ec qw En)) .none Tryz.func384
def pe (a0:ah.D):Option Bool :=
 bif (a0.2.2.2.1 != 2) then (
 some false)
 else (
(qz a0).bind fun y1 =>
 bif decide (y1≤0) then (
 some true)
 else (
(cg a0 8).bind fun y2 =>
 bif (!y2) then (
 bif a0.2.2.2.2.2.2.2.2.2.2.2.1 then (
 some true)
 else (
 some (decide (a0.2.2.2.2.2.2.2.2.2.2.1≥y1))))
 else (
 some false)))
def Lv:Ct:=.pure true false (.pair ah .unit) .bool (fun x=>pe x.1)
theorem Jj:KC 360 Lv:=pq (Ec nL (Ec Gz En)) .none Tryz.func360
def jK (a0:ae.D):((List ai.D)×(Int×((List ah.D)×((List ar.D)×(Int×(Int×Unit))))))→Option (((List ai.D)×(Int×((List ah.D)×((List ar.D)×(Int×(Int×Unit))))))⊕((List ai.D)×(Int×((List ah.D)×((List ar.D)×(Int×(Int×Unit))))))):=fun s4 =>
 bif decide (s4.2.1 < (a0.2.1.length:Int)) then (
 idx a0.2.1 s4.2.1 fun x5 =>
((bif (!x5.2.2.1) then (
 bif decide (x5.1≤0) then (
 some true)
 else (
 some (decide (x5.2.1≥10))))
 else (
 some false)):Option Bool).bind fun o6 =>
((bif o6 then (
 idx s4.2.2.2.1 s4.2.1 fun _ =>
(s4.2.2.2.1[(s4.2.1:Int).toNat]?).bind fun x7 =>
 let u8:(List ar.D):=s4.2.2.2.1.set (s4.2.1:Int).toNat (x7.1,x7.2.1,true,())
 if (s4.1.length + ([(5,(0,0,0,0,0,0,false,()),0,s4.2.1,(0,0,0,0,0,0,0,0,0,0,0,false,false,()),())]:List ai.D).length) * (24 * 23)≤aC then (
 some ((s4.1++([(5,(0,0,0,0,0,0,false,()),0,s4.2.1,(0,0,0,0,0,0,0,0,0,0,0,false,false,()),())]:List ai.D)),s4.2.2.1,u8,s4.2.2.2.2)) else none)
 else (
 some (s4.1,s4.2.2))):Option ((List ai.D)×((List ah.D)×((List ar.D)×(Int×(Int×Unit)))))).bind fun o9 =>
 some (.inl (o9.1,IntKind.wrap .i64 (s4.2.1 + 1),o9.2)))
 else (
 some (.inr s4))
def jL (a0:ae.D):((List ai.D)×(Int×((List ah.D)×((List ar.D)×(Int×(Int×Unit))))))→Option (((List ai.D)×(Int×((List ah.D)×((List ar.D)×(Int×(Int×Unit))))))⊕((List ai.D)×(Int×((List ah.D)×((List ar.D)×(Int×(Int×Unit))))))):=fun s12 =>
 bif decide (s12.2.1 < (a0.1.length:Int)) then (
((idx a0.1 s12.2.1 fun x13 =>
(pe x13).bind fun y14 =>
 bif y14 then (
(rI x13 3 a0.2.2.2.1).bind fun y15 =>
 idx s12.2.2.1 s12.2.1 fun _ =>
(s12.2.2.1[(s12.2.1:Int).toNat]?).bind fun x16 =>
 let u17:(List ah.D):=s12.2.2.1.set (s12.2.1:Int).toNat y15
 if (s12.1.length + ([(6,(0,0,0,0,0,0,false,()),0,0,x13,())]:List ai.D).length) * (24 * 23)≤aC then (
 some ((s12.1++([(6,(0,0,0,0,0,0,false,()),0,0,x13,())]:List ai.D)),u17,s12.2.2.2)) else none)
 else (
(eK x13.2.2.2.2.2.2.2.2.1 x13.2.2.2.2.2.2.2.2.2.1).bind fun y18 =>
((bif (x13.2.2.2.1 == 2) then (
 some (decide (y18 > 0)))
 else (
 some false)):Option Bool).bind fun o19 =>
((bif o19 then (
 idx s12.2.2.1 s12.2.1 fun _ =>
(s12.2.2.1[(s12.2.1:Int).toNat]?).bind fun x20 =>
 let u21:(List ah.D):=s12.2.2.1.set (s12.2.1:Int).toNat (x20.1,x20.2.1,x20.2.2.1,x20.2.2.2.1,x20.2.2.2.2.1,x20.2.2.2.2.2.1,x20.2.2.2.2.2.2.1,x20.2.2.2.2.2.2.2.1,IntKind.wrap .i64 (x13.2.2.2.2.2.2.2.2.1 - y18),x20.2.2.2.2.2.2.2.2.2)
 idx u21 s12.2.1 fun _ =>
(u21[(s12.2.1:Int).toNat]?).bind fun x22 =>
 let u23:(List ah.D):=u21.set (s12.2.1:Int).toNat (x22.1,x22.2.1,x22.2.2.1,x22.2.2.2.1,x22.2.2.2.2.1,x22.2.2.2.2.2.1,x22.2.2.2.2.2.2.1,x22.2.2.2.2.2.2.2.1,x22.2.2.2.2.2.2.2.2.1,IntKind.wrap .i64 (x13.2.2.2.2.2.2.2.2.2.1 - y18),x22.2.2.2.2.2.2.2.2.2.2)
 if (s12.1.length + ([(7,(0,0,0,0,0,0,false,()),y18,0,x13,())]:List ai.D).length) * (24 * 23)≤aC then (
 some ((s12.1++([(7,(0,0,0,0,0,0,false,()),y18,0,x13,())]:List ai.D)),u23,s12.2.2.2)) else none)
 else (
 some (s12.1,s12.2.2))):Option ((List ai.D)×((List ah.D)×((List ar.D)×(Int×(Int×Unit)))))).bind fun o24 =>
 some o24)):Option ((List ai.D)×((List ah.D)×((List ar.D)×(Int×(Int×Unit)))))).bind fun o25 =>
 some (.inl (o25.1,IntKind.wrap .i64 (s12.2.1 + 1),o25.2)))
 else (
 some (.inr s12))
def vQ (a0:ae.D):Option (ae.D×((List ai.D)×Unit)) :=
(eJ a0).bind fun y1 =>
(da a0).bind fun y2 =>
 bif (!y2) then (
 some (y1,[],()))
 else (
(al (jK a0) ([],0,y1)).bind fun o10 =>
(al (jL a0) (o10.1,0,o10.2.2)).bind fun o26 =>
 some (o26.2.2,o26.1,()))
def NP:Hints:=(n0 (n0 (n0 (n0 (nd (n0 (nd (.node none (some ⟨[.tmpO 5 0 (.slice ai),.tmp 6 (.int .i64),.boxO 4 0 1 ae],[some 0],none,[]⟩) (n0 (nd (nd (n0 (nd (cu ⟨[.tmp 43 .bool],[none],none,[]⟩) (cu ⟨[.tmpO 5 1 (.slice ai),.boxO 4 0 3 ae],[none],none,[(4,2),(4,0),(5,0),(4,1)]⟩))) .none) .none)) .none) .none)) (nd (n0 (nd (.node none (some ⟨[.tmpO 5 1 (.slice ai),.tmp 8 (.int .i64),.boxO 4 0 3 ae],[some 2],none,[]⟩) (n0 (nd (.node (some ⟨[.tmpO 5 2 (.slice ai),.boxO 4 0 5 ae],[none],none,[(4,3),(4,0),(5,1),(4,4)]⟩) none (n0 (n0 (n0 (nd (cu ⟨[.tmp 92 .bool],[none],none,[]⟩) (cu ⟨[.tmpO 5 2 (.slice ai),.boxO 4 0 5 ae],[none],none,[(4,3),(4,0),(5,1),(4,4)]⟩))))) .none) .none)) .none) .none)) .none))))))
def Bw:Ct:=.pure false true (.pair ae .unit) (.pair ae (.pair (.slice ai) .unit)) (fun x=>vQ x.1)
theorem Ae:KC 322 Bw:=pq (Ec dv (Ec b9 (Ec gx (Ec AR (Ec Jj En))))) NP Tryz.func322
def md:((List ai.D)×(Int×(ae.D×((List ah.D)×((List ar.D)×(Int×(Int×Unit)))))))→Option (((List ai.D)×(Int×(ae.D×((List ah.D)×((List ar.D)×(Int×(Int×Unit)))))))⊕((List ai.D)×(Int×((List ah.D)×((List ar.D)×(Int×(Int×Unit))))))):=fun s4 =>
(vQ s4.2.2.2).bind fun y5 =>
 bif ((y5.2.1.length:Int) == 0) then (
 some (.inr (s4.1,s4.2.1,s4.2.2.2)))
 else (
 if (s4.1.length + y5.2.1.length) * (24 * 23)≤aC then (
 some (.inl ((s4.1++y5.2.1),IntKind.wrap .i64 (s4.2.1 + 1),s4.2.2.1,y5.1))) else none)
def pf (a0:ae.D):Option (ae.D×((List ai.D)×(Int×Unit))) :=
(eJ a0).bind fun y1 =>
(al (md) ([],0,([],[],0,0,()),y1)).bind fun o6 =>
 some (o6.2.2,o6.1,o6.2.1,())
def Lw:Hints:=(n0 (n0 (n0 (n0 (nd (.node none (some ⟨[.tmpO 6 0 (.slice ai),.tmp 7 (.int .i64),.boxO 2 0 1 ae,.boxO 5 0 1 ae],[],some [.tmpO 3 0 (.slice ai),.tmp 4 (.int .i64),.boxO 2 0 1 ae],[]⟩) .none .none) .none)))))
def qd:Ct:=.pure false true (.pair ae .unit) (.pair ae (.pair (.slice ai) (.pair (.int .i64) .unit))) (fun x=>pf x.1)
theorem yJ:KC 226 qd:=pq (Ec b9 (Ec Ae En)) Lw Tryz.func226
def qA (a0:ai.D):Option Bool :=
 bif (a0.1 == 6) then (
 some true)
 else (
 bif (a0.1 == 3) then (
 bif (a0.2.2.2.2.1.2.2.2.1 == 2) then (
 some (a0.2.1.2.2.2.2.2.1 != 2))
 else (
 some false))
 else (
 some false))
def Jk:Ct:=.pure true false (.pair ai .unit) .bool (fun x=>qA x.1)
theorem GA:KC 325 Jk:=pq En .none Tryz.func325
def vR (a0:ae.D) (a1:(List ai.D)):((List af.D)×Int)→Option (((List af.D)×Int)⊕((List af.D)×Int)):=fun s1 =>
 bif decide (s1.2 < (a1.length:Int)) then (
 idx a1 s1.2 fun x2 =>
(((qA x2).bind fun y3 =>
 bif y3 then (
(cg x2.2.2.2.2.1 16).bind fun y4 =>
 some y4)
 else (
 some false)):Option Bool).bind fun o5 =>
((bif o5 then (
 if (s1.1.length + ([(1,x2.2.2.2.2.1.2.2.1,0,x2.2.2.2.2)]:List af.D).length) * (24 * 16)≤aC then (
 some (s1.1++([(1,x2.2.2.2.2.1.2.2.1,0,x2.2.2.2.2)]:List af.D))) else none)
 else (
 some s1.1)):Option (List af.D)).bind fun o6 =>
((bif (x2.1 == 1) then (
 some (decide (x2.2.2.1≥1)))
 else (
 some false)):Option Bool).bind fun o7 =>
((bif o7 then (
(gn a0 x2.2.1).bind fun y8 =>
(cg y8 32).bind fun y9 =>
((bif y9 then (
 if (o6.length + ([(2,y8.2.2.1,x2.2.2.1,y8,())]:List af.D).length) * (24 * 16)≤aC then (
 some (o6++([(2,y8.2.2.1,x2.2.2.1,y8,())]:List af.D))) else none)
 else (
 some o6)):Option (List af.D)).bind fun o10 =>
 some o10)
 else (
 some o6)):Option (List af.D)).bind fun o11 =>
 some (.inl (o11,IntKind.wrap .i64 (s1.2 + 1))))
 else (
 some (.inr s1))
def uB (a0:ae.D) (a1:(List ai.D)):Option (List af.D) :=
(al (vR a0 a1) ([],0)).bind fun o12 =>
 some o12.1
def Pv:Hints:=(n0 (n0 (nd (n0 (nd (.node none (some ⟨[.tmpO 5 0 (.slice af),.tmp 6 (.int .i64)],[some 0],none,[]⟩) (n0 (nd (nd (n0 (nd (nd (cu ⟨[.tmp 26 .bool],[none],none,[]⟩) (cu ⟨[.tmpO 5 1 (.slice af)],[none],none,[(5,0)]⟩)) (nd (cu ⟨[.tmp 43 .bool],[none],none,[]⟩) (.node (some ⟨[.tmpO 5 2 (.slice af)],[none],none,[(5,1)]⟩) none (n0 (n0 (cu ⟨[.tmpO 5 2 (.slice af)],[none],none,[(5,1)]⟩))) .none)))) .none) .none)) .none) .none)) .none)))
def tq:Ct:=.pure true true (.pair ae (.pair (.slice ai) .unit)) (.slice af) (fun x=>uB x.1 x.2.1)
theorem Bx:KC 228 tq:=pq (Ec GA (Ec nL (Ec rE En))) Pv Tryz.func228
def ib (a0:ae.D):((List Int)×Int)→Option (((List Int)×Int)⊕((List Int)×Int)):=fun s1 =>
((bif decide (s1.2 < (a0.2.1.length:Int)) then (
(aD a0.2.2.1 0 (IntKind.wrap .i64 ((a0.2.1.length:Int) - 1))).bind fun y2 =>
 some y2)
 else (
 some false)):Option Bool).bind fun o3 =>
 bif o3 then (
 if (a0.2.1.length:Int)=0 then none else (
 let k4:Int:=(IntKind.wrap .i64 (a0.2.2.1 + s1.2)).tmod (a0.2.1.length:Int)
 if (s1.1.length + [k4].length) * (24 * 1)≤aC then (
 some (.inl ((s1.1++[k4]),IntKind.wrap .i64 (s1.2 + 1)))) else none))
 else (
 some (.inr s1))
def fZ (a0:ae.D):Option (List Int) :=
(al (ib a0) ([],0)).bind fun o5 =>
 some o5.1
def EL:Hints:=(n0 (n0 (nd (n0 (nd (.node none (some ⟨[.tmpO 3 0 (.slice (.int .i64)),.tmp 4 (.int .i64)],[some 0],none,[]⟩) (nd (nd (cu ⟨[.tmp 19 .bool],[none],none,[]⟩) .none) .none) .none) .none)) .none)))
def me:Ct:=.pure true true (.pair ae .unit) (.slice (.int .i64)) (fun x=>fZ x.1)
theorem ll:KC 101 me:=pq (Ec bU En) EL Tryz.func101
def kS (a0:(List af.D)) (a1:Int):((List af.D)×Int)→Option (((List af.D)×Int)⊕((List af.D)×Int)):=fun s1 =>
 bif decide (s1.2 < (a0.length:Int)) then (
 idx a0 s1.2 fun x2 =>
((bif (x2.2.1 == a1) then (
 idx a0 s1.2 fun x3 =>
 if (s1.1.length + [x3].length) * (24 * 16)≤aC then (
 some (s1.1++[x3])) else none)
 else (
 some s1.1)):Option (List af.D)).bind fun o4 =>
 some (.inl (o4,IntKind.wrap .i64 (s1.2 + 1))))
 else (
 some (.inr s1))
def ko (a0:(List af.D)) (a1:Int):Option (List af.D) :=
(al (kS a0 a1) ([],0)).bind fun o5 =>
 some o5.1
def C1:Hints:=(n0 (n0 (nd (n0 (nd (.node none (some ⟨[.tmpO 5 0 (.slice af),.tmp 6 (.int .i64)],[some 0],none,[]⟩) (n0 (nd (nd (n0 (cu ⟨[.tmpO 5 1 (.slice af)],[none],none,[(5,0)]⟩)) .none) .none)) .none) .none)) .none)))
def uC:Ct:=.pure true true (.pair (.slice af) (.pair (.int .i64) .unit)) (.slice af) (fun x=>ko x.1 x.2.1)
theorem tV:KC 323 uC:=pq En C1 Tryz.func323
def kq:((List af.D)×((List Int)×(List af.D)))→Option (((List af.D)×((List Int)×(List af.D)))⊕((List af.D)×((List Int)×(List af.D)))):=fun s5 =>
 bif decide ((s5.2.2.length:Int) > 0) then (
(uy s5.2.1 (s5.2.2.length:Int)).bind fun y6 =>
 idx s5.2.2 y6.1 fun _ =>
(s5.2.2[(y6.1:Int).toNat]?).bind fun x7 =>
 if (s5.1.length + [x7].length) * (24 * 16)≤aC then (
 if 0≤(0:Int) then (if (0:Int)≤y6.1 then (if y6.1≤(s5.2.2.length:Int) then (
 if (([]:List af.D).length + ((s5.2.2.take (y6.1.toNat)).drop ((0:Int).toNat)).length) * (24 * 16)≤aC then (
 if 0≤(IntKind.wrap .i64 (y6.1 + 1)) then (if (IntKind.wrap .i64 (y6.1 + 1))≤(s5.2.2.length:Int) then (if (s5.2.2.length:Int)≤(s5.2.2.length:Int) then (
 if (([]++((s5.2.2.take (y6.1.toNat)).drop ((0:Int).toNat))).length + ((s5.2.2.take ((s5.2.2.length:Int).toNat)).drop ((IntKind.wrap .i64 (y6.1 + 1)).toNat)).length) * (24 * 16)≤aC then (
 some (.inl ((s5.1++[x7]),y6.2.1,(([]++((s5.2.2.take (y6.1.toNat)).drop ((0:Int).toNat)))++((s5.2.2.take ((s5.2.2.length:Int).toNat)).drop ((IntKind.wrap .i64 (y6.1 + 1)).toNat)))))) else none) else none) else none) else none) else none) else none) else none) else none) else none)
 else (
 some (.inr s5))
def kr (a1:(List af.D)) (y1:(List Int)):((List af.D)×((List Int)×Int))→Option (((List af.D)×((List Int)×Int))⊕((List af.D)×((List Int)×Int))):=fun s2 =>
 bif decide (s2.2.2 < (y1.length:Int)) then (
 idx y1 s2.2.2 fun _ =>
(y1[(s2.2.2:Int).toNat]?).bind fun x3 =>
(ko a1 x3).bind fun y4 =>
(al (kq) (s2.1,s2.2.1,y4)).bind fun o8 =>
 some (.inl (o8.1,o8.2.1,IntKind.wrap .i64 (s2.2.2 + 1))))
 else (
 some (.inr s2))
def gQ (a1:(List af.D)) (y1:(List Int)):((List af.D)×Int)→Option (((List af.D)×Int)⊕((List af.D)×Int)):=fun s10 =>
 bif decide (s10.2 < (a1.length:Int)) then (
 idx a1 s10.2 fun x11 =>
(uv y1 x11.2.1).bind fun y12 =>
((bif (!y12) then (
 idx a1 s10.2 fun x13 =>
 if (s10.1.length + [x13].length) * (24 * 16)≤aC then (
 some (s10.1++[x13])) else none)
 else (
 some s10.1)):Option (List af.D)).bind fun o14 =>
 some (.inl (o14,IntKind.wrap .i64 (s10.2 + 1))))
 else (
 some (.inr s10))
def mf (a0:ae.D) (a1:(List af.D)) (a2:(List Int)):Option ((List af.D)×((List Int)×Unit)) :=
 if (([]:List Int).length + a2.length) * (24 * 1)≤aC then (
(fZ a0).bind fun y1 =>
(al (kr a1 y1) ([],([]++a2),0)).bind fun o9 =>
(al (gQ a1 y1) (o9.1,0)).bind fun o15 =>
 some (o15.1,o9.2.1,())) else none
def Jl:Hints:=(n0 (n0 (n0 (n0 (nd (n0 (nd (.node none (some ⟨[.tmpO 8 0 (.slice af),.tmpO 9 0 (.slice (.int .i64)),.tmp 11 (.int .i64)],[some 0],none,[]⟩) (n0 (nd (nd (n0 (nd (.node none (some ⟨[.tmpO 8 1 (.slice af),.tmpO 9 1 (.slice (.int .i64)),.tmpO 12 0 (.slice af)],[some 2],none,[]⟩) .none .none) .none)) .none) .none)) .none) .none)) (nd (n0 (nd (.node none (some ⟨[.tmpO 8 1 (.slice af),.tmp 15 (.int .i64)],[some 4],none,[]⟩) (n0 (nd (nd (n0 (cu ⟨[.tmpO 8 2 (.slice af)],[none],none,[(8,1)]⟩)) .none) .none)) .none) .none)) .none))))))
def pg:Ct:=.pure false true (.pair ae (.pair (.slice af) (.pair (.slice (.int .i64)) .unit))) (.pair (.slice af) (.pair (.slice (.int .i64)) .unit)) (fun x=>mf x.1 x.2.1 x.2.2.1)
theorem xx:KC 227 pg:=pq (Ec ll (Ec rF (Ec tV (Ec yB En)))) Jl Tryz.func227
def rJ (a0:(List aa.D)) (a1:Int):((List aa.D)×Int)→Option (((List aa.D)×Int)⊕((List aa.D)×Int)):=fun s1 =>
 bif decide (s1.2 < (a0.length:Int)) then (
 idx a0 s1.2 fun x2 =>
(nJ x2 a1).bind fun y3 =>
((bif y3 then (
 idx a0 s1.2 fun x4 =>
(dM x4).bind fun y5 =>
 if (s1.1.length + [y5].length) * (24 * 22)≤aC then (
 some (s1.1++[y5])) else none)
 else (
 some s1.1)):Option (List aa.D)).bind fun o6 =>
 some (.inl (o6,IntKind.wrap .i64 (s1.2 + 1))))
 else (
 some (.inr s1))
def ph (a0:(List aa.D)) (a1:Int):Option (List aa.D) :=
(al (rJ a0 a1) ([],0)).bind fun o7 =>
 some o7.1
def Lx:Hints:=(n0 (n0 (nd (n0 (nd (.node none (some ⟨[.tmpO 5 0 (.slice aa),.tmp 6 (.int .i64)],[some 0],none,[]⟩) (n0 (nd (nd (n0 (cu ⟨[.tmpO 5 1 (.slice aa)],[none],none,[(5,0)]⟩)) .none) .none)) .none) .none)) .none)))
def jx:Ct:=.pure true true (.pair (.slice aa) (.pair (.int .i64) .unit)) (.slice aa) (fun x=>ph x.1 x.2.1)
theorem pi:KC 102 jx:=pq (Ec cF (Ec AP En)) Lx Tryz.func102
def oC (x:T_Game.D) (a0:(List ac.D)):Option (Unit×T_Game.D) :=
(kl x.1 x.2.1 a0 x.2.2.1).bind fun y1 =>
(tp x.1 y1.1).bind fun y2 =>
(pf y2.1).bind fun y3 =>
(uB x.1 y2.2.1).bind fun y4 =>
(mf y3.1 y4 y1.2.2.1).bind fun y5 =>
(uB y2.1 y3.2.1).bind fun y6 =>
(mf y3.1 y6 y5.2.1).bind fun y7 =>
(ph y1.2.1 x.1.2.2.2.1).bind fun y8 =>
 if (x.2.2.2.1.length + y5.1.length) * (24 * 16)≤aC then (
 if ((x.2.2.2.1++y5.1).length + y7.1.length) * (24 * 16)≤aC then (
 if (x.2.2.2.2.1.length + y2.2.1.length) * (24 * 23)≤aC then (
 if ((x.2.2.2.2.1++y2.2.1).length + y3.2.1.length) * (24 * 23)≤aC then (
 if (x.2.2.2.2.2.1.length + y1.2.2.2.1.length) * (24 * 14)≤aC then (
 some ((),(y3.1,y8,y7.2.1,((x.2.2.2.1++y5.1)++y7.1),((x.2.2.2.2.1++y2.2.1)++y3.2.1),(x.2.2.2.2.2.1++y1.2.2.2.1),()))) else none) else none) else none) else none) else none
def wG:Ct:=.run T_Game [] false false false (.pair (.slice ac) .unit) .unit (fun x y=>oC x y.1)
theorem EM:fB Tryz.prog 100 wG:=Nr (E:={ T:=tab,G:=[(63,lj),(102,jx),(225,qc),(226,qd),(227,pg),(228,tq)] }) (aE.cons tU (aE.cons pi (aE.cons yI (aE.cons yJ (aE.cons xx (aE.cons Bx (aE.nil sM))))))) mixed (fn:=Tryz.f100) _ _ _ _ _ _ _ _ .none Tryz.func100 (by kernel_rfl) (fun x y=>by kernel_rfl)
def qB (a0:T_Game.D) (a1:T_Order.D):Option (T_Game.D×(Bool×Unit)) :=
(qp a0).bind fun y1 =>
(sU a0).bind fun y2 =>
 bif (!y2) then (
 some (y1,false,()))
 else (
 bif (a1.1 == 1) then (
(qs a0.2.1 a1.2.1).bind fun y3 =>
 some ((y1.1,y3.1,y1.2.2),y3.2))
 else (
 bif (a1.1 == 2) then (
(zN a0.2.1 a1.2.2.1).bind fun y4 =>
 some ((y1.1,y4.1,y1.2.2),y4.2))
 else (
 bif (a1.1 == 3) then (
(l9 a1.2.2.2.1).bind fun y5 =>
 bif (!y5) then (
 some (y1,false,()))
 else (
(oC y1 a1.2.2.2.1).bind fun y6 =>
 some (y6.2,true,())))
 else (
 bif (a1.1 == 4) then (
 bif (a0.1.2.2.2.1 == 9999) then (
 some (y1,false,()))
 else (
(fZ a0.1).bind fun y7 =>
 idx y7 1 fun _ =>
(y7[(1:Int).toNat]?).bind fun x8 =>
(ph a0.2.1 (IntKind.wrap .i64 (a0.1.2.2.2.1 + 1))).bind fun y9 =>
 some (((y1.1.1,y1.1.2.1,x8,IntKind.wrap .i64 (a0.1.2.2.2.1 + 1),()),y9,y1.2.2),true,())))
 else (
 some (y1,false,()))))))
def Jm:Hints:=(n0 (n0 (n0 (nd (n0 (nd (n0 (n0 (n0 (n0 (n0 (nd (n0 (nd (.node none (some ⟨[],[some 2],none,[]⟩) .none .none) .none)) .none)))))) .none)) .none))))
def yK:Ct:=.pure false true (.pair T_Game (.pair T_Order .unit)) (.pair T_Game (.pair .bool .unit)) (fun x=>qB x.1 x.2.1)
theorem xy:fB Tryz.prog 13 yK:=vD (E:={ T:=tab,G:=[(100,wG),(18,AO),(78,yz),(97,oZ),(98,pa),(99,sV),(101,me),(102,jx)],Z:=true }) (aE.frz (aE.cons EM (aE.cons I6 (aE.cons wF (aE.cons xn (aE.cons xq (aE.cons Bk (aE.cons ll (aE.cons pi (aE.nil sM)))))))))) mixed (fn:=Tryz.f13) _ _ _ _ _ Jm Tryz.func13 (by kernel_rfl) (fun x=>by kernel_rfl)
def dW (a0:(List ah.D)):Option (List ah.D) :=
 if (([]:List ah.D).length + a0.length) * (24 * 13)≤aC then (
 some ([]++a0)) else none
def m8:Ct:=.pure true true (.pair (.slice ah) .unit) (.slice ah) (fun x=>dW x.1)
theorem mg:fB Tryz.prog 263 m8:=EC (E:={ T:=tab,G:=[] }) (aE.nil sM) mixed (fn:=Tryz.f263) _ _ ah _ _ .none .none Tryz.func263 (by kernel_rfl) (by kernel_rfl) (fun x=>by kernel_rfl)
def ew (a0:(List ar.D)):Option (List ar.D) :=
 if (([]:List ar.D).length + a0.length) * (24 * 3)≤aC then (
 some ([]++a0)) else none
def nO:Ct:=.pure true true (.pair (.slice ar) .unit) (.slice ar) (fun x=>ew x.1)
theorem m9:fB Tryz.prog 264 nO:=EC (E:={ T:=tab,G:=[] }) (aE.nil sM) mixed (fn:=Tryz.f264) _ _ ar _ _ .none .none Tryz.func264 (by kernel_rfl) (by kernel_rfl) (fun x=>by kernel_rfl)
def cH (a0:ae.D):Option ae.D :=
(dW a0.1).bind fun y1 =>
(ew a0.2.1).bind fun y2 =>
 some (y1,y2,a0.2.2)
def vS:Ct:=.pure true true (.pair ae .unit) ae (fun x=>cH x.1)
theorem bE:KC 151 vS:=pq (Ec mg (Ec m9 En)) .none Tryz.func151
def bd (a0:(List ac.D)):Option (List ac.D) :=
 if (([]:List ac.D).length + a0.length) * (24 * 7)≤aC then (
 some ([]++a0)) else none
def nc:Ct:=.pure true true (.pair (.slice ac) .unit) (.slice ac) (fun x=>bd x.1)
theorem dd:fB Tryz.prog 282 nc:=EC (E:={ T:=tab,G:=[] }) (aE.nil sM) mixed (fn:=Tryz.f282) _ _ ac _ _ .none .none Tryz.func282 (by kernel_rfl) (by kernel_rfl) (fun x=>by kernel_rfl)
def cL (a0:aa.D):Option aa.D :=
(bd a0.2.2.2.2.2.2.1.2.2.2.2.2.2.1).bind fun y1 =>
 some (a0.1,a0.2.1,a0.2.2.1,a0.2.2.2.1,a0.2.2.2.2.1,a0.2.2.2.2.2.1,(a0.2.2.2.2.2.2.1.1,a0.2.2.2.2.2.2.1.2.1,a0.2.2.2.2.2.2.1.2.2.1,a0.2.2.2.2.2.2.1.2.2.2.1,a0.2.2.2.2.2.2.1.2.2.2.2.1,a0.2.2.2.2.2.2.1.2.2.2.2.2.1,y1,()),a0.2.2.2.2.2.2.2)
def uD:Ct:=.pure true true (.pair aa .unit) aa (fun x=>cL x.1)
theorem cI:KC 210 uD:=pq (Ec dd En) .none Tryz.func210
def mh (a0:(List aa.D)):((List aa.D)×Int)→Option (((List aa.D)×Int)⊕((List aa.D)×Int)):=fun s1 =>
 bif decide (s1.2 < (a0.length:Int)) then (
 idx a0 s1.2 fun x2 =>
(cL x2).bind fun y3 =>
 if (s1.1.length + [y3].length) * (24 * 22)≤aC then (
 some (.inl ((s1.1++[y3]),IntKind.wrap .i64 (s1.2 + 1)))) else none)
 else (
 some (.inr s1))
def bO (a0:(List aa.D)):Option (List aa.D) :=
(al (mh a0) ([],0)).bind fun o4 =>
 some o4.1
def EN:Hints:=(n0 (n0 (nd (n0 (nd (.node none (some ⟨[.tmpO 3 0 (.slice aa),.tmp 9 (.int .i64)],[some 0],none,[]⟩) .none .none) .none)) .none)))
def gz:Ct:=.pure true true (.pair (.slice aa) .unit) (.slice aa) (fun x=>bO x.1)
theorem bn:KC 152 gz:=pq (Ec cI En) EN Tryz.func152
def bm (a0:(List Int)):Option (List Int) :=
 if (([]:List Int).length + a0.length) * (24 * 1)≤aC then (
 some ([]++a0)) else none
def dN:Ct:=.pure true true (.pair (.slice (.int .i64)) .unit) (.slice (.int .i64)) (fun x=>bm x.1)
theorem bu:fB Tryz.prog 153 dN:=EC (E:={ T:=tab,G:=[] }) (aE.nil sM) mixed (fn:=Tryz.f153) _ _ (.int .i64) _ _ .none .none Tryz.func153 (by kernel_rfl) (by kernel_rfl) (fun x=>by kernel_rfl)
def bv (a0:(List af.D)):Option (List af.D) :=
 if (([]:List af.D).length + a0.length) * (24 * 16)≤aC then (
 some ([]++a0)) else none
def lD:Ct:=.pure true true (.pair (.slice af) .unit) (.slice af) (fun x=>bv x.1)
theorem cR:fB Tryz.prog 205 lD:=EC (E:={ T:=tab,G:=[] }) (aE.nil sM) mixed (fn:=Tryz.f205) _ _ af _ _ .none .none Tryz.func205 (by kernel_rfl) (by kernel_rfl) (fun x=>by kernel_rfl)
def gA (a0:(List ai.D)):Option (List ai.D) :=
 if (([]:List ai.D).length + a0.length) * (24 * 23)≤aC then (
 some ([]++a0)) else none
def nP:Ct:=.pure true true (.pair (.slice ai) .unit) (.slice ai) (fun x=>gA x.1)
theorem ne:fB Tryz.prog 206 nP:=EC (E:={ T:=tab,G:=[] }) (aE.nil sM) mixed (fn:=Tryz.f206) _ _ ai _ _ .none .none Tryz.func206 (by kernel_rfl) (by kernel_rfl) (fun x=>by kernel_rfl)
def mj (a0:(List au.D)):((List au.D)×Int)→Option (((List au.D)×Int)⊕((List au.D)×Int)):=fun s1 =>
 bif decide (s1.2 < (a0.length:Int)) then (
 idx a0 s1.2 fun x2 =>
(bd x2.2.2.2.2.2.1).bind fun y3 =>
 if (s1.1.length + [(x2.1,x2.2.1,x2.2.2.1,x2.2.2.2.1,x2.2.2.2.2.1,y3,x2.2.2.2.2.2.2)].length) * (24 * 14)≤aC then (
 some (.inl ((s1.1++[(x2.1,x2.2.1,x2.2.2.1,x2.2.2.2.1,x2.2.2.2.2.1,y3,x2.2.2.2.2.2.2)]),IntKind.wrap .i64 (s1.2 + 1)))) else none)
 else (
 some (.inr s1))
def f8 (a0:(List au.D)):Option (List au.D) :=
(al (mj a0) ([],0)).bind fun o4 =>
 some o4.1
def EO:Hints:=(n0 (n0 (nd (n0 (nd (.node none (some ⟨[.tmpO 3 0 (.slice au),.tmp 9 (.int .i64)],[some 0],none,[]⟩) .none .none) .none)) .none)))
def gB:Ct:=.pure true true (.pair (.slice au) .unit) (.slice au) (fun x=>f8 x.1)
theorem f9:KC 167 gB:=pq (Ec dd En) EO Tryz.func167
def oD (a0:T_Game.D):Option T_Game.D :=
(cH a0.1).bind fun y1 =>
(bO a0.2.1).bind fun y2 =>
(bm a0.2.2.1).bind fun y3 =>
(bv a0.2.2.2.1).bind fun y4 =>
(gA a0.2.2.2.2.1).bind fun y5 =>
(f8 a0.2.2.2.2.2.1).bind fun y6 =>
 some (y1,y2,y3,y4,y5,y6,())
def xA:Ct:=.pure true true (.pair T_Game .unit) T_Game (fun x=>oD x.1)
theorem vT:KC 91 xA:=pq (Ec bE (Ec bn (Ec bu (Ec f9 (Ec cR (Ec ne En)))))) .none Tryz.func91
def aX (a0:Int) (a1:Int) (a2:Int):Option Bool :=
 bif decide (a0≥a1) then (
 some (decide (a0≤a2)))
 else (
 some false)
def Pw:Ct:=.pure true false (.pair (.int .i64) (.pair (.int .i64) (.pair (.int .i64) .unit))) .bool (fun x=>aX x.1 x.2.1 x.2.2.1)
theorem bK:KC 186 Pw:=pq En .none Tryz.func186
def aQ (a0:ae.D) (a1:Int):Option Bool :=
(aX a1 0 (IntKind.wrap .i64 ((a0.2.1.length:Int) - 1))).bind fun y1 =>
 some y1
def Ly:Ct:=.pure true false (.pair ae (.pair (.int .i64) .unit)) .bool (fun x=>aQ x.1 x.2.1)
theorem ga:KC 187 Ly:=pq (Ec bK En) .none Tryz.func187
def pj (a0:Int):Option Bool :=
(aX a0 0 9999).bind fun y1 =>
 some y1
def Lz:Ct:=.pure true false (.pair (.int .i64) .unit) .bool (fun x=>pj x.1)
theorem yL:KC 188 Lz:=pq (Ec bK En) .none Tryz.func188
def dq (a0:Int):Option Bool :=
(aX a0 1 99).bind fun y1 =>
 some y1
def Px:Ct:=.pure true false (.pair (.int .i64) .unit) .bool (fun x=>dq x.1)
theorem jb:KC 236 Px:=pq (Ec bK En) .none Tryz.func236
def bk (a0:Int):Option Bool :=
(aX a0 0 2).bind fun y1 =>
 some y1
def GB:Ct:=.pure true false (.pair (.int .i64) .unit) .bool (fun x=>bk x.1)
theorem gb:KC 237 GB:=pq (Ec bK En) .none Tryz.func237
def iM (a0:Int):Option Bool :=
(aX a0 1 4).bind fun y1 =>
 some y1
def LA:Ct:=.pure true false (.pair (.int .i64) .unit) .bool (fun x=>iM x.1)
theorem rK:KC 276 LA:=pq (Ec bK En) .none Tryz.func276
def jM (a0:Int):Option Bool :=
(aX a0 0 63).bind fun y1 =>
 some y1
def GC:Ct:=.pure true false (.pair (.int .i64) .unit) .bool (fun x=>jM x.1)
theorem uE:KC 291 GC:=pq (Ec bK En) .none Tryz.func291
def bR (a0:Int):Option Bool :=
(aX a0 0 2147483647).bind fun y1 =>
 some y1
def GD:Ct:=.pure true false (.pair (.int .i64) .unit) .bool (fun x=>bR x.1)
theorem gc:KC 193 GD:=pq (Ec bK En) .none Tryz.func193
def qC (a0:ah.D):Option Bool :=
(((dq a0.1).bind fun y1 =>
 bif (!y1) then (
 some true)
 else (
(bk a0.2.1).bind fun y2 =>
 bif (!y2) then (
 some true)
 else (
(bk a0.2.2.1).bind fun y3 =>
 bif (!y3) then (
 some true)
 else (
(iM a0.2.2.2.1).bind fun y4 =>
 bif (!y4) then (
 some true)
 else (
(pj a0.2.2.2.2.1).bind fun y5 =>
 bif (!y5) then (
 some true)
 else (
(aX a0.2.2.2.2.2.1 0 999).bind fun y6 =>
 bif (!y6) then (
 some true)
 else (
(aX a0.2.2.2.2.2.2.1 0 999).bind fun y7 =>
 bif (!y7) then (
 some true)
 else (
(jM a0.2.2.2.2.2.2.2.1).bind fun y8 =>
 some (!y8))))))))):Option Bool).bind fun o9 =>
 bif o9 then (
 some false)
 else (
 bif (a0.2.2.2.1 != 2) then (
((bif (a0.2.2.1 == a0.2.1) then (
 bif (a0.2.2.2.2.2.2.2.2.1 == 0) then (
 bif (a0.2.2.2.2.2.2.2.2.2.1 == 0) then (
 bif (a0.2.2.2.2.2.2.2.2.2.2.1 == 0) then (
 bif (!a0.2.2.2.2.2.2.2.2.2.2.2.1) then (
 some (!a0.2.2.2.2.2.2.2.2.2.2.2.2.1))
 else (
 some false))
 else (
 some false))
 else (
 some false))
 else (
 some false))
 else (
 some false)):Option Bool).bind fun o10 =>
 some o10)
 else (
(bR a0.2.2.2.2.2.2.2.2.1).bind fun y11 =>
 bif y11 then (
(bR a0.2.2.2.2.2.2.2.2.2.1).bind fun y12 =>
 bif y12 then (
(bR a0.2.2.2.2.2.2.2.2.2.2.1).bind fun y13 =>
 some y13)
 else (
 some false))
 else (
 some false)))
def Jn:Hints:=(n0 (nd (nd (cu ⟨[.tmp 48 .bool],[none],none,[]⟩) .none) (nd (n0 (nd (nd (cu ⟨[.tmp 2 .bool],[none],none,[]⟩) .none) .none)) .none)))
def Jo:Ct:=.pure true false (.pair ah .unit) .bool (fun x=>qC x.1)
theorem GE:KC 189 Jo:=pq (Ec bK (Ec yL (Ec gc (Ec jb (Ec gb (Ec rK (Ec uE En))))))) Jn Tryz.func189
def cz (a0:(List ar.D)) (a1:((ar.D×Unit)→Option Bool)):Int→Option (Int⊕(Int⊕Int)):=fun s1 =>
 bif decide (s1 < (a0.length:Int)) then (
 idx a0 s1 fun x2 =>
(a1 (x2,())).bind fun y3 =>
 bif y3 then (
 some (.inr (.inr s1)))
 else (
 some (.inl (IntKind.wrap .i64 (s1 + 1)))))
 else (
 some (.inr (.inl s1)))
def de (a0:(List ar.D)) (a1:((ar.D×Unit)→Option Bool)):Option Int :=
(al (cz a0 a1) 0).bind fun o4 =>
 match o4 with
| .inl s5=>(
 some (-1))
| .inr o6=>(
 some o6)
def pR:Hints:=(n0 (nd (n0 (nd (.node none (some ⟨[.tmp 8 (.int .i64)],[some 0],some [.tmp 4 (.int .i64)],[]⟩) .none .none) .none)) .none))
def pS:Ct:=.pure true false (.pair (.slice ar) (.pair (.fn (.pair ar .unit) .bool) .unit)) (.int .i64) (fun x=>de x.1 x.2.1)
theorem pk:KC 292 pS:=pq En pR Tryz.func292
def cA (a0:(List ar.D)) (a1:((ar.D×Unit)→Option Bool)):Option Bool :=
(de a0 a1).bind fun y1 =>
 some (decide (y1≥0))
def nf:Ct:=.pure true false (.pair (.slice ar) (.pair (.fn (.pair ar .unit) .bool) .unit)) .bool (fun x=>cA x.1 x.2.1)
theorem ml:KC 190 nf:=pq (Ec pk En) .none Tryz.func190
def cd (a0:Int):Option Int :=
 some (if (if 2147483647 < a0 then 2147483647 else a0) > (-2147483647) then (if 2147483647 < a0 then 2147483647 else a0) else (-2147483647))
def NQ:Ct:=.pure true false (.pair (.int .i64) .unit) (.int .i64) (fun x=>cd x.1)
theorem gZ:KC 192 NQ:=pq En .none Tryz.func192
def iN (a0:ar.D):Option Bool :=
(cd a0.1).bind fun y1 =>
 bif (y1 != a0.1) then (
 some true)
 else (
(bR a0.2.1).bind fun y2 =>
 some (!y2))
def EP:Ct:=.pure true false (.pair ar .unit) .bool (fun x=>iN x.1)
theorem C2:KC 191 EP:=pq (Ec gZ (Ec gc En)) .none Tryz.func191
def kt (a0:ae.D):Int→Option (Int⊕(Int⊕Bool)):=fun s5 =>
 bif decide (s5 < (a0.1.length:Int)) then (
 idx a0.1 s5 fun x6 =>
(((qC x6).bind fun y7 =>
 bif (!y7) then (
 some true)
 else (
(aQ a0 x6.2.1).bind fun y8 =>
 bif (!y8) then (
 some true)
 else (
(aQ a0 x6.2.2.1).bind fun y9 =>
 bif (!y9) then (
 some true)
 else (
 bif decide (x6.2.2.2.2.1 > a0.2.2.2.1) then (
 some true)
 else (
 bif decide (s5 > 0) then (
 idx a0.1 (IntKind.wrap .i64 (s5 - 1)) fun x10 =>
 some (decide (x10.1≥x6.1)))
 else (
 some false)))))):Option Bool).bind fun o11 =>
 bif o11 then (
 some (.inr (.inr false)))
 else (
 some (.inl (IntKind.wrap .i64 (s5 + 1)))))
 else (
 some (.inr (.inl s5)))
def df (a0:ae.D):Option Bool :=
((bif decide ((a0.1.length:Int) > 8) then (
 some true)
 else (
(aX (a0.2.1.length:Int) 2 3).bind fun y1 =>
 bif (!y1) then (
 some true)
 else (
(aQ a0 a0.2.2.1).bind fun y2 =>
 bif (!y2) then (
 some true)
 else (
(pj a0.2.2.2.1).bind fun y3 =>
 some (!y3))))):Option Bool).bind fun o4 =>
 bif o4 then (
 some false)
 else (
(al (kt a0) 0).bind fun o12 =>
 match o12 with
| .inl s13=>(
(cA a0.2.1 (fun q=>iN q.1)).bind fun y15 =>
 some (!y15))
| .inr o14=>(
 some o14))
def Jp:Hints:=(n0 (nd (nd (cu ⟨[.tmp 28 .bool],[none],none,[]⟩) .none) (nd (n0 (nd (.node none (some ⟨[.tmp 32 (.int .i64)],[some 0],some [.tmp 2 .bool],[]⟩) (n0 (n0 (nd (nd (n0 (nd (cu ⟨[.tmp 76 .bool],[none],none,[]⟩) .none)) .none) .none))) .none) .none)) .none)))
def yM:Ct:=.pure true false (.pair ae .unit) .bool (fun x=>df x.1)
theorem dw:KC 81 yM:=pq (Ec bK (Ec ga (Ec yL (Ec GE (Ec ml (Ec C2 En)))))) Jp Tryz.func81
def lm (a0:Int):Option Bool :=
(aX a0 1 6).bind fun y1 =>
 some y1
def LB:Ct:=.pure true false (.pair (.int .i64) .unit) .bool (fun x=>lm x.1)
theorem yN:KC 347 LB:=pq (Ec bK En) .none Tryz.func347
def kT (a0:cn.D):Option Bool :=
(((lm a0.1).bind fun y1 =>
 bif (!y1) then (
 some true)
 else (
(aX a0.2.1 0 2).bind fun y2 =>
 bif (!y2) then (
 some true)
 else (
(aX a0.2.2.1 0 99).bind fun y3 =>
 bif (!y3) then (
 some true)
 else (
(jM a0.2.2.2.1).bind fun y4 =>
 bif (!y4) then (
 some true)
 else (
(aX a0.2.2.2.2.1 0 99).bind fun y5 =>
 bif (!y5) then (
 some true)
 else (
(bR a0.2.2.2.2.2.1).bind fun y6 =>
 bif (!y6) then (
 some true)
 else (
(aX a0.2.2.2.2.2.2.1 0 4).bind fun y7 =>
 some (!y7)))))))):Option Bool).bind fun o8 =>
 bif o8 then (
 some false)
 else (
((bif (a0.1 != 1) then (
 bif (a0.2.2.1 != 0) then (
 some true)
 else (
 bif (a0.2.2.2.1 != 0) then (
 some true)
 else (
 bif (a0.1 != 2) then (
 some (a0.2.2.2.2.2.2.1 != 0))
 else (
 some false))))
 else (
 bif (a0.1 != 2) then (
 some (a0.2.2.2.2.2.2.1 != 0))
 else (
 some false))):Option Bool).bind fun o9 =>
 bif o9 then (
 some false)
 else (
 bif (a0.2.2.2.2.1 == 0) then (
 some true)
 else (
 bif (a0.1 != 3) then (
 some (a0.1 != 4))
 else (
 some false))))
def NR:Hints:=(n0 (nd (nd (cu ⟨[.tmp 42 .bool],[none],none,[]⟩) .none) (nd (nd (cu ⟨[.tmp 65 .bool],[none],none,[]⟩) .none) .none)))
def NS:Ct:=.pure true false (.pair cn .unit) .bool (fun x=>kT x.1)
theorem AS:KC 293 NS:=pq (Ec bK (Ec gc (Ec uE (Ec yN En)))) NR Tryz.func293
def gC (a0:bc.D):Option Bool :=
((bif (a0.1 == 0) then (
 some (a0.1 == 0))
 else (
 some (a0.1 == 3))):Option Bool).bind fun o1 =>
 bif o1 then (
 some (a0.2.1 == 0))
 else (
 bif (a0.1 == 1) then (
(cd a0.2.1).bind fun y2 =>
 some (y2 == a0.2.1))
 else (
((bif (a0.1 == 2) then (
 some (a0.1 == 2))
 else (
 some (a0.1 == 4))):Option Bool).bind fun o3 =>
 bif o3 then (
(aX a0.2.1 0 8).bind fun y4 =>
 some y4)
 else (
 some false)))
def Jq:Hints:=(n0 (nd (n0 (nd (nd (n0 (cu ⟨[.tmp 5 .bool],[none],none,[]⟩)) (n0 (n0 (n0 (nd (n0 (cu ⟨[.tmp 19 .bool],[none],none,[]⟩)) .none))))) .none)) .none))
def Jr:Ct:=.pure true false (.pair bc .unit) .bool (fun x=>gC x.1)
theorem wH:KC 294 Jr:=pq (Ec bK (Ec gZ En)) Jq Tryz.func294
def aY (a0:(List ac.D)) (a1:((ac.D×Unit)→Option Bool)):Int→Option (Int⊕(Int⊕Int)):=fun s1 =>
 bif decide (s1 < (a0.length:Int)) then (
 idx a0 s1 fun x2 =>
(a1 (x2,())).bind fun y3 =>
 bif y3 then (
 some (.inr (.inr s1)))
 else (
 some (.inl (IntKind.wrap .i64 (s1 + 1)))))
 else (
 some (.inr (.inl s1)))
def bj (a0:(List ac.D)) (a1:((ac.D×Unit)→Option Bool)):Option Int :=
(al (aY a0 a1) 0).bind fun o4 =>
 match o4 with
| .inl s5=>(
 some (-1))
| .inr o6=>(
 some o6)
def pm:Hints:=(n0 (nd (n0 (nd (.node none (some ⟨[.tmp 8 (.int .i64)],[some 0],some [.tmp 4 (.int .i64)],[]⟩) .none .none) .none)) .none))
def po:Ct:=.pure true false (.pair (.slice ac) (.pair (.fn (.pair ac .unit) .bool) .unit)) (.int .i64) (fun x=>bj x.1 x.2.1)
theorem gf:KC 290 po:=pq En pm Tryz.func290
def aK (a0:(List ac.D)) (a1:((ac.D×Unit)→Option Bool)):Option Bool :=
(bj a0 a1).bind fun y1 =>
 some (decide (y1≥0))
def mn:Ct:=.pure true false (.pair (.slice ac) (.pair (.fn (.pair ac .unit) .bool) .unit)) .bool (fun x=>aK x.1 x.2.1)
theorem cW:KC 183 mn:=pq (Ec gf En) .none Tryz.func183
def jc (a0:ac.D):Option Bool :=
(dq a0.2.2.1).bind fun y1 =>
 bif y1 then (
 some (a0.2.2.2.1 == (-1)))
 else (
 some false)
def Js:Ct:=.pure true false (.pair ac .unit) .bool (fun x=>jc x.1)
theorem GF:KC 274 Js:=pq (Ec jb En) .none Tryz.func274
def oE (a0:ac.D):Option Bool :=
 bif (a0.2.2.1 == 0) then (
(bk a0.2.2.2.1).bind fun y1 =>
 some y1)
 else (
 some false)
def GG:Ct:=.pure true false (.pair ac .unit) .bool (fun x=>oE x.1)
theorem EQ:KC 275 GG:=pq (Ec gb En) .none Tryz.func275
def bL (a0:ac.D):Option Bool :=
(((bR a0.2.2.2.2.1).bind fun y1 =>
 bif (!y1) then (
 some true)
 else (
 bif (a0.1 != 1) then (
 bif (a0.2.1 != 0) then (
 some true)
 else (
 bif (a0.1 != 2) then (
 bif (a0.2.2.2.2.2.1 != 0) then (
 some true)
 else (
 some a0.2.2.2.2.2.2.1))
 else (
 some false)))
 else (
 bif (a0.1 != 2) then (
 bif (a0.2.2.2.2.2.1 != 0) then (
 some true)
 else (
 some a0.2.2.2.2.2.2.1))
 else (
 some false)))):Option Bool).bind fun o2 =>
 bif o2 then (
 some false)
 else (
 bif (a0.1 == 1) then (
(dq a0.2.1).bind fun y3 =>
 bif y3 then (
(jc a0).bind fun y4 =>
 bif y4 then (
 some true)
 else (
(oE a0).bind fun y5 =>
 some y5))
 else (
 some false))
 else (
 bif (a0.1 == 2) then (
 bif (a0.2.2.2.2.2.1 == 2) then (
(((jc a0).bind fun y6 =>
 bif y6 then (
 some (decide (a0.2.2.2.2.1≤99)))
 else (
 some false)):Option Bool).bind fun o7 =>
 some o7)
 else (
(jc a0).bind fun y8 =>
 bif y8 then (
(iM a0.2.2.2.2.2.1).bind fun y9 =>
 bif y9 then (
 bif (a0.2.2.2.2.1 == 0) then (
 some (!a0.2.2.2.2.2.2.1))
 else (
 some false))
 else (
 some false))
 else (
 some false)))
 else (
((bif (a0.1 == 3) then (
 some (a0.1 == 3))
 else (
 some (a0.1 == 4))):Option Bool).bind fun o10 =>
 bif o10 then (
(oE a0).bind fun y11 =>
 some y11)
 else (
((bif (a0.1 == 5) then (
 some (a0.1 == 5))
 else (
 some (a0.1 == 6))):Option Bool).bind fun o12 =>
 bif o12 then (
(jc a0).bind fun y13 =>
 some y13)
 else (
 some false)))))
def Jt:Hints:=(n0 (nd (nd (cu ⟨[.tmp 30 .bool],[none],none,[]⟩) .none) (nd (n0 (nd (n0 (n0 (n0 (nd (nd (n0 (nd (nd (cu ⟨[.tmp 2 .bool],[none],none,[]⟩) .none) .none)) .none) (nd (n0 (cu ⟨[.tmp 75 .bool],[none],none,[]⟩)) (n0 (nd (n0 (cu ⟨[.tmp 80 .bool],[none],none,[]⟩)) .none))))))) .none)) .none)))
def yO:Ct:=.pure true false (.pair ac .unit) .bool (fun x=>bL x.1)
theorem bP:KC 162 yO:=pq (Ec gc (Ec jb (Ec GF (Ec EQ (Ec rK En))))) Jt Tryz.func162
def tt (a0:ac.D):Option Bool :=
(bL a0).bind fun y1 =>
 bif y1 then (
 some true)
 else (
((bif (a0.1 != 2) then (
 some (a0.2.2.2.2.1 == (-1)))
 else (
 some false)):Option Bool).bind fun o2 =>
 bif o2 then (
(bL (a0.1,a0.2.1,a0.2.2.1,a0.2.2.2.1,0,a0.2.2.2.2.2)).bind fun y3 =>
 some y3)
 else (
 some false))
def LC:Hints:=(n0 (n0 (nd (cu ⟨[.tmp 3 .bool],[none],none,[]⟩) .none)))
def LD:Ct:=.pure true false (.pair ac .unit) .bool (fun x=>tt x.1)
theorem Ju:KC 349 LD:=pq (Ec bP En) LC Tryz.func349
def jd (a0:ac.D):Option Bool :=
(tt a0).bind fun y1 =>
 some (!y1)
def Jv:Ct:=.pure true false (.pair ac .unit) .bool (fun x=>jd x.1)
theorem GH:KC 348 Jv:=pq (Ec Ju En) .none Tryz.func348
def eN (a0:bg.D):Option Bool :=
((bif (a0.1 != 3) then (
 bif (a0.1 != 8) then (
 bif (a0.2.1 != 0) then (
 some true)
 else (
 bif (a0.1 != 6) then (
 bif (a0.2.2.1 != 0) then (
 some true)
 else (
 bif (a0.2.2.2.1 != (-1)) then (
 some true)
 else (
 bif (a0.1 != 7) then (
 bif (a0.2.2.2.2.1 != 0) then (
 some true)
 else (
 bif (a0.1 != 8) then (
 bif a0.2.2.2.2.2.1 then (
 some true)
 else (
 bif (a0.1 != 9) then (
 some (decide ((a0.2.2.2.2.2.2.1.length:Int) > 0)))
 else (
 some false)))
 else (
 bif (a0.1 != 9) then (
 some (decide ((a0.2.2.2.2.2.2.1.length:Int) > 0)))
 else (
 some false))))
 else (
 bif (a0.1 != 8) then (
 bif a0.2.2.2.2.2.1 then (
 some true)
 else (
 bif (a0.1 != 9) then (
 some (decide ((a0.2.2.2.2.2.2.1.length:Int) > 0)))
 else (
 some false)))
 else (
 bif (a0.1 != 9) then (
 some (decide ((a0.2.2.2.2.2.2.1.length:Int) > 0)))
 else (
 some false))))))
 else (
 bif (a0.1 != 7) then (
 bif (a0.2.2.2.2.1 != 0) then (
 some true)
 else (
 bif (a0.1 != 8) then (
 bif a0.2.2.2.2.2.1 then (
 some true)
 else (
 bif (a0.1 != 9) then (
 some (decide ((a0.2.2.2.2.2.2.1.length:Int) > 0)))
 else (
 some false)))
 else (
 bif (a0.1 != 9) then (
 some (decide ((a0.2.2.2.2.2.2.1.length:Int) > 0)))
 else (
 some false))))
 else (
 bif (a0.1 != 8) then (
 bif a0.2.2.2.2.2.1 then (
 some true)
 else (
 bif (a0.1 != 9) then (
 some (decide ((a0.2.2.2.2.2.2.1.length:Int) > 0)))
 else (
 some false)))
 else (
 bif (a0.1 != 9) then (
 some (decide ((a0.2.2.2.2.2.2.1.length:Int) > 0)))
 else (
 some false))))))
 else (
 bif (a0.1 != 6) then (
 bif (a0.2.2.1 != 0) then (
 some true)
 else (
 bif (a0.2.2.2.1 != (-1)) then (
 some true)
 else (
 bif (a0.1 != 7) then (
 bif (a0.2.2.2.2.1 != 0) then (
 some true)
 else (
 bif (a0.1 != 8) then (
 bif a0.2.2.2.2.2.1 then (
 some true)
 else (
 bif (a0.1 != 9) then (
 some (decide ((a0.2.2.2.2.2.2.1.length:Int) > 0)))
 else (
 some false)))
 else (
 bif (a0.1 != 9) then (
 some (decide ((a0.2.2.2.2.2.2.1.length:Int) > 0)))
 else (
 some false))))
 else (
 bif (a0.1 != 8) then (
 bif a0.2.2.2.2.2.1 then (
 some true)
 else (
 bif (a0.1 != 9) then (
 some (decide ((a0.2.2.2.2.2.2.1.length:Int) > 0)))
 else (
 some false)))
 else (
 bif (a0.1 != 9) then (
 some (decide ((a0.2.2.2.2.2.2.1.length:Int) > 0)))
 else (
 some false))))))
 else (
 bif (a0.1 != 7) then (
 bif (a0.2.2.2.2.1 != 0) then (
 some true)
 else (
 bif (a0.1 != 8) then (
 bif a0.2.2.2.2.2.1 then (
 some true)
 else (
 bif (a0.1 != 9) then (
 some (decide ((a0.2.2.2.2.2.2.1.length:Int) > 0)))
 else (
 some false)))
 else (
 bif (a0.1 != 9) then (
 some (decide ((a0.2.2.2.2.2.2.1.length:Int) > 0)))
 else (
 some false))))
 else (
 bif (a0.1 != 8) then (
 bif a0.2.2.2.2.2.1 then (
 some true)
 else (
 bif (a0.1 != 9) then (
 some (decide ((a0.2.2.2.2.2.2.1.length:Int) > 0)))
 else (
 some false)))
 else (
 bif (a0.1 != 9) then (
 some (decide ((a0.2.2.2.2.2.2.1.length:Int) > 0)))
 else (
 some false))))))
 else (
 bif (a0.1 != 6) then (
 bif (a0.2.2.1 != 0) then (
 some true)
 else (
 bif (a0.2.2.2.1 != (-1)) then (
 some true)
 else (
 bif (a0.1 != 7) then (
 bif (a0.2.2.2.2.1 != 0) then (
 some true)
 else (
 bif (a0.1 != 8) then (
 bif a0.2.2.2.2.2.1 then (
 some true)
 else (
 bif (a0.1 != 9) then (
 some (decide ((a0.2.2.2.2.2.2.1.length:Int) > 0)))
 else (
 some false)))
 else (
 bif (a0.1 != 9) then (
 some (decide ((a0.2.2.2.2.2.2.1.length:Int) > 0)))
 else (
 some false))))
 else (
 bif (a0.1 != 8) then (
 bif a0.2.2.2.2.2.1 then (
 some true)
 else (
 bif (a0.1 != 9) then (
 some (decide ((a0.2.2.2.2.2.2.1.length:Int) > 0)))
 else (
 some false)))
 else (
 bif (a0.1 != 9) then (
 some (decide ((a0.2.2.2.2.2.2.1.length:Int) > 0)))
 else (
 some false))))))
 else (
 bif (a0.1 != 7) then (
 bif (a0.2.2.2.2.1 != 0) then (
 some true)
 else (
 bif (a0.1 != 8) then (
 bif a0.2.2.2.2.2.1 then (
 some true)
 else (
 bif (a0.1 != 9) then (
 some (decide ((a0.2.2.2.2.2.2.1.length:Int) > 0)))
 else (
 some false)))
 else (
 bif (a0.1 != 9) then (
 some (decide ((a0.2.2.2.2.2.2.1.length:Int) > 0)))
 else (
 some false))))
 else (
 bif (a0.1 != 8) then (
 bif a0.2.2.2.2.2.1 then (
 some true)
 else (
 bif (a0.1 != 9) then (
 some (decide ((a0.2.2.2.2.2.2.1.length:Int) > 0)))
 else (
 some false)))
 else (
 bif (a0.1 != 9) then (
 some (decide ((a0.2.2.2.2.2.2.1.length:Int) > 0)))
 else (
 some false)))))):Option Bool).bind fun o1 =>
 bif o1 then (
 some false)
 else (
((bif (a0.1 == 1) then (
 some (a0.1 == 1))
 else (
((bif (a0.1 == 2) then (
 some (a0.1 == 2))
 else (
((bif (a0.1 == 4) then (
 some (a0.1 == 4))
 else (
 some (a0.1 == 5))):Option Bool).bind fun o2 =>
 some o2)):Option Bool).bind fun o3 =>
 some o3)):Option Bool).bind fun o4 =>
 bif o4 then (
 some true)
 else (
 bif (a0.1 == 3) then (
(aX a0.2.1 1 2147483647).bind fun y5 =>
 some y5)
 else (
 bif (a0.1 == 6) then (
(dq a0.2.2.1).bind fun y6 =>
 bif y6 then (
 bif (a0.2.2.2.1 == (-1)) then (
 some true)
 else (
 bif (a0.2.2.1 == 0) then (
(bk a0.2.2.2.1).bind fun y7 =>
 some y7)
 else (
 some false)))
 else (
 bif (a0.2.2.1 == 0) then (
(bk a0.2.2.2.1).bind fun y8 =>
 some y8)
 else (
 some false)))
 else (
 bif (a0.1 == 7) then (
(iM a0.2.2.2.2.1).bind fun y9 =>
 some y9)
 else (
 bif (a0.1 == 8) then (
(aX a0.2.1 0 99).bind fun y10 =>
 some y10)
 else (
 bif (a0.1 == 9) then (
(aX (a0.2.2.2.2.2.2.1.length:Int) 1 3).bind fun y11 =>
 bif y11 then (
(aK a0.2.2.2.2.2.2.1 (fun q=>jd q.1)).bind fun y12 =>
 some (!y12))
 else (
 some false))
 else (
 some false)))))))
def NT:Hints:=(n0 (nd (nd (cu ⟨[.tmp 60 .bool],[none],none,[]⟩) .none) (nd (n0 (nd (nd (n0 (.node (some ⟨[.tmp 63 .bool],[none],none,[]⟩) none .none (n0 (.node (some ⟨[.tmp 63 .bool],[none],none,[]⟩) none .none (n0 (cu ⟨[.tmp 63 .bool],[none],none,[]⟩)))))) .none) .none)) .none)))
def NU:Ct:=.pure true false (.pair bg .unit) .bool (fun x=>eN x.1)
theorem LE:KC 295 NU:=pq (Ec cW (Ec bK (Ec jb (Ec gb (Ec rK (Ec GH En)))))) NT Tryz.func295
def dg (a0:bg.D) (a1:Int):Option Bool :=
(lm a1).bind fun y1 =>
 bif (!y1) then (
 some false)
 else (
((bif (a0.1 == 1) then (
 some (a0.1 == 1))
 else (
 some (a0.1 == 9))):Option Bool).bind fun o2 =>
 bif o2 then (
 some true)
 else (
((bif (a0.1 == 2) then (
 some (a0.1 == 2))
 else (
 some (a0.1 == 6))):Option Bool).bind fun o3 =>
 bif o3 then (
 some (a1 == 1))
 else (
((bif (a0.1 == 3) then (
 some (a0.1 == 3))
 else (
((bif (a0.1 == 4) then (
 some (a0.1 == 4))
 else (
 some (a0.1 == 5))):Option Bool).bind fun o4 =>
 some o4)):Option Bool).bind fun o5 =>
 bif o5 then (
 some (a1 != 2))
 else (
((bif (a0.1 == 7) then (
 some (a0.1 == 7))
 else (
 some (a0.1 == 8))):Option Bool).bind fun o6 =>
 bif o6 then (
 some (a1 == 2))
 else (
 some false)))))
def Jw:Hints:=(n0 (n0 (nd (n0 (nd (nd (n0 (cu ⟨[.tmp 10 .bool],[none],none,[]⟩)) (n0 (nd (n0 (cu ⟨[.tmp 13 .bool],[none],none,[]⟩)) (n0 (nd (n0 (.node (some ⟨[.tmp 18 .bool],[none],none,[]⟩) none .none (n0 (cu ⟨[.tmp 18 .bool],[none],none,[]⟩)))) (n0 (nd (n0 (cu ⟨[.tmp 24 .bool],[none],none,[]⟩)) .none))))))) .none)) .none)))
def Jx:Ct:=.pure true false (.pair bg (.pair (.int .i64) .unit)) .bool (fun x=>dg x.1 x.2.1)
theorem wI:KC 296 Jx:=pq (Ec yN En) Jw Tryz.func296
def cJ (a0:aa.D):Option Bool :=
((bif (a0.2.2.2.2.2.2.1.1 == 2) then (
 some 0)
 else (
 some (-1))):Option Int).bind fun o1 =>
(dq a0.1).bind fun y2 =>
 bif y2 then (
(bk a0.2.1).bind fun y3 =>
 bif y3 then (
(aX a0.2.2.1 0 99).bind fun y4 =>
 bif y4 then (
(aX a0.2.2.2.1 0 4).bind fun y5 =>
 bif y5 then (
 bif (a0.2.2.2.1 != 0) then (
(kT a0.2.2.2.2.1).bind fun y6 =>
 bif y6 then (
(gC a0.2.2.2.2.2.1).bind fun y7 =>
 bif y7 then (
(eN a0.2.2.2.2.2.2.1).bind fun y8 =>
 bif y8 then (
(dg a0.2.2.2.2.2.2.1 a0.2.2.2.2.1.1).bind fun y9 =>
 bif y9 then (
(aX a0.2.2.2.2.2.2.2.1 (-1) 9999).bind fun y10 =>
 bif y10 then (
(aX a0.2.2.2.2.2.2.2.2.1 o1 2147483647).bind fun y11 =>
 some y11)
 else (
 some false))
 else (
 some false))
 else (
 some false))
 else (
 some false))
 else (
 some false))
 else (
 bif (a0.2.2.1 != 0) then (
(kT a0.2.2.2.2.1).bind fun y12 =>
 bif y12 then (
(gC a0.2.2.2.2.2.1).bind fun y13 =>
 bif y13 then (
(eN a0.2.2.2.2.2.2.1).bind fun y14 =>
 bif y14 then (
(dg a0.2.2.2.2.2.2.1 a0.2.2.2.2.1.1).bind fun y15 =>
 bif y15 then (
(aX a0.2.2.2.2.2.2.2.1 (-1) 9999).bind fun y16 =>
 bif y16 then (
(aX a0.2.2.2.2.2.2.2.2.1 o1 2147483647).bind fun y17 =>
 some y17)
 else (
 some false))
 else (
 some false))
 else (
 some false))
 else (
 some false))
 else (
 some false))
 else (
 some false)))
 else (
 some false))
 else (
 some false))
 else (
 some false))
 else (
 some false)
def GI:Hints:=(n0 (n0 (nd (n0 (cu ⟨[.tmp 3 (.int .i64)],[none],none,[]⟩)) .none)))
def GJ:Ct:=.pure true false (.pair aa .unit) .bool (fun x=>cJ x.1)
theorem nQ:KC 194 GJ:=pq (Ec bK (Ec jb (Ec gb (Ec AS (Ec wH (Ec LE (Ec wI En))))))) GI Tryz.func194
def ku (a0:(List aa.D)):Int→Option (Int⊕(Int⊕Bool)):=fun s1 =>
 bif decide (s1 < (a0.length:Int)) then (
 idx a0 s1 fun x2 =>
(((cJ x2).bind fun y3 =>
 bif (!y3) then (
 some true)
 else (
 bif decide (s1 > 0) then (
 idx a0 (IntKind.wrap .i64 (s1 - 1)) fun x4 =>
 some (decide (x4.1≥x2.1)))
 else (
 some false))):Option Bool).bind fun o5 =>
 bif o5 then (
 some (.inr (.inr false)))
 else (
 some (.inl (IntKind.wrap .i64 (s1 + 1)))))
 else (
 some (.inr (.inl s1)))
def fh (a0:(List aa.D)):Option Bool :=
(al (ku a0) 0).bind fun o6 =>
 match o6 with
| .inl s7=>(
 some (decide ((a0.length:Int)≤5)))
| .inr o8=>(
 some o8)
def Jy:Hints:=(n0 (nd (n0 (nd (.node none (some ⟨[.tmp 7 (.int .i64)],[some 0],some [.tmp 2 .bool],[]⟩) (n0 (n0 (nd (nd (n0 (nd (cu ⟨[.tmp 29 .bool],[none],none,[]⟩) .none)) .none) .none))) .none) .none)) .none))
def yP:Ct:=.pure true false (.pair (.slice aa) .unit) .bool (fun x=>fh x.1)
theorem kv:KC 82 yP:=pq (Ec nQ En) Jy Tryz.func82
def cB (a0:(List au.D)) (a1:((au.D×Unit)→Option Bool)):Int→Option (Int⊕(Int⊕Int)):=fun s1 =>
 bif decide (s1 < (a0.length:Int)) then (
 idx a0 s1 fun x2 =>
(a1 (x2,())).bind fun y3 =>
 bif y3 then (
 some (.inr (.inr s1)))
 else (
 some (.inl (IntKind.wrap .i64 (s1 + 1)))))
 else (
 some (.inr (.inl s1)))
def dh (a0:(List au.D)) (a1:((au.D×Unit)→Option Bool)):Option Int :=
(al (cB a0 a1) 0).bind fun o4 =>
 match o4 with
| .inl s5=>(
 some (-1))
| .inr o6=>(
 some o6)
def pT:Hints:=(n0 (nd (n0 (nd (.node none (some ⟨[.tmp 8 (.int .i64)],[some 0],some [.tmp 4 (.int .i64)],[]⟩) .none .none) .none)) .none))
def pU:Ct:=.pure true false (.pair (.slice au) (.pair (.fn (.pair au .unit) .bool) .unit)) (.int .i64) (fun x=>dh x.1 x.2.1)
theorem pp:KC 235 pU:=pq En pT Tryz.func235
def cC (a0:(List au.D)) (a1:((au.D×Unit)→Option Bool)):Option Bool :=
(dh a0 a1).bind fun y1 =>
 some (decide (y1≥0))
def ng:Ct:=.pure true false (.pair (.slice au) (.pair (.fn (.pair au .unit) .bool) .unit)) .bool (fun x=>cC x.1 x.2.1)
theorem mr:KC 114 ng:=pq (Ec pp En) .none Tryz.func114
def oF (a0:ac.D):Option Bool :=
(bL a0).bind fun y1 =>
 some (!y1)
def GK:Ct:=.pure true false (.pair ac .unit) .bool (fun x=>oF x.1)
theorem ER:KC 238 GK:=pq (Ec bP En) .none Tryz.func238
def ln (a0:au.D):Option Bool :=
(dq a0.1).bind fun y1 =>
 bif y1 then (
(bk a0.2.1).bind fun y2 =>
 bif y2 then (
(aX a0.2.2.2.1 1 5).bind fun y3 =>
 bif y3 then (
(aX a0.2.2.1 0 (IntKind.wrap .i64 (a0.2.2.2.1 - 1))).bind fun y4 =>
 bif y4 then (
(bR a0.2.2.2.2.2.2.1).bind fun y5 =>
 bif y5 then (
(aX a0.2.2.2.2.2.2.2.1 0 4).bind fun y6 =>
 bif y6 then (
(bL a0.2.2.2.2.1).bind fun y7 =>
 bif y7 then (
 bif decide ((a0.2.2.2.2.2.1.length:Int)≤3) then (
(aK a0.2.2.2.2.2.1 (fun q=>oF q.1)).bind fun y8 =>
 some (!y8))
 else (
 some false))
 else (
 some false))
 else (
 some false))
 else (
 some false))
 else (
 some false))
 else (
 some false))
 else (
 some false))
 else (
 some false)
def LF:Ct:=.pure true false (.pair au .unit) .bool (fun x=>ln x.1)
theorem Jz:KC 116 LF:=pq (Ec bP (Ec cW (Ec bK (Ec gc (Ec jb (Ec gb (Ec ER En))))))) .none Tryz.func116
def oG (a0:au.D):Option Bool :=
(ln a0).bind fun y1 =>
 some (!y1)
def GL:Ct:=.pure true false (.pair au .unit) .bool (fun x=>oG x.1)
theorem ES:KC 115 GL:=pq (Ec Jz En) .none Tryz.func115
def lq (a0:T_Game.D):Option Bool :=
(df a0.1).bind fun y1 =>
 bif y1 then (
(fh a0.2.1).bind fun y2 =>
 bif y2 then (
(cC a0.2.2.2.2.2.1 (fun q=>oG q.1)).bind fun y3 =>
 some (!y3))
 else (
 some false))
 else (
 some false)
def LG:Ct:=.pure true false (.pair T_Game .unit) .bool (fun x=>lq x.1)
theorem JA:KC 17 LG:=pq (Ec dw (Ec kv (Ec mr (Ec ES En)))) .none Tryz.func17
def bZ (a0:(List aa.D)) (a1:((aa.D×Unit)→Option Bool)):Int→Option (Int⊕(Int⊕Int)):=fun s1 =>
 bif decide (s1 < (a0.length:Int)) then (
 idx a0 s1 fun x2 =>
(a1 (x2,())).bind fun y3 =>
 bif y3 then (
 some (.inr (.inr s1)))
 else (
 some (.inl (IntKind.wrap .i64 (s1 + 1)))))
 else (
 some (.inr (.inl s1)))
def bw (a0:(List aa.D)) (a1:((aa.D×Unit)→Option Bool)):Option Int :=
(al (bZ a0 a1) 0).bind fun o4 =>
 match o4 with
| .inl s5=>(
 some (-1))
| .inr o6=>(
 some o6)
def nR:Hints:=(n0 (nd (n0 (nd (.node none (some ⟨[.tmp 8 (.int .i64)],[some 0],some [.tmp 4 (.int .i64)],[]⟩) .none .none) .none)) .none))
def nS:Ct:=.pure true false (.pair (.slice aa) (.pair (.fn (.pair aa .unit) .bool) .unit)) (.int .i64) (fun x=>bw x.1 x.2.1)
theorem fL:KC 207 nS:=pq En nR Tryz.func207
def rL (z0:aa.D) (a0:aa.D):Option Bool :=
 some (decide (a0.1≥z0.1))
def ET:Ct:=.clo (.pair aa .unit) (.pair aa .unit) .bool (fun z x=>rL z.1 x.1)
theorem C3:KC 208 ET:=cq En .none Tryz.func208
def dE (a0:List aa.D) (a1:Int) (a2:List aa.D):Option (List aa.D×Unit):=if 0≤a1∧a1≤(a0.length:Int)∧a2.length=1∧a0.length≤1048576 then some (a0.take a1.toNat++a2++a0.drop a1.toNat,()) else none
def lE:Ct:=.mut [.tk,.rd,.tk] true true (.pair (.slice aa) (.pair (.int .i64) (.pair (.slice aa) .unit))) (.slice aa) (fun x=>dE x.1 x.2.1 x.2.2.1)
theorem kU:fB Tryz.prog 209 lE:=Tu rfl
def wJ (z0:Int) (a0:aa.D):Option Bool :=
 some (a0.1 == z0)
def C4:Ct:=.clo (.pair aa .unit) (.pair (.int .i64) .unit) .bool (fun z x=>wJ z.1 x.1)
theorem By:KC 304 C4:=cq En .none Tryz.func304
def fJ (a0:(List aa.D)) (a1:Int):Option Int :=
(bw a0 (fun q=>wJ a1 q.1)).bind fun y1 =>
 some y1
def wK:Ct:=.pure true false (.pair (.slice aa) (.pair (.int .i64) .unit)) (.int .i64) (fun x=>fJ x.1 x.2.1)
theorem je:KC 211 wK:=pq (Ec fL (Ec By En)) .none Tryz.func211
def qD (a0:(List aa.D)) (a1:aa.D):Option ((List aa.D)×(Bool×Unit)) :=
(bO a0).bind fun y1 =>
(bw a0 (fun q=>rL a1 q.1)).bind fun y2 =>
((bif decide (y2 < 0) then (
 some (a0.length:Int))
 else (
 some y2)):Option Int).bind fun o3 =>
(bO a0).bind fun y4 =>
(cL a1).bind fun y5 =>
(dE y4 o3 [y5]).bind fun y6 =>
(((fJ a0 a1.1).bind fun y7 =>
 bif decide (y7≥0) then (
 some true)
 else (
(fh y6.1).bind fun y8 =>
 some (!y8))):Option Bool).bind fun o9 =>
 bif o9 then (
 some (y1,false,()))
 else (
 some (y6.1,true,()))
def JB:Hints:=(n0 (n0 (n0 (nd (n0 (cu ⟨[.tmp 7 (.int .i64)],[none],none,[]⟩)) (n0 (nd (nd (cu ⟨[.tmp 34 .bool],[none],none,[]⟩) .none) .none))))))
def yQ:Ct:=.pure false true (.pair (.slice aa) (.pair aa .unit)) (.pair (.slice aa) (.pair .bool .unit)) (fun x=>qD x.1 x.2.1)
theorem xB:KC 92 yQ:=pq (Ec kv (Ec bn (Ec fL (Ec C3 (Ec kU (Ec cI (Ec je En))))))) JB Tryz.func92
theorem pr (xs:List aT.D) (i j:Nat) (hij:i < j) (hj:j≤xs.length):cZ xs (i:Int) (j:Int)=some (xs.take i++xs.drop j,()):=by
 unfold cZ
 have e0:((i:Int) == (j:Int))=false:=by rw [beq_eq_false_iff_ne];omega
 have t2:(xs.length:Int).toNat=xs.length:=by omega
 have t3:i + (xs.length - j) - 0=i + (xs.length - j):=by omega
 simp only [e0,cond_false,t2,Int.toNat_natCast,t3]
 rw [if_pos (by omega),if_pos (by omega),if_pos (by omega),if_pos (by omega),if_pos (by omega),if_pos (by omega),if_pos (by omega),if_pos (by omega),if_pos (by omega),if_pos (by omega),if_pos (by omega),if_pos (by omega),if_pos (by omega),if_pos (by omega),if_pos (by omega)]
 have hlen:(xs.take i++(xs.take xs.length).drop j++xs.drop (i + (xs.length - j))).length=xs.length:=by simp;omega
 rw [if_pos (by rw [hlen];omega)]
 rw [List.drop_zero,List.append_assoc (List.take (i + (xs.length - j)) _),List.take_append_of_le_length (by rw [List.length_take,hlen];omega),List.take_take,Nat.min_self,List.take_append_of_le_length (by simp;omega),List.take_of_length_le (by simp;omega),List.take_length]
def cp (a0:List aa.D) (a1 a2:Int):Option (List aa.D×Unit):=if 0≤a1∧a1 < a2∧a2≤(a0.length:Int) then some (a0.take a1.toNat++a0.drop a2.toNat,()) else none
def lF:Ct:=.mut [.tk,.rd,.rd] true true (.pair (.slice aa) (.pair (.int .i64) (.pair (.int .i64) .unit))) (.slice aa) (fun x=>cp x.1 x.2.1 x.2.2.1)
theorem kV:fB Tryz.prog 212 lF:=by
 refine UU (t:=aa) (FH:=fun x=>cZ x.1 x.2.1 x.2.2.1) rfl jG fun xs i j z hz=>?_
 have hz:cp xs i j=some z:=hz
 unfold cp at hz
 split at hz
 ·rename_i h
  obtain ⟨h1,h2,h3⟩:=h
  cases hz
  obtain ⟨i,rfl⟩:=Int.eq_ofNat_of_zero_le h1
  obtain ⟨j,rfl⟩:=Int.eq_ofNat_of_zero_le (show 0≤j by omega)
  obtain ⟨p1,p2⟩:=Ph xs i j (by omega) (by omega)
  refine ⟨_,p2,p1,fun xsH hl=>⟨_,pr xsH i j (by omega) (by omega),?_⟩⟩
  rw [← hl]
  exact (Ph xsH i j (by omega) (by omega)).1
 ·cases hz
def zP (a0:(List aa.D)) (a1:Int):Option ((List aa.D)×(Bool×Unit)) :=
(bO a0).bind fun y1 =>
(fJ a0 a1).bind fun y2 =>
 bif decide (y2 < 0) then (
 some (y1,false,()))
 else (
(cp y1 y2 (IntKind.wrap .i64 (y2 + 1))).bind fun y3 =>
 some (y3.1,true,()))
def C5:Ct:=.pure false true (.pair (.slice aa) (.pair (.int .i64) .unit)) (.pair (.slice aa) (.pair .bool .unit)) (fun x=>zP x.1 x.2.1)
theorem Bz:KC 93 C5:=pq (Ec bn (Ec je (Ec kV En))) .none Tryz.func93
def mt (a0:ac.D):Option Bool :=
(bL a0).bind fun y1 =>
 some (!y1)
def EU:Ct:=.pure true false (.pair ac .unit) .bool (fun x=>mt x.1)
theorem C6:KC 184 EU:=pq (Ec bP En) .none Tryz.func184
def mu (a0:(List ac.D)):Option Bool :=
 bif decide ((a0.length:Int)≤4) then (
(aK a0 (fun q=>mt q.1)).bind fun y1 =>
 some (!y1))
 else (
 some false)
def JC:Ct:=.pure true false (.pair (.slice ac) .unit) .bool (fun x=>mu x.1)
theorem wL:KC 77 JC:=pq (Ec cW (Ec C6 En)) .none Tryz.func77
def fM (a0:(List Int)) (a1:Int):Int→Option (Int⊕(Int⊕Int)):=fun s1 =>
 bif decide (s1 < (a0.length:Int)) then (
 idx a0 s1 fun x2 =>
 bif (a1 == x2) then (
 some (.inr (.inr s1)))
 else (
 some (.inl (IntKind.wrap .i64 (s1 + 1)))))
 else (
 some (.inr (.inl s1)))
def nT (a0:(List Int)) (a1:Int):Option Int :=
(al (fM a0 a1) 0).bind fun o3 =>
 match o3 with
| .inl s4=>(
 some (-1))
| .inr o5=>(
 some o5)
def BA:Hints:=(n0 (nd (n0 (nd (.node none (some ⟨[.tmp 8 (.int .i64)],[some 0],some [.tmp 4 (.int .i64)],[]⟩) .none .none) .none)) .none))
def BB:Ct:=.pure true false (.pair (.slice (.int .i64)) (.pair (.int .i64) .unit)) (.int .i64) (fun x=>nT x.1 x.2.1)
theorem Af:KC 392 BB:=pq En BA Tryz.func392
def jy (a0:(List Int)) (a1:Int):Option Bool :=
(nT a0 a1).bind fun y1 =>
 some (decide (y1≥0))
def xC:Ct:=.pure true false (.pair (.slice (.int .i64)) (.pair (.int .i64) .unit)) .bool (fun x=>jy x.1 x.2.1)
theorem vU:KC 370 xC:=pq (Ec Af En) .none Tryz.func370
def C7 (a0:(List Int)) (a1:Int):Option Bool :=
(jy a0 a1).bind fun y1 =>
 some y1
def QO:Ct:=.pure true false (.pair (.slice (.int .i64)) (.pair (.int .i64) .unit)) .bool (fun x=>C7 x.1 x.2.1)
theorem Py:KC 341 QO:=pq (Ec vU En) .none Tryz.func341
def nU (a0:aa.D) (a1:Int):Option Bool :=
 bif (a0.2.2.2.2.2.2.2.2.1 != 0) then (
 bif (a0.2.2.2.2.2.2.2.1 == (-1)) then (
 some true)
 else (
 some (decide (a0.2.2.2.2.2.2.2.1≥a1))))
 else (
 some false)
def NV:Ct:=.pure true false (.pair aa (.pair (.int .i64) .unit)) .bool (fun x=>nU x.1 x.2.1)
theorem AT:KC 221 NV:=pq En .none Tryz.func221
def EV (a0:aa.D) (a1:ac.D):Option Bool :=
 bif (a0.2.2.2.1 != 0) then (
 some true)
 else (
 bif (a0.2.2.1 == a1.2.1) then (
 some true)
 else (
 some (a0.2.2.1 == a1.2.2.1)))
def Pz:Ct:=.pure true false (.pair aa (.pair ac .unit)) .bool (fun x=>EV x.1 x.2.1)
theorem NW:KC 371 Pz:=pq En .none Tryz.func371
def pV (a0:ae.D) (a1:Int):((List Int)×Int)→Option (((List Int)×Int)⊕((List Int)×Int)):=fun s1 =>
 bif decide (s1.2 < (a0.1.length:Int)) then (
 idx a0.1 s1.2 fun x2 =>
((bif (x2.2.2.2.1 == 2) then (
 bif (a1 == (-1)) then (
 some true)
 else (
 some (x2.2.2.1 == a1)))
 else (
 some false)):Option Bool).bind fun o3 =>
 bif o3 then (
 if (s1.1.length + [x2.1].length) * (24 * 1)≤aC then (
 some (.inl ((s1.1++[x2.1]),IntKind.wrap .i64 (s1.2 + 1)))) else none)
 else (
 some (.inl (s1.1,IntKind.wrap .i64 (s1.2 + 1)))))
 else (
 some (.inr s1))
def qE (a0:ae.D) (a1:Int):Option (List Int) :=
(al (pV a0 a1) ([],0)).bind fun o4 =>
 some o4.1
def JD:Hints:=(n0 (n0 (nd (n0 (nd (.node none (some ⟨[.tmpO 5 0 (.slice (.int .i64)),.tmp 12 (.int .i64)],[some 0],none,[]⟩) (n0 (n0 (nd (nd (n0 (nd (cu ⟨[.tmp 28 .bool],[none],none,[]⟩) .none)) .none) .none))) .none) .none)) .none)))
def yR:Ct:=.pure true true (.pair ae (.pair (.int .i64) .unit)) (.slice (.int .i64)) (fun x=>qE x.1 x.2.1)
theorem xD:KC 393 yR:=pq En JD Tryz.func393
def rM (a0:ae.D) (a1:Int):(Int×Int)→Option ((Int×Int)⊕(Int×Int)):=fun s1 =>
 bif decide (s1.2 < (a0.1.length:Int)) then (
 idx a0.1 s1.2 fun x2 =>
((bif (x2.2.2.2.1 == 2) then (
 bif (x2.2.2.1 == a1) then (
 some x2.2.2.2.2.2.2.2.2.2.2.2.2.1)
 else (
 some false))
 else (
 some false)):Option Bool).bind fun o3 =>
 bif o3 then (
 some (.inl (IntKind.wrap .i64 (s1.1 + 1),IntKind.wrap .i64 (s1.2 + 1))))
 else (
 some (.inl (s1.1,IntKind.wrap .i64 (s1.2 + 1)))))
 else (
 some (.inr s1))
def tu (a0:ae.D) (a1:Int):Option Int :=
(al (rM a0 a1) (0,0)).bind fun o4 =>
 some o4.1
def LH:Hints:=(n0 (n0 (nd (n0 (nd (.node none (some ⟨[.tmp 5 (.int .i64),.tmp 11 (.int .i64)],[some 0],none,[]⟩) (n0 (n0 (nd (nd (n0 (nd (cu ⟨[.tmp 27 .bool],[none],none,[]⟩) .none)) .none) .none))) .none) .none)) .none)))
def LI:Ct:=.pure true false (.pair ae (.pair (.int .i64) .unit)) (.int .i64) (fun x=>tu x.1 x.2.1)
theorem JE:KC 394 LI:=pq En LH Tryz.func394
def vV (a0:ae.D) (a1:Int) (a2:bc.D):Option Bool :=
(((gC a2).bind fun y1 =>
 bif (!y1) then (
 some true)
 else (
(aQ a0 a1).bind fun y2 =>
 some (!y2))):Option Bool).bind fun o3 =>
 bif o3 then (
 some false)
 else (
 bif (a2.1 == 1) then (
 idx a0.2.1 a1 fun x4 =>
 some (decide (x4.1≤a2.2.1)))
 else (
 bif (a2.1 == 2) then (
(qE a0 a1).bind fun y5 =>
 some (decide ((y5.length:Int)≥a2.2.1)))
 else (
 bif (a2.1 == 3) then (
 some (a0.2.2.1 == a1))
 else (
 bif (a2.1 == 4) then (
(tu a0 a1).bind fun y6 =>
 some (decide (y6≥a2.2.1)))
 else (
 some true)))))
def NX:Hints:=(n0 (nd (nd (cu ⟨[.tmp 15 .bool],[none],none,[]⟩) .none) .none))
def NY:Ct:=.pure true false (.pair ae (.pair (.int .i64) (.pair bc .unit))) .bool (fun x=>vV x.1 x.2.1 x.2.2.1)
theorem LJ:KC 372 NY:=pq (Ec ga (Ec wH (Ec xD (Ec JE En)))) NX Tryz.func372
def cm (a0:(List ah.D)) (a1:((ah.D×Unit)→Option Bool)):Int→Option (Int⊕(Int⊕Int)):=fun s1 =>
 bif decide (s1 < (a0.length:Int)) then (
 idx a0 s1 fun x2 =>
(a1 (x2,())).bind fun y3 =>
 bif y3 then (
 some (.inr (.inr s1)))
 else (
 some (.inl (IntKind.wrap .i64 (s1 + 1)))))
 else (
 some (.inr (.inl s1)))
def cV (a0:(List ah.D)) (a1:((ah.D×Unit)→Option Bool)):Option Int :=
(al (cm a0 a1) 0).bind fun o4 =>
 match o4 with
| .inl s5=>(
 some (-1))
| .inr o6=>(
 some o6)
def pt:Hints:=(n0 (nd (n0 (nd (.node none (some ⟨[.tmp 8 (.int .i64)],[some 0],some [.tmp 4 (.int .i64)],[]⟩) .none .none) .none)) .none))
def pu:Ct:=.pure true false (.pair (.slice ah) (.pair (.fn (.pair ah .unit) .bool) .unit)) (.int .i64) (fun x=>cV x.1 x.2.1)
theorem nV:KC 381 pu:=pq En pt Tryz.func381
def yS (z0:Int) (a0:ah.D):Option Bool :=
 some (a0.1 == z0)
def EW:Ct:=.clo (.pair ah .unit) (.pair (.int .i64) .unit) .bool (fun z x=>yS z.1 x.1)
theorem C8:KC 382 EW:=cq En .none Tryz.func382
def fi (a0:ae.D) (a1:Int):Option Int :=
(cV a0.1 (fun q=>yS a1 q.1)).bind fun y1 =>
 some y1
def JF:Ct:=.pure true false (.pair ae (.pair (.int .i64) .unit)) (.int .i64) (fun x=>fi x.1 x.2.1)
theorem gR:KC 353 JF:=pq (Ec nV (Ec C8 En)) .none Tryz.func353
def pv (a0:ae.D) (a1:ac.D):Option Int :=
 bif (a1.2.2.1 == 0) then (
(aQ a0 a1.2.2.2.1).bind fun y1 =>
 bif y1 then (
 some a1.2.2.2.1)
 else (
 some (-1)))
 else (
(fi a0 a1.2.2.1).bind fun y2 =>
 bif decide (y2 < 0) then (
 some (-1))
 else (
 idx a0.1 y2 fun x3 =>
 some x3.2.2.1))
def LK:Ct:=.pure true false (.pair ae (.pair ac .unit)) (.int .i64) (fun x=>pv x.1 x.2.1)
theorem yT:KC 346 LK:=pq (Ec ga (Ec gR En)) .none Tryz.func346
def kw (a0:ae.D) (a1:Int) (a2:cn.D) (a3:ac.D):Option Bool :=
(pv a0 a3).bind fun y1 =>
((bif (y1 == (-1)) then (
 some true)
 else (
 bif (a2.2.1 == 1) then (
 bif (y1 != a1) then (
 some true)
 else (
 bif (a2.2.1 == 2) then (
 some (y1 == a1))
 else (
 some false)))
 else (
 bif (a2.2.1 == 2) then (
 some (y1 == a1))
 else (
 some false)))):Option Bool).bind fun o2 =>
 bif o2 then (
 some false)
 else (
 bif (a2.2.2.2.2.1 == 0) then (
 some true)
 else (
 some (a2.2.2.2.2.1 == a3.2.2.1)))
def C9:Hints:=(n0 (n0 (nd (nd (cu ⟨[.tmp 34 .bool],[none],none,[]⟩) .none) .none)))
def Da:Ct:=.pure true false (.pair ae (.pair (.int .i64) (.pair cn (.pair ac .unit)))) .bool (fun x=>kw x.1 x.2.1 x.2.2.1 x.2.2.2.1)
theorem BC:KC 395 Da:=pq (Ec yT En) C9 Tryz.func395
def fj (a0:ae.D) (a1:ac.D):Option ah.D :=
(fi a0 a1.2.1).bind fun y1 =>
((bif (a1.1 != 1) then (
 some true)
 else (
 some (decide (y1 < 0)))):Option Bool).bind fun o2 =>
 bif o2 then (
 some (0,0,0,0,0,0,0,0,0,0,0,false,false,()))
 else (
 idx a0.1 y1 fun x3 =>
 some x3)
def LL:Hints:=(n0 (n0 (nd (nd (cu ⟨[.tmp 16 .bool],[none],none,[]⟩) .none) .none)))
def LM:Ct:=.pure true false (.pair ae (.pair ac .unit)) ah (fun x=>fj x.1 x.2.1)
theorem rN:KC 313 LM:=pq (Ec gR En) LL Tryz.func313
def kx (a0:ae.D) (a1:cn.D) (a2:ac.D):Option Bool :=
 bif (a1.2.2.1 == 0) then (
(fj a0 a2).bind fun y1 =>
 let k2:Int:=IntKind.wrap .i64 (BitVec.ofInt (IntKind.bits .i64) y1.2.2.2.2.2.2.2.1 &&& BitVec.ofInt (IntKind.bits .i64) a1.2.2.2.1).toNat
 some (k2 == a1.2.2.2.1))
 else (
 bif (a1.2.2.1 == a2.2.1) then (
(fj a0 a2).bind fun y3 =>
 let k4:Int:=IntKind.wrap .i64 (BitVec.ofInt (IntKind.bits .i64) y3.2.2.2.2.2.2.2.1 &&& BitVec.ofInt (IntKind.bits .i64) a1.2.2.2.1).toNat
 some (k4 == a1.2.2.2.1))
 else (
 some false))
def Db:Ct:=.pure true false (.pair ae (.pair cn (.pair ac .unit))) .bool (fun x=>kx x.1 x.2.1 x.2.2.1)
theorem BD:KC 396 Db:=pq (Ec rN En) .none Tryz.func396
def qF (a0:ae.D) (a1:Int) (a2:cn.D) (a3:ac.D):Option Bool :=
(kT a2).bind fun y1 =>
 bif y1 then (
(bL a3).bind fun y2 =>
 bif y2 then (
 bif (a2.1 == a3.1) then (
(kw a0 a1 a2 a3).bind fun y3 =>
 bif y3 then (
(kx a0 a2 a3).bind fun y4 =>
 bif y4 then (
 bif decide (a3.2.2.2.2.1≥a2.2.2.2.2.2.1) then (
 bif (a2.2.2.2.2.2.2.1 == 0) then (
 some true)
 else (
 some (a2.2.2.2.2.2.2.1 == a3.2.2.2.2.2.1)))
 else (
 some false))
 else (
 some false))
 else (
 some false))
 else (
 some false))
 else (
 some false))
 else (
 some false)
def JG:Ct:=.pure true false (.pair ae (.pair (.int .i64) (.pair cn (.pair ac .unit)))) .bool (fun x=>qF x.1 x.2.1 x.2.2.1 x.2.2.2.1)
theorem GM:KC 373 JG:=pq (Ec bP (Ec AS (Ec BC (Ec BD En)))) .none Tryz.func373
def qZ (a0:ae.D) (a1:aa.D) (a2:ac.D):Option Bool :=
(cJ a1).bind fun y1 =>
 bif y1 then (
(nU a1 a0.2.2.2.1).bind fun y2 =>
 bif y2 then (
(EV a1 a2).bind fun y3 =>
 bif y3 then (
(vV a0 a1.2.1 a1.2.2.2.2.2.1).bind fun y4 =>
 bif y4 then (
(qF a0 a1.2.1 a1.2.2.2.2.1 a2).bind fun y5 =>
 some y5)
 else (
 some false))
 else (
 some false))
 else (
 some false))
 else (
 some false)
def PA:Ct:=.pure true false (.pair ae (.pair aa (.pair ac .unit))) .bool (fun x=>qZ x.1 x.2.1 x.2.2.1)
theorem NZ:KC 342 PA:=pq (Ec nQ (Ec AT (Ec NW (Ec LJ (Ec GM En))))) .none Tryz.func342
def ky (a0:ae.D) (a1:(List aa.D)) (a2:ac.D) (a3:(List Int)):((List Int)×(Int×Int))→Option (((List Int)×(Int×Int))⊕((List Int)×(Int×Int))):=fun s1 =>
 bif decide (s1.2.2 < (a1.length:Int)) then (
 idx a1 s1.2.2 fun x2 =>
(((C7 a3 x2.1).bind fun y3 =>
 bif y3 then (
 some true)
 else (
(qZ a0 x2 a2).bind fun y4 =>
 some (!y4))):Option Bool).bind fun o5 =>
 bif o5 then (
 some (.inl (s1.1,s1.2.1,IntKind.wrap .i64 (s1.2.2 + 1))))
 else (
((bif ((s1.1.length:Int) == 0) then (
 some true)
 else (
 some (decide (x2.2.2.2.1 < s1.2.1)))):Option Bool).bind fun o6 =>
((bif o6 then (
 if 0≤(0:Int) then (if (0:Int)≤(0:Int) then (if (0:Int)≤(s1.1.length:Int) then (
 some ((s1.1.take ((0:Int).toNat)),x2.2.2.2.1)) else none) else none) else none)
 else (
 some (s1.1,s1.2.1))):Option ((List Int)×Int)).bind fun o7 =>
 bif (x2.2.2.2.1 == o7.2) then (
 if (o7.1.length + [x2.1].length) * (24 * 1)≤aC then (
 some (.inl ((o7.1++[x2.1]),o7.2,IntKind.wrap .i64 (s1.2.2 + 1)))) else none)
 else (
 some (.inl (o7.1,o7.2,IntKind.wrap .i64 (s1.2.2 + 1))))))
 else (
 some (.inr s1))
def qG (a0:ae.D) (a1:(List aa.D)) (a2:ac.D) (a3:(List Int)):Option (List Int) :=
(al (ky a0 a1 a2 a3) ([],0,0)).bind fun o8 =>
 some o8.1
def JH:Hints:=(n0 (n0 (n0 (nd (n0 (nd (.node none (some ⟨[.tmpO 9 0 (.slice (.int .i64)),.tmp 10 (.int .i64),.tmp 16 (.int .i64)],[some 0],none,[]⟩) (n0 (n0 (nd (nd (n0 (nd (nd (cu ⟨[.tmp 30 .bool],[none],none,[]⟩) .none) (nd (nd (cu ⟨[.tmp 39 .bool],[none],none,[]⟩) (cu ⟨[.tmpO 9 1 (.slice (.int .i64)),.tmp 10 (.int .i64)],[none],none,[(9,0)]⟩)) .none))) .none) .none))) .none) .none)) .none))))
def px:Ct:=.pure true true (.pair ae (.pair (.slice aa) (.pair ac (.pair (.slice (.int .i64)) .unit)))) (.slice (.int .i64)) (fun x=>qG x.1 x.2.1 x.2.2.1 x.2.2.2.1)
theorem xE:KC 277 px:=pq (Ec Py (Ec NZ En)) JH Tryz.func277
def uF (a0:ac.D):Option Bool :=
 bif (a0.2.2.2.2.1 == 0) then (
 some (a0.1 != 2))
 else (
 some false)
def F5:Ct:=.pure true false (.pair ac .unit) .bool (fun x=>uF x.1)
theorem Dc:KC 278 F5:=pq En .none Tryz.func278
def uG (a0:(List Int)) (a1:Int):Option (Int×((List Int)×Unit)) :=
((bif decide (a1 < 2) then (
 some true)
 else (
 some ((a0.length:Int) == 0))):Option Bool).bind fun o1 =>
 bif o1 then (
(bm a0).bind fun y2 =>
 some (0,y2,()))
 else (
 idx a0 0 fun x3 =>
 if a1=0 then none else (
((bif decide ((x3.tmod a1) < 0) then (
 some (IntKind.wrap .i64 ((x3.tmod a1) + a1)))
 else (
 some (x3.tmod a1))):Option Int).bind fun o4 =>
 if 0≤(1:Int) then (if (1:Int)≤(a0.length:Int) then (if (a0.length:Int)≤(a0.length:Int) then (
(bm ((a0.take (a0.length:Int).toNat).drop (1:Int).toNat)).bind fun y5 =>
 some (o4,y5,())) else none) else none) else none))
def PB:Hints:=(n0 (nd (nd (cu ⟨[.tmp 13 .bool],[none],none,[]⟩) .none) (n0 (nd (n0 (cu ⟨[.tmp 6 (.int .i64)],[none],none,[]⟩)) .none))))
def tw:Ct:=.pure false true (.pair (.slice (.int .i64)) (.pair (.int .i64) .unit)) (.pair (.int .i64) (.pair (.slice (.int .i64)) .unit)) (fun x=>uG x.1 x.2.1)
theorem rO:KC 164 tw:=pq (Ec bu En) PB Tryz.func164
def rP (x:sC.D) (a0:Int):Option ((Int×(Bool×Unit))×sC.D) :=
(uG x.2.1.2.2.1 a0).bind fun y1 =>
 some ((y1.1,true,()),(x.1,(x.2.1.1,x.2.1.2.1,y1.2.1,x.2.1.2.2.2),()))
def uH:Ct:=.run sC [(163,true),(165,false)] true true false (.pair (.int .i64) .unit) (.pair (.int .i64) (.pair .bool .unit)) (fun x y=>rP x y.1)
theorem Dd:fB Tryz.prog 163 uH:=Nr (E:={ T:=tab,G:=[(164,tw)] }) (aE.cons rO (aE.nil sM)) mixed (fn:=Tryz.f163) _ _ _ _ _ _ _ _ .none Tryz.func163 (by kernel_rfl) (fun x y=>by kernel_rfl)
def lr (a0:Int) (a1:Int):Option Int :=
 some (if (if a1 < a0 then a1 else a0) > 0 then (if a1 < a0 then a1 else a0) else 0)
def PC:Ct:=.pure true false bc (.int .i64) (fun x=>lr x.1 x.2.1)
theorem mw:KC 374 PC:=pq En .none Tryz.func374
def vW (a0:ac.D) (a1:Int):Option ac.D :=
(lr a1 2147483647).bind fun y1 =>
 some (a0.1,a0.2.1,a0.2.2.1,a0.2.2.2.1,y1,a0.2.2.2.2.2)
def N0:Ct:=.pure true false (.pair ac (.pair (.int .i64) .unit)) ac (fun x=>vW x.1 x.2.1)
theorem LN:KC 375 N0:=pq (Ec mw En) .none Tryz.func375
def aZ (a0:Int) (a1:Int):Option Int :=
(cd a0).bind fun y1 =>
(cd a1).bind fun y2 =>
(cd (IntKind.wrap .i64 (y1 + y2))).bind fun y3 =>
 some y3
def PD:Ct:=.pure true false bc (.int .i64) (fun x=>aZ x.1 x.2.1)
theorem qH:KC 364 PD:=pq (Ec gZ En) .none Tryz.func364
def BE (a0:Int):Option Int :=
(cd a0).bind fun y1 =>
(cd (IntKind.wrap .i64 (2 * y1))).bind fun y2 =>
 some y2
def N1:Ct:=.pure true false (.pair (.int .i64) .unit) (.int .i64) (fun x=>BE x.1)
theorem LO:KC 397 N1:=pq (Ec gZ En) .none Tryz.func397
def EX (a0:Int):Option Int :=
(cd a0).bind fun y1 =>
 if 2=0 then none else (
 some (IntKind.wrap .i64 (y1.tdiv 2)))
def PE:Ct:=.pure true false (.pair (.int .i64) .unit) (.int .i64) (fun x=>EX x.1)
theorem N2:KC 398 PE:=pq (Ec gZ En) .none Tryz.func398
def tx (a0:bg.D) (a1:Int):Option Int :=
(lr a1 2147483647).bind fun y1 =>
 bif (a0.1 == 1) then (
 some 0)
 else (
 bif (a0.1 == 3) then (
(aZ y1 a0.2.1).bind fun y2 =>
 some y2)
 else (
 bif (a0.1 == 4) then (
(BE y1).bind fun y3 =>
 some y3)
 else (
 bif (a0.1 == 5) then (
(EX y1).bind fun y4 =>
 some y4)
 else (
 some y1))))
def LP:Ct:=.pure true false (.pair bg (.pair (.int .i64) .unit)) (.int .i64) (fun x=>tx x.1 x.2.1)
theorem JI:KC 376 LP:=pq (Ec qH (Ec mw (Ec LO (Ec N2 En)))) .none Tryz.func376
def tW (a0:bg.D) (a1:ac.D):((List ac.D)×Int)→Option (((List ac.D)×Int)⊕((List ac.D)×Int)):=fun s1 =>
 bif decide (s1.2 < (a0.2.2.2.2.2.2.1.length:Int)) then (
 idx a0.2.2.2.2.2.2.1 s1.2 fun x2 =>
((bif (x2.2.2.2.2.1 == (-1)) then (
(lr a1.2.2.2.2.1 2147483647).bind fun y3 =>
 some (x2.1,x2.2.1,x2.2.2.1,x2.2.2.2.1,y3,x2.2.2.2.2.2))
 else (
 some x2)):Option ac.D).bind fun o4 =>
 if (s1.1.length + [o4].length) * (24 * 7)≤aC then (
 some (.inl ((s1.1++[o4]),IntKind.wrap .i64 (s1.2 + 1)))) else none)
 else (
 some (.inr s1))
def vX (a0:bg.D) (a1:ac.D):Option (List ac.D) :=
 bif (a0.1 != 9) then (
 some [])
 else (
(al (tW a0 a1) ([],0)).bind fun o5 =>
 some o5.1)
def N3:Hints:=(n0 (n0 (n0 (nd (n0 (nd (.node none (some ⟨[.tmpO 5 0 (.slice ac),.tmp 16 (.int .i64)],[some 0],none,[]⟩) (n0 (n0 (nd (nd (n0 (nd (n0 (cu ⟨[.box 7 0 ac],[none],none,[(7,0)]⟩)) .none)) .none) .none))) .none) .none)) .none))))
def BF:Ct:=.pure true true (.pair bg (.pair ac .unit)) (.slice ac) (fun x=>vX x.1 x.2.1)
theorem Ag:KC 377 BF:=pq (Ec mw En) N3 Tryz.func377
def rQ (a0:aa.D) (a1:ac.D):Option ((List ac.D)×(Int×Unit)) :=
 bif (a0.2.2.2.2.2.2.1.1 == 1) then (
 bif (a1.1 == 1) then (
 some ([],a1.2.2.2.2.1,()))
 else (
 some ([],0,())))
 else (
 bif (a0.2.2.2.2.2.2.1.1 == 2) then (
(lr a1.2.2.2.2.1 a0.2.2.2.2.2.2.2.2.1).bind fun y1 =>
(vW a1 (IntKind.wrap .i64 (a1.2.2.2.2.1 - y1))).bind fun y2 =>
 some ([y2],y1,()))
 else (
((bif (a0.2.2.2.2.2.2.1.1 == 3) then (
 some (a0.2.2.2.2.2.2.1.1 == 3))
 else (
((bif (a0.2.2.2.2.2.2.1.1 == 4) then (
 some (a0.2.2.2.2.2.2.1.1 == 4))
 else (
 some (a0.2.2.2.2.2.2.1.1 == 5))):Option Bool).bind fun o3 =>
 some o3)):Option Bool).bind fun o4 =>
 bif o4 then (
(tx a0.2.2.2.2.2.2.1 a1.2.2.2.2.1).bind fun y5 =>
(vW a1 y5).bind fun y6 =>
 some ([y6],0,()))
 else (
((bif (a0.2.2.2.2.2.2.1.1 == 6) then (
 some (.inl (a1.1,a1.2.1,a0.2.2.2.2.2.2.1.2.2.1,a0.2.2.2.2.2.2.1.2.2.2.1,a1.2.2.2.2)))
 else (
((bif (a0.2.2.2.2.2.2.1.1 == 7) then (
((bif (a0.2.2.2.2.2.2.1.2.2.2.2.1 != 2) then (
 some (a1.1,a1.2.1,a1.2.2.1,a1.2.2.2.1,0,a0.2.2.2.2.2.2.1.2.2.2.2.1,false,()))
 else (
 some (a1.1,a1.2.1,a1.2.2.1,a1.2.2.2.1,a1.2.2.2.2.1,a0.2.2.2.2.2.2.1.2.2.2.2.1,a1.2.2.2.2.2.2))):Option ac.D).bind fun o7 =>
 some (.inl o7))
 else (
((bif (a0.2.2.2.2.2.2.1.1 == 8) then (
((bif (a1.2.2.2.2.2.1 == 2) then (
(lr (IntKind.wrap .i64 (a1.2.2.2.2.1 + a0.2.2.2.2.2.2.1.2.1)) 99).bind fun y8 =>
((bif a1.2.2.2.2.2.2.1 then (
 some (a1.1,a1.2.1,a1.2.2.1,a1.2.2.2.1,y8,a1.2.2.2.2.2.1,true,()))
 else (
 some (a1.1,a1.2.1,a1.2.2.1,a1.2.2.2.1,y8,a1.2.2.2.2.2.1,a0.2.2.2.2.2.2.1.2.2.2.2.2.1,()))):Option ac.D).bind fun o9 =>
 some o9)
 else (
 some a1)):Option ac.D).bind fun o10 =>
 some (.inl o10))
 else (
 bif (a0.2.2.2.2.2.2.1.1 == 9) then (
(vX a0.2.2.2.2.2.2.1 a1).bind fun y11 =>
 some (.inr ((y11,0))))
 else (
 some (.inl a1)))):Option (ac.D⊕((List ac.D)×Int))).bind fun o12 =>
 match o12 with
| .inl s13=>(
 some (.inl s13))
| .inr o14=>(
 some (.inr o14)))):Option (ac.D⊕((List ac.D)×Int))).bind fun o15 =>
 match o15 with
| .inl s16=>(
 some (.inl s16))
| .inr o17=>(
 some (.inr o17)))):Option (ac.D⊕((List ac.D)×Int))).bind fun o18 =>
 match o18 with
| .inl s19=>(
 some ([s19],0,()))
| .inr o20=>(
 some (o20.1,o20.2,())))))
def N4:Hints:=(n0 (n0 (nd (n0 (nd (n0 (n0 (n0 (n0 (nd (n0 (.node (some ⟨[.tmp 34 .bool],[none],none,[]⟩) none .none (n0 (cu ⟨[.tmp 34 .bool],[none],none,[]⟩)))) (n0 (n0 (.node (some ⟨[.box 3 0 ac],[none],some [.tmpO 4 0 (.slice ac),.tmp 5 (.int .i64)],[(3,0)]⟩) none .none (n0 (.node (some ⟨[.box 3 0 ac],[none],some [.tmpO 4 0 (.slice ac),.tmp 5 (.int .i64)],[(3,0)]⟩) none (n0 (n0 (cu ⟨[.box 3 0 ac],[none],none,[(3,0)]⟩))) (n0 (.node (some ⟨[.box 3 0 ac],[none],some [.tmpO 4 0 (.slice ac),.tmp 5 (.int .i64)],[(3,0)]⟩) none (n0 (.node (some ⟨[.box 3 0 ac],[none],none,[(3,0)]⟩) none (n0 (cu ⟨[.box 3 0 ac],[none],none,[(3,0)]⟩)) .none)) .none)))))))))))) .none)) .none)))
def BG:Ct:=.pure false true (.pair aa (.pair ac .unit)) (.pair (.slice ac) (.pair (.int .i64) .unit)) (fun x=>rQ x.1 x.2.1)
theorem Ah:KC 343 BG:=pq (Ec mw (Ec LN (Ec JI (Ec Ag En)))) N4 Tryz.func343
end
end Go.Abs
