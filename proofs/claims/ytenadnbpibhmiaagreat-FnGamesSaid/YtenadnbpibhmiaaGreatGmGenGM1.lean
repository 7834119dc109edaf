/- Part of a proof of FnGames: see the row. -/
import Derived.Test.YtenadnbpibhmiaaGreatProg
import Derived.Test.YtenadnbpibhmiaaGreatGmAbsHd
import Derived.Test.YtenadnbpibhmiaaGreatGmAbsPure
import Derived.Test.YtenadnbpibhmiaaGreatGmInsZ
set_option linter.unusedVariables false
set_option linter.unusedSimpArgs false
namespace Go.Abs
open Go.Proofs
set_option maxRecDepth 100000
noncomputable section
def nd (a b:Hints):Hints:=.node none none a b
def n0 (b:Hints):Hints:=.node none none .none b
def cu (h:Hint):Hints:=.node (some h) none .none .none
@[reducible] def aj:Ty:=(.pair (.int .i64) (.pair (.int .i64) (.pair (.int .i64) (.pair (.int .i64) (.pair (.int .i64) (.pair (.int .i64) (.pair (.int .i64) (.pair (.int .i64) (.pair (.int .i64) (.pair (.int .i64) (.pair (.int .i64) (.pair .bool (.pair .bool .unit)))))))))))))
@[reducible] def aB:Ty:=(.pair (.int .i64) (.pair (.int .i64) (.pair .bool .unit)))
@[reducible] def ae:Ty:=(.pair (.slice aj) (.pair (.slice aB) (.pair (.int .i64) (.pair (.int .i64) .unit))))
@[reducible] def dr:Ty:=(.pair (.int .i64) (.pair (.int .i64) (.pair (.int .i64) (.pair (.int .i64) (.pair (.int .i64) (.pair (.int .i64) (.pair (.int .i64) .unit)))))))
@[reducible] def bU:Ty:=(.pair (.int .i64) (.pair (.int .i64) .unit))
@[reducible] def ah:Ty:=(.pair (.int .i64) (.pair (.int .i64) (.pair (.int .i64) (.pair (.int .i64) (.pair (.int .i64) (.pair (.int .i64) (.pair .bool .unit)))))))
@[reducible] def bR:Ty:=(.pair (.int .i64) (.pair (.int .i64) (.pair (.int .i64) (.pair (.int .i64) (.pair (.int .i64) (.pair .bool (.pair (.slice ah) .unit)))))))
@[reducible] def aa:Ty:=(.pair (.int .i64) (.pair (.int .i64) (.pair (.int .i64) (.pair (.int .i64) (.pair dr (.pair bU (.pair bR (.pair (.int .i64) (.pair (.int .i64) .unit)))))))))
@[reducible] def aF:Ty:=(.pair (.int .i64) (.pair (.int .i64) (.pair (.int .i64) (.pair (.int .i64) (.pair ah (.pair (.slice ah) (.pair (.int .i64) (.pair (.int .i64) .unit))))))))
@[reducible] def mF:Ty:=(.pair (.vw aj) (.pair (.vw aB) (.pair (.int .i64) (.pair (.int .i64) .unit))))
@[reducible] def oe:Ty:=(.pair mF (.pair (.slice aa) (.pair (.slice (.int .i64)) (.pair (.slice ah) (.pair (.slice aF) .unit)))))
@[reducible] def ai:Ty:=(.pair (.int .i64) (.pair (.int .i64) (.pair (.int .i64) (.pair aj .unit))))
@[reducible] def au:Ty:=(.pair (.int .i64) (.pair ah (.pair (.int .i64) (.pair (.int .i64) (.pair aj .unit)))))
@[reducible] def aK:Ty:=(.pair ae (.pair (.slice aa) (.pair (.slice (.int .i64)) (.pair (.slice ai) (.pair (.slice au) (.pair (.slice aF) .unit))))))
@[reducible] def br:Ty:=(.pair (.slice ah) (.pair (.slice aa) (.pair (.slice (.int .i64)) (.pair (.slice aF) .unit))))
@[reducible] def eX:Ty:=(.pair (.int .i64) (.pair (.int .i64) (.pair (.int .i64) (.pair (.int .i64) (.pair ah (.pair (.vw ah) (.pair (.int .i64) (.pair (.int .i64) .unit))))))))
@[reducible] def wM:Ty:=(.pair (.slice ah) (.pair (.slice aa) (.pair (.slice (.int .i64)) (.pair (.slice eX) .unit))))
@[reducible] def tY:Ty:=(.pair mF (.pair wM .unit))
@[reducible] def bm:Ty:=(.pair (.int .i64) (.pair aa (.pair (.int .i64) (.pair (.slice ah) .unit))))
@[reducible] def al:Ty:=(.pair (.slice (.int .u8)) (.pair (.int .i64) (.pair (.int .i64) .unit)))
@[reducible] def NT:Ty:=(.pair ae (.pair (.slice aa) (.pair (.slice (.int .i64)) (.pair (.slice ah) (.pair (.slice aF) .unit)))))
@[reducible] def SR:Ty:=(.pair (.int .i64) (.pair (.int .i64) (.pair (.int .i64) (.pair (.int .i64) (.pair (.int .i64) (.pair .bool (.pair .hd .unit)))))))
@[reducible] def bf:Ty:=(.pair (.int .i64) (.pair (.int .i64) (.pair (.int .i64) (.pair (.int .i64) (.pair dr (.pair bU (.pair SR (.pair (.int .i64) (.pair (.int .i64) .unit)))))))))
@[reducible] def Ua:Ty:=(.pair ae (.pair (.slice aa) (.pair (.slice (.int .i64)) (.pair (.slice ai) (.pair (.slice au) (.pair (.slice eX) .unit))))))
@[reducible] def SS:Ty:=(.pair ae (.pair (.slice aa) (.pair (.slice (.int .i64)) (.pair (.slice ah) (.pair (.slice eX) .unit)))))
def tab:Tab:=[
 (3,⟨.int .i64,1,0,(.int .i64),[.int .i64 0]⟩),
 (4,⟨.bool,1,0,.bool,[.bool false]⟩),
 (5,⟨.int .u8,1,0,(.int .u8),[.int .u8 0]⟩),
 (22,⟨.slice 5,1,0,(.slice (.int .u8)),[.nil]⟩),
 (24,⟨.slice 101,1,0,(.slice aj),[.nil]⟩),
 (25,⟨.slice 224,1,0,(.slice aB),[.nil]⟩),
 (26,⟨.struct [(0,24),(1,25),(2,3),(3,3)],4,0,ae,[.nil,.nil,.int .i64 0,.int .i64 0]⟩),
 (27,⟨.struct [(0,24),(1,25),(2,3),(3,3)],4,0,ae,[.nil,.nil,.int .i64 0,.int .i64 0]⟩),
 (28,⟨.slice 43,1,0,(.slice aa),[.nil]⟩),
 (29,⟨.slice 3,1,0,(.slice (.int .i64)),[.nil]⟩),
 (30,⟨.slice 103,1,0,(.slice ai),[.nil]⟩),
 (31,⟨.slice 159,1,0,(.slice au),[.nil]⟩),
 (32,⟨.slice 162,1,0,(.slice aF),[.nil]⟩),
 (33,⟨.struct [(0,27),(4,28),(5,29),(6,30),(7,31),(8,32)],9,0,aK,[.nil,.nil,.int .i64 0,.int .i64 0,.nil,.nil,.nil,.nil,.nil]⟩),
 (34,⟨.struct [(0,27),(4,28),(5,29),(6,30),(7,31),(8,32)],9,0,aK,[.nil,.nil,.int .i64 0,.int .i64 0,.nil,.nil,.nil,.nil,.nil]⟩),
 (35,⟨.struct [(0,3),(1,3),(2,3),(3,3),(4,3),(5,3),(6,3)],7,0,dr,[.int .i64 0,.int .i64 0,.int .i64 0,.int .i64 0,.int .i64 0,.int .i64 0,.int .i64 0]⟩),
 (36,⟨.struct [(0,3),(1,3),(2,3),(3,3),(4,3),(5,3),(6,3)],7,0,dr,[.int .i64 0,.int .i64 0,.int .i64 0,.int .i64 0,.int .i64 0,.int .i64 0,.int .i64 0]⟩),
 (37,⟨.struct [(0,3),(1,3)],2,0,bU,[.int .i64 0,.int .i64 0]⟩),
 (38,⟨.struct [(0,3),(1,3)],2,0,bU,[.int .i64 0,.int .i64 0]⟩),
 (39,⟨.slice 114,1,0,(.slice ah),[.nil]⟩),
 (40,⟨.struct [(0,3),(1,3),(2,3),(3,3),(4,3),(5,4),(6,39)],7,0,bR,[.int .i64 0,.int .i64 0,.int .i64 0,.int .i64 0,.int .i64 0,.bool false,.nil]⟩),
 (41,⟨.struct [(0,3),(1,3),(2,3),(3,3),(4,3),(5,4),(6,39)],7,0,bR,[.int .i64 0,.int .i64 0,.int .i64 0,.int .i64 0,.int .i64 0,.bool false,.nil]⟩),
 (42,⟨.struct [(0,3),(1,3),(2,3),(3,3),(4,36),(11,38),(13,41),(20,3),(21,3)],22,0,aa,[.int .i64 0,.int .i64 0,.int .i64 0,.int .i64 0,.int .i64 0,.int .i64 0,.int .i64 0,.int .i64 0,.int .i64 0,.int .i64 0,.int .i64 0,.int .i64 0,.int .i64 0,.int .i64 0,.int .i64 0,.int .i64 0,.int .i64 0,.int .i64 0,.bool false,.nil,.int .i64 0,.int .i64 0]⟩),
 (43,⟨.struct [(0,3),(1,3),(2,3),(3,3),(4,36),(11,38),(13,41),(20,3),(21,3)],22,0,aa,[.int .i64 0,.int .i64 0,.int .i64 0,.int .i64 0,.int .i64 0,.int .i64 0,.int .i64 0,.int .i64 0,.int .i64 0,.int .i64 0,.int .i64 0,.int .i64 0,.int .i64 0,.int .i64 0,.int .i64 0,.int .i64 0,.int .i64 0,.int .i64 0,.bool false,.nil,.int .i64 0,.int .i64 0]⟩),
 (44,⟨.struct [(0,3),(1,43),(23,3),(24,39)],25,0,bm,[.int .i64 0,.int .i64 0,.int .i64 0,.int .i64 0,.int .i64 0,.int .i64 0,.int .i64 0,.int .i64 0,.int .i64 0,.int .i64 0,.int .i64 0,.int .i64 0,.int .i64 0,.int .i64 0,.int .i64 0,.int .i64 0,.int .i64 0,.int .i64 0,.int .i64 0,.bool false,.nil,.int .i64 0,.int .i64 0,.int .i64 0,.nil]⟩),
 (45,⟨.struct [(0,3),(1,43),(23,3),(24,39)],25,0,bm,[.int .i64 0,.int .i64 0,.int .i64 0,.int .i64 0,.int .i64 0,.int .i64 0,.int .i64 0,.int .i64 0,.int .i64 0,.int .i64 0,.int .i64 0,.int .i64 0,.int .i64 0,.int .i64 0,.int .i64 0,.int .i64 0,.int .i64 0,.int .i64 0,.int .i64 0,.bool false,.nil,.int .i64 0,.int .i64 0,.int .i64 0,.nil]⟩),
 (89,⟨.slice 45,1,0,(.slice bm),[.nil]⟩),
 (100,⟨.struct [(0,3),(1,3),(2,3),(3,3),(4,3),(5,3),(6,3),(7,3),(8,3),(9,3),(10,3),(11,4),(12,4)],13,0,aj,[.int .i64 0,.int .i64 0,.int .i64 0,.int .i64 0,.int .i64 0,.int .i64 0,.int .i64 0,.int .i64 0,.int .i64 0,.int .i64 0,.int .i64 0,.bool false,.bool false]⟩),
 (101,⟨.struct [(0,3),(1,3),(2,3),(3,3),(4,3),(5,3),(6,3),(7,3),(8,3),(9,3),(10,3),(11,4),(12,4)],13,0,aj,[.int .i64 0,.int .i64 0,.int .i64 0,.int .i64 0,.int .i64 0,.int .i64 0,.int .i64 0,.int .i64 0,.int .i64 0,.int .i64 0,.int .i64 0,.bool false,.bool false]⟩),
 (102,⟨.struct [(0,3),(1,3),(2,3),(3,101)],16,0,ai,[.int .i64 0,.int .i64 0,.int .i64 0,.int .i64 0,.int .i64 0,.int .i64 0,.int .i64 0,.int .i64 0,.int .i64 0,.int .i64 0,.int .i64 0,.int .i64 0,.int .i64 0,.int .i64 0,.bool false,.bool false]⟩),
 (103,⟨.struct [(0,3),(1,3),(2,3),(3,101)],16,0,ai,[.int .i64 0,.int .i64 0,.int .i64 0,.int .i64 0,.int .i64 0,.int .i64 0,.int .i64 0,.int .i64 0,.int .i64 0,.int .i64 0,.int .i64 0,.int .i64 0,.int .i64 0,.int .i64 0,.bool false,.bool false]⟩),
 (105,⟨.struct [(0,3),(1,3),(2,3),(3,3),(4,3),(5,3),(6,4)],7,0,ah,[.int .i64 0,.int .i64 0,.int .i64 0,.int .i64 0,.int .i64 0,.int .i64 0,.bool false]⟩),
 (109,⟨.struct [(0,39),(1,28),(2,29),(3,32)],4,0,br,[.nil,.nil,.nil,.nil]⟩),
 (110,⟨.struct [(0,39),(1,28),(2,29),(3,32)],4,0,br,[.nil,.nil,.nil,.nil]⟩),
 (114,⟨.struct [(0,3),(1,3),(2,3),(3,3),(4,3),(5,3),(6,4)],7,0,ah,[.int .i64 0,.int .i64 0,.int .i64 0,.int .i64 0,.int .i64 0,.int .i64 0,.bool false]⟩),
 (141,⟨.other,1,0,.unit,[.undef]⟩),
 (156,⟨.other,1,0,.unit,[.undef]⟩),
 (158,⟨.struct [(0,3),(1,114),(8,3),(9,3),(10,101)],23,0,au,[.int .i64 0,.int .i64 0,.int .i64 0,.int .i64 0,.int .i64 0,.int .i64 0,.int .i64 0,.bool false,.int .i64 0,.int .i64 0,.int .i64 0,.int .i64 0,.int .i64 0,.int .i64 0,.int .i64 0,.int .i64 0,.int .i64 0,.int .i64 0,.int .i64 0,.int .i64 0,.int .i64 0,.bool false,.bool false]⟩),
 (159,⟨.struct [(0,3),(1,114),(8,3),(9,3),(10,101)],23,0,au,[.int .i64 0,.int .i64 0,.int .i64 0,.int .i64 0,.int .i64 0,.int .i64 0,.int .i64 0,.bool false,.int .i64 0,.int .i64 0,.int .i64 0,.int .i64 0,.int .i64 0,.int .i64 0,.int .i64 0,.int .i64 0,.int .i64 0,.int .i64 0,.int .i64 0,.int .i64 0,.int .i64 0,.bool false,.bool false]⟩),
 (161,⟨.struct [(0,3),(1,3),(2,3),(3,3),(4,114),(11,39),(12,3),(13,3)],14,0,aF,[.int .i64 0,.int .i64 0,.int .i64 0,.int .i64 0,.int .i64 0,.int .i64 0,.int .i64 0,.int .i64 0,.int .i64 0,.int .i64 0,.bool false,.nil,.int .i64 0,.int .i64 0]⟩),
 (162,⟨.struct [(0,3),(1,3),(2,3),(3,3),(4,114),(11,39),(12,3),(13,3)],14,0,aF,[.int .i64 0,.int .i64 0,.int .i64 0,.int .i64 0,.int .i64 0,.int .i64 0,.int .i64 0,.int .i64 0,.int .i64 0,.int .i64 0,.bool false,.nil,.int .i64 0,.int .i64 0]⟩),
 (163,⟨.other,1,0,.unit,[.undef]⟩),
 (166,⟨.other,1,0,.unit,[.undef]⟩),
 (177,⟨.other,1,0,.unit,[.undef]⟩),
 (190,⟨.other,1,0,.unit,[.undef]⟩),
 (191,⟨.struct [(0,27),(4,28),(5,29),(6,39),(7,32)],8,0,NT,[.nil,.nil,.int .i64 0,.int .i64 0,.nil,.nil,.nil,.nil]⟩),
 (192,⟨.struct [(0,27),(4,28),(5,29),(6,39),(7,32)],8,0,NT,[.nil,.nil,.int .i64 0,.int .i64 0,.nil,.nil,.nil,.nil]⟩),
 (193,⟨.other,1,0,.unit,[.undef]⟩),
 (197,⟨.other,1,0,.unit,[.undef]⟩),
 (198,⟨.other,1,0,.unit,[.undef]⟩),
 (200,⟨.struct [(0,27),(4,110),(8,198),(9,166)],10,0,.unit,[.nil,.nil,.int .i64 0,.int .i64 0,.nil,.nil,.nil,.nil,.undef,.undef]⟩),
 (221,⟨.other,1,0,.unit,[.undef]⟩),
 (223,⟨.struct [(0,3),(1,3),(2,4)],3,0,aB,[.int .i64 0,.int .i64 0,.bool false]⟩),
 (224,⟨.struct [(0,3),(1,3),(2,4)],3,0,aB,[.int .i64 0,.int .i64 0,.bool false]⟩),
 (226,⟨.other,1,0,.unit,[.undef]⟩),
 (227,⟨.other,1,0,.unit,[.undef]⟩),
 (229,⟨.struct [(0,22),(1,3),(2,3)],3,0,al,[.nil,.int .i64 0,.int .i64 0]⟩),
 (230,⟨.struct [(0,22),(1,3),(2,3)],3,0,al,[.nil,.int .i64 0,.int .i64 0]⟩),
 (297,⟨.slice 39,1,0,(.slice (.slice ah)),[.nil]⟩),
 (299,⟨.slice 32,1,0,(.slice (.slice aF)),[.nil]⟩),
 (308,⟨.int .u64,1,0,(.int .u64),[.int .u64 0]⟩),
 (315,⟨.other,1,0,.unit,[.undef]⟩),
 (319,⟨.slice 30,1,0,(.slice (.slice ai)),[.nil]⟩),
 (320,⟨.slice 31,1,0,(.slice (.slice au)),[.nil]⟩),
 (344,⟨.other,1,0,.unit,[.undef]⟩)]
def TM:Tab:=[
 (3,⟨.int .i64,1,0,(.int .i64),[.int .i64 0]⟩),
 (4,⟨.bool,1,0,.bool,[.bool false]⟩),
 (5,⟨.int .u8,1,0,(.int .u8),[.int .u8 0]⟩),
 (22,⟨.slice 5,1,0,(.slice (.int .u8)),[.nil]⟩),
 (24,⟨.slice 101,1,0,(.slice aj),[.nil]⟩),
 (25,⟨.slice 224,1,0,(.slice aB),[.nil]⟩),
 (26,⟨.struct [(0,24),(1,25),(2,3),(3,3)],4,0,ae,[.nil,.nil,.int .i64 0,.int .i64 0]⟩),
 (27,⟨.struct [(0,24),(1,25),(2,3),(3,3)],4,0,ae,[.nil,.nil,.int .i64 0,.int .i64 0]⟩),
 (28,⟨.slice 43,1,0,(.slice aa),[.nil]⟩),
 (29,⟨.slice 3,1,0,(.slice (.int .i64)),[.nil]⟩),
 (30,⟨.slice 103,1,0,(.slice ai),[.nil]⟩),
 (31,⟨.slice 159,1,0,(.slice au),[.nil]⟩),
 (32,⟨.slice 162,1,0,(.slice eX),[.nil]⟩),
 (33,⟨.struct [(0,27),(4,28),(5,29),(6,30),(7,31),(8,32)],9,0,Ua,[.nil,.nil,.int .i64 0,.int .i64 0,.nil,.nil,.nil,.nil,.nil]⟩),
 (34,⟨.struct [(0,27),(4,28),(5,29),(6,30),(7,31),(8,32)],9,0,Ua,[.nil,.nil,.int .i64 0,.int .i64 0,.nil,.nil,.nil,.nil,.nil]⟩),
 (35,⟨.struct [(0,3),(1,3),(2,3),(3,3),(4,3),(5,3),(6,3)],7,0,dr,[.int .i64 0,.int .i64 0,.int .i64 0,.int .i64 0,.int .i64 0,.int .i64 0,.int .i64 0]⟩),
 (36,⟨.struct [(0,3),(1,3),(2,3),(3,3),(4,3),(5,3),(6,3)],7,0,dr,[.int .i64 0,.int .i64 0,.int .i64 0,.int .i64 0,.int .i64 0,.int .i64 0,.int .i64 0]⟩),
 (37,⟨.struct [(0,3),(1,3)],2,0,bU,[.int .i64 0,.int .i64 0]⟩),
 (38,⟨.struct [(0,3),(1,3)],2,0,bU,[.int .i64 0,.int .i64 0]⟩),
 (39,⟨.slice 114,1,0,(.slice ah),[.nil]⟩),
 (40,⟨.struct [(0,3),(1,3),(2,3),(3,3),(4,3),(5,4),(6,39)],7,0,bR,[.int .i64 0,.int .i64 0,.int .i64 0,.int .i64 0,.int .i64 0,.bool false,.nil]⟩),
 (41,⟨.struct [(0,3),(1,3),(2,3),(3,3),(4,3),(5,4),(6,39)],7,0,bR,[.int .i64 0,.int .i64 0,.int .i64 0,.int .i64 0,.int .i64 0,.bool false,.nil]⟩),
 (42,⟨.struct [(0,3),(1,3),(2,3),(3,3),(4,36),(11,38),(13,41),(20,3),(21,3)],22,0,aa,[.int .i64 0,.int .i64 0,.int .i64 0,.int .i64 0,.int .i64 0,.int .i64 0,.int .i64 0,.int .i64 0,.int .i64 0,.int .i64 0,.int .i64 0,.int .i64 0,.int .i64 0,.int .i64 0,.int .i64 0,.int .i64 0,.int .i64 0,.int .i64 0,.bool false,.nil,.int .i64 0,.int .i64 0]⟩),
 (43,⟨.struct [(0,3),(1,3),(2,3),(3,3),(4,36),(11,38),(13,41),(20,3),(21,3)],22,0,aa,[.int .i64 0,.int .i64 0,.int .i64 0,.int .i64 0,.int .i64 0,.int .i64 0,.int .i64 0,.int .i64 0,.int .i64 0,.int .i64 0,.int .i64 0,.int .i64 0,.int .i64 0,.int .i64 0,.int .i64 0,.int .i64 0,.int .i64 0,.int .i64 0,.bool false,.nil,.int .i64 0,.int .i64 0]⟩),
 (44,⟨.struct [(0,3),(1,43),(23,3),(24,39)],25,0,bm,[.int .i64 0,.int .i64 0,.int .i64 0,.int .i64 0,.int .i64 0,.int .i64 0,.int .i64 0,.int .i64 0,.int .i64 0,.int .i64 0,.int .i64 0,.int .i64 0,.int .i64 0,.int .i64 0,.int .i64 0,.int .i64 0,.int .i64 0,.int .i64 0,.int .i64 0,.bool false,.nil,.int .i64 0,.int .i64 0,.int .i64 0,.nil]⟩),
 (45,⟨.struct [(0,3),(1,43),(23,3),(24,39)],25,0,bm,[.int .i64 0,.int .i64 0,.int .i64 0,.int .i64 0,.int .i64 0,.int .i64 0,.int .i64 0,.int .i64 0,.int .i64 0,.int .i64 0,.int .i64 0,.int .i64 0,.int .i64 0,.int .i64 0,.int .i64 0,.int .i64 0,.int .i64 0,.int .i64 0,.int .i64 0,.bool false,.nil,.int .i64 0,.int .i64 0,.int .i64 0,.nil]⟩),
 (89,⟨.slice 45,1,0,(.slice bm),[.nil]⟩),
 (100,⟨.struct [(0,3),(1,3),(2,3),(3,3),(4,3),(5,3),(6,3),(7,3),(8,3),(9,3),(10,3),(11,4),(12,4)],13,0,aj,[.int .i64 0,.int .i64 0,.int .i64 0,.int .i64 0,.int .i64 0,.int .i64 0,.int .i64 0,.int .i64 0,.int .i64 0,.int .i64 0,.int .i64 0,.bool false,.bool false]⟩),
 (101,⟨.struct [(0,3),(1,3),(2,3),(3,3),(4,3),(5,3),(6,3),(7,3),(8,3),(9,3),(10,3),(11,4),(12,4)],13,0,aj,[.int .i64 0,.int .i64 0,.int .i64 0,.int .i64 0,.int .i64 0,.int .i64 0,.int .i64 0,.int .i64 0,.int .i64 0,.int .i64 0,.int .i64 0,.bool false,.bool false]⟩),
 (102,⟨.struct [(0,3),(1,3),(2,3),(3,101)],16,0,ai,[.int .i64 0,.int .i64 0,.int .i64 0,.int .i64 0,.int .i64 0,.int .i64 0,.int .i64 0,.int .i64 0,.int .i64 0,.int .i64 0,.int .i64 0,.int .i64 0,.int .i64 0,.int .i64 0,.bool false,.bool false]⟩),
 (103,⟨.struct [(0,3),(1,3),(2,3),(3,101)],16,0,ai,[.int .i64 0,.int .i64 0,.int .i64 0,.int .i64 0,.int .i64 0,.int .i64 0,.int .i64 0,.int .i64 0,.int .i64 0,.int .i64 0,.int .i64 0,.int .i64 0,.int .i64 0,.int .i64 0,.bool false,.bool false]⟩),
 (105,⟨.struct [(0,3),(1,3),(2,3),(3,3),(4,3),(5,3),(6,4)],7,0,ah,[.int .i64 0,.int .i64 0,.int .i64 0,.int .i64 0,.int .i64 0,.int .i64 0,.bool false]⟩),
 (109,⟨.struct [(0,39),(1,28),(2,29),(3,32)],4,0,wM,[.nil,.nil,.nil,.nil]⟩),
 (110,⟨.struct [(0,39),(1,28),(2,29),(3,32)],4,0,wM,[.nil,.nil,.nil,.nil]⟩),
 (114,⟨.struct [(0,3),(1,3),(2,3),(3,3),(4,3),(5,3),(6,4)],7,0,ah,[.int .i64 0,.int .i64 0,.int .i64 0,.int .i64 0,.int .i64 0,.int .i64 0,.bool false]⟩),
 (141,⟨.other,1,0,.unit,[.undef]⟩),
 (156,⟨.other,1,0,.unit,[.undef]⟩),
 (158,⟨.struct [(0,3),(1,114),(8,3),(9,3),(10,101)],23,0,au,[.int .i64 0,.int .i64 0,.int .i64 0,.int .i64 0,.int .i64 0,.int .i64 0,.int .i64 0,.bool false,.int .i64 0,.int .i64 0,.int .i64 0,.int .i64 0,.int .i64 0,.int .i64 0,.int .i64 0,.int .i64 0,.int .i64 0,.int .i64 0,.int .i64 0,.int .i64 0,.int .i64 0,.bool false,.bool false]⟩),
 (159,⟨.struct [(0,3),(1,114),(8,3),(9,3),(10,101)],23,0,au,[.int .i64 0,.int .i64 0,.int .i64 0,.int .i64 0,.int .i64 0,.int .i64 0,.int .i64 0,.bool false,.int .i64 0,.int .i64 0,.int .i64 0,.int .i64 0,.int .i64 0,.int .i64 0,.int .i64 0,.int .i64 0,.int .i64 0,.int .i64 0,.int .i64 0,.int .i64 0,.int .i64 0,.bool false,.bool false]⟩),
 (161,⟨.struct [(0,3),(1,3),(2,3),(3,3),(4,114),(11,39),(12,3),(13,3)],14,0,aF,[.int .i64 0,.int .i64 0,.int .i64 0,.int .i64 0,.int .i64 0,.int .i64 0,.int .i64 0,.int .i64 0,.int .i64 0,.int .i64 0,.bool false,.nil,.int .i64 0,.int .i64 0]⟩),
 (162,⟨.struct [(0,3),(1,3),(2,3),(3,3),(4,114),(11,39),(12,3),(13,3)],14,0,eX,[.int .i64 0,.int .i64 0,.int .i64 0,.int .i64 0,.int .i64 0,.int .i64 0,.int .i64 0,.int .i64 0,.int .i64 0,.int .i64 0,.bool false,.nil,.int .i64 0,.int .i64 0]⟩),
 (163,⟨.other,1,0,.unit,[.undef]⟩),
 (166,⟨.other,1,0,.unit,[.undef]⟩),
 (177,⟨.other,1,0,.unit,[.undef]⟩),
 (190,⟨.other,1,0,.unit,[.undef]⟩),
 (191,⟨.struct [(0,27),(4,28),(5,29),(6,39),(7,32)],8,0,SS,[.nil,.nil,.int .i64 0,.int .i64 0,.nil,.nil,.nil,.nil]⟩),
 (192,⟨.struct [(0,27),(4,28),(5,29),(6,39),(7,32)],8,0,SS,[.nil,.nil,.int .i64 0,.int .i64 0,.nil,.nil,.nil,.nil]⟩),
 (193,⟨.other,1,0,.unit,[.undef]⟩),
 (197,⟨.other,1,0,.unit,[.undef]⟩),
 (198,⟨.other,1,0,.unit,[.undef]⟩),
 (200,⟨.struct [(0,27),(4,110),(8,198),(9,166)],10,0,.unit,[.nil,.nil,.int .i64 0,.int .i64 0,.nil,.nil,.nil,.nil,.undef,.undef]⟩),
 (221,⟨.other,1,0,.unit,[.undef]⟩),
 (223,⟨.struct [(0,3),(1,3),(2,4)],3,0,aB,[.int .i64 0,.int .i64 0,.bool false]⟩),
 (224,⟨.struct [(0,3),(1,3),(2,4)],3,0,aB,[.int .i64 0,.int .i64 0,.bool false]⟩),
 (226,⟨.other,1,0,.unit,[.undef]⟩),
 (227,⟨.other,1,0,.unit,[.undef]⟩),
 (229,⟨.struct [(0,22),(1,3),(2,3)],3,0,al,[.nil,.int .i64 0,.int .i64 0]⟩),
 (230,⟨.struct [(0,22),(1,3),(2,3)],3,0,al,[.nil,.int .i64 0,.int .i64 0]⟩),
 (297,⟨.slice 39,1,0,(.slice (.slice ah)),[.nil]⟩),
 (299,⟨.slice 32,1,0,(.slice (.slice eX)),[.nil]⟩),
 (308,⟨.int .u64,1,0,(.int .u64),[.int .u64 0]⟩),
 (315,⟨.other,1,0,.unit,[.undef]⟩),
 (319,⟨.slice 30,1,0,(.slice (.slice ai)),[.nil]⟩),
 (320,⟨.slice 31,1,0,(.slice (.slice au)),[.nil]⟩),
 (344,⟨.other,1,0,.unit,[.undef]⟩)]
theorem PD:gO Tryz.prog TM:=GW (by kernel_rfl)
theorem dJ:gO Tryz.prog tab:=GW (by kernel_rfl)
theorem mixed:Tryz.prog.follows .mixedOrders=true:=by kernel_rfl
abbrev KC (f:Nat) (c:Ct):Prop:=cS Tryz.prog f c
theorem En:ar Tryz.prog { T:=tab,G:=[] }:=ar.nil dJ
theorem Ec {f:Nat} {ct:Ct} {G:List (Nat×Ct)} (h:cS Tryz.prog f ct) (hE:ar Tryz.prog { T:=tab,G:=G }):ar Tryz.prog { T:=tab,G:=(f,ct) :: G }:=ar.cons h hE
theorem pq {G:List (Nat×Ct)} (hE:ar Tryz.prog { T:=tab,G:=G }) {f:Nat} {fn:Func} {one fr:Bool} {a r:Ty} {F:a.D→Option r.D} (hs:Hints) (hf:Tryz.prog.funcs[f]?=some fn) (hok:wH fn one (gT a)=true:=by kernel_rfl)
  (hev:∀ x,ev { T:=tab,G:=G } (fA fn) hs (ik (jb a x) fn.ntmps) (F5 tab one fr fn.results.toList r)=F x:=by (intro x;kernel_rfl)):KC f (.pure one fr a r F):=wK hE mixed one fr a r F hs hf hok hev
theorem cq {G:List (Nat×Ct)} (hE:ar Tryz.prog { T:=tab,G:=G }) {f:Nat} {fn:Func} {a c r:Ty} {F:c.D→a.D→Option r.D} (hs:Hints) (hf:Tryz.prog.funcs[f]?=some fn) (hok:(wH fn true (gT a + gT c) && r.flat)=true:=by kernel_rfl)
  (hev:∀ z x,ev { T:=tab,G:=G } (fA fn) hs (ik (jb a x++wD c z) fn.ntmps) (F5 tab true false fn.results.toList r)=F z x:=by (intro z x;kernel_rfl)):KC f (.clo a c r F):=Ut hE mixed a c r F hs hf hok hev
theorem mq {G:List (Nat×Ct)} (hE:ar Tryz.prog { T:=tab,G:=G }) {f:Nat} {fn:Func} {ms:List Md} {one fr:Bool} {a r:Ty} {F:a.D→Option (r.D×(gM ms a).D)} (hs:Hints) (hf:Tryz.prog.funcs[f]?=some fn) (hok:(La fn one ms && (fr || yE ms))=true:=by kernel_rfl)
  (hev:∀ x,(kj ms a x 0 (gC ms a x fn.ntmps) fun st=>ev { T:=tab,G:=G } (fA fn) hs st (TC tab ms a one fr fn.results.toList r))=F x:=by (intro x;kernel_rfl)):KC f (.mut ms one fr a r F):=dL hE mixed ms one fr a r F hs hf hok hev
def TN:Tab:=[
 (3,⟨.int .i64,1,0,(.int .i64),[.int .i64 0]⟩),
 (4,⟨.bool,1,0,.bool,[.bool false]⟩),
 (28,⟨.slice 43,1,0,(.slice bf),[.nil]⟩),
 (35,⟨.struct [(0,3),(1,3),(2,3),(3,3),(4,3),(5,3),(6,3)],7,0,dr,[.int .i64 0,.int .i64 0,.int .i64 0,.int .i64 0,.int .i64 0,.int .i64 0,.int .i64 0]⟩),
 (36,⟨.struct [(0,3),(1,3),(2,3),(3,3),(4,3),(5,3),(6,3)],7,0,dr,[.int .i64 0,.int .i64 0,.int .i64 0,.int .i64 0,.int .i64 0,.int .i64 0,.int .i64 0]⟩),
 (37,⟨.struct [(0,3),(1,3)],2,0,bU,[.int .i64 0,.int .i64 0]⟩),
 (38,⟨.struct [(0,3),(1,3)],2,0,bU,[.int .i64 0,.int .i64 0]⟩),
 (39,⟨.slice 114,1,0,(.slice ah),[.nil]⟩),
 (40,⟨.struct [(0,3),(1,3),(2,3),(3,3),(4,3),(5,4),(6,39)],7,0,bR,[.int .i64 0,.int .i64 0,.int .i64 0,.int .i64 0,.int .i64 0,.bool false,.nil]⟩),
 (41,⟨.struct [(0,3),(1,3),(2,3),(3,3),(4,3),(5,4),(6,39)],7,0,SR,[.int .i64 0,.int .i64 0,.int .i64 0,.int .i64 0,.int .i64 0,.bool false,.nil]⟩),
 (42,⟨.struct [(0,3),(1,3),(2,3),(3,3),(4,36),(11,38),(13,41),(20,3),(21,3)],22,0,bf,[.int .i64 0,.int .i64 0,.int .i64 0,.int .i64 0,.int .i64 0,.int .i64 0,.int .i64 0,.int .i64 0,.int .i64 0,.int .i64 0,.int .i64 0,.int .i64 0,.int .i64 0,.int .i64 0,.int .i64 0,.int .i64 0,.int .i64 0,.int .i64 0,.bool false,.nil,.int .i64 0,.int .i64 0]⟩),
 (43,⟨.struct [(0,3),(1,3),(2,3),(3,3),(4,36),(11,38),(13,41),(20,3),(21,3)],22,0,bf,[.int .i64 0,.int .i64 0,.int .i64 0,.int .i64 0,.int .i64 0,.int .i64 0,.int .i64 0,.int .i64 0,.int .i64 0,.int .i64 0,.int .i64 0,.int .i64 0,.int .i64 0,.int .i64 0,.int .i64 0,.int .i64 0,.int .i64 0,.int .i64 0,.bool false,.nil,.int .i64 0,.int .i64 0]⟩),
 (105,⟨.struct [(0,3),(1,3),(2,3),(3,3),(4,3),(5,3),(6,4)],7,0,ah,[.int .i64 0,.int .i64 0,.int .i64 0,.int .i64 0,.int .i64 0,.int .i64 0,.bool false]⟩),
 (114,⟨.struct [(0,3),(1,3),(2,3),(3,3),(4,3),(5,3),(6,4)],7,0,ah,[.int .i64 0,.int .i64 0,.int .i64 0,.int .i64 0,.int .i64 0,.int .i64 0,.bool false]⟩),
 (227,⟨.other,1,0,.unit,[.undef]⟩)]
theorem PE:gO Tryz.prog TN:=GW (by kernel_rfl)
def dM (a0:(List bf.D)) (a1:Int) (a2:Int):Option ((List bf.D)×Unit) :=
 if 0≤a1 then (if a1≤a2 then (if a2≤(a0.length:Int) then (
 if a2≤(a0.length:Int) then (if (a0.length:Int)≤(a0.length:Int) then (
 bif (a1 == a2) then (
 some (a0,()))
 else (
 if 0≤(0:Int) then (if (0:Int)≤a1 then (if a1≤(a0.length:Int) then (
 if 0≤a2 then (if a2≤(a0.length:Int) then (if (a0.length:Int)≤(a0.length:Int) then (
 if a2.toNat≤(a0.length:Int).toNat then (if a1.toNat + ((a0.length:Int).toNat - a2.toNat)≤a0.length then (
 let u1:(List bf.D):=a0.take (a1.toNat)++(a0.take ((a0.length:Int).toNat)).drop (a2.toNat)++a0.drop (a1.toNat + ((a0.length:Int).toNat - a2.toNat))
 if 0≤((a1.toNat + ((a0.length:Int).toNat - a2.toNat) - 0:Nat):Int) then (if ((a1.toNat + ((a0.length:Int).toNat - a2.toNat) - 0:Nat):Int)≤(a0.length:Int) then (if (a0.length:Int)≤(u1.length:Int) then (
 some ((((u1.take (((a1.toNat + ((a0.length:Int).toNat - a2.toNat) - 0:Nat):Int).toNat)++List.replicate ((a0.length:Int).toNat - ((a1.toNat + ((a0.length:Int).toNat - a2.toNat) - 0:Nat):Int).toNat) (0,0,0,0,(0,0,0,0,0,0,0,()),(0,0,()),(0,0,0,0,0,false,(none,0,0),()),0,0,())++u1.drop ((a0.length:Int).toNat)).take (a1.toNat + ((a0.length:Int).toNat - a2.toNat))).drop (0)),())) else none) else none) else none) else none) else none) else none) else none) else none) else none) else none) else none)) else none) else none) else none) else none) else none
def lL:Ct:=.mut [.tk,.rd,.rd] true true (.pair (.slice bf) (.pair (.int .i64) (.pair (.int .i64) .unit))) (.slice bf) (fun x=>dM x.1 x.2.1 x.2.2.1)
theorem kz:cS Tryz.prog 212 lL:=dL (E:={ T:=TN,G:=[] }) (ar.nil PE) mixed (fn:=Tryz.f212) _ _ _ _ _ _ .none Tryz.func212 (by kernel_rfl) (fun x=>by kernel_rfl)
def cC (a0:(List bf.D)) (a1:((bf.D×Unit)→Option Bool)):Int→Option (Int⊕(Int⊕Int)):=fun s1 =>
 bif decide (s1 < (a0.length:Int)) then (
 idx a0 s1 fun x2 =>
(a1 (x2,())).bind fun y3 =>
 bif y3 then (
 some (.inr (.inr s1)))
 else (
 some (.inl (IntKind.wrap .i64 (s1 + 1)))))
 else (
 some (.inr (.inl s1)))
def dd (a0:(List bf.D)) (a1:((bf.D×Unit)→Option Bool)):Option Int :=
(ay (cC a0 a1) 0).bind fun o4 =>
 match o4 with
| .inl s5=>(
 some (-1))
| .inr o6=>(
 some o6)
def nL:Hints:=(n0 (nd (n0 (nd (.node none (some ⟨[.tmp 8 (.int .i64)],[some 0],some [.tmp 4 (.int .i64)],[]⟩) .none .none) .none)) .none))
def gG:Ct:=.pure true false (.pair (.slice bf) (.pair (.fn (.pair bf .unit) .bool) .unit)) (.int .i64) (fun x=>dd x.1 x.2.1)
theorem mG:cS Tryz.prog 207 gG:=wK (E:={ T:=TN,G:=[] }) (ar.nil PE) mixed (fn:=Tryz.f207) _ _ _ _ _ nL Tryz.func207 (by kernel_rfl) (fun x=>by kernel_rfl)
def bK (a1:((bf.D×Unit)→Option Bool)):((List bf.D)×(Int×Int))→Option (((List bf.D)×(Int×Int))⊕((List bf.D)×(Int×Int))):=fun s3 =>
 bif decide (s3.2.2 < (s3.1.length:Int)) then (
 idx s3.1 s3.2.2 fun _ =>
(s3.1[(s3.2.2:Int).toNat]?).bind fun x4 =>
(a1 (x4,())).bind fun y5 =>
((bif (!y5) then (
 idx s3.1 s3.2.1 fun _ =>
(s3.1[(s3.2.1:Int).toNat]?).bind fun x6 =>
 let u7:(List bf.D):=s3.1.set (s3.2.1:Int).toNat x4
 some (u7,IntKind.wrap .i64 (s3.2.1 + 1)))
 else (
 some (s3.1,s3.2.1))):Option ((List bf.D)×Int)).bind fun o8 =>
 some (.inl (o8.1,o8.2,IntKind.wrap .i64 (s3.2.2 + 1))))
 else (
 some (.inr s3))
def cT (a0:(List bf.D)) (a1:((bf.D×Unit)→Option Bool)):Option ((List bf.D)×Unit) :=
(dd a0 a1).bind fun y1 =>
 bif (y1 == (-1)) then (
 some (a0,()))
 else (
(ay (bK a1) (a0,y1,IntKind.wrap .i64 (y1 + 1))).bind fun o9 =>
 if 0≤o9.2.1 then (if o9.2.1≤(o9.1.length:Int) then (if (o9.1.length:Int)≤(o9.1.length:Int) then (
 if 0≤(0:Int) then (if (0:Int)≤o9.2.1 then (if o9.2.1≤((o9.1.take (o9.2.1.toNat)++List.replicate ((o9.1.length:Int).toNat - o9.2.1.toNat) (0,0,0,0,(0,0,0,0,0,0,0,()),(0,0,()),(0,0,0,0,0,false,(none,0,0),()),0,0,())++o9.1.drop ((o9.1.length:Int).toNat)).length:Int) then (
 some ((((o9.1.take (o9.2.1.toNat)++List.replicate ((o9.1.length:Int).toNat - o9.2.1.toNat) (0,0,0,0,(0,0,0,0,0,0,0,()),(0,0,()),(0,0,0,0,0,false,(none,0,0),()),0,0,())++o9.1.drop ((o9.1.length:Int).toNat)).take (o9.2.1.toNat)).drop ((0:Int).toNat)),())) else none) else none) else none) else none) else none) else none)
def mH:Hints:=(n0 (n0 (n0 (nd (n0 (nd (.node none (some ⟨[.tmpO 0 1 (.slice bf),.tmp 5 (.int .i64),.tmp 6 (.int .i64)],[some 0],none,[]⟩) (n0 (nd (nd (n0 (n0 (cu ⟨[.tmpO 0 2 (.slice bf),.tmp 5 (.int .i64)],[none],none,[(0,1)]⟩))) .none) .none)) .none) .none)) .none))))
def jw:Ct:=.mut [.tk,.rd] true true (.pair (.slice bf) (.pair (.fn (.pair bf .unit) .bool) .unit)) (.slice bf) (fun x=>cT x.1 x.2.1)
theorem jj:cS Tryz.prog 219 jw:=dL (E:={ T:=TN,G:=[(207,gG)] }) (ar.cons mG (ar.nil PE)) mixed (fn:=Tryz.f219) _ _ _ _ _ _ mH Tryz.func219 (by kernel_rfl) (fun x=>by kernel_rfl)
def HM (a0:(List Int)):Option Bool :=
 some (decide ((a0.length:Int) > 1048576))
def PF:Ct:=.pure true false (.pair (.slice (.int .u8)) .unit) .bool (fun x=>HM x.1)
theorem NU:KC 10 PF:=pq En .none Tryz.func10
def Bk (a0:(List Int)):(Int×Int)→Option ((Int×Int)⊕(Int×Int)):=fun s1 =>
((bif decide (s1.2 < (a0.length:Int)) then (
 some (decide (s1.2 < 4000)))
 else (
 some false)):Option Bool).bind fun o2 =>
 bif o2 then (
 idx a0 s1.2 fun x3 =>
 let k4:Int:=IntKind.wrap .i64 ((IntKind.wrap .i64 (s1.1 * 137)) + (IntKind.wrap .i64 x3))
 let k5:Int:=IntKind.wrap .i64 (BitVec.ofInt (IntKind.bits .i64) (IntKind.wrap .i64 (k4 + 11)) &&& BitVec.ofInt (IntKind.bits .i64) 1073741823).toNat
 some (.inl (k5,IntKind.wrap .i64 (s1.2 + 1))))
 else (
 some (.inr s1))
def oG (a0:(List Int)):Option al.D :=
(ay (Bk a0) (IntKind.wrap .i64 (139871 + (a0.length:Int)),0)).bind fun o6 =>
 some (a0,0,o6.1,())
def L4:Hints:=(n0 (n0 (nd (n0 (nd (.node none (some ⟨[.tmp 3 (.int .i64),.tmp 4 (.int .i64)],[some 0],none,[]⟩) (nd (nd (cu ⟨[.tmp 15 .bool],[none],none,[]⟩) .none) .none) .none) .none)) .none)))
def L5:Ct:=.box (.pair (.slice (.int .u8)) .unit) al (fun x=>oG x.1)
theorem vk:cS Tryz.prog 85 L5:=Uv (E:={ T:=tab,G:=[] }) (ar.nil dJ) mixed (fn:=Tryz.f85) _ _ _ L4 Tryz.func85 (by kernel_rfl) (fun x=>by kernel_rfl)
def Bl (a0:Int):Option ae.D :=
 bif (a0 == 3) then (
 if (([(20,0,false,()),(20,0,false,())]:List aB.D).length + ([(20,0,false,())]:List aB.D).length) * (24 * 3)≤aI then (
 some ([],(([(20,0,false,()),(20,0,false,())]:List aB.D)++([(20,0,false,())]:List aB.D)),0,0,())) else none)
 else (
 some ([],([(20,0,false,()),(20,0,false,())]:List aB.D),0,0,()))
def jc:Ct:=.pure true true (.pair (.int .i64) .unit) ae (fun x=>Bl x.1)
theorem mI:KC 285 jc:=pq En .none Tryz.func285
def il (a0:al.D):Option (Int×(al.D×Unit)) :=
 let k1:Int:=IntKind.wrap .i64 ((IntKind.wrap .i64 (a0.2.2.1 * 6364136223846793005)) + 1442695040888963407)
 if 0≤33 then (
 if 0≤47 then (
 let k2:Int:=IntKind.wrap .i64 (BitVec.ofInt (IntKind.bits .i64) (k1.fdiv (2 ^ min (33:Int).toNat (IntKind.bits .i64))) ^^^ BitVec.ofInt (IntKind.bits .i64) (k1.fdiv (2 ^ min (47:Int).toNat (IntKind.bits .i64)))).toNat
 let k3:Int:=IntKind.wrap .i64 (BitVec.ofInt (IntKind.bits .i64) k2 &&& BitVec.ofInt (IntKind.bits .i64) 255).toNat
 bif decide (a0.2.1 < (a0.1.length:Int)) then (
 idx a0.1 a0.2.1 fun x4 =>
 let k5:Int:=IntKind.wrap .i64 (BitVec.ofInt (IntKind.bits .i64) (IntKind.wrap .i64 (k3 + (IntKind.wrap .i64 x4))) &&& BitVec.ofInt (IntKind.bits .i64) 255).toNat
 some (k5,((a0.1,IntKind.wrap .i64 (a0.2.1 + 1),k1,()),())))
 else (
 some (k3,((a0.1,a0.2.1,k1,()),())))) else none) else none
def JC:Ct:=.mut [.ptr] true true (.pair al .unit) (.int .i64) (fun x=>il x.1)
theorem HN:KC 200 JC:=mq En .none Tryz.func200
def aN (a0:al.D) (a1:Int):Option (Int×(al.D×Unit)) :=
 bif decide (a1≤0) then (
 some (0,(a0,())))
 else (
 bif decide (a1≤256) then (
(il a0).bind fun y1 =>
 if a1=0 then none else (
 some (y1.1.tmod a1,y1.2)))
 else (
(il a0).bind fun y2 =>
(il y2.2.1).bind fun y3 =>
(il y3.2.1).bind fun y4 =>
 let k5:Int:=IntKind.wrap .i64 ((IntKind.wrap .i64 (y2.1 * 65536)) + (IntKind.wrap .i64 (y3.1 * 256)))
 if a1=0 then none else (
 some ((IntKind.wrap .i64 (k5 + y4.1)).tmod a1,y4.2))))
def bb:Ct:=.mut [.ptr,.rd] true true (.pair al (.pair (.int .i64) .unit)) (.int .i64) (fun x=>aN x.1 x.2.1)
theorem aR:KC 88 bb:=mq (Ec HN En) .none Tryz.func88
def aG (a0:al.D) (a1:(List Int)):Option (Int×(al.D×Unit)) :=
(aN a0 (a1.length:Int)).bind fun y1 =>
 idx a1 y1.1 fun x2 =>
 some (x2,y1.2)
def bi:Ct:=.mut [.ptr,.rd] true true (.pair al (.pair (.slice (.int .i64)) .unit)) (.int .i64) (fun x=>aG x.1 x.2.1)
theorem bg:KC 198 bi:=mq (Ec aR En) .none Tryz.func198
def bF (a0:al.D) (a1:Int):Option (Bool×(al.D×Unit)) :=
(aN a0 a1).bind fun y1 =>
 some ((y1.1 == 0),y1.2)
def eM:Ct:=.mut [.ptr,.rd] true true (.pair al (.pair (.int .i64) .unit)) .bool (fun x=>bF x.1 x.2.1)
theorem dN:KC 103 eM:=mq (Ec aR En) .none Tryz.func103
def sG:(Int×(al.D×(Int×(Int×(Int×(Int×(Int×(Int×(Int×(Int×(Int×(Int×(Int×(Bool×(Bool×Unit)))))))))))))))→Option ((Int×(al.D×(Int×(Int×(Int×(Int×(Int×(Int×(Int×(Int×(Int×(Int×(Int×(Bool×(Bool×Unit)))))))))))))))⊕(Int×(al.D×(Int×(Int×(Int×(Int×(Int×(Int×(Int×(Int×(Int×(Int×(Int×(Bool×(Bool×Unit)))))))))))))))):=fun s8 =>
 bif decide (s8.1 < (([1,2,4,8,16,32]:List Int).length:Int)) then (
 idx ([1,2,4,8,16,32]:List Int) s8.1 fun _ =>
(([1,2,4,8,16,32]:List Int)[(s8.1:Int).toNat]?).bind fun x9 =>
(bF s8.2.1 3).bind fun y10 =>
 bif y10.1 then (
 some (.inl (IntKind.wrap .i64 (s8.1 + 1),y10.2.1,s8.2.2.1,s8.2.2.2.1,s8.2.2.2.2.1,s8.2.2.2.2.2.1,s8.2.2.2.2.2.2.1,s8.2.2.2.2.2.2.2.1,s8.2.2.2.2.2.2.2.2.1,IntKind.wrap .i64 (s8.2.2.2.2.2.2.2.2.2.1 + x9),s8.2.2.2.2.2.2.2.2.2.2)))
 else (
 some (.inl (IntKind.wrap .i64 (s8.1 + 1),y10.2.1,s8.2.2))))
 else (
 some (.inr s8))
def io (a0:al.D) (a1:Int):Option (aj.D×(al.D×Unit)) :=
(aN a0 2).bind fun y1 =>
(aG y1.2.1 ([2,2,2,1,3]:List Int)).bind fun y2 =>
(aN y2.2.1 3).bind fun y3 =>
(aN y3.2.1 5).bind fun y4 =>
(aN y4.2.1 5).bind fun y5 =>
(ay (sG) (0,y5.2.1,a1,y1.1,y1.1,y2.1,y3.1,y4.1,IntKind.wrap .i64 (1 + y5.1),0,0,0,0,false,false,())).bind fun o11 =>
 bif (o11.2.2.2.2.2.1 != 2) then (
 some (o11.2.2,(o11.2.1,())))
 else (
(bF o11.2.1 4).bind fun y12 =>
((bif y12.1 then (
 some (o11.2.2.1,o11.2.2.2.1,IntKind.wrap .i64 (1 - o11.2.2.2.1),o11.2.2.2.2.2))
 else (
 some o11.2.2)):Option aj.D).bind fun o13 =>
(aG y12.2.1 ([0,0,1,2]:List Int)).bind fun y14 =>
(aG y14.2.1 ([0,0,0,1]:List Int)).bind fun y15 =>
(aG y15.2.1 ([0,0,1]:List Int)).bind fun y16 =>
(bF y16.2.1 4).bind fun y17 =>
 some ((o13.1,o13.2.1,o13.2.2.1,o13.2.2.2.1,o13.2.2.2.2.1,o13.2.2.2.2.2.1,o13.2.2.2.2.2.2.1,o13.2.2.2.2.2.2.2.1,y14.1,y15.1,y16.1,o13.2.2.2.2.2.2.2.2.2.2.2.1,y17.1,()),y17.2))
def JD:Hints:=(n0 (n0 (n0 (nd (n0 (nd (.node none (some ⟨[.tmp 27 (.int .i64),.box 0 0 al,.box 5 0 aj],[some 0],none,[]⟩) .none .none) .none)) (n0 (nd (n0 (cu ⟨[.box 5 0 aj],[none],none,[(5,0)]⟩)) .none))))))
def iV:Ct:=.mut [.ptr,.rd] true true (.pair al (.pair (.int .i64) .unit)) aj (fun x=>io x.1 x.2.1)
theorem jx:cS Tryz.prog 262 iV:=dL (E:={ T:=tab,G:=[(88,bb),(103,eM),(198,bi)],V:=[12,50,54,58] }) (ar.views (ar.cons aR (ar.cons dN (ar.cons bg (ar.nil dJ))))) mixed (fn:=Tryz.f262) _ _ _ _ _ _ JD Tryz.func262 (by kernel_rfl) (fun x=>by kernel_rfl)
def sH:(Int×(al.D×((List aj.D)×((List aB.D)×(Int×(Int×Unit))))))→Option ((Int×(al.D×((List aj.D)×((List aB.D)×(Int×(Int×Unit))))))⊕(Int×(al.D×((List aj.D)×((List aB.D)×(Int×(Int×Unit))))))):=fun s6 =>
 bif decide (s6.1 < 2) then (
(aG s6.2.1 ([20,20,3,1,10]:List Int)).bind fun y7 =>
 idx s6.2.2.2.1 s6.1 fun _ =>
(s6.2.2.2.1[(s6.1:Int).toNat]?).bind fun x8 =>
 let u9:(List aB.D):=s6.2.2.2.1.set (s6.1:Int).toNat (y7.1,x8.2)
(aG y7.2.1 ([0,0,8,1]:List Int)).bind fun y10 =>
 idx u9 s6.1 fun _ =>
(u9[(s6.1:Int).toNat]?).bind fun x11 =>
 let u12:(List aB.D):=u9.set (s6.1:Int).toNat (x11.1,y10.1,x11.2.2)
 some (.inl (IntKind.wrap .i64 (s6.1 + 1),y10.2.1,s6.2.2.1,u12,s6.2.2.2.2)))
 else (
 some (.inr s6))
def sI:(Int×(Int×(al.D×((List aj.D)×((List aB.D)×(Int×(Int×Unit)))))))→Option ((Int×(Int×(al.D×((List aj.D)×((List aB.D)×(Int×(Int×Unit)))))))⊕(Int×(Int×(al.D×((List aj.D)×((List aB.D)×(Int×(Int×Unit)))))))):=fun s17 =>
 bif decide (s17.2.1 > 0) then (
(aN s17.2.2.1 2).bind fun y18 =>
(io y18.2.1 (IntKind.wrap .i64 ((IntKind.wrap .i64 (s17.1 + 1)) + y18.1))).bind fun y19 =>
 if (s17.2.2.2.1.length + [y19.1].length) * (24 * 13)≤aI then (
 some (.inl (IntKind.wrap .i64 ((IntKind.wrap .i64 (s17.1 + 1)) + y18.1),IntKind.wrap .i64 (s17.2.1 - 1),y19.2.1,(s17.2.2.2.1++[y19.1]),s17.2.2.2.2))) else none)
 else (
 some (.inr s17))
def ip (a0:al.D):Option (ae.D×(al.D×Unit)) :=
(Bl 2).bind fun y1 =>
(aN a0 3).bind fun y2 =>
(aN y2.2.1 2).bind fun y3 =>
(ay (sH) (0,y3.2.1,y1.1,y1.2.1,y3.1,IntKind.wrap .i64 (2 + y2.1),())).bind fun o13 =>
(aN o13.2.1 5).bind fun y14 =>
(ay (sI) (0,IntKind.wrap .i64 (1 + y14.1),y14.2.1,o13.2.2)).bind fun o20 =>
 some (o20.2.2.2,(o20.2.2.1,()))
def Bm:Hints:=(n0 (n0 (n0 (n0 (nd (n0 (nd (.node none (some ⟨[.tmp 4 (.int .i64),.box 0 0 al,.boxO 3 0 1 ae],[some 0],none,[]⟩) .none .none) .none)) (n0 (nd (n0 (nd (.node none (some ⟨[.tmp 5 (.int .i64),.tmp 6 (.int .i64),.box 0 0 al,.boxO 3 0 3 ae],[some 2],none,[]⟩) .none .none) .none)) .none)))))))
def JE:Ct:=.mut [.ptr] true false (.pair al .unit) ae (fun x=>ip x.1)
theorem yZ:cS Tryz.prog 175 JE:=dL (E:={ T:=tab,G:=[(88,bb),(198,bi),(262,iV),(285,jc)],V:=[24,32] }) (ar.views (ar.cons aR (ar.cons bg (ar.cons jx (ar.cons mI (ar.nil dJ)))))) mixed (fn:=Tryz.f175) _ _ _ _ _ _ Bm Tryz.func175 (by kernel_rfl) (fun x=>by kernel_rfl)
def kl:Ct:=.mut [.ptr] true true (.pair al .unit) ae (fun x=>ip x.1)
theorem pW:cS Tryz.prog 175 kl:=dL (E:={ T:=tab,G:=[(88,bb),(198,bi),(262,iV),(285,jc)],V:=[24,32] }) (ar.views (ar.cons aR (ar.cons bg (ar.cons jx (ar.cons mI (ar.nil dJ)))))) mixed (fn:=Tryz.f175) _ _ _ _ _ _ Bm Tryz.func175 (by kernel_rfl) (fun x=>by kernel_rfl)
def fN (a0:al.D) (a1:ae.D):Option (Int×(al.D×Unit)) :=
((bif ((a1.1.length:Int) == 0) then (
 some (true,a0))
 else (
(bF a0 8).bind fun y1 =>
 some (y1.1,y1.2.1))):Option (Bool×((List Int)×(Int×(Int×Unit))))).bind fun o2 =>
 bif o2.1 then (
(aN o2.2 9).bind fun y3 =>
 some (IntKind.wrap .i64 (1 + y3.1),y3.2))
 else (
(aN o2.2 (a1.1.length:Int)).bind fun y4 =>
 idx a1.1 y4.1 fun x5 =>
 some (x5.1,y4.2))
def NV:Hints:=(n0 (nd (nd (cu ⟨[.tmp 12 .bool,.box 0 0 al],[none],none,[(0,0)]⟩) .none) .none))
def lZ:Ct:=.mut [.ptr,.rd] true true (.pair al (.pair ae .unit)) (.int .i64) (fun x=>fN x.1 x.2.1)
theorem mJ:KC 287 lZ:=mq (Ec aR (Ec dN En)) NV Tryz.func287
def jy (a0:al.D) (a1:ae.D):Option (dr.D×(al.D×Unit)) :=
(aG a0 ([1,1,1,1,2,2,3,4,5,6]:List Int)).bind fun y1 =>
(aG y1.2.1 ([0,0,1,2]:List Int)).bind fun y2 =>
(bF y2.2.1 4).bind fun y3 =>
((bif y3.1 then (
(aG y3.2.1 ([1,2,3]:List Int)).bind fun y4 =>
 some (y4.2.1,y1.1,y2.1,0,0,0,y4.1,0,()))
 else (
 some (y3.2.1,y1.1,y2.1,0,0,0,0,0,()))):Option (al.D×(Int×(Int×(Int×(Int×(Int×(Int×(Int×Unit))))))))).bind fun o5 =>
((bif (o5.2.1 == 1) then (
(bF o5.1 5).bind fun y6 =>
((bif y6.1 then (
(fN y6.2.1 a1).bind fun y7 =>
 some (y7.2.1,o5.2.1,o5.2.2.1,y7.1,o5.2.2.2.2))
 else (
 some (y6.2.1,o5.2))):Option (al.D×(Int×(Int×(Int×(Int×(Int×(Int×(Int×Unit))))))))).bind fun o8 =>
(bF o8.1 5).bind fun y9 =>
((bif y9.1 then (
(aG y9.2.1 ([1,2,4,3]:List Int)).bind fun y10 =>
 some (y10.2.1,o8.2.1,o8.2.2.1,o8.2.2.2.1,y10.1,o8.2.2.2.2.2))
 else (
 some (y9.2.1,o8.2))):Option (al.D×(Int×(Int×(Int×(Int×(Int×(Int×(Int×Unit))))))))).bind fun o11 =>
 some o11)
 else (
((bif (o5.2.1 == 2) then (
(aG o5.1 ([0,3,2]:List Int)).bind fun y12 =>
 some (y12.2.1,o5.2.1,o5.2.2.1,o5.2.2.2.1,o5.2.2.2.2.1,o5.2.2.2.2.2.1,0,y12.1,()))
 else (
 some o5)):Option (al.D×(Int×(Int×(Int×(Int×(Int×(Int×(Int×Unit))))))))).bind fun o13 =>
 some o13)):Option (al.D×(Int×(Int×(Int×(Int×(Int×(Int×(Int×Unit))))))))).bind fun o14 =>
((bif (o14.2.1 != 3) then (
 bif (o14.2.1 != 4) then (
(bF o14.1 5).bind fun y15 =>
 some (y15.1,y15.2.1))
 else (
 some (false,o14.1)))
 else (
 some (false,o14.1))):Option (Bool×((List Int)×(Int×(Int×Unit))))).bind fun o16 =>
 bif o16.1 then (
(fN o16.2 a1).bind fun y17 =>
 some ((o14.2.1,o14.2.2.1,o14.2.2.2.1,o14.2.2.2.2.1,y17.1,o14.2.2.2.2.2.2),y17.2))
 else (
 some (o14.2,(o16.2,())))
def JF:Hints:=(n0 (n0 (nd (n0 (cu ⟨[.box 0 0 al,.box 5 0 dr],[none],none,[(0,0),(5,0)]⟩)) (nd (n0 (nd (n0 (.node (some ⟨[.box 0 0 al,.box 5 0 dr],[none],none,[(0,0),(5,0)]⟩) none (nd (n0 (cu ⟨[.box 0 0 al,.box 5 0 dr],[none],none,[(0,0),(5,0)]⟩)) (n0 (cu ⟨[.box 0 0 al,.box 5 0 dr],[none],none,[(0,0),(5,0)]⟩))) (n0 (cu ⟨[.box 0 0 al,.box 5 0 dr],[none],none,[(0,0),(5,0)]⟩)))) .none)) (nd (nd (cu ⟨[.tmp 53 .bool,.box 0 0 al],[none],none,[(0,0)]⟩) .none) .none)))))
def pz:Ct:=.mut [.ptr,.rd] true true (.pair al (.pair ae .unit)) dr (fun x=>jy x.1 x.2.1)
theorem sJ:cS Tryz.prog 298 pz:=dL (E:={ T:=tab,G:=[(103,eM),(198,bi),(287,lZ)],V:=[7,10,16,32,38] }) (ar.views (ar.cons dN (ar.cons bg (ar.cons mJ (ar.nil dJ))))) mixed (fn:=Tryz.f298) _ _ _ _ _ _ JF Tryz.func298 (by kernel_rfl) (fun x=>by kernel_rfl)
def jz (a0:al.D):Option (bU.D×(al.D×Unit)) :=
(bF a0 3).bind fun y1 =>
 bif (!y1.1) then (
 some ((0,0,()),y1.2))
 else (
(aN y1.2.1 4).bind fun y2 =>
 bif ((IntKind.wrap .i64 (1 + y2.1)) == 1) then (
(aG y2.2.1 ([3,10,20,1]:List Int)).bind fun y3 =>
 some ((IntKind.wrap .i64 (1 + y2.1),y3.1,()),y3.2))
 else (
((bif ((IntKind.wrap .i64 (1 + y2.1)) == 2) then (
 some ((IntKind.wrap .i64 (1 + y2.1)) == 2))
 else (
 some ((IntKind.wrap .i64 (1 + y2.1)) == 4))):Option Bool).bind fun o4 =>
 bif o4 then (
(aG y2.2.1 ([0,1,2]:List Int)).bind fun y5 =>
 some ((IntKind.wrap .i64 (1 + y2.1),y5.1,()),y5.2))
 else (
 some ((IntKind.wrap .i64 (1 + y2.1),0,()),y2.2))))
def JG:Hints:=(n0 (n0 (n0 (nd (n0 (nd (n0 (n0 (nd (n0 (cu ⟨[.tmp 20 .bool],[none],none,[]⟩)) .none))) .none)) .none))))
def pA:Ct:=.mut [.ptr] true true (.pair al .unit) bU (fun x=>jz x.1)
theorem sK:cS Tryz.prog 299 pA:=dL (E:={ T:=tab,G:=[(88,bb),(103,eM),(198,bi)],V:=[17,24] }) (ar.views (ar.cons aR (ar.cons dN (ar.cons bg (ar.nil dJ))))) mixed (fn:=Tryz.f299) _ _ _ _ _ _ JG Tryz.func299 (by kernel_rfl) (fun x=>by kernel_rfl)
def aP (a0:Int) (a1:Int) (a2:Int):Option Bool :=
 bif decide (a0≥a1) then (
 some (decide (a0≤a2)))
 else (
 some false)
def NW:Ct:=.pure true false (.pair (.int .i64) (.pair (.int .i64) (.pair (.int .i64) .unit))) .bool (fun x=>aP x.1 x.2.1 x.2.2.1)
theorem cD:KC 229 NW:=pq En .none Tryz.func229
def gj (a0:bR.D) (a1:Int):Option Bool :=
(aP a1 1 6).bind fun y1 =>
 bif (!y1) then (
 some false)
 else (
((bif (a0.1 == 2) then (
 some (a0.1 == 2))
 else (
 some (a0.1 == 6))):Option Bool).bind fun o2 =>
 bif o2 then (
 some (a1 == 1))
 else (
((bif (a0.1 == 3) then (
 some (a0.1 == 3))
 else (
((bif (a0.1 == 4) then (
 some (a0.1 == 4))
 else (
 some (a0.1 == 5))):Option Bool).bind fun o3 =>
 some o3)):Option Bool).bind fun o4 =>
 bif o4 then (
 some (a1 != 2))
 else (
((bif (a0.1 == 7) then (
 some (a0.1 == 7))
 else (
 some (a0.1 == 8))):Option Bool).bind fun o5 =>
 bif o5 then (
 some (a1 == 2))
 else (
 bif (a0.1 == 1) then (
 some true)
 else (
 some (a0.1 == 9))))))
def HO:Hints:=(n0 (n0 (nd (n0 (nd (nd (n0 (cu ⟨[.tmp 10 .bool],[none],none,[]⟩)) (n0 (nd (n0 (.node (some ⟨[.tmp 15 .bool],[none],none,[]⟩) none .none (n0 (cu ⟨[.tmp 15 .bool],[none],none,[]⟩)))) (n0 (nd (n0 (cu ⟨[.tmp 21 .bool],[none],none,[]⟩)) .none))))) .none)) .none)))
def za:Ct:=.pure true false (.pair bR (.pair (.int .i64) .unit)) .bool (fun x=>gj x.1 x.2.1)
theorem qL:KC 331 za:=pq (Ec cD En) HO Tryz.func331
def d8 (a0:al.D) (a1:ae.D):Option (ah.D×(al.D×Unit)) :=
(aG a0 ([1,1,1,2,2,3,4,5,6]:List Int)).bind fun y1 =>
(aG y1.2.1 ([1,2,3,5,0,8,2147483647]:List Int)).bind fun y2 =>
 bif (y1.1 == 1) then (
(fN y2.2.1 a1).bind fun y3 =>
(bF y3.2.1 2).bind fun y4 =>
 bif y4.1 then (
(aN y4.2.1 2).bind fun y5 =>
 some ((y1.1,y3.1,0,y5.1,y2.1,0,false,()),y5.2))
 else (
(fN y4.2.1 a1).bind fun y6 =>
 some ((y1.1,y3.1,y6.1,(-1),y2.1,0,false,()),y6.2)))
 else (
 bif (y1.1 == 2) then (
(fN y2.2.1 a1).bind fun y7 =>
(aG y7.2.1 ([3,3,1,2,4]:List Int)).bind fun y8 =>
 bif (y8.1 == 2) then (
(aG y8.2.1 ([0,0,1,2]:List Int)).bind fun y9 =>
(bF y9.2.1 3).bind fun y10 =>
 some ((y1.1,0,y7.1,(-1),y9.1,y8.1,y10.1,()),y10.2))
 else (
 some ((y1.1,0,y7.1,(-1),0,y8.1,false,()),y8.2)))
 else (
((bif (y1.1 == 3) then (
 some (y1.1 == 3))
 else (
 some (y1.1 == 4))):Option Bool).bind fun o11 =>
 bif o11 then (
(aN y2.2.1 2).bind fun y12 =>
 some ((y1.1,0,0,y12.1,y2.1,0,false,()),y12.2))
 else (
(fN y2.2.1 a1).bind fun y13 =>
 some ((y1.1,0,y13.1,(-1),y2.1,0,false,()),y13.2))))
def JH:Hints:=(n0 (n0 (n0 (nd (n0 (nd (n0 (n0 (n0 (n0 (nd (n0 (cu ⟨[.tmp 56 .bool],[none],none,[]⟩)) .none))))) .none)) .none))))
def pB:Ct:=.mut [.ptr,.rd] true true (.pair al (.pair ae .unit)) ah (fun x=>d8 x.1 x.2.1)
theorem mK:cS Tryz.prog 178 pB:=dL (E:={ T:=tab,G:=[(88,bb),(103,eM),(198,bi),(287,lZ)],V:=[7,11,43,50] }) (ar.views (ar.cons aR (ar.cons dN (ar.cons bg (ar.cons mJ (ar.nil dJ)))))) mixed (fn:=Tryz.f178) _ _ _ _ _ _ JH Tryz.func178 (by kernel_rfl) (fun x=>by kernel_rfl)
def sL (a2:Int):(Int×(al.D×(Int×(Int×(Int×(Int×(Int×(Bool×((List ah.D)×Unit)))))))))→Option ((Int×(al.D×(Int×(Int×(Int×(Int×(Int×(Bool×((List ah.D)×Unit)))))))))⊕(Int×(al.D×(Int×(Int×(Int×(Int×(Int×(Bool×((List ah.D)×Unit)))))))))):=fun s4 =>
((bif decide (s4.1 < 6) then (
(gj s4.2.2 a2).bind fun y5 =>
 some (!y5))
 else (
 some false)):Option Bool).bind fun o6 =>
 bif o6 then (
(aN s4.2.1 9).bind fun y7 =>
 some (.inl (IntKind.wrap .i64 (s4.1 + 1),y7.2.1,IntKind.wrap .i64 (1 + y7.1),s4.2.2.2)))
 else (
 some (.inr s4))
def sM (a1:ae.D):(Int×(al.D×(Int×(Int×(Int×(Int×(Int×(Bool×((List ah.D)×Unit)))))))))→Option ((Int×(al.D×(Int×(Int×(Int×(Int×(Int×(Bool×((List ah.D)×Unit)))))))))⊕(Int×(al.D×(Int×(Int×(Int×(Int×(Int×(Bool×((List ah.D)×Unit)))))))))):=fun s21 =>
 bif decide (s21.1 > 0) then (
(d8 s21.2.1 a1).bind fun y22 =>
((bif (y22.1.1 != 2) then (
(bF y22.2.1 2).bind fun y23 =>
 some (y23.1,y23.2.1))
 else (
 some (false,y22.2.1))):Option (Bool×((List Int)×(Int×(Int×Unit))))).bind fun o24 =>
((bif o24.1 then (
 some (y22.1.1,y22.1.2.1,y22.1.2.2.1,y22.1.2.2.2.1,(-1),y22.1.2.2.2.2.2))
 else (
 some y22.1)):Option ah.D).bind fun o25 =>
 if (s21.2.2.2.2.2.2.2.2.1.length + [o25].length) * (24 * 7)≤aI then (
 some (.inl (IntKind.wrap .i64 (s21.1 - 1),o24.2,s21.2.2.1,s21.2.2.2.1,s21.2.2.2.2.1,s21.2.2.2.2.2.1,s21.2.2.2.2.2.2.1,s21.2.2.2.2.2.2.2.1,(s21.2.2.2.2.2.2.2.2.1++[o25]),()))) else none)
 else (
 some (.inr s21))
def jA (a0:al.D) (a1:ae.D) (a2:Int):Option (bR.D×(al.D×Unit)) :=
(aG a0 ([1,2,2,3,3,4,5,6,6,7,8,8,9,9]:List Int)).bind fun y1 =>
(ay (sL a2) (0,y1.2.1,y1.1,0,0,(-1),0,false,[],())).bind fun o8 =>
(gj o8.2.2 a2).bind fun y9 =>
((bif (!y9) then (
 some (1,o8.2.2.2))
 else (
 some o8.2.2)):Option bR.D).bind fun o10 =>
 bif (o10.1 == 3) then (
(aG o8.2.1 ([1,2,5,2147483647]:List Int)).bind fun y11 =>
 some ((o10.1,y11.1,o10.2.2),y11.2))
 else (
 bif (o10.1 == 6) then (
(bF o8.2.1 2).bind fun y12 =>
 bif y12.1 then (
(aN y12.2.1 2).bind fun y13 =>
 some ((o10.1,o10.2.1,o10.2.2.1,y13.1,o10.2.2.2.2),y13.2))
 else (
(fN y12.2.1 a1).bind fun y14 =>
 some ((o10.1,o10.2.1,y14.1,o10.2.2.2),y14.2)))
 else (
 bif (o10.1 == 7) then (
(aG o8.2.1 ([1,4,3,2]:List Int)).bind fun y15 =>
 some ((o10.1,o10.2.1,o10.2.2.1,o10.2.2.2.1,y15.1,o10.2.2.2.2.2),y15.2))
 else (
 bif (o10.1 == 8) then (
(aN o8.2.1 3).bind fun y16 =>
(bF y16.2.1 3).bind fun y17 =>
 some ((o10.1,y16.1,o10.2.2.1,o10.2.2.2.1,o10.2.2.2.2.1,y17.1,o10.2.2.2.2.2.2),y17.2))
 else (
 bif (o10.1 == 9) then (
(aN o8.2.1 2).bind fun y18 =>
(ay (sM a1) (IntKind.wrap .i64 (1 + y18.1),y18.2.1,o10)).bind fun o26 =>
 some (o26.2.2,(o26.2.1,())))
 else (
 some (o10,(o8.2.1,())))))))
def JI:Hints:=(n0 (n0 (nd (n0 (nd (.node none (some ⟨[.tmp 8 (.int .i64),.box 0 0 al,.boxO 7 0 1 bR],[some 0],none,[]⟩) (nd (nd (cu ⟨[.tmp 22 .bool],[none],none,[]⟩) .none) .none) .none) .none)) (nd (n0 (cu ⟨[.boxO 7 0 2 bR],[none],none,[(7,0),(7,1)]⟩)) (nd (n0 (nd (n0 (n0 (n0 (n0 (n0 (n0 (n0 (n0 (n0 (nd (n0 (nd (.node none (some ⟨[.tmp 9 (.int .i64),.box 0 0 al,.boxO 7 0 3 bR],[some 3],none,[]⟩) (n0 (nd (nd (n0 (nd (nd (cu ⟨[.tmp 85 .bool,.box 0 0 al],[none],none,[(0,0)]⟩) (cu ⟨[.box 10 0 ah],[none],none,[(10,0)]⟩)) .none)) .none) .none)) .none) .none)) .none)))))))))) .none)) .none)))))
def gI:Ct:=.mut [.ptr,.rd,.rd] true true (.pair al (.pair ae (.pair (.int .i64) .unit))) bR (fun x=>jA x.1 x.2.1 x.2.2.1)
theorem jB:cS Tryz.prog 300 gI:=dL (E:={ T:=tab,G:=[(88,bb),(103,eM),(178,pB),(198,bi),(287,lZ),(331,za)],V:=[12,39,56] }) (ar.views (ar.cons aR (ar.cons dN (ar.cons mK (ar.cons bg (ar.cons mJ (ar.cons qL (ar.nil dJ)))))))) mixed (fn:=Tryz.f300) _ _ _ _ _ _ JI Tryz.func300 (by kernel_rfl) (fun x=>by kernel_rfl)
def cU (a0:al.D) (a1:ae.D) (a2:Int):Option (aa.D×(al.D×Unit)) :=
(aN a0 2).bind fun y1 =>
(aG y1.2.1 ([4,4,4,1,2,3,0]:List Int)).bind fun y2 =>
((bif (y2.1 == 0) then (
 some (true,y2.2.1))
 else (
(bF y2.2.1 3).bind fun y3 =>
 some (y3.1,y3.2.1))):Option (Bool×((List Int)×(Int×(Int×Unit))))).bind fun o4 =>
((bif o4.1 then (
(fN o4.2 a1).bind fun y5 =>
 some (y5.2.1,a2,y1.1,y5.1,y2.1,(0,0,0,0,0,0,0,()),(0,0,()),(0,0,0,0,0,false,[],()),(-1),(-1),()))
 else (
 some (o4.2,a2,y1.1,0,y2.1,(0,0,0,0,0,0,0,()),(0,0,()),(0,0,0,0,0,false,[],()),(-1),(-1),()))):Option (al.D×(Int×(Int×(Int×(Int×(dr.D×(bU.D×(bR.D×(Int×(Int×Unit))))))))))).bind fun o6 =>
(jy o6.1 a1).bind fun y7 =>
(jz y7.2.1).bind fun y8 =>
(jA y8.2.1 a1 y7.1.1).bind fun y9 =>
(bF y9.2.1 4).bind fun y10 =>
((bif y10.1 then (
(aN y10.2.1 3).bind fun y11 =>
 let k12:Int:=IntKind.wrap .i64 ((IntKind.wrap .i64 (a1.2.2.2.1 + y11.1)) - 1)
 some (y11.2.1,o6.2.1,o6.2.2.1,o6.2.2.2.1,o6.2.2.2.2.1,y7.1,y8.1,y9.1,k12,o6.2.2.2.2.2.2.2.2.2))
 else (
 some (y10.2.1,o6.2.1,o6.2.2.1,o6.2.2.2.1,o6.2.2.2.2.1,y7.1,y8.1,y9.1,o6.2.2.2.2.2.2.2.2))):Option (al.D×(Int×(Int×(Int×(Int×(dr.D×(bU.D×(bR.D×(Int×(Int×Unit))))))))))).bind fun o13 =>
 bif (o13.2.2.2.2.2.2.2.1.1 == 2) then (
(aG o13.1 ([1,2,3,5]:List Int)).bind fun y14 =>
 some ((o13.2.1,o13.2.2.1,o13.2.2.2.1,o13.2.2.2.2.1,o13.2.2.2.2.2.1,o13.2.2.2.2.2.2.1,o13.2.2.2.2.2.2.2.1,o13.2.2.2.2.2.2.2.2.1,y14.1,()),y14.2))
 else (
(bF o13.1 3).bind fun y15 =>
 bif y15.1 then (
(aN y15.2.1 3).bind fun y16 =>
 some ((o13.2.1,o13.2.2.1,o13.2.2.2.1,o13.2.2.2.2.1,o13.2.2.2.2.2.1,o13.2.2.2.2.2.2.1,o13.2.2.2.2.2.2.2.1,o13.2.2.2.2.2.2.2.2.1,IntKind.wrap .i64 (1 + y16.1),()),y16.2))
 else (
 some (o13.2,y15.2)))
def zb:Hints:=(n0 (n0 (nd (nd (cu ⟨[.tmp 21 .bool,.box 0 0 al],[none],none,[(0,0)]⟩) (cu ⟨[.box 0 0 al,.boxO 7 0 1 aa],[none],none,[(0,0),(7,0)]⟩)) (n0 (n0 (n0 (nd (n0 (cu ⟨[.box 0 0 al,.boxO 7 0 2 aa],[none],none,[(0,0),(7,0),(38,0)]⟩)) .none)))))))
def zc:Ct:=.mut [.ptr,.rd,.rd] true false (.pair al (.pair ae (.pair (.int .i64) .unit))) aa (fun x=>cU x.1 x.2.1 x.2.2.1)
theorem F7:cS Tryz.prog 199 zc:=dL (E:={ T:=tab,G:=[(88,bb),(103,eM),(198,bi),(287,lZ),(298,pz),(299,pA),(300,gI)],V:=[12,54] }) (ar.views (ar.cons aR (ar.cons dN (ar.cons bg (ar.cons mJ (ar.cons sJ (ar.cons sK (ar.cons jB (ar.nil dJ))))))))) mixed (fn:=Tryz.f199) _ _ _ _ _ _ zb Tryz.func199 (by kernel_rfl) (fun x=>by kernel_rfl)
def jC:Ct:=.mut [.ptr,.rd,.rd] true true (.pair al (.pair ae (.pair (.int .i64) .unit))) aa (fun x=>cU x.1 x.2.1 x.2.2.1)
theorem fV:cS Tryz.prog 199 jC:=dL (E:={ T:=tab,G:=[(88,bb),(103,eM),(198,bi),(287,lZ),(298,pz),(299,pA),(300,gI)],V:=[12,54] }) (ar.views (ar.cons aR (ar.cons dN (ar.cons bg (ar.cons mJ (ar.cons sJ (ar.cons sK (ar.cons jB (ar.nil dJ))))))))) mixed (fn:=Tryz.f199) _ _ _ _ _ _ zb Tryz.func199 (by kernel_rfl) (fun x=>by kernel_rfl)
def qM (a1:ae.D):((List aa.D)×(Int×(Int×((List Int)×(Int×(Int×Unit))))))→Option (((List aa.D)×(Int×(Int×((List Int)×(Int×(Int×Unit))))))⊕((List aa.D)×(Int×(Int×((List Int)×(Int×(Int×Unit))))))):=fun s3 =>
 bif decide (s3.2.2.1 > 0) then (
(aN s3.2.2.2 2).bind fun y4 =>
(cU y4.2.1 a1 (IntKind.wrap .i64 ((IntKind.wrap .i64 (s3.2.1 + 1)) + y4.1))).bind fun y5 =>
 if (s3.1.length + [y5.1].length) * (24 * 22)≤aI then (
 some (.inl ((s3.1++[y5.1]),IntKind.wrap .i64 ((IntKind.wrap .i64 (s3.2.1 + 1)) + y4.1),IntKind.wrap .i64 (s3.2.2.1 - 1),y5.2.1))) else none)
 else (
 some (.inr s3))
def iA (a0:al.D) (a1:ae.D):Option ((List aa.D)×(al.D×Unit)) :=
(aN a0 5).bind fun y1 =>
(ay (qM a1) ([],0,y1.1,y1.2.1)).bind fun o6 =>
 some (o6.1,(o6.2.2.2,()))
def HP:Hints:=(n0 (n0 (n0 (nd (n0 (nd (.node none (some ⟨[.tmpO 5 0 (.slice aa),.tmp 6 (.int .i64),.tmp 7 (.int .i64),.box 0 0 al],[some 0],none,[]⟩) .none .none) .none)) .none))))
def zd:Ct:=.mut [.ptr,.rd] true true (.pair al (.pair ae .unit)) (.slice aa) (fun x=>iA x.1 x.2.1)
theorem jd:KC 176 zd:=mq (Ec aR (Ec fV En)) HP Tryz.func176
def sN:((List Int)×(Int×((List Int)×(Int×(Int×Unit)))))→Option (((List Int)×(Int×((List Int)×(Int×(Int×Unit)))))⊕((List Int)×(Int×((List Int)×(Int×(Int×Unit)))))):=fun s3 =>
 bif decide (s3.2.1 > 0) then (
(aG s3.2.2 ([0,1,2,1,3,5,(-1)]:List Int)).bind fun y4 =>
 if (s3.1.length + [y4.1].length) * (24 * 1)≤aI then (
 some (.inl ((s3.1++[y4.1]),IntKind.wrap .i64 (s3.2.1 - 1),y4.2.1))) else none)
 else (
 some (.inr s3))
def fu (a0:al.D):Option ((List Int)×(al.D×Unit)) :=
(aN a0 8).bind fun y1 =>
(ay (sN) ([],y1.1,y1.2.1)).bind fun o5 =>
 some (o5.1,(o5.2.2,()))
def ut:Hints:=(n0 (n0 (nd (n0 (nd (.node none (some ⟨[.tmpO 3 0 (.slice (.int .i64)),.tmp 4 (.int .i64),.box 0 0 al],[some 0],none,[]⟩) .none .none) .none)) .none)))
def Dh:Ct:=.mut [.ptr] true false (.pair al .unit) (.slice (.int .i64)) (fun x=>fu x.1)
theorem BU:cS Tryz.prog 150 Dh:=dL (E:={ T:=tab,G:=[(88,bb),(198,bi)],V:=[14] }) (ar.views (ar.cons aR (ar.cons bg (ar.nil dJ)))) mixed (fn:=Tryz.f150) _ _ _ _ _ _ ut Tryz.func150 (by kernel_rfl) (fun x=>by kernel_rfl)
def vQ:Ct:=.mut [.ptr] true true (.pair al .unit) (.slice (.int .i64)) (fun x=>fu x.1)
theorem kA:cS Tryz.prog 150 vQ:=dL (E:={ T:=tab,G:=[(88,bb),(198,bi)],V:=[14] }) (ar.views (ar.cons aR (ar.cons bg (ar.nil dJ)))) mixed (fn:=Tryz.f150) _ _ _ _ _ _ ut Tryz.func150 (by kernel_rfl) (fun x=>by kernel_rfl)
def eU (a0:ae.D):Option ae.D :=
 if (([]:List aj.D).length + a0.1.length) * (24 * 13)≤aI then (
 if (([]:List aB.D).length + a0.2.1.length) * (24 * 3)≤aI then (
 some (([]++a0.1),([]++a0.2.1),a0.2.2)) else none) else none
def AG:Ct:=.pure true true (.pair ae .unit) ae (fun x=>eU x.1)
theorem ci:KC 154 AG:=pq En .none Tryz.func154
def uu (a0:bR.D):Option bR.D :=
 if (([]:List ah.D).length + a0.2.2.2.2.2.2.1.length) * (24 * 7)≤aI then (
 some (a0.1,a0.2.1,a0.2.2.1,a0.2.2.2.1,a0.2.2.2.2.1,a0.2.2.2.2.2.1,([]++a0.2.2.2.2.2.2.1),())) else none
def AH:Ct:=.pure true true (.pair bR .unit) bR (fun x=>uu x.1)
theorem ze:KC 318 AH:=pq En .none Tryz.func318
def eN (a0:aa.D):Option aa.D :=
(uu a0.2.2.2.2.2.2.1).bind fun y1 =>
 some (a0.1,a0.2.1,a0.2.2.1,a0.2.2.2.1,a0.2.2.2.2.1,a0.2.2.2.2.2.1,y1,a0.2.2.2.2.2.2.2)
def zf:Ct:=.pure true true (.pair aa .unit) aa (fun x=>eN x.1)
theorem dq:KC 223 zf:=pq (Ec ze En) .none Tryz.func223
def qN (a0:(List aa.D)):((List aa.D)×Int)→Option (((List aa.D)×Int)⊕((List aa.D)×Int)):=fun s1 =>
 bif decide (s1.2 < (a0.length:Int)) then (
 idx a0 s1.2 fun x2 =>
(eN x2).bind fun y3 =>
 if (s1.1.length + [y3].length) * (24 * 22)≤aI then (
 some (.inl ((s1.1++[y3]),IntKind.wrap .i64 (s1.2 + 1)))) else none)
 else (
 some (.inr s1))
def cE (a0:(List aa.D)):Option (List aa.D) :=
(ay (qN a0) ([],0)).bind fun o4 =>
 some o4.1
def HQ:Hints:=(n0 (n0 (nd (n0 (nd (.node none (some ⟨[.tmpO 3 0 (.slice aa),.tmp 4 (.int .i64)],[some 0],none,[]⟩) .none .none) .none)) .none)))
def pX:Ct:=.pure true true (.pair (.slice aa) .unit) (.slice aa) (fun x=>cE x.1)
theorem cA:KC 155 pX:=pq (Ec dq En) HQ Tryz.func155
def mL (a0:ae.D) (a1:(List aa.D)) (a2:(List Int)):Option aK.D :=
(eU a0).bind fun y1 =>
(cE a1).bind fun y2 =>
 if (([]:List Int).length + a2.length) * (24 * 1)≤aI then (
 some (y1,y2,([]++a2),[],[],[],())) else none
def zg:Ct:=.pure true true (.pair ae (.pair (.slice aa) (.pair (.slice (.int .i64)) .unit))) aK (fun x=>mL x.1 x.2.1 x.2.2.1)
theorem je:KC 43 zg:=pq (Ec ci (Ec cA En)) .none Tryz.func43
def iq (a0:al.D):Option (aK.D×(al.D×Unit)) :=
(ip a0).bind fun y1 =>
(iA y1.2.1 y1.1).bind fun y2 =>
(fu y2.2.1).bind fun y3 =>
(fu y3.2.1).bind fun y4 =>
 if (y3.1.length + y4.1.length) * (24 * 1)≤aI then (
(mL y1.1 y2.1 (y3.1++y4.1)).bind fun y5 =>
 some (y5,y4.2)) else none
def JJ:Ct:=.mut [.ptr] true false (.pair al .unit) aK (fun x=>iq x.1)
theorem HR:KC 146 JJ:=mq (Ec je (Ec kA (Ec yZ (Ec jd En)))) .none Tryz.func146
def rf:Ct:=.mut [.ptr] true true (.pair al .unit) aK (fun x=>iq x.1)
theorem zh:KC 146 rf:=mq (Ec je (Ec kA (Ec yZ (Ec jd En)))) .none Tryz.func146
def oH (a0:dr.D):Option Bool :=
(((aP a0.1 1 6).bind fun y1 =>
 bif (!y1) then (
 some true)
 else (
(aP a0.2.1 0 2).bind fun y2 =>
 bif (!y2) then (
 some true)
 else (
(aP a0.2.2.2.2.1 0 99).bind fun y3 =>
 bif (!y3) then (
 some true)
 else (
(aP a0.2.2.2.2.2.1 0 2147483647).bind fun y4 =>
 bif (!y4) then (
 some true)
 else (
(aP a0.2.2.1 0 99).bind fun y5 =>
 bif (!y5) then (
 some true)
 else (
(aP a0.2.2.2.1 0 63).bind fun y6 =>
 bif (!y6) then (
 some true)
 else (
(aP a0.2.2.2.2.2.2.1 0 4).bind fun y7 =>
 some (!y7)))))))):Option Bool).bind fun o8 =>
 bif o8 then (
 some false)
 else (
((bif (a0.1 != 1) then (
 bif (a0.2.2.1 != 0) then (
 some true)
 else (
 bif (a0.2.2.2.1 != 0) then (
 some true)
 else (
 bif (a0.1 != 2) then (
 some (a0.2.2.2.2.2.2.1 != 0))
 else (
 some false))))
 else (
 bif (a0.1 != 2) then (
 some (a0.2.2.2.2.2.2.1 != 0))
 else (
 some false))):Option Bool).bind fun o9 =>
 bif o9 then (
 some false)
 else (
 bif (a0.1 != 3) then (
 bif (a0.1 != 4) then (
 some true)
 else (
 some (a0.2.2.2.2.1 == 0)))
 else (
 some (a0.2.2.2.2.1 == 0))))
def L6:Hints:=(n0 (nd (nd (cu ⟨[.tmp 42 .bool],[none],none,[]⟩) .none) (nd (nd (cu ⟨[.tmp 65 .bool],[none],none,[]⟩) .none) .none)))
def L7:Ct:=.pure true false (.pair dr .unit) .bool (fun x=>oH x.1)
theorem Bn:KC 328 L7:=pq (Ec cD En) L6 Tryz.func328
def jR (a0:bU.D):Option Bool :=
((bif (a0.1 == 0) then (
 some (a0.1 == 0))
 else (
 some (a0.1 == 3))):Option Bool).bind fun o1 =>
 bif o1 then (
 some (a0.2.1 == 0))
 else (
 bif (a0.1 == 1) then (
(aP a0.2.1 (-2147483647) 2147483647).bind fun y2 =>
 some y2)
 else (
 bif (a0.1 == 2) then (
(aP a0.2.1 0 8).bind fun y3 =>
 some y3)
 else (
 bif (a0.1 == 4) then (
(aP a0.2.1 0 8).bind fun y4 =>
 some y4)
 else (
 some false))))
def HS:Hints:=(n0 (nd (n0 (nd (nd (n0 (cu ⟨[.tmp 5 .bool],[none],none,[]⟩)) .none) .none)) .none))
def HT:Ct:=.pure true false (.pair bU .unit) .bool (fun x=>jR x.1)
theorem xT:KC 329 HT:=pq (Ec cD En) HS Tryz.func329
def ru (a0:bR.D):Option Bool :=
 bif (a0.2.2.1 == 0) then (
 bif (a0.2.2.2.1 == (-1)) then (
 bif (a0.2.2.2.2.1 == 0) then (
 bif (!a0.2.2.2.2.2.1) then (
 some ((a0.2.2.2.2.2.2.1.length:Int) == 0))
 else (
 some false))
 else (
 some false))
 else (
 some false))
 else (
 some false)
def HU:Ct:=.pure true false (.pair bR .unit) .bool (fun x=>ru x.1)
theorem F8:KC 361 HU:=pq En .none Tryz.func361
def cF (a0:ah.D):Option Bool :=
(((aP a0.2.2.1 1 99).bind fun y1 =>
 bif y1 then (
 some (a0.2.2.2.1 == (-1)))
 else (
 some false)):Option Bool).bind fun o2 =>
((bif (a0.2.2.1 == 0) then (
(aP a0.2.2.2.1 0 2).bind fun y3 =>
 some y3)
 else (
 some false)):Option Bool).bind fun o4 =>
(aP a0.2.2.2.2.1 0 2147483647).bind fun y5 =>
 bif (!y5) then (
 some false)
 else (
 bif (a0.1 == 1) then (
(aP a0.2.1 1 99).bind fun y6 =>
 bif y6 then (
 bif o2 then (
 bif (a0.2.2.2.2.2.1 == 0) then (
 some (!a0.2.2.2.2.2.2.1))
 else (
 some false))
 else (
 bif o4 then (
 bif (a0.2.2.2.2.2.1 == 0) then (
 some (!a0.2.2.2.2.2.2.1))
 else (
 some false))
 else (
 some false)))
 else (
 some false))
 else (
 bif (a0.1 == 2) then (
 bif (a0.2.1 == 0) then (
 bif o2 then (
(aP a0.2.2.2.2.2.1 1 4).bind fun y7 =>
 bif y7 then (
 bif decide (a0.2.2.2.2.1≤99) then (
 bif (a0.2.2.2.2.2.1 == 2) then (
 some true)
 else (
 bif (a0.2.2.2.2.1 == 0) then (
 some (!a0.2.2.2.2.2.2.1))
 else (
 some false)))
 else (
 some false))
 else (
 some false))
 else (
 some false))
 else (
 some false))
 else (
((bif (a0.1 == 3) then (
 some (a0.1 == 3))
 else (
 some (a0.1 == 4))):Option Bool).bind fun o8 =>
 bif o8 then (
 bif (a0.2.1 == 0) then (
 bif o4 then (
 bif (a0.2.2.2.2.2.1 == 0) then (
 some (!a0.2.2.2.2.2.2.1))
 else (
 some false))
 else (
 some false))
 else (
 some false))
 else (
((bif (a0.1 == 5) then (
 some (a0.1 == 5))
 else (
 some (a0.1 == 6))):Option Bool).bind fun o9 =>
 bif o9 then (
 bif (a0.2.1 == 0) then (
 bif o2 then (
 bif (a0.2.2.2.2.2.1 == 0) then (
 some (!a0.2.2.2.2.2.2.1))
 else (
 some false))
 else (
 some false))
 else (
 some false))
 else (
 some false)))))
def HV:Hints:=(n0 (nd (cu ⟨[.tmp 3 .bool],[none],none,[]⟩) (nd (cu ⟨[.tmp 4 .bool],[none],none,[]⟩) (n0 (nd (n0 (nd (n0 (n0 (n0 (n0 (nd (n0 (cu ⟨[.tmp 81 .bool],[none],none,[]⟩)) (n0 (nd (n0 (cu ⟨[.tmp 100 .bool],[none],none,[]⟩)) .none))))))) .none)) .none)))))
def zi:Ct:=.pure true false (.pair ah .unit) .bool (fun x=>cF x.1)
theorem dw:KC 158 zi:=pq (Ec cD En) HV Tryz.func158
def uv (a0:ah.D):Option Bool :=
((bif (a0.2.2.2.2.1 == (-1)) then (
 some (a0.1 != 2))
 else (
 some false)):Option Bool).bind fun o1 =>
((bif o1 then (
 some (a0.1,a0.2.1,a0.2.2.1,a0.2.2.2.1,0,a0.2.2.2.2.2))
 else (
 some a0)):Option ah.D).bind fun o2 =>
(cF o2).bind fun y3 =>
 some y3
def JK:Hints:=(n0 (nd (nd (cu ⟨[.tmp 10 .bool],[none],none,[]⟩) (cu ⟨[.box 1 0 ah],[none],none,[(1,0)]⟩)) .none))
def JL:Ct:=.pure true false (.pair ah .unit) .bool (fun x=>uv x.1)
theorem HW:KC 362 JL:=pq (Ec dw En) JK Tryz.func362
def kC (a0:bR.D):Int→Option (Int⊕(Int⊕Bool)):=fun s12 =>
 bif decide (s12 < (a0.2.2.2.2.2.2.1.length:Int)) then (
 idx a0.2.2.2.2.2.2.1 s12 fun x13 =>
(uv x13).bind fun y14 =>
 bif (!y14) then (
 some (.inr (.inr false)))
 else (
 some (.inl (IntKind.wrap .i64 (s12 + 1)))))
 else (
 some (.inr (.inl s12)))
def sO (a0:bR.D):Option Bool :=
((bif (a0.1 == 1) then (
 some (a0.1 == 1))
 else (
((bif (a0.1 == 2) then (
 some (a0.1 == 2))
 else (
((bif (a0.1 == 4) then (
 some (a0.1 == 4))
 else (
 some (a0.1 == 5))):Option Bool).bind fun o1 =>
 some o1)):Option Bool).bind fun o2 =>
 some o2)):Option Bool).bind fun o3 =>
 bif o3 then (
(ru a0).bind fun y4 =>
 bif y4 then (
 some (a0.2.1 == 0))
 else (
 some false))
 else (
 bif (a0.1 == 3) then (
(ru a0).bind fun y5 =>
 bif y5 then (
(aP a0.2.1 1 2147483647).bind fun y6 =>
 some y6)
 else (
 some false))
 else (
 bif (a0.1 == 6) then (
 bif (a0.2.1 == 0) then (
 bif (a0.2.2.2.2.1 == 0) then (
 bif (!a0.2.2.2.2.2.1) then (
 bif ((a0.2.2.2.2.2.2.1.length:Int) == 0) then (
(aP a0.2.2.1 1 99).bind fun y7 =>
 bif y7 then (
 bif (a0.2.2.2.1 == (-1)) then (
 some true)
 else (
 bif (a0.2.2.1 == 0) then (
(aP a0.2.2.2.1 0 2).bind fun y8 =>
 some y8)
 else (
 some false)))
 else (
 bif (a0.2.2.1 == 0) then (
(aP a0.2.2.2.1 0 2).bind fun y9 =>
 some y9)
 else (
 some false)))
 else (
 some false))
 else (
 some false))
 else (
 some false))
 else (
 some false))
 else (
 bif (a0.1 == 7) then (
 bif (a0.2.1 == 0) then (
 bif (a0.2.2.1 == 0) then (
 bif (a0.2.2.2.1 == (-1)) then (
 bif (!a0.2.2.2.2.2.1) then (
 bif ((a0.2.2.2.2.2.2.1.length:Int) == 0) then (
(aP a0.2.2.2.2.1 1 4).bind fun y10 =>
 some y10)
 else (
 some false))
 else (
 some false))
 else (
 some false))
 else (
 some false))
 else (
 some false))
 else (
 bif (a0.1 == 8) then (
(aP a0.2.1 0 99).bind fun y11 =>
 bif y11 then (
 bif (a0.2.2.1 == 0) then (
 bif (a0.2.2.2.1 == (-1)) then (
 bif (a0.2.2.2.2.1 == 0) then (
 some ((a0.2.2.2.2.2.2.1.length:Int) == 0))
 else (
 some false))
 else (
 some false))
 else (
 some false))
 else (
 some false))
 else (
 bif (a0.1 == 9) then (
(ay (kC a0) 0).bind fun o15 =>
 match o15 with
| .inl s16=>(
 bif (a0.2.1 == 0) then (
 bif (a0.2.2.1 == 0) then (
 bif (a0.2.2.2.1 == (-1)) then (
 bif (a0.2.2.2.2.1 == 0) then (
 bif (!a0.2.2.2.2.2.1) then (
(aP (a0.2.2.2.2.2.2.1.length:Int) 1 3).bind fun y18 =>
 some y18)
 else (
 some false))
 else (
 some false))
 else (
 some false))
 else (
 some false))
 else (
 some false))
| .inr o17=>(
 some o17))
 else (
 some false))))))
def L8:Hints:=(n0 (nd (n0 (nd (nd (n0 (.node (some ⟨[.tmp 6 .bool],[none],none,[]⟩) none .none (n0 (.node (some ⟨[.tmp 6 .bool],[none],none,[]⟩) none .none (n0 (cu ⟨[.tmp 6 .bool],[none],none,[]⟩)))))) (n0 (n0 (n0 (n0 (n0 (n0 (n0 (n0 (n0 (n0 (nd (nd (n0 (nd (.node none (some ⟨[.tmp 3 (.int .i64)],[some 1],some [.tmp 2 .bool],[]⟩) .none .none) .none)) .none) .none)))))))))))) .none)) .none))
def L9:Ct:=.pure true false (.pair bR .unit) .bool (fun x=>sO x.1)
theorem JM:KC 330 L9:=pq (Ec cD (Ec F8 (Ec HW En))) L8 Tryz.func330
def gD (a0:aa.D):Option Bool :=
(((aP a0.1 1 99).bind fun y1 =>
 bif (!y1) then (
 some true)
 else (
(aP a0.2.1 0 2).bind fun y2 =>
 bif (!y2) then (
 some true)
 else (
(aP a0.2.2.1 0 99).bind fun y3 =>
 bif (!y3) then (
 some true)
 else (
(aP a0.2.2.2.1 0 4).bind fun y4 =>
 bif (!y4) then (
 some true)
 else (
(aP a0.2.2.2.2.2.2.2.1 (-1) 9999).bind fun y5 =>
 bif (!y5) then (
 some true)
 else (
(aP a0.2.2.2.2.2.2.2.2.1 (-1) 2147483647).bind fun y6 =>
 some (!y6))))))):Option Bool).bind fun o7 =>
 bif o7 then (
 some false)
 else (
((bif (a0.2.2.2.1 == 0) then (
 bif (a0.2.2.1 == 0) then (
 some true)
 else (
 bif (a0.2.2.2.2.2.2.1.1 == 2) then (
 some (decide (a0.2.2.2.2.2.2.2.2.1 < 0)))
 else (
 some false)))
 else (
 bif (a0.2.2.2.2.2.2.1.1 == 2) then (
 some (decide (a0.2.2.2.2.2.2.2.2.1 < 0)))
 else (
 some false))):Option Bool).bind fun o8 =>
 bif o8 then (
 some false)
 else (
(oH a0.2.2.2.2.1).bind fun y9 =>
 bif y9 then (
(jR a0.2.2.2.2.2.1).bind fun y10 =>
 bif y10 then (
(sO a0.2.2.2.2.2.2.1).bind fun y11 =>
 bif y11 then (
(gj a0.2.2.2.2.2.2.1 a0.2.2.2.2.1.1).bind fun y12 =>
 some y12)
 else (
 some false))
 else (
 some false))
 else (
 some false)))
def F9:Hints:=(n0 (nd (nd (cu ⟨[.tmp 36 .bool],[none],none,[]⟩) .none) (nd (nd (cu ⟨[.tmp 55 .bool],[none],none,[]⟩) .none) .none)))
def Ga:Ct:=.pure true false (.pair aa .unit) .bool (fun x=>gD x.1)
theorem oI:KC 241 Ga:=pq (Ec cD (Ec Bn (Ec xT (Ec JM (Ec qL En))))) F9 Tryz.func241
def oJ (a0:aa.D) (a1:Int):Option Bool :=
 bif (a0.2.2.2.2.2.2.2.2.1 != 0) then (
 bif (a0.2.2.2.2.2.2.2.1 == (-1)) then (
 some true)
 else (
 some (decide (a0.2.2.2.2.2.2.2.1≥a1))))
 else (
 some false)
def Ma:Ct:=.pure true false (.pair aa (.pair (.int .i64) .unit)) .bool (fun x=>oJ x.1 x.2.1)
theorem Bo:KC 230 Ma:=pq En .none Tryz.func230
def EO (a0:aa.D) (a1:ah.D):Option Bool :=
 bif (a0.2.2.2.1 != 0) then (
 some true)
 else (
 bif (a0.2.2.1 == a1.2.1) then (
 some true)
 else (
 some (a0.2.2.1 == a1.2.2.1)))
def NX:Ct:=.pure true false (.pair aa (.pair ah .unit)) .bool (fun x=>EO x.1 x.2.1)
theorem Mb:KC 365 NX:=pq En .none Tryz.func365
def sP (a0:ae.D) (a1:Int):(Int×Int)→Option ((Int×Int)⊕(Int×Int)):=fun s1 =>
 bif decide (s1.2 < (a0.1.length:Int)) then (
((idx a0.1 s1.2 fun x2 =>
 bif (x2.2.2.2.1 == 2) then (
 idx a0.1 s1.2 fun x3 =>
 some (x3.2.2.1 == a1))
 else (
 some false)):Option Bool).bind fun o4 =>
((bif o4 then (
 some (IntKind.wrap .i64 (s1.1 + 1)))
 else (
 some s1.1)):Option Int).bind fun o5 =>
 some (.inl (o5,IntKind.wrap .i64 (s1.2 + 1))))
 else (
 some (.inr s1))
def uw (a0:ae.D) (a1:Int):Option Int :=
(ay (sP a0 a1) (0,0)).bind fun o6 =>
 some o6.1
def JN:Hints:=(n0 (n0 (nd (n0 (nd (.node none (some ⟨[.tmp 5 (.int .i64),.tmp 6 (.int .i64)],[some 0],none,[]⟩) (n0 (nd (nd (nd (cu ⟨[.tmp 30 .bool],[none],none,[]⟩) (cu ⟨[.tmp 5 (.int .i64)],[none],none,[]⟩)) .none) .none)) .none) .none)) .none)))
def JO:Ct:=.pure true false (.pair ae (.pair (.int .i64) .unit)) (.int .i64) (fun x=>uw x.1 x.2.1)
theorem HX:KC 385 JO:=pq En JN Tryz.func385
def sQ (a0:ae.D) (a1:Int):(Int×Int)→Option ((Int×Int)⊕(Int×Int)):=fun s1 =>
 bif decide (s1.2 < (a0.1.length:Int)) then (
((idx a0.1 s1.2 fun x2 =>
 bif (x2.2.2.2.1 == 2) then (
 idx a0.1 s1.2 fun x3 =>
 bif (x3.2.2.1 == a1) then (
 idx a0.1 s1.2 fun x4 =>
 some x4.2.2.2.2.2.2.2.2.2.2.2.2.1)
 else (
 some false))
 else (
 some false)):Option Bool).bind fun o5 =>
((bif o5 then (
 some (IntKind.wrap .i64 (s1.1 + 1)))
 else (
 some s1.1)):Option Int).bind fun o6 =>
 some (.inl (o6,IntKind.wrap .i64 (s1.2 + 1))))
 else (
 some (.inr s1))
def ux (a0:ae.D) (a1:Int):Option Int :=
(ay (sQ a0 a1) (0,0)).bind fun o7 =>
 some o7.1
def JP:Hints:=(n0 (n0 (nd (n0 (nd (.node none (some ⟨[.tmp 5 (.int .i64),.tmp 6 (.int .i64)],[some 0],none,[]⟩) (n0 (nd (nd (nd (cu ⟨[.tmp 38 .bool],[none],none,[]⟩) (cu ⟨[.tmp 5 (.int .i64)],[none],none,[]⟩)) .none) .none)) .none) .none)) .none)))
def JQ:Ct:=.pure true false (.pair ae (.pair (.int .i64) .unit)) (.int .i64) (fun x=>ux x.1 x.2.1)
theorem HY:KC 386 JQ:=pq En JP Tryz.func386
def wN (a0:ae.D) (a1:Int) (a2:bU.D):Option Bool :=
(((jR a2).bind fun y1 =>
 bif (!y1) then (
 some true)
 else (
(aP a1 0 (IntKind.wrap .i64 ((a0.2.1.length:Int) - 1))).bind fun y2 =>
 some (!y2))):Option Bool).bind fun o3 =>
 bif o3 then (
 some false)
 else (
 bif (a2.1 == 1) then (
 idx a0.2.1 a1 fun x4 =>
 some (decide (x4.1≤a2.2.1)))
 else (
 bif (a2.1 == 2) then (
(uw a0 a1).bind fun y5 =>
 some (decide (y5≥a2.2.1)))
 else (
 bif (a2.1 == 3) then (
 some (a0.2.2.1 == a1))
 else (
 bif (a2.1 == 4) then (
(ux a0 a1).bind fun y6 =>
 some (decide (y6≥a2.2.1)))
 else (
 some true)))))
def Mc:Hints:=(n0 (nd (nd (cu ⟨[.tmp 18 .bool],[none],none,[]⟩) .none) .none))
def Me:Ct:=.pure true false (.pair ae (.pair (.int .i64) (.pair bU .unit))) .bool (fun x=>wN x.1 x.2.1 x.2.2.1)
theorem JR:KC 366 Me:=pq (Ec cD (Ec xT (Ec HX (Ec HY En)))) Mc Tryz.func366
def kV (a0:ae.D) (a1:Int):Int→Option (Int⊕(Int⊕Int)):=fun s1 =>
 bif decide (s1 < (a0.1.length:Int)) then (
 idx a0.1 s1 fun x2 =>
 bif (x2.1 == a1) then (
 some (.inr (.inr s1)))
 else (
 some (.inl (IntKind.wrap .i64 (s1 + 1)))))
 else (
 some (.inr (.inl s1)))
def fB (a0:ae.D) (a1:Int):Option Int :=
(ay (kV a0 a1) 0).bind fun o3 =>
 match o3 with
| .inl s4=>(
 some (-1))
| .inr o5=>(
 some o5)
def HZ:Hints:=(n0 (nd (n0 (nd (.node none (some ⟨[.tmp 5 (.int .i64)],[some 0],some [.tmp 4 (.int .i64)],[]⟩) .none .none) .none)) .none))
def H0:Ct:=.pure true false (.pair ae (.pair (.int .i64) .unit)) (.int .i64) (fun x=>fB x.1 x.2.1)
theorem gb:KC 321 H0:=pq En HZ Tryz.func321
def jD (a0:ae.D) (a1:ah.D):Option Int :=
 bif (a1.2.2.1 == 0) then (
(aP a1.2.2.2.1 0 (IntKind.wrap .i64 ((a0.2.1.length:Int) - 1))).bind fun y1 =>
 bif (!y1) then (
 some (-1))
 else (
 some a1.2.2.2.1))
 else (
(fB a0 a1.2.2.1).bind fun y2 =>
 bif decide (y2 < 0) then (
 some (-1))
 else (
 idx a0.1 y2 fun x3 =>
 some x3.2.2.1))
def JS:Ct:=.pure true false (.pair ae (.pair ah .unit)) (.int .i64) (fun x=>jD x.1 x.2.1)
theorem zj:KC 339 JS:=pq (Ec cD (Ec gb En)) .none Tryz.func339
def kW (a0:ae.D) (a1:Int) (a2:dr.D) (a3:ah.D):Option Bool :=
(jD a0 a3).bind fun y1 =>
((bif (y1 == (-1)) then (
 some true)
 else (
 bif (a2.2.1 == 1) then (
 bif (y1 != a1) then (
 some true)
 else (
 bif (a2.2.1 == 2) then (
 some (y1 == a1))
 else (
 some false)))
 else (
 bif (a2.2.1 == 2) then (
 some (y1 == a1))
 else (
 some false)))):Option Bool).bind fun o2 =>
 bif o2 then (
 some false)
 else (
 bif (a2.2.2.2.2.1 == 0) then (
 some true)
 else (
 some (a2.2.2.2.2.1 == a3.2.2.1)))
def Di:Hints:=(n0 (n0 (nd (nd (cu ⟨[.tmp 34 .bool],[none],none,[]⟩) .none) .none)))
def Dj:Ct:=.pure true false (.pair ae (.pair (.int .i64) (.pair dr (.pair ah .unit)))) .bool (fun x=>kW x.1 x.2.1 x.2.2.1 x.2.2.2.1)
theorem BV:KC 387 Dj:=pq (Ec zj En) Di Tryz.func387
def ir (a0:ae.D) (a1:ah.D):Option aj.D :=
(fB a0 a1.2.1).bind fun y1 =>
((bif (a1.1 != 1) then (
 some true)
 else (
 some (decide (y1 < 0)))):Option Bool).bind fun o2 =>
 bif o2 then (
 some (0,0,0,0,0,0,0,0,0,0,0,false,false,()))
 else (
 idx a0.1 y1 fun x3 =>
 some x3)
def JT:Hints:=(n0 (n0 (nd (nd (cu ⟨[.tmp 16 .bool],[none],none,[]⟩) .none) .none)))
def JU:Ct:=.pure true false (.pair ae (.pair ah .unit)) aj (fun x=>ir x.1 x.2.1)
theorem sR:KC 327 JU:=pq (Ec gb En) JT Tryz.func327
def kX (a0:ae.D) (a1:dr.D) (a2:ah.D):Option Bool :=
 bif (a1.2.2.1 == 0) then (
(ir a0 a2).bind fun y1 =>
 let k2:Int:=IntKind.wrap .i64 (BitVec.ofInt (IntKind.bits .i64) y1.2.2.2.2.2.2.2.1 &&& BitVec.ofInt (IntKind.bits .i64) a1.2.2.2.1).toNat
 some (k2 == a1.2.2.2.1))
 else (
 bif (a1.2.2.1 == a2.2.1) then (
(ir a0 a2).bind fun y3 =>
 let k4:Int:=IntKind.wrap .i64 (BitVec.ofInt (IntKind.bits .i64) y3.2.2.2.2.2.2.2.1 &&& BitVec.ofInt (IntKind.bits .i64) a1.2.2.2.1).toNat
 some (k4 == a1.2.2.2.1))
 else (
 some false))
def Dk:Ct:=.pure true false (.pair ae (.pair dr (.pair ah .unit))) .bool (fun x=>kX x.1 x.2.1 x.2.2.1)
theorem BW:KC 388 Dk:=pq (Ec sR En) .none Tryz.func388
def rv (a0:ae.D) (a1:Int) (a2:dr.D) (a3:ah.D):Option Bool :=
(oH a2).bind fun y1 =>
 bif y1 then (
(cF a3).bind fun y2 =>
 bif y2 then (
 bif (a2.1 == a3.1) then (
(kW a0 a1 a2 a3).bind fun y3 =>
 bif y3 then (
(kX a0 a2 a3).bind fun y4 =>
 bif y4 then (
 bif decide (a3.2.2.2.2.1≥a2.2.2.2.2.2.1) then (
 bif (a2.2.2.2.2.2.2.1 == 0) then (
 some true)
 else (
 some (a2.2.2.2.2.2.2.1 == a3.2.2.2.2.2.1)))
 else (
 some false))
 else (
 some false))
 else (
 some false))
 else (
 some false))
 else (
 some false))
 else (
 some false)
def H1:Ct:=.pure true false (.pair ae (.pair (.int .i64) (.pair dr (.pair ah .unit)))) .bool (fun x=>rv x.1 x.2.1 x.2.2.1 x.2.2.2.1)
theorem Gb:KC 367 H1:=pq (Ec dw (Ec Bn (Ec BV (Ec BW En)))) .none Tryz.func367
def rZ (a0:ae.D) (a1:aa.D) (a2:ah.D):Option Bool :=
(gD a1).bind fun y1 =>
 bif y1 then (
(oJ a1 a0.2.2.2.1).bind fun y2 =>
 bif y2 then (
(EO a1 a2).bind fun y3 =>
 bif y3 then (
(wN a0 a1.2.1 a1.2.2.2.2.2.1).bind fun y4 =>
 bif y4 then (
(rv a0 a1.2.1 a1.2.2.2.2.1 a2).bind fun y5 =>
 some y5)
 else (
 some false))
 else (
 some false))
 else (
 some false))
 else (
 some false)
def NY:Ct:=.pure true false (.pair ae (.pair aa (.pair ah .unit))) .bool (fun x=>rZ x.1 x.2.1 x.2.2.1)
theorem Dm:KC 333 NY:=pq (Ec Bo (Ec oI (Ec Mb (Ec JR (Ec Gb En))))) .none Tryz.func333
def vR (a1:ae.D) (a2:(List aa.D)) (s5:(Int×(ah.D×(al.D×(Int×(Int×(Int×(Int×(Int×(Int×(Bool×Unit))))))))))):(Int×(Int×(Int×(Int×(Int×(Int×(Int×(Bool×Unit))))))))→Option ((Int×(Int×(Int×(Int×(Int×(Int×(Int×(Bool×Unit))))))))⊕((Int×(Int×(Int×(Int×(Int×(Int×(Int×(Bool×Unit))))))))⊕ah.D)):=fun s7 =>
 bif decide (s7.1 < (a2.length:Int)) then (
 idx a2 s7.1 fun x8 =>
(rZ a1 x8 s5.2.2.2).bind fun y9 =>
 bif y9 then (
 some (.inr (.inr s5.2.2.2)))
 else (
 some (.inl (IntKind.wrap .i64 (s7.1 + 1),s7.2))))
 else (
 some (.inr (.inl s7)))
def vS (a1:ae.D) (a2:(List aa.D)):(Int×(ah.D×(al.D×(Int×(Int×(Int×(Int×(Int×(Int×(Bool×Unit))))))))))→Option ((Int×(ah.D×(al.D×(Int×(Int×(Int×(Int×(Int×(Int×(Bool×Unit))))))))))⊕((Int×(ah.D×(al.D×(Int×(Int×(Int×(Int×(Int×(Int×(Bool×Unit))))))))))⊕(ah.D×((List Int)×(Int×(Int×Unit)))))):=fun s5 =>
 bif decide (s5.1 < 5) then (
(ay (vR a1 a2 s5) (0,s5.2.1)).bind fun o10 =>
 match o10 with
| .inl s11=>(
(d8 s5.2.2.1 a1).bind fun y13 =>
 some (.inl (IntKind.wrap .i64 (s5.1 + 1),s11.2,y13.2.1,y13.1)))
| .inr o12=>(
 some (.inr (.inr ((o12,s5.2.2.1))))))
 else (
 some (.inr (.inl s5)))
def kD (a0:al.D) (a1:ae.D) (a2:(List aa.D)):Option (ah.D×(al.D×Unit)) :=
(d8 a0 a1).bind fun y1 =>
(ay (vS a1 a2) (0,(0,0,0,0,0,0,false,()),y1.2.1,y1.1)).bind fun o14 =>
 match o14 with
| .inl s15=>(
 some (s15.2.2.2,(s15.2.2.1,())))
| .inr o16=>(
 some (o16.1,(o16.2,())))
def Gc:Hints:=(n0 (n0 (nd (n0 (nd (.node none (some ⟨[.tmp 8 (.int .i64),.box 6 0 ah,.box 0 0 al,.box 7 0 ah],[some 0],some [.box 6 0 ah,.box 0 0 al],[]⟩) (n0 (nd (nd (nd (n0 (nd (.node none (some ⟨[.tmp 9 (.int .i64),.box 6 0 ah],[some 2],some [.box 6 0 ah],[]⟩) .none .none) .none)) .none) .none) .none)) .none) .none)) .none)))
def xU:Ct:=.mut [.ptr,.rd,.rd] true true (.pair al (.pair ae (.pair (.slice aa) .unit))) ah (fun x=>kD x.1 x.2.1 x.2.2.1)
theorem vT:KC 286 xU:=mq (Ec mK (Ec Dm En)) Gc Tryz.func286
def vU (a1:ae.D) (a2:(List aa.D)):((List ah.D)×(Int×((List Int)×(Int×(Int×Unit)))))→Option (((List ah.D)×(Int×((List Int)×(Int×(Int×Unit)))))⊕((List ah.D)×(Int×((List Int)×(Int×(Int×Unit)))))):=fun s3 =>
 bif decide (s3.2.1 > 0) then (
(kD s3.2.2 a1 a2).bind fun y4 =>
 if (s3.1.length + [y4.1].length) * (24 * 7)≤aI then (
 some (.inl ((s3.1++[y4.1]),IntKind.wrap .i64 (s3.2.1 - 1),y4.2.1))) else none)
 else (
 some (.inr s3))
def pC (a0:al.D) (a1:ae.D) (a2:(List aa.D)):Option ((List ah.D)×(al.D×Unit)) :=
(aN a0 3).bind fun y1 =>
(ay (vU a1 a2) ([],IntKind.wrap .i64 (1 + y1.1),y1.2.1)).bind fun o5 =>
 some (o5.1,(o5.2.2,()))
def Gd:Hints:=(n0 (n0 (nd (n0 (nd (.node none (some ⟨[.tmpO 7 0 (.slice ah),.tmp 8 (.int .i64),.box 0 0 al],[some 0],none,[]⟩) .none .none) .none)) .none)))
def og:Ct:=.mut [.ptr,.rd,.rd] true true (.pair al (.pair ae (.pair (.slice aa) .unit))) (.slice ah) (fun x=>pC x.1 x.2.1 x.2.2.1)
theorem wO:KC 177 og:=mq (Ec aR (Ec vT En)) Gd Tryz.func177
def pD (a0:al.D) (a1:aK.D):Option (bm.D×(al.D×Unit)) :=
(aG a0 ([1,2,3,3,3,3,4]:List Int)).bind fun y1 =>
 bif (y1.1 == 1) then (
(aN y1.2.1 9).bind fun y2 =>
(cU y2.2.1 a1.1 (IntKind.wrap .i64 (1 + y2.1))).bind fun y3 =>
 some ((y1.1,y3.1,0,[],()),y3.2))
 else (
 bif (y1.1 == 2) then (
(aN y1.2.1 6).bind fun y4 =>
 some ((y1.1,(0,0,0,0,(0,0,0,0,0,0,0,()),(0,0,()),(0,0,0,0,0,false,[],()),0,0,()),IntKind.wrap .i64 (1 + y4.1),[],()),y4.2))
 else (
 bif (y1.1 == 3) then (
(pC y1.2.1 a1.1 a1.2.1).bind fun y5 =>
 some ((y1.1,(0,0,0,0,(0,0,0,0,0,0,0,()),(0,0,()),(0,0,0,0,0,false,[],()),0,0,()),0,y5.1,()),y5.2))
 else (
 some ((y1.1,(0,0,0,0,(0,0,0,0,0,0,0,()),(0,0,()),(0,0,0,0,0,false,[],()),0,0,()),0,[],()),y1.2))))
def oh:Ct:=.mut [.ptr,.rd] true true (.pair al (.pair aK .unit)) bm (fun x=>pD x.1 x.2.1)
theorem wQ:cS Tryz.prog 87 oh:=dL (E:={ T:=tab,G:=[(88,bb),(177,og),(198,bi),(199,jC)],V:=[7] }) (ar.views (ar.cons aR (ar.cons wO (ar.cons bg (ar.cons fV (ar.nil dJ)))))) mixed (fn:=Tryz.f87) _ _ _ _ _ _ .none Tryz.func87 (by kernel_rfl) (fun x=>by kernel_rfl)
def wR (a0:aF.D):Option aF.D :=
 if (([]:List ah.D).length + a0.2.2.2.2.2.1.length) * (24 * 7)≤aI then (
 some (a0.1,a0.2.1,a0.2.2.1,a0.2.2.2.1,a0.2.2.2.2.1,([]++a0.2.2.2.2.2.1),a0.2.2.2.2.2.2)) else none
def zk:Ct:=.pure true true (.pair aF .unit) aF (fun x=>wR x.1)
theorem yl:KC 317 zk:=pq En .none Tryz.func317
def oK (a0:(List aF.D)):((List aF.D)×Int)→Option (((List aF.D)×Int)⊕((List aF.D)×Int)):=fun s1 =>
 bif decide (s1.2 < (a0.length:Int)) then (
 idx a0 s1.2 fun x2 =>
(wR x2).bind fun y3 =>
 if (s1.1.length + [y3].length) * (24 * 14)≤aI then (
 some (.inl ((s1.1++[y3]),IntKind.wrap .i64 (s1.2 + 1)))) else none)
 else (
 some (.inr s1))
def kE (a0:(List aF.D)):Option (List aF.D) :=
(ay (oK a0) ([],0)).bind fun o4 =>
 some o4.1
def Ge:Hints:=(n0 (n0 (nd (n0 (nd (.node none (some ⟨[.tmpO 3 0 (.slice aF),.tmp 4 (.int .i64)],[some 0],none,[]⟩) .none .none) .none)) .none)))
def ym:Ct:=.pure true true (.pair (.slice aF) .unit) (.slice aF) (fun x=>kE x.1)
theorem mM:KC 222 ym:=pq (Ec yl En) Ge Tryz.func222
def mN (a0:aK.D):Option aK.D :=
(eU a0.1).bind fun y1 =>
(cE a0.2.1).bind fun y2 =>
 if (([]:List Int).length + a0.2.2.1.length) * (24 * 1)≤aI then (
 if (([]:List ai.D).length + a0.2.2.2.1.length) * (24 * 16)≤aI then (
 if (([]:List au.D).length + a0.2.2.2.2.1.length) * (24 * 23)≤aI then (
(kE a0.2.2.2.2.2.1).bind fun y3 =>
 some (y1,y2,([]++a0.2.2.1),([]++a0.2.2.2.1),([]++a0.2.2.2.2.1),y3,())) else none) else none) else none
def pY:Ct:=.pure true true (.pair aK .unit) aK (fun x=>mN x.1)
theorem ol:KC 97 pY:=pq (Ec ci (Ec cA (Ec mM En))) .none Tryz.func97
def jE (a0:aF.D):Int→Option (Int⊕(Int⊕Bool)):=fun s9 =>
 bif decide (s9 < (a0.2.2.2.2.2.1.length:Int)) then (
 idx a0.2.2.2.2.2.1 s9 fun x10 =>
(cF x10).bind fun y11 =>
 bif (!y11) then (
 some (.inr (.inr false)))
 else (
 some (.inl (IntKind.wrap .i64 (s9 + 1)))))
 else (
 some (.inr (.inl s9)))
def pZ (a0:aF.D):Option Bool :=
(((aP a0.1 1 99).bind fun y1 =>
 bif (!y1) then (
 some true)
 else (
(aP a0.2.1 0 2).bind fun y2 =>
 bif (!y2) then (
 some true)
 else (
(aP a0.2.2.2.1 1 5).bind fun y3 =>
 bif (!y3) then (
 some true)
 else (
(aP a0.2.2.1 0 (IntKind.wrap .i64 (a0.2.2.2.1 - 1))).bind fun y4 =>
 bif (!y4) then (
 some true)
 else (
(cF a0.2.2.2.2.1).bind fun y5 =>
 bif (!y5) then (
 some true)
 else (
 bif decide ((a0.2.2.2.2.2.1.length:Int) > 3) then (
 some true)
 else (
(aP a0.2.2.2.2.2.2.1 0 2147483647).bind fun y6 =>
 bif (!y6) then (
 some true)
 else (
(aP a0.2.2.2.2.2.2.2.1 0 4).bind fun y7 =>
 some (!y7))))))))):Option Bool).bind fun o8 =>
 bif o8 then (
 some false)
 else (
(ay (jE a0) 0).bind fun o12 =>
 match o12 with
| .inl s13=>(
 some true)
| .inr o14=>(
 some o14))
def JV:Hints:=(n0 (nd (nd (cu ⟨[.tmp 52 .bool],[none],none,[]⟩) .none) (nd (n0 (nd (.node none (some ⟨[.tmp 3 (.int .i64)],[some 0],some [.tmp 2 .bool],[]⟩) .none .none) .none)) .none)))
def JW:Ct:=.pure true false (.pair aF .unit) .bool (fun x=>pZ x.1)
theorem H2:KC 117 JW:=pq (Ec dw (Ec cD En)) JV Tryz.func117
def rz (a0:aj.D):Option Bool :=
(((aP a0.1 1 99).bind fun y1 =>
 bif (!y1) then (
 some true)
 else (
(aP a0.2.1 0 2).bind fun y2 =>
 bif (!y2) then (
 some true)
 else (
(aP a0.2.2.1 0 2).bind fun y3 =>
 bif (!y3) then (
 some true)
 else (
(aP a0.2.2.2.1 1 4).bind fun y4 =>
 bif (!y4) then (
 some true)
 else (
(aP a0.2.2.2.2.1 0 9999).bind fun y5 =>
 bif (!y5) then (
 some true)
 else (
(aP a0.2.2.2.2.2.1 0 999).bind fun y6 =>
 bif (!y6) then (
 some true)
 else (
(aP a0.2.2.2.2.2.2.1 0 999).bind fun y7 =>
 bif (!y7) then (
 some true)
 else (
(aP a0.2.2.2.2.2.2.2.1 0 63).bind fun y8 =>
 some (!y8))))))))):Option Bool).bind fun o9 =>
 bif o9 then (
 some false)
 else (
(((aP a0.2.2.2.2.2.2.2.2.1 0 2147483647).bind fun y10 =>
 bif (!y10) then (
 some true)
 else (
(aP a0.2.2.2.2.2.2.2.2.2.1 0 2147483647).bind fun y11 =>
 bif (!y11) then (
 some true)
 else (
(aP a0.2.2.2.2.2.2.2.2.2.2.1 0 2147483647).bind fun y12 =>
 some (!y12)))):Option Bool).bind fun o13 =>
 bif o13 then (
 some false)
 else (
 bif (a0.2.2.2.1 == 2) then (
 some true)
 else (
 bif (a0.2.2.1 == a0.2.1) then (
 bif (a0.2.2.2.2.2.2.2.2.1 == 0) then (
 bif (a0.2.2.2.2.2.2.2.2.2.1 == 0) then (
 bif (a0.2.2.2.2.2.2.2.2.2.2.1 == 0) then (
 bif (!a0.2.2.2.2.2.2.2.2.2.2.2.1) then (
 some (!a0.2.2.2.2.2.2.2.2.2.2.2.2.1))
 else (
 some false))
 else (
 some false))
 else (
 some false))
 else (
 some false))
 else (
 some false))))
def H3:Hints:=(n0 (nd (nd (cu ⟨[.tmp 48 .bool],[none],none,[]⟩) .none) (nd (nd (cu ⟨[.tmp 64 .bool],[none],none,[]⟩) .none) .none)))
def H4:Ct:=.pure true false (.pair aj .unit) .bool (fun x=>rz x.1)
theorem Gf:KC 239 H4:=pq (Ec cD En) H3 Tryz.func239
def uy (a0:aB.D):Option Bool :=
(aP a0.1 (-2147483647) 2147483647).bind fun y1 =>
 bif y1 then (
(aP a0.2.1 0 2147483647).bind fun y2 =>
 some y2)
 else (
 some false)
def JX:Ct:=.pure true false (.pair aB .unit) .bool (fun x=>uy x.1)
theorem H5:KC 240 JX:=pq (Ec cD En) .none Tryz.func240
def kY (a0:ae.D):Int→Option (Int⊕(Int⊕Bool)):=fun s5 =>
 bif decide (s5 < (a0.1.length:Int)) then (
 idx a0.1 s5 fun x6 =>
(((rz x6).bind fun y7 =>
 bif (!y7) then (
 some true)
 else (
 bif decide (s5 > 0) then (
 idx a0.1 (IntKind.wrap .i64 (s5 - 1)) fun x8 =>
 bif decide (x8.1≥x6.1) then (
 some true)
 else (
 bif decide (x6.2.1≥(a0.2.1.length:Int)) then (
 some true)
 else (
 bif decide (x6.2.2.1≥(a0.2.1.length:Int)) then (
 some true)
 else (
 some (decide (x6.2.2.2.2.1 > a0.2.2.2.1))))))
 else (
 bif decide (x6.2.1≥(a0.2.1.length:Int)) then (
 some true)
 else (
 bif decide (x6.2.2.1≥(a0.2.1.length:Int)) then (
 some true)
 else (
 some (decide (x6.2.2.2.2.1 > a0.2.2.2.1))))))):Option Bool).bind fun o9 =>
 bif o9 then (
 some (.inr (.inr false)))
 else (
 some (.inl (IntKind.wrap .i64 (s5 + 1)))))
 else (
 some (.inr (.inl s5)))
def kZ (a0:ae.D):Int→Option (Int⊕(Int⊕Bool)):=fun s13 =>
 bif decide (s13 < (a0.2.1.length:Int)) then (
 idx a0.2.1 s13 fun x14 =>
(uy x14).bind fun y15 =>
 bif (!y15) then (
 some (.inr (.inr false)))
 else (
 some (.inl (IntKind.wrap .i64 (s13 + 1)))))
 else (
 some (.inr (.inl s13)))
def dO (a0:ae.D):Option Bool :=
((bif decide ((a0.1.length:Int) > 8) then (
 some true)
 else (
(aP (a0.2.1.length:Int) 2 3).bind fun y1 =>
 bif (!y1) then (
 some true)
 else (
(aP a0.2.2.1 0 (IntKind.wrap .i64 ((a0.2.1.length:Int) - 1))).bind fun y2 =>
 bif (!y2) then (
 some true)
 else (
(aP a0.2.2.2.1 0 9999).bind fun y3 =>
 some (!y3))))):Option Bool).bind fun o4 =>
 bif o4 then (
 some false)
 else (
(ay (kY a0) 0).bind fun o10 =>
 match o10 with
| .inl s11=>(
(ay (kZ a0) 0).bind fun o16 =>
 match o16 with
| .inl s17=>(
 some true)
| .inr o18=>(
 some o18))
| .inr o12=>(
 some o12))
def H6:Hints:=(n0 (nd (nd (cu ⟨[.tmp 32 .bool],[none],none,[]⟩) .none) (nd (n0 (nd (.node none (some ⟨[.tmp 3 (.int .i64)],[some 0],some [.tmp 2 .bool],[]⟩) (n0 (nd (nd (n0 (nd (cu ⟨[.tmp 86 .bool],[none],none,[]⟩) .none)) .none) .none)) .none) .none)) (nd (n0 (nd (.node none (some ⟨[.tmp 5 (.int .i64)],[some 2],some [.tmp 2 .bool],[]⟩) .none .none) .none)) .none))))
def zl:Ct:=.pure true false (.pair ae .unit) .bool (fun x=>dO x.1)
theorem d9:KC 118 zl:=pq (Ec cD (Ec Gf (Ec H5 En))) H6 Tryz.func118
def la (a0:(List aa.D)):Int→Option (Int⊕(Int⊕Bool)):=fun s1 =>
 bif decide (s1 < (a0.length:Int)) then (
((idx a0 s1 fun x2 =>
(gD x2).bind fun y3 =>
 bif (!y3) then (
 some true)
 else (
 bif decide (s1 > 0) then (
 idx a0 (IntKind.wrap .i64 (s1 - 1)) fun x4 =>
 idx a0 s1 fun x5 =>
 some (decide (x4.1≥x5.1)))
 else (
 some false))):Option Bool).bind fun o6 =>
 bif o6 then (
 some (.inr (.inr false)))
 else (
 some (.inl (IntKind.wrap .i64 (s1 + 1)))))
 else (
 some (.inr (.inl s1)))
def gm (a0:(List aa.D)):Option Bool :=
(ay (la a0) 0).bind fun o7 =>
 match o7 with
| .inl s8=>(
 some (decide ((a0.length:Int)≤5)))
| .inr o9=>(
 some o9)
def H7:Hints:=(n0 (nd (n0 (nd (.node none (some ⟨[.tmp 3 (.int .i64)],[some 0],some [.tmp 2 .bool],[]⟩) (n0 (nd (nd (nd (cu ⟨[.tmp 33 .bool],[none],none,[]⟩) .none) .none) .none)) .none) .none)) .none))
def zm:Ct:=.pure true false (.pair (.slice aa) .unit) .bool (fun x=>gm x.1)
theorem lc:KC 119 zm:=pq (Ec oI En) H7 Tryz.func119
def jF (a0:aK.D):Int→Option (Int⊕(Int⊕Bool)):=fun s1 =>
 bif decide (s1 < (a0.2.2.2.2.2.1.length:Int)) then (
 idx a0.2.2.2.2.2.1 s1 fun x2 =>
(pZ x2).bind fun y3 =>
 bif (!y3) then (
 some (.inr (.inr false)))
 else (
 some (.inl (IntKind.wrap .i64 (s1 + 1)))))
 else (
 some (.inr (.inl s1)))
def uz (a0:aK.D):Option Bool :=
(ay (jF a0) 0).bind fun o4 =>
 match o4 with
| .inl s5=>(
(dO a0.1).bind fun y7 =>
 bif y7 then (
(gm a0.2.1).bind fun y8 =>
 some y8)
 else (
 some false))
| .inr o6=>(
 some o6)
def JY:Hints:=(n0 (nd (n0 (nd (.node none (some ⟨[.tmp 3 (.int .i64)],[some 0],some [.tmp 2 .bool],[]⟩) .none .none) .none)) .none))
def Bp:Ct:=.pure true false (.pair aK .unit) .bool (fun x=>uz x.1)
theorem H8:KC 18 Bp:=pq (Ec H2 (Ec d9 (Ec lc En))) JY Tryz.func18
def jS (a0:(List aa.D)) (a1:Int):Int→Option (Int⊕(Int⊕Int)):=fun s1 =>
 bif decide (s1 < (a0.length:Int)) then (
 idx a0 s1 fun x2 =>
 bif (x2.1 == a1) then (
 some (.inr (.inr s1)))
 else (
 some (.inl (IntKind.wrap .i64 (s1 + 1)))))
 else (
 some (.inr (.inl s1)))
def gE (a0:(List aa.D)) (a1:Int):Option Int :=
(ay (jS a0 a1) 0).bind fun o3 =>
 match o3 with
| .inl s4=>(
 some (-1))
| .inr o5=>(
 some o5)
def Gg:Hints:=(n0 (nd (n0 (nd (.node none (some ⟨[.tmp 5 (.int .i64)],[some 0],some [.tmp 4 (.int .i64)],[]⟩) .none .none) .none)) .none))
def xV:Ct:=.pure true false (.pair (.slice aa) (.pair (.int .i64) .unit)) (.int .i64) (fun x=>gE x.1 x.2.1)
theorem jT:KC 224 xV:=pq En Gg Tryz.func224
def le (a0:(List aa.D)) (a1:aa.D):Int→Option (Int⊕Int):=fun s1 =>
((bif decide (s1 < (a0.length:Int)) then (
 idx a0 s1 fun x2 =>
 some (decide (x2.1 < a1.1)))
 else (
 some false)):Option Bool).bind fun o3 =>
 bif o3 then (
 some (.inl (IntKind.wrap .i64 (s1 + 1))))
 else (
 some (.inr s1))
def rA (a0:(List aa.D)) (a1:aa.D):Option ((List aa.D)×(Bool×Unit)) :=
(ay (le a0 a1) 0).bind fun o4 =>
 if 0≤(0:Int) then (if (0:Int)≤o4 then (if o4≤(a0.length:Int) then (
(cE ((a0.take o4.toNat).drop (0:Int).toNat)).bind fun y5 =>
(eN a1).bind fun y6 =>
 if (y5.length + [y6].length) * (24 * 22)≤aI then (
 if 0≤o4 then (if o4≤(a0.length:Int) then (if (a0.length:Int)≤(a0.length:Int) then (
(cE ((a0.take (a0.length:Int).toNat).drop o4.toNat)).bind fun y7 =>
 if ((y5++[y6]).length + y7.length) * (24 * 22)≤aI then (
(((gE a0 a1.1).bind fun y8 =>
 bif decide (y8≥0) then (
 some true)
 else (
(gm ((y5++[y6])++y7)).bind fun y9 =>
 some (!y9))):Option Bool).bind fun o10 =>
 bif o10 then (
(cE a0).bind fun y11 =>
 some (y11,false,()))
 else (
 some (((y5++[y6])++y7),true,()))) else none) else none) else none) else none) else none) else none) else none) else none
def H9:Hints:=(n0 (n0 (nd (nd (.node none (some ⟨[.tmp 6 (.int .i64)],[some 0],none,[]⟩) (nd (nd (cu ⟨[.tmp 21 .bool],[none],none,[]⟩) .none) .none) .none) .none) (n0 (n0 (n0 (nd (nd (cu ⟨[.tmp 48 .bool],[none],none,[]⟩) .none) .none)))))))
def p8:Ct:=.pure false true (.pair (.slice aa) (.pair aa .unit)) (.pair (.slice aa) (.pair .bool .unit)) (fun x=>rA x.1 x.2.1)
theorem yn:KC 98 p8:=pq (Ec lc (Ec cA (Ec dq (Ec jT En)))) H9 Tryz.func98
def Ar (a0:(List aa.D)) (a1:Int):Option ((List aa.D)×(Bool×Unit)) :=
(gE a0 a1).bind fun y1 =>
 bif decide (y1 < 0) then (
(cE a0).bind fun y2 =>
 some (y2,false,()))
 else (
 if 0≤(0:Int) then (if (0:Int)≤y1 then (if y1≤(a0.length:Int) then (
(cE ((a0.take y1.toNat).drop (0:Int).toNat)).bind fun y3 =>
 if 0≤(IntKind.wrap .i64 (y1 + 1)) then (if (IntKind.wrap .i64 (y1 + 1))≤(a0.length:Int) then (if (a0.length:Int)≤(a0.length:Int) then (
(cE ((a0.take (a0.length:Int).toNat).drop (IntKind.wrap .i64 (y1 + 1)).toNat)).bind fun y4 =>
 if (y3.length + y4.length) * (24 * 22)≤aI then (
 some ((y3++y4),true,())) else none) else none) else none) else none) else none) else none) else none)
def uA:Ct:=.pure false true (.pair (.slice aa) (.pair (.int .i64) .unit)) (.pair (.slice aa) (.pair .bool .unit)) (fun x=>Ar x.1 x.2.1)
theorem BX:KC 99 uA:=pq (Ec cA (Ec jT En)) .none Tryz.func99
def lg (a0:(List ah.D)):Int→Option (Int⊕(Int⊕Bool)):=fun s1 =>
 bif decide (s1 < (a0.length:Int)) then (
 idx a0 s1 fun x2 =>
(cF x2).bind fun y3 =>
 bif (!y3) then (
 some (.inr (.inr false)))
 else (
 some (.inl (IntKind.wrap .i64 (s1 + 1)))))
 else (
 some (.inr (.inl s1)))
def mO (a0:(List ah.D)):Option Bool :=
(ay (lg a0) 0).bind fun o4 =>
 match o4 with
| .inl s5=>(
 some (decide ((a0.length:Int)≤4)))
| .inr o6=>(
 some o6)
def Ia:Hints:=(n0 (nd (n0 (nd (.node none (some ⟨[.tmp 3 (.int .i64)],[some 0],some [.tmp 2 .bool],[]⟩) .none .none) .none)) .none))
def zn:Ct:=.pure true false (.pair (.slice ah) .unit) .bool (fun x=>mO x.1)
theorem xW:KC 78 zn:=pq (Ec dw En) Ia Tryz.func78
def jU (a0:br.D):Option br.D :=
 if (([]:List ah.D).length + a0.1.length) * (24 * 7)≤aI then (
(cE a0.2.1).bind fun y1 =>
 if (([]:List Int).length + a0.2.2.1.length) * (24 * 1)≤aI then (
(kE a0.2.2.2.1).bind fun y2 =>
 some (([]++a0.1),y1,([]++a0.2.2.1),y2,())) else none) else none
def zo:Ct:=.pure true true (.pair br .unit) br (fun x=>jU x.1)
theorem oq:KC 173 zo:=pq (Ec cA (Ec mM En)) .none Tryz.func173
def uB (a0:(List Int)) (a1:Int):Int→Option (Int⊕(Int⊕Bool)):=fun s1 =>
 bif decide (s1 < (a0.length:Int)) then (
 idx a0 s1 fun x2 =>
 bif (x2 == a1) then (
 some (.inr (.inr true)))
 else (
 some (.inl (IntKind.wrap .i64 (s1 + 1)))))
 else (
 some (.inr (.inl s1)))
def vV (a0:(List Int)) (a1:Int):Option Bool :=
(ay (uB a0 a1) 0).bind fun o3 =>
 match o3 with
| .inl s4=>(
 some false)
| .inr o5=>(
 some o5)
def PG:Hints:=(n0 (nd (n0 (nd (.node none (some ⟨[.tmp 5 (.int .i64)],[some 0],some [.tmp 4 .bool],[]⟩) .none .none) .none)) .none))
def PH:Ct:=.pure true false (.pair (.slice (.int .i64)) (.pair (.int .i64) .unit)) .bool (fun x=>vV x.1 x.2.1)
theorem zp:KC 324 PH:=pq En PG Tryz.func324
def lh (a0:ae.D) (a1:(List aa.D)) (a2:ah.D) (a3:(List Int)):((List Int)×(Int×Int))→Option (((List Int)×(Int×Int))⊕((List Int)×(Int×Int))):=fun s1 =>
 bif decide (s1.2.2 < (a1.length:Int)) then (
((((idx a1 s1.2.2 fun x2 =>
(vV a3 x2.1).bind fun y3 =>
 bif y3 then (
 some true)
 else (
 idx a1 s1.2.2 fun x4 =>
(rZ a0 x4 a2).bind fun y5 =>
 bif (!y5) then (
 some true)
 else (
 idx a1 s1.2.2 fun x6 =>
 some (decide (x6.2.2.2.1 > s1.2.1))))):Option Bool).bind fun o7 =>
 bif o7 then (
 some (s1.1,s1.2.1))
 else (
 idx a1 s1.2.2 fun x8 =>
((bif decide (x8.2.2.2.1 < s1.2.1) then (
 idx a1 s1.2.2 fun x9 =>
 some ([],x9.2.2.2.1))
 else (
 some (s1.1,s1.2.1))):Option ((List Int)×Int)).bind fun o10 =>
 idx a1 s1.2.2 fun x11 =>
 if (o10.1.length + [x11.1].length) * (24 * 1)≤aI then (
 some ((o10.1++[x11.1]),o10.2)) else none)):Option ((List Int)×Int)).bind fun o12 =>
 some (.inl (o12.1,o12.2,IntKind.wrap .i64 (s1.2.2 + 1))))
 else (
 some (.inr s1))
def rB (a0:ae.D) (a1:(List aa.D)) (a2:ah.D) (a3:(List Int)):Option (List Int) :=
(ay (lh a0 a1 a2 a3) ([],5,0)).bind fun o13 =>
 some o13.1
def Ib:Hints:=(n0 (n0 (n0 (nd (n0 (nd (.node none (some ⟨[.tmpO 9 0 (.slice (.int .i64)),.tmp 10 (.int .i64),.tmp 11 (.int .i64)],[some 0],none,[]⟩) (n0 (nd (.node (some ⟨[.tmpO 9 1 (.slice (.int .i64)),.tmp 10 (.int .i64)],[none],none,[(9,0)]⟩) none (nd (nd (cu ⟨[.tmp 44 .bool],[none],none,[]⟩) .none) (nd (n0 (cu ⟨[.tmpO 9 1 (.slice (.int .i64)),.tmp 10 (.int .i64)],[none],none,[(9,0)]⟩)) .none)) .none) .none)) .none) .none)) .none))))
def p9:Ct:=.pure true true (.pair ae (.pair (.slice aa) (.pair ah (.pair (.slice (.int .i64)) .unit)))) (.slice (.int .i64)) (fun x=>rB x.1 x.2.1 x.2.2.1 x.2.2.2.1)
theorem yo:KC 265 p9:=pq (Ec zp (Ec Dm En)) Ib Tryz.func265
def vW (a0:ah.D):Option Bool :=
 bif (a0.2.2.2.2.1 == 0) then (
 some (a0.1 != 2))
 else (
 some false)
def FS:Ct:=.pure true false (.pair ah .unit) .bool (fun x=>vW x.1)
theorem Dn:KC 266 FS:=pq En .none Tryz.func266
def vX (a0:(List Int)) (a1:Int):Option (Int×((List Int)×Unit)) :=
((bif decide (a1 < 2) then (
 some true)
 else (
 some ((a0.length:Int) == 0))):Option Bool).bind fun o1 =>
 bif o1 then (
 if (([]:List Int).length + a0.length) * (24 * 1)≤aI then (
 some (0,([]++a0),())) else none)
 else (
 idx a0 0 fun x2 =>
 if a1=0 then none else (
((bif decide ((x2.tmod a1) < 0) then (
 some (IntKind.wrap .i64 ((x2.tmod a1) + a1)))
 else (
 some (x2.tmod a1))):Option Int).bind fun o3 =>
 if 0≤(1:Int) then (if (1:Int)≤(a0.length:Int) then (if (a0.length:Int)≤(a0.length:Int) then (
 if (([]:List Int).length + ((a0.take (a0.length:Int).toNat).drop (1:Int).toNat).length) * (24 * 1)≤aI then (
 some (o3,([]++((a0.take (a0.length:Int).toNat).drop (1:Int).toNat)),())) else none) else none) else none) else none))
def NZ:Hints:=(n0 (nd (nd (cu ⟨[.tmp 13 .bool],[none],none,[]⟩) .none) (n0 (nd (n0 (cu ⟨[.tmp 6 (.int .i64)],[none],none,[]⟩)) .none))))
def uC:Ct:=.pure false true (.pair (.slice (.int .i64)) (.pair (.int .i64) .unit)) (.pair (.int .i64) (.pair (.slice (.int .i64)) .unit)) (fun x=>vX x.1 x.2.1)
theorem sS:KC 267 uC:=pq En NZ Tryz.func267
def fO (a0:Int) (a1:Int):Option Int :=
((bif decide (a1 < a0) then (
 some a1)
 else (
 some a0)):Option Int).bind fun o1 =>
 bif decide (o1 < 0) then (
 some 0)
 else (
 some o1)
def N0:Hints:=(n0 (n0 (nd (n0 (cu ⟨[.tmp 5 (.int .i64)],[none],none,[]⟩)) .none)))
def N1:Ct:=.pure true false bU (.int .i64) (fun x=>fO x.1 x.2.1)
theorem iB:KC 334 N1:=pq En N0 Tryz.func334
def oL (a0:ah.D) (a1:Int):Option ah.D :=
(fO a1 2147483647).bind fun y1 =>
 some (a0.1,a0.2.1,a0.2.2.1,a0.2.2.2.1,y1,a0.2.2.2.2.2)
def Mf:Ct:=.pure true false (.pair ah (.pair (.int .i64) .unit)) ah (fun x=>oL x.1 x.2.1)
theorem Bq:KC 335 Mf:=pq (Ec iB En) .none Tryz.func335
def vl (a0:bR.D) (a1:ah.D):((List ah.D)×Int)→Option (((List ah.D)×Int)⊕((List ah.D)×Int)):=fun s1 =>
((bif decide (s1.2 < (a0.2.2.2.2.2.2.1.length:Int)) then (
 some (a0.1 == 9))
 else (
 some false)):Option Bool).bind fun o2 =>
 bif o2 then (
 idx a0.2.2.2.2.2.2.1 s1.2 fun x3 =>
((bif (x3.2.2.2.2.1 == (-1)) then (
(fO a1.2.2.2.2.1 2147483647).bind fun y4 =>
 some (x3.1,x3.2.1,x3.2.2.1,x3.2.2.2.1,y4,x3.2.2.2.2.2))
 else (
 some x3)):Option ah.D).bind fun o5 =>
 if (s1.1.length + [o5].length) * (24 * 7)≤aI then (
 some (.inl ((s1.1++[o5]),IntKind.wrap .i64 (s1.2 + 1)))) else none)
 else (
 some (.inr s1))
def sU (a0:bR.D) (a1:ah.D):Option (List ah.D) :=
(ay (vl a0 a1) ([],0)).bind fun o6 =>
 some o6.1
def Mg:Hints:=(n0 (n0 (nd (n0 (nd (.node none (some ⟨[.tmpO 5 0 (.slice ah),.tmp 6 (.int .i64)],[some 0],none,[]⟩) (nd (nd (cu ⟨[.tmp 18 .bool],[none],none,[]⟩) .none) (nd (nd (n0 (nd (n0 (cu ⟨[.box 7 0 ah],[none],none,[(7,0)]⟩)) .none)) .none) .none)) .none) .none)) .none)))
def BY:Ct:=.pure true true (.pair bR (.pair ah .unit)) (.slice ah) (fun x=>sU x.1 x.2.1)
theorem AI:KC 336 BY:=pq (Ec iB En) Mg Tryz.func336
def dP (a0:Int):Option Int :=
 bif decide (a0 > 2147483647) then (
 some 2147483647)
 else (
 bif decide (a0 < (-2147483647)) then (
 some (-2147483647))
 else (
 some a0))
def Mh:Ct:=.pure true false (.pair (.int .i64) .unit) (.int .i64) (fun x=>dP x.1)
theorem pE:KC 391 Mh:=pq En .none Tryz.func391
def eY (a0:Int) (a1:Int):Option Int :=
(dP a0).bind fun y1 =>
(dP a1).bind fun y2 =>
(dP (IntKind.wrap .i64 (y1 + y2))).bind fun y3 =>
 some y3
def N2:Ct:=.pure true false bU (.int .i64) (fun x=>eY x.1 x.2.1)
theorem rC:KC 383 N2:=pq (Ec pE En) .none Tryz.func383
def BZ (a0:Int):Option Int :=
(dP a0).bind fun y1 =>
(dP (IntKind.wrap .i64 (2 * y1))).bind fun y2 =>
 some y2
def Mi:Ct:=.pure true false (.pair (.int .i64) .unit) (.int .i64) (fun x=>BZ x.1)
theorem JZ:KC 389 Mi:=pq (Ec pE En) .none Tryz.func389
def EP (a0:Int):Option Int :=
(dP a0).bind fun y1 =>
 if 2=0 then none else (
 some (IntKind.wrap .i64 (y1.tdiv 2)))
def N3:Ct:=.pure true false (.pair (.int .i64) .unit) (.int .i64) (fun x=>EP x.1)
theorem Mj:KC 390 N3:=pq (Ec pE En) .none Tryz.func390
def uD (a0:bR.D) (a1:Int):Option Int :=
(fO a1 2147483647).bind fun y1 =>
 bif (a0.1 == 1) then (
 some 0)
 else (
 bif (a0.1 == 3) then (
(eY y1 a0.2.1).bind fun y2 =>
 some y2)
 else (
 bif (a0.1 == 4) then (
(BZ y1).bind fun y3 =>
 some y3)
 else (
 bif (a0.1 == 5) then (
(EP y1).bind fun y4 =>
 some y4)
 else (
 some y1))))
def J0:Ct:=.pure true false (.pair bR (.pair (.int .i64) .unit)) (.int .i64) (fun x=>uD x.1 x.2.1)
theorem Id:KC 368 J0:=pq (Ec iB (Ec rC (Ec JZ (Ec Mj En)))) .none Tryz.func368
def uE (a0:bR.D) (a1:ah.D):Option ah.D :=
((bif (a0.1 == 3) then (
 some (a0.1 == 3))
 else (
((bif (a0.1 == 4) then (
 some (a0.1 == 4))
 else (
 some (a0.1 == 5))):Option Bool).bind fun o1 =>
 some o1)):Option Bool).bind fun o2 =>
 bif o2 then (
(uD a0 a1.2.2.2.2.1).bind fun y3 =>
(oL a1 y3).bind fun y4 =>
 some y4)
 else (
 bif (a0.1 == 6) then (
 some (a1.1,a1.2.1,a0.2.2.1,a0.2.2.2.1,a1.2.2.2.2))
 else (
 bif (a0.1 == 7) then (
 bif (a0.2.2.2.2.1 != 2) then (
 some (a1.1,a1.2.1,a1.2.2.1,a1.2.2.2.1,0,a0.2.2.2.2.1,false,()))
 else (
 some (a1.1,a1.2.1,a1.2.2.1,a1.2.2.2.1,a1.2.2.2.2.1,a0.2.2.2.2.1,a1.2.2.2.2.2.2)))
 else (
 bif (a0.1 == 8) then (
 bif (a1.2.2.2.2.2.1 == 2) then (
(fO (IntKind.wrap .i64 (a1.2.2.2.2.1 + a0.2.1)) 99).bind fun y5 =>
 bif a1.2.2.2.2.2.2.1 then (
 some (a1.1,a1.2.1,a1.2.2.1,a1.2.2.2.1,y5,a1.2.2.2.2.2.1,true,()))
 else (
 some (a1.1,a1.2.1,a1.2.2.1,a1.2.2.2.1,y5,a1.2.2.2.2.2.1,a0.2.2.2.2.2.1,())))
 else (
 some a1))
 else (
 some a1))))
def J1:Hints:=(n0 (nd (n0 (nd (nd (n0 (.node (some ⟨[.tmp 7 .bool],[none],none,[]⟩) none .none (n0 (cu ⟨[.tmp 7 .bool],[none],none,[]⟩)))) .none) .none)) .none))
def J2:Ct:=.pure true false (.pair bR (.pair ah .unit)) ah (fun x=>uE x.1 x.2.1)
theorem Ie:KC 337 J2:=pq (Ec iB (Ec Bq (Ec Id En))) J1 Tryz.func337
def jV (a0:Int) (a1:Int):Option Int :=
(dP a0).bind fun y1 =>
(dP a1).bind fun y2 =>
(dP (IntKind.wrap .i64 (y1 - y2))).bind fun y3 =>
 some y3
def N4:Ct:=.pure true false bU (.int .i64) (fun x=>jV x.1 x.2.1)
theorem rD:KC 369 N4:=pq (Ec pE En) .none Tryz.func369
def wT (a0:aa.D) (a1:Int):Option aa.D :=
(eN a0).bind fun y1 =>
 bif (a0.2.2.2.2.2.2.1.1 == 2) then (
(jV a0.2.2.2.2.2.2.2.2.1 a1).bind fun y2 =>
(fO y2 2147483647).bind fun y3 =>
 some (y1.1,y1.2.1,y1.2.2.1,y1.2.2.2.1,y1.2.2.2.2.1,y1.2.2.2.2.2.1,y1.2.2.2.2.2.2.1,y1.2.2.2.2.2.2.2.1,y3,()))
 else (
 bif decide (a0.2.2.2.2.2.2.2.2.1 > 0) then (
 some (y1.1,y1.2.1,y1.2.2.1,y1.2.2.2.1,y1.2.2.2.2.1,y1.2.2.2.2.2.1,y1.2.2.2.2.2.2.1,y1.2.2.2.2.2.2.2.1,IntKind.wrap .i64 (a0.2.2.2.2.2.2.2.2.1 - 1),()))
 else (
 some y1))
def B0:Ct:=.pure true true (.pair aa (.pair (.int .i64) .unit)) aa (fun x=>wT x.1 x.2.1)
theorem AJ:KC 338 B0:=pq (Ec dq (Ec iB (Ec rD En))) .none Tryz.func338
def pF (o13:((List ah.D)×Int)):((List ah.D)×Int)→Option (((List ah.D)×Int)⊕((List ah.D)×Int)):=fun s14 =>
 bif decide (s14.2 < (o13.1.length:Int)) then (
((idx o13.1 s14.2 fun _ =>
(o13.1[(s14.2:Int).toNat]?).bind fun x15 =>
(cF x15).bind fun y16 =>
 bif y16 then (
 idx o13.1 s14.2 fun _ =>
(o13.1[(s14.2:Int).toNat]?).bind fun x17 =>
(vW x17).bind fun y18 =>
 some (!y18))
 else (
 some false)):Option Bool).bind fun o19 =>
((bif o19 then (
 idx o13.1 s14.2 fun _ =>
(o13.1[(s14.2:Int).toNat]?).bind fun x20 =>
 if (s14.1.length + [x20].length) * (24 * 7)≤aI then (
 some (s14.1++[x20])) else none)
 else (
 some s14.1)):Option (List ah.D)).bind fun o21 =>
 some (.inl (o21,IntKind.wrap .i64 (s14.2 + 1))))
 else (
 some (.inr s14))
def sV (a0:aa.D) (a1:ah.D):Option ((List ah.D)×(Int×(aa.D×Unit))) :=
(((gD a0).bind fun y1 =>
 bif (!y1) then (
 some true)
 else (
(cF a1).bind fun y2 =>
 bif (!y2) then (
 some true)
 else (
(gj a0.2.2.2.2.2.2.1 a1.1).bind fun y3 =>
 some (!y3)))):Option Bool).bind fun o4 =>
 bif o4 then (
(eN a0).bind fun y5 =>
 some ([a1],0,y5,()))
 else (
((bif (a0.2.2.2.2.2.2.1.1 == 1) then (
((bif (a1.1 == 1) then (
 some a1.2.2.2.2.1)
 else (
 some 0)):Option Int).bind fun o6 =>
 some ([],o6))
 else (
((bif (a0.2.2.2.2.2.2.1.1 == 2) then (
(fO a1.2.2.2.2.1 a0.2.2.2.2.2.2.2.2.1).bind fun y7 =>
(oL a1 (IntKind.wrap .i64 (a1.2.2.2.2.1 - y7))).bind fun y8 =>
 if (([]:List ah.D).length + [y8].length) * (24 * 7)≤aI then (
 some (([]++[y8]),y7)) else none)
 else (
((bif (a0.2.2.2.2.2.2.1.1 == 9) then (
(sU a0.2.2.2.2.2.2.1 a1).bind fun y9 =>
 some y9)
 else (
(uE a0.2.2.2.2.2.2.1 a1).bind fun y10 =>
 if (([]:List ah.D).length + [y10].length) * (24 * 7)≤aI then (
 some ([]++[y10])) else none)):Option (List ah.D)).bind fun o11 =>
 some (o11,0))):Option ((List ah.D)×Int)).bind fun o12 =>
 some o12)):Option ((List ah.D)×Int)).bind fun o13 =>
(ay (pF o13) ([],0)).bind fun o22 =>
(wT a0 o13.2).bind fun y23 =>
 some (o22.1,o13.2,y23,()))
def Mk:Hints:=(n0 (nd (nd (cu ⟨[.tmp 26 .bool],[none],none,[]⟩) .none) (n0 (n0 (nd (n0 (nd (n0 (.node (some ⟨[.tmpO 7 0 (.slice ah),.tmp 8 (.int .i64)],[none],none,[(31,0)]⟩) none (n0 (cu ⟨[.tmp 8 (.int .i64)],[none],none,[]⟩)) (n0 (.node (some ⟨[.tmpO 7 0 (.slice ah),.tmp 8 (.int .i64)],[none],none,[(31,0)]⟩) none .none (n0 (cu ⟨[.tmpO 7 0 (.slice ah)],[none],none,[(31,0)]⟩)))))) .none)) (n0 (nd (n0 (nd (.node none (some ⟨[.tmpO 9 0 (.slice ah),.tmp 10 (.int .i64)],[some 1],none,[]⟩) (n0 (nd (nd (nd (cu ⟨[.tmp 90 .bool],[none],none,[]⟩) (cu ⟨[.tmpO 9 1 (.slice ah)],[none],none,[(9,0)]⟩)) .none) .none)) .none) .none)) .none)))))))
def lM:Ct:=.pure false true (.pair aa (.pair ah .unit)) (.pair (.slice ah) (.pair (.int .i64) (.pair aa .unit))) (fun x=>sV x.1 x.2.1)
theorem rg:KC 268 lM:=pq (Ec dw (Ec dq (Ec oI (Ec Dn (Ec qL (Ec iB (Ec Bq (Ec AI (Ec Ie (Ec AJ En)))))))))) Mk Tryz.func268
def uF (a0:(List aa.D)) (a1:aa.D):Option (List aa.D) :=
(cE a0).bind fun y1 =>
(gE a0 a1.1).bind fun y2 =>
 bif decide (y2≥0) then (
(eN a1).bind fun y3 =>
 idx y1 y2 fun _ =>
(y1[(y2:Int).toNat]?).bind fun x4 =>
 let u5:(List aa.D):=y1.set (y2:Int).toNat y3
 some u5)
 else (
 some y1)
def rh:Ct:=.pure true true (.pair (.slice aa) (.pair aa .unit)) (.slice aa) (fun x=>uF x.1 x.2.1)
theorem zq:KC 269 rh:=pq (Ec cA (Ec dq (Ec jT En))) .none Tryz.func269
def iC (a0:ae.D) (a1:ah.D):Option Int :=
(jD a0 a1).bind fun y1 =>
 bif (y1 == (-1)) then (
 some a0.2.2.1)
 else (
 some y1)
def sW:Ct:=.pure true false (.pair ae (.pair ah .unit)) (.int .i64) (fun x=>iC x.1 x.2.1)
theorem xX:KC 270 sW:=pq (Ec zj En) .none Tryz.func270
def vm (a0:(List Int)) (s1:((List Int)×Int)):Int→Option (Int⊕Int):=fun s4 =>
((bif decide (s4 > 0) then (
 idx s1.1 (IntKind.wrap .i64 (s4 - 1)) fun _ =>
(s1.1[(IntKind.wrap .i64 (s4 - 1):Int).toNat]?).bind fun x5 =>
 idx a0 s1.2 fun x6 =>
 some (decide (x5 > x6)))
 else (
 some false)):Option Bool).bind fun o7 =>
 bif o7 then (
 some (.inl (IntKind.wrap .i64 (s4 - 1))))
 else (
 some (.inr s4))
def vn (a0:(List Int)):((List Int)×Int)→Option (((List Int)×Int)⊕((List Int)×Int)):=fun s1 =>
 bif decide (s1.2 < (a0.length:Int)) then (
((idx a0 s1.2 fun x2 =>
(vV s1.1 x2).bind fun y3 =>
 bif y3 then (
 some s1.1)
 else (
(ay (vm a0 s1) (s1.1.length:Int)).bind fun o8 =>
 if 0≤(0:Int) then (if (0:Int)≤o8 then (if o8≤(s1.1.length:Int) then (
 if (([]:List Int).length + ((s1.1.take (o8.toNat)).drop ((0:Int).toNat)).length) * (24 * 1)≤aI then (
 idx a0 s1.2 fun x9 =>
 if (([]++((s1.1.take (o8.toNat)).drop ((0:Int).toNat))).length + [x9].length) * (24 * 1)≤aI then (
 if 0≤o8 then (if o8≤(s1.1.length:Int) then (if (s1.1.length:Int)≤(s1.1.length:Int) then (
 if ((([]++((s1.1.take (o8.toNat)).drop ((0:Int).toNat)))++[x9]).length + ((s1.1.take ((s1.1.length:Int).toNat)).drop (o8.toNat)).length) * (24 * 1)≤aI then (
 some ((([]++((s1.1.take (o8.toNat)).drop ((0:Int).toNat)))++[x9])++((s1.1.take ((s1.1.length:Int).toNat)).drop (o8.toNat)))) else none) else none) else none) else none) else none) else none) else none) else none) else none)):Option (List Int)).bind fun o10 =>
 some (.inl (o10,IntKind.wrap .i64 (s1.2 + 1))))
 else (
 some (.inr s1))
def wU (a0:(List Int)):Option (List Int) :=
(ay (vn a0) ([],0)).bind fun o11 =>
 some o11.1
def Ml:Hints:=(n0 (n0 (nd (n0 (nd (.node none (some ⟨[.tmpO 3 0 (.slice (.int .i64)),.tmp 4 (.int .i64)],[some 0],none,[]⟩) (n0 (nd (.node (some ⟨[.tmpO 3 1 (.slice (.int .i64))],[none],none,[(3,0)]⟩) none (n0 (n0 (nd (nd (.node none (some ⟨[.tmp 5 (.int .i64)],[some 2],none,[]⟩) (nd (nd (cu ⟨[.tmp 34 .bool],[none],none,[]⟩) .none) .none) .none) .none) .none))) .none) .none)) .none) .none)) .none)))
def B1:Ct:=.pure true true (.pair (.slice (.int .i64)) .unit) (.slice (.int .i64)) (fun x=>wU x.1)
theorem AK:KC 340 B1:=pq (Ec zp En) Ml Tryz.func340
def As (a0:(List Int)) (a1:Int):Option (List Int) :=
 if (([]:List Int).length + a0.length) * (24 * 1)≤aI then (
 if (([]++a0).length + [a1].length) * (24 * 1)≤aI then (
(wU (([]++a0)++[a1])).bind fun y1 =>
 some y1) else none) else none
def uG:Ct:=.pure true true (.pair (.slice (.int .i64)) (.pair (.int .i64) .unit)) (.slice (.int .i64)) (fun x=>As x.1 x.2.1)
theorem B2:KC 271 uG:=pq (Ec AK En) .none Tryz.func271
def pG (rec:(oe.D→ah.D→(List Int)→Option (Unit×oe.D))) (y8:((List ah.D)×(Int×(aa.D×Unit)))) (y11:(List Int)):(Int×(mF.D×((List aa.D)×((List Int)×((List ah.D)×((List aF.D)×Unit))))))→Option ((Int×(mF.D×((List aa.D)×((List Int)×((List ah.D)×((List aF.D)×Unit))))))⊕(Int×(mF.D×((List aa.D)×((List Int)×((List ah.D)×((List aF.D)×Unit))))))):=fun s13 =>
 bif decide (s13.1 < (y8.1.length:Int)) then (
 idx y8.1 s13.1 fun _ =>
(y8.1[(s13.1:Int).toNat]?).bind fun x14 =>
(rec s13.2 x14 y11).bind fun y15 =>
 some (.inl (IntKind.wrap .i64 (s13.1 + 1),y15.2)))
 else (
 some (.inr s13))
def li (rec:(oe.D→ah.D→(List Int)→Option (Unit×oe.D))) (x:oe.D) (a0:ah.D) (a1:(List Int)):Option (Unit×oe.D) :=
(rB x.1 x.2.1 a0 a1).bind fun y1 =>
 bif ((y1.length:Int) == 0) then (
(vW a0).bind fun y2 =>
((bif (!y2) then (
 if (x.2.2.2.1.length + [a0].length) * (24 * 7)≤aI then (
 some (x.1,x.2.1,x.2.2.1,(x.2.2.2.1++[a0]),x.2.2.2.2)) else none)
 else (
 some x)):Option oe.D).bind fun o3 =>
 some ((),o3))
 else (
(vX x.2.2.1 (y1.length:Int)).bind fun y4 =>
 idx y1 y4.1 fun _ =>
(y1[(y4.1:Int).toNat]?).bind fun x5 =>
(gE x.2.1 x5).bind fun y6 =>
 idx x.2.1 y6 fun x7 =>
(sV x7 a0).bind fun y8 =>
(uF x.2.1 y8.2.2.1).bind fun y9 =>
(iC x.1 a0).bind fun y10 =>
 if (([]:List ah.D).length + y8.1.length) * (24 * 7)≤aI then (
 if (x.2.2.2.2.1.length + ([(x7.1,y10,y4.1,(y1.length:Int),a0,([]++y8.1),y8.2.1,(a1.length:Int),())]).length) * (24 * 14)≤aI then (
(As a1 x7.1).bind fun y11 =>
(ay (pG rec y8 y11) (0,x.1,y9,y4.2.1,x.2.2.2.1,(x.2.2.2.2.1++([(x7.1,y10,y4.1,(y1.length:Int),a0,([]++y8.1),y8.2.1,(a1.length:Int),())])),())).bind fun o16 =>
 some ((),o16.2)) else none) else none)
def jG (n:Nat):oe.D→ah.D→(List Int)→Option (Unit×oe.D):=Nat.rec (motive:=fun _=>(oe.D→ah.D→(List Int)→Option (Unit×oe.D))) (fun _ _ _=>none) (fun _ g=>li g) n
def Mm:Hints:=(n0 (n0 (nd (n0 (nd (nd (n0 (cu ⟨[.boxO 0 0 6 oe],[none],none,[(0,4),(0,0),(0,2),(0,3),(0,5)]⟩)) .none) .none)) (n0 (n0 (nd (nd (cu ⟨[],[],none,[(0,2)]⟩) .none) (n0 (n0 (n0 (n0 (nd (nd (cu ⟨[],[],none,[(118,0)]⟩) .none) (nd (.node none (some ⟨[.tmp 14 (.int .i64),.boxO 0 0 6 oe],[some 0],none,[]⟩) (n0 (nd (nd (.node none (some ⟨[],[some 6],none,[]⟩) .none .none) .none) .none)) .none) .none))))))))))))
def wV (g:(oe.D→ah.D→(List Int)→Option (Unit×oe.D))):Ct:=.run oe [] false false false (.pair ah (.pair (.slice (.int .i64)) .unit)) .unit (fun x y=>g x y.1 y.2.1)
theorem J3 (n:Nat):cS Tryz.prog 159 (wV (jG n)):=by
 induction n with
 | zero=>exact NP (fn:=Tryz.f159) oe [] false false false (.pair ah (.pair (.slice (.int .i64)) .unit)) .unit Tryz.func159 (by kernel_rfl)
 | succ n ih=>exact L1 (E:={ T:=tab,G:=[(159,wV (jG n)),(224,xV),(265,p9),(266,FS),(267,uC),(268,lM),(269,rh),(270,sW),(271,uG)],Z:=true }) (ar.frz (ar.cons (ih) (ar.cons jT (ar.cons yo (ar.cons Dn (ar.cons sS (ar.cons rg (ar.cons zq (ar.cons xX (ar.cons B2 (ar.nil dJ))))))))))) mixed (fn:=Tryz.f159) oe [] false false false (.pair ah (.pair (.slice (.int .i64)) .unit)) .unit (fun x y=>li (jG n) x y.1 y.2.1) Mm Tryz.func159 (by kernel_rfl) (fun x y=>by kernel_rfl)
def mP (a0:ae.D) (a1:(List aa.D)) (a2:ah.D) (a3:(List Int)):Option br.D :=
(cE a1).bind fun y1 =>
 if (([]:List Int).length + a3.length) * (24 * 1)≤aI then (
(dO a0).bind fun y2 =>
 bif y2 then (
(gm a1).bind fun y3 =>
 bif y3 then (
(cF a2).bind fun y4 =>
 bif y4 then (
(jG 8 (a0,y1,([]++a3),[],[],()) a2 []).bind fun y5 =>
 some (y5.2.2.2.2.1,y5.2.2.1,y5.2.2.2.1,y5.2.2.2.2.2))
 else (
 some ([],y1,([]++a3),[],())))
 else (
 some ([],y1,([]++a3),[],())))
 else (
 some ([],y1,([]++a3),[],()))) else none
def If:Hints:=(n0 (n0 (nd (n0 (nd (.node none (some ⟨[],[some 3],none,[]⟩) .none .none) .none)) .none)))
def zr:Ct:=.pure true true (.pair ae (.pair (.slice aa) (.pair ah (.pair (.slice (.int .i64)) .unit)))) br (fun x=>mP x.1 x.2.1 x.2.2.1 x.2.2.2.1)
theorem yp:cS Tryz.prog 47 zr:=wK (E:={ T:=tab,G:=[(159,wV (jG 8)),(118,zl),(119,zm),(155,pX),(158,zi)],V:=[32],Z:=true }) (ar.frz (ar.views (ar.cons (J3 8) (ar.cons d9 (ar.cons lc (ar.cons cA (ar.cons dw (ar.nil dJ)))))))) mixed (fn:=Tryz.f47) _ _ _ _ _ If Tryz.func47 (by kernel_rfl) (fun x=>by kernel_rfl)
def vY (a0:br.D) (a1:br.D):Option br.D :=
(jU a0).bind fun y1 =>
(jU a1).bind fun y2 =>
 if (y1.1.length + y2.1.length) * (24 * 7)≤aI then (
 if (y1.2.2.2.1.length + y2.2.2.2.1.length) * (24 * 14)≤aI then (
 some ((y1.1++y2.1),y2.2.1,y2.2.2.1,(y1.2.2.2.1++y2.2.2.2.1),())) else none) else none
def Do:Ct:=.pure true true (.pair br (.pair br .unit)) br (fun x=>vY x.1 x.2.1)
theorem B3:KC 76 Do:=pq (Ec oq En) .none Tryz.func76
def iD (a0:ae.D) (a2:(List ah.D)):(Int×((List ah.D)×((List aa.D)×((List Int)×((List aF.D)×Unit)))))→Option ((Int×((List ah.D)×((List aa.D)×((List Int)×((List aF.D)×Unit)))))⊕(Int×((List ah.D)×((List aa.D)×((List Int)×((List aF.D)×Unit)))))):=fun s7 =>
 bif decide (s7.1 < (a2.length:Int)) then (
 idx a2 s7.1 fun x8 =>
(mP a0 s7.2.2.1 x8 s7.2.2.2.1).bind fun y9 =>
(vY s7.2 y9).bind fun y10 =>
 some (.inl (IntKind.wrap .i64 (s7.1 + 1),y10)))
 else (
 some (.inr s7))
def lj (a0:ae.D) (a1:(List aa.D)) (a2:(List ah.D)) (a3:(List Int)):Option br.D :=
(jU ([],a1,a3,[],())).bind fun y1 =>
(((mO a2).bind fun y2 =>
 bif (!y2) then (
 some true)
 else (
(dO a0).bind fun y3 =>
 bif (!y3) then (
 some true)
 else (
(gm a1).bind fun y4 =>
 some (!y4)))):Option Bool).bind fun o5 =>
 bif o5 then (
 some y1)
 else (
(ay (iD a0 a2) (0,y1)).bind fun o11 =>
 some o11.2)
def Dp:Hints:=(n0 (n0 (nd (nd (cu ⟨[.tmp 28 .bool],[none],none,[]⟩) .none) (nd (n0 (nd (.node none (some ⟨[.tmp 10 (.int .i64),.boxO 9 0 1 br],[some 0],none,[]⟩) .none .none) .none)) .none))))
def l0:Ct:=.pure true true (.pair ae (.pair (.slice aa) (.pair (.slice ah) (.pair (.slice (.int .i64)) .unit)))) br (fun x=>lj x.1 x.2.1 x.2.2.1 x.2.2.2.1)
theorem vo:KC 63 l0:=pq (Ec yp (Ec B3 (Ec xW (Ec d9 (Ec lc (Ec oq En)))))) Dp Tryz.func63
def cR (a0:aj.D) (a1:Int):Option Bool :=
 bif (a1 == 1) then (
 let k1:Int:=IntKind.wrap .i64 (BitVec.ofInt (IntKind.bits .i64) a0.2.2.2.2.2.2.2.1 &&& BitVec.ofInt (IntKind.bits .i64) a1).toNat
 some (k1 != 0))
 else (
 bif (a1 == 2) then (
 let k2:Int:=IntKind.wrap .i64 (BitVec.ofInt (IntKind.bits .i64) a0.2.2.2.2.2.2.2.1 &&& BitVec.ofInt (IntKind.bits .i64) a1).toNat
 some (k2 != 0))
 else (
 bif (a1 == 4) then (
 let k3:Int:=IntKind.wrap .i64 (BitVec.ofInt (IntKind.bits .i64) a0.2.2.2.2.2.2.2.1 &&& BitVec.ofInt (IntKind.bits .i64) a1).toNat
 some (k3 != 0))
 else (
 bif (a1 == 8) then (
 let k4:Int:=IntKind.wrap .i64 (BitVec.ofInt (IntKind.bits .i64) a0.2.2.2.2.2.2.2.1 &&& BitVec.ofInt (IntKind.bits .i64) a1).toNat
 some (k4 != 0))
 else (
 bif (a1 == 16) then (
 let k5:Int:=IntKind.wrap .i64 (BitVec.ofInt (IntKind.bits .i64) a0.2.2.2.2.2.2.2.1 &&& BitVec.ofInt (IntKind.bits .i64) a1).toNat
 some (k5 != 0))
 else (
 bif (a1 == 32) then (
 let k6:Int:=IntKind.wrap .i64 (BitVec.ofInt (IntKind.bits .i64) a0.2.2.2.2.2.2.2.1 &&& BitVec.ofInt (IntKind.bits .i64) a1).toNat
 some (k6 != 0))
 else (
 some false))))))
def Gh:Ct:=.pure true false (.pair aj (.pair (.int .i64) .unit)) .bool (fun x=>cR x.1 x.2.1)
theorem oM:KC 326 Gh:=pq En .none Tryz.func326
def l8 (a0:ae.D) (a1:aj.D) (a2:ah.D):Option (ae.D×(Int×Unit)) :=
(eU a0).bind fun y1 =>
(((dO a0).bind fun y2 =>
 bif (!y2) then (
 some true)
 else (
(cF a2).bind fun y3 =>
 bif (!y3) then (
 some true)
 else (
 some (a2.1 != 1)))):Option Bool).bind fun o4 =>
 bif o4 then (
 some (y1,0,()))
 else (
(cR a1 2).bind fun y5 =>
((bif (a2.2.2.1 == 0) then (
 bif decide (a2.2.2.2.1≥(a0.2.1.length:Int)) then (
 some (.inr ((0,y1))))
 else (
((bif y5 then (
 idx a0.2.1 a2.2.2.2.1 fun x6 =>
(eY x6.2.1 a2.2.2.2.2.1).bind fun y7 =>
 idx y1.2.1 a2.2.2.2.1 fun _ =>
(y1.2.1[(a2.2.2.2.1:Int).toNat]?).bind fun x8 =>
 let u9:(List aB.D):=y1.2.1.set (a2.2.2.2.1:Int).toNat (x8.1,y7,x8.2.2)
 some (y1.1,u9,y1.2.2))
 else (
 idx a0.2.1 a2.2.2.2.1 fun x10 =>
(jV x10.1 a2.2.2.2.2.1).bind fun y11 =>
 idx y1.2.1 a2.2.2.2.1 fun _ =>
(y1.2.1[(a2.2.2.2.1:Int).toNat]?).bind fun x12 =>
 let u13:(List aB.D):=y1.2.1.set (a2.2.2.2.1:Int).toNat (y11,x12.2)
 some (y1.1,u13,y1.2.2))):Option ae.D).bind fun o14 =>
 some (.inl (([],[],0,0,()),o14))))
 else (
(fB a0 a2.2.2.1).bind fun y15 =>
((bif decide (y15 < 0) then (
 some true)
 else (
 idx a0.1 y15 fun x16 =>
 some (x16.2.2.2.1 != 2))):Option Bool).bind fun o17 =>
 bif o17 then (
 some (.inr ((0,y1))))
 else (
((bif y5 then (
 idx a0.1 y15 fun x18 =>
(eY x18.2.2.2.2.2.2.2.2.2.1 a2.2.2.2.2.1).bind fun y19 =>
 idx y1.1 y15 fun _ =>
(y1.1[(y15:Int).toNat]?).bind fun x20 =>
 let u21:(List aj.D):=y1.1.set (y15:Int).toNat (x20.1,x20.2.1,x20.2.2.1,x20.2.2.2.1,x20.2.2.2.2.1,x20.2.2.2.2.2.1,x20.2.2.2.2.2.2.1,x20.2.2.2.2.2.2.2.1,x20.2.2.2.2.2.2.2.2.1,y19,x20.2.2.2.2.2.2.2.2.2.2)
 some (u21,y1.2))
 else (
 idx a0.1 y15 fun x22 =>
(eY x22.2.2.2.2.2.2.2.2.2.2.1 a2.2.2.2.2.1).bind fun y23 =>
 idx y1.1 y15 fun _ =>
(y1.1[(y15:Int).toNat]?).bind fun x24 =>
 let u25:(List aj.D):=y1.1.set (y15:Int).toNat (x24.1,x24.2.1,x24.2.2.1,x24.2.2.2.1,x24.2.2.2.2.1,x24.2.2.2.2.2.1,x24.2.2.2.2.2.2.1,x24.2.2.2.2.2.2.2.1,x24.2.2.2.2.2.2.2.2.1,x24.2.2.2.2.2.2.2.2.2.1,y23,x24.2.2.2.2.2.2.2.2.2.2.2)
 some (u25,y1.2))):Option ae.D).bind fun o26 =>
(((cR a1 4).bind fun y27 =>
 bif y27 then (
 some (decide (a2.2.2.2.2.1≥1)))
 else (
 some false)):Option Bool).bind fun o28 =>
((bif o28 then (
 idx o26.1 y15 fun _ =>
(o26.1[(y15:Int).toNat]?).bind fun x29 =>
 let u30:(List aj.D):=o26.1.set (y15:Int).toNat (x29.1,x29.2.1,x29.2.2.1,x29.2.2.2.1,x29.2.2.2.2.1,x29.2.2.2.2.2.1,x29.2.2.2.2.2.2.1,x29.2.2.2.2.2.2.2.1,x29.2.2.2.2.2.2.2.2.1,x29.2.2.2.2.2.2.2.2.2.1,x29.2.2.2.2.2.2.2.2.2.2.1,true,x29.2.2.2.2.2.2.2.2.2.2.2.2)
 some (u30,o26.2))
 else (
 some o26)):Option ae.D).bind fun o31 =>
 some (.inl (([],[],0,0,()),o31))))):Option ((ae.D×((List aj.D)×((List aB.D)×(Int×(Int×Unit)))))⊕(Int×((List aj.D)×((List aB.D)×(Int×(Int×Unit))))))).bind fun o32 =>
 match o32 with
| .inl s33=>(
(((cR a1 1).bind fun y35 =>
 bif y35 then (
(aP a1.2.2.1 0 (IntKind.wrap .i64 ((a0.2.1.length:Int) - 1))).bind fun y36 =>
 some y36)
 else (
 some false)):Option Bool).bind fun o37 =>
((bif o37 then (
 idx s33.2.2.1 a1.2.2.1 fun _ =>
(s33.2.2.1[(a1.2.2.1:Int).toNat]?).bind fun x38 =>
(eY x38.1 a2.2.2.2.2.1).bind fun y39 =>
 idx s33.2.2.1 a1.2.2.1 fun _ =>
(s33.2.2.1[(a1.2.2.1:Int).toNat]?).bind fun x40 =>
 let u41:(List aB.D):=s33.2.2.1.set (a1.2.2.1:Int).toNat (y39,x40.2)
 some (s33.2.1,u41,s33.2.2.2))
 else (
 some s33.2)):Option ae.D).bind fun o42 =>
 some (o42,a2.2.2.2.2.1,()))
| .inr o34=>(
 some (o34.2,o34.1,())))
def J4:Hints:=(n0 (n0 (nd (nd (cu ⟨[.tmp 25 .bool],[none],none,[]⟩) .none) (n0 (nd (n0 (.node (some ⟨[.boxO 6 0 1 ae,.boxO 8 0 1 ae],[none],some [.tmp 7 (.int .i64),.boxO 6 0 1 ae],[(6,0),(12,1),(8,0),(12,0)]⟩) none (n0 (n0 (cu ⟨[.boxO 8 0 1 ae],[none],none,[(12,1),(8,0),(12,0)]⟩))) (n0 (nd (nd (cu ⟨[.tmp 86 .bool],[none],none,[]⟩) .none) (nd (n0 (cu ⟨[.boxO 8 0 1 ae],[none],none,[(12,0),(8,0),(12,1)]⟩)) (nd (cu ⟨[.tmp 123 .bool],[none],none,[]⟩) (cu ⟨[.boxO 8 0 3 ae],[none],none,[(8,1),(8,0),(8,2)]⟩))))))) (nd (nd (cu ⟨[.tmp 139 .bool],[none],none,[]⟩) (cu ⟨[.boxO 8 0 3 ae],[none],none,[(8,2),(8,0),(8,1)]⟩)) .none))))))
def AL:Ct:=.pure false true (.pair ae (.pair aj (.pair ah .unit))) (.pair ae (.pair (.int .i64) .unit)) (fun x=>l8 x.1 x.2.1 x.2.2.1)
theorem zt:KC 357 AL:=pq (Ec d9 (Ec ci (Ec dw (Ec cD (Ec gb (Ec oM (Ec rD (Ec rC En)))))))) J4 Tryz.func357
def vZ (a0:ae.D) (a1:ah.D):Option (ae.D×(Bool×Unit)) :=
(eU a0).bind fun y1 =>
(((dO a0).bind fun y2 =>
 bif (!y2) then (
 some true)
 else (
(cF a1).bind fun y3 =>
 some (!y3))):Option Bool).bind fun o4 =>
 bif o4 then (
 some (y1,false,()))
 else (
((bif (a1.1 == 3) then (
 some (a1.1 == 3))
 else (
 some (a1.1 == 4))):Option Bool).bind fun o5 =>
 bif o5 then (
 bif decide (a1.2.2.2.1≥(a0.2.1.length:Int)) then (
 some (y1,false,()))
 else (
((bif (a1.1 == 3) then (
 idx a0.2.1 a1.2.2.2.1 fun x6 =>
(eY x6.1 a1.2.2.2.2.1).bind fun y7 =>
 idx y1.2.1 a1.2.2.2.1 fun _ =>
(y1.2.1[(a1.2.2.2.1:Int).toNat]?).bind fun x8 =>
 let u9:(List aB.D):=y1.2.1.set (a1.2.2.2.1:Int).toNat (y7,x8.2)
 some (y1.1,u9,y1.2.2))
 else (
 idx a0.2.1 a1.2.2.2.1 fun x10 =>
(jV x10.1 a1.2.2.2.2.1).bind fun y11 =>
 idx y1.2.1 a1.2.2.2.1 fun _ =>
(y1.2.1[(a1.2.2.2.1:Int).toNat]?).bind fun x12 =>
 let u13:(List aB.D):=y1.2.1.set (a1.2.2.2.1:Int).toNat (y11,x12.2)
 some (y1.1,u13,y1.2.2))):Option ae.D).bind fun o14 =>
 some (o14,true,())))
 else (
((bif (a1.1 == 5) then (
 some (a1.1 == 5))
 else (
 some (a1.1 == 6))):Option Bool).bind fun o15 =>
 bif o15 then (
(fB a0 a1.2.2.1).bind fun y16 =>
((bif decide (y16 < 0) then (
 some true)
 else (
 idx a0.1 y16 fun x17 =>
 some (x17.2.2.2.1 != 2))):Option Bool).bind fun o18 =>
 bif o18 then (
 some (y1,false,()))
 else (
((bif (a1.1 == 5) then (
 idx a0.1 y16 fun x19 =>
(eY x19.2.2.2.2.2.2.2.2.1 a1.2.2.2.2.1).bind fun y20 =>
 idx y1.1 y16 fun _ =>
(y1.1[(y16:Int).toNat]?).bind fun x21 =>
 let u22:(List aj.D):=y1.1.set (y16:Int).toNat (x21.1,x21.2.1,x21.2.2.1,x21.2.2.2.1,x21.2.2.2.2.1,x21.2.2.2.2.2.1,x21.2.2.2.2.2.2.1,x21.2.2.2.2.2.2.2.1,y20,x21.2.2.2.2.2.2.2.2.2)
 some (u22,y1.2))
 else (
 idx a0.1 y16 fun x23 =>
(eY x23.2.2.2.2.2.2.2.2.2.1 a1.2.2.2.2.1).bind fun y24 =>
 idx y1.1 y16 fun _ =>
(y1.1[(y16:Int).toNat]?).bind fun x25 =>
 let u26:(List aj.D):=y1.1.set (y16:Int).toNat (x25.1,x25.2.1,x25.2.2.1,x25.2.2.2.1,x25.2.2.2.2.1,x25.2.2.2.2.2.1,x25.2.2.2.2.2.2.1,x25.2.2.2.2.2.2.2.1,x25.2.2.2.2.2.2.2.2.1,y24,x25.2.2.2.2.2.2.2.2.2.2)
 some (u26,y1.2))):Option ae.D).bind fun o27 =>
 some (o27,true,())))
 else (
 some (y1,false,()))))
def N5:Hints:=(n0 (n0 (nd (nd (cu ⟨[.tmp 17 .bool],[none],none,[]⟩) .none) (nd (n0 (nd (nd (n0 (cu ⟨[.tmp 21 .bool],[none],none,[]⟩)) (nd (n0 (nd (n0 (cu ⟨[.boxO 6 0 1 ae],[none],none,[(9,1),(6,0),(9,0)]⟩)) .none)) (nd (n0 (cu ⟨[.tmp 67 .bool],[none],none,[]⟩)) (nd (n0 (nd (nd (cu ⟨[.tmp 84 .bool],[none],none,[]⟩) .none) (nd (n0 (cu ⟨[.boxO 6 0 1 ae],[none],none,[(9,0),(6,0),(9,1)]⟩)) .none))) .none)))) .none)) .none))))
def Dq:Ct:=.pure false true (.pair ae (.pair ah .unit)) (.pair ae (.pair .bool .unit)) (fun x=>vZ x.1 x.2.1)
theorem B4:KC 358 Dq:=pq (Ec d9 (Ec ci (Ec dw (Ec gb (Ec rD (Ec rC En)))))) N5 Tryz.func358
def oN (a0:ae.D) (a1:ae.D) (a2:ah.D):Option (ae.D×(au.D×Unit)) :=
 bif (a2.1 == 1) then (
(ir a0 a2).bind fun y1 =>
(l8 a1 y1 a2).bind fun y2 =>
 bif decide (y2.2.1≥1) then (
 some (y2.1,(1,a2,y2.2.1,0,(0,0,0,0,0,0,0,0,0,0,0,false,false,()),()),()))
 else (
 some (y2.1,(4,a2,0,0,(0,0,0,0,0,0,0,0,0,0,0,false,false,()),()),())))
 else (
(vZ a1 a2).bind fun y3 =>
 bif y3.2.1 then (
 some (y3.1,(2,a2,0,0,(0,0,0,0,0,0,0,0,0,0,0,false,false,()),()),()))
 else (
 some (y3.1,(4,a2,0,0,(0,0,0,0,0,0,0,0,0,0,0,false,false,()),()),())))
def B5:Ct:=.pure false true (.pair ae (.pair ae (.pair ah .unit))) (.pair ae (.pair au .unit)) (fun x=>oN x.1 x.2.1 x.2.2.1)
theorem AM:KC 319 B5:=pq (Ec sR (Ec zt (Ec B4 En))) .none Tryz.func319
def sX (a0:aj.D) (a1:Int) (a2:Int):Option aj.D :=
 some (a0.1,a0.2.1,a0.2.1,a1,a2,a0.2.2.2.2.2.1,a0.2.2.2.2.2.2.1,a0.2.2.2.2.2.2.2.1,0,0,0,false,false,())
def Mn:Ct:=.pure true false (.pair aj (.pair (.int .i64) (.pair (.int .i64) .unit))) aj (fun x=>sX x.1 x.2.1 x.2.2.1)
theorem Br:KC 359 Mn:=pq En .none Tryz.func359
def oO (a0:ae.D) (a1:ah.D):Option (ae.D×(Bool×Unit)) :=
(eU a0).bind fun y1 =>
(fB a0 a1.2.2.1).bind fun y2 =>
(((dO a0).bind fun y3 =>
 bif (!y3) then (
 some true)
 else (
(cF a1).bind fun y4 =>
 bif (!y4) then (
 some true)
 else (
 bif (a1.1 != 2) then (
 some true)
 else (
 bif decide (y2 < 0) then (
 some true)
 else (
 idx a0.1 y2 fun x5 =>
 some (x5.2.2.2.1 == a1.2.2.2.2.2.1)))))):Option Bool).bind fun o6 =>
 bif o6 then (
 some (y1,false,()))
 else (
 idx a0.1 y2 fun x7 =>
(sX x7 a1.2.2.2.2.2.1 a0.2.2.2.1).bind fun y8 =>
((bif (a1.2.2.2.2.2.1 == 2) then (
 some (y8.1,y8.2.1,y8.2.2.1,y8.2.2.2.1,y8.2.2.2.2.1,y8.2.2.2.2.2.1,y8.2.2.2.2.2.2.1,y8.2.2.2.2.2.2.2.1,a1.2.2.2.2.1,y8.2.2.2.2.2.2.2.2.2.1,y8.2.2.2.2.2.2.2.2.2.2.1,y8.2.2.2.2.2.2.2.2.2.2.2.1,a1.2.2.2.2.2.2))
 else (
 some y8)):Option aj.D).bind fun o9 =>
 idx y1.1 y2 fun _ =>
(y1.1[(y2:Int).toNat]?).bind fun x10 =>
 let u11:(List aj.D):=y1.1.set (y2:Int).toNat o9
 some ((u11,y1.2),true,()))
def Mo:Hints:=(n0 (n0 (n0 (nd (nd (cu ⟨[.tmp 42 .bool],[none],none,[]⟩) .none) (n0 (nd (n0 (cu ⟨[.box 8 0 aj],[none],none,[(8,0)]⟩)) .none))))))
def B6:Ct:=.pure false true (.pair ae (.pair ah .unit)) (.pair ae (.pair .bool .unit)) (fun x=>oO x.1 x.2.1)
theorem AN:KC 320 B6:=pq (Ec d9 (Ec ci (Ec dw (Ec gb (Ec Br En))))) Mo Tryz.func320
def mQ (a0:ae.D) (a1:(List ah.D)):((List au.D)×(Int×((List aj.D)×((List aB.D)×(Int×(Int×Unit))))))→Option (((List au.D)×(Int×((List aj.D)×((List aB.D)×(Int×(Int×Unit))))))⊕((List au.D)×(Int×((List aj.D)×((List aB.D)×(Int×(Int×Unit))))))):=fun s4 =>
 bif decide (s4.2.1 < (a1.length:Int)) then (
 idx a1 s4.2.1 fun x5 =>
((bif (x5.1 != 2) then (
 idx a1 s4.2.1 fun x6 =>
(oN a0 s4.2.2 x6).bind fun y7 =>
 if (s4.1.length + [y7.2.1].length) * (24 * 23)≤aI then (
 some ((s4.1++[y7.2.1]),y7.1)) else none)
 else (
 some (s4.1,s4.2.2))):Option ((List au.D)×((List aj.D)×((List aB.D)×(Int×(Int×Unit)))))).bind fun o8 =>
 some (.inl (o8.1,IntKind.wrap .i64 (s4.2.1 + 1),o8.2)))
 else (
 some (.inr s4))
def mR (a0:ae.D) (a1:(List ah.D)):((List au.D)×(Int×((List aj.D)×((List aB.D)×(Int×(Int×Unit))))))→Option (((List au.D)×(Int×((List aj.D)×((List aB.D)×(Int×(Int×Unit))))))⊕((List au.D)×(Int×((List aj.D)×((List aB.D)×(Int×(Int×Unit))))))):=fun s11 =>
 bif decide (s11.2.1 < (a1.length:Int)) then (
((idx a1 s11.2.1 fun x12 =>
 bif (x12.1 != 2) then (
 some (s11.1,s11.2.2))
 else (
 idx a1 s11.2.1 fun x13 =>
(oO s11.2.2 x13).bind fun y14 =>
 bif (!y14.2.1) then (
 idx a1 s11.2.1 fun x15 =>
 if (s11.1.length + ([(4,x15,0,0,(0,0,0,0,0,0,0,0,0,0,0,false,false,()),())]:List au.D).length) * (24 * 23)≤aI then (
 some ((s11.1++([(4,x15,0,0,(0,0,0,0,0,0,0,0,0,0,0,false,false,()),())]:List au.D)),s11.2.2)) else none)
 else (
 idx a1 s11.2.1 fun x16 =>
 idx a1 s11.2.1 fun x17 =>
(fB a0 x17.2.2.1).bind fun y18 =>
 idx a0.1 y18 fun x19 =>
 if (s11.1.length + ([(3,x16,0,0,x19,())]:List au.D).length) * (24 * 23)≤aI then (
 some ((s11.1++([(3,x16,0,0,x19,())]:List au.D)),y14.1)) else none))):Option ((List au.D)×((List aj.D)×((List aB.D)×(Int×(Int×Unit)))))).bind fun o20 =>
 some (.inl (o20.1,IntKind.wrap .i64 (s11.2.1 + 1),o20.2)))
 else (
 some (.inr s11))
def uH (a0:ae.D) (a1:(List ah.D)):Option (ae.D×((List au.D)×Unit)) :=
(eU a0).bind fun y1 =>
(dO a0).bind fun y2 =>
 bif (!y2) then (
 some (y1,[],()))
 else (
(ay (mQ a0 a1) ([],0,y1)).bind fun o9 =>
(ay (mR a0 a1) (o9.1,0,o9.2.2)).bind fun o21 =>
 some (o21.2.2,o21.1,()))
def J5:Hints:=(n0 (n0 (n0 (n0 (nd (n0 (nd (.node none (some ⟨[.tmpO 7 0 (.slice au),.tmp 8 (.int .i64),.boxO 6 0 1 ae],[some 0],none,[]⟩) (n0 (nd (nd (n0 (cu ⟨[.tmpO 7 1 (.slice au),.boxO 6 0 3 ae],[none],none,[(6,0),(7,0),(6,1),(6,2)]⟩)) .none) .none)) .none) .none)) (nd (n0 (nd (.node none (some ⟨[.tmpO 7 1 (.slice au),.tmp 11 (.int .i64),.boxO 6 0 3 ae],[some 2],none,[]⟩) (n0 (nd (cu ⟨[.tmpO 7 2 (.slice au),.boxO 6 0 5 ae],[none],none,[(7,1),(6,0),(6,3),(6,4)]⟩) .none)) .none) .none)) .none))))))
def ri:Ct:=.pure false true (.pair ae (.pair (.slice ah) .unit)) (.pair ae (.pair (.slice au) .unit)) (fun x=>uH x.1 x.2.1)
theorem zu:KC 225 ri:=pq (Ec d9 (Ec ci (Ec AM (Ec AN (Ec gb En))))) J5 Tryz.func225
def rE (a0:aj.D):Option Int :=
(eY a0.2.2.2.2.2.2.1 a0.2.2.2.2.2.2.2.2.1).bind fun y1 =>
(jV y1 a0.2.2.2.2.2.2.2.2.2.1).bind fun y2 =>
 some y2
def Ig:Ct:=.pure true false (.pair aj .unit) (.int .i64) (fun x=>rE x.1)
theorem Gi:KC 384 Ig:=pq (Ec rD (Ec rC En)) .none Tryz.func384
def qa (a0:aj.D):Option Bool :=
 bif (a0.2.2.2.1 != 2) then (
 some false)
 else (
(rE a0).bind fun y1 =>
 bif decide (y1≤0) then (
 some true)
 else (
(cR a0 8).bind fun y2 =>
 bif (!y2) then (
 bif a0.2.2.2.2.2.2.2.2.2.2.2.1 then (
 some true)
 else (
 some (decide (a0.2.2.2.2.2.2.2.2.2.2.1≥y1))))
 else (
 some false)))
def J6:Ct:=.pure true false (.pair aj .unit) .bool (fun x=>qa x.1)
theorem Ih:KC 360 J6:=pq (Ec oM (Ec Gi En)) .none Tryz.func360
def kF (a0:ae.D):((List au.D)×(Int×((List aj.D)×((List aB.D)×(Int×(Int×Unit))))))→Option (((List au.D)×(Int×((List aj.D)×((List aB.D)×(Int×(Int×Unit))))))⊕((List au.D)×(Int×((List aj.D)×((List aB.D)×(Int×(Int×Unit))))))):=fun s4 =>
 bif decide (s4.2.1 < (a0.2.1.length:Int)) then (
 idx a0.2.1 s4.2.1 fun x5 =>
((bif (!x5.2.2.1) then (
 bif decide (x5.1≤0) then (
 some true)
 else (
 some (decide (x5.2.1≥10))))
 else (
 some false)):Option Bool).bind fun o6 =>
((bif o6 then (
 idx s4.2.2.2.1 s4.2.1 fun _ =>
(s4.2.2.2.1[(s4.2.1:Int).toNat]?).bind fun x7 =>
 let u8:(List aB.D):=s4.2.2.2.1.set (s4.2.1:Int).toNat (x7.1,x7.2.1,true,())
 if (s4.1.length + ([(5,(0,0,0,0,0,0,false,()),0,s4.2.1,(0,0,0,0,0,0,0,0,0,0,0,false,false,()),())]:List au.D).length) * (24 * 23)≤aI then (
 some ((s4.1++([(5,(0,0,0,0,0,0,false,()),0,s4.2.1,(0,0,0,0,0,0,0,0,0,0,0,false,false,()),())]:List au.D)),s4.2.2.1,u8,s4.2.2.2.2)) else none)
 else (
 some (s4.1,s4.2.2))):Option ((List au.D)×((List aj.D)×((List aB.D)×(Int×(Int×Unit)))))).bind fun o9 =>
 some (.inl (o9.1,IntKind.wrap .i64 (s4.2.1 + 1),o9.2)))
 else (
 some (.inr s4))
def kG (a0:ae.D):((List au.D)×(Int×((List aj.D)×((List aB.D)×(Int×(Int×Unit))))))→Option (((List au.D)×(Int×((List aj.D)×((List aB.D)×(Int×(Int×Unit))))))⊕((List au.D)×(Int×((List aj.D)×((List aB.D)×(Int×(Int×Unit))))))):=fun s12 =>
 bif decide (s12.2.1 < (a0.1.length:Int)) then (
((idx a0.1 s12.2.1 fun x13 =>
(qa x13).bind fun y14 =>
 bif y14 then (
(sX x13 3 a0.2.2.2.1).bind fun y15 =>
 idx s12.2.2.1 s12.2.1 fun _ =>
(s12.2.2.1[(s12.2.1:Int).toNat]?).bind fun x16 =>
 let u17:(List aj.D):=s12.2.2.1.set (s12.2.1:Int).toNat y15
 if (s12.1.length + ([(6,(0,0,0,0,0,0,false,()),0,0,x13,())]:List au.D).length) * (24 * 23)≤aI then (
 some ((s12.1++([(6,(0,0,0,0,0,0,false,()),0,0,x13,())]:List au.D)),u17,s12.2.2.2)) else none)
 else (
(fO x13.2.2.2.2.2.2.2.2.1 x13.2.2.2.2.2.2.2.2.2.1).bind fun y18 =>
((bif (x13.2.2.2.1 == 2) then (
 some (decide (y18 > 0)))
 else (
 some false)):Option Bool).bind fun o19 =>
((bif o19 then (
 idx s12.2.2.1 s12.2.1 fun _ =>
(s12.2.2.1[(s12.2.1:Int).toNat]?).bind fun x20 =>
 let u21:(List aj.D):=s12.2.2.1.set (s12.2.1:Int).toNat (x20.1,x20.2.1,x20.2.2.1,x20.2.2.2.1,x20.2.2.2.2.1,x20.2.2.2.2.2.1,x20.2.2.2.2.2.2.1,x20.2.2.2.2.2.2.2.1,IntKind.wrap .i64 (x13.2.2.2.2.2.2.2.2.1 - y18),x20.2.2.2.2.2.2.2.2.2)
 idx u21 s12.2.1 fun _ =>
(u21[(s12.2.1:Int).toNat]?).bind fun x22 =>
 let u23:(List aj.D):=u21.set (s12.2.1:Int).toNat (x22.1,x22.2.1,x22.2.2.1,x22.2.2.2.1,x22.2.2.2.2.1,x22.2.2.2.2.2.1,x22.2.2.2.2.2.2.1,x22.2.2.2.2.2.2.2.1,x22.2.2.2.2.2.2.2.2.1,IntKind.wrap .i64 (x13.2.2.2.2.2.2.2.2.2.1 - y18),x22.2.2.2.2.2.2.2.2.2.2)
 if (s12.1.length + ([(7,(0,0,0,0,0,0,false,()),y18,0,x13,())]:List au.D).length) * (24 * 23)≤aI then (
 some ((s12.1++([(7,(0,0,0,0,0,0,false,()),y18,0,x13,())]:List au.D)),u23,s12.2.2.2)) else none)
 else (
 some (s12.1,s12.2.2))):Option ((List au.D)×((List aj.D)×((List aB.D)×(Int×(Int×Unit)))))).bind fun o24 =>
 some o24)):Option ((List au.D)×((List aj.D)×((List aB.D)×(Int×(Int×Unit)))))).bind fun o25 =>
 some (.inl (o25.1,IntKind.wrap .i64 (s12.2.1 + 1),o25.2)))
 else (
 some (.inr s12))
def wW (a0:ae.D):Option (ae.D×((List au.D)×Unit)) :=
(eU a0).bind fun y1 =>
(dO a0).bind fun y2 =>
 bif (!y2) then (
 some (y1,[],()))
 else (
(ay (kF a0) ([],0,y1)).bind fun o10 =>
(ay (kG a0) (o10.1,0,o10.2.2)).bind fun o26 =>
 some (o26.2.2,o26.1,()))
def Mp:Hints:=(n0 (n0 (n0 (n0 (nd (n0 (nd (.node none (some ⟨[.tmpO 5 0 (.slice au),.tmp 6 (.int .i64),.boxO 4 0 1 ae],[some 0],none,[]⟩) (n0 (nd (nd (n0 (nd (cu ⟨[.tmp 43 .bool],[none],none,[]⟩) (cu ⟨[.tmpO 5 1 (.slice au),.boxO 4 0 3 ae],[none],none,[(4,2),(4,0),(5,0),(4,1)]⟩))) .none) .none)) .none) .none)) (nd (n0 (nd (.node none (some ⟨[.tmpO 5 1 (.slice au),.tmp 8 (.int .i64),.boxO 4 0 3 ae],[some 2],none,[]⟩) (n0 (nd (.node (some ⟨[.tmpO 5 2 (.slice au),.boxO 4 0 5 ae],[none],none,[(4,3),(4,0),(5,1),(4,4)]⟩) none (n0 (n0 (n0 (nd (cu ⟨[.tmp 92 .bool],[none],none,[]⟩) (cu ⟨[.tmpO 5 2 (.slice au),.boxO 4 0 5 ae],[none],none,[(4,3),(4,0),(5,1),(4,4)]⟩))))) .none) .none)) .none) .none)) .none))))))
def B7:Ct:=.pure false true (.pair ae .unit) (.pair ae (.pair (.slice au) .unit)) (fun x=>wW x.1)
theorem AO:KC 322 B7:=pq (Ec d9 (Ec ci (Ec iB (Ec Br (Ec Ih En))))) Mp Tryz.func322
def mS:((List au.D)×(Int×(ae.D×((List aj.D)×((List aB.D)×(Int×(Int×Unit)))))))→Option (((List au.D)×(Int×(ae.D×((List aj.D)×((List aB.D)×(Int×(Int×Unit)))))))⊕((List au.D)×(Int×((List aj.D)×((List aB.D)×(Int×(Int×Unit))))))):=fun s4 =>
(wW s4.2.2.2).bind fun y5 =>
 bif ((y5.2.1.length:Int) == 0) then (
 some (.inr (s4.1,s4.2.1,s4.2.2.2)))
 else (
 if (s4.1.length + y5.2.1.length) * (24 * 23)≤aI then (
 some (.inl ((s4.1++y5.2.1),IntKind.wrap .i64 (s4.2.1 + 1),s4.2.2.1,y5.1))) else none)
def qb (a0:ae.D):Option (ae.D×((List au.D)×(Int×Unit))) :=
(eU a0).bind fun y1 =>
(ay (mS) ([],0,([],[],0,0,()),y1)).bind fun o6 =>
 some (o6.2.2,o6.1,o6.2.1,())
def J7:Hints:=(n0 (n0 (n0 (n0 (nd (.node none (some ⟨[.tmpO 6 0 (.slice au),.tmp 7 (.int .i64),.boxO 2 0 1 ae,.boxO 5 0 1 ae],[],some [.tmpO 3 0 (.slice au),.tmp 4 (.int .i64),.boxO 2 0 1 ae],[]⟩) .none .none) .none)))))
def rj:Ct:=.pure false true (.pair ae .unit) (.pair ae (.pair (.slice au) (.pair (.int .i64) .unit))) (fun x=>qb x.1)
theorem zv:KC 226 rj:=pq (Ec ci (Ec AO En)) J7 Tryz.func226
def rF (a0:au.D):Option Bool :=
 bif (a0.1 == 6) then (
 some true)
 else (
 bif (a0.1 == 3) then (
 bif (a0.2.2.2.2.1.2.2.2.1 == 2) then (
 some (a0.2.1.2.2.2.2.2.1 != 2))
 else (
 some false))
 else (
 some false))
def Ii:Ct:=.pure true false (.pair au .unit) .bool (fun x=>rF x.1)
theorem Gj:KC 325 Ii:=pq En .none Tryz.func325
def wX (a0:ae.D) (a1:(List au.D)):((List ai.D)×Int)→Option (((List ai.D)×Int)⊕((List ai.D)×Int)):=fun s1 =>
 bif decide (s1.2 < (a1.length:Int)) then (
 idx a1 s1.2 fun x2 =>
(((rF x2).bind fun y3 =>
 bif y3 then (
(cR x2.2.2.2.2.1 16).bind fun y4 =>
 some y4)
 else (
 some false)):Option Bool).bind fun o5 =>
((bif o5 then (
 if (s1.1.length + ([(1,x2.2.2.2.2.1.2.2.1,0,x2.2.2.2.2)]:List ai.D).length) * (24 * 16)≤aI then (
 some (s1.1++([(1,x2.2.2.2.2.1.2.2.1,0,x2.2.2.2.2)]:List ai.D))) else none)
 else (
 some s1.1)):Option (List ai.D)).bind fun o6 =>
((bif (x2.1 == 1) then (
 some (decide (x2.2.2.1≥1)))
 else (
 some false)):Option Bool).bind fun o7 =>
((bif o7 then (
(ir a0 x2.2.1).bind fun y8 =>
(cR y8 32).bind fun y9 =>
((bif y9 then (
 if (o6.length + ([(2,y8.2.2.1,x2.2.2.1,y8,())]:List ai.D).length) * (24 * 16)≤aI then (
 some (o6++([(2,y8.2.2.1,x2.2.2.1,y8,())]:List ai.D))) else none)
 else (
 some o6)):Option (List ai.D)).bind fun o10 =>
 some o10)
 else (
 some o6)):Option (List ai.D)).bind fun o11 =>
 some (.inl (o11,IntKind.wrap .i64 (s1.2 + 1))))
 else (
 some (.inr s1))
def v5 (a0:ae.D) (a1:(List au.D)):Option (List ai.D) :=
(ay (wX a0 a1) ([],0)).bind fun o12 =>
 some o12.1
def N6:Hints:=(n0 (n0 (nd (n0 (nd (.node none (some ⟨[.tmpO 5 0 (.slice ai),.tmp 6 (.int .i64)],[some 0],none,[]⟩) (n0 (nd (nd (n0 (nd (nd (cu ⟨[.tmp 26 .bool],[none],none,[]⟩) (cu ⟨[.tmpO 5 1 (.slice ai)],[none],none,[(5,0)]⟩)) (nd (cu ⟨[.tmp 43 .bool],[none],none,[]⟩) (.node (some ⟨[.tmpO 5 2 (.slice ai)],[none],none,[(5,1)]⟩) none (n0 (n0 (cu ⟨[.tmpO 5 2 (.slice ai)],[none],none,[(5,1)]⟩))) .none)))) .none) .none)) .none) .none)) .none)))
def uJ:Ct:=.pure true true (.pair ae (.pair (.slice au) .unit)) (.slice ai) (fun x=>v5 x.1 x.2.1)
theorem B8:KC 228 uJ:=pq (Ec Gj (Ec oM (Ec sR En))) N6 Tryz.func228
def jf (a0:ae.D):((List Int)×Int)→Option (((List Int)×Int)⊕((List Int)×Int)):=fun s1 =>
((bif decide (s1.2 < (a0.2.1.length:Int)) then (
(aP a0.2.2.1 0 (IntKind.wrap .i64 ((a0.2.1.length:Int) - 1))).bind fun y2 =>
 some y2)
 else (
 some false)):Option Bool).bind fun o3 =>
 bif o3 then (
 if (a0.2.1.length:Int)=0 then none else (
 let k4:Int:=(IntKind.wrap .i64 (a0.2.2.1 + s1.2)).tmod (a0.2.1.length:Int)
 if (s1.1.length + [k4].length) * (24 * 1)≤aI then (
 some (.inl ((s1.1++[k4]),IntKind.wrap .i64 (s1.2 + 1)))) else none))
 else (
 some (.inr s1))
def gV (a0:ae.D):Option (List Int) :=
(ay (jf a0) ([],0)).bind fun o5 =>
 some o5.1
def EQ:Hints:=(n0 (n0 (nd (n0 (nd (.node none (some ⟨[.tmpO 3 0 (.slice (.int .i64)),.tmp 4 (.int .i64)],[some 0],none,[]⟩) (nd (nd (cu ⟨[.tmp 19 .bool],[none],none,[]⟩) .none) .none) .none) .none)) .none)))
def mT:Ct:=.pure true true (.pair ae .unit) (.slice (.int .i64)) (fun x=>gV x.1)
theorem l9:KC 101 mT:=pq (Ec cD En) EQ Tryz.func101
def lN (a0:(List ai.D)) (a1:Int):((List ai.D)×Int)→Option (((List ai.D)×Int)⊕((List ai.D)×Int)):=fun s1 =>
 bif decide (s1.2 < (a0.length:Int)) then (
 idx a0 s1.2 fun x2 =>
((bif (x2.2.1 == a1) then (
 idx a0 s1.2 fun x3 =>
 if (s1.1.length + [x3].length) * (24 * 16)≤aI then (
 some (s1.1++[x3])) else none)
 else (
 some s1.1)):Option (List ai.D)).bind fun o4 =>
 some (.inl (o4,IntKind.wrap .i64 (s1.2 + 1))))
 else (
 some (.inr s1))
def lk (a0:(List ai.D)) (a1:Int):Option (List ai.D) :=
(ay (lN a0 a1) ([],0)).bind fun o5 =>
 some o5.1
def Dr:Hints:=(n0 (n0 (nd (n0 (nd (.node none (some ⟨[.tmpO 5 0 (.slice ai),.tmp 6 (.int .i64)],[some 0],none,[]⟩) (n0 (nd (nd (n0 (cu ⟨[.tmpO 5 1 (.slice ai)],[none],none,[(5,0)]⟩)) .none) .none)) .none) .none)) .none)))
def v6:Ct:=.pure true true (.pair (.slice ai) (.pair (.int .i64) .unit)) (.slice ai) (fun x=>lk x.1 x.2.1)
theorem vp:KC 323 v6:=pq En Dr Tryz.func323
def ll:((List ai.D)×((List Int)×(List ai.D)))→Option (((List ai.D)×((List Int)×(List ai.D)))⊕((List ai.D)×((List Int)×(List ai.D)))):=fun s5 =>
 bif decide ((s5.2.2.length:Int) > 0) then (
(vX s5.2.1 (s5.2.2.length:Int)).bind fun y6 =>
 idx s5.2.2 y6.1 fun _ =>
(s5.2.2[(y6.1:Int).toNat]?).bind fun x7 =>
 if (s5.1.length + [x7].length) * (24 * 16)≤aI then (
 if 0≤(0:Int) then (if (0:Int)≤y6.1 then (if y6.1≤(s5.2.2.length:Int) then (
 if (([]:List ai.D).length + ((s5.2.2.take (y6.1.toNat)).drop ((0:Int).toNat)).length) * (24 * 16)≤aI then (
 if 0≤(IntKind.wrap .i64 (y6.1 + 1)) then (if (IntKind.wrap .i64 (y6.1 + 1))≤(s5.2.2.length:Int) then (if (s5.2.2.length:Int)≤(s5.2.2.length:Int) then (
 if (([]++((s5.2.2.take (y6.1.toNat)).drop ((0:Int).toNat))).length + ((s5.2.2.take ((s5.2.2.length:Int).toNat)).drop ((IntKind.wrap .i64 (y6.1 + 1)).toNat)).length) * (24 * 16)≤aI then (
 some (.inl ((s5.1++[x7]),y6.2.1,(([]++((s5.2.2.take (y6.1.toNat)).drop ((0:Int).toNat)))++((s5.2.2.take ((s5.2.2.length:Int).toNat)).drop ((IntKind.wrap .i64 (y6.1 + 1)).toNat)))))) else none) else none) else none) else none) else none) else none) else none) else none) else none)
 else (
 some (.inr s5))
def lm (a1:(List ai.D)) (y1:(List Int)):((List ai.D)×((List Int)×Int))→Option (((List ai.D)×((List Int)×Int))⊕((List ai.D)×((List Int)×Int))):=fun s2 =>
 bif decide (s2.2.2 < (y1.length:Int)) then (
 idx y1 s2.2.2 fun _ =>
(y1[(s2.2.2:Int).toNat]?).bind fun x3 =>
(lk a1 x3).bind fun y4 =>
(ay (ll) (s2.1,s2.2.1,y4)).bind fun o8 =>
 some (.inl (o8.1,o8.2.1,IntKind.wrap .i64 (s2.2.2 + 1))))
 else (
 some (.inr s2))
def iP (a1:(List ai.D)) (y1:(List Int)):((List ai.D)×Int)→Option (((List ai.D)×Int)⊕((List ai.D)×Int)):=fun s10 =>
 bif decide (s10.2 < (a1.length:Int)) then (
 idx a1 s10.2 fun x11 =>
(vV y1 x11.2.1).bind fun y12 =>
((bif (!y12) then (
 idx a1 s10.2 fun x13 =>
 if (s10.1.length + [x13].length) * (24 * 16)≤aI then (
 some (s10.1++[x13])) else none)
 else (
 some s10.1)):Option (List ai.D)).bind fun o14 =>
 some (.inl (o14,IntKind.wrap .i64 (s10.2 + 1))))
 else (
 some (.inr s10))
def mU (a0:ae.D) (a1:(List ai.D)) (a2:(List Int)):Option ((List ai.D)×((List Int)×Unit)) :=
 if (([]:List Int).length + a2.length) * (24 * 1)≤aI then (
(gV a0).bind fun y1 =>
(ay (lm a1 y1) ([],([]++a2),0)).bind fun o9 =>
(ay (iP a1 y1) (o9.1,0)).bind fun o15 =>
 some (o15.1,o9.2.1,())) else none
def Ij:Hints:=(n0 (n0 (n0 (n0 (nd (n0 (nd (.node none (some ⟨[.tmpO 8 0 (.slice ai),.tmpO 9 0 (.slice (.int .i64)),.tmp 11 (.int .i64)],[some 0],none,[]⟩) (n0 (nd (nd (n0 (nd (.node none (some ⟨[.tmpO 8 1 (.slice ai),.tmpO 9 1 (.slice (.int .i64)),.tmpO 12 0 (.slice ai)],[some 2],none,[]⟩) .none .none) .none)) .none) .none)) .none) .none)) (nd (n0 (nd (.node none (some ⟨[.tmpO 8 1 (.slice ai),.tmp 15 (.int .i64)],[some 4],none,[]⟩) (n0 (nd (nd (n0 (cu ⟨[.tmpO 8 2 (.slice ai)],[none],none,[(8,1)]⟩)) .none) .none)) .none) .none)) .none))))))
def qc:Ct:=.pure false true (.pair ae (.pair (.slice ai) (.pair (.slice (.int .i64)) .unit))) (.pair (.slice ai) (.pair (.slice (.int .i64)) .unit)) (fun x=>mU x.1 x.2.1 x.2.2.1)
theorem yq:KC 227 qc:=pq (Ec l9 (Ec sS (Ec vp (Ec zp En)))) Ij Tryz.func227
def sY (a0:(List aa.D)) (a1:Int):((List aa.D)×Int)→Option (((List aa.D)×Int)⊕((List aa.D)×Int)):=fun s1 =>
 bif decide (s1.2 < (a0.length:Int)) then (
 idx a0 s1.2 fun x2 =>
(oJ x2 a1).bind fun y3 =>
((bif y3 then (
 idx a0 s1.2 fun x4 =>
(eN x4).bind fun y5 =>
 if (s1.1.length + [y5].length) * (24 * 22)≤aI then (
 some (s1.1++[y5])) else none)
 else (
 some s1.1)):Option (List aa.D)).bind fun o6 =>
 some (.inl (o6,IntKind.wrap .i64 (s1.2 + 1))))
 else (
 some (.inr s1))
def qd (a0:(List aa.D)) (a1:Int):Option (List aa.D) :=
(ay (sY a0 a1) ([],0)).bind fun o7 =>
 some o7.1
def J8:Hints:=(n0 (n0 (nd (n0 (nd (.node none (some ⟨[.tmpO 5 0 (.slice aa),.tmp 6 (.int .i64)],[some 0],none,[]⟩) (n0 (nd (nd (n0 (cu ⟨[.tmpO 5 1 (.slice aa)],[none],none,[(5,0)]⟩)) .none) .none)) .none) .none)) .none)))
def ko:Ct:=.pure true true (.pair (.slice aa) (.pair (.int .i64) .unit)) (.slice aa) (fun x=>qd x.1 x.2.1)
theorem qe:KC 102 ko:=pq (Ec dq (Ec Bo En)) J8 Tryz.func102
def pI (x:aK.D) (a0:(List ah.D)):Option (Unit×aK.D) :=
(lj x.1 x.2.1 a0 x.2.2.1).bind fun y1 =>
(uH x.1 y1.1).bind fun y2 =>
(qb y2.1).bind fun y3 =>
(v5 x.1 y2.2.1).bind fun y4 =>
(mU y3.1 y4 y1.2.2.1).bind fun y5 =>
(v5 y2.1 y3.2.1).bind fun y6 =>
(mU y3.1 y6 y5.2.1).bind fun y7 =>
(qd y1.2.1 x.1.2.2.2.1).bind fun y8 =>
 if (x.2.2.2.1.length + y5.1.length) * (24 * 16)≤aI then (
 if ((x.2.2.2.1++y5.1).length + y7.1.length) * (24 * 16)≤aI then (
 if (x.2.2.2.2.1.length + y2.2.1.length) * (24 * 23)≤aI then (
 if ((x.2.2.2.2.1++y2.2.1).length + y3.2.1.length) * (24 * 23)≤aI then (
 if (x.2.2.2.2.2.1.length + y1.2.2.2.1.length) * (24 * 14)≤aI then (
 some ((),(y3.1,y8,y7.2.1,((x.2.2.2.1++y5.1)++y7.1),((x.2.2.2.2.1++y2.2.1)++y3.2.1),(x.2.2.2.2.2.1++y1.2.2.2.1),()))) else none) else none) else none) else none) else none
def xY:Ct:=.run aK [] false false false (.pair (.slice ah) .unit) .unit (fun x y=>pI x y.1)
theorem ER:cS Tryz.prog 100 xY:=L1 (E:={ T:=tab,G:=[(63,l0),(102,ko),(225,ri),(226,rj),(227,qc),(228,uJ)] }) (ar.cons vo (ar.cons qe (ar.cons zu (ar.cons zv (ar.cons yq (ar.cons B8 (ar.nil dJ))))))) mixed (fn:=Tryz.f100) _ _ _ _ _ _ _ _ .none Tryz.func100 (by kernel_rfl) (fun x y=>by kernel_rfl)
def mV (a0:aK.D) (a1:bm.D):Option (aK.D×(Bool×Unit)) :=
(mN a0).bind fun y1 =>
(uz a0).bind fun y2 =>
 bif (!y2) then (
 some (y1,false,()))
 else (
 bif (a1.1 == 1) then (
(rA a0.2.1 a1.2.1).bind fun y3 =>
 some ((y1.1,y3.1,y1.2.2),y3.2))
 else (
 bif (a1.1 == 2) then (
(Ar a0.2.1 a1.2.2.1).bind fun y4 =>
 some ((y1.1,y4.1,y1.2.2),y4.2))
 else (
 bif (a1.1 == 3) then (
(mO a1.2.2.2.1).bind fun y5 =>
 bif (!y5) then (
 some (y1,false,()))
 else (
(pI y1 a1.2.2.2.1).bind fun y6 =>
 some (y6.2,true,())))
 else (
 bif (a1.1 == 4) then (
 bif (a0.1.2.2.2.1 == 9999) then (
 some (y1,false,()))
 else (
(gV a0.1).bind fun y7 =>
 idx y7 1 fun _ =>
(y7[(1:Int).toNat]?).bind fun x8 =>
(qd a0.2.1 (IntKind.wrap .i64 (a0.1.2.2.2.1 + 1))).bind fun y9 =>
 some (((y1.1.1,y1.1.2.1,x8,IntKind.wrap .i64 (a0.1.2.2.2.1 + 1),()),y9,y1.2.2),true,())))
 else (
 some (y1,false,()))))))
def Ik:Hints:=(n0 (n0 (n0 (nd (n0 (nd (n0 (n0 (n0 (n0 (n0 (nd (n0 (nd (.node none (some ⟨[],[some 2],none,[]⟩) .none .none) .none)) .none)))))) .none)) .none))))
def qf:Ct:=.pure false true (.pair aK (.pair bm .unit)) (.pair aK (.pair .bool .unit)) (fun x=>mV x.1 x.2.1)
theorem ot:cS Tryz.prog 13 qf:=wK (E:={ T:=tab,G:=[(100,xY),(18,Bp),(78,zn),(97,pY),(98,p8),(99,uA),(101,mT),(102,ko)],Z:=true }) (ar.frz (ar.cons ER (ar.cons H8 (ar.cons xW (ar.cons ol (ar.cons yn (ar.cons BX (ar.cons l9 (ar.cons qe (ar.nil dJ)))))))))) mixed (fn:=Tryz.f13) _ _ _ _ _ Ik Tryz.func13 (by kernel_rfl) (fun x=>by kernel_rfl)
def uK:((List bm.D)×(Int×(al.D×(ae.D×((List aa.D)×((List Int)×((List ai.D)×((List au.D)×((List aF.D)×Unit)))))))))→Option (((List bm.D)×(Int×(al.D×(ae.D×((List aa.D)×((List Int)×((List ai.D)×((List au.D)×((List aF.D)×Unit)))))))))⊕((List bm.D)×(Int×(al.D×(ae.D×((List aa.D)×((List Int)×((List ai.D)×((List au.D)×((List aF.D)×Unit)))))))))):=fun s4 =>
 bif decide (s4.2.1 > 0) then (
(pD s4.2.2.1 s4.2.2.2).bind fun y5 =>
(mV s4.2.2.2 y5.1).bind fun y6 =>
 if (s4.1.length + [y5.1].length) * (24 * 25)≤aI then (
 some (.inl ((s4.1++[y5.1]),IntKind.wrap .i64 (s4.2.1 - 1),y5.2.1,y6.1))) else none)
 else (
 some (.inr s4))
def gW (a0:al.D) (a1:aK.D) (a2:Int):Option ((List bm.D)×(al.D×Unit)) :=
(aN a0 a2).bind fun y1 =>
(ay (uK) ([],IntKind.wrap .i64 (1 + y1.1),y1.2.1,a1)).bind fun o7 =>
 some (o7.1,(o7.2.2.1,()))
def ES:Hints:=(n0 (n0 (nd (n0 (nd (.node none (some ⟨[.tmpO 7 0 (.slice bm),.tmp 8 (.int .i64),.box 0 0 al,.box 4 0 aK],[some 0],none,[]⟩) (n0 (nd (nd (n0 (n0 (nd (cu ⟨[],[],none,[(25,0),(25,1),(25,2),(25,3),(25,4),(25,5),(25,6)]⟩) .none))) .none) .none)) .none) .none)) .none)))
def mW:Ct:=.mut [.ptr,.rd,.rd] true true (.pair al (.pair aK (.pair (.int .i64) .unit))) (.slice bm) (fun x=>gW x.1 x.2.1 x.2.2.1)
theorem gX:cS Tryz.prog 147 mW:=dL (E:={ T:=tab,G:=[(13,qf),(87,oh),(88,bb)],Z:=true }) (ar.frz (ar.cons ot (ar.cons wQ (ar.cons aR (ar.nil dJ))))) mixed (fn:=Tryz.f147) _ _ _ _ _ _ ES Tryz.func147 (by kernel_rfl) (fun x=>by kernel_rfl)
def pJ (a0:(List Int)):Option (aK.D×((List bm.D)×Unit)) :=
(oG a0).bind fun y1 =>
(iq y1).bind fun y2 =>
(gW y2.2.1 y2.1 7).bind fun y3 =>
 some (y2.1,y3.1,())
def Gk:Ct:=.pure false false (.pair (.slice (.int .u8)) .unit) (.pair aK (.pair (.slice bm) .unit)) (fun x=>pJ x.1)
theorem ET:KC 38 Gk:=pq (Ec vk (Ec HR (Ec gX En))) .none Tryz.func38
def eZ (a0:(List aj.D)):Option (List aj.D) :=
 if (([]:List aj.D).length + a0.length) * (24 * 13)≤aI then (
 some ([]++a0)) else none
def nM:Ct:=.pure true true (.pair (.slice aj) .unit) (.slice aj) (fun x=>eZ x.1)
theorem mX:cS Tryz.prog 263 nM:=EM (E:={ T:=tab,G:=[] }) (ar.nil dJ) mixed (fn:=Tryz.f263) _ _ aj _ _ .none .none Tryz.func263 (by kernel_rfl) (by kernel_rfl) (fun x=>by kernel_rfl)
def fC (a0:(List aB.D)):Option (List aB.D) :=
 if (([]:List aB.D).length + a0.length) * (24 * 3)≤aI then (
 some ([]++a0)) else none
def oP:Ct:=.pure true true (.pair (.slice aB) .unit) (.slice aB) (fun x=>fC x.1)
theorem nN:cS Tryz.prog 264 oP:=EM (E:={ T:=tab,G:=[] }) (ar.nil dJ) mixed (fn:=Tryz.f264) _ _ aB _ _ .none .none Tryz.func264 (by kernel_rfl) (by kernel_rfl) (fun x=>by kernel_rfl)
def cN (a0:ae.D):Option ae.D :=
(eZ a0.1).bind fun y1 =>
(fC a0.2.1).bind fun y2 =>
 some (y1,y2,a0.2.2)
def wY:Ct:=.pure true true (.pair ae .unit) ae (fun x=>cN x.1)
theorem bH:KC 151 wY:=pq (Ec mX (Ec nN En)) .none Tryz.func151
def bu (a0:(List ah.D)):Option (List ah.D) :=
 if (([]:List ah.D).length + a0.length) * (24 * 7)≤aI then (
 some ([]++a0)) else none
def nO:Ct:=.pure true true (.pair (.slice ah) .unit) (.slice ah) (fun x=>bu x.1)
theorem dQ:cS Tryz.prog 282 nO:=EM (E:={ T:=tab,G:=[] }) (ar.nil dJ) mixed (fn:=Tryz.f282) _ _ ah _ _ .none .none Tryz.func282 (by kernel_rfl) (by kernel_rfl) (fun x=>by kernel_rfl)
def dx (a0:aa.D):Option aa.D :=
(bu a0.2.2.2.2.2.2.1.2.2.2.2.2.2.1).bind fun y1 =>
 some (a0.1,a0.2.1,a0.2.2.1,a0.2.2.2.1,a0.2.2.2.2.1,a0.2.2.2.2.2.1,(a0.2.2.2.2.2.2.1.1,a0.2.2.2.2.2.2.1.2.1,a0.2.2.2.2.2.2.1.2.2.1,a0.2.2.2.2.2.2.1.2.2.2.1,a0.2.2.2.2.2.2.1.2.2.2.2.1,a0.2.2.2.2.2.2.1.2.2.2.2.2.1,y1,()),a0.2.2.2.2.2.2.2)
def v7:Ct:=.pure true true (.pair aa .unit) aa (fun x=>dx x.1)
theorem dt:KC 210 v7:=pq (Ec dQ En) .none Tryz.func210
def mY (a0:(List aa.D)):((List aa.D)×Int)→Option (((List aa.D)×Int)⊕((List aa.D)×Int)):=fun s1 =>
 bif decide (s1.2 < (a0.length:Int)) then (
 idx a0 s1.2 fun x2 =>
(dx x2).bind fun y3 =>
 if (s1.1.length + [y3].length) * (24 * 22)≤aI then (
 some (.inl ((s1.1++[y3]),IntKind.wrap .i64 (s1.2 + 1)))) else none)
 else (
 some (.inr s1))
def b8 (a0:(List aa.D)):Option (List aa.D) :=
(ay (mY a0) ([],0)).bind fun o4 =>
 some o4.1
def EU:Hints:=(n0 (n0 (nd (n0 (nd (.node none (some ⟨[.tmpO 3 0 (.slice aa),.tmp 9 (.int .i64)],[some 0],none,[]⟩) .none .none) .none)) .none)))
def iE:Ct:=.pure true true (.pair (.slice aa) .unit) (.slice aa) (fun x=>b8 x.1)
theorem bv:KC 152 iE:=pq (Ec dt En) EU Tryz.func152
def bw (a0:(List Int)):Option (List Int) :=
 if (([]:List Int).length + a0.length) * (24 * 1)≤aI then (
 some ([]++a0)) else none
def eO:Ct:=.pure true true (.pair (.slice (.int .i64)) .unit) (.slice (.int .i64)) (fun x=>bw x.1)
theorem bz:cS Tryz.prog 153 eO:=EM (E:={ T:=tab,G:=[] }) (ar.nil dJ) mixed (fn:=Tryz.f153) _ _ (.int .i64) _ _ .none .none Tryz.func153 (by kernel_rfl) (by kernel_rfl) (fun x=>by kernel_rfl)
def bM (a0:(List ai.D)):Option (List ai.D) :=
 if (([]:List ai.D).length + a0.length) * (24 * 16)≤aI then (
 some ([]++a0)) else none
def ml:Ct:=.pure true true (.pair (.slice ai) .unit) (.slice ai) (fun x=>bM x.1)
theorem dA:cS Tryz.prog 205 ml:=EM (E:={ T:=tab,G:=[] }) (ar.nil dJ) mixed (fn:=Tryz.f205) _ _ ai _ _ .none .none Tryz.func205 (by kernel_rfl) (by kernel_rfl) (fun x=>by kernel_rfl)
def iF (a0:(List au.D)):Option (List au.D) :=
 if (([]:List au.D).length + a0.length) * (24 * 23)≤aI then (
 some ([]++a0)) else none
def oQ:Ct:=.pure true true (.pair (.slice au) .unit) (.slice au) (fun x=>iF x.1)
theorem nP:cS Tryz.prog 206 oQ:=EM (E:={ T:=tab,G:=[] }) (ar.nil dJ) mixed (fn:=Tryz.f206) _ _ au _ _ .none .none Tryz.func206 (by kernel_rfl) (by kernel_rfl) (fun x=>by kernel_rfl)
def mZ (a0:(List aF.D)):((List aF.D)×Int)→Option (((List aF.D)×Int)⊕((List aF.D)×Int)):=fun s1 =>
 bif decide (s1.2 < (a0.length:Int)) then (
 idx a0 s1.2 fun x2 =>
(bu x2.2.2.2.2.2.1).bind fun y3 =>
 if (s1.1.length + [(x2.1,x2.2.1,x2.2.2.1,x2.2.2.2.1,x2.2.2.2.2.1,y3,x2.2.2.2.2.2.2)].length) * (24 * 14)≤aI then (
 some (.inl ((s1.1++[(x2.1,x2.2.1,x2.2.2.1,x2.2.2.2.1,x2.2.2.2.2.1,y3,x2.2.2.2.2.2.2)]),IntKind.wrap .i64 (s1.2 + 1)))) else none)
 else (
 some (.inr s1))
def gY (a0:(List aF.D)):Option (List aF.D) :=
(ay (mZ a0) ([],0)).bind fun o4 =>
 some o4.1
def EV:Hints:=(n0 (n0 (nd (n0 (nd (.node none (some ⟨[.tmpO 3 0 (.slice aF),.tmp 9 (.int .i64)],[some 0],none,[]⟩) .none .none) .none)) .none)))
def iG:Ct:=.pure true true (.pair (.slice aF) .unit) (.slice aF) (fun x=>gY x.1)
theorem gZ:KC 167 iG:=pq (Ec dQ En) EV Tryz.func167
def kH (a0:aK.D):Option aK.D :=
(cN a0.1).bind fun y1 =>
(b8 a0.2.1).bind fun y2 =>
(bw a0.2.2.1).bind fun y3 =>
(bM a0.2.2.2.1).bind fun y4 =>
(iF a0.2.2.2.2.1).bind fun y5 =>
(gY a0.2.2.2.2.2.1).bind fun y6 =>
 some (y1,y2,y3,y4,y5,y6,())
def yr:Ct:=.pure true true (.pair aK .unit) aK (fun x=>kH x.1)
theorem m8:KC 91 yr:=pq (Ec bH (Ec bv (Ec bz (Ec gZ (Ec dA (Ec nP En)))))) .none Tryz.func91
def bo (a0:Int) (a1:Int) (a2:Int):Option Bool :=
 bif decide (a0≥a1) then (
 some (decide (a0≤a2)))
 else (
 some false)
def N7:Ct:=.pure true false (.pair (.int .i64) (.pair (.int .i64) (.pair (.int .i64) .unit))) .bool (fun x=>bo x.1 x.2.1 x.2.2.1)
theorem cm:KC 186 N7:=pq En .none Tryz.func186
def bc (a0:ae.D) (a1:Int):Option Bool :=
(bo a1 0 (IntKind.wrap .i64 ((a0.2.1.length:Int) - 1))).bind fun y1 =>
 some y1
def J9:Ct:=.pure true false (.pair ae (.pair (.int .i64) .unit)) .bool (fun x=>bc x.1 x.2.1)
theorem hU:KC 187 J9:=pq (Ec cm En) .none Tryz.func187
def qg (a0:Int):Option Bool :=
(bo a0 0 9999).bind fun y1 =>
 some y1
def Ka:Ct:=.pure true false (.pair (.int .i64) .unit) .bool (fun x=>qg x.1)
theorem zw:KC 188 Ka:=pq (Ec cm En) .none Tryz.func188
def cJ (a0:Int):Option Bool :=
(bo a0 1 99).bind fun y1 =>
 some y1
def N8:Ct:=.pure true false (.pair (.int .i64) .unit) .bool (fun x=>cJ x.1)
theorem jW:KC 236 N8:=pq (Ec cm En) .none Tryz.func236
def bl (a0:Int):Option Bool :=
(bo a0 0 2).bind fun y1 =>
 some y1
def Gl:Ct:=.pure true false (.pair (.int .i64) .unit) .bool (fun x=>bl x.1)
theorem hY:KC 237 Gl:=pq (Ec cm En) .none Tryz.func237
def it (a0:Int):Option Bool :=
(bo a0 1 4).bind fun y1 =>
 some y1
def Kb:Ct:=.pure true false (.pair (.int .i64) .unit) .bool (fun x=>it x.1)
theorem sZ:KC 276 Kb:=pq (Ec cm En) .none Tryz.func276
def iW (a0:Int):Option Bool :=
(bo a0 0 63).bind fun y1 =>
 some y1
def Gm:Ct:=.pure true false (.pair (.int .i64) .unit) .bool (fun x=>iW x.1)
theorem v8:KC 291 Gm:=pq (Ec cm En) .none Tryz.func291
def bT (a0:Int):Option Bool :=
(bo a0 0 2147483647).bind fun y1 =>
 some y1
def Gn:Ct:=.pure true false (.pair (.int .i64) .unit) .bool (fun x=>bT x.1)
theorem hZ:KC 193 Gn:=pq (Ec cm En) .none Tryz.func193
def rG (a0:aj.D):Option Bool :=
(((cJ a0.1).bind fun y1 =>
 bif (!y1) then (
 some true)
 else (
(bl a0.2.1).bind fun y2 =>
 bif (!y2) then (
 some true)
 else (
(bl a0.2.2.1).bind fun y3 =>
 bif (!y3) then (
 some true)
 else (
(it a0.2.2.2.1).bind fun y4 =>
 bif (!y4) then (
 some true)
 else (
(qg a0.2.2.2.2.1).bind fun y5 =>
 bif (!y5) then (
 some true)
 else (
(bo a0.2.2.2.2.2.1 0 999).bind fun y6 =>
 bif (!y6) then (
 some true)
 else (
(bo a0.2.2.2.2.2.2.1 0 999).bind fun y7 =>
 bif (!y7) then (
 some true)
 else (
(iW a0.2.2.2.2.2.2.2.1).bind fun y8 =>
 some (!y8))))))))):Option Bool).bind fun o9 =>
 bif o9 then (
 some false)
 else (
 bif (a0.2.2.2.1 != 2) then (
((bif (a0.2.2.1 == a0.2.1) then (
 bif (a0.2.2.2.2.2.2.2.2.1 == 0) then (
 bif (a0.2.2.2.2.2.2.2.2.2.1 == 0) then (
 bif (a0.2.2.2.2.2.2.2.2.2.2.1 == 0) then (
 bif (!a0.2.2.2.2.2.2.2.2.2.2.2.1) then (
 some (!a0.2.2.2.2.2.2.2.2.2.2.2.2.1))
 else (
 some false))
 else (
 some false))
 else (
 some false))
 else (
 some false))
 else (
 some false)):Option Bool).bind fun o10 =>
 some o10)
 else (
(bT a0.2.2.2.2.2.2.2.2.1).bind fun y11 =>
 bif y11 then (
(bT a0.2.2.2.2.2.2.2.2.2.1).bind fun y12 =>
 bif y12 then (
(bT a0.2.2.2.2.2.2.2.2.2.2.1).bind fun y13 =>
 some y13)
 else (
 some false))
 else (
 some false)))
def Il:Hints:=(n0 (nd (nd (cu ⟨[.tmp 48 .bool],[none],none,[]⟩) .none) (nd (n0 (nd (nd (cu ⟨[.tmp 2 .bool],[none],none,[]⟩) .none) .none)) .none)))
def Im:Ct:=.pure true false (.pair aj .unit) .bool (fun x=>rG x.1)
theorem Gp:KC 189 Im:=pq (Ec cm (Ec zw (Ec hZ (Ec jW (Ec hY (Ec sZ (Ec v8 En))))))) Il Tryz.func189
def de (a0:(List aB.D)) (a1:((aB.D×Unit)→Option Bool)):Int→Option (Int⊕(Int⊕Int)):=fun s1 =>
 bif decide (s1 < (a0.length:Int)) then (
 idx a0 s1 fun x2 =>
(a1 (x2,())).bind fun y3 =>
 bif y3 then (
 some (.inr (.inr s1)))
 else (
 some (.inl (IntKind.wrap .i64 (s1 + 1)))))
 else (
 some (.inr (.inl s1)))
def dR (a0:(List aB.D)) (a1:((aB.D×Unit)→Option Bool)):Option Int :=
(ay (de a0 a1) 0).bind fun o4 =>
 match o4 with
| .inl s5=>(
 some (-1))
| .inr o6=>(
 some o6)
def qO:Hints:=(n0 (nd (n0 (nd (.node none (some ⟨[.tmp 8 (.int .i64)],[some 0],some [.tmp 4 (.int .i64)],[]⟩) .none .none) .none)) .none))
def qP:Ct:=.pure true false (.pair (.slice aB) (.pair (.fn (.pair aB .unit) .bool) .unit)) (.int .i64) (fun x=>dR x.1 x.2.1)
theorem qi:KC 292 qP:=pq En qO Tryz.func292
def df (a0:(List aB.D)) (a1:((aB.D×Unit)→Option Bool)):Option Bool :=
(dR a0 a1).bind fun y1 =>
 some (decide (y1≥0))
def nQ:Ct:=.pure true false (.pair (.slice aB) (.pair (.fn (.pair aB .unit) .bool) .unit)) .bool (fun x=>df x.1 x.2.1)
theorem m9:KC 190 nQ:=pq (Ec qi En) .none Tryz.func190
def cO (a0:Int):Option Int :=
 some (if (if 2147483647 < a0 then 2147483647 else a0) > (-2147483647) then (if 2147483647 < a0 then 2147483647 else a0) else (-2147483647))
def Mq:Ct:=.pure true false (.pair (.int .i64) .unit) (.int .i64) (fun x=>cO x.1)
theorem iX:KC 192 Mq:=pq En .none Tryz.func192
def jH (a0:aB.D):Option Bool :=
(cO a0.1).bind fun y1 =>
 bif (y1 != a0.1) then (
 some true)
 else (
(bT a0.2.1).bind fun y2 =>
 some (!y2))
def EW:Ct:=.pure true false (.pair aB .unit) .bool (fun x=>jH x.1)
theorem Ds:KC 191 EW:=pq (Ec iX (Ec hZ En)) .none Tryz.func191
def ln (a0:ae.D):Int→Option (Int⊕(Int⊕Bool)):=fun s5 =>
 bif decide (s5 < (a0.1.length:Int)) then (
 idx a0.1 s5 fun x6 =>
(((rG x6).bind fun y7 =>
 bif (!y7) then (
 some true)
 else (
(bc a0 x6.2.1).bind fun y8 =>
 bif (!y8) then (
 some true)
 else (
(bc a0 x6.2.2.1).bind fun y9 =>
 bif (!y9) then (
 some true)
 else (
 bif decide (x6.2.2.2.2.1 > a0.2.2.2.1) then (
 some true)
 else (
 bif decide (s5 > 0) then (
 idx a0.1 (IntKind.wrap .i64 (s5 - 1)) fun x10 =>
 some (decide (x10.1≥x6.1)))
 else (
 some false)))))):Option Bool).bind fun o11 =>
 bif o11 then (
 some (.inr (.inr false)))
 else (
 some (.inl (IntKind.wrap .i64 (s5 + 1)))))
 else (
 some (.inr (.inl s5)))
def dS (a0:ae.D):Option Bool :=
((bif decide ((a0.1.length:Int) > 8) then (
 some true)
 else (
(bo (a0.2.1.length:Int) 2 3).bind fun y1 =>
 bif (!y1) then (
 some true)
 else (
(bc a0 a0.2.2.1).bind fun y2 =>
 bif (!y2) then (
 some true)
 else (
(qg a0.2.2.2.1).bind fun y3 =>
 some (!y3))))):Option Bool).bind fun o4 =>
 bif o4 then (
 some false)
 else (
(ay (ln a0) 0).bind fun o12 =>
 match o12 with
| .inl s13=>(
(df a0.2.1 (fun q=>jH q.1)).bind fun y15 =>
 some (!y15))
| .inr o14=>(
 some o14))
def In:Hints:=(n0 (nd (nd (cu ⟨[.tmp 28 .bool],[none],none,[]⟩) .none) (nd (n0 (nd (.node none (some ⟨[.tmp 32 (.int .i64)],[some 0],some [.tmp 2 .bool],[]⟩) (n0 (n0 (nd (nd (n0 (nd (cu ⟨[.tmp 76 .bool],[none],none,[]⟩) .none)) .none) .none))) .none) .none)) .none)))
def zx:Ct:=.pure true false (.pair ae .unit) .bool (fun x=>dS x.1)
theorem ee:KC 81 zx:=pq (Ec cm (Ec hU (Ec zw (Ec Gp (Ec m9 (Ec Ds En)))))) In Tryz.func81
def iu (a0:Int):Option Bool :=
(bo a0 1 6).bind fun y1 =>
 some y1
def Kc:Ct:=.pure true false (.pair (.int .i64) .unit) .bool (fun x=>iu x.1)
theorem zy:KC 347 Kc:=pq (Ec cm En) .none Tryz.func347
def fS (a0:dr.D):Option Bool :=
(((iu a0.1).bind fun y1 =>
 bif (!y1) then (
 some true)
 else (
(bo a0.2.1 0 2).bind fun y2 =>
 bif (!y2) then (
 some true)
 else (
(bo a0.2.2.1 0 99).bind fun y3 =>
 bif (!y3) then (
 some true)
 else (
(iW a0.2.2.2.1).bind fun y4 =>
 bif (!y4) then (
 some true)
 else (
(bo a0.2.2.2.2.1 0 99).bind fun y5 =>
 bif (!y5) then (
 some true)
 else (
(bT a0.2.2.2.2.2.1).bind fun y6 =>
 bif (!y6) then (
 some true)
 else (
(bo a0.2.2.2.2.2.2.1 0 4).bind fun y7 =>
 some (!y7)))))))):Option Bool).bind fun o8 =>
 bif o8 then (
 some false)
 else (
((bif (a0.1 != 1) then (
 bif (a0.2.2.1 != 0) then (
 some true)
 else (
 bif (a0.2.2.2.1 != 0) then (
 some true)
 else (
 bif (a0.1 != 2) then (
 some (a0.2.2.2.2.2.2.1 != 0))
 else (
 some false))))
 else (
 bif (a0.1 != 2) then (
 some (a0.2.2.2.2.2.2.1 != 0))
 else (
 some false))):Option Bool).bind fun o9 =>
 bif o9 then (
 some false)
 else (
 bif (a0.2.2.2.2.1 == 0) then (
 some true)
 else (
 bif (a0.1 != 3) then (
 some (a0.1 != 4))
 else (
 some false))))
def Mr:Hints:=(n0 (nd (nd (cu ⟨[.tmp 42 .bool],[none],none,[]⟩) .none) (nd (nd (cu ⟨[.tmp 65 .bool],[none],none,[]⟩) .none) .none)))
def Ms:Ct:=.pure true false (.pair dr .unit) .bool (fun x=>fS x.1)
theorem Bs:KC 293 Ms:=pq (Ec cm (Ec hZ (Ec v8 (Ec zy En)))) Mr Tryz.func293
def dU (a0:bU.D):Option Bool :=
((bif (a0.1 == 0) then (
 some (a0.1 == 0))
 else (
 some (a0.1 == 3))):Option Bool).bind fun o1 =>
 bif o1 then (
 some (a0.2.1 == 0))
 else (
 bif (a0.1 == 1) then (
(cO a0.2.1).bind fun y2 =>
 some (y2 == a0.2.1))
 else (
((bif (a0.1 == 2) then (
 some (a0.1 == 2))
 else (
 some (a0.1 == 4))):Option Bool).bind fun o3 =>
 bif o3 then (
(bo a0.2.1 0 8).bind fun y4 =>
 some y4)
 else (
 some false)))
def Io:Hints:=(n0 (nd (n0 (nd (nd (n0 (cu ⟨[.tmp 5 .bool],[none],none,[]⟩)) (n0 (n0 (n0 (nd (n0 (cu ⟨[.tmp 19 .bool],[none],none,[]⟩)) .none))))) .none)) .none))
def Ip:Ct:=.pure true false (.pair bU .unit) .bool (fun x=>dU x.1)
theorem xZ:KC 294 Ip:=pq (Ec cm (Ec iX En)) Io Tryz.func294
def bp (a0:(List ah.D)) (a1:((ah.D×Unit)→Option Bool)):Int→Option (Int⊕(Int⊕Int)):=fun s1 =>
 bif decide (s1 < (a0.length:Int)) then (
 idx a0 s1 fun x2 =>
(a1 (x2,())).bind fun y3 =>
 bif y3 then (
 some (.inr (.inr s1)))
 else (
 some (.inl (IntKind.wrap .i64 (s1 + 1)))))
 else (
 some (.inr (.inl s1)))
def bD (a0:(List ah.D)) (a1:((ah.D×Unit)→Option Bool)):Option Int :=
(ay (bp a0 a1) 0).bind fun o4 =>
 match o4 with
| .inl s5=>(
 some (-1))
| .inr o6=>(
 some o6)
def qj:Hints:=(n0 (nd (n0 (nd (.node none (some ⟨[.tmp 8 (.int .i64)],[some 0],some [.tmp 4 (.int .i64)],[]⟩) .none .none) .none)) .none))
def qk:Ct:=.pure true false (.pair (.slice ah) (.pair (.fn (.pair ah .unit) .bool) .unit)) (.int .i64) (fun x=>bD x.1 x.2.1)
theorem ia:KC 290 qk:=pq En qj Tryz.func290
def aU (a0:(List ah.D)) (a1:((ah.D×Unit)→Option Bool)):Option Bool :=
(bD a0 a1).bind fun y1 =>
 some (decide (y1≥0))
def nc:Ct:=.pure true false (.pair (.slice ah) (.pair (.fn (.pair ah .unit) .bool) .unit)) .bool (fun x=>aU x.1 x.2.1)
theorem dG:KC 183 nc:=pq (Ec ia En) .none Tryz.func183
def jX (a0:ah.D):Option Bool :=
(cJ a0.2.2.1).bind fun y1 =>
 bif y1 then (
 some (a0.2.2.2.1 == (-1)))
 else (
 some false)
def Iq:Ct:=.pure true false (.pair ah .unit) .bool (fun x=>jX x.1)
theorem Gq:KC 274 Iq:=pq (Ec jW En) .none Tryz.func274
def pK (a0:ah.D):Option Bool :=
 bif (a0.2.2.1 == 0) then (
(bl a0.2.2.2.1).bind fun y1 =>
 some y1)
 else (
 some false)
def Gr:Ct:=.pure true false (.pair ah .unit) .bool (fun x=>pK x.1)
theorem EX:KC 275 Gr:=pq (Ec hY En) .none Tryz.func275
def cn (a0:ah.D):Option Bool :=
(((bT a0.2.2.2.2.1).bind fun y1 =>
 bif (!y1) then (
 some true)
 else (
 bif (a0.1 != 1) then (
 bif (a0.2.1 != 0) then (
 some true)
 else (
 bif (a0.1 != 2) then (
 bif (a0.2.2.2.2.2.1 != 0) then (
 some true)
 else (
 some a0.2.2.2.2.2.2.1))
 else (
 some false)))
 else (
 bif (a0.1 != 2) then (
 bif (a0.2.2.2.2.2.1 != 0) then (
 some true)
 else (
 some a0.2.2.2.2.2.2.1))
 else (
 some false)))):Option Bool).bind fun o2 =>
 bif o2 then (
 some false)
 else (
 bif (a0.1 == 1) then (
(cJ a0.2.1).bind fun y3 =>
 bif y3 then (
(jX a0).bind fun y4 =>
 bif y4 then (
 some true)
 else (
(pK a0).bind fun y5 =>
 some y5))
 else (
 some false))
 else (
 bif (a0.1 == 2) then (
 bif (a0.2.2.2.2.2.1 == 2) then (
(((jX a0).bind fun y6 =>
 bif y6 then (
 some (decide (a0.2.2.2.2.1≤99)))
 else (
 some false)):Option Bool).bind fun o7 =>
 some o7)
 else (
(jX a0).bind fun y8 =>
 bif y8 then (
(it a0.2.2.2.2.2.1).bind fun y9 =>
 bif y9 then (
 bif (a0.2.2.2.2.1 == 0) then (
 some (!a0.2.2.2.2.2.2.1))
 else (
 some false))
 else (
 some false))
 else (
 some false)))
 else (
((bif (a0.1 == 3) then (
 some (a0.1 == 3))
 else (
 some (a0.1 == 4))):Option Bool).bind fun o10 =>
 bif o10 then (
(pK a0).bind fun y11 =>
 some y11)
 else (
((bif (a0.1 == 5) then (
 some (a0.1 == 5))
 else (
 some (a0.1 == 6))):Option Bool).bind fun o12 =>
 bif o12 then (
(jX a0).bind fun y13 =>
 some y13)
 else (
 some false)))))
def Ir:Hints:=(n0 (nd (nd (cu ⟨[.tmp 30 .bool],[none],none,[]⟩) .none) (nd (n0 (nd (n0 (n0 (n0 (nd (nd (n0 (nd (nd (cu ⟨[.tmp 2 .bool],[none],none,[]⟩) .none) .none)) .none) (nd (n0 (cu ⟨[.tmp 75 .bool],[none],none,[]⟩)) (n0 (nd (n0 (cu ⟨[.tmp 80 .bool],[none],none,[]⟩)) .none))))))) .none)) .none)))
def zz:Ct:=.pure true false (.pair ah .unit) .bool (fun x=>cn x.1)
theorem cw:KC 162 zz:=pq (Ec hZ (Ec jW (Ec Gq (Ec EX (Ec sZ En))))) Ir Tryz.func162
def uL (a0:ah.D):Option Bool :=
(cn a0).bind fun y1 =>
 bif y1 then (
 some true)
 else (
((bif (a0.1 != 2) then (
 some (a0.2.2.2.2.1 == (-1)))
 else (
 some false)):Option Bool).bind fun o2 =>
 bif o2 then (
(cn (a0.1,a0.2.1,a0.2.2.1,a0.2.2.2.1,0,a0.2.2.2.2.2)).bind fun y3 =>
 some y3)
 else (
 some false))
def Kd:Hints:=(n0 (n0 (nd (cu ⟨[.tmp 3 .bool],[none],none,[]⟩) .none)))
def Ke:Ct:=.pure true false (.pair ah .unit) .bool (fun x=>uL x.1)
theorem Is:KC 349 Ke:=pq (Ec cw En) Kd Tryz.func349
def gn (a0:ah.D):Option Bool :=
(uL a0).bind fun y1 =>
 some (!y1)
def It:Ct:=.pure true false (.pair ah .unit) .bool (fun x=>gn x.1)
theorem Gs:KC 348 It:=pq (Ec Is En) .none Tryz.func348
def bE (a0:bR.D):Option Bool :=
((bif (a0.1 != 3) then (
 bif (a0.1 != 8) then (
 bif (a0.2.1 != 0) then (
 some true)
 else (
 bif (a0.1 != 6) then (
 bif (a0.2.2.1 != 0) then (
 some true)
 else (
 bif (a0.2.2.2.1 != (-1)) then (
 some true)
 else (
 bif (a0.1 != 7) then (
 bif (a0.2.2.2.2.1 != 0) then (
 some true)
 else (
 bif (a0.1 != 8) then (
 bif a0.2.2.2.2.2.1 then (
 some true)
 else (
 bif (a0.1 != 9) then (
 some (decide ((a0.2.2.2.2.2.2.1.length:Int) > 0)))
 else (
 some false)))
 else (
 bif (a0.1 != 9) then (
 some (decide ((a0.2.2.2.2.2.2.1.length:Int) > 0)))
 else (
 some false))))
 else (
 bif (a0.1 != 8) then (
 bif a0.2.2.2.2.2.1 then (
 some true)
 else (
 bif (a0.1 != 9) then (
 some (decide ((a0.2.2.2.2.2.2.1.length:Int) > 0)))
 else (
 some false)))
 else (
 bif (a0.1 != 9) then (
 some (decide ((a0.2.2.2.2.2.2.1.length:Int) > 0)))
 else (
 some false))))))
 else (
 bif (a0.1 != 7) then (
 bif (a0.2.2.2.2.1 != 0) then (
 some true)
 else (
 bif (a0.1 != 8) then (
 bif a0.2.2.2.2.2.1 then (
 some true)
 else (
 bif (a0.1 != 9) then (
 some (decide ((a0.2.2.2.2.2.2.1.length:Int) > 0)))
 else (
 some false)))
 else (
 bif (a0.1 != 9) then (
 some (decide ((a0.2.2.2.2.2.2.1.length:Int) > 0)))
 else (
 some false))))
 else (
 bif (a0.1 != 8) then (
 bif a0.2.2.2.2.2.1 then (
 some true)
 else (
 bif (a0.1 != 9) then (
 some (decide ((a0.2.2.2.2.2.2.1.length:Int) > 0)))
 else (
 some false)))
 else (
 bif (a0.1 != 9) then (
 some (decide ((a0.2.2.2.2.2.2.1.length:Int) > 0)))
 else (
 some false))))))
 else (
 bif (a0.1 != 6) then (
 bif (a0.2.2.1 != 0) then (
 some true)
 else (
 bif (a0.2.2.2.1 != (-1)) then (
 some true)
 else (
 bif (a0.1 != 7) then (
 bif (a0.2.2.2.2.1 != 0) then (
 some true)
 else (
 bif (a0.1 != 8) then (
 bif a0.2.2.2.2.2.1 then (
 some true)
 else (
 bif (a0.1 != 9) then (
 some (decide ((a0.2.2.2.2.2.2.1.length:Int) > 0)))
 else (
 some false)))
 else (
 bif (a0.1 != 9) then (
 some (decide ((a0.2.2.2.2.2.2.1.length:Int) > 0)))
 else (
 some false))))
 else (
 bif (a0.1 != 8) then (
 bif a0.2.2.2.2.2.1 then (
 some true)
 else (
 bif (a0.1 != 9) then (
 some (decide ((a0.2.2.2.2.2.2.1.length:Int) > 0)))
 else (
 some false)))
 else (
 bif (a0.1 != 9) then (
 some (decide ((a0.2.2.2.2.2.2.1.length:Int) > 0)))
 else (
 some false))))))
 else (
 bif (a0.1 != 7) then (
 bif (a0.2.2.2.2.1 != 0) then (
 some true)
 else (
 bif (a0.1 != 8) then (
 bif a0.2.2.2.2.2.1 then (
 some true)
 else (
 bif (a0.1 != 9) then (
 some (decide ((a0.2.2.2.2.2.2.1.length:Int) > 0)))
 else (
 some false)))
 else (
 bif (a0.1 != 9) then (
 some (decide ((a0.2.2.2.2.2.2.1.length:Int) > 0)))
 else (
 some false))))
 else (
 bif (a0.1 != 8) then (
 bif a0.2.2.2.2.2.1 then (
 some true)
 else (
 bif (a0.1 != 9) then (
 some (decide ((a0.2.2.2.2.2.2.1.length:Int) > 0)))
 else (
 some false)))
 else (
 bif (a0.1 != 9) then (
 some (decide ((a0.2.2.2.2.2.2.1.length:Int) > 0)))
 else (
 some false))))))
 else (
 bif (a0.1 != 6) then (
 bif (a0.2.2.1 != 0) then (
 some true)
 else (
 bif (a0.2.2.2.1 != (-1)) then (
 some true)
 else (
 bif (a0.1 != 7) then (
 bif (a0.2.2.2.2.1 != 0) then (
 some true)
 else (
 bif (a0.1 != 8) then (
 bif a0.2.2.2.2.2.1 then (
 some true)
 else (
 bif (a0.1 != 9) then (
 some (decide ((a0.2.2.2.2.2.2.1.length:Int) > 0)))
 else (
 some false)))
 else (
 bif (a0.1 != 9) then (
 some (decide ((a0.2.2.2.2.2.2.1.length:Int) > 0)))
 else (
 some false))))
 else (
 bif (a0.1 != 8) then (
 bif a0.2.2.2.2.2.1 then (
 some true)
 else (
 bif (a0.1 != 9) then (
 some (decide ((a0.2.2.2.2.2.2.1.length:Int) > 0)))
 else (
 some false)))
 else (
 bif (a0.1 != 9) then (
 some (decide ((a0.2.2.2.2.2.2.1.length:Int) > 0)))
 else (
 some false))))))
 else (
 bif (a0.1 != 7) then (
 bif (a0.2.2.2.2.1 != 0) then (
 some true)
 else (
 bif (a0.1 != 8) then (
 bif a0.2.2.2.2.2.1 then (
 some true)
 else (
 bif (a0.1 != 9) then (
 some (decide ((a0.2.2.2.2.2.2.1.length:Int) > 0)))
 else (
 some false)))
 else (
 bif (a0.1 != 9) then (
 some (decide ((a0.2.2.2.2.2.2.1.length:Int) > 0)))
 else (
 some false))))
 else (
 bif (a0.1 != 8) then (
 bif a0.2.2.2.2.2.1 then (
 some true)
 else (
 bif (a0.1 != 9) then (
 some (decide ((a0.2.2.2.2.2.2.1.length:Int) > 0)))
 else (
 some false)))
 else (
 bif (a0.1 != 9) then (
 some (decide ((a0.2.2.2.2.2.2.1.length:Int) > 0)))
 else (
 some false)))))):Option Bool).bind fun o1 =>
 bif o1 then (
 some false)
 else (
((bif (a0.1 == 1) then (
 some (a0.1 == 1))
 else (
((bif (a0.1 == 2) then (
 some (a0.1 == 2))
 else (
((bif (a0.1 == 4) then (
 some (a0.1 == 4))
 else (
 some (a0.1 == 5))):Option Bool).bind fun o2 =>
 some o2)):Option Bool).bind fun o3 =>
 some o3)):Option Bool).bind fun o4 =>
 bif o4 then (
 some true)
 else (
 bif (a0.1 == 3) then (
(bo a0.2.1 1 2147483647).bind fun y5 =>
 some y5)
 else (
 bif (a0.1 == 6) then (
(cJ a0.2.2.1).bind fun y6 =>
 bif y6 then (
 bif (a0.2.2.2.1 == (-1)) then (
 some true)
 else (
 bif (a0.2.2.1 == 0) then (
(bl a0.2.2.2.1).bind fun y7 =>
 some y7)
 else (
 some false)))
 else (
 bif (a0.2.2.1 == 0) then (
(bl a0.2.2.2.1).bind fun y8 =>
 some y8)
 else (
 some false)))
 else (
 bif (a0.1 == 7) then (
(it a0.2.2.2.2.1).bind fun y9 =>
 some y9)
 else (
 bif (a0.1 == 8) then (
(bo a0.2.1 0 99).bind fun y10 =>
 some y10)
 else (
 bif (a0.1 == 9) then (
(bo (a0.2.2.2.2.2.2.1.length:Int) 1 3).bind fun y11 =>
 bif y11 then (
(aU a0.2.2.2.2.2.2.1 (fun q=>gn q.1)).bind fun y12 =>
 some (!y12))
 else (
 some false))
 else (
 some false)))))))
def Mt:Hints:=(n0 (nd (nd (cu ⟨[.tmp 60 .bool],[none],none,[]⟩) .none) (nd (n0 (nd (nd (n0 (.node (some ⟨[.tmp 63 .bool],[none],none,[]⟩) none .none (n0 (.node (some ⟨[.tmp 63 .bool],[none],none,[]⟩) none .none (n0 (cu ⟨[.tmp 63 .bool],[none],none,[]⟩)))))) .none) .none)) .none)))
def Mu:Ct:=.pure true false (.pair bR .unit) .bool (fun x=>bE x.1)
theorem Kf:KC 295 Mu:=pq (Ec dG (Ec cm (Ec jW (Ec hY (Ec sZ (Ec Gs En)))))) Mt Tryz.func295
def bG (a0:bR.D) (a1:Int):Option Bool :=
(iu a1).bind fun y1 =>
 bif (!y1) then (
 some false)
 else (
((bif (a0.1 == 1) then (
 some (a0.1 == 1))
 else (
 some (a0.1 == 9))):Option Bool).bind fun o2 =>
 bif o2 then (
 some true)
 else (
((bif (a0.1 == 2) then (
 some (a0.1 == 2))
 else (
 some (a0.1 == 6))):Option Bool).bind fun o3 =>
 bif o3 then (
 some (a1 == 1))
 else (
((bif (a0.1 == 3) then (
 some (a0.1 == 3))
 else (
((bif (a0.1 == 4) then (
 some (a0.1 == 4))
 else (
 some (a0.1 == 5))):Option Bool).bind fun o4 =>
 some o4)):Option Bool).bind fun o5 =>
 bif o5 then (
 some (a1 != 2))
 else (
((bif (a0.1 == 7) then (
 some (a0.1 == 7))
 else (
 some (a0.1 == 8))):Option Bool).bind fun o6 =>
 bif o6 then (
 some (a1 == 2))
 else (
 some false)))))
def Iu:Hints:=(n0 (n0 (nd (n0 (nd (nd (n0 (cu ⟨[.tmp 10 .bool],[none],none,[]⟩)) (n0 (nd (n0 (cu ⟨[.tmp 13 .bool],[none],none,[]⟩)) (n0 (nd (n0 (.node (some ⟨[.tmp 18 .bool],[none],none,[]⟩) none .none (n0 (cu ⟨[.tmp 18 .bool],[none],none,[]⟩)))) (n0 (nd (n0 (cu ⟨[.tmp 24 .bool],[none],none,[]⟩)) .none))))))) .none)) .none)))
def Iv:Ct:=.pure true false (.pair bR (.pair (.int .i64) .unit)) .bool (fun x=>bG x.1 x.2.1)
theorem ya:KC 296 Iv:=pq (Ec zy En) Iu Tryz.func296
def cy (a0:aa.D):Option Bool :=
((bif (a0.2.2.2.2.2.2.1.1 == 2) then (
 some 0)
 else (
 some (-1))):Option Int).bind fun o1 =>
(cJ a0.1).bind fun y2 =>
 bif y2 then (
(bl a0.2.1).bind fun y3 =>
 bif y3 then (
(bo a0.2.2.1 0 99).bind fun y4 =>
 bif y4 then (
(bo a0.2.2.2.1 0 4).bind fun y5 =>
 bif y5 then (
 bif (a0.2.2.2.1 != 0) then (
(fS a0.2.2.2.2.1).bind fun y6 =>
 bif y6 then (
(dU a0.2.2.2.2.2.1).bind fun y7 =>
 bif y7 then (
(bE a0.2.2.2.2.2.2.1).bind fun y8 =>
 bif y8 then (
(bG a0.2.2.2.2.2.2.1 a0.2.2.2.2.1.1).bind fun y9 =>
 bif y9 then (
(bo a0.2.2.2.2.2.2.2.1 (-1) 9999).bind fun y10 =>
 bif y10 then (
(bo a0.2.2.2.2.2.2.2.2.1 o1 2147483647).bind fun y11 =>
 some y11)
 else (
 some false))
 else (
 some false))
 else (
 some false))
 else (
 some false))
 else (
 some false))
 else (
 bif (a0.2.2.1 != 0) then (
(fS a0.2.2.2.2.1).bind fun y12 =>
 bif y12 then (
(dU a0.2.2.2.2.2.1).bind fun y13 =>
 bif y13 then (
(bE a0.2.2.2.2.2.2.1).bind fun y14 =>
 bif y14 then (
(bG a0.2.2.2.2.2.2.1 a0.2.2.2.2.1.1).bind fun y15 =>
 bif y15 then (
(bo a0.2.2.2.2.2.2.2.1 (-1) 9999).bind fun y16 =>
 bif y16 then (
(bo a0.2.2.2.2.2.2.2.2.1 o1 2147483647).bind fun y17 =>
 some y17)
 else (
 some false))
 else (
 some false))
 else (
 some false))
 else (
 some false))
 else (
 some false))
 else (
 some false)))
 else (
 some false))
 else (
 some false))
 else (
 some false))
 else (
 some false)
def Gt:Hints:=(n0 (n0 (nd (n0 (cu ⟨[.tmp 3 (.int .i64)],[none],none,[]⟩)) .none)))
def Gu:Ct:=.pure true false (.pair aa .unit) .bool (fun x=>cy x.1)
theorem oR:KC 194 Gu:=pq (Ec cm (Ec jW (Ec hY (Ec Bs (Ec xZ (Ec Kf (Ec ya En))))))) Gt Tryz.func194
def lq (a0:(List aa.D)):Int→Option (Int⊕(Int⊕Bool)):=fun s1 =>
 bif decide (s1 < (a0.length:Int)) then (
 idx a0 s1 fun x2 =>
(((cy x2).bind fun y3 =>
 bif (!y3) then (
 some true)
 else (
 bif decide (s1 > 0) then (
 idx a0 (IntKind.wrap .i64 (s1 - 1)) fun x4 =>
 some (decide (x4.1≥x2.1)))
 else (
 some false))):Option Bool).bind fun o5 =>
 bif o5 then (
 some (.inr (.inr false)))
 else (
 some (.inl (IntKind.wrap .i64 (s1 + 1)))))
 else (
 some (.inr (.inl s1)))
def go (a0:(List aa.D)):Option Bool :=
(ay (lq a0) 0).bind fun o6 =>
 match o6 with
| .inl s7=>(
 some (decide ((a0.length:Int)≤5)))
| .inr o8=>(
 some o8)
def Iw:Hints:=(n0 (nd (n0 (nd (.node none (some ⟨[.tmp 7 (.int .i64)],[some 0],some [.tmp 2 .bool],[]⟩) (n0 (n0 (nd (nd (n0 (nd (cu ⟨[.tmp 29 .bool],[none],none,[]⟩) .none)) .none) .none))) .none) .none)) .none))
def zA:Ct:=.pure true false (.pair (.slice aa) .unit) .bool (fun x=>go x.1)
theorem lr:KC 82 zA:=pq (Ec oR En) Iw Tryz.func82
def dg (a0:(List aF.D)) (a1:((aF.D×Unit)→Option Bool)):Int→Option (Int⊕(Int⊕Int)):=fun s1 =>
 bif decide (s1 < (a0.length:Int)) then (
 idx a0 s1 fun x2 =>
(a1 (x2,())).bind fun y3 =>
 bif y3 then (
 some (.inr (.inr s1)))
 else (
 some (.inl (IntKind.wrap .i64 (s1 + 1)))))
 else (
 some (.inr (.inl s1)))
def dV (a0:(List aF.D)) (a1:((aF.D×Unit)→Option Bool)):Option Int :=
(ay (dg a0 a1) 0).bind fun o4 =>
 match o4 with
| .inl s5=>(
 some (-1))
| .inr o6=>(
 some o6)
def qQ:Hints:=(n0 (nd (n0 (nd (.node none (some ⟨[.tmp 8 (.int .i64)],[some 0],some [.tmp 4 (.int .i64)],[]⟩) .none .none) .none)) .none))
def qR:Ct:=.pure true false (.pair (.slice aF) (.pair (.fn (.pair aF .unit) .bool) .unit)) (.int .i64) (fun x=>dV x.1 x.2.1)
theorem ql:KC 235 qR:=pq En qQ Tryz.func235
def dh (a0:(List aF.D)) (a1:((aF.D×Unit)→Option Bool)):Option Bool :=
(dV a0 a1).bind fun y1 =>
 some (decide (y1≥0))
def nR:Ct:=.pure true false (.pair (.slice aF) (.pair (.fn (.pair aF .unit) .bool) .unit)) .bool (fun x=>dh x.1 x.2.1)
theorem ne:KC 114 nR:=pq (Ec ql En) .none Tryz.func114
def iY (a0:ah.D):Option Bool :=
(cn a0).bind fun y1 =>
 some (!y1)
def Gv:Ct:=.pure true false (.pair ah .unit) .bool (fun x=>iY x.1)
theorem EY:KC 238 Gv:=pq (Ec cw En) .none Tryz.func238
def jI (a0:aF.D):Option Bool :=
(cJ a0.1).bind fun y1 =>
 bif y1 then (
(bl a0.2.1).bind fun y2 =>
 bif y2 then (
(bo a0.2.2.2.1 1 5).bind fun y3 =>
 bif y3 then (
(bo a0.2.2.1 0 (IntKind.wrap .i64 (a0.2.2.2.1 - 1))).bind fun y4 =>
 bif y4 then (
(bT a0.2.2.2.2.2.2.1).bind fun y5 =>
 bif y5 then (
(bo a0.2.2.2.2.2.2.2.1 0 4).bind fun y6 =>
 bif y6 then (
(cn a0.2.2.2.2.1).bind fun y7 =>
 bif y7 then (
 bif decide ((a0.2.2.2.2.2.1.length:Int)≤3) then (
(aU a0.2.2.2.2.2.1 (fun q=>iY q.1)).bind fun y8 =>
 some (!y8))
 else (
 some false))
 else (
 some false))
 else (
 some false))
 else (
 some false))
 else (
 some false))
 else (
 some false))
 else (
 some false))
 else (
 some false)
def Kg:Ct:=.pure true false (.pair aF .unit) .bool (fun x=>jI x.1)
theorem Ix:KC 116 Kg:=pq (Ec cw (Ec dG (Ec cm (Ec hZ (Ec jW (Ec hY (Ec EY En))))))) .none Tryz.func116
def pL (a0:aF.D):Option Bool :=
(jI a0).bind fun y1 =>
 some (!y1)
def Gw:Ct:=.pure true false (.pair aF .unit) .bool (fun x=>pL x.1)
theorem EZ:KC 115 Gw:=pq (Ec Ix En) .none Tryz.func115
def qm (a0:aK.D):Option Bool :=
(dS a0.1).bind fun y1 =>
 bif y1 then (
(go a0.2.1).bind fun y2 =>
 bif y2 then (
(dh a0.2.2.2.2.2.1 (fun q=>pL q.1)).bind fun y3 =>
 some (!y3))
 else (
 some false))
 else (
 some false)
def Kh:Ct:=.pure true false (.pair aK .unit) .bool (fun x=>qm x.1)
theorem zB:KC 17 Kh:=pq (Ec ee (Ec lr (Ec ne (Ec EZ En)))) .none Tryz.func17
def cK (a0:(List aa.D)) (a1:((aa.D×Unit)→Option Bool)):Int→Option (Int⊕(Int⊕Int)):=fun s1 =>
 bif decide (s1 < (a0.length:Int)) then (
 idx a0 s1 fun x2 =>
(a1 (x2,())).bind fun y3 =>
 bif y3 then (
 some (.inr (.inr s1)))
 else (
 some (.inl (IntKind.wrap .i64 (s1 + 1)))))
 else (
 some (.inr (.inl s1)))
def bN (a0:(List aa.D)) (a1:((aa.D×Unit)→Option Bool)):Option Int :=
(ay (cK a0 a1) 0).bind fun o4 =>
 match o4 with
| .inl s5=>(
 some (-1))
| .inr o6=>(
 some o6)
def oS:Hints:=(n0 (nd (n0 (nd (.node none (some ⟨[.tmp 8 (.int .i64)],[some 0],some [.tmp 4 (.int .i64)],[]⟩) .none .none) .none)) .none))
def oT:Ct:=.pure true false (.pair (.slice aa) (.pair (.fn (.pair aa .unit) .bool) .unit)) (.int .i64) (fun x=>bN x.1 x.2.1)
theorem gH:KC 207 oT:=pq En oS Tryz.func207
def tc (z0:aa.D) (a0:aa.D):Option Bool :=
 some (decide (a0.1≥z0.1))
def E0:Ct:=.clo (.pair aa .unit) (.pair aa .unit) .bool (fun z x=>tc z.1 x.1)
theorem Dt:KC 208 E0:=cq En .none Tryz.func208
def ew (a0:List aa.D) (a1:Int) (a2:List aa.D):Option (List aa.D×Unit):=if 0≤a1∧a1≤(a0.length:Int)∧a2.length=1∧a0.length≤1048576 then some (a0.take a1.toNat++a2++a0.drop a1.toNat,()) else none
def mn:Ct:=.mut [.tk,.rd,.tk] true true (.pair (.slice aa) (.pair (.int .i64) (.pair (.slice aa) .unit))) (.slice aa) (fun x=>ew x.1 x.2.1 x.2.2.1)
theorem lO:cS Tryz.prog 209 mn:=SQ rfl
def yb (z0:Int) (a0:aa.D):Option Bool :=
 some (a0.1 == z0)
def Du:Ct:=.clo (.pair aa .unit) (.pair (.int .i64) .unit) .bool (fun z x=>yb z.1 x.1)
theorem B9:KC 304 Du:=cq En .none Tryz.func304
def gF (a0:(List aa.D)) (a1:Int):Option Int :=
(bN a0 (fun q=>yb a1 q.1)).bind fun y1 =>
 some y1
def yc:Ct:=.pure true false (.pair (.slice aa) (.pair (.int .i64) .unit)) (.int .i64) (fun x=>gF x.1 x.2.1)
theorem jY:KC 211 yc:=pq (Ec gH (Ec B9 En)) .none Tryz.func211
def rH (a0:(List aa.D)) (a1:aa.D):Option ((List aa.D)×(Bool×Unit)) :=
(b8 a0).bind fun y1 =>
(bN a0 (fun q=>tc a1 q.1)).bind fun y2 =>
((bif decide (y2 < 0) then (
 some (a0.length:Int))
 else (
 some y2)):Option Int).bind fun o3 =>
(b8 a0).bind fun y4 =>
(dx a1).bind fun y5 =>
(ew y4 o3 [y5]).bind fun y6 =>
(((gF a0 a1.1).bind fun y7 =>
 bif decide (y7≥0) then (
 some true)
 else (
(go y6.1).bind fun y8 =>
 some (!y8))):Option Bool).bind fun o9 =>
 bif o9 then (
 some (y1,false,()))
 else (
 some (y6.1,true,()))
def Iy:Hints:=(n0 (n0 (n0 (nd (n0 (cu ⟨[.tmp 7 (.int .i64)],[none],none,[]⟩)) (n0 (nd (nd (cu ⟨[.tmp 34 .bool],[none],none,[]⟩) .none) .none))))))
def zC:Ct:=.pure false true (.pair (.slice aa) (.pair aa .unit)) (.pair (.slice aa) (.pair .bool .unit)) (fun x=>rH x.1 x.2.1)
theorem yt:KC 92 zC:=pq (Ec lr (Ec bv (Ec gH (Ec Dt (Ec lO (Ec dt (Ec jY En))))))) Iy Tryz.func92
theorem qn (xs:List bf.D) (i j:Nat) (hij:i < j) (hj:j≤xs.length):dM xs (i:Int) (j:Int)=some (xs.take i++xs.drop j,()):=by
 unfold dM
 have e0:((i:Int) == (j:Int))=false:=by rw [beq_eq_false_iff_ne];omega
 have t2:(xs.length:Int).toNat=xs.length:=by omega
 have t3:i + (xs.length - j) - 0=i + (xs.length - j):=by omega
 simp only [e0,cond_false,t2,Int.toNat_natCast,t3]
 rw [if_pos (by omega),if_pos (by omega),if_pos (by omega),if_pos (by omega),if_pos (by omega),if_pos (by omega),if_pos (by omega),if_pos (by omega),if_pos (by omega),if_pos (by omega),if_pos (by omega),if_pos (by omega),if_pos (by omega),if_pos (by omega),if_pos (by omega)]
 have hlen:(xs.take i++(xs.take xs.length).drop j++xs.drop (i + (xs.length - j))).length=xs.length:=by simp;omega
 rw [if_pos (by rw [hlen];omega)]
 rw [List.drop_zero,List.append_assoc (List.take (i + (xs.length - j)) _),List.take_append_of_le_length (by rw [List.length_take,hlen];omega),List.take_take,Nat.min_self,List.take_append_of_le_length (by simp;omega),List.take_of_length_le (by simp;omega),List.take_length]
def cY (a0:List aa.D) (a1 a2:Int):Option (List aa.D×Unit):=if 0≤a1∧a1 < a2∧a2≤(a0.length:Int) then some (a0.take a1.toNat++a0.drop a2.toNat,()) else none
def mr:Ct:=.mut [.tk,.rd,.rd] true true (.pair (.slice aa) (.pair (.int .i64) (.pair (.int .i64) .unit))) (.slice aa) (fun x=>cY x.1 x.2.1 x.2.2.1)
theorem lP:cS Tryz.prog 212 mr:=by
 refine Uw (t:=aa) (FH:=fun x=>dM x.1 x.2.1 x.2.2.1) rfl kz fun xs i j z hz=>?_
 have hz:cY xs i j=some z:=hz
 unfold cY at hz
 split at hz
 ·rename_i h
  obtain ⟨h1,h2,h3⟩:=h
  cases hz
  obtain ⟨i,rfl⟩:=Int.eq_ofNat_of_zero_le h1
  obtain ⟨j,rfl⟩:=Int.eq_ofNat_of_zero_le (show 0≤j by omega)
  obtain ⟨p1,p2⟩:=NR xs i j (by omega) (by omega)
  refine ⟨_,p2,p1,fun xsH hl=>⟨_,qn xsH i j (by omega) (by omega),?_⟩⟩
  rw [← hl]
  exact (NR xsH i j (by omega) (by omega)).1
 ·cases hz
def Au (a0:(List aa.D)) (a1:Int):Option ((List aa.D)×(Bool×Unit)) :=
(b8 a0).bind fun y1 =>
(gF a0 a1).bind fun y2 =>
 bif decide (y2 < 0) then (
 some (y1,false,()))
 else (
(cY y1 y2 (IntKind.wrap .i64 (y2 + 1))).bind fun y3 =>
 some (y3.1,true,()))
def Dv:Ct:=.pure false true (.pair (.slice aa) (.pair (.int .i64) .unit)) (.pair (.slice aa) (.pair .bool .unit)) (fun x=>Au x.1 x.2.1)
theorem Ca:KC 93 Dv:=pq (Ec bv (Ec jY (Ec lP En))) .none Tryz.func93
def nf (a0:ah.D):Option Bool :=
(cn a0).bind fun y1 =>
 some (!y1)
def E1:Ct:=.pure true false (.pair ah .unit) .bool (fun x=>nf x.1)
theorem Dw:KC 184 E1:=pq (Ec cw En) .none Tryz.func184
def ng (a0:(List ah.D)):Option Bool :=
 bif decide ((a0.length:Int)≤4) then (
(aU a0 (fun q=>nf q.1)).bind fun y1 =>
 some (!y1))
 else (
 some false)
def Iz:Ct:=.pure true false (.pair (.slice ah) .unit) .bool (fun x=>ng x.1)
theorem yd:KC 77 Iz:=pq (Ec dG (Ec Dw En)) .none Tryz.func77
def gJ (a0:(List Int)) (a1:Int):Int→Option (Int⊕(Int⊕Int)):=fun s1 =>
 bif decide (s1 < (a0.length:Int)) then (
 idx a0 s1 fun x2 =>
 bif (a1 == x2) then (
 some (.inr (.inr s1)))
 else (
 some (.inl (IntKind.wrap .i64 (s1 + 1)))))
 else (
 some (.inr (.inl s1)))
def oU (a0:(List Int)) (a1:Int):Option Int :=
(ay (gJ a0 a1) 0).bind fun o3 =>
 match o3 with
| .inl s4=>(
 some (-1))
| .inr o5=>(
 some o5)
def Cb:Hints:=(n0 (nd (n0 (nd (.node none (some ⟨[.tmp 8 (.int .i64)],[some 0],some [.tmp 4 (.int .i64)],[]⟩) .none .none) .none)) .none))
def Cc:Ct:=.pure true false (.pair (.slice (.int .i64)) (.pair (.int .i64) .unit)) (.int .i64) (fun x=>oU x.1 x.2.1)
theorem AP:KC 392 Cc:=pq En Cb Tryz.func392
def kq (a0:(List Int)) (a1:Int):Option Bool :=
(oU a0 a1).bind fun y1 =>
 some (decide (y1≥0))
def yu:Ct:=.pure true false (.pair (.slice (.int .i64)) (.pair (.int .i64) .unit)) .bool (fun x=>kq x.1 x.2.1)
theorem wZ:KC 370 yu:=pq (Ec AP En) .none Tryz.func370
def Dx (a0:(List Int)) (a1:Int):Option Bool :=
(kq a0 a1).bind fun y1 =>
 some y1
def PI:Ct:=.pure true false (.pair (.slice (.int .i64)) (.pair (.int .i64) .unit)) .bool (fun x=>Dx x.1 x.2.1)
theorem N9:KC 341 PI:=pq (Ec wZ En) .none Tryz.func341
def oV (a0:aa.D) (a1:Int):Option Bool :=
 bif (a0.2.2.2.2.2.2.2.2.1 != 0) then (
 bif (a0.2.2.2.2.2.2.2.1 == (-1)) then (
 some true)
 else (
 some (decide (a0.2.2.2.2.2.2.2.1≥a1))))
 else (
 some false)
def Mv:Ct:=.pure true false (.pair aa (.pair (.int .i64) .unit)) .bool (fun x=>oV x.1 x.2.1)
theorem Bt:KC 221 Mv:=pq En .none Tryz.func221
def E2 (a0:aa.D) (a1:ah.D):Option Bool :=
 bif (a0.2.2.2.1 != 0) then (
 some true)
 else (
 bif (a0.2.2.1 == a1.2.1) then (
 some true)
 else (
 some (a0.2.2.1 == a1.2.2.1)))
def Oa:Ct:=.pure true false (.pair aa (.pair ah .unit)) .bool (fun x=>E2 x.1 x.2.1)
theorem Mw:KC 371 Oa:=pq En .none Tryz.func371
def qS (a0:ae.D) (a1:Int):((List Int)×Int)→Option (((List Int)×Int)⊕((List Int)×Int)):=fun s1 =>
 bif decide (s1.2 < (a0.1.length:Int)) then (
 idx a0.1 s1.2 fun x2 =>
((bif (x2.2.2.2.1 == 2) then (
 bif (a1 == (-1)) then (
 some true)
 else (
 some (x2.2.2.1 == a1)))
 else (
 some false)):Option Bool).bind fun o3 =>
 bif o3 then (
 if (s1.1.length + [x2.1].length) * (24 * 1)≤aI then (
 some (.inl ((s1.1++[x2.1]),IntKind.wrap .i64 (s1.2 + 1)))) else none)
 else (
 some (.inl (s1.1,IntKind.wrap .i64 (s1.2 + 1)))))
 else (
 some (.inr s1))
def rI (a0:ae.D) (a1:Int):Option (List Int) :=
(ay (qS a0 a1) ([],0)).bind fun o4 =>
 some o4.1
def IA:Hints:=(n0 (n0 (nd (n0 (nd (.node none (some ⟨[.tmpO 5 0 (.slice (.int .i64)),.tmp 12 (.int .i64)],[some 0],none,[]⟩) (n0 (n0 (nd (nd (n0 (nd (cu ⟨[.tmp 28 .bool],[none],none,[]⟩) .none)) .none) .none))) .none) .none)) .none)))
def zD:Ct:=.pure true true (.pair ae (.pair (.int .i64) .unit)) (.slice (.int .i64)) (fun x=>rI x.1 x.2.1)
theorem yv:KC 393 zD:=pq En IA Tryz.func393
def td (a0:ae.D) (a1:Int):(Int×Int)→Option ((Int×Int)⊕(Int×Int)):=fun s1 =>
 bif decide (s1.2 < (a0.1.length:Int)) then (
 idx a0.1 s1.2 fun x2 =>
((bif (x2.2.2.2.1 == 2) then (
 bif (x2.2.2.1 == a1) then (
 some x2.2.2.2.2.2.2.2.2.2.2.2.2.1)
 else (
 some false))
 else (
 some false)):Option Bool).bind fun o3 =>
 bif o3 then (
 some (.inl (IntKind.wrap .i64 (s1.1 + 1),IntKind.wrap .i64 (s1.2 + 1))))
 else (
 some (.inl (s1.1,IntKind.wrap .i64 (s1.2 + 1)))))
 else (
 some (.inr s1))
def uM (a0:ae.D) (a1:Int):Option Int :=
(ay (td a0 a1) (0,0)).bind fun o4 =>
 some o4.1
def Ki:Hints:=(n0 (n0 (nd (n0 (nd (.node none (some ⟨[.tmp 5 (.int .i64),.tmp 11 (.int .i64)],[some 0],none,[]⟩) (n0 (n0 (nd (nd (n0 (nd (cu ⟨[.tmp 27 .bool],[none],none,[]⟩) .none)) .none) .none))) .none) .none)) .none)))
def Kj:Ct:=.pure true false (.pair ae (.pair (.int .i64) .unit)) (.int .i64) (fun x=>uM x.1 x.2.1)
theorem IB:KC 394 Kj:=pq En Ki Tryz.func394
def w4 (a0:ae.D) (a1:Int) (a2:bU.D):Option Bool :=
(((dU a2).bind fun y1 =>
 bif (!y1) then (
 some true)
 else (
(bc a0 a1).bind fun y2 =>
 some (!y2))):Option Bool).bind fun o3 =>
 bif o3 then (
 some false)
 else (
 bif (a2.1 == 1) then (
 idx a0.2.1 a1 fun x4 =>
 some (decide (x4.1≤a2.2.1)))
 else (
 bif (a2.1 == 2) then (
(rI a0 a1).bind fun y5 =>
 some (decide ((y5.length:Int)≥a2.2.1)))
 else (
 bif (a2.1 == 3) then (
 some (a0.2.2.1 == a1))
 else (
 bif (a2.1 == 4) then (
(uM a0 a1).bind fun y6 =>
 some (decide (y6≥a2.2.1)))
 else (
 some true)))))
def Mx:Hints:=(n0 (nd (nd (cu ⟨[.tmp 15 .bool],[none],none,[]⟩) .none) .none))
def My:Ct:=.pure true false (.pair ae (.pair (.int .i64) (.pair bU .unit))) .bool (fun x=>w4 x.1 x.2.1 x.2.2.1)
theorem Kk:KC 372 My:=pq (Ec hU (Ec xZ (Ec yv (Ec IB En)))) Mx Tryz.func372
def cV (a0:(List aj.D)) (a1:((aj.D×Unit)→Option Bool)):Int→Option (Int⊕(Int⊕Int)):=fun s1 =>
 bif decide (s1 < (a0.length:Int)) then (
 idx a0 s1 fun x2 =>
(a1 (x2,())).bind fun y3 =>
 bif y3 then (
 some (.inr (.inr s1)))
 else (
 some (.inl (IntKind.wrap .i64 (s1 + 1)))))
 else (
 some (.inr (.inl s1)))
def dE (a0:(List aj.D)) (a1:((aj.D×Unit)→Option Bool)):Option Int :=
(ay (cV a0 a1) 0).bind fun o4 =>
 match o4 with
| .inl s5=>(
 some (-1))
| .inr o6=>(
 some o6)
def qo:Hints:=(n0 (nd (n0 (nd (.node none (some ⟨[.tmp 8 (.int .i64)],[some 0],some [.tmp 4 (.int .i64)],[]⟩) .none .none) .none)) .none))
def qp:Ct:=.pure true false (.pair (.slice aj) (.pair (.fn (.pair aj .unit) .bool) .unit)) (.int .i64) (fun x=>dE x.1 x.2.1)
theorem oW:KC 381 qp:=pq En qo Tryz.func381
def zE (z0:Int) (a0:aj.D):Option Bool :=
 some (a0.1 == z0)
def E3:Ct:=.clo (.pair aj .unit) (.pair (.int .i64) .unit) .bool (fun z x=>zE z.1 x.1)
theorem Dy:KC 382 E3:=cq En .none Tryz.func382
def gq (a0:ae.D) (a1:Int):Option Int :=
(dE a0.1 (fun q=>zE a1 q.1)).bind fun y1 =>
 some y1
def IC:Ct:=.pure true false (.pair ae (.pair (.int .i64) .unit)) (.int .i64) (fun x=>gq x.1 x.2.1)
theorem iQ:KC 353 IC:=pq (Ec oW (Ec Dy En)) .none Tryz.func353
def qq (a0:ae.D) (a1:ah.D):Option Int :=
 bif (a1.2.2.1 == 0) then (
(bc a0 a1.2.2.2.1).bind fun y1 =>
 bif y1 then (
 some a1.2.2.2.1)
 else (
 some (-1)))
 else (
(gq a0 a1.2.2.1).bind fun y2 =>
 bif decide (y2 < 0) then (
 some (-1))
 else (
 idx a0.1 y2 fun x3 =>
 some x3.2.2.1))
def Kl:Ct:=.pure true false (.pair ae (.pair ah .unit)) (.int .i64) (fun x=>qq x.1 x.2.1)
theorem zF:KC 346 Kl:=pq (Ec hU (Ec iQ En)) .none Tryz.func346
def lu (a0:ae.D) (a1:Int) (a2:dr.D) (a3:ah.D):Option Bool :=
(qq a0 a3).bind fun y1 =>
((bif (y1 == (-1)) then (
 some true)
 else (
 bif (a2.2.1 == 1) then (
 bif (y1 != a1) then (
 some true)
 else (
 bif (a2.2.1 == 2) then (
 some (y1 == a1))
 else (
 some false)))
 else (
 bif (a2.2.1 == 2) then (
 some (y1 == a1))
 else (
 some false)))):Option Bool).bind fun o2 =>
 bif o2 then (
 some false)
 else (
 bif (a2.2.2.2.2.1 == 0) then (
 some true)
 else (
 some (a2.2.2.2.2.1 == a3.2.2.1)))
def Dz:Hints:=(n0 (n0 (nd (nd (cu ⟨[.tmp 34 .bool],[none],none,[]⟩) .none) .none)))
def DA:Ct:=.pure true false (.pair ae (.pair (.int .i64) (.pair dr (.pair ah .unit)))) .bool (fun x=>lu x.1 x.2.1 x.2.2.1 x.2.2.2.1)
theorem Cd:KC 395 DA:=pq (Ec zF En) Dz Tryz.func395
def gu (a0:ae.D) (a1:ah.D):Option aj.D :=
(gq a0 a1.2.1).bind fun y1 =>
((bif (a1.1 != 1) then (
 some true)
 else (
 some (decide (y1 < 0)))):Option Bool).bind fun o2 =>
 bif o2 then (
 some (0,0,0,0,0,0,0,0,0,0,0,false,false,()))
 else (
 idx a0.1 y1 fun x3 =>
 some x3)
def Km:Hints:=(n0 (n0 (nd (nd (cu ⟨[.tmp 16 .bool],[none],none,[]⟩) .none) .none)))
def Kn:Ct:=.pure true false (.pair ae (.pair ah .unit)) aj (fun x=>gu x.1 x.2.1)
theorem th:KC 313 Kn:=pq (Ec iQ En) Km Tryz.func313
def lw (a0:ae.D) (a1:dr.D) (a2:ah.D):Option Bool :=
 bif (a1.2.2.1 == 0) then (
(gu a0 a2).bind fun y1 =>
 let k2:Int:=IntKind.wrap .i64 (BitVec.ofInt (IntKind.bits .i64) y1.2.2.2.2.2.2.2.1 &&& BitVec.ofInt (IntKind.bits .i64) a1.2.2.2.1).toNat
 some (k2 == a1.2.2.2.1))
 else (
 bif (a1.2.2.1 == a2.2.1) then (
(gu a0 a2).bind fun y3 =>
 let k4:Int:=IntKind.wrap .i64 (BitVec.ofInt (IntKind.bits .i64) y3.2.2.2.2.2.2.2.1 &&& BitVec.ofInt (IntKind.bits .i64) a1.2.2.2.1).toNat
 some (k4 == a1.2.2.2.1))
 else (
 some false))
def DB:Ct:=.pure true false (.pair ae (.pair dr (.pair ah .unit))) .bool (fun x=>lw x.1 x.2.1 x.2.2.1)
theorem Ce:KC 396 DB:=pq (Ec th En) .none Tryz.func396
def rJ (a0:ae.D) (a1:Int) (a2:dr.D) (a3:ah.D):Option Bool :=
(fS a2).bind fun y1 =>
 bif y1 then (
(cn a3).bind fun y2 =>
 bif y2 then (
 bif (a2.1 == a3.1) then (
(lu a0 a1 a2 a3).bind fun y3 =>
 bif y3 then (
(lw a0 a2 a3).bind fun y4 =>
 bif y4 then (
 bif decide (a3.2.2.2.2.1≥a2.2.2.2.2.2.1) then (
 bif (a2.2.2.2.2.2.2.1 == 0) then (
 some true)
 else (
 some (a2.2.2.2.2.2.2.1 == a3.2.2.2.2.2.1)))
 else (
 some false))
 else (
 some false))
 else (
 some false))
 else (
 some false))
 else (
 some false))
 else (
 some false)
def ID:Ct:=.pure true false (.pair ae (.pair (.int .i64) (.pair dr (.pair ah .unit)))) .bool (fun x=>rJ x.1 x.2.1 x.2.2.1 x.2.2.2.1)
theorem Gx:KC 373 ID:=pq (Ec cw (Ec Bs (Ec Cd (Ec Ce En)))) .none Tryz.func373
def sa (a0:ae.D) (a1:aa.D) (a2:ah.D):Option Bool :=
(cy a1).bind fun y1 =>
 bif y1 then (
(oV a1 a0.2.2.2.1).bind fun y2 =>
 bif y2 then (
(E2 a1 a2).bind fun y3 =>
 bif y3 then (
(w4 a0 a1.2.1 a1.2.2.2.2.2.1).bind fun y4 =>
 bif y4 then (
(rJ a0 a1.2.1 a1.2.2.2.2.1 a2).bind fun y5 =>
 some y5)
 else (
 some false))
 else (
 some false))
 else (
 some false))
 else (
 some false)
def Ob:Ct:=.pure true false (.pair ae (.pair aa (.pair ah .unit))) .bool (fun x=>sa x.1 x.2.1 x.2.2.1)
theorem Mz:KC 342 Ob:=pq (Ec oR (Ec Bt (Ec Mw (Ec Kk (Ec Gx En))))) .none Tryz.func342
def lx (a0:ae.D) (a1:(List aa.D)) (a2:ah.D) (a3:(List Int)):((List Int)×(Int×Int))→Option (((List Int)×(Int×Int))⊕((List Int)×(Int×Int))):=fun s1 =>
 bif decide (s1.2.2 < (a1.length:Int)) then (
 idx a1 s1.2.2 fun x2 =>
(((Dx a3 x2.1).bind fun y3 =>
 bif y3 then (
 some true)
 else (
(sa a0 x2 a2).bind fun y4 =>
 some (!y4))):Option Bool).bind fun o5 =>
 bif o5 then (
 some (.inl (s1.1,s1.2.1,IntKind.wrap .i64 (s1.2.2 + 1))))
 else (
((bif ((s1.1.length:Int) == 0) then (
 some true)
 else (
 some (decide (x2.2.2.2.1 < s1.2.1)))):Option Bool).bind fun o6 =>
((bif o6 then (
 if 0≤(0:Int) then (if (0:Int)≤(0:Int) then (if (0:Int)≤(s1.1.length:Int) then (
 some ((s1.1.take ((0:Int).toNat)),x2.2.2.2.1)) else none) else none) else none)
 else (
 some (s1.1,s1.2.1))):Option ((List Int)×Int)).bind fun o7 =>
 bif (x2.2.2.2.1 == o7.2) then (
 if (o7.1.length + [x2.1].length) * (24 * 1)≤aI then (
 some (.inl ((o7.1++[x2.1]),o7.2,IntKind.wrap .i64 (s1.2.2 + 1)))) else none)
 else (
 some (.inl (o7.1,o7.2,IntKind.wrap .i64 (s1.2.2 + 1))))))
 else (
 some (.inr s1))
def rK (a0:ae.D) (a1:(List aa.D)) (a2:ah.D) (a3:(List Int)):Option (List Int) :=
(ay (lx a0 a1 a2 a3) ([],0,0)).bind fun o8 =>
 some o8.1
def IE:Hints:=(n0 (n0 (n0 (nd (n0 (nd (.node none (some ⟨[.tmpO 9 0 (.slice (.int .i64)),.tmp 10 (.int .i64),.tmp 16 (.int .i64)],[some 0],none,[]⟩) (n0 (n0 (nd (nd (n0 (nd (nd (cu ⟨[.tmp 30 .bool],[none],none,[]⟩) .none) (nd (nd (cu ⟨[.tmp 39 .bool],[none],none,[]⟩) (cu ⟨[.tmpO 9 1 (.slice (.int .i64)),.tmp 10 (.int .i64)],[none],none,[(9,0)]⟩)) .none))) .none) .none))) .none) .none)) .none))))
def qr:Ct:=.pure true true (.pair ae (.pair (.slice aa) (.pair ah (.pair (.slice (.int .i64)) .unit)))) (.slice (.int .i64)) (fun x=>rK x.1 x.2.1 x.2.2.1 x.2.2.2.1)
theorem yw:KC 277 qr:=pq (Ec N9 (Ec Mz En)) IE Tryz.func277
end
end Go.Abs
