/- Part of a proof of FnExactDoOrder: see the row. -/
import Derived.Test.YtenadnbpibhmiaaGreatDoGenDO1
set_option linter.unusedVariables false
set_option linter.unusedSimpArgs false
namespace Go.Abs
open Go.Proofs
set_option maxRecDepth 100000
noncomputable section
def bA (a1:((ac.D×Unit)→Option Bool)):((List ac.D)×(Int×Int))→Option (((List ac.D)×(Int×Int))⊕((List ac.D)×(Int×Int))):=fun s3 =>
 bif decide (s3.2.2 < (s3.1.length:Int)) then (
 idx s3.1 s3.2.2 fun _ =>
(s3.1[(s3.2.2:Int).toNat]?).bind fun x4 =>
(a1 (x4,())).bind fun y5 =>
((bif (!y5) then (
 idx s3.1 s3.2.1 fun _ =>
(s3.1[(s3.2.1:Int).toNat]?).bind fun x6 =>
 let u7:(List ac.D):=s3.1.set (s3.2.1:Int).toNat x4
 some (u7,IntKind.wrap .i64 (s3.2.1 + 1)))
 else (
 some (s3.1,s3.2.1))):Option ((List ac.D)×Int)).bind fun o8 =>
 some (.inl (o8.1,o8.2,IntKind.wrap .i64 (s3.2.2 + 1))))
 else (
 some (.inr s3))
def be (a0:(List ac.D)) (a1:((ac.D×Unit)→Option Bool)):Option ((List ac.D)×Unit) :=
(bj a0 a1).bind fun y1 =>
 bif (y1 == (-1)) then (
 some (a0,()))
 else (
(al (bA a1) (a0,y1,IntKind.wrap .i64 (y1 + 1))).bind fun o9 =>
 if 0≤o9.2.1 then (if o9.2.1≤(o9.1.length:Int) then (if (o9.1.length:Int)≤(o9.1.length:Int) then (
 if 0≤(0:Int) then (if (0:Int)≤o9.2.1 then (if o9.2.1≤((o9.1.take (o9.2.1.toNat)++List.replicate ((o9.1.length:Int).toNat - o9.2.1.toNat) (0,0,0,0,0,0,false,())++o9.1.drop ((o9.1.length:Int).toNat)).length:Int) then (
 some ((((o9.1.take (o9.2.1.toNat)++List.replicate ((o9.1.length:Int).toNat - o9.2.1.toNat) (0,0,0,0,0,0,false,())++o9.1.drop ((o9.1.length:Int).toNat)).take (o9.2.1.toNat)).drop ((0:Int).toNat)),())) else none) else none) else none) else none) else none) else none)
def nW:Hints:=(n0 (n0 (n0 (nd (n0 (nd (.node none (some ⟨[.tmpO 0 1 (.slice ac),.tmp 5 (.int .i64),.tmp 6 (.int .i64)],[some 0],none,[]⟩) (n0 (nd (nd (n0 (n0 (cu ⟨[.tmpO 0 2 (.slice ac),.tmp 5 (.int .i64)],[none],none,[(0,1)]⟩))) .none) .none)) .none) .none)) .none))))
def jz:Ct:=.mut [.tk,.rd] true true (.pair (.slice ac) (.pair (.fn (.pair ac .unit) .bool) .unit)) (.slice ac) (fun x=>be x.1 x.2.1)
theorem dX:KC 306 jz:=mq (Ec gf En) nW Tryz.func306
def qI (a0:ac.D):Option Bool :=
(bL a0).bind fun y1 =>
 bif (!y1) then (
 some true)
 else (
(uF a0).bind fun y2 =>
 some y2)
def JJ:Ct:=.pure true false (.pair ac .unit) .bool (fun x=>qI x.1)
theorem GN:KC 344 JJ:=pq (Ec bP (Ec Dc En)) .none Tryz.func344
def gg (a0:Int) (a1:Int):Option Int :=
(cd a0).bind fun y1 =>
(cd a1).bind fun y2 =>
(cd (IntKind.wrap .i64 (y1 - y2))).bind fun y3 =>
 some y3
def PF:Ct:=.pure true false bc (.int .i64) (fun x=>gg x.1 x.2.1)
theorem qJ:KC 363 PF:=pq (Ec gZ En) .none Tryz.func363
def vY (a0:aa.D) (a1:Int):Option aa.D :=
(cL a0).bind fun y1 =>
 bif (y1.2.2.2.2.2.2.1.1 == 2) then (
(gg y1.2.2.2.2.2.2.2.2.1 a1).bind fun y2 =>
(lr y2 2147483647).bind fun y3 =>
 some (y1.1,y1.2.1,y1.2.2.1,y1.2.2.2.1,y1.2.2.2.2.1,y1.2.2.2.2.2.1,y1.2.2.2.2.2.2.1,y1.2.2.2.2.2.2.2.1,y3,()))
 else (
 bif decide (y1.2.2.2.2.2.2.2.2.1 > 0) then (
 some (y1.1,y1.2.1,y1.2.2.1,y1.2.2.2.1,y1.2.2.2.2.1,y1.2.2.2.2.2.1,y1.2.2.2.2.2.2.1,y1.2.2.2.2.2.2.2.1,IntKind.wrap .i64 (y1.2.2.2.2.2.2.2.2.1 - 1),()))
 else (
 some y1))
def BH:Ct:=.pure true true (.pair aa (.pair (.int .i64) .unit)) aa (fun x=>vY x.1 x.2.1)
theorem Ai:KC 345 BH:=pq (Ec cI (Ec qJ (Ec mw En))) .none Tryz.func345
def vZ (a0:aa.D) (a1:ac.D):Option ((List ac.D)×(Int×(aa.D×Unit))) :=
(((cJ a0).bind fun y1 =>
 bif (!y1) then (
 some true)
 else (
(bL a1).bind fun y2 =>
 bif (!y2) then (
 some true)
 else (
(dg a0.2.2.2.2.2.2.1 a1.1).bind fun y3 =>
 some (!y3)))):Option Bool).bind fun o4 =>
 bif o4 then (
(cL a0).bind fun y5 =>
 some ([a1],0,y5,()))
 else (
(rQ a0 a1).bind fun y6 =>
(be y6.1 (fun q=>qI q.1)).bind fun y7 =>
(vY a0 y6.2.1).bind fun y8 =>
 some (y7.1,y6.2.1,y8,()))
def N5:Hints:=(n0 (nd (nd (cu ⟨[.tmp 24 .bool],[none],none,[]⟩) .none) .none))
def rR:Ct:=.pure false true (.pair aa (.pair ac .unit)) (.pair (.slice ac) (.pair (.int .i64) (.pair aa .unit))) (fun x=>vZ x.1 x.2.1)
theorem Aj:KC 279 rR:=pq (Ec bP (Ec nQ (Ec cI (Ec wI (Ec dX (Ec Ah (Ec GN (Ec Ai En)))))))) N5 Tryz.func279
def qK (a0:ae.D) (a1:ac.D):Option Int :=
(pv a0 a1).bind fun y1 =>
 bif (y1 != (-1)) then (
 some y1)
 else (
 some a0.2.2.1)
def yU:Ct:=.pure true false (.pair ae (.pair ac .unit)) (.int .i64) (fun x=>qK x.1 x.2.1)
theorem GO:KC 280 yU:=pq (Ec yT En) .none Tryz.func280
def rS (a0:au.D):Option Bool :=
 some true
def uJ:Ct:=.pure true false (.pair au .unit) .bool (fun x=>rS x.1)
theorem De:KC 165 uJ:=pq En .none Tryz.func165
def tz (a0:(List aa.D)) (a1:aa.D):Option (List aa.D) :=
(bO a0).bind fun y1 =>
(fJ a0 a1.1).bind fun y2 =>
 bif decide (y2≥0) then (
(cL a1).bind fun y3 =>
 idx y1 y2 fun _ =>
(y1[(y2:Int).toNat]?).bind fun x4 =>
 let u5:(List aa.D):=y1.set (y2:Int).toNat y3
 some u5)
 else (
 some y1)
def qe:Ct:=.pure true true (.pair (.slice aa) (.pair aa .unit)) (.slice aa) (fun x=>tz x.1 x.2.1)
theorem yV:KC 281 qe:=pq (Ec bn (Ec cI (Ec je En))) .none Tryz.func281
def fk (rec:(sC.D→ac.D→(List Int)→Option (Bool×sC.D))) (x5:Int) (y8:((List ac.D)×(Int×(aa.D×Unit)))) (y12:(List Int)):(Int×(lR.D×(vE.D×Unit)))→Option ((Int×(lR.D×(vE.D×Unit)))⊕((Int×(lR.D×(vE.D×Unit)))⊕(Bool×(lR.D×(vE.D×Unit))))):=fun s14 =>
 bif decide (s14.1 < (y8.1.length:Int)) then (
 idx y8.1 s14.1 fun x15 =>
(rec s14.2 x15 (y12++[x5])).bind fun y16 =>
 bif (!y16.1) then (
 some (.inr (.inr ((false,y16.2)))))
 else (
 some (.inl (IntKind.wrap .i64 (s14.1 + 1),y16.2))))
 else (
 some (.inr (.inl s14)))
def eC (rec:(sC.D→ac.D→(List Int)→Option (Bool×sC.D))) (x:sC.D) (a0:ac.D) (a1:(List Int)):Option (Bool×sC.D) :=
(qG x.1 x.2.1.2.1 a0 a1).bind fun y1 =>
 bif ((y1.length:Int) == 0) then (
(uF a0).bind fun y2 =>
((bif (!y2) then (
 if (x.2.1.1.length + [a0].length) * (24 * 7)≤aC then (
 some (x.1,((x.2.1.1++[a0]),x.2.1.2),())) else none)
 else (
 some x)):Option sC.D).bind fun o3 =>
 some (true,o3))
 else (
(rP x (y1.length:Int)).bind fun y4 =>
 bif (!y4.1.2.1) then (
 some (false,y4.2))
 else (
 idx y1 y4.1.1 fun _ =>
(y1[(y4.1.1:Int).toNat]?).bind fun x5 =>
(fJ y4.2.2.1.2.1 x5).bind fun y6 =>
 idx y4.2.2.1.2.1 y6 fun x7 =>
(vZ x7 a0).bind fun y8 =>
(qK y4.2.1 a0).bind fun y9 =>
(rS (x5,y9,y4.1.1,(y1.length:Int),a0,y8.1,y8.2.1,(a1.length:Int),())).bind fun y10 =>
 bif (!y10) then (
 none)
 else (
(tz y4.2.2.1.2.1 y8.2.2.1).bind fun y11 =>
 if (y4.2.2.1.2.2.2.1.length + [(x5,y9,y4.1.1,(y1.length:Int),a0,y8.1,y8.2.1,(a1.length:Int),())].length) * (24 * 14)≤aC then (
(bm a1).bind fun y12 =>
 if (y12.length + [x5].length) * (24 * 1)≤aC then (
(al (fk rec x5 y8 y12) (0,y4.2.1,(y4.2.2.1.1,y11,y4.2.2.1.2.2.1,(y4.2.2.1.2.2.2.1++[(x5,y9,y4.1.1,(y1.length:Int),a0,y8.1,y8.2.1,(a1.length:Int),())]),()),())).bind fun o17 =>
 match o17 with
| .inl s18=>(
 some (true,s18.2))
| .inr o19=>(
 some (o19.1,o19.2))) else none) else none)))
def cD (n:Nat):sC.D→ac.D→(List Int)→Option (Bool×sC.D):=Nat.rec (motive:=fun _=>(sC.D→ac.D→(List Int)→Option (Bool×sC.D))) (fun _ _ _=>none) (fun _ g=>eC g) n
def Ak:Hints:=(n0 (n0 (nd (n0 (nd (nd (n0 (cu ⟨[.boxO 0 0 6 sC [.fn 163 [(0,1)],.fn 165 []]],[none],none,[(0,2),(0,0),(0,3),(0,4),(0,5)]⟩)) .none) .none)) (nd (.node none (some ⟨[],[some 6],none,[]⟩) .none .none) (n0 (n0 (nd (nd (cu ⟨[],[],none,[(0,7)]⟩) .none) (nd (nd (cu ⟨[],[],none,[(79,0)]⟩) .none) (n0 (n0 (n0 (n0 (nd (nd (nd (cu ⟨[],[],none,[(133,0)]⟩) .none) (nd (.node none (some ⟨[.tmp 136 (.int .i64),.boxO 0 0 10 sC [.fn 163 [(0,1)],.fn 165 []]],[some 0],some [.tmp 6 .bool,.boxO 0 0 10 sC [.fn 163 [(0,1)],.fn 165 []]],[]⟩) (n0 (n0 (nd (nd (n0 (nd (.node none (some ⟨[],[some 3],none,[]⟩) .none .none) .none)) .none) .none))) .none) .none)) .none)))))))))))))
def jA (g:(sC.D→ac.D→(List Int)→Option (Bool×sC.D))):Ct:=.run sC [(163,true),(165,false)] true false true (.pair ac (.pair (.slice (.int .i64)) .unit)) .bool (fun x y=>g x y.1 y.2.1)
theorem yW (n:Nat):fB Tryz.prog 166 (jA (cD n)):=by
 induction n with
 | zero=>exact Pf (fn:=Tryz.f166) sC [(163,true),(165,false)] true false true (.pair ac (.pair (.slice (.int .i64)) .unit)) .bool Tryz.func166 (by kernel_rfl)
 | succ n ih=>exact Nr (E:={ T:=Ui,G:=[(166,jA (cD n)),(163,uH),(153,dN),(165,uJ),(211,wK),(277,px),(278,F5),(279,rR),(280,yU),(281,qe)],V:=[124],Z:=true }) (aE.frz (aE.views (aE.cons (ih) (aE.cons Dd (aE.cons bu (aE.cons De (aE.cons je (aE.cons xE (aE.cons Dc (aE.cons Aj (aE.cons GO (aE.cons yV (aE.nil QK))))))))))))) mixed (fn:=Tryz.f166) sC [(163,true),(165,false)] true false true (.pair ac (.pair (.slice (.int .i64)) .unit)) .bool (fun x y=>eC (cD n) x y.1 y.2.1) Ak Tryz.func166 (by kernel_rfl) (fun x y=>by kernel_rfl)
def jf (a0:ae.D) (a1:(List aa.D)) (a2:ac.D) (a3:(List Int)):Option ba.D :=
(bO a1).bind fun y1 =>
(bm a3).bind fun y2 =>
(((df a0).bind fun y3 =>
 bif (!y3) then (
 some true)
 else (
(bL a2).bind fun y4 =>
 bif (!y4) then (
 some true)
 else (
(fh a1).bind fun y5 =>
 some (!y5)))):Option Bool).bind fun o6 =>
 bif o6 then (
 some ([],y1,y2,[],()))
 else (
(cD 8 (a0,([],y1,y2,[],()),()) a2 []).bind fun y7 =>
(f8 y7.2.2.1.2.2.2.1).bind fun y8 =>
 some (y7.2.2.1.1,y7.2.2.1.2.1,y7.2.2.1.2.2.1,y8,()))
def JK:Hints:=(n0 (n0 (nd (nd (cu ⟨[.tmp 30 .bool],[none],none,[]⟩) .none) (n0 (n0 (nd (.node none (some ⟨[],[some 2],none,[]⟩) .none .none) .none))))))
def yX:Ct:=.pure true true (.pair ae (.pair (.slice aa) (.pair ac (.pair (.slice (.int .i64)) .unit)))) ba (fun x=>jf x.1 x.2.1 x.2.2.1 x.2.2.2.1)
theorem xF:fB Tryz.prog 52 yX:=vD (E:={ T:=tab,G:=[(166,jA (cD 8)),(81,yM),(82,yP),(152,gz),(153,dN),(162,yO),(167,gB)],Z:=true }) (aE.frz (aE.cons (yW 8) (aE.cons dw (aE.cons kv (aE.cons bn (aE.cons bu (aE.cons bP (aE.cons f9 (aE.nil sM))))))))) mixed (fn:=Tryz.f52) _ _ _ _ _ JK Tryz.func52 (by kernel_rfl) (fun x=>by kernel_rfl)
def eD (a0:Unit) (a1:Int):Option ((List ac.D)×Unit) :=
((bif decide (a1 < 0) then (
 none)
 else (
 some ())):Option Unit).bind fun o1 =>
 bif decide ((IntKind.wrap .i64 (a1 - (IntKind.wrap .i64 (0 - 0)))) > 0) then (
 if 0≤(0:Int) then (if (0:Int)≤(0:Int) then (if (0:Int)≤((0:Nat):Int) then (
 if 0 < (IntKind.wrap .i64 (a1 - (IntKind.wrap .i64 (0 - 0)))) then (if (IntKind.wrap .i64 (a1 - (IntKind.wrap .i64 (0 - 0)))).toNat * (24 * 7)≤aC then (
 if 0≤(0:Int) then (if (0:Int)≤(0:Int) then (if (0:Int)≤((List.replicate (IntKind.wrap .i64 (a1 - (IntKind.wrap .i64 (0 - 0)))).toNat (0,0,0,0,0,0,false,()):List ac.D).length:Int) then (
 some ((((List.replicate (IntKind.wrap .i64 (a1 - (IntKind.wrap .i64 (0 - 0)))).toNat (0,0,0,0,0,0,false,()):List ac.D).take ((0:Int).toNat)).drop ((0:Int).toNat)),())) else none) else none) else none) else none) else none) else none) else none) else none)
 else (
 some ([],()))
def tX:Hints:=(n0 (nd (n0 (cu ⟨[],[none],none,[]⟩)) .none))
def nX:Ct:=.mut [.nil,.rd] true true (.pair .unit (.pair (.int .i64) .unit)) (.slice ac) (fun x=>eD x.1 x.2.1)
theorem nh:KC 288 nX:=mq En tX Tryz.func288
def bW (a0:(List (List ac.D))):(Int×Int)→Option ((Int×Int)⊕(Int×Int)):=fun s1 =>
 bif decide (s1.2 < (a0.length:Int)) then (
 idx a0 s1.2 fun x2 =>
 bif decide ((IntKind.wrap .i64 (s1.1 + (x2.length:Int))) < 0) then (
 none)
 else (
 some (.inl (IntKind.wrap .i64 (s1.1 + (x2.length:Int)),IntKind.wrap .i64 (s1.2 + 1)))))
 else (
 some (.inr s1))
def bX (a0:(List (List ac.D))):((List ac.D)×Int)→Option (((List ac.D)×Int)⊕((List ac.D)×Int)):=fun s5 =>
 bif decide (s5.2 < (a0.length:Int)) then (
 idx a0 s5.2 fun x6 =>
 if (s5.1.length + x6.length) * (24 * 7)≤aC then (
 some (.inl ((s5.1++x6),IntKind.wrap .i64 (s5.2 + 1)))) else none)
 else (
 some (.inr s5))
def dO (a0:(List (List ac.D))):Option (List ac.D) :=
(al (bW a0) (0,0)).bind fun o3 =>
(eD () o3.1).bind fun y4 =>
(al (bX a0) (y4.1,0)).bind fun o7 =>
 some o7.1
def rT:Hints:=(n0 (n0 (nd (n0 (nd (.node none (some ⟨[.tmp 3 (.int .i64),.tmp 11 (.int .i64)],[some 0],none,[]⟩) .none .none) .none)) (n0 (nd (n0 (nd (.node none (some ⟨[.tmpO 6 0 (.slice ac),.tmp 27 (.int .i64)],[some 2],none,[]⟩) .none .none) .none)) .none)))))
def fu:Ct:=.pure true true (.pair (.slice (.slice ac)) .unit) (.slice ac) (fun x=>dO x.1)
theorem lG:KC 181 fu:=pq (Ec nh En) rT Tryz.func181
def eQ (a0:Unit) (a1:Int):Option ((List dU.D)×Unit) :=
((bif decide (a1 < 0) then (
 none)
 else (
 some ())):Option Unit).bind fun o1 =>
 bif decide ((IntKind.wrap .i64 (a1 - (IntKind.wrap .i64 (0 - 0)))) > 0) then (
 if 0≤(0:Int) then (if (0:Int)≤(0:Int) then (if (0:Int)≤((0:Nat):Int) then (
 if 0 < (IntKind.wrap .i64 (a1 - (IntKind.wrap .i64 (0 - 0)))) then (if (IntKind.wrap .i64 (a1 - (IntKind.wrap .i64 (0 - 0)))).toNat * (24 * 14)≤aC then (
 if 0≤(0:Int) then (if (0:Int)≤(0:Int) then (if (0:Int)≤((List.replicate (IntKind.wrap .i64 (a1 - (IntKind.wrap .i64 (0 - 0)))).toNat (0,0,0,0,(0,0,0,0,0,0,false,()),[],0,0,()):List dU.D).length:Int) then (
 some ((((List.replicate (IntKind.wrap .i64 (a1 - (IntKind.wrap .i64 (0 - 0)))).toNat (0,0,0,0,(0,0,0,0,0,0,false,()),[],0,0,()):List dU.D).take ((0:Int).toNat)).drop ((0:Int).toNat)),())) else none) else none) else none) else none) else none) else none) else none) else none)
 else (
 some ([],()))
def uK:Hints:=(n0 (nd (n0 (cu ⟨[],[none],none,[]⟩)) .none))
def go:Ct:=.mut [.nil,.rd] true true (.pair .unit (.pair (.int .i64) .unit)) (.slice dU) (fun x=>eQ x.1 x.2.1)
theorem nY:fB Tryz.prog 289 go:=Nq (E:={ T:=Ui,G:=[] }) (aE.nil QK) mixed (fn:=Tryz.f289) _ _ _ _ _ _ uK Tryz.func289 (by kernel_rfl) (fun x=>by kernel_rfl)
def ce (a0:(List (List dU.D))):(Int×Int)→Option ((Int×Int)⊕(Int×Int)):=fun s1 =>
 bif decide (s1.2 < (a0.length:Int)) then (
 idx a0 s1.2 fun x2 =>
 bif decide ((IntKind.wrap .i64 (s1.1 + (x2.length:Int))) < 0) then (
 none)
 else (
 some (.inl (IntKind.wrap .i64 (s1.1 + (x2.length:Int)),IntKind.wrap .i64 (s1.2 + 1)))))
 else (
 some (.inr s1))
def cf (a0:(List (List dU.D))):((List dU.D)×Int)→Option (((List dU.D)×Int)⊕((List dU.D)×Int)):=fun s5 =>
 bif decide (s5.2 < (a0.length:Int)) then (
 idx a0 s5.2 fun x6 =>
 if (s5.1.length + x6.length) * (24 * 14)≤aC then (
 some (.inl ((s5.1++x6),IntKind.wrap .i64 (s5.2 + 1)))) else none)
 else (
 some (.inr s5))
def dY (a0:(List (List dU.D))):Option (List au.D) :=
(al (ce a0) (0,0)).bind fun o3 =>
(eQ () o3.1).bind fun y4 =>
(al (cf a0) (y4.1,0)).bind fun o7 =>
 some o7.1
def sD:Hints:=(n0 (n0 (nd (n0 (nd (.node none (some ⟨[.tmp 3 (.int .i64),.tmp 11 (.int .i64)],[some 0],none,[]⟩) .none .none) .none)) (n0 (nd (n0 (nd (.node none (some ⟨[.tmpO 6 0 (.slice dU),.tmp 27 (.int .i64)],[some 2],none,[]⟩) .none .none) .none)) .none)))))
def jt:Ct:=.pure true false (.pair (.slice (.slice dU)) .unit) (.slice au) (fun x=>dY x.1)
theorem rU:fB Tryz.prog 182 jt:=vD (E:={ T:=Ui,G:=[(289,go)] }) (aE.cons nY (aE.nil QK)) mixed (fn:=Tryz.f182) _ _ _ _ _ sD Tryz.func182 (by kernel_rfl) (fun x=>by kernel_rfl)
def uL (a0:ba.D) (a1:ba.D):Option ba.D :=
(dO [a0.1,a1.1]).bind fun y1 =>
(bO a1.2.1).bind fun y2 =>
(bm a1.2.2.1).bind fun y3 =>
(dY [a0.2.2.2.1,a1.2.2.2.1]).bind fun y4 =>
(f8 y4).bind fun y5 =>
 some (y1,y2,y3,y5,())
def Df:Ct:=.pure true true (.pair ba (.pair ba .unit)) ba (fun x=>uL x.1 x.2.1)
theorem BI:fB Tryz.prog 75 Df:=vD (E:={ T:=tab,G:=[(152,gz),(153,dN),(167,gB),(181,fu),(182,jt)],V:=[9,21] }) (aE.views (aE.cons bn (aE.cons bu (aE.cons f9 (aE.cons lG (aE.cons rU (aE.nil sM))))))) mixed (fn:=Tryz.f75) _ _ _ _ _ .none Tryz.func75 (by kernel_rfl) (fun x=>by kernel_rfl)
def gD (a0:ae.D) (a2:(List ac.D)):(Int×((List ac.D)×((List aa.D)×((List Int)×((List au.D)×Unit)))))→Option ((Int×((List ac.D)×((List aa.D)×((List Int)×((List au.D)×Unit)))))⊕(Int×((List ac.D)×((List aa.D)×((List Int)×((List au.D)×Unit)))))):=fun s8 =>
 bif decide (s8.1 < (a2.length:Int)) then (
 idx a2 s8.1 fun x9 =>
(jf a0 s8.2.2.1 x9 s8.2.2.2.1).bind fun y10 =>
(uL s8.2 y10).bind fun y11 =>
 some (.inl (IntKind.wrap .i64 (s8.1 + 1),y11)))
 else (
 some (.inr s8))
def kz (a0:ae.D) (a1:(List aa.D)) (a2:(List ac.D)) (a3:(List Int)):Option ba.D :=
(bO a1).bind fun y1 =>
(bm a3).bind fun y2 =>
(((mu a2).bind fun y3 =>
 bif (!y3) then (
 some true)
 else (
(df a0).bind fun y4 =>
 bif (!y4) then (
 some true)
 else (
(fh a1).bind fun y5 =>
 some (!y5)))):Option Bool).bind fun o6 =>
 bif o6 then (
 some ([],y1,y2,[],()))
 else (
(al (gD a0 a2) (0,[],y1,y2,[],())).bind fun o12 =>
 some o12.2)
def Dg:Hints:=(n0 (n0 (nd (nd (cu ⟨[.tmp 29 .bool],[none],none,[]⟩) .none) (nd (n0 (nd (.node none (some ⟨[.tmp 33 (.int .i64),.boxO 9 0 1 ba],[some 0],none,[]⟩) .none .none) .none)) .none))))
def uM:Ct:=.pure true true (.pair ae (.pair (.slice aa) (.pair (.slice ac) (.pair (.slice (.int .i64)) .unit)))) ba (fun x=>kz x.1 x.2.1 x.2.2.1 x.2.2.2.1)
theorem tY:KC 65 uM:=pq (Ec xF (Ec BI (Ec wL (Ec dw (Ec kv (Ec bn (Ec bu En))))))) Dg Tryz.func65
def tZ (a0:ac.D):Option Bool :=
 some (a0.1 == 2)
def GP:Ct:=.pure true false (.pair ac .unit) .bool (fun x=>tZ x.1)
theorem EY:KC 305 GP:=pq En .none Tryz.func305
def AU (z0:((ac.D×Unit)→Option Bool)) (a0:ac.D):Option Bool :=
(z0 (a0,())).bind fun y1 =>
 some (!y1)
def GQ:Ct:=.clo (.pair ac .unit) (.pair (.fn (.pair ac .unit) .bool) .unit) .bool (fun z x=>AU z.1 x.1)
theorem EZ:KC 307 GQ:=cq En .none Tryz.func307
def fw (a0:ae.D) (a1:Int):Option Int :=
(fi a0 a1).bind fun y1 =>
((bif decide (y1 < 0) then (
 some true)
 else (
 idx a0.1 y1 fun x2 =>
 some (x2.2.2.2.1 != 2))):Option Bool).bind fun o3 =>
 bif o3 then (
 some (-1))
 else (
 some y1)
def JL:Hints:=(n0 (n0 (nd (nd (cu ⟨[.tmp 19 .bool],[none],none,[]⟩) .none) .none)))
def JM:Ct:=.pure true false (.pair ae (.pair (.int .i64) .unit)) (.int .i64) (fun x=>fw x.1 x.2.1)
theorem pW:KC 380 JM:=pq (Ec gR En) JL Tryz.func380
def my (a0:ae.D) (a1:ac.D):Option Bool :=
 bif (a1.2.2.1 == 0) then (
(aQ a0 a1.2.2.2.1).bind fun y1 =>
 some y1)
 else (
(fw a0 a1.2.2.1).bind fun y2 =>
 some (decide (y2≥0)))
def JN:Ct:=.pure true false (.pair ae (.pair ac .unit)) .bool (fun x=>my x.1 x.2.1)
theorem wM:KC 379 JN:=pq (Ec ga (Ec pW En)) .none Tryz.func379
def aF (a0:ah.D) (a1:Int):Option Bool :=
((bif (a1 == 1) then (
 some (a1 == 1))
 else (
((bif (a1 == 2) then (
 some (a1 == 2))
 else (
((bif (a1 == 4) then (
 some (a1 == 4))
 else (
((bif (a1 == 8) then (
 some (a1 == 8))
 else (
((bif (a1 == 16) then (
 some (a1 == 16))
 else (
 some (a1 == 32))):Option Bool).bind fun o1 =>
 some o1)):Option Bool).bind fun o2 =>
 some o2)):Option Bool).bind fun o3 =>
 some o3)):Option Bool).bind fun o4 =>
 some o4)):Option Bool).bind fun o5 =>
 bif o5 then (
 let k6:Int:=IntKind.wrap .i64 (BitVec.ofInt (IntKind.bits .i64) a0.2.2.2.2.2.2.2.1 &&& BitVec.ofInt (IntKind.bits .i64) a1).toNat
 some (k6 != 0))
 else (
 some false)
def GR:Hints:=(n0 (nd (n0 (nd (nd (n0 (.node (some ⟨[.tmp 6 .bool],[none],none,[]⟩) none .none (n0 (.node (some ⟨[.tmp 6 .bool],[none],none,[]⟩) none .none (n0 (.node (some ⟨[.tmp 6 .bool],[none],none,[]⟩) none .none (n0 (.node (some ⟨[.tmp 6 .bool],[none],none,[]⟩) none .none (n0 (cu ⟨[.tmp 6 .bool],[none],none,[]⟩)))))))))) .none) .none)) .none))
def GS:Ct:=.pure true false (.pair ah (.pair (.int .i64) .unit)) .bool (fun x=>aF x.1 x.2.1)
theorem nZ:KC 44 GS:=pq En GR Tryz.func44
def lu (a0:ae.D) (a1:ah.D) (a2:ac.D):Option (ae.D×(Int×Unit)) :=
(cH a0).bind fun y1 =>
(df y1).bind fun y2 =>
 bif (!y2) then (
 some (y1,0,()))
 else (
(bL a2).bind fun y3 =>
 bif (!y3) then (
 some (y1,0,()))
 else (
 bif (a2.1 != 1) then (
 some (y1,0,()))
 else (
(my y1 a2).bind fun y4 =>
 bif (!y4) then (
 some (y1,0,()))
 else (
(aF a1 2).bind fun y5 =>
 bif (a2.2.2.1 == 0) then (
 bif y5 then (
 idx y1.2.1 a2.2.2.2.1 fun _ =>
(y1.2.1[(a2.2.2.2.1:Int).toNat]?).bind fun x6 =>
(aZ x6.2.1 a2.2.2.2.2.1).bind fun y7 =>
 idx y1.2.1 a2.2.2.2.1 fun _ =>
(y1.2.1[(a2.2.2.2.1:Int).toNat]?).bind fun x8 =>
 let u9:(List ar.D):=y1.2.1.set (a2.2.2.2.1:Int).toNat (x8.1,y7,x8.2.2)
(aF a1 1).bind fun y10 =>
 bif y10 then (
(aQ (y1.1,u9,y1.2.2) a1.2.2.1).bind fun y11 =>
 bif y11 then (
 idx u9 a1.2.2.1 fun _ =>
(u9[(a1.2.2.1:Int).toNat]?).bind fun x12 =>
(aZ x12.1 a2.2.2.2.2.1).bind fun y13 =>
 idx u9 a1.2.2.1 fun _ =>
(u9[(a1.2.2.1:Int).toNat]?).bind fun x14 =>
 let u15:(List ar.D):=u9.set (a1.2.2.1:Int).toNat (y13,x14.2)
 some ((y1.1,u15,y1.2.2),a2.2.2.2.2.1,()))
 else (
 some ((y1.1,u9,y1.2.2),a2.2.2.2.2.1,())))
 else (
 some ((y1.1,u9,y1.2.2),a2.2.2.2.2.1,())))
 else (
 bif (a2.2.2.1 == 0) then (
 idx y1.2.1 a2.2.2.2.1 fun _ =>
(y1.2.1[(a2.2.2.2.1:Int).toNat]?).bind fun x16 =>
(gg x16.1 a2.2.2.2.2.1).bind fun y17 =>
 idx y1.2.1 a2.2.2.2.1 fun _ =>
(y1.2.1[(a2.2.2.2.1:Int).toNat]?).bind fun x18 =>
 let u19:(List ar.D):=y1.2.1.set (a2.2.2.2.1:Int).toNat (y17,x18.2)
(aF a1 1).bind fun y20 =>
 bif y20 then (
(aQ (y1.1,u19,y1.2.2) a1.2.2.1).bind fun y21 =>
 bif y21 then (
 idx u19 a1.2.2.1 fun _ =>
(u19[(a1.2.2.1:Int).toNat]?).bind fun x22 =>
(aZ x22.1 a2.2.2.2.2.1).bind fun y23 =>
 idx u19 a1.2.2.1 fun _ =>
(u19[(a1.2.2.1:Int).toNat]?).bind fun x24 =>
 let u25:(List ar.D):=u19.set (a1.2.2.1:Int).toNat (y23,x24.2)
 some ((y1.1,u25,y1.2.2),a2.2.2.2.2.1,()))
 else (
 some ((y1.1,u19,y1.2.2),a2.2.2.2.2.1,())))
 else (
 some ((y1.1,u19,y1.2.2),a2.2.2.2.2.1,())))
 else (
(fw y1 a2.2.2.1).bind fun y26 =>
 idx y1.1 y26 fun _ =>
 bif y5 then (
(y1.1[(y26:Int).toNat]?).bind fun x27 =>
(aZ x27.2.2.2.2.2.2.2.2.2.1 a2.2.2.2.2.1).bind fun y28 =>
(y1.1[(y26:Int).toNat]?).bind fun x29 =>
 let u30:(List ah.D):=y1.1.set (y26:Int).toNat (x29.1,x29.2.1,x29.2.2.1,x29.2.2.2.1,x29.2.2.2.2.1,x29.2.2.2.2.2.1,x29.2.2.2.2.2.2.1,x29.2.2.2.2.2.2.2.1,x29.2.2.2.2.2.2.2.2.1,y28,x29.2.2.2.2.2.2.2.2.2.2)
(u30[(y26:Int).toNat]?).bind fun x31 =>
 bif x31.2.2.2.2.2.2.2.2.2.2.2.1 then (
(u30[(y26:Int).toNat]?).bind fun x32 =>
 let u33:(List ah.D):=u30.set (y26:Int).toNat (x32.1,x32.2.1,x32.2.2.1,x32.2.2.2.1,x32.2.2.2.2.1,x32.2.2.2.2.2.1,x32.2.2.2.2.2.2.1,x32.2.2.2.2.2.2.2.1,x32.2.2.2.2.2.2.2.2.1,x32.2.2.2.2.2.2.2.2.2.1,x32.2.2.2.2.2.2.2.2.2.2.1,true,x32.2.2.2.2.2.2.2.2.2.2.2.2)
(aF a1 1).bind fun y34 =>
 bif y34 then (
(aQ (u33,y1.2) a1.2.2.1).bind fun y35 =>
 bif y35 then (
 idx y1.2.1 a1.2.2.1 fun _ =>
(y1.2.1[(a1.2.2.1:Int).toNat]?).bind fun x36 =>
(aZ x36.1 a2.2.2.2.2.1).bind fun y37 =>
 idx y1.2.1 a1.2.2.1 fun _ =>
(y1.2.1[(a1.2.2.1:Int).toNat]?).bind fun x38 =>
 let u39:(List ar.D):=y1.2.1.set (a1.2.2.1:Int).toNat (y37,x38.2)
 some ((u33,u39,y1.2.2),a2.2.2.2.2.1,()))
 else (
 some ((u33,y1.2),a2.2.2.2.2.1,())))
 else (
 some ((u33,y1.2),a2.2.2.2.2.1,())))
 else (
(aF a1 4).bind fun y40 =>
 bif y40 then (
(u30[(y26:Int).toNat]?).bind fun x41 =>
 let u42:(List ah.D):=u30.set (y26:Int).toNat (x41.1,x41.2.1,x41.2.2.1,x41.2.2.2.1,x41.2.2.2.2.1,x41.2.2.2.2.2.1,x41.2.2.2.2.2.2.1,x41.2.2.2.2.2.2.2.1,x41.2.2.2.2.2.2.2.2.1,x41.2.2.2.2.2.2.2.2.2.1,x41.2.2.2.2.2.2.2.2.2.2.1,decide (a2.2.2.2.2.1≥1),x41.2.2.2.2.2.2.2.2.2.2.2.2)
(aF a1 1).bind fun y43 =>
 bif y43 then (
(aQ (u42,y1.2) a1.2.2.1).bind fun y44 =>
 bif y44 then (
 idx y1.2.1 a1.2.2.1 fun _ =>
(y1.2.1[(a1.2.2.1:Int).toNat]?).bind fun x45 =>
(aZ x45.1 a2.2.2.2.2.1).bind fun y46 =>
 idx y1.2.1 a1.2.2.1 fun _ =>
(y1.2.1[(a1.2.2.1:Int).toNat]?).bind fun x47 =>
 let u48:(List ar.D):=y1.2.1.set (a1.2.2.1:Int).toNat (y46,x47.2)
 some ((u42,u48,y1.2.2),a2.2.2.2.2.1,()))
 else (
 some ((u42,y1.2),a2.2.2.2.2.1,())))
 else (
 some ((u42,y1.2),a2.2.2.2.2.1,())))
 else (
(u30[(y26:Int).toNat]?).bind fun x49 =>
 let u50:(List ah.D):=u30.set (y26:Int).toNat (x49.1,x49.2.1,x49.2.2.1,x49.2.2.2.1,x49.2.2.2.2.1,x49.2.2.2.2.2.1,x49.2.2.2.2.2.2.1,x49.2.2.2.2.2.2.2.1,x49.2.2.2.2.2.2.2.2.1,x49.2.2.2.2.2.2.2.2.2.1,x49.2.2.2.2.2.2.2.2.2.2.1,false,x49.2.2.2.2.2.2.2.2.2.2.2.2)
(aF a1 1).bind fun y51 =>
 bif y51 then (
(aQ (u50,y1.2) a1.2.2.1).bind fun y52 =>
 bif y52 then (
 idx y1.2.1 a1.2.2.1 fun _ =>
(y1.2.1[(a1.2.2.1:Int).toNat]?).bind fun x53 =>
(aZ x53.1 a2.2.2.2.2.1).bind fun y54 =>
 idx y1.2.1 a1.2.2.1 fun _ =>
(y1.2.1[(a1.2.2.1:Int).toNat]?).bind fun x55 =>
 let u56:(List ar.D):=y1.2.1.set (a1.2.2.1:Int).toNat (y54,x55.2)
 some ((u50,u56,y1.2.2),a2.2.2.2.2.1,()))
 else (
 some ((u50,y1.2),a2.2.2.2.2.1,())))
 else (
 some ((u50,y1.2),a2.2.2.2.2.1,())))))
 else (
(y1.1[(y26:Int).toNat]?).bind fun x57 =>
(aZ x57.2.2.2.2.2.2.2.2.2.2.1 a2.2.2.2.2.1).bind fun y58 =>
(y1.1[(y26:Int).toNat]?).bind fun x59 =>
 let u60:(List ah.D):=y1.1.set (y26:Int).toNat (x59.1,x59.2.1,x59.2.2.1,x59.2.2.2.1,x59.2.2.2.2.1,x59.2.2.2.2.2.1,x59.2.2.2.2.2.2.1,x59.2.2.2.2.2.2.2.1,x59.2.2.2.2.2.2.2.2.1,x59.2.2.2.2.2.2.2.2.2.1,y58,x59.2.2.2.2.2.2.2.2.2.2.2)
(u60[(y26:Int).toNat]?).bind fun x61 =>
 bif x61.2.2.2.2.2.2.2.2.2.2.2.1 then (
(u60[(y26:Int).toNat]?).bind fun x62 =>
 let u63:(List ah.D):=u60.set (y26:Int).toNat (x62.1,x62.2.1,x62.2.2.1,x62.2.2.2.1,x62.2.2.2.2.1,x62.2.2.2.2.2.1,x62.2.2.2.2.2.2.1,x62.2.2.2.2.2.2.2.1,x62.2.2.2.2.2.2.2.2.1,x62.2.2.2.2.2.2.2.2.2.1,x62.2.2.2.2.2.2.2.2.2.2.1,true,x62.2.2.2.2.2.2.2.2.2.2.2.2)
(aF a1 1).bind fun y64 =>
 bif y64 then (
(aQ (u63,y1.2) a1.2.2.1).bind fun y65 =>
 bif y65 then (
 idx y1.2.1 a1.2.2.1 fun _ =>
(y1.2.1[(a1.2.2.1:Int).toNat]?).bind fun x66 =>
(aZ x66.1 a2.2.2.2.2.1).bind fun y67 =>
 idx y1.2.1 a1.2.2.1 fun _ =>
(y1.2.1[(a1.2.2.1:Int).toNat]?).bind fun x68 =>
 let u69:(List ar.D):=y1.2.1.set (a1.2.2.1:Int).toNat (y67,x68.2)
 some ((u63,u69,y1.2.2),a2.2.2.2.2.1,()))
 else (
 some ((u63,y1.2),a2.2.2.2.2.1,())))
 else (
 some ((u63,y1.2),a2.2.2.2.2.1,())))
 else (
(aF a1 4).bind fun y70 =>
 bif y70 then (
(u60[(y26:Int).toNat]?).bind fun x71 =>
 let u72:(List ah.D):=u60.set (y26:Int).toNat (x71.1,x71.2.1,x71.2.2.1,x71.2.2.2.1,x71.2.2.2.2.1,x71.2.2.2.2.2.1,x71.2.2.2.2.2.2.1,x71.2.2.2.2.2.2.2.1,x71.2.2.2.2.2.2.2.2.1,x71.2.2.2.2.2.2.2.2.2.1,x71.2.2.2.2.2.2.2.2.2.2.1,decide (a2.2.2.2.2.1≥1),x71.2.2.2.2.2.2.2.2.2.2.2.2)
(aF a1 1).bind fun y73 =>
 bif y73 then (
(aQ (u72,y1.2) a1.2.2.1).bind fun y74 =>
 bif y74 then (
 idx y1.2.1 a1.2.2.1 fun _ =>
(y1.2.1[(a1.2.2.1:Int).toNat]?).bind fun x75 =>
(aZ x75.1 a2.2.2.2.2.1).bind fun y76 =>
 idx y1.2.1 a1.2.2.1 fun _ =>
(y1.2.1[(a1.2.2.1:Int).toNat]?).bind fun x77 =>
 let u78:(List ar.D):=y1.2.1.set (a1.2.2.1:Int).toNat (y76,x77.2)
 some ((u72,u78,y1.2.2),a2.2.2.2.2.1,()))
 else (
 some ((u72,y1.2),a2.2.2.2.2.1,())))
 else (
 some ((u72,y1.2),a2.2.2.2.2.1,())))
 else (
(u60[(y26:Int).toNat]?).bind fun x79 =>
 let u80:(List ah.D):=u60.set (y26:Int).toNat (x79.1,x79.2.1,x79.2.2.1,x79.2.2.2.1,x79.2.2.2.2.1,x79.2.2.2.2.2.1,x79.2.2.2.2.2.2.1,x79.2.2.2.2.2.2.2.1,x79.2.2.2.2.2.2.2.2.1,x79.2.2.2.2.2.2.2.2.2.1,x79.2.2.2.2.2.2.2.2.2.2.1,false,x79.2.2.2.2.2.2.2.2.2.2.2.2)
(aF a1 1).bind fun y81 =>
 bif y81 then (
(aQ (u80,y1.2) a1.2.2.1).bind fun y82 =>
 bif y82 then (
 idx y1.2.1 a1.2.2.1 fun _ =>
(y1.2.1[(a1.2.2.1:Int).toNat]?).bind fun x83 =>
(aZ x83.1 a2.2.2.2.2.1).bind fun y84 =>
 idx y1.2.1 a1.2.2.1 fun _ =>
(y1.2.1[(a1.2.2.1:Int).toNat]?).bind fun x85 =>
 let u86:(List ar.D):=y1.2.1.set (a1.2.2.1:Int).toNat (y84,x85.2)
 some ((u80,u86,y1.2.2),a2.2.2.2.2.1,()))
 else (
 some ((u80,y1.2),a2.2.2.2.2.1,())))
 else (
 some ((u80,y1.2),a2.2.2.2.2.1,()))))))))
 else (
 bif (a2.2.2.1 == 0) then (
 idx y1.2.1 a2.2.2.2.1 fun _ =>
(y1.2.1[(a2.2.2.2.1:Int).toNat]?).bind fun x87 =>
(gg x87.1 a2.2.2.2.2.1).bind fun y88 =>
 idx y1.2.1 a2.2.2.2.1 fun _ =>
(y1.2.1[(a2.2.2.2.1:Int).toNat]?).bind fun x89 =>
 let u90:(List ar.D):=y1.2.1.set (a2.2.2.2.1:Int).toNat (y88,x89.2)
(aF a1 1).bind fun y91 =>
 bif y91 then (
(aQ (y1.1,u90,y1.2.2) a1.2.2.1).bind fun y92 =>
 bif y92 then (
 idx u90 a1.2.2.1 fun _ =>
(u90[(a1.2.2.1:Int).toNat]?).bind fun x93 =>
(aZ x93.1 a2.2.2.2.2.1).bind fun y94 =>
 idx u90 a1.2.2.1 fun _ =>
(u90[(a1.2.2.1:Int).toNat]?).bind fun x95 =>
 let u96:(List ar.D):=u90.set (a1.2.2.1:Int).toNat (y94,x95.2)
 some ((y1.1,u96,y1.2.2),a2.2.2.2.2.1,()))
 else (
 some ((y1.1,u90,y1.2.2),a2.2.2.2.2.1,())))
 else (
 some ((y1.1,u90,y1.2.2),a2.2.2.2.2.1,())))
 else (
(fw y1 a2.2.2.1).bind fun y97 =>
 idx y1.1 y97 fun _ =>
 bif y5 then (
(y1.1[(y97:Int).toNat]?).bind fun x98 =>
(aZ x98.2.2.2.2.2.2.2.2.2.1 a2.2.2.2.2.1).bind fun y99 =>
(y1.1[(y97:Int).toNat]?).bind fun x100 =>
 let u101:(List ah.D):=y1.1.set (y97:Int).toNat (x100.1,x100.2.1,x100.2.2.1,x100.2.2.2.1,x100.2.2.2.2.1,x100.2.2.2.2.2.1,x100.2.2.2.2.2.2.1,x100.2.2.2.2.2.2.2.1,x100.2.2.2.2.2.2.2.2.1,y99,x100.2.2.2.2.2.2.2.2.2.2)
(u101[(y97:Int).toNat]?).bind fun x102 =>
 bif x102.2.2.2.2.2.2.2.2.2.2.2.1 then (
(u101[(y97:Int).toNat]?).bind fun x103 =>
 let u104:(List ah.D):=u101.set (y97:Int).toNat (x103.1,x103.2.1,x103.2.2.1,x103.2.2.2.1,x103.2.2.2.2.1,x103.2.2.2.2.2.1,x103.2.2.2.2.2.2.1,x103.2.2.2.2.2.2.2.1,x103.2.2.2.2.2.2.2.2.1,x103.2.2.2.2.2.2.2.2.2.1,x103.2.2.2.2.2.2.2.2.2.2.1,true,x103.2.2.2.2.2.2.2.2.2.2.2.2)
(aF a1 1).bind fun y105 =>
 bif y105 then (
(aQ (u104,y1.2) a1.2.2.1).bind fun y106 =>
 bif y106 then (
 idx y1.2.1 a1.2.2.1 fun _ =>
(y1.2.1[(a1.2.2.1:Int).toNat]?).bind fun x107 =>
(aZ x107.1 a2.2.2.2.2.1).bind fun y108 =>
 idx y1.2.1 a1.2.2.1 fun _ =>
(y1.2.1[(a1.2.2.1:Int).toNat]?).bind fun x109 =>
 let u110:(List ar.D):=y1.2.1.set (a1.2.2.1:Int).toNat (y108,x109.2)
 some ((u104,u110,y1.2.2),a2.2.2.2.2.1,()))
 else (
 some ((u104,y1.2),a2.2.2.2.2.1,())))
 else (
 some ((u104,y1.2),a2.2.2.2.2.1,())))
 else (
(aF a1 4).bind fun y111 =>
 bif y111 then (
(u101[(y97:Int).toNat]?).bind fun x112 =>
 let u113:(List ah.D):=u101.set (y97:Int).toNat (x112.1,x112.2.1,x112.2.2.1,x112.2.2.2.1,x112.2.2.2.2.1,x112.2.2.2.2.2.1,x112.2.2.2.2.2.2.1,x112.2.2.2.2.2.2.2.1,x112.2.2.2.2.2.2.2.2.1,x112.2.2.2.2.2.2.2.2.2.1,x112.2.2.2.2.2.2.2.2.2.2.1,decide (a2.2.2.2.2.1≥1),x112.2.2.2.2.2.2.2.2.2.2.2.2)
(aF a1 1).bind fun y114 =>
 bif y114 then (
(aQ (u113,y1.2) a1.2.2.1).bind fun y115 =>
 bif y115 then (
 idx y1.2.1 a1.2.2.1 fun _ =>
(y1.2.1[(a1.2.2.1:Int).toNat]?).bind fun x116 =>
(aZ x116.1 a2.2.2.2.2.1).bind fun y117 =>
 idx y1.2.1 a1.2.2.1 fun _ =>
(y1.2.1[(a1.2.2.1:Int).toNat]?).bind fun x118 =>
 let u119:(List ar.D):=y1.2.1.set (a1.2.2.1:Int).toNat (y117,x118.2)
 some ((u113,u119,y1.2.2),a2.2.2.2.2.1,()))
 else (
 some ((u113,y1.2),a2.2.2.2.2.1,())))
 else (
 some ((u113,y1.2),a2.2.2.2.2.1,())))
 else (
(u101[(y97:Int).toNat]?).bind fun x120 =>
 let u121:(List ah.D):=u101.set (y97:Int).toNat (x120.1,x120.2.1,x120.2.2.1,x120.2.2.2.1,x120.2.2.2.2.1,x120.2.2.2.2.2.1,x120.2.2.2.2.2.2.1,x120.2.2.2.2.2.2.2.1,x120.2.2.2.2.2.2.2.2.1,x120.2.2.2.2.2.2.2.2.2.1,x120.2.2.2.2.2.2.2.2.2.2.1,false,x120.2.2.2.2.2.2.2.2.2.2.2.2)
(aF a1 1).bind fun y122 =>
 bif y122 then (
(aQ (u121,y1.2) a1.2.2.1).bind fun y123 =>
 bif y123 then (
 idx y1.2.1 a1.2.2.1 fun _ =>
(y1.2.1[(a1.2.2.1:Int).toNat]?).bind fun x124 =>
(aZ x124.1 a2.2.2.2.2.1).bind fun y125 =>
 idx y1.2.1 a1.2.2.1 fun _ =>
(y1.2.1[(a1.2.2.1:Int).toNat]?).bind fun x126 =>
 let u127:(List ar.D):=y1.2.1.set (a1.2.2.1:Int).toNat (y125,x126.2)
 some ((u121,u127,y1.2.2),a2.2.2.2.2.1,()))
 else (
 some ((u121,y1.2),a2.2.2.2.2.1,())))
 else (
 some ((u121,y1.2),a2.2.2.2.2.1,())))))
 else (
(y1.1[(y97:Int).toNat]?).bind fun x128 =>
(aZ x128.2.2.2.2.2.2.2.2.2.2.1 a2.2.2.2.2.1).bind fun y129 =>
(y1.1[(y97:Int).toNat]?).bind fun x130 =>
 let u131:(List ah.D):=y1.1.set (y97:Int).toNat (x130.1,x130.2.1,x130.2.2.1,x130.2.2.2.1,x130.2.2.2.2.1,x130.2.2.2.2.2.1,x130.2.2.2.2.2.2.1,x130.2.2.2.2.2.2.2.1,x130.2.2.2.2.2.2.2.2.1,x130.2.2.2.2.2.2.2.2.2.1,y129,x130.2.2.2.2.2.2.2.2.2.2.2)
(u131[(y97:Int).toNat]?).bind fun x132 =>
 bif x132.2.2.2.2.2.2.2.2.2.2.2.1 then (
(u131[(y97:Int).toNat]?).bind fun x133 =>
 let u134:(List ah.D):=u131.set (y97:Int).toNat (x133.1,x133.2.1,x133.2.2.1,x133.2.2.2.1,x133.2.2.2.2.1,x133.2.2.2.2.2.1,x133.2.2.2.2.2.2.1,x133.2.2.2.2.2.2.2.1,x133.2.2.2.2.2.2.2.2.1,x133.2.2.2.2.2.2.2.2.2.1,x133.2.2.2.2.2.2.2.2.2.2.1,true,x133.2.2.2.2.2.2.2.2.2.2.2.2)
(aF a1 1).bind fun y135 =>
 bif y135 then (
(aQ (u134,y1.2) a1.2.2.1).bind fun y136 =>
 bif y136 then (
 idx y1.2.1 a1.2.2.1 fun _ =>
(y1.2.1[(a1.2.2.1:Int).toNat]?).bind fun x137 =>
(aZ x137.1 a2.2.2.2.2.1).bind fun y138 =>
 idx y1.2.1 a1.2.2.1 fun _ =>
(y1.2.1[(a1.2.2.1:Int).toNat]?).bind fun x139 =>
 let u140:(List ar.D):=y1.2.1.set (a1.2.2.1:Int).toNat (y138,x139.2)
 some ((u134,u140,y1.2.2),a2.2.2.2.2.1,()))
 else (
 some ((u134,y1.2),a2.2.2.2.2.1,())))
 else (
 some ((u134,y1.2),a2.2.2.2.2.1,())))
 else (
(aF a1 4).bind fun y141 =>
 bif y141 then (
(u131[(y97:Int).toNat]?).bind fun x142 =>
 let u143:(List ah.D):=u131.set (y97:Int).toNat (x142.1,x142.2.1,x142.2.2.1,x142.2.2.2.1,x142.2.2.2.2.1,x142.2.2.2.2.2.1,x142.2.2.2.2.2.2.1,x142.2.2.2.2.2.2.2.1,x142.2.2.2.2.2.2.2.2.1,x142.2.2.2.2.2.2.2.2.2.1,x142.2.2.2.2.2.2.2.2.2.2.1,decide (a2.2.2.2.2.1≥1),x142.2.2.2.2.2.2.2.2.2.2.2.2)
(aF a1 1).bind fun y144 =>
 bif y144 then (
(aQ (u143,y1.2) a1.2.2.1).bind fun y145 =>
 bif y145 then (
 idx y1.2.1 a1.2.2.1 fun _ =>
(y1.2.1[(a1.2.2.1:Int).toNat]?).bind fun x146 =>
(aZ x146.1 a2.2.2.2.2.1).bind fun y147 =>
 idx y1.2.1 a1.2.2.1 fun _ =>
(y1.2.1[(a1.2.2.1:Int).toNat]?).bind fun x148 =>
 let u149:(List ar.D):=y1.2.1.set (a1.2.2.1:Int).toNat (y147,x148.2)
 some ((u143,u149,y1.2.2),a2.2.2.2.2.1,()))
 else (
 some ((u143,y1.2),a2.2.2.2.2.1,())))
 else (
 some ((u143,y1.2),a2.2.2.2.2.1,())))
 else (
(u131[(y97:Int).toNat]?).bind fun x150 =>
 let u151:(List ah.D):=u131.set (y97:Int).toNat (x150.1,x150.2.1,x150.2.2.1,x150.2.2.2.1,x150.2.2.2.2.1,x150.2.2.2.2.2.1,x150.2.2.2.2.2.2.1,x150.2.2.2.2.2.2.2.1,x150.2.2.2.2.2.2.2.2.1,x150.2.2.2.2.2.2.2.2.2.1,x150.2.2.2.2.2.2.2.2.2.2.1,false,x150.2.2.2.2.2.2.2.2.2.2.2.2)
(aF a1 1).bind fun y152 =>
 bif y152 then (
(aQ (u151,y1.2) a1.2.2.1).bind fun y153 =>
 bif y153 then (
 idx y1.2.1 a1.2.2.1 fun _ =>
(y1.2.1[(a1.2.2.1:Int).toNat]?).bind fun x154 =>
(aZ x154.1 a2.2.2.2.2.1).bind fun y155 =>
 idx y1.2.1 a1.2.2.1 fun _ =>
(y1.2.1[(a1.2.2.1:Int).toNat]?).bind fun x156 =>
 let u157:(List ar.D):=y1.2.1.set (a1.2.2.1:Int).toNat (y155,x156.2)
 some ((u151,u157,y1.2.2),a2.2.2.2.2.1,()))
 else (
 some ((u151,y1.2),a2.2.2.2.2.1,())))
 else (
 some ((u151,y1.2),a2.2.2.2.2.1,())))))))))))
def Al:Ct:=.pure false true (.pair ae (.pair ah (.pair ac .unit))) (.pair ae (.pair (.int .i64) .unit)) (fun x=>lu x.1 x.2.1 x.2.2.1)
theorem yY:KC 351 Al:=pq (Ec nZ (Ec dw (Ec bE (Ec bP (Ec ga (Ec qJ (Ec qH (Ec wM (Ec pW En))))))))) .none Tryz.func351
def rV (a0:ah.D) (a1:Int) (a2:Int):Option ah.D :=
 some (a0.1,a0.2.1,a0.2.1,a1,a2,a0.2.2.2.2.2.1,a0.2.2.2.2.2.2.1,a0.2.2.2.2.2.2.2.1,0,0,0,false,false,())
def N6:Ct:=.pure true false (.pair ah (.pair (.int .i64) (.pair (.int .i64) .unit))) ah (fun x=>rV x.1 x.2.1 x.2.2.1)
theorem AW:KC 243 N6:=pq En .none Tryz.func243
def v5 (a0:ae.D) (a1:ac.D):Option (ae.D×(Bool×Unit)) :=
(cH a0).bind fun y1 =>
(fi y1 a1.2.2.1).bind fun y2 =>
(((df y1).bind fun y3 =>
 bif (!y3) then (
 some true)
 else (
(bL a1).bind fun y4 =>
 bif (!y4) then (
 some true)
 else (
 bif (a1.1 != 2) then (
 some true)
 else (
 bif decide (y2 < 0) then (
 some true)
 else (
 idx y1.1 y2 fun _ =>
(y1.1[(y2:Int).toNat]?).bind fun x5 =>
 some (x5.2.2.2.1 == a1.2.2.2.2.2.1)))))):Option Bool).bind fun o6 =>
 bif o6 then (
 some (y1,false,()))
 else (
 idx y1.1 y2 fun _ =>
(y1.1[(y2:Int).toNat]?).bind fun x7 =>
(rV x7 a1.2.2.2.2.2.1 y1.2.2.2.1).bind fun y8 =>
((bif (a1.2.2.2.2.2.1 == 2) then (
 some (y8.1,y8.2.1,y8.2.2.1,y8.2.2.2.1,y8.2.2.2.2.1,y8.2.2.2.2.2.1,y8.2.2.2.2.2.2.1,y8.2.2.2.2.2.2.2.1,a1.2.2.2.2.1,y8.2.2.2.2.2.2.2.2.2.1,y8.2.2.2.2.2.2.2.2.2.2.1,y8.2.2.2.2.2.2.2.2.2.2.2.1,a1.2.2.2.2.2.2))
 else (
 some y8)):Option ah.D).bind fun o9 =>
 idx y1.1 y2 fun _ =>
(y1.1[(y2:Int).toNat]?).bind fun x10 =>
 let u11:(List ah.D):=y1.1.set (y2:Int).toNat o9
 some ((u11,y1.2),true,()))
def N7:Hints:=(n0 (n0 (n0 (nd (nd (cu ⟨[.tmp 41 .bool],[none],none,[]⟩) .none) (n0 (nd (n0 (cu ⟨[.box 7 0 ah],[none],none,[(7,0)]⟩)) .none))))))
def BJ:Ct:=.pure false true (.pair ae (.pair ac .unit)) (.pair ae (.pair .bool .unit)) (fun x=>v5 x.1 x.2.1)
theorem Am:KC 352 BJ:=pq (Ec dw (Ec bE (Ec bP (Ec AW (Ec gR En))))) N7 Tryz.func352
def uN (a0:ae.D) (a1:ac.D):Option (ae.D×(Bool×Unit)) :=
(cH a0).bind fun y1 =>
(((df y1).bind fun y2 =>
 bif (!y2) then (
 some true)
 else (
(bL a1).bind fun y3 =>
 bif (!y3) then (
 some true)
 else (
 bif (a1.1 == 1) then (
 some true)
 else (
 bif (a1.1 == 2) then (
 some true)
 else (
(my y1 a1).bind fun y4 =>
 some (!y4)))))):Option Bool).bind fun o5 =>
 bif o5 then (
 some (y1,false,()))
 else (
((bif (a1.1 == 3) then (
 idx y1.2.1 a1.2.2.2.1 fun _ =>
(y1.2.1[(a1.2.2.2.1:Int).toNat]?).bind fun x6 =>
(aZ x6.1 a1.2.2.2.2.1).bind fun y7 =>
 idx y1.2.1 a1.2.2.2.1 fun _ =>
(y1.2.1[(a1.2.2.2.1:Int).toNat]?).bind fun x8 =>
 let u9:(List ar.D):=y1.2.1.set (a1.2.2.2.1:Int).toNat (y7,x8.2)
 some (y1.1,u9,y1.2.2))
 else (
((bif (a1.1 == 4) then (
 idx y1.2.1 a1.2.2.2.1 fun _ =>
(y1.2.1[(a1.2.2.2.1:Int).toNat]?).bind fun x10 =>
(gg x10.1 a1.2.2.2.2.1).bind fun y11 =>
 idx y1.2.1 a1.2.2.2.1 fun _ =>
(y1.2.1[(a1.2.2.2.1:Int).toNat]?).bind fun x12 =>
 let u13:(List ar.D):=y1.2.1.set (a1.2.2.2.1:Int).toNat (y11,x12.2)
 some (y1.1,u13,y1.2.2))
 else (
((bif (a1.1 == 5) then (
(fw y1 a1.2.2.1).bind fun y14 =>
 idx y1.1 y14 fun _ =>
(y1.1[(y14:Int).toNat]?).bind fun x15 =>
(aZ x15.2.2.2.2.2.2.2.2.1 a1.2.2.2.2.1).bind fun y16 =>
(y1.1[(y14:Int).toNat]?).bind fun x17 =>
 let u18:(List ah.D):=y1.1.set (y14:Int).toNat (x17.1,x17.2.1,x17.2.2.1,x17.2.2.2.1,x17.2.2.2.2.1,x17.2.2.2.2.2.1,x17.2.2.2.2.2.2.1,x17.2.2.2.2.2.2.2.1,y16,x17.2.2.2.2.2.2.2.2.2)
 some (u18,y1.2))
 else (
((bif (a1.1 == 6) then (
(fw y1 a1.2.2.1).bind fun y19 =>
 idx y1.1 y19 fun _ =>
(y1.1[(y19:Int).toNat]?).bind fun x20 =>
(aZ x20.2.2.2.2.2.2.2.2.2.1 a1.2.2.2.2.1).bind fun y21 =>
(y1.1[(y19:Int).toNat]?).bind fun x22 =>
 let u23:(List ah.D):=y1.1.set (y19:Int).toNat (x22.1,x22.2.1,x22.2.2.1,x22.2.2.2.1,x22.2.2.2.2.1,x22.2.2.2.2.2.1,x22.2.2.2.2.2.2.1,x22.2.2.2.2.2.2.2.1,x22.2.2.2.2.2.2.2.2.1,y21,x22.2.2.2.2.2.2.2.2.2.2)
 some (u23,y1.2))
 else (
 some y1)):Option ae.D).bind fun o24 =>
 some o24)):Option ae.D).bind fun o25 =>
 some o25)):Option ae.D).bind fun o26 =>
 some o26)):Option ae.D).bind fun o27 =>
 some (o27,true,()))
def PG:Hints:=(n0 (n0 (nd (nd (cu ⟨[.tmp 33 .bool],[none],none,[]⟩) .none) (nd (n0 (nd (n0 (.node (some ⟨[.boxO 2 0 1 ae],[none],none,[(9,1),(2,0),(9,0)]⟩) none .none (n0 (.node (some ⟨[.boxO 2 0 1 ae],[none],none,[(9,1),(2,0),(9,0)]⟩) none .none (n0 (.node (some ⟨[.boxO 2 0 1 ae],[none],none,[(9,0),(2,0),(9,1)]⟩) none .none (n0 (cu ⟨[.boxO 2 0 1 ae],[none],none,[(9,0),(2,0),(9,1)]⟩)))))))) .none)) .none))))
def Dh:Ct:=.pure false true (.pair ae (.pair ac .unit)) (.pair ae (.pair .bool .unit)) (fun x=>uN x.1 x.2.1)
theorem BK:KC 354 Dh:=pq (Ec dw (Ec bE (Ec bP (Ec qJ (Ec qH (Ec wM (Ec pW En))))))) PG Tryz.func354
def di (a0:ae.D) (a1:ae.D) (a2:ac.D):Option ((ae.D×(ai.D×Unit))×Unit) :=
((bif (a2.1 == 1) then (
(fj a1 a2).bind fun y1 =>
(lu a0 y1 a2).bind fun y2 =>
 bif decide (y2.2.1≥1) then (
 some (.inr ((y2.1,1,a2,y2.2.1,0,(0,0,0,0,0,0,0,0,0,0,0,false,false,()),()))))
 else (
 some (.inl (([],[],0,0,()),(0,(0,0,0,0,0,0,false,()),0,0,(0,0,0,0,0,0,0,0,0,0,0,false,false,()),()),y2.1))))
 else (
((bif (a2.1 == 2) then (
(v5 a0 a2).bind fun y3 =>
 bif y3.2.1 then (
(fi a1 a2.2.2.1).bind fun y4 =>
 idx a1.1 y4 fun x5 =>
 some (.inr ((y3.1,3,a2,0,0,x5,()))))
 else (
 some (.inl (([],[],0,0,()),0,(0,0,0,0,0,0,false,()),0,0,(0,0,0,0,0,0,0,0,0,0,0,false,false,()),()))))
 else (
(uN a0 a2).bind fun y6 =>
 bif y6.2.1 then (
 some (.inr ((y6.1,2,a2,0,0,(0,0,0,0,0,0,0,0,0,0,0,false,false,()),()))))
 else (
 some (.inl (([],[],0,0,()),0,(0,0,0,0,0,0,false,()),0,0,(0,0,0,0,0,0,0,0,0,0,0,false,false,()),()))))):Option ((ae.D×(Int×(ac.D×(Int×(Int×(ah.D×Unit))))))⊕(ae.D×(Int×(ac.D×(Int×(Int×(ah.D×Unit)))))))).bind fun o7 =>
 match o7 with
| .inl s8=>(
 some (.inl (s8.1,s8.2,a0)))
| .inr o9=>(
 some (.inr o9)))):Option ((ae.D×(ai.D×((List ah.D)×((List ar.D)×(Int×(Int×Unit))))))⊕(ae.D×(Int×(ac.D×(Int×(Int×(ah.D×Unit)))))))).bind fun o10 =>
 match o10 with
| .inl s11=>(
 some ((s11.2.2,(4,a2,0,0,(0,0,0,0,0,0,0,0,0,0,0,false,false,()),()),()),()))
| .inr o12=>(
 some ((o12.1,o12.2,()),()))
def E0:Hints:=(n0 (nd (n0 (nd (n0 (.node (some ⟨[.boxO 6 0 1 ae,.box 7 0 ai,.boxO 3 0 1 ae],[none],some [.boxO 6 0 1 ae,.box 7 0 ai],[(6,0),(7,0),(3,0),(0,0),(0,1)]⟩) none .none (n0 (cu ⟨[.boxO 6 0 1 ae,.box 7 0 ai],[none],some [.boxO 6 0 1 ae,.box 7 0 ai],[(6,0),(7,0)]⟩)))) .none)) .none))
def v6:Ct:=.mut [.tk,.rd,.rd] false true (.pair ae (.pair ae (.pair ac .unit))) (.pair ae (.pair ai .unit)) (fun x=>di x.1 x.2.1 x.2.2.1)
theorem uO:KC 308 v6:=mq (Ec rN (Ec yY (Ec Am (Ec gR (Ec BK En))))) E0 Tryz.func308
def mz (a0:ae.D) (y4:((List ac.D)×Unit)) (y6:((List ac.D)×Unit)):((List ai.D)×(Int×((List ah.D)×((List ar.D)×(Int×(Int×Unit))))))→Option (((List ai.D)×(Int×((List ah.D)×((List ar.D)×(Int×(Int×Unit))))))⊕((List ai.D)×(Int×((List ah.D)×((List ar.D)×(Int×(Int×Unit))))))):=fun s8 =>
 bif decide (s8.2.1 < ((y4.1++y6.1).length:Int)) then (
 idx (y4.1++y6.1) s8.2.1 fun _ =>
((y4.1++y6.1)[(s8.2.1:Int).toNat]?).bind fun x9 =>
(di s8.2.2 a0 x9).bind fun y10 =>
 if (s8.1.length + [y10.1.2.1].length) * (24 * 23)≤aC then (
 some (.inl ((s8.1++[y10.1.2.1]),IntKind.wrap .i64 (s8.2.1 + 1),y10.1.1))) else none)
 else (
 some (.inr s8))
def tA (a0:ae.D) (a1:(List ac.D)):Option (ae.D×((List ai.D)×Unit)) :=
(cH a0).bind fun y1 =>
(df a0).bind fun y2 =>
 bif (!y2) then (
 some (y1,[],()))
 else (
(bd a1).bind fun y3 =>
(be y3 (fun q=>tZ q.1)).bind fun y4 =>
(bd a1).bind fun y5 =>
(be y5 (fun q=>AU (fun q=>tZ q.1) q.1)).bind fun y6 =>
 if (y4.1.length + y6.1.length) * (24 * 7)≤aC then (
(al (mz a0 y4 y6) ([],0,y1)).bind fun o11 =>
 some (o11.2.2,o11.1,())) else none)
def LQ:Hints:=(n0 (n0 (n0 (n0 (n0 (n0 (n0 (nd (n0 (nd (.node none (some ⟨[.tmpO 7 0 (.slice ai),.tmp 35 (.int .i64),.boxO 6 0 1 ae],[some 0],none,[]⟩) .none .none) .none)) .none))))))))
def An:Ct:=.pure false true (.pair ae (.pair (.slice ac) .unit)) (.pair ae (.pair (.slice ai) .unit)) (fun x=>tA x.1 x.2.1)
theorem yZ:KC 213 An:=pq (Ec dw (Ec bE (Ec dd (Ec EY (Ec dX (Ec EZ (Ec uO En))))))) LQ Tryz.func213
def gE (a0:ah.D):Option Int :=
(aZ a0.2.2.2.2.2.2.1 a0.2.2.2.2.2.2.2.2.1).bind fun y1 =>
(gg y1 a0.2.2.2.2.2.2.2.2.2.1).bind fun y2 =>
 some y2
def JO:Ct:=.pure true false (.pair ah .unit) (.int .i64) (fun x=>gE x.1)
theorem GT:KC 332 JO:=pq (Ec qJ (Ec qH En)) .none Tryz.func332
def lw (a0:ah.D):Option Bool :=
 bif (a0.2.2.2.1 == 2) then (
(gE a0).bind fun y1 =>
 bif decide (y1≤0) then (
 some true)
 else (
(aF a0 8).bind fun y2 =>
 bif (!y2) then (
 bif a0.2.2.2.2.2.2.2.2.2.2.2.1 then (
 some true)
 else (
(gE a0).bind fun y3 =>
 some (decide (a0.2.2.2.2.2.2.2.2.2.2.1≥y3))))
 else (
 some false)))
 else (
 some false)
def LS:Ct:=.pure true false (.pair ah .unit) .bool (fun x=>lw x.1)
theorem JP:KC 242 LS:=pq (Ec nZ (Ec GT En)) .none Tryz.func242
def jN (a0:ae.D):((List ai.D)×(Int×((List ah.D)×((List ar.D)×(Int×(Int×Unit))))))→Option (((List ai.D)×(Int×((List ah.D)×((List ar.D)×(Int×(Int×Unit))))))⊕((List ai.D)×(Int×((List ah.D)×((List ar.D)×(Int×(Int×Unit))))))):=fun s4 =>
 bif decide (s4.2.1 < (a0.2.1.length:Int)) then (
 idx a0.2.1 s4.2.1 fun x5 =>
((bif (!x5.2.2.1) then (
 bif decide (x5.1≤0) then (
 some true)
 else (
 some (decide (x5.2.1≥10))))
 else (
 some false)):Option Bool).bind fun o6 =>
 bif o6 then (
 idx s4.2.2.2.1 s4.2.1 fun _ =>
(s4.2.2.2.1[(s4.2.1:Int).toNat]?).bind fun x7 =>
 let u8:(List ar.D):=s4.2.2.2.1.set (s4.2.1:Int).toNat (x7.1,x7.2.1,true,())
 if (s4.1.length + ([(5,(0,0,0,0,0,0,false,()),0,s4.2.1,(0,0,0,0,0,0,0,0,0,0,0,false,false,()),())]:List ai.D).length) * (24 * 23)≤aC then (
 some (.inl ((s4.1++([(5,(0,0,0,0,0,0,false,()),0,s4.2.1,(0,0,0,0,0,0,0,0,0,0,0,false,false,()),())]:List ai.D)),IntKind.wrap .i64 (s4.2.1 + 1),s4.2.2.1,u8,s4.2.2.2.2))) else none)
 else (
 some (.inl (s4.1,IntKind.wrap .i64 (s4.2.1 + 1),s4.2.2))))
 else (
 some (.inr s4))
def jO (a0:ae.D):((List ai.D)×(Int×((List ah.D)×((List ar.D)×(Int×(Int×Unit))))))→Option (((List ai.D)×(Int×((List ah.D)×((List ar.D)×(Int×(Int×Unit))))))⊕((List ai.D)×(Int×((List ah.D)×((List ar.D)×(Int×(Int×Unit))))))):=fun s11 =>
 bif decide (s11.2.1 < (a0.1.length:Int)) then (
 idx a0.1 s11.2.1 fun x12 =>
(lw x12).bind fun y13 =>
 bif y13 then (
(rV x12 3 a0.2.2.2.1).bind fun y14 =>
 idx s11.2.2.1 s11.2.1 fun _ =>
(s11.2.2.1[(s11.2.1:Int).toNat]?).bind fun x15 =>
 let u16:(List ah.D):=s11.2.2.1.set (s11.2.1:Int).toNat y14
 if (s11.1.length + ([(6,(0,0,0,0,0,0,false,()),0,0,x12,())]:List ai.D).length) * (24 * 23)≤aC then (
 some (.inl ((s11.1++([(6,(0,0,0,0,0,0,false,()),0,0,x12,())]:List ai.D)),IntKind.wrap .i64 (s11.2.1 + 1),u16,s11.2.2.2))) else none)
 else (
((bif (x12.2.2.2.1 == 2) then (
 some (decide ((if x12.2.2.2.2.2.2.2.2.2.1 < x12.2.2.2.2.2.2.2.2.1 then x12.2.2.2.2.2.2.2.2.2.1 else x12.2.2.2.2.2.2.2.2.1) > 0)))
 else (
 some false)):Option Bool).bind fun o17 =>
 bif o17 then (
 idx s11.2.2.1 s11.2.1 fun _ =>
(s11.2.2.1[(s11.2.1:Int).toNat]?).bind fun x18 =>
 let k19:Int:=IntKind.wrap .i64 (x18.2.2.2.2.2.2.2.2.1 - (if x12.2.2.2.2.2.2.2.2.2.1 < x12.2.2.2.2.2.2.2.2.1 then x12.2.2.2.2.2.2.2.2.2.1 else x12.2.2.2.2.2.2.2.2.1))
 idx s11.2.2.1 s11.2.1 fun _ =>
(s11.2.2.1[(s11.2.1:Int).toNat]?).bind fun x20 =>
 let u21:(List ah.D):=s11.2.2.1.set (s11.2.1:Int).toNat (x20.1,x20.2.1,x20.2.2.1,x20.2.2.2.1,x20.2.2.2.2.1,x20.2.2.2.2.2.1,x20.2.2.2.2.2.2.1,x20.2.2.2.2.2.2.2.1,k19,x20.2.2.2.2.2.2.2.2.2)
 idx u21 s11.2.1 fun _ =>
(u21[(s11.2.1:Int).toNat]?).bind fun x22 =>
 let k23:Int:=IntKind.wrap .i64 (x22.2.2.2.2.2.2.2.2.2.1 - (if x12.2.2.2.2.2.2.2.2.2.1 < x12.2.2.2.2.2.2.2.2.1 then x12.2.2.2.2.2.2.2.2.2.1 else x12.2.2.2.2.2.2.2.2.1))
 idx u21 s11.2.1 fun _ =>
(u21[(s11.2.1:Int).toNat]?).bind fun x24 =>
 let u25:(List ah.D):=u21.set (s11.2.1:Int).toNat (x24.1,x24.2.1,x24.2.2.1,x24.2.2.2.1,x24.2.2.2.2.1,x24.2.2.2.2.2.1,x24.2.2.2.2.2.2.1,x24.2.2.2.2.2.2.2.1,x24.2.2.2.2.2.2.2.2.1,k23,x24.2.2.2.2.2.2.2.2.2.2)
 if (s11.1.length + ([(7,(0,0,0,0,0,0,false,()),(if x12.2.2.2.2.2.2.2.2.2.1 < x12.2.2.2.2.2.2.2.2.1 then x12.2.2.2.2.2.2.2.2.2.1 else x12.2.2.2.2.2.2.2.2.1),0,x12,())]:List ai.D).length) * (24 * 23)≤aC then (
 some (.inl ((s11.1++([(7,(0,0,0,0,0,0,false,()),(if x12.2.2.2.2.2.2.2.2.2.1 < x12.2.2.2.2.2.2.2.2.1 then x12.2.2.2.2.2.2.2.2.2.1 else x12.2.2.2.2.2.2.2.2.1),0,x12,())]:List ai.D)),IntKind.wrap .i64 (s11.2.1 + 1),u25,s11.2.2.2))) else none)
 else (
 some (.inl (s11.1,IntKind.wrap .i64 (s11.2.1 + 1),s11.2.2)))))
 else (
 some (.inr s11))
def v7 (a0:ae.D):Option (ae.D×((List ai.D)×Unit)) :=
(cH a0).bind fun y1 =>
(df a0).bind fun y2 =>
 bif (!y2) then (
 some (y1,[],()))
 else (
(al (jN a0) ([],0,y1)).bind fun o9 =>
(al (jO a0) (o9.1,0,o9.2.2)).bind fun o26 =>
 some (o26.2.2,o26.1,()))
def N8:Hints:=(n0 (n0 (n0 (n0 (nd (n0 (nd (.node none (some ⟨[.tmpO 5 0 (.slice ai),.tmp 22 (.int .i64),.boxO 4 0 1 ae],[some 0],none,[]⟩) (n0 (n0 (nd (nd (n0 (nd (cu ⟨[.tmp 39 .bool],[none],none,[]⟩) .none)) .none) .none))) .none) .none)) (nd (n0 (nd (.node none (some ⟨[.tmpO 5 1 (.slice ai),.tmp 54 (.int .i64),.boxO 4 0 3 ae],[some 2],none,[]⟩) (n0 (n0 (nd (nd (n0 (n0 (nd (n0 (n0 (nd (cu ⟨[.tmp 80 .bool],[none],none,[]⟩) .none))) .none))) .none) .none))) .none) .none)) .none))))))
def BL:Ct:=.pure false true (.pair ae .unit) (.pair ae (.pair (.slice ai) .unit)) (fun x=>v7 x.1)
theorem Ao:KC 122 BL:=pq (Ec dw (Ec bE (Ec JP (Ec AW En)))) N8 Tryz.func122
def bF:((List ai.D)×(Int×(ae.D×((List ah.D)×((List ar.D)×(Int×(Int×Unit)))))))→Option (((List ai.D)×(Int×(ae.D×((List ah.D)×((List ar.D)×(Int×(Int×Unit)))))))⊕((List ai.D)×(Int×((List ah.D)×((List ar.D)×(Int×(Int×Unit))))))):=fun s4 =>
(v7 s4.2.2.2).bind fun y5 =>
 bif ((y5.2.1.length:Int) == 0) then (
 some (.inr (s4.1,s4.2.1,s4.2.2.2)))
 else (
 if (s4.1.length + y5.2.1.length) * (24 * 23)≤aC then (
 some (.inl ((s4.1++y5.2.1),IntKind.wrap .i64 (s4.2.1 + 1),s4.2.2.1,y5.1))) else none)
def lx (a0:ae.D):Option (ae.D×((List ai.D)×(Int×Unit))) :=
(cH a0).bind fun y1 =>
(al (bF) ([],0,([],[],0,0,()),y1)).bind fun o6 =>
 some (o6.2.2,o6.1,o6.2.1,())
def LT:Hints:=(n0 (n0 (n0 (n0 (nd (.node none (some ⟨[.tmpO 5 0 (.slice ai),.tmp 6 (.int .i64),.boxO 2 0 1 ae,.boxO 1 0 1 ae],[],some [.tmpO 3 0 (.slice ai),.tmp 4 (.int .i64),.boxO 2 0 1 ae],[]⟩) .none .none) .none)))))
def Ap:Ct:=.pure false true (.pair ae .unit) (.pair ae (.pair (.slice ai) (.pair (.int .i64) .unit))) (fun x=>lx x.1)
theorem za:KC 214 Ap:=pq (Ec Ao (Ec bE En)) LT Tryz.func214
def zQ (a0:ai.D):Option Bool :=
 bif (a0.1 == 6) then (
 some true)
 else (
 bif (a0.1 == 3) then (
 bif (a0.2.2.2.2.1.2.2.2.1 == 2) then (
 some (a0.2.1.2.2.2.2.2.1 != 2))
 else (
 some false))
 else (
 some false))
def PH:Ct:=.pure true false (.pair ai .unit) .bool (fun x=>zQ x.1)
theorem N9:KC 314 PH:=pq En .none Tryz.func314
def v8 (a0:ae.D) (a1:(List ai.D)):((List af.D)×Int)→Option (((List af.D)×Int)⊕((List af.D)×Int)):=fun s1 =>
 bif decide (s1.2 < (a1.length:Int)) then (
 idx a1 s1.2 fun x2 =>
(fj a0 x2.2.1).bind fun y3 =>
(((zQ x2).bind fun y4 =>
 bif y4 then (
(aF x2.2.2.2.2.1 16).bind fun y5 =>
 some y5)
 else (
 some false)):Option Bool).bind fun o6 =>
 bif o6 then (
 if (s1.1.length + ([(1,x2.2.2.2.2.1.2.2.1,0,x2.2.2.2.2)]:List af.D).length) * (24 * 16)≤aC then (
 some (.inl ((s1.1++([(1,x2.2.2.2.2.1.2.2.1,0,x2.2.2.2.2)]:List af.D)),IntKind.wrap .i64 (s1.2 + 1)))) else none)
 else (
((bif (x2.1 == 1) then (
 bif decide (x2.2.2.1≥1) then (
(aF y3 32).bind fun y7 =>
 some y7)
 else (
 some false))
 else (
 some false)):Option Bool).bind fun o8 =>
 bif o8 then (
 if (s1.1.length + ([(2,y3.2.2.1,x2.2.2.1,y3,())]:List af.D).length) * (24 * 16)≤aC then (
 some (.inl ((s1.1++([(2,y3.2.2.1,x2.2.2.1,y3,())]:List af.D)),IntKind.wrap .i64 (s1.2 + 1)))) else none)
 else (
 some (.inl (s1.1,IntKind.wrap .i64 (s1.2 + 1))))))
 else (
 some (.inr s1))
def uP (a0:ae.D) (a1:(List ai.D)):Option (List af.D) :=
(al (v8 a0 a1) ([],0)).bind fun o9 =>
 some o9.1
def PI:Hints:=(n0 (n0 (nd (n0 (nd (.node none (some ⟨[.tmpO 5 0 (.slice af),.tmp 12 (.int .i64)],[some 0],none,[]⟩) (n0 (n0 (nd (nd (n0 (n0 (nd (nd (cu ⟨[.tmp 20 .bool],[none],none,[]⟩) (n0 (nd (cu ⟨[.tmp 37 .bool],[none],none,[]⟩) .none))) .none))) .none) .none))) .none) .none)) .none)))
def Di:Ct:=.pure true true (.pair ae (.pair (.slice ai) .unit)) (.slice af) (fun x=>uP x.1 x.2.1)
theorem BM:KC 216 Di:=pq (Ec nZ (Ec rN (Ec N9 En))) PI Tryz.func216
def mA (a0:ae.D):((List Int)×Int)→Option (((List Int)×Int)⊕((List Int)×Int)):=fun s2 =>
 bif decide (s2.2 < (a0.2.1.length:Int)) then (
 if (a0.2.1.length:Int)=0 then none else (
 let k3:Int:=(IntKind.wrap .i64 (a0.2.2.1 + s2.2)).tmod (a0.2.1.length:Int)
 if (s2.1.length + [k3].length) * (24 * 1)≤aC then (
 some (.inl ((s2.1++[k3]),IntKind.wrap .i64 (s2.2 + 1)))) else none))
 else (
 some (.inr s2))
def gh (a0:ae.D):Option (List Int) :=
(aQ a0 a0.2.2.1).bind fun y1 =>
 bif (!y1) then (
 some [])
 else (
(al (mA a0) ([],0)).bind fun o4 =>
 some o4.1)
def E1:Hints:=(n0 (n0 (n0 (nd (n0 (nd (.node none (some ⟨[.tmpO 3 0 (.slice (.int .i64)),.tmp 15 (.int .i64)],[some 0],none,[]⟩) .none .none) .none)) .none))))
def v9:Ct:=.pure true true (.pair ae .unit) (.slice (.int .i64)) (fun x=>gh x.1)
theorem ly:KC 95 v9:=pq (Ec ga En) E1 Tryz.func95
def bY (a0:(List af.D)) (a1:((af.D×Unit)→Option Bool)):Int→Option (Int⊕(Int⊕Int)):=fun s1 =>
 bif decide (s1 < (a0.length:Int)) then (
 idx a0 s1 fun x2 =>
(a1 (x2,())).bind fun y3 =>
 bif y3 then (
 some (.inr (.inr s1)))
 else (
 some (.inl (IntKind.wrap .i64 (s1 + 1)))))
 else (
 some (.inr (.inl s1)))
def cE (a0:(List af.D)) (a1:((af.D×Unit)→Option Bool)):Option Int :=
(al (bY a0 a1) 0).bind fun o4 =>
 match o4 with
| .inl s5=>(
 some (-1))
| .inr o6=>(
 some o6)
def ni:Hints:=(n0 (nd (n0 (nd (.node none (some ⟨[.tmp 8 (.int .i64)],[some 0],some [.tmp 4 (.int .i64)],[]⟩) .none .none) .none)) .none))
def nj:Ct:=.pure true false (.pair (.slice af) (.pair (.fn (.pair af .unit) .bool) .unit)) (.int .i64) (fun x=>cE x.1 x.2.1)
theorem mB:KC 356 nj:=pq En ni Tryz.func356
def br (a1:((af.D×Unit)→Option Bool)):((List af.D)×(Int×Int))→Option (((List af.D)×(Int×Int))⊕((List af.D)×(Int×Int))):=fun s3 =>
 bif decide (s3.2.2 < (s3.1.length:Int)) then (
 idx s3.1 s3.2.2 fun _ =>
(s3.1[(s3.2.2:Int).toNat]?).bind fun x4 =>
(a1 (x4,())).bind fun y5 =>
((bif (!y5) then (
 idx s3.1 s3.2.1 fun _ =>
(s3.1[(s3.2.1:Int).toNat]?).bind fun x6 =>
 let u7:(List af.D):=s3.1.set (s3.2.1:Int).toNat x4
 some (u7,IntKind.wrap .i64 (s3.2.1 + 1)))
 else (
 some (s3.1,s3.2.1))):Option ((List af.D)×Int)).bind fun o8 =>
 some (.inl (o8.1,o8.2,IntKind.wrap .i64 (s3.2.2 + 1))))
 else (
 some (.inr s3))
def bG (a0:(List af.D)) (a1:((af.D×Unit)→Option Bool)):Option ((List af.D)×Unit) :=
(cE a0 a1).bind fun y1 =>
 bif (y1 == (-1)) then (
 some (a0,()))
 else (
(al (br a1) (a0,y1,IntKind.wrap .i64 (y1 + 1))).bind fun o9 =>
 if 0≤o9.2.1 then (if o9.2.1≤(o9.1.length:Int) then (if (o9.1.length:Int)≤(o9.1.length:Int) then (
 if 0≤(0:Int) then (if (0:Int)≤o9.2.1 then (if o9.2.1≤((o9.1.take (o9.2.1.toNat)++List.replicate ((o9.1.length:Int).toNat - o9.2.1.toNat) (0,0,0,(0,0,0,0,0,0,0,0,0,0,0,false,false,()),())++o9.1.drop ((o9.1.length:Int).toNat)).length:Int) then (
 some ((((o9.1.take (o9.2.1.toNat)++List.replicate ((o9.1.length:Int).toNat - o9.2.1.toNat) (0,0,0,(0,0,0,0,0,0,0,0,0,0,0,false,false,()),())++o9.1.drop ((o9.1.length:Int).toNat)).take (o9.2.1.toNat)).drop ((0:Int).toNat)),())) else none) else none) else none) else none) else none) else none)
def mC:Hints:=(n0 (n0 (n0 (nd (n0 (nd (.node none (some ⟨[.tmpO 0 1 (.slice af),.tmp 5 (.int .i64),.tmp 6 (.int .i64)],[some 0],none,[]⟩) (n0 (nd (nd (n0 (n0 (cu ⟨[.tmpO 0 2 (.slice af),.tmp 5 (.int .i64)],[none],none,[(0,1)]⟩))) .none) .none)) .none) .none)) .none))))
def iO:Ct:=.mut [.tk,.rd] true true (.pair (.slice af) (.pair (.fn (.pair af .unit) .bool) .unit)) (.slice af) (fun x=>bG x.1 x.2.1)
theorem dL:KC 310 iO:=mq (Ec mB En) mC Tryz.func310
def tB (z0:Int) (a0:af.D):Option Bool :=
 some (a0.2.1 != z0)
def Aq:Ct:=.clo (.pair af .unit) (.pair (.int .i64) .unit) .bool (fun z x=>tB z.1 x.1)
theorem zb:KC 355 Aq:=cq En .none Tryz.func355
def kA (a0:(List af.D)) (a1:Int):Option (List af.D) :=
(bv a0).bind fun y1 =>
(bG y1 (fun q=>tB a1 q.1)).bind fun y2 =>
 some y2.1
def uQ:Ct:=.pure true true (.pair (.slice af) (.pair (.int .i64) .unit)) (.slice af) (fun x=>kA x.1 x.2.1)
theorem t5:KC 309 uQ:=pq (Ec cR (Ec dL (Ec zb En))) .none Tryz.func309
def zc (z0:Int) (a0:af.D):Option Bool :=
 some (a0.2.1 == z0)
def E2:Ct:=.clo (.pair af .unit) (.pair (.int .i64) .unit) .bool (fun z x=>zc z.1 x.1)
theorem Dj:KC 311 E2:=cq En .none Tryz.func311
def dk (a0:(List af.D)) (a1:Int) (a2:Int):Option ((List af.D)×Unit) :=
 if 0≤a1 then (if a1≤a2 then (if a2≤(a0.length:Int) then (
 if a2≤(a0.length:Int) then (if (a0.length:Int)≤(a0.length:Int) then (
 bif (a1 == a2) then (
 some (a0,()))
 else (
 if 0≤(0:Int) then (if (0:Int)≤a1 then (if a1≤(a0.length:Int) then (
 if 0≤a2 then (if a2≤(a0.length:Int) then (if (a0.length:Int)≤(a0.length:Int) then (
 if a2.toNat≤(a0.length:Int).toNat then (if a1.toNat + ((a0.length:Int).toNat - a2.toNat)≤a0.length then (
 let u1:(List af.D):=a0.take (a1.toNat)++(a0.take ((a0.length:Int).toNat)).drop (a2.toNat)++a0.drop (a1.toNat + ((a0.length:Int).toNat - a2.toNat))
 if 0≤((a1.toNat + ((a0.length:Int).toNat - a2.toNat) - 0:Nat):Int) then (if ((a1.toNat + ((a0.length:Int).toNat - a2.toNat) - 0:Nat):Int)≤(a0.length:Int) then (if (a0.length:Int)≤(u1.length:Int) then (
 some ((((u1.take (((a1.toNat + ((a0.length:Int).toNat - a2.toNat) - 0:Nat):Int).toNat)++List.replicate ((a0.length:Int).toNat - ((a1.toNat + ((a0.length:Int).toNat - a2.toNat) - 0:Nat):Int).toNat) (0,0,0,(0,0,0,0,0,0,0,0,0,0,0,false,false,()),())++u1.drop ((a0.length:Int).toNat)).take (a1.toNat + ((a0.length:Int).toNat - a2.toNat))).drop (0)),())) else none) else none) else none) else none) else none) else none) else none) else none) else none) else none) else none)) else none) else none) else none) else none) else none
def kW:Ct:=.mut [.tk,.rd,.rd] true true (.pair (.slice af) (.pair (.int .i64) (.pair (.int .i64) .unit))) (.slice af) (fun x=>dk x.1 x.2.1 x.2.2.1)
theorem jP:KC 312 kW:=mq En .none Tryz.func312
def kC:((List Int)×((List af.D)×(List af.D)))→Option (((List Int)×((List af.D)×(List af.D)))⊕((List Int)×((List af.D)×(List af.D)))):=fun s8 =>
 bif decide ((s8.2.2.length:Int) > 0) then (
(uG s8.1 (s8.2.2.length:Int)).bind fun y9 =>
 idx s8.2.2 y9.1 fun _ =>
(s8.2.2[(y9.1:Int).toNat]?).bind fun x10 =>
 if (s8.2.1.length + [x10].length) * (24 * 16)≤aC then (
(dk s8.2.2 y9.1 (IntKind.wrap .i64 (y9.1 + 1))).bind fun y11 =>
 some (.inl (y9.2.1,(s8.2.1++[x10]),y11.1))) else none)
 else (
 some (.inr s8))
def kD (y3:(List Int)):((List Int)×((List af.D)×((List af.D)×Int)))→Option (((List Int)×((List af.D)×((List af.D)×Int)))⊕((List Int)×((List af.D)×((List af.D)×Int)))):=fun s4 =>
 bif decide (s4.2.2.2 < (y3.length:Int)) then (
 idx y3 s4.2.2.2 fun _ =>
(y3[(s4.2.2.2:Int).toNat]?).bind fun x5 =>
(kA s4.2.2.1 x5).bind fun y6 =>
(bG s4.2.2.1 (fun q=>zc x5 q.1)).bind fun y7 =>
(al (kC) (s4.1,s4.2.1,y6)).bind fun o12 =>
 some (.inl (o12.1,o12.2.1,y7.1,IntKind.wrap .i64 (s4.2.2.2 + 1))))
 else (
 some (.inr s4))
def mD (a0:ae.D) (a1:(List af.D)) (a2:(List Int)):Option ((List af.D)×((List Int)×Unit)) :=
(bv a1).bind fun y1 =>
(bm a2).bind fun y2 =>
(gh a0).bind fun y3 =>
(al (kD y3) (y2,[],y1,0)).bind fun o13 =>
 if (o13.2.1.length + o13.2.2.1.length) * (24 * 16)≤aC then (
 some ((o13.2.1++o13.2.2.1),o13.1,())) else none
def JQ:Hints:=(n0 (n0 (n0 (n0 (nd (n0 (nd (.node none (some ⟨[.tmpO 2 0 (.slice (.int .i64)),.tmpO 8 0 (.slice af),.tmpO 9 0 (.slice af),.tmp 23 (.int .i64)],[some 0],none,[]⟩) (n0 (n0 (nd (nd (n0 (n0 (n0 (nd (.node none (some ⟨[.tmpO 2 1 (.slice (.int .i64)),.tmpO 8 1 (.slice af),.tmpO 12 0 (.slice af)],[some 2],none,[]⟩) .none .none) .none)))) .none) .none))) .none) .none)) .none)))))
def zd:Ct:=.pure false true (.pair ae (.pair (.slice af) (.pair (.slice (.int .i64)) .unit))) (.pair (.slice af) (.pair (.slice (.int .i64)) .unit)) (fun x=>mD x.1 x.2.1 x.2.2.1)
theorem xG:KC 215 zd:=pq (Ec ly (Ec bu (Ec rO (Ec cR (Ec t5 (Ec dL (Ec Dj (Ec jP En)))))))) JQ Tryz.func215
theorem mE (xs:List aT.D) (hl:xs.length≤1048576) (p:aT.D→Bool) (q:(aT.D×Unit)→Option Bool) (hq:∀ x∈xs,q (x,())=some (p x)) :
  cy xs q=some (match bD p xs with | some k=>(k:Int) | none=>-1):=by
 unfold cy
 rw [dH xs (body:=bT xs q) p (fun i=>i) (by omega) (fun i x hx=>?_) ?_]
 ·cases bD p xs <;> rfl
 ·unfold bT
  simp
 ·unfold bT
  have hlt:=(List.getElem?_eq_some_iff.1 hx).1
  have:((i:Int) < (xs.length:Int)):=by omega
  simp only [this,decide_true,cond_true,ay hx,hq x (List.mem_of_getElem? hx),Option.bind_some]
theorem lH (xs:List aT.D) (hl:xs.length≤1048576) (p:aT.D→Bool) (q:(aT.D×Unit)→Option Bool) (hq:∀ x∈xs,q (x,())=some (p x)) :
  cj xs q=some (xs.filter (fun x=>!p x),()):=by
 unfold cj
 rw [mE xs hl p q hq,Option.bind_some]
 obtain ⟨h1,h2⟩:=ee p xs
 cases hf:bD p xs with
 | none =>
  have:xs.filter (fun x=>!p x)=xs:=by rw [List.filter_eq_self];intro x hx;simp [h1 hf x hx]
  rw [this];rfl
 | some k =>
  obtain ⟨x,g1,g2,g3⟩:=h2 k hf
  have hk:=(List.getElem?_eq_some_iff.1 g1).1
  have n1:((k:Int) == -1)=false:=by simp
  simp only [n1,cond_false]
  rw [aB (by omega) (by omega)]
  obtain ⟨ys,m,e1,e2,e3,e4⟩:∃ (ys:List aT.D) (m:Nat),al (bq q) (xs,(k:Int),(k:Int) + 1)=some (ys,(m:Int),(xs.length:Int))∧ys.length=xs.length∧m≤xs.length∧ys.take m=xs.filter (fun x=>!p x):=by
   refine CO xs (body:=bq q) p (fun s=>s) (by omega) (fun ys i j x hx hij hl' hm=>?_) (fun ys i hl'=>?_) k x g1 g2 g3
   ·have hlt:=(List.getElem?_eq_some_iff.1 hx).1
    have hil:((j:Int) < (ys.length:Int)):=by omega
    obtain ⟨y,hy⟩:∃ y,ys[i]?=some y:=⟨_,List.getElem?_eq_getElem (by omega)⟩
    unfold bq
    simp (disch:=omega) only [hil,decide_true,cond_true,Int.toNat_natCast,ay hx,hx,hq x hm,Option.bind_some,ay hy,hy,aB]
    cases p x <;> rfl
   ·unfold bq
    have:¬ ((xs.length:Int) < (ys.length:Int)):=by omega
    simp only [this,decide_false,cond_false]
  rw [e1,Option.bind_some]
  have t1:0≤(m:Int):=by omega
  have t2:(m:Int)≤(ys.length:Int):=by omega
  simp only [t1,t2,if_true,Int.le_refl,Int.toNat_natCast]
  have z1:m≤ys.length:=by omega
  rw [if_pos (by simp only [List.length_append,List.length_take,List.length_replicate,List.length_drop];omega)]
  have:∀ (zs:List aT.D),(ys.take m++zs).take m=ys.take m:=fun zs=>by rw [List.take_append_of_le_length (by simp;omega),List.take_take,Nat.min_self]
  rw [List.append_assoc,this,e4]
  simp
def bJ (a0:List aa.D) (a1:(aa.D×Unit)→Option Bool):Option (List aa.D×Unit):=if a0.length≤1048576∧a0.all (fun x=>(a1 (x,())).isSome)=true then some (a0.filter (fun x=>!(a1 (x,())).getD false),()) else none
def jg:Ct:=.mut [.tk,.rd] true true (.pair (.slice aa) (.pair (.fn (.pair aa .unit) .bool) .unit)) (.slice aa) (fun x=>bJ x.1 x.2.1)
theorem iP:fB Tryz.prog 219 jg:=by
 refine UV (t:=aa) (FH:=fun x=>cj x.1 x.2.1) rfl rfl iq fun xs p z hz=>?_
 have hz:bJ xs p=some z:=hz
 unfold bJ at hz
 split at hz
 ·rename_i h
  obtain ⟨h1,h2⟩:=h
  cases hz
  refine ⟨_,(Pi _ xs 0).2,F2 _ xs,fun xsH pH hl hp=>?_⟩
  have hs:∀ xh∈xsH,pH (xh,())=some ((pH (xh,())).getD false):=fun xh hm=>by
   obtain ⟨i,hi⟩:=List.mem_iff_getElem?.1 hm
   have hil:i < xs.length:=by rw [← hl];exact (List.getElem?_eq_some_iff.1 hi).1
   have hx:xs[i]?=some xs[i]:=List.getElem?_eq_getElem hil
   have hsome:=List.all_eq_true.1 h2 xs[i] (List.getElem_mem hil)
   rw [hp i _ xh hx hi]
   obtain ⟨b,hb⟩:=Option.isSome_iff_exists.1 hsome
   rw [hb];rfl
  refine ⟨_,lH xsH (by omega) (fun xh=>(pH (xh,())).getD false) pH hs,?_⟩
  rw [← Iv (fun x=>!(p (x,())).getD false) (fun xh=>!(pH (xh,())).getD false) xs xsH 0 hl fun i x xh hx hh=>by rw [hp i x xh hx hh]]
  exact F2 _ xsH
 ·cases hz
def oH (z0:Int) (a0:aa.D):Option Bool :=
(nU a0 z0).bind fun y1 =>
 some (!y1)
def GU:Ct:=.clo (.pair aa .unit) (.pair (.int .i64) .unit) .bool (fun z x=>oH z.1 x.1)
theorem E3:KC 220 GU:=cq (Ec AT En) .none Tryz.func220
def py (a0:(List aa.D)) (a1:Int):Option (List aa.D) :=
(bO a0).bind fun y1 =>
(bJ y1 (fun q=>oH a1 q.1)).bind fun y2 =>
 some y2.1
def Ar:Ct:=.pure true true (.pair (.slice aa) (.pair (.int .i64) .unit)) (.slice aa) (fun x=>py x.1 x.2.1)
theorem pz:KC 96 Ar:=pq (Ec bn (Ec iP (Ec E3 En))) .none Tryz.func96
def dP (a0:Unit) (a1:Int):Option ((List af.D)×Unit) :=
((bif decide (a1 < 0) then (
 none)
 else (
 some ())):Option Unit).bind fun o1 =>
 bif decide ((IntKind.wrap .i64 (a1 - (IntKind.wrap .i64 (0 - 0)))) > 0) then (
 if 0≤(0:Int) then (if (0:Int)≤(0:Int) then (if (0:Int)≤((0:Nat):Int) then (
 if 0 < (IntKind.wrap .i64 (a1 - (IntKind.wrap .i64 (0 - 0)))) then (if (IntKind.wrap .i64 (a1 - (IntKind.wrap .i64 (0 - 0)))).toNat * (24 * 16)≤aC then (
 if 0≤(0:Int) then (if (0:Int)≤(0:Int) then (if (0:Int)≤((List.replicate (IntKind.wrap .i64 (a1 - (IntKind.wrap .i64 (0 - 0)))).toNat (0,0,0,(0,0,0,0,0,0,0,0,0,0,0,false,false,()),()):List af.D).length:Int) then (
 some ((((List.replicate (IntKind.wrap .i64 (a1 - (IntKind.wrap .i64 (0 - 0)))).toNat (0,0,0,(0,0,0,0,0,0,0,0,0,0,0,false,false,()),()):List af.D).take ((0:Int).toNat)).drop ((0:Int).toNat)),())) else none) else none) else none) else none) else none) else none) else none) else none)
 else (
 some ([],()))
def rW:Hints:=(n0 (nd (n0 (cu ⟨[],[none],none,[]⟩)) .none))
def mF:Ct:=.mut [.nil,.rd] true true (.pair .unit (.pair (.int .i64) .unit)) (.slice af) (fun x=>dP x.1 x.2.1)
theorem lI:KC 315 mF:=mq En rW Tryz.func315
def bo (a0:(List (List af.D))):(Int×Int)→Option ((Int×Int)⊕(Int×Int)):=fun s1 =>
 bif decide (s1.2 < (a0.length:Int)) then (
 idx a0 s1.2 fun x2 =>
 bif decide ((IntKind.wrap .i64 (s1.1 + (x2.length:Int))) < 0) then (
 none)
 else (
 some (.inl (IntKind.wrap .i64 (s1.1 + (x2.length:Int)),IntKind.wrap .i64 (s1.2 + 1)))))
 else (
 some (.inr s1))
def bp (a0:(List (List af.D))):((List af.D)×Int)→Option (((List af.D)×Int)⊕((List af.D)×Int)):=fun s5 =>
 bif decide (s5.2 < (a0.length:Int)) then (
 idx a0 s5.2 fun x6 =>
 if (s5.1.length + x6.length) * (24 * 16)≤aC then (
 some (.inl ((s5.1++x6),IntKind.wrap .i64 (s5.2 + 1)))) else none)
 else (
 some (.inr s5))
def dm (a0:(List (List af.D))):Option (List af.D) :=
(al (bo a0) (0,0)).bind fun o3 =>
(dP () o3.1).bind fun y4 =>
(al (bp a0) (y4.1,0)).bind fun o7 =>
 some o7.1
def pX:Hints:=(n0 (n0 (nd (n0 (nd (.node none (some ⟨[.tmp 3 (.int .i64),.tmp 11 (.int .i64)],[some 0],none,[]⟩) .none .none) .none)) (n0 (nd (n0 (nd (.node none (some ⟨[.tmpO 6 0 (.slice af),.tmp 27 (.int .i64)],[some 2],none,[]⟩) .none .none) .none)) .none)))))
def kX:Ct:=.pure true true (.pair (.slice (.slice af)) .unit) (.slice af) (fun x=>dm x.1)
theorem jQ:KC 217 kX:=pq (Ec lI En) pX Tryz.func217
def eR (a0:Unit) (a1:Int):Option ((List ai.D)×Unit) :=
((bif decide (a1 < 0) then (
 none)
 else (
 some ())):Option Unit).bind fun o1 =>
 bif decide ((IntKind.wrap .i64 (a1 - (IntKind.wrap .i64 (0 - 0)))) > 0) then (
 if 0≤(0:Int) then (if (0:Int)≤(0:Int) then (if (0:Int)≤((0:Nat):Int) then (
 if 0 < (IntKind.wrap .i64 (a1 - (IntKind.wrap .i64 (0 - 0)))) then (if (IntKind.wrap .i64 (a1 - (IntKind.wrap .i64 (0 - 0)))).toNat * (24 * 23)≤aC then (
 if 0≤(0:Int) then (if (0:Int)≤(0:Int) then (if (0:Int)≤((List.replicate (IntKind.wrap .i64 (a1 - (IntKind.wrap .i64 (0 - 0)))).toNat (0,(0,0,0,0,0,0,false,()),0,0,(0,0,0,0,0,0,0,0,0,0,0,false,false,()),()):List ai.D).length:Int) then (
 some ((((List.replicate (IntKind.wrap .i64 (a1 - (IntKind.wrap .i64 (0 - 0)))).toNat (0,(0,0,0,0,0,0,false,()),0,0,(0,0,0,0,0,0,0,0,0,0,0,false,false,()),()):List ai.D).take ((0:Int).toNat)).drop ((0:Int).toNat)),())) else none) else none) else none) else none) else none) else none) else none) else none)
 else (
 some ([],()))
def uR:Hints:=(n0 (nd (n0 (cu ⟨[],[none],none,[]⟩)) .none))
def pA:Ct:=.mut [.nil,.rd] true true (.pair .unit (.pair (.int .i64) .unit)) (.slice ai) (fun x=>eR x.1 x.2.1)
theorem n8:KC 316 pA:=mq En uR Tryz.func316
def bH (a0:(List (List ai.D))):(Int×Int)→Option ((Int×Int)⊕(Int×Int)):=fun s1 =>
 bif decide (s1.2 < (a0.length:Int)) then (
 idx a0 s1.2 fun x2 =>
 bif decide ((IntKind.wrap .i64 (s1.1 + (x2.length:Int))) < 0) then (
 none)
 else (
 some (.inl (IntKind.wrap .i64 (s1.1 + (x2.length:Int)),IntKind.wrap .i64 (s1.2 + 1)))))
 else (
 some (.inr s1))
def bI (a0:(List (List ai.D))):((List ai.D)×Int)→Option (((List ai.D)×Int)⊕((List ai.D)×Int)):=fun s5 =>
 bif decide (s5.2 < (a0.length:Int)) then (
 idx a0 s5.2 fun x6 =>
 if (s5.1.length + x6.length) * (24 * 23)≤aC then (
 some (.inl ((s5.1++x6),IntKind.wrap .i64 (s5.2 + 1)))) else none)
 else (
 some (.inr s5))
def dZ (a0:(List (List ai.D))):Option (List ai.D) :=
(al (bH a0) (0,0)).bind fun o3 =>
(eR () o3.1).bind fun y4 =>
(al (bI a0) (y4.1,0)).bind fun o7 =>
 some o7.1
def sE:Hints:=(n0 (n0 (nd (n0 (nd (.node none (some ⟨[.tmp 3 (.int .i64),.tmp 11 (.int .i64)],[some 0],none,[]⟩) .none .none) .none)) (n0 (nd (n0 (nd (.node none (some ⟨[.tmpO 6 0 (.slice ai),.tmp 27 (.int .i64)],[some 2],none,[]⟩) .none .none) .none)) .none)))))
def nk:Ct:=.pure true true (.pair (.slice (.slice ai)) .unit) (.slice ai) (fun x=>dZ x.1)
theorem mG:KC 218 nk:=pq (Ec n8 En) sE Tryz.func218
def tC (a0:T_Game.D) (a1:(List ac.D)):Option (T_Game.D×Unit) :=
(kz a0.1 a0.2.1 a1 a0.2.2.1).bind fun y1 =>
(tA a0.1 y1.1).bind fun y2 =>
(lx y2.1).bind fun y3 =>
(uP a0.1 y2.2.1).bind fun y4 =>
(mD y3.1 y4 y1.2.2.1).bind fun y5 =>
(uP y2.1 y3.2.1).bind fun y6 =>
(mD y3.1 y6 y5.2.1).bind fun y7 =>
(py y1.2.1 y3.1.2.2.2.1).bind fun y8 =>
(dm [a0.2.2.2.1,y5.1,y7.1]).bind fun y9 =>
(dZ [a0.2.2.2.2.1,y2.2.1,y3.2.1]).bind fun y10 =>
 if (a0.2.2.2.2.2.1.length + y1.2.2.2.1.length) * (24 * 14)≤aC then (
 some ((y3.1,y8,y7.2.1,y9,y10,(a0.2.2.2.2.2.1++y1.2.2.2.1),()),())) else none
def As:Ct:=.mut [.tk,.rd] true true (.pair T_Game (.pair (.slice ac) .unit)) T_Game (fun x=>tC x.1 x.2.1)
theorem ze:KC 94 As:=mq (Ec tY (Ec pz (Ec yZ (Ec za (Ec xG (Ec BM (Ec jQ (Ec mG En)))))))) .none Tryz.func94
def mH (a0:T_Game.D) (a1:T_Order.D):Option (T_Game.D×(Bool×Unit)) :=
(oD a0).bind fun y1 =>
(lq y1).bind fun y2 =>
 bif (!y2) then (
 some (y1,false,()))
 else (
((bif (a1.1 == 1) then (
(qD y1.2.1 a1.2.1).bind fun y3 =>
 some (.inl (y3.2.1,(y1.1,y3.1,y1.2.2),([],[],0,0,()),[],[],[],[],[],())))
 else (
((bif (a1.1 == 2) then (
(zP y1.2.1 a1.2.2.1).bind fun y4 =>
 some (.inl (y4.2.1,(y1.1,y4.1,y1.2.2),([],[],0,0,()),[],[],[],[],[],())))
 else (
((bif (a1.1 == 3) then (
(mu a1.2.2.2.1).bind fun y5 =>
 bif (!y5) then (
 some (.inr ((false,y1))))
 else (
(tC y1 a1.2.2.2.1).bind fun y6 =>
 some (.inl (true,(([],[],0,0,()),[],[],[],[],[],()),y6.1))))
 else (
((bif (a1.1 == 4) then (
 bif (y1.1.2.2.2.1 == 9999) then (
 some (.inr ((false,y1))))
 else (
(gh y1.1).bind fun y7 =>
 idx y7 1 fun _ =>
(y7[(1:Int).toNat]?).bind fun x8 =>
(py y1.2.1 (IntKind.wrap .i64 (y1.1.2.2.2.1 + 1))).bind fun y9 =>
 some (.inl (true,(([],[],0,0,()),[],[],[],[],[],()),(y1.1.1,y1.1.2.1,x8,IntKind.wrap .i64 (y1.1.2.2.2.1 + 1),()),y9,y1.2.2))))
 else (
 some (.inl (false,(([],[],0,0,()),[],[],[],[],[],()),y1)))):Option ((Bool×(T_Game.D×(ae.D×((List aa.D)×((List Int)×((List af.D)×((List ai.D)×((List au.D)×Unit))))))))⊕(Bool×(ae.D×((List aa.D)×((List Int)×((List af.D)×((List ai.D)×((List au.D)×Unit))))))))).bind fun o10 =>
 match o10 with
| .inl s11=>(
 some (.inl s11))
| .inr o12=>(
 some (.inr o12)))):Option ((Bool×(T_Game.D×(ae.D×((List aa.D)×((List Int)×((List af.D)×((List ai.D)×((List au.D)×Unit))))))))⊕(Bool×(ae.D×((List aa.D)×((List Int)×((List af.D)×((List ai.D)×((List au.D)×Unit))))))))).bind fun o13 =>
 match o13 with
| .inl s14=>(
 some (.inl (s14.1,s14.2.2,s14.2.1)))
| .inr o15=>(
 some (.inr o15)))):Option ((Bool×(T_Game.D×(ae.D×((List aa.D)×((List Int)×((List af.D)×((List ai.D)×((List au.D)×Unit))))))))⊕(Bool×(ae.D×((List aa.D)×((List Int)×((List af.D)×((List ai.D)×((List au.D)×Unit))))))))).bind fun o16 =>
 match o16 with
| .inl s17=>(
 some (.inl s17))
| .inr o18=>(
 some (.inr o18)))):Option ((Bool×(T_Game.D×(ae.D×((List aa.D)×((List Int)×((List af.D)×((List ai.D)×((List au.D)×Unit))))))))⊕(Bool×(ae.D×((List aa.D)×((List Int)×((List af.D)×((List ai.D)×((List au.D)×Unit))))))))).bind fun o19 =>
 match o19 with
| .inl s20=>(
 some (s20.2.1,s20.1,()))
| .inr o21=>(
 some (o21.2,o21.1,())))
def JR:Hints:=(n0 (n0 (n0 (n0 (nd (n0 (nd (n0 (.node (some ⟨[.tmp 6 .bool,.boxO 2 0 1 T_Game,.boxO 4 0 1 T_Game],[none],some [.tmp 5 .bool,.boxO 4 0 1 T_Game],[(2,0),(4,0),(8,0),(8,1),(8,2),(8,3),(8,4),(8,5),(8,6)]⟩) none .none (n0 (.node (some ⟨[.tmp 6 .bool,.boxO 2 0 1 T_Game,.boxO 4 0 1 T_Game],[none],some [.tmp 5 .bool,.boxO 4 0 1 T_Game],[(2,0),(4,0),(8,0),(8,1),(8,2),(8,3),(8,4),(8,5),(8,6)]⟩) none .none (n0 (.node (some ⟨[.tmp 6 .bool,.boxO 4 0 1 T_Game,.boxO 2 0 1 T_Game],[none],some [.tmp 5 .bool,.boxO 4 0 1 T_Game],[(4,0),(8,0),(2,0),(8,1),(8,2),(8,3),(8,4),(8,5),(8,6)]⟩) none .none (n0 (cu ⟨[.tmp 6 .bool,.boxO 4 0 1 T_Game,.boxO 2 0 1 T_Game],[none],some [.tmp 5 .bool,.boxO 4 0 1 T_Game],[(4,0),(2,0),(8,0),(8,1),(8,2),(8,3),(8,4),(8,5),(8,6)]⟩)))))))) .none)) .none)))))
def zf:Ct:=.pure false true (.pair T_Game (.pair T_Order .unit)) (.pair T_Game (.pair .bool .unit)) (fun x=>mH x.1 x.2.1)
theorem xH:KC 12 zf:=pq (Ec JA (Ec wL (Ec vT (Ec xB (Ec Bz (Ec ze (Ec ly (Ec pz En)))))))) JR Tryz.func12
def jh (a0:ah.D) (a1:ah.D):Option Bool :=
 bif (a0.1 != a1.1) then (
 some false)
 else (
 bif (a0.2.1 != a1.2.1) then (
 some false)
 else (
 bif (a0.2.2.1 != a1.2.2.1) then (
 some false)
 else (
 bif (a0.2.2.2.1 != a1.2.2.2.1) then (
 some false)
 else (
 bif (a0.2.2.2.2.1 != a1.2.2.2.2.1) then (
 some false)
 else (
 bif (a0.2.2.2.2.2.1 != a1.2.2.2.2.2.1) then (
 some false)
 else (
 bif (a0.2.2.2.2.2.2.1 != a1.2.2.2.2.2.2.1) then (
 some false)
 else (
 bif (a0.2.2.2.2.2.2.2.1 != a1.2.2.2.2.2.2.2.1) then (
 some false)
 else (
 bif (a0.2.2.2.2.2.2.2.2.1 != a1.2.2.2.2.2.2.2.2.1) then (
 some false)
 else (
 bif (a0.2.2.2.2.2.2.2.2.2.1 != a1.2.2.2.2.2.2.2.2.2.1) then (
 some false)
 else (
 bif (a0.2.2.2.2.2.2.2.2.2.2.1 != a1.2.2.2.2.2.2.2.2.2.2.1) then (
 some false)
 else (
 bif (a0.2.2.2.2.2.2.2.2.2.2.2.1 != a1.2.2.2.2.2.2.2.2.2.2.2.1) then (
 some false)
 else (
 bif (a0.2.2.2.2.2.2.2.2.2.2.2.2.1 != a1.2.2.2.2.2.2.2.2.2.2.2.2.1) then (
 some false)
 else (
 some true)))))))))))))
def JS:Ct:=.pure true false (.pair ah (.pair ah .unit)) .bool (fun x=>jh x.1 x.2.1)
theorem pY:KC 283 JS:=pq En .none Tryz.func283
def uT (a0:(List ah.D)) (a1:(List ah.D)):Int→Option (Int⊕(Int⊕Bool)):=fun s1 =>
 bif decide (s1 < (a0.length:Int)) then (
 idx a0 s1 fun x2 =>
 idx a1 s1 fun x3 =>
(jh x2 x3).bind fun y4 =>
 bif (!y4) then (
 some (.inr (.inr false)))
 else (
 some (.inl (IntKind.wrap .i64 (s1 + 1)))))
 else (
 some (.inr (.inl s1)))
def oI (a0:(List ah.D)) (a1:(List ah.D)):Option Bool :=
 bif ((a0.length:Int) != (a1.length:Int)) then (
 some false)
 else (
(al (uT a0 a1) 0).bind fun o5 =>
 match o5 with
| .inl s6=>(
 some true)
| .inr o7=>(
 some o7))
def GV:Hints:=(n0 (n0 (nd (n0 (nd (.node none (some ⟨[.tmp 5 (.int .i64)],[some 0],some [.tmp 4 .bool],[]⟩) .none .none) .none)) .none)))
def GW:Ct:=.pure true false (.pair (.slice ah) (.pair (.slice ah) .unit)) .bool (fun x=>oI x.1 x.2.1)
theorem E4:KC 168 GW:=pq (Ec pY En) GV Tryz.func168
def tD (a0:ar.D) (a1:ar.D):Option Bool :=
 bif (a0.1 != a1.1) then (
 some false)
 else (
 bif (a0.2.1 != a1.2.1) then (
 some false)
 else (
 bif (a0.2.2.1 != a1.2.2.1) then (
 some false)
 else (
 some true)))
def LU:Ct:=.pure true false (.pair ar (.pair ar .unit)) .bool (fun x=>tD x.1 x.2.1)
theorem JT:KC 284 LU:=pq En .none Tryz.func284
def wN (a0:(List ar.D)) (a1:(List ar.D)):Int→Option (Int⊕(Int⊕Bool)):=fun s1 =>
 bif decide (s1 < (a0.length:Int)) then (
 idx a0 s1 fun x2 =>
 idx a1 s1 fun x3 =>
(tD x2 x3).bind fun y4 =>
 bif (!y4) then (
 some (.inr (.inr false)))
 else (
 some (.inl (IntKind.wrap .i64 (s1 + 1)))))
 else (
 some (.inr (.inl s1)))
def qL (a0:(List ar.D)) (a1:(List ar.D)):Option Bool :=
 bif ((a0.length:Int) != (a1.length:Int)) then (
 some false)
 else (
(al (wN a0 a1) 0).bind fun o5 =>
 match o5 with
| .inl s6=>(
 some true)
| .inr o7=>(
 some o7))
def JU:Hints:=(n0 (n0 (nd (n0 (nd (.node none (some ⟨[.tmp 5 (.int .i64)],[some 0],some [.tmp 4 .bool],[]⟩) .none .none) .none)) .none)))
def JV:Ct:=.pure true false (.pair (.slice ar) (.pair (.slice ar) .unit)) .bool (fun x=>qL x.1 x.2.1)
theorem GX:KC 169 JV:=pq (Ec JT En) JU Tryz.func169
def qM (a0:ae.D) (a1:ae.D):Option Bool :=
(oI a0.1 a1.1).bind fun y1 =>
 bif (!y1) then (
 some false)
 else (
(qL a0.2.1 a1.2.1).bind fun y2 =>
 bif (!y2) then (
 some false)
 else (
 bif (a0.2.2.1 != a1.2.2.1) then (
 some false)
 else (
 bif (a0.2.2.2.1 != a1.2.2.2.1) then (
 some false)
 else (
 some true))))
def JW:Ct:=.pure true false (.pair ae (.pair ae .unit)) .bool (fun x=>qM x.1 x.2.1)
theorem GY:KC 54 JW:=pq (Ec E4 (Ec GX En)) .none Tryz.func54
def wa (a0:cn.D) (a1:cn.D):Option Bool :=
 bif (a0.1 != a1.1) then (
 some false)
 else (
 bif (a0.2.1 != a1.2.1) then (
 some false)
 else (
 bif (a0.2.2.1 != a1.2.2.1) then (
 some false)
 else (
 bif (a0.2.2.2.1 != a1.2.2.2.1) then (
 some false)
 else (
 bif (a0.2.2.2.2.1 != a1.2.2.2.2.1) then (
 some false)
 else (
 bif (a0.2.2.2.2.2.1 != a1.2.2.2.2.2.1) then (
 some false)
 else (
 bif (a0.2.2.2.2.2.2.1 != a1.2.2.2.2.2.2.1) then (
 some false)
 else (
 some true)))))))
def Oa:Ct:=.pure true false (.pair cn (.pair cn .unit)) .bool (fun x=>wa x.1 x.2.1)
theorem LV:KC 255 Oa:=pq En .none Tryz.func255
def qN (a0:bc.D) (a1:bc.D):Option Bool :=
 bif (a0.1 != a1.1) then (
 some false)
 else (
 bif (a0.2.1 != a1.2.1) then (
 some false)
 else (
 some true))
def JX:Ct:=.pure true false (.pair bc (.pair bc .unit)) .bool (fun x=>qN x.1 x.2.1)
theorem GZ:KC 256 JX:=pq En .none Tryz.func256
def ji (a0:ac.D) (a1:ac.D):Option Bool :=
 bif (a0.1 != a1.1) then (
 some false)
 else (
 bif (a0.2.1 != a1.2.1) then (
 some false)
 else (
 bif (a0.2.2.1 != a1.2.2.1) then (
 some false)
 else (
 bif (a0.2.2.2.1 != a1.2.2.2.1) then (
 some false)
 else (
 bif (a0.2.2.2.2.1 != a1.2.2.2.2.1) then (
 some false)
 else (
 bif (a0.2.2.2.2.2.1 != a1.2.2.2.2.2.1) then (
 some false)
 else (
 bif (a0.2.2.2.2.2.2.1 != a1.2.2.2.2.2.2.1) then (
 some false)
 else (
 some true)))))))
def JY:Ct:=.pure true false (.pair ac (.pair ac .unit)) .bool (fun x=>ji x.1 x.2.1)
theorem pZ:KC 174 JY:=pq En .none Tryz.func174
def uU (a0:(List ac.D)) (a1:(List ac.D)):Int→Option (Int⊕(Int⊕Bool)):=fun s1 =>
 bif decide (s1 < (a0.length:Int)) then (
 idx a0 s1 fun x2 =>
 idx a1 s1 fun x3 =>
(ji x2 x3).bind fun y4 =>
 bif (!y4) then (
 some (.inr (.inr false)))
 else (
 some (.inl (IntKind.wrap .i64 (s1 + 1)))))
 else (
 some (.inr (.inl s1)))
def hU (a0:(List ac.D)) (a1:(List ac.D)):Option Bool :=
 bif ((a0.length:Int) != (a1.length:Int)) then (
 some false)
 else (
(al (uU a0 a1) 0).bind fun o5 =>
 match o5 with
| .inl s6=>(
 some true)
| .inr o7=>(
 some o7))
def G0:Hints:=(n0 (n0 (nd (n0 (nd (.node none (some ⟨[.tmp 5 (.int .i64)],[some 0],some [.tmp 4 .bool],[]⟩) .none .none) .none)) .none)))
def G1:Ct:=.pure true false (.pair (.slice ac) (.pair (.slice ac) .unit)) .bool (fun x=>hU x.1 x.2.1)
theorem n9:KC 66 G1:=pq (Ec pZ En) G0 Tryz.func66
def wb (a0:bg.D) (a1:bg.D):Option Bool :=
 bif (a0.1 != a1.1) then (
 some false)
 else (
 bif (a0.2.1 != a1.2.1) then (
 some false)
 else (
 bif (a0.2.2.1 != a1.2.2.1) then (
 some false)
 else (
 bif (a0.2.2.2.1 != a1.2.2.2.1) then (
 some false)
 else (
 bif (a0.2.2.2.2.1 != a1.2.2.2.2.1) then (
 some false)
 else (
 bif (a0.2.2.2.2.2.1 != a1.2.2.2.2.2.1) then (
 some false)
 else (
(hU a0.2.2.2.2.2.2.1 a1.2.2.2.2.2.2.1).bind fun y1 =>
 bif (!y1) then (
 some false)
 else (
 some true)))))))
def Ob:Ct:=.pure true false (.pair bg (.pair bg .unit)) .bool (fun x=>wb x.1 x.2.1)
theorem LW:KC 257 Ob:=pq (Ec n9 En) .none Tryz.func257
def hY (a0:aa.D) (a1:aa.D):Option Bool :=
 bif (a0.1 != a1.1) then (
 some false)
 else (
 bif (a0.2.1 != a1.2.1) then (
 some false)
 else (
 bif (a0.2.2.1 != a1.2.2.1) then (
 some false)
 else (
 bif (a0.2.2.2.1 != a1.2.2.2.1) then (
 some false)
 else (
(wa a0.2.2.2.2.1 a1.2.2.2.2.1).bind fun y1 =>
 bif (!y1) then (
 some false)
 else (
(qN a0.2.2.2.2.2.1 a1.2.2.2.2.2.1).bind fun y2 =>
 bif (!y2) then (
 some false)
 else (
(wb a0.2.2.2.2.2.2.1 a1.2.2.2.2.2.2.1).bind fun y3 =>
 bif (!y3) then (
 some false)
 else (
 bif (a0.2.2.2.2.2.2.2.1 != a1.2.2.2.2.2.2.2.1) then (
 some false)
 else (
 bif (a0.2.2.2.2.2.2.2.2.1 != a1.2.2.2.2.2.2.2.2.1) then (
 some false)
 else (
 some true)))))))))
def G2:Ct:=.pure true false (.pair aa (.pair aa .unit)) .bool (fun x=>hY x.1 x.2.1)
theorem uV:KC 135 G2:=pq (Ec LV (Ec GZ (Ec LW En))) .none Tryz.func135
def Dk (a0:(List aa.D)) (a1:(List aa.D)):Int→Option (Int⊕(Int⊕Bool)):=fun s1 =>
 bif decide (s1 < (a0.length:Int)) then (
 idx a0 s1 fun x2 =>
 idx a1 s1 fun x3 =>
(hY x2 x3).bind fun y4 =>
 bif (!y4) then (
 some (.inr (.inr false)))
 else (
 some (.inl (IntKind.wrap .i64 (s1 + 1)))))
 else (
 some (.inr (.inl s1)))
def mI (a0:(List aa.D)) (a1:(List aa.D)):Option Bool :=
 bif ((a0.length:Int) != (a1.length:Int)) then (
 some false)
 else (
(al (Dk a0 a1) 0).bind fun o5 =>
 match o5 with
| .inl s6=>(
 some true)
| .inr o7=>(
 some o7))
def E5:Hints:=(n0 (n0 (nd (n0 (nd (.node none (some ⟨[.tmp 5 (.int .i64)],[some 0],some [.tmp 4 .bool],[]⟩) .none .none) .none)) .none)))
def E6:Ct:=.pure true false (.pair (.slice aa) (.pair (.slice aa) .unit)) .bool (fun x=>mI x.1 x.2.1)
theorem Dm:KC 55 E6:=pq (Ec uV En) E5 Tryz.func55
def JZ (a0:(List Int)) (a1:(List Int)):Int→Option (Int⊕(Int⊕Bool)):=fun s1 =>
 bif decide (s1 < (a0.length:Int)) then (
 idx a0 s1 fun x2 =>
 idx a1 s1 fun x3 =>
 bif (x2 != x3) then (
 some (.inr (.inr false)))
 else (
 some (.inl (IntKind.wrap .i64 (s1 + 1)))))
 else (
 some (.inr (.inl s1)))
def tE (a0:(List Int)) (a1:(List Int)):Option Bool :=
 bif ((a0.length:Int) != (a1.length:Int)) then (
 some false)
 else (
(al (JZ a0 a1) 0).bind fun o4 =>
 match o4 with
| .inl s5=>(
 some true)
| .inr o6=>(
 some o6))
def LX:Hints:=(n0 (n0 (nd (n0 (nd (.node none (some ⟨[.tmp 5 (.int .i64)],[some 0],some [.tmp 4 .bool],[]⟩) .none .none) .none)) .none)))
def LY:Ct:=.pure true false (.pair (.slice (.int .i64)) (.pair (.slice (.int .i64)) .unit)) .bool (fun x=>tE x.1 x.2.1)
theorem J0:KC 56 LY:=pq En LX Tryz.func56
def mJ (a0:af.D) (a1:af.D):Option Bool :=
 bif (a0.1 != a1.1) then (
 some false)
 else (
 bif (a0.2.1 != a1.2.1) then (
 some false)
 else (
 bif (a0.2.2.1 != a1.2.2.1) then (
 some false)
 else (
(jh a0.2.2.2.1 a1.2.2.2.1).bind fun y1 =>
 bif (!y1) then (
 some false)
 else (
 some true))))
def E7:Ct:=.pure true false (.pair af (.pair af .unit)) .bool (fun x=>mJ x.1 x.2.1)
theorem Dn:KC 252 E7:=pq (Ec pY En) .none Tryz.func252
def rX (a0:(List af.D)) (a1:(List af.D)):Int→Option (Int⊕(Int⊕Bool)):=fun s1 =>
 bif decide (s1 < (a0.length:Int)) then (
 idx a0 s1 fun x2 =>
 idx a1 s1 fun x3 =>
(mJ x2 x3).bind fun y4 =>
 bif (!y4) then (
 some (.inr (.inr false)))
 else (
 some (.inl (IntKind.wrap .i64 (s1 + 1)))))
 else (
 some (.inr (.inl s1)))
def kE (a0:(List af.D)) (a1:(List af.D)):Option Bool :=
 bif ((a0.length:Int) != (a1.length:Int)) then (
 some false)
 else (
(al (rX a0 a1) 0).bind fun o5 =>
 match o5 with
| .inl s6=>(
 some true)
| .inr o7=>(
 some o7))
def Do:Hints:=(n0 (n0 (nd (n0 (nd (.node none (some ⟨[.tmp 5 (.int .i64)],[some 0],some [.tmp 4 .bool],[]⟩) .none .none) .none)) .none)))
def Dp:Ct:=.pure true false (.pair (.slice af) (.pair (.slice af) .unit)) .bool (fun x=>kE x.1 x.2.1)
theorem BN:KC 132 Dp:=pq (Ec Dn En) Do Tryz.func132
def tF (a0:ai.D) (a1:ai.D):Option Bool :=
 bif (a0.1 != a1.1) then (
 some false)
 else (
(ji a0.2.1 a1.2.1).bind fun y1 =>
 bif (!y1) then (
 some false)
 else (
 bif (a0.2.2.1 != a1.2.2.1) then (
 some false)
 else (
 bif (a0.2.2.2.1 != a1.2.2.2.1) then (
 some false)
 else (
(jh a0.2.2.2.2.1 a1.2.2.2.2.1).bind fun y2 =>
 bif (!y2) then (
 some false)
 else (
 some true)))))
def LZ:Ct:=.pure true false (.pair ai (.pair ai .unit)) .bool (fun x=>tF x.1 x.2.1)
theorem J1:KC 253 LZ:=pq (Ec pZ (Ec pY En)) .none Tryz.func253
def wO (a0:(List ai.D)) (a1:(List ai.D)):Int→Option (Int⊕(Int⊕Bool)):=fun s1 =>
 bif decide (s1 < (a0.length:Int)) then (
 idx a0 s1 fun x2 =>
 idx a1 s1 fun x3 =>
(tF x2 x3).bind fun y4 =>
 bif (!y4) then (
 some (.inr (.inr false)))
 else (
 some (.inl (IntKind.wrap .i64 (s1 + 1)))))
 else (
 some (.inr (.inl s1)))
def qO (a0:(List ai.D)) (a1:(List ai.D)):Option Bool :=
 bif ((a0.length:Int) != (a1.length:Int)) then (
 some false)
 else (
(al (wO a0 a1) 0).bind fun o5 =>
 match o5 with
| .inl s6=>(
 some true)
| .inr o7=>(
 some o7))
def J2:Hints:=(n0 (n0 (nd (n0 (nd (.node none (some ⟨[.tmp 5 (.int .i64)],[some 0],some [.tmp 4 .bool],[]⟩) .none .none) .none)) .none)))
def J3:Ct:=.pure true false (.pair (.slice ai) (.pair (.slice ai) .unit)) .bool (fun x=>qO x.1 x.2.1)
theorem G3:KC 133 J3:=pq (Ec J1 En) J2 Tryz.func133
def pB (a0:au.D) (a1:au.D):Option Bool :=
 bif (a0.1 != a1.1) then (
 some false)
 else (
 bif (a0.2.1 != a1.2.1) then (
 some false)
 else (
 bif (a0.2.2.1 != a1.2.2.1) then (
 some false)
 else (
 bif (a0.2.2.2.1 != a1.2.2.2.1) then (
 some false)
 else (
(ji a0.2.2.2.2.1 a1.2.2.2.2.1).bind fun y1 =>
 bif (!y1) then (
 some false)
 else (
(hU a0.2.2.2.2.2.1 a1.2.2.2.2.2.1).bind fun y2 =>
 bif (!y2) then (
 some false)
 else (
 bif (a0.2.2.2.2.2.2.1 != a1.2.2.2.2.2.2.1) then (
 some false)
 else (
 bif (a0.2.2.2.2.2.2.2.1 != a1.2.2.2.2.2.2.2.1) then (
 some false)
 else (
 some true))))))))
def L0:Ct:=.pure true false (.pair au (.pair au .unit)) .bool (fun x=>pB x.1 x.2.1)
theorem J4:KC 254 L0:=pq (Ec n9 (Ec pZ En)) .none Tryz.func254
def G4 (a0:(List au.D)) (a1:(List au.D)):Int→Option (Int⊕(Int⊕Bool)):=fun s1 =>
 bif decide (s1 < (a0.length:Int)) then (
 idx a0 s1 fun x2 =>
 idx a1 s1 fun x3 =>
(pB x2 x3).bind fun y4 =>
 bif (!y4) then (
 some (.inr (.inr false)))
 else (
 some (.inl (IntKind.wrap .i64 (s1 + 1)))))
 else (
 some (.inr (.inl s1)))
def qP (a0:(List au.D)) (a1:(List au.D)):Option Bool :=
 bif ((a0.length:Int) != (a1.length:Int)) then (
 some false)
 else (
(al (G4 a0 a1) 0).bind fun o5 =>
 match o5 with
| .inl s6=>(
 some true)
| .inr o7=>(
 some o7))
def J5:Hints:=(n0 (n0 (nd (n0 (nd (.node none (some ⟨[.tmp 5 (.int .i64)],[some 0],some [.tmp 4 .bool],[]⟩) .none .none) .none)) .none)))
def J6:Ct:=.pure true false (.pair (.slice au) (.pair (.slice au) .unit)) .bool (fun x=>qP x.1 x.2.1)
theorem G5:KC 134 J6:=pq (Ec J4 En) J5 Tryz.func134
def iQ (a0:T_Game.D) (a1:T_Game.D):Option Bool :=
(qM a0.1 a1.1).bind fun y1 =>
 bif (!y1) then (
 some false)
 else (
(mI a0.2.1 a1.2.1).bind fun y2 =>
 bif (!y2) then (
 some false)
 else (
(tE a0.2.2.1 a1.2.2.1).bind fun y3 =>
 bif (!y3) then (
 some false)
 else (
(kE a0.2.2.2.1 a1.2.2.2.1).bind fun y4 =>
 bif (!y4) then (
 some false)
 else (
(qO a0.2.2.2.2.1 a1.2.2.2.2.1).bind fun y5 =>
 bif (!y5) then (
 some false)
 else (
(qP a0.2.2.2.2.2.1 a1.2.2.2.2.2.1).bind fun y6 =>
 bif (!y6) then (
 some false)
 else (
 some true))))))
def L1:Ct:=.pure true false (.pair T_Game (.pair T_Game .unit)) .bool (fun x=>iQ x.1 x.2.1)
theorem J7:KC 27 L1:=pq (Ec GY (Ec Dm (Ec J0 (Ec BN (Ec G3 (Ec G5 En)))))) .none Tryz.func27
def qQ (a0:T_Order.D) (a1:T_Order.D):Option Bool :=
 bif (a0.1 != a1.1) then (
 some false)
 else (
(hY a0.2.1 a1.2.1).bind fun y1 =>
 bif (!y1) then (
 some false)
 else (
 bif (a0.2.2.1 != a1.2.2.1) then (
 some false)
 else (
(hU a0.2.2.2.1 a1.2.2.2.1).bind fun y2 =>
 bif (!y2) then (
 some false)
 else (
 some true))))
def J8:Ct:=.pure true false (.pair T_Order (.pair T_Order .unit)) .bool (fun x=>qQ x.1 x.2.1)
theorem G6:KC 28 J8:=pq (Ec n9 (Ec uV En)) .none Tryz.func28
def gF:((List ah.D)×(Int×Int))→Option (((List ah.D)×(Int×Int))⊕((List ah.D)×(Int×Int))):=fun s2 =>
 bif decide (s2.2.2 < (s2.1.length:Int)) then (
 idx s2.1 s2.2.2 fun _ =>
(s2.1[(s2.2.2:Int).toNat]?).bind fun x3 =>
 let u4:(List ah.D):=s2.1.set (s2.2.2:Int).toNat (s2.2.1,x3.2)
 idx u4 s2.2.2 fun _ =>
(u4[(s2.2.2:Int).toNat]?).bind fun x5 =>
 let u6:(List ah.D):=u4.set (s2.2.2:Int).toNat (x5.1,IntKind.wrap .i64 (s2.2.1 + 1),x5.2.2)
 idx u6 s2.2.2 fun _ =>
(u6[(s2.2.2:Int).toNat]?).bind fun x7 =>
 let u8:(List ah.D):=u6.set (s2.2.2:Int).toNat (x7.1,x7.2.1,IntKind.wrap .i64 ((IntKind.wrap .i64 (s2.2.1 + 1)) + 1),x7.2.2.2)
 let k9:Int:=IntKind.wrap .i64 ((IntKind.wrap .i64 ((IntKind.wrap .i64 (s2.2.1 + 1)) + 1)) + 1)
 idx u8 s2.2.2 fun _ =>
(u8[(s2.2.2:Int).toNat]?).bind fun x10 =>
 let u11:(List ah.D):=u8.set (s2.2.2:Int).toNat (x10.1,x10.2.1,x10.2.2.1,k9,x10.2.2.2.2)
 idx u11 s2.2.2 fun _ =>
(u11[(s2.2.2:Int).toNat]?).bind fun x12 =>
 let u13:(List ah.D):=u11.set (s2.2.2:Int).toNat (x12.1,x12.2.1,x12.2.2.1,x12.2.2.2.1,IntKind.wrap .i64 (k9 + 1),x12.2.2.2.2.2)
 idx u13 s2.2.2 fun _ =>
(u13[(s2.2.2:Int).toNat]?).bind fun x14 =>
 let u15:(List ah.D):=u13.set (s2.2.2:Int).toNat (x14.1,x14.2.1,x14.2.2.1,x14.2.2.2.1,x14.2.2.2.2.1,IntKind.wrap .i64 ((IntKind.wrap .i64 (k9 + 1)) + 1),x14.2.2.2.2.2.2)
 let k16:Int:=IntKind.wrap .i64 ((IntKind.wrap .i64 ((IntKind.wrap .i64 (k9 + 1)) + 1)) + 1)
 idx u15 s2.2.2 fun _ =>
(u15[(s2.2.2:Int).toNat]?).bind fun x17 =>
 let u18:(List ah.D):=u15.set (s2.2.2:Int).toNat (x17.1,x17.2.1,x17.2.2.1,x17.2.2.2.1,x17.2.2.2.2.1,x17.2.2.2.2.2.1,k16,x17.2.2.2.2.2.2.2)
 idx u18 s2.2.2 fun _ =>
(u18[(s2.2.2:Int).toNat]?).bind fun x19 =>
 let u20:(List ah.D):=u18.set (s2.2.2:Int).toNat (x19.1,x19.2.1,x19.2.2.1,x19.2.2.2.1,x19.2.2.2.2.1,x19.2.2.2.2.2.1,x19.2.2.2.2.2.2.1,IntKind.wrap .i64 (k16 + 1),x19.2.2.2.2.2.2.2.2)
 idx u20 s2.2.2 fun _ =>
(u20[(s2.2.2:Int).toNat]?).bind fun x21 =>
 let u22:(List ah.D):=u20.set (s2.2.2:Int).toNat (x21.1,x21.2.1,x21.2.2.1,x21.2.2.2.1,x21.2.2.2.2.1,x21.2.2.2.2.2.1,x21.2.2.2.2.2.2.1,x21.2.2.2.2.2.2.2.1,IntKind.wrap .i64 ((IntKind.wrap .i64 (k16 + 1)) + 1),x21.2.2.2.2.2.2.2.2.2)
 let k23:Int:=IntKind.wrap .i64 ((IntKind.wrap .i64 ((IntKind.wrap .i64 (k16 + 1)) + 1)) + 1)
 idx u22 s2.2.2 fun _ =>
(u22[(s2.2.2:Int).toNat]?).bind fun x24 =>
 let u25:(List ah.D):=u22.set (s2.2.2:Int).toNat (x24.1,x24.2.1,x24.2.2.1,x24.2.2.2.1,x24.2.2.2.2.1,x24.2.2.2.2.2.1,x24.2.2.2.2.2.2.1,x24.2.2.2.2.2.2.2.1,x24.2.2.2.2.2.2.2.2.1,k23,x24.2.2.2.2.2.2.2.2.2.2)
 idx u25 s2.2.2 fun _ =>
(u25[(s2.2.2:Int).toNat]?).bind fun x26 =>
 let u27:(List ah.D):=u25.set (s2.2.2:Int).toNat (x26.1,x26.2.1,x26.2.2.1,x26.2.2.2.1,x26.2.2.2.2.1,x26.2.2.2.2.2.1,x26.2.2.2.2.2.2.1,x26.2.2.2.2.2.2.2.1,x26.2.2.2.2.2.2.2.2.1,x26.2.2.2.2.2.2.2.2.2.1,IntKind.wrap .i64 (k23 + 1),x26.2.2.2.2.2.2.2.2.2.2.2)
 if 3=0 then none else (
 let k28:Int:=(IntKind.wrap .i64 ((IntKind.wrap .i64 (k23 + 1)) + 1)).tmod 3
 idx u27 s2.2.2 fun _ =>
(u27[(s2.2.2:Int).toNat]?).bind fun x29 =>
 let u30:(List ah.D):=u27.set (s2.2.2:Int).toNat (x29.1,x29.2.1,x29.2.2.1,x29.2.2.2.1,x29.2.2.2.2.1,x29.2.2.2.2.2.1,x29.2.2.2.2.2.2.1,x29.2.2.2.2.2.2.2.1,x29.2.2.2.2.2.2.2.2.1,x29.2.2.2.2.2.2.2.2.2.1,x29.2.2.2.2.2.2.2.2.2.2.1,(k28 == 0),x29.2.2.2.2.2.2.2.2.2.2.2.2)
 let k31:Int:=IntKind.wrap .i64 ((IntKind.wrap .i64 ((IntKind.wrap .i64 (k23 + 1)) + 1)) + 1)
 if 3=0 then none else (
 idx u30 s2.2.2 fun _ =>
(u30[(s2.2.2:Int).toNat]?).bind fun x32 =>
 let u33:(List ah.D):=u30.set (s2.2.2:Int).toNat (x32.1,x32.2.1,x32.2.2.1,x32.2.2.2.1,x32.2.2.2.2.1,x32.2.2.2.2.2.1,x32.2.2.2.2.2.2.1,x32.2.2.2.2.2.2.2.1,x32.2.2.2.2.2.2.2.2.1,x32.2.2.2.2.2.2.2.2.2.1,x32.2.2.2.2.2.2.2.2.2.2.1,x32.2.2.2.2.2.2.2.2.2.2.2.1,((k31.tmod 3) == 0),())
 some (.inl (u33,IntKind.wrap .i64 (k31 + 1),IntKind.wrap .i64 (s2.2.2 + 1))))))
 else (
 some (.inr s2))
def kF (a0:(List ah.D)) (a1:Int):Option (Int×((List ah.D)×Unit)) :=
(al (gF) (a0,a1,0)).bind fun o34 =>
 some (o34.2.1,(o34.1,()))
def Dq:Hints:=(n0 (nd (n0 (nd (.node none (some ⟨[.tmpO 0 1 (.slice ah),.tmp 1 (.int .i64),.tmp 5 (.int .i64)],[some 0],none,[]⟩) .none .none) .none)) .none))
def Dr:Ct:=.mut [.lent,.rd] true true (.pair (.slice ah) (.pair (.int .i64) .unit)) (.int .i64) (fun x=>kF x.1 x.2.1)
theorem BO:KC 170 Dr:=mq En Dq Tryz.func170
def ic:((List ar.D)×(Int×Int))→Option (((List ar.D)×(Int×Int))⊕((List ar.D)×(Int×Int))):=fun s2 =>
 bif decide (s2.2.2 < (s2.1.length:Int)) then (
 idx s2.1 s2.2.2 fun _ =>
(s2.1[(s2.2.2:Int).toNat]?).bind fun x3 =>
 let u4:(List ar.D):=s2.1.set (s2.2.2:Int).toNat (s2.2.1,x3.2)
 idx u4 s2.2.2 fun _ =>
(u4[(s2.2.2:Int).toNat]?).bind fun x5 =>
 let u6:(List ar.D):=u4.set (s2.2.2:Int).toNat (x5.1,IntKind.wrap .i64 (s2.2.1 + 1),x5.2.2)
 if 3=0 then none else (
 let k7:Int:=(IntKind.wrap .i64 ((IntKind.wrap .i64 (s2.2.1 + 1)) + 1)).tmod 3
 idx u6 s2.2.2 fun _ =>
(u6[(s2.2.2:Int).toNat]?).bind fun x8 =>
 let u9:(List ar.D):=u6.set (s2.2.2:Int).toNat (x8.1,x8.2.1,(k7 == 0),())
 let k10:Int:=IntKind.wrap .i64 ((IntKind.wrap .i64 ((IntKind.wrap .i64 (s2.2.1 + 1)) + 1)) + 1)
 some (.inl (u9,k10,IntKind.wrap .i64 (s2.2.2 + 1)))))
 else (
 some (.inr s2))
def mK (a0:(List ar.D)) (a1:Int):Option (Int×((List ar.D)×Unit)) :=
(al (ic) (a0,a1,0)).bind fun o11 =>
 some (o11.2.1,(o11.1,()))
def E8:Hints:=(n0 (nd (n0 (nd (.node none (some ⟨[.tmpO 0 1 (.slice ar),.tmp 1 (.int .i64),.tmp 5 (.int .i64)],[some 0],none,[]⟩) .none .none) .none)) .none))
def E9:Ct:=.mut [.lent,.rd] true true (.pair (.slice ar) (.pair (.int .i64) .unit)) (.int .i64) (fun x=>mK x.1 x.2.1)
theorem Ds:KC 171 E9:=mq En E8 Tryz.func171
def mL (a0:ae.D) (a1:Int):Option (Int×(ae.D×Unit)) :=
(kF a0.1 a1).bind fun y1 =>
(mK a0.2.1 y1.1).bind fun y2 =>
 some (y2.1,((y1.2.1,y2.2.1,a0.2.2),()))
def Fa:Ct:=.mut [.lent,.rd] true true (.pair ae (.pair (.int .i64) .unit)) (.int .i64) (fun x=>mL x.1 x.2.1)
theorem Dt:KC 57 Fa:=mq (Ec BO (Ec Ds En)) .none Tryz.func57
def gG:((List ac.D)×(Int×Int))→Option (((List ac.D)×(Int×Int))⊕((List ac.D)×(Int×Int))):=fun s2 =>
 bif decide (s2.2.2 < (s2.1.length:Int)) then (
 idx s2.1 s2.2.2 fun _ =>
(s2.1[(s2.2.2:Int).toNat]?).bind fun x3 =>
 let u4:(List ac.D):=s2.1.set (s2.2.2:Int).toNat (s2.2.1,x3.2)
 idx u4 s2.2.2 fun _ =>
(u4[(s2.2.2:Int).toNat]?).bind fun x5 =>
 let u6:(List ac.D):=u4.set (s2.2.2:Int).toNat (x5.1,IntKind.wrap .i64 (s2.2.1 + 1),x5.2.2)
 idx u6 s2.2.2 fun _ =>
(u6[(s2.2.2:Int).toNat]?).bind fun x7 =>
 let u8:(List ac.D):=u6.set (s2.2.2:Int).toNat (x7.1,x7.2.1,IntKind.wrap .i64 ((IntKind.wrap .i64 (s2.2.1 + 1)) + 1),x7.2.2.2)
 let k9:Int:=IntKind.wrap .i64 ((IntKind.wrap .i64 ((IntKind.wrap .i64 (s2.2.1 + 1)) + 1)) + 1)
 idx u8 s2.2.2 fun _ =>
(u8[(s2.2.2:Int).toNat]?).bind fun x10 =>
 let u11:(List ac.D):=u8.set (s2.2.2:Int).toNat (x10.1,x10.2.1,x10.2.2.1,k9,x10.2.2.2.2)
 idx u11 s2.2.2 fun _ =>
(u11[(s2.2.2:Int).toNat]?).bind fun x12 =>
 let u13:(List ac.D):=u11.set (s2.2.2:Int).toNat (x12.1,x12.2.1,x12.2.2.1,x12.2.2.2.1,IntKind.wrap .i64 (k9 + 1),x12.2.2.2.2.2)
 idx u13 s2.2.2 fun _ =>
(u13[(s2.2.2:Int).toNat]?).bind fun x14 =>
 let u15:(List ac.D):=u13.set (s2.2.2:Int).toNat (x14.1,x14.2.1,x14.2.2.1,x14.2.2.2.1,x14.2.2.2.2.1,IntKind.wrap .i64 ((IntKind.wrap .i64 (k9 + 1)) + 1),x14.2.2.2.2.2.2)
 let k16:Int:=IntKind.wrap .i64 ((IntKind.wrap .i64 ((IntKind.wrap .i64 (k9 + 1)) + 1)) + 1)
 if 3=0 then none else (
 idx u15 s2.2.2 fun _ =>
(u15[(s2.2.2:Int).toNat]?).bind fun x17 =>
 let u18:(List ac.D):=u15.set (s2.2.2:Int).toNat (x17.1,x17.2.1,x17.2.2.1,x17.2.2.2.1,x17.2.2.2.2.1,x17.2.2.2.2.2.1,((k16.tmod 3) == 0),())
 some (.inl (u18,IntKind.wrap .i64 (k16 + 1),IntKind.wrap .i64 (s2.2.2 + 1)))))
 else (
 some (.inr s2))
def cM (a0:(List ac.D)) (a1:Int):Option (Int×((List ac.D)×Unit)) :=
(al (gG) (a0,a1,0)).bind fun o19 =>
 some (o19.2.1,(o19.1,()))
def Du:Hints:=(n0 (nd (n0 (nd (.node none (some ⟨[.tmpO 0 1 (.slice ac),.tmp 1 (.int .i64),.tmp 5 (.int .i64)],[some 0],none,[]⟩) .none .none) .none)) .none))
def Dv:Ct:=.mut [.lent,.rd] true true (.pair (.slice ac) (.pair (.int .i64) .unit)) (.int .i64) (fun x=>cM x.1 x.2.1)
theorem gH:KC 67 Dv:=mq En Du Tryz.func67
def fN:((List aa.D)×(Int×Int))→Option (((List aa.D)×(Int×Int))⊕((List aa.D)×(Int×Int))):=fun s2 =>
 bif decide (s2.2.2 < (s2.1.length:Int)) then (
 idx s2.1 s2.2.2 fun _ =>
(s2.1[(s2.2.2:Int).toNat]?).bind fun x3 =>
 let u4:(List aa.D):=s2.1.set (s2.2.2:Int).toNat (s2.2.1,x3.2)
 idx u4 s2.2.2 fun _ =>
(u4[(s2.2.2:Int).toNat]?).bind fun x5 =>
 let u6:(List aa.D):=u4.set (s2.2.2:Int).toNat (x5.1,IntKind.wrap .i64 (s2.2.1 + 1),x5.2.2)
 idx u6 s2.2.2 fun _ =>
(u6[(s2.2.2:Int).toNat]?).bind fun x7 =>
 let u8:(List aa.D):=u6.set (s2.2.2:Int).toNat (x7.1,x7.2.1,IntKind.wrap .i64 ((IntKind.wrap .i64 (s2.2.1 + 1)) + 1),x7.2.2.2)
 let k9:Int:=IntKind.wrap .i64 ((IntKind.wrap .i64 ((IntKind.wrap .i64 (s2.2.1 + 1)) + 1)) + 1)
 idx u8 s2.2.2 fun _ =>
(u8[(s2.2.2:Int).toNat]?).bind fun x10 =>
 let u11:(List aa.D):=u8.set (s2.2.2:Int).toNat (x10.1,x10.2.1,x10.2.2.1,k9,x10.2.2.2.2)
 idx u11 s2.2.2 fun _ =>
(u11[(s2.2.2:Int).toNat]?).bind fun x12 =>
 let u13:(List aa.D):=u11.set (s2.2.2:Int).toNat (x12.1,x12.2.1,x12.2.2.1,x12.2.2.2.1,(IntKind.wrap .i64 (k9 + 1),x12.2.2.2.2.1.2),x12.2.2.2.2.2)
 idx u13 s2.2.2 fun _ =>
(u13[(s2.2.2:Int).toNat]?).bind fun x14 =>
 let u15:(List aa.D):=u13.set (s2.2.2:Int).toNat (x14.1,x14.2.1,x14.2.2.1,x14.2.2.2.1,(x14.2.2.2.2.1.1,IntKind.wrap .i64 ((IntKind.wrap .i64 (k9 + 1)) + 1),x14.2.2.2.2.1.2.2),x14.2.2.2.2.2)
 let k16:Int:=IntKind.wrap .i64 ((IntKind.wrap .i64 ((IntKind.wrap .i64 (k9 + 1)) + 1)) + 1)
 idx u15 s2.2.2 fun _ =>
(u15[(s2.2.2:Int).toNat]?).bind fun x17 =>
 let u18:(List aa.D):=u15.set (s2.2.2:Int).toNat (x17.1,x17.2.1,x17.2.2.1,x17.2.2.2.1,(x17.2.2.2.2.1.1,x17.2.2.2.2.1.2.1,k16,x17.2.2.2.2.1.2.2.2),x17.2.2.2.2.2)
 idx u18 s2.2.2 fun _ =>
(u18[(s2.2.2:Int).toNat]?).bind fun x19 =>
 let u20:(List aa.D):=u18.set (s2.2.2:Int).toNat (x19.1,x19.2.1,x19.2.2.1,x19.2.2.2.1,(x19.2.2.2.2.1.1,x19.2.2.2.2.1.2.1,x19.2.2.2.2.1.2.2.1,IntKind.wrap .i64 (k16 + 1),x19.2.2.2.2.1.2.2.2.2),x19.2.2.2.2.2)
 idx u20 s2.2.2 fun _ =>
(u20[(s2.2.2:Int).toNat]?).bind fun x21 =>
 let u22:(List aa.D):=u20.set (s2.2.2:Int).toNat (x21.1,x21.2.1,x21.2.2.1,x21.2.2.2.1,(x21.2.2.2.2.1.1,x21.2.2.2.2.1.2.1,x21.2.2.2.2.1.2.2.1,x21.2.2.2.2.1.2.2.2.1,IntKind.wrap .i64 ((IntKind.wrap .i64 (k16 + 1)) + 1),x21.2.2.2.2.1.2.2.2.2.2),x21.2.2.2.2.2)
 let k23:Int:=IntKind.wrap .i64 ((IntKind.wrap .i64 ((IntKind.wrap .i64 (k16 + 1)) + 1)) + 1)
 idx u22 s2.2.2 fun _ =>
(u22[(s2.2.2:Int).toNat]?).bind fun x24 =>
 let u25:(List aa.D):=u22.set (s2.2.2:Int).toNat (x24.1,x24.2.1,x24.2.2.1,x24.2.2.2.1,(x24.2.2.2.2.1.1,x24.2.2.2.2.1.2.1,x24.2.2.2.2.1.2.2.1,x24.2.2.2.2.1.2.2.2.1,x24.2.2.2.2.1.2.2.2.2.1,k23,x24.2.2.2.2.1.2.2.2.2.2.2),x24.2.2.2.2.2)
 idx u25 s2.2.2 fun _ =>
(u25[(s2.2.2:Int).toNat]?).bind fun x26 =>
 let u27:(List aa.D):=u25.set (s2.2.2:Int).toNat (x26.1,x26.2.1,x26.2.2.1,x26.2.2.2.1,(x26.2.2.2.2.1.1,x26.2.2.2.2.1.2.1,x26.2.2.2.2.1.2.2.1,x26.2.2.2.2.1.2.2.2.1,x26.2.2.2.2.1.2.2.2.2.1,x26.2.2.2.2.1.2.2.2.2.2.1,IntKind.wrap .i64 (k23 + 1),()),x26.2.2.2.2.2)
 idx u27 s2.2.2 fun _ =>
(u27[(s2.2.2:Int).toNat]?).bind fun x28 =>
 let u29:(List aa.D):=u27.set (s2.2.2:Int).toNat (x28.1,x28.2.1,x28.2.2.1,x28.2.2.2.1,x28.2.2.2.2.1,(IntKind.wrap .i64 ((IntKind.wrap .i64 (k23 + 1)) + 1),x28.2.2.2.2.2.1.2),x28.2.2.2.2.2.2)
 let k30:Int:=IntKind.wrap .i64 ((IntKind.wrap .i64 ((IntKind.wrap .i64 (k23 + 1)) + 1)) + 1)
 idx u29 s2.2.2 fun _ =>
(u29[(s2.2.2:Int).toNat]?).bind fun x31 =>
 let u32:(List aa.D):=u29.set (s2.2.2:Int).toNat (x31.1,x31.2.1,x31.2.2.1,x31.2.2.2.1,x31.2.2.2.2.1,(x31.2.2.2.2.2.1.1,k30,()),x31.2.2.2.2.2.2)
 idx u32 s2.2.2 fun _ =>
(u32[(s2.2.2:Int).toNat]?).bind fun x33 =>
 let u34:(List aa.D):=u32.set (s2.2.2:Int).toNat (x33.1,x33.2.1,x33.2.2.1,x33.2.2.2.1,x33.2.2.2.2.1,x33.2.2.2.2.2.1,(IntKind.wrap .i64 (k30 + 1),x33.2.2.2.2.2.2.1.2),x33.2.2.2.2.2.2.2)
 idx u34 s2.2.2 fun _ =>
(u34[(s2.2.2:Int).toNat]?).bind fun x35 =>
 let u36:(List aa.D):=u34.set (s2.2.2:Int).toNat (x35.1,x35.2.1,x35.2.2.1,x35.2.2.2.1,x35.2.2.2.2.1,x35.2.2.2.2.2.1,(x35.2.2.2.2.2.2.1.1,IntKind.wrap .i64 ((IntKind.wrap .i64 (k30 + 1)) + 1),x35.2.2.2.2.2.2.1.2.2),x35.2.2.2.2.2.2.2)
 let k37:Int:=IntKind.wrap .i64 ((IntKind.wrap .i64 ((IntKind.wrap .i64 (k30 + 1)) + 1)) + 1)
 idx u36 s2.2.2 fun _ =>
(u36[(s2.2.2:Int).toNat]?).bind fun x38 =>
 let u39:(List aa.D):=u36.set (s2.2.2:Int).toNat (x38.1,x38.2.1,x38.2.2.1,x38.2.2.2.1,x38.2.2.2.2.1,x38.2.2.2.2.2.1,(x38.2.2.2.2.2.2.1.1,x38.2.2.2.2.2.2.1.2.1,k37,x38.2.2.2.2.2.2.1.2.2.2),x38.2.2.2.2.2.2.2)
 idx u39 s2.2.2 fun _ =>
(u39[(s2.2.2:Int).toNat]?).bind fun x40 =>
 let u41:(List aa.D):=u39.set (s2.2.2:Int).toNat (x40.1,x40.2.1,x40.2.2.1,x40.2.2.2.1,x40.2.2.2.2.1,x40.2.2.2.2.2.1,(x40.2.2.2.2.2.2.1.1,x40.2.2.2.2.2.2.1.2.1,x40.2.2.2.2.2.2.1.2.2.1,IntKind.wrap .i64 (k37 + 1),x40.2.2.2.2.2.2.1.2.2.2.2),x40.2.2.2.2.2.2.2)
 idx u41 s2.2.2 fun _ =>
(u41[(s2.2.2:Int).toNat]?).bind fun x42 =>
 let u43:(List aa.D):=u41.set (s2.2.2:Int).toNat (x42.1,x42.2.1,x42.2.2.1,x42.2.2.2.1,x42.2.2.2.2.1,x42.2.2.2.2.2.1,(x42.2.2.2.2.2.2.1.1,x42.2.2.2.2.2.2.1.2.1,x42.2.2.2.2.2.2.1.2.2.1,x42.2.2.2.2.2.2.1.2.2.2.1,IntKind.wrap .i64 ((IntKind.wrap .i64 (k37 + 1)) + 1),x42.2.2.2.2.2.2.1.2.2.2.2.2),x42.2.2.2.2.2.2.2)
 let k44:Int:=IntKind.wrap .i64 ((IntKind.wrap .i64 ((IntKind.wrap .i64 (k37 + 1)) + 1)) + 1)
 if 3=0 then none else (
 idx u43 s2.2.2 fun _ =>
(u43[(s2.2.2:Int).toNat]?).bind fun x45 =>
 let u46:(List aa.D):=u43.set (s2.2.2:Int).toNat (x45.1,x45.2.1,x45.2.2.1,x45.2.2.2.1,x45.2.2.2.2.1,x45.2.2.2.2.2.1,(x45.2.2.2.2.2.2.1.1,x45.2.2.2.2.2.2.1.2.1,x45.2.2.2.2.2.2.1.2.2.1,x45.2.2.2.2.2.2.1.2.2.2.1,x45.2.2.2.2.2.2.1.2.2.2.2.1,((k44.tmod 3) == 0),x45.2.2.2.2.2.2.1.2.2.2.2.2.2),x45.2.2.2.2.2.2.2)
 idx u46 s2.2.2 fun _ =>
(u46[(s2.2.2:Int).toNat]?).bind fun x47 =>
(cM x47.2.2.2.2.2.2.1.2.2.2.2.2.2.1 (IntKind.wrap .i64 (k44 + 1))).bind fun y48 =>
 let u49:(List aa.D):=u46.set (s2.2.2:Int).toNat (x47.1,x47.2.1,x47.2.2.1,x47.2.2.2.1,x47.2.2.2.2.1,x47.2.2.2.2.2.1,(x47.2.2.2.2.2.2.1.1,x47.2.2.2.2.2.2.1.2.1,x47.2.2.2.2.2.2.1.2.2.1,x47.2.2.2.2.2.2.1.2.2.2.1,x47.2.2.2.2.2.2.1.2.2.2.2.1,x47.2.2.2.2.2.2.1.2.2.2.2.2.1,y48.2),x47.2.2.2.2.2.2.2)
 idx u49 s2.2.2 fun _ =>
(u49[(s2.2.2:Int).toNat]?).bind fun x50 =>
 let u51:(List aa.D):=u49.set (s2.2.2:Int).toNat (x50.1,x50.2.1,x50.2.2.1,x50.2.2.2.1,x50.2.2.2.2.1,x50.2.2.2.2.2.1,x50.2.2.2.2.2.2.1,y48.1,x50.2.2.2.2.2.2.2.2)
 idx u51 s2.2.2 fun _ =>
(u51[(s2.2.2:Int).toNat]?).bind fun x52 =>
 let u53:(List aa.D):=u51.set (s2.2.2:Int).toNat (x52.1,x52.2.1,x52.2.2.1,x52.2.2.2.1,x52.2.2.2.2.1,x52.2.2.2.2.2.1,x52.2.2.2.2.2.2.1,x52.2.2.2.2.2.2.2.1,IntKind.wrap .i64 (y48.1 + 1),())
 some (.inl (u53,IntKind.wrap .i64 ((IntKind.wrap .i64 (y48.1 + 1)) + 1),IntKind.wrap .i64 (s2.2.2 + 1)))))
 else (
 some (.inr s2))
def jj (a0:(List aa.D)) (a1:Int):Option (Int×((List aa.D)×Unit)) :=
(al (fN) (a0,a1,0)).bind fun o54 =>
 some (o54.2.1,(o54.1,()))
def BP:Hints:=(n0 (nd (n0 (nd (.node none (some ⟨[.tmpO 0 1 (.slice aa),.tmp 1 (.int .i64),.tmp 5 (.int .i64)],[some 0],none,[]⟩) (n0 (nd (nd (n0 (n0 (n0 (n0 (n0 (n0 (n0 (n0 (n0 (n0 (n0 (n0 (n0 (n0 (n0 (n0 (n0 (n0 (n0 (n0 (n0 (n0 (n0 (n0 (n0 (n0 (n0 (n0 (n0 (n0 (n0 (n0 (n0 (n0 (n0 (n0 (n0 (n0 (nd (.node none (some ⟨[],[],none,[(5,0)]⟩) .none .none) .none))))))))))))))))))))))))))))))))))))))) .none) .none)) .none) .none)) .none))
def BQ:Ct:=.mut [.lent,.rd] true true (.pair (.slice aa) (.pair (.int .i64) .unit)) (.int .i64) (fun x=>jj x.1 x.2.1)
theorem Au:KC 58 BQ:=mq (Ec gH En) BP Tryz.func58
def jk:((List Int)×(Int×Int))→Option (((List Int)×(Int×Int))⊕((List Int)×(Int×Int))):=fun s2 =>
 bif decide (s2.2.2 < (s2.1.length:Int)) then (
 idx s2.1 s2.2.2 fun _ =>
(s2.1[(s2.2.2:Int).toNat]?).bind fun x3 =>
 let u4:(List Int):=s2.1.set (s2.2.2:Int).toNat s2.2.1
 some (.inl (u4,IntKind.wrap .i64 (s2.2.1 + 1),IntKind.wrap .i64 (s2.2.2 + 1))))
 else (
 some (.inr s2))
def oJ (a0:(List Int)) (a1:Int):Option (Int×((List Int)×Unit)) :=
(al (jk) (a0,a1,0)).bind fun o5 =>
 some (o5.2.1,(o5.1,()))
def G7:Hints:=(n0 (nd (n0 (nd (.node none (some ⟨[.tmpO 0 1 (.slice (.int .i64)),.tmp 1 (.int .i64),.tmp 5 (.int .i64)],[some 0],none,[]⟩) .none .none) .none)) .none))
def G8:Ct:=.mut [.lent,.rd] true true (.pair (.slice (.int .i64)) (.pair (.int .i64) .unit)) (.int .i64) (fun x=>oJ x.1 x.2.1)
theorem Fb:KC 59 G8:=mq En G7 Tryz.func59
def fx:((List af.D)×(Int×Int))→Option (((List af.D)×(Int×Int))⊕((List af.D)×(Int×Int))):=fun s2 =>
 bif decide (s2.2.2 < (s2.1.length:Int)) then (
 idx s2.1 s2.2.2 fun _ =>
(s2.1[(s2.2.2:Int).toNat]?).bind fun x3 =>
 let u4:(List af.D):=s2.1.set (s2.2.2:Int).toNat (s2.2.1,x3.2)
 idx u4 s2.2.2 fun _ =>
(u4[(s2.2.2:Int).toNat]?).bind fun x5 =>
 let u6:(List af.D):=u4.set (s2.2.2:Int).toNat (x5.1,IntKind.wrap .i64 (s2.2.1 + 1),x5.2.2)
 idx u6 s2.2.2 fun _ =>
(u6[(s2.2.2:Int).toNat]?).bind fun x7 =>
 let u8:(List af.D):=u6.set (s2.2.2:Int).toNat (x7.1,x7.2.1,IntKind.wrap .i64 ((IntKind.wrap .i64 (s2.2.1 + 1)) + 1),x7.2.2.2)
 let k9:Int:=IntKind.wrap .i64 ((IntKind.wrap .i64 ((IntKind.wrap .i64 (s2.2.1 + 1)) + 1)) + 1)
 idx u8 s2.2.2 fun _ =>
(u8[(s2.2.2:Int).toNat]?).bind fun x10 =>
 let u11:(List af.D):=u8.set (s2.2.2:Int).toNat (x10.1,x10.2.1,x10.2.2.1,(k9,x10.2.2.2.1.2),())
 idx u11 s2.2.2 fun _ =>
(u11[(s2.2.2:Int).toNat]?).bind fun x12 =>
 let u13:(List af.D):=u11.set (s2.2.2:Int).toNat (x12.1,x12.2.1,x12.2.2.1,(x12.2.2.2.1.1,IntKind.wrap .i64 (k9 + 1),x12.2.2.2.1.2.2),())
 idx u13 s2.2.2 fun _ =>
(u13[(s2.2.2:Int).toNat]?).bind fun x14 =>
 let u15:(List af.D):=u13.set (s2.2.2:Int).toNat (x14.1,x14.2.1,x14.2.2.1,(x14.2.2.2.1.1,x14.2.2.2.1.2.1,IntKind.wrap .i64 ((IntKind.wrap .i64 (k9 + 1)) + 1),x14.2.2.2.1.2.2.2),())
 let k16:Int:=IntKind.wrap .i64 ((IntKind.wrap .i64 ((IntKind.wrap .i64 (k9 + 1)) + 1)) + 1)
 idx u15 s2.2.2 fun _ =>
(u15[(s2.2.2:Int).toNat]?).bind fun x17 =>
 let u18:(List af.D):=u15.set (s2.2.2:Int).toNat (x17.1,x17.2.1,x17.2.2.1,(x17.2.2.2.1.1,x17.2.2.2.1.2.1,x17.2.2.2.1.2.2.1,k16,x17.2.2.2.1.2.2.2.2),())
 idx u18 s2.2.2 fun _ =>
(u18[(s2.2.2:Int).toNat]?).bind fun x19 =>
 let u20:(List af.D):=u18.set (s2.2.2:Int).toNat (x19.1,x19.2.1,x19.2.2.1,(x19.2.2.2.1.1,x19.2.2.2.1.2.1,x19.2.2.2.1.2.2.1,x19.2.2.2.1.2.2.2.1,IntKind.wrap .i64 (k16 + 1),x19.2.2.2.1.2.2.2.2.2),())
 idx u20 s2.2.2 fun _ =>
(u20[(s2.2.2:Int).toNat]?).bind fun x21 =>
 let u22:(List af.D):=u20.set (s2.2.2:Int).toNat (x21.1,x21.2.1,x21.2.2.1,(x21.2.2.2.1.1,x21.2.2.2.1.2.1,x21.2.2.2.1.2.2.1,x21.2.2.2.1.2.2.2.1,x21.2.2.2.1.2.2.2.2.1,IntKind.wrap .i64 ((IntKind.wrap .i64 (k16 + 1)) + 1),x21.2.2.2.1.2.2.2.2.2.2),())
 let k23:Int:=IntKind.wrap .i64 ((IntKind.wrap .i64 ((IntKind.wrap .i64 (k16 + 1)) + 1)) + 1)
 idx u22 s2.2.2 fun _ =>
(u22[(s2.2.2:Int).toNat]?).bind fun x24 =>
 let u25:(List af.D):=u22.set (s2.2.2:Int).toNat (x24.1,x24.2.1,x24.2.2.1,(x24.2.2.2.1.1,x24.2.2.2.1.2.1,x24.2.2.2.1.2.2.1,x24.2.2.2.1.2.2.2.1,x24.2.2.2.1.2.2.2.2.1,x24.2.2.2.1.2.2.2.2.2.1,k23,x24.2.2.2.1.2.2.2.2.2.2.2),())
 idx u25 s2.2.2 fun _ =>
(u25[(s2.2.2:Int).toNat]?).bind fun x26 =>
 let u27:(List af.D):=u25.set (s2.2.2:Int).toNat (x26.1,x26.2.1,x26.2.2.1,(x26.2.2.2.1.1,x26.2.2.2.1.2.1,x26.2.2.2.1.2.2.1,x26.2.2.2.1.2.2.2.1,x26.2.2.2.1.2.2.2.2.1,x26.2.2.2.1.2.2.2.2.2.1,x26.2.2.2.1.2.2.2.2.2.2.1,IntKind.wrap .i64 (k23 + 1),x26.2.2.2.1.2.2.2.2.2.2.2.2),())
 idx u27 s2.2.2 fun _ =>
(u27[(s2.2.2:Int).toNat]?).bind fun x28 =>
 let u29:(List af.D):=u27.set (s2.2.2:Int).toNat (x28.1,x28.2.1,x28.2.2.1,(x28.2.2.2.1.1,x28.2.2.2.1.2.1,x28.2.2.2.1.2.2.1,x28.2.2.2.1.2.2.2.1,x28.2.2.2.1.2.2.2.2.1,x28.2.2.2.1.2.2.2.2.2.1,x28.2.2.2.1.2.2.2.2.2.2.1,x28.2.2.2.1.2.2.2.2.2.2.2.1,IntKind.wrap .i64 ((IntKind.wrap .i64 (k23 + 1)) + 1),x28.2.2.2.1.2.2.2.2.2.2.2.2.2),())
 let k30:Int:=IntKind.wrap .i64 ((IntKind.wrap .i64 ((IntKind.wrap .i64 (k23 + 1)) + 1)) + 1)
 idx u29 s2.2.2 fun _ =>
(u29[(s2.2.2:Int).toNat]?).bind fun x31 =>
 let u32:(List af.D):=u29.set (s2.2.2:Int).toNat (x31.1,x31.2.1,x31.2.2.1,(x31.2.2.2.1.1,x31.2.2.2.1.2.1,x31.2.2.2.1.2.2.1,x31.2.2.2.1.2.2.2.1,x31.2.2.2.1.2.2.2.2.1,x31.2.2.2.1.2.2.2.2.2.1,x31.2.2.2.1.2.2.2.2.2.2.1,x31.2.2.2.1.2.2.2.2.2.2.2.1,x31.2.2.2.1.2.2.2.2.2.2.2.2.1,k30,x31.2.2.2.1.2.2.2.2.2.2.2.2.2.2),())
 idx u32 s2.2.2 fun _ =>
(u32[(s2.2.2:Int).toNat]?).bind fun x33 =>
 let u34:(List af.D):=u32.set (s2.2.2:Int).toNat (x33.1,x33.2.1,x33.2.2.1,(x33.2.2.2.1.1,x33.2.2.2.1.2.1,x33.2.2.2.1.2.2.1,x33.2.2.2.1.2.2.2.1,x33.2.2.2.1.2.2.2.2.1,x33.2.2.2.1.2.2.2.2.2.1,x33.2.2.2.1.2.2.2.2.2.2.1,x33.2.2.2.1.2.2.2.2.2.2.2.1,x33.2.2.2.1.2.2.2.2.2.2.2.2.1,x33.2.2.2.1.2.2.2.2.2.2.2.2.2.1,IntKind.wrap .i64 (k30 + 1),x33.2.2.2.1.2.2.2.2.2.2.2.2.2.2.2),())
 if 3=0 then none else (
 let k35:Int:=(IntKind.wrap .i64 ((IntKind.wrap .i64 (k30 + 1)) + 1)).tmod 3
 idx u34 s2.2.2 fun _ =>
(u34[(s2.2.2:Int).toNat]?).bind fun x36 =>
 let u37:(List af.D):=u34.set (s2.2.2:Int).toNat (x36.1,x36.2.1,x36.2.2.1,(x36.2.2.2.1.1,x36.2.2.2.1.2.1,x36.2.2.2.1.2.2.1,x36.2.2.2.1.2.2.2.1,x36.2.2.2.1.2.2.2.2.1,x36.2.2.2.1.2.2.2.2.2.1,x36.2.2.2.1.2.2.2.2.2.2.1,x36.2.2.2.1.2.2.2.2.2.2.2.1,x36.2.2.2.1.2.2.2.2.2.2.2.2.1,x36.2.2.2.1.2.2.2.2.2.2.2.2.2.1,x36.2.2.2.1.2.2.2.2.2.2.2.2.2.2.1,(k35 == 0),x36.2.2.2.1.2.2.2.2.2.2.2.2.2.2.2.2),())
 let k38:Int:=IntKind.wrap .i64 ((IntKind.wrap .i64 ((IntKind.wrap .i64 (k30 + 1)) + 1)) + 1)
 if 3=0 then none else (
 idx u37 s2.2.2 fun _ =>
(u37[(s2.2.2:Int).toNat]?).bind fun x39 =>
 let u40:(List af.D):=u37.set (s2.2.2:Int).toNat (x39.1,x39.2.1,x39.2.2.1,(x39.2.2.2.1.1,x39.2.2.2.1.2.1,x39.2.2.2.1.2.2.1,x39.2.2.2.1.2.2.2.1,x39.2.2.2.1.2.2.2.2.1,x39.2.2.2.1.2.2.2.2.2.1,x39.2.2.2.1.2.2.2.2.2.2.1,x39.2.2.2.1.2.2.2.2.2.2.2.1,x39.2.2.2.1.2.2.2.2.2.2.2.2.1,x39.2.2.2.1.2.2.2.2.2.2.2.2.2.1,x39.2.2.2.1.2.2.2.2.2.2.2.2.2.2.1,x39.2.2.2.1.2.2.2.2.2.2.2.2.2.2.2.1,((k38.tmod 3) == 0),()),())
 some (.inl (u40,IntKind.wrap .i64 (k38 + 1),IntKind.wrap .i64 (s2.2.2 + 1))))))
 else (
 some (.inr s2))
def ie (a0:(List af.D)) (a1:Int):Option (Int×((List af.D)×Unit)) :=
(al (fx) (a0,a1,0)).bind fun o41 =>
 some (o41.2.1,(o41.1,()))
def Av:Hints:=(n0 (nd (n0 (nd (.node none (some ⟨[.tmpO 0 1 (.slice af),.tmp 1 (.int .i64),.tmp 5 (.int .i64)],[some 0],none,[]⟩) .none .none) .none)) .none))
def Aw:Ct:=.mut [.lent,.rd] true true (.pair (.slice af) (.pair (.int .i64) .unit)) (.int .i64) (fun x=>ie x.1 x.2.1)
theorem zg:KC 136 Aw:=mq En Av Tryz.func136
def ig:((List ai.D)×(Int×Int))→Option (((List ai.D)×(Int×Int))⊕((List ai.D)×(Int×Int))):=fun s2 =>
 bif decide (s2.2.2 < (s2.1.length:Int)) then (
 idx s2.1 s2.2.2 fun _ =>
(s2.1[(s2.2.2:Int).toNat]?).bind fun x3 =>
 let u4:(List ai.D):=s2.1.set (s2.2.2:Int).toNat (s2.2.1,x3.2)
 idx u4 s2.2.2 fun _ =>
(u4[(s2.2.2:Int).toNat]?).bind fun x5 =>
 let u6:(List ai.D):=u4.set (s2.2.2:Int).toNat (x5.1,(IntKind.wrap .i64 (s2.2.1 + 1),x5.2.1.2),x5.2.2)
 idx u6 s2.2.2 fun _ =>
(u6[(s2.2.2:Int).toNat]?).bind fun x7 =>
 let u8:(List ai.D):=u6.set (s2.2.2:Int).toNat (x7.1,(x7.2.1.1,IntKind.wrap .i64 ((IntKind.wrap .i64 (s2.2.1 + 1)) + 1),x7.2.1.2.2),x7.2.2)
 let k9:Int:=IntKind.wrap .i64 ((IntKind.wrap .i64 ((IntKind.wrap .i64 (s2.2.1 + 1)) + 1)) + 1)
 idx u8 s2.2.2 fun _ =>
(u8[(s2.2.2:Int).toNat]?).bind fun x10 =>
 let u11:(List ai.D):=u8.set (s2.2.2:Int).toNat (x10.1,(x10.2.1.1,x10.2.1.2.1,k9,x10.2.1.2.2.2),x10.2.2)
 idx u11 s2.2.2 fun _ =>
(u11[(s2.2.2:Int).toNat]?).bind fun x12 =>
 let u13:(List ai.D):=u11.set (s2.2.2:Int).toNat (x12.1,(x12.2.1.1,x12.2.1.2.1,x12.2.1.2.2.1,IntKind.wrap .i64 (k9 + 1),x12.2.1.2.2.2.2),x12.2.2)
 idx u13 s2.2.2 fun _ =>
(u13[(s2.2.2:Int).toNat]?).bind fun x14 =>
 let u15:(List ai.D):=u13.set (s2.2.2:Int).toNat (x14.1,(x14.2.1.1,x14.2.1.2.1,x14.2.1.2.2.1,x14.2.1.2.2.2.1,IntKind.wrap .i64 ((IntKind.wrap .i64 (k9 + 1)) + 1),x14.2.1.2.2.2.2.2),x14.2.2)
 let k16:Int:=IntKind.wrap .i64 ((IntKind.wrap .i64 ((IntKind.wrap .i64 (k9 + 1)) + 1)) + 1)
 idx u15 s2.2.2 fun _ =>
(u15[(s2.2.2:Int).toNat]?).bind fun x17 =>
 let u18:(List ai.D):=u15.set (s2.2.2:Int).toNat (x17.1,(x17.2.1.1,x17.2.1.2.1,x17.2.1.2.2.1,x17.2.1.2.2.2.1,x17.2.1.2.2.2.2.1,k16,x17.2.1.2.2.2.2.2.2),x17.2.2)
 if 3=0 then none else (
 idx u18 s2.2.2 fun _ =>
(u18[(s2.2.2:Int).toNat]?).bind fun x19 =>
 let u20:(List ai.D):=u18.set (s2.2.2:Int).toNat (x19.1,(x19.2.1.1,x19.2.1.2.1,x19.2.1.2.2.1,x19.2.1.2.2.2.1,x19.2.1.2.2.2.2.1,x19.2.1.2.2.2.2.2.1,(((IntKind.wrap .i64 (k16 + 1)).tmod 3) == 0),()),x19.2.2)
 idx u20 s2.2.2 fun _ =>
(u20[(s2.2.2:Int).toNat]?).bind fun x21 =>
 let u22:(List ai.D):=u20.set (s2.2.2:Int).toNat (x21.1,x21.2.1,IntKind.wrap .i64 ((IntKind.wrap .i64 (k16 + 1)) + 1),x21.2.2.2)
 let k23:Int:=IntKind.wrap .i64 ((IntKind.wrap .i64 ((IntKind.wrap .i64 (k16 + 1)) + 1)) + 1)
 idx u22 s2.2.2 fun _ =>
(u22[(s2.2.2:Int).toNat]?).bind fun x24 =>
 let u25:(List ai.D):=u22.set (s2.2.2:Int).toNat (x24.1,x24.2.1,x24.2.2.1,k23,x24.2.2.2.2)
 idx u25 s2.2.2 fun _ =>
(u25[(s2.2.2:Int).toNat]?).bind fun x26 =>
 let u27:(List ai.D):=u25.set (s2.2.2:Int).toNat (x26.1,x26.2.1,x26.2.2.1,x26.2.2.2.1,(IntKind.wrap .i64 (k23 + 1),x26.2.2.2.2.1.2),())
 idx u27 s2.2.2 fun _ =>
(u27[(s2.2.2:Int).toNat]?).bind fun x28 =>
 let u29:(List ai.D):=u27.set (s2.2.2:Int).toNat (x28.1,x28.2.1,x28.2.2.1,x28.2.2.2.1,(x28.2.2.2.2.1.1,IntKind.wrap .i64 ((IntKind.wrap .i64 (k23 + 1)) + 1),x28.2.2.2.2.1.2.2),())
 let k30:Int:=IntKind.wrap .i64 ((IntKind.wrap .i64 ((IntKind.wrap .i64 (k23 + 1)) + 1)) + 1)
 idx u29 s2.2.2 fun _ =>
(u29[(s2.2.2:Int).toNat]?).bind fun x31 =>
 let u32:(List ai.D):=u29.set (s2.2.2:Int).toNat (x31.1,x31.2.1,x31.2.2.1,x31.2.2.2.1,(x31.2.2.2.2.1.1,x31.2.2.2.2.1.2.1,k30,x31.2.2.2.2.1.2.2.2),())
 idx u32 s2.2.2 fun _ =>
(u32[(s2.2.2:Int).toNat]?).bind fun x33 =>
 let u34:(List ai.D):=u32.set (s2.2.2:Int).toNat (x33.1,x33.2.1,x33.2.2.1,x33.2.2.2.1,(x33.2.2.2.2.1.1,x33.2.2.2.2.1.2.1,x33.2.2.2.2.1.2.2.1,IntKind.wrap .i64 (k30 + 1),x33.2.2.2.2.1.2.2.2.2),())
 idx u34 s2.2.2 fun _ =>
(u34[(s2.2.2:Int).toNat]?).bind fun x35 =>
 let u36:(List ai.D):=u34.set (s2.2.2:Int).toNat (x35.1,x35.2.1,x35.2.2.1,x35.2.2.2.1,(x35.2.2.2.2.1.1,x35.2.2.2.2.1.2.1,x35.2.2.2.2.1.2.2.1,x35.2.2.2.2.1.2.2.2.1,IntKind.wrap .i64 ((IntKind.wrap .i64 (k30 + 1)) + 1),x35.2.2.2.2.1.2.2.2.2.2),())
 let k37:Int:=IntKind.wrap .i64 ((IntKind.wrap .i64 ((IntKind.wrap .i64 (k30 + 1)) + 1)) + 1)
 idx u36 s2.2.2 fun _ =>
(u36[(s2.2.2:Int).toNat]?).bind fun x38 =>
 let u39:(List ai.D):=u36.set (s2.2.2:Int).toNat (x38.1,x38.2.1,x38.2.2.1,x38.2.2.2.1,(x38.2.2.2.2.1.1,x38.2.2.2.2.1.2.1,x38.2.2.2.2.1.2.2.1,x38.2.2.2.2.1.2.2.2.1,x38.2.2.2.2.1.2.2.2.2.1,k37,x38.2.2.2.2.1.2.2.2.2.2.2),())
 idx u39 s2.2.2 fun _ =>
(u39[(s2.2.2:Int).toNat]?).bind fun x40 =>
 let u41:(List ai.D):=u39.set (s2.2.2:Int).toNat (x40.1,x40.2.1,x40.2.2.1,x40.2.2.2.1,(x40.2.2.2.2.1.1,x40.2.2.2.2.1.2.1,x40.2.2.2.2.1.2.2.1,x40.2.2.2.2.1.2.2.2.1,x40.2.2.2.2.1.2.2.2.2.1,x40.2.2.2.2.1.2.2.2.2.2.1,IntKind.wrap .i64 (k37 + 1),x40.2.2.2.2.1.2.2.2.2.2.2.2),())
 idx u41 s2.2.2 fun _ =>
(u41[(s2.2.2:Int).toNat]?).bind fun x42 =>
 let u43:(List ai.D):=u41.set (s2.2.2:Int).toNat (x42.1,x42.2.1,x42.2.2.1,x42.2.2.2.1,(x42.2.2.2.2.1.1,x42.2.2.2.2.1.2.1,x42.2.2.2.2.1.2.2.1,x42.2.2.2.2.1.2.2.2.1,x42.2.2.2.2.1.2.2.2.2.1,x42.2.2.2.2.1.2.2.2.2.2.1,x42.2.2.2.2.1.2.2.2.2.2.2.1,IntKind.wrap .i64 ((IntKind.wrap .i64 (k37 + 1)) + 1),x42.2.2.2.2.1.2.2.2.2.2.2.2.2),())
 let k44:Int:=IntKind.wrap .i64 ((IntKind.wrap .i64 ((IntKind.wrap .i64 (k37 + 1)) + 1)) + 1)
 idx u43 s2.2.2 fun _ =>
(u43[(s2.2.2:Int).toNat]?).bind fun x45 =>
 let u46:(List ai.D):=u43.set (s2.2.2:Int).toNat (x45.1,x45.2.1,x45.2.2.1,x45.2.2.2.1,(x45.2.2.2.2.1.1,x45.2.2.2.2.1.2.1,x45.2.2.2.2.1.2.2.1,x45.2.2.2.2.1.2.2.2.1,x45.2.2.2.2.1.2.2.2.2.1,x45.2.2.2.2.1.2.2.2.2.2.1,x45.2.2.2.2.1.2.2.2.2.2.2.1,x45.2.2.2.2.1.2.2.2.2.2.2.2.1,k44,x45.2.2.2.2.1.2.2.2.2.2.2.2.2.2),())
 idx u46 s2.2.2 fun _ =>
(u46[(s2.2.2:Int).toNat]?).bind fun x47 =>
 let u48:(List ai.D):=u46.set (s2.2.2:Int).toNat (x47.1,x47.2.1,x47.2.2.1,x47.2.2.2.1,(x47.2.2.2.2.1.1,x47.2.2.2.2.1.2.1,x47.2.2.2.2.1.2.2.1,x47.2.2.2.2.1.2.2.2.1,x47.2.2.2.2.1.2.2.2.2.1,x47.2.2.2.2.1.2.2.2.2.2.1,x47.2.2.2.2.1.2.2.2.2.2.2.1,x47.2.2.2.2.1.2.2.2.2.2.2.2.1,x47.2.2.2.2.1.2.2.2.2.2.2.2.2.1,IntKind.wrap .i64 (k44 + 1),x47.2.2.2.2.1.2.2.2.2.2.2.2.2.2.2),())
 idx u48 s2.2.2 fun _ =>
(u48[(s2.2.2:Int).toNat]?).bind fun x49 =>
 let u50:(List ai.D):=u48.set (s2.2.2:Int).toNat (x49.1,x49.2.1,x49.2.2.1,x49.2.2.2.1,(x49.2.2.2.2.1.1,x49.2.2.2.2.1.2.1,x49.2.2.2.2.1.2.2.1,x49.2.2.2.2.1.2.2.2.1,x49.2.2.2.2.1.2.2.2.2.1,x49.2.2.2.2.1.2.2.2.2.2.1,x49.2.2.2.2.1.2.2.2.2.2.2.1,x49.2.2.2.2.1.2.2.2.2.2.2.2.1,x49.2.2.2.2.1.2.2.2.2.2.2.2.2.1,x49.2.2.2.2.1.2.2.2.2.2.2.2.2.2.1,IntKind.wrap .i64 ((IntKind.wrap .i64 (k44 + 1)) + 1),x49.2.2.2.2.1.2.2.2.2.2.2.2.2.2.2.2),())
 let k51:Int:=IntKind.wrap .i64 ((IntKind.wrap .i64 ((IntKind.wrap .i64 (k44 + 1)) + 1)) + 1)
 if 3=0 then none else (
 idx u50 s2.2.2 fun _ =>
(u50[(s2.2.2:Int).toNat]?).bind fun x52 =>
 let u53:(List ai.D):=u50.set (s2.2.2:Int).toNat (x52.1,x52.2.1,x52.2.2.1,x52.2.2.2.1,(x52.2.2.2.2.1.1,x52.2.2.2.2.1.2.1,x52.2.2.2.2.1.2.2.1,x52.2.2.2.2.1.2.2.2.1,x52.2.2.2.2.1.2.2.2.2.1,x52.2.2.2.2.1.2.2.2.2.2.1,x52.2.2.2.2.1.2.2.2.2.2.2.1,x52.2.2.2.2.1.2.2.2.2.2.2.2.1,x52.2.2.2.2.1.2.2.2.2.2.2.2.2.1,x52.2.2.2.2.1.2.2.2.2.2.2.2.2.2.1,x52.2.2.2.2.1.2.2.2.2.2.2.2.2.2.2.1,((k51.tmod 3) == 0),x52.2.2.2.2.1.2.2.2.2.2.2.2.2.2.2.2.2),())
 if 3=0 then none else (
 idx u53 s2.2.2 fun _ =>
(u53[(s2.2.2:Int).toNat]?).bind fun x54 =>
 let u55:(List ai.D):=u53.set (s2.2.2:Int).toNat (x54.1,x54.2.1,x54.2.2.1,x54.2.2.2.1,(x54.2.2.2.2.1.1,x54.2.2.2.2.1.2.1,x54.2.2.2.2.1.2.2.1,x54.2.2.2.2.1.2.2.2.1,x54.2.2.2.2.1.2.2.2.2.1,x54.2.2.2.2.1.2.2.2.2.2.1,x54.2.2.2.2.1.2.2.2.2.2.2.1,x54.2.2.2.2.1.2.2.2.2.2.2.2.1,x54.2.2.2.2.1.2.2.2.2.2.2.2.2.1,x54.2.2.2.2.1.2.2.2.2.2.2.2.2.2.1,x54.2.2.2.2.1.2.2.2.2.2.2.2.2.2.2.1,x54.2.2.2.2.1.2.2.2.2.2.2.2.2.2.2.2.1,(((IntKind.wrap .i64 (k51 + 1)).tmod 3) == 0),()),())
 some (.inl (u55,IntKind.wrap .i64 ((IntKind.wrap .i64 (k51 + 1)) + 1),IntKind.wrap .i64 (s2.2.2 + 1)))))))
 else (
 some (.inr s2))
def mM (a0:(List ai.D)) (a1:Int):Option (Int×((List ai.D)×Unit)) :=
(al (ig) (a0,a1,0)).bind fun o56 =>
 some (o56.2.1,(o56.1,()))
def Fc:Hints:=(n0 (nd (n0 (nd (.node none (some ⟨[.tmpO 0 1 (.slice ai),.tmp 1 (.int .i64),.tmp 5 (.int .i64)],[some 0],none,[]⟩) .none .none) .none)) .none))
def Fd:Ct:=.mut [.lent,.rd] true true (.pair (.slice ai) (.pair (.int .i64) .unit)) (.int .i64) (fun x=>mM x.1 x.2.1)
theorem Dw:KC 137 Fd:=mq En Fc Tryz.func137
def ii:((List au.D)×(Int×Int))→Option (((List au.D)×(Int×Int))⊕((List au.D)×(Int×Int))):=fun s2 =>
 bif decide (s2.2.2 < (s2.1.length:Int)) then (
 idx s2.1 s2.2.2 fun _ =>
(s2.1[(s2.2.2:Int).toNat]?).bind fun x3 =>
 let u4:(List au.D):=s2.1.set (s2.2.2:Int).toNat (s2.2.1,x3.2)
 idx u4 s2.2.2 fun _ =>
(u4[(s2.2.2:Int).toNat]?).bind fun x5 =>
 let u6:(List au.D):=u4.set (s2.2.2:Int).toNat (x5.1,IntKind.wrap .i64 (s2.2.1 + 1),x5.2.2)
 idx u6 s2.2.2 fun _ =>
(u6[(s2.2.2:Int).toNat]?).bind fun x7 =>
 let u8:(List au.D):=u6.set (s2.2.2:Int).toNat (x7.1,x7.2.1,IntKind.wrap .i64 ((IntKind.wrap .i64 (s2.2.1 + 1)) + 1),x7.2.2.2)
 let k9:Int:=IntKind.wrap .i64 ((IntKind.wrap .i64 ((IntKind.wrap .i64 (s2.2.1 + 1)) + 1)) + 1)
 idx u8 s2.2.2 fun _ =>
(u8[(s2.2.2:Int).toNat]?).bind fun x10 =>
 let u11:(List au.D):=u8.set (s2.2.2:Int).toNat (x10.1,x10.2.1,x10.2.2.1,k9,x10.2.2.2.2)
 idx u11 s2.2.2 fun _ =>
(u11[(s2.2.2:Int).toNat]?).bind fun x12 =>
 let u13:(List au.D):=u11.set (s2.2.2:Int).toNat (x12.1,x12.2.1,x12.2.2.1,x12.2.2.2.1,(IntKind.wrap .i64 (k9 + 1),x12.2.2.2.2.1.2),x12.2.2.2.2.2)
 idx u13 s2.2.2 fun _ =>
(u13[(s2.2.2:Int).toNat]?).bind fun x14 =>
 let u15:(List au.D):=u13.set (s2.2.2:Int).toNat (x14.1,x14.2.1,x14.2.2.1,x14.2.2.2.1,(x14.2.2.2.2.1.1,IntKind.wrap .i64 ((IntKind.wrap .i64 (k9 + 1)) + 1),x14.2.2.2.2.1.2.2),x14.2.2.2.2.2)
 let k16:Int:=IntKind.wrap .i64 ((IntKind.wrap .i64 ((IntKind.wrap .i64 (k9 + 1)) + 1)) + 1)
 idx u15 s2.2.2 fun _ =>
(u15[(s2.2.2:Int).toNat]?).bind fun x17 =>
 let u18:(List au.D):=u15.set (s2.2.2:Int).toNat (x17.1,x17.2.1,x17.2.2.1,x17.2.2.2.1,(x17.2.2.2.2.1.1,x17.2.2.2.2.1.2.1,k16,x17.2.2.2.2.1.2.2.2),x17.2.2.2.2.2)
 idx u18 s2.2.2 fun _ =>
(u18[(s2.2.2:Int).toNat]?).bind fun x19 =>
 let u20:(List au.D):=u18.set (s2.2.2:Int).toNat (x19.1,x19.2.1,x19.2.2.1,x19.2.2.2.1,(x19.2.2.2.2.1.1,x19.2.2.2.2.1.2.1,x19.2.2.2.2.1.2.2.1,IntKind.wrap .i64 (k16 + 1),x19.2.2.2.2.1.2.2.2.2),x19.2.2.2.2.2)
 idx u20 s2.2.2 fun _ =>
(u20[(s2.2.2:Int).toNat]?).bind fun x21 =>
 let u22:(List au.D):=u20.set (s2.2.2:Int).toNat (x21.1,x21.2.1,x21.2.2.1,x21.2.2.2.1,(x21.2.2.2.2.1.1,x21.2.2.2.2.1.2.1,x21.2.2.2.2.1.2.2.1,x21.2.2.2.2.1.2.2.2.1,IntKind.wrap .i64 ((IntKind.wrap .i64 (k16 + 1)) + 1),x21.2.2.2.2.1.2.2.2.2.2),x21.2.2.2.2.2)
 let k23:Int:=IntKind.wrap .i64 ((IntKind.wrap .i64 ((IntKind.wrap .i64 (k16 + 1)) + 1)) + 1)
 idx u22 s2.2.2 fun _ =>
(u22[(s2.2.2:Int).toNat]?).bind fun x24 =>
 let u25:(List au.D):=u22.set (s2.2.2:Int).toNat (x24.1,x24.2.1,x24.2.2.1,x24.2.2.2.1,(x24.2.2.2.2.1.1,x24.2.2.2.2.1.2.1,x24.2.2.2.2.1.2.2.1,x24.2.2.2.2.1.2.2.2.1,x24.2.2.2.2.1.2.2.2.2.1,k23,x24.2.2.2.2.1.2.2.2.2.2.2),x24.2.2.2.2.2)
 if 3=0 then none else (
 idx u25 s2.2.2 fun _ =>
(u25[(s2.2.2:Int).toNat]?).bind fun x26 =>
 let u27:(List au.D):=u25.set (s2.2.2:Int).toNat (x26.1,x26.2.1,x26.2.2.1,x26.2.2.2.1,(x26.2.2.2.2.1.1,x26.2.2.2.2.1.2.1,x26.2.2.2.2.1.2.2.1,x26.2.2.2.2.1.2.2.2.1,x26.2.2.2.2.1.2.2.2.2.1,x26.2.2.2.2.1.2.2.2.2.2.1,(((IntKind.wrap .i64 (k23 + 1)).tmod 3) == 0),()),x26.2.2.2.2.2)
 idx u27 s2.2.2 fun _ =>
(u27[(s2.2.2:Int).toNat]?).bind fun x28 =>
(cM x28.2.2.2.2.2.1 (IntKind.wrap .i64 ((IntKind.wrap .i64 (k23 + 1)) + 1))).bind fun y29 =>
 let u30:(List au.D):=u27.set (s2.2.2:Int).toNat (x28.1,x28.2.1,x28.2.2.1,x28.2.2.2.1,x28.2.2.2.2.1,y29.2.1,x28.2.2.2.2.2.2)
 idx u30 s2.2.2 fun _ =>
(u30[(s2.2.2:Int).toNat]?).bind fun x31 =>
 let u32:(List au.D):=u30.set (s2.2.2:Int).toNat (x31.1,x31.2.1,x31.2.2.1,x31.2.2.2.1,x31.2.2.2.2.1,x31.2.2.2.2.2.1,y29.1,x31.2.2.2.2.2.2.2)
 idx u32 s2.2.2 fun _ =>
(u32[(s2.2.2:Int).toNat]?).bind fun x33 =>
 let u34:(List au.D):=u32.set (s2.2.2:Int).toNat (x33.1,x33.2.1,x33.2.2.1,x33.2.2.2.1,x33.2.2.2.2.1,x33.2.2.2.2.2.1,x33.2.2.2.2.2.2.1,IntKind.wrap .i64 (y29.1 + 1),())
 some (.inl (u34,IntKind.wrap .i64 ((IntKind.wrap .i64 (y29.1 + 1)) + 1),IntKind.wrap .i64 (s2.2.2 + 1)))))
 else (
 some (.inr s2))
def mN (a0:(List au.D)) (a1:Int):Option (Int×((List au.D)×Unit)) :=
(al (ii) (a0,a1,0)).bind fun o35 =>
 some (o35.2.1,(o35.1,()))
def Fe:Hints:=(n0 (nd (n0 (nd (.node none (some ⟨[.tmpO 0 1 (.slice au),.tmp 1 (.int .i64),.tmp 5 (.int .i64)],[some 0],none,[]⟩) (n0 (nd (nd (n0 (n0 (n0 (n0 (n0 (n0 (n0 (n0 (n0 (n0 (n0 (n0 (n0 (n0 (n0 (n0 (n0 (n0 (n0 (n0 (n0 (n0 (nd (.node none (some ⟨[],[],none,[(4,0)]⟩) .none .none) .none))))))))))))))))))))))) .none) .none)) .none) .none)) .none))
def Ff:Ct:=.mut [.lent,.rd] true true (.pair (.slice au) (.pair (.int .i64) .unit)) (.int .i64) (fun x=>mN x.1 x.2.1)
theorem Dx:KC 138 Ff:=mq (Ec gH En) Fe Tryz.func138
def jR (a0:T_Game.D) (a1:Int):Option (Int×(T_Game.D×Unit)) :=
(mL a0.1 a1).bind fun y1 =>
(jj a0.2.1 y1.1).bind fun y2 =>
(oJ a0.2.2.1 y2.1).bind fun y3 =>
(ie a0.2.2.2.1 y3.1).bind fun y4 =>
(mM a0.2.2.2.2.1 y4.1).bind fun y5 =>
(mN a0.2.2.2.2.2.1 y5.1).bind fun y6 =>
 some (y6.1,(((y1.2.1.1,y1.2.1.2.1,a0.1.2.2),y2.2.1,y3.2.1,y4.2.1,y5.2.1,y6.2),()))
def G9:Ct:=.mut [.lent,.rd] true true (.pair T_Game (.pair (.int .i64) .unit)) (.int .i64) (fun x=>jR x.1 x.2.1)
theorem Fg:KC 29 G9:=mq (Ec Dt (Ec Au (Ec Fb (Ec zg (Ec Dw (Ec Dx En)))))) .none Tryz.func29
def wc (a0:bg.D) (a1:Int):Option (Int×(bg.D×Unit)) :=
(cM a0.2.2.2.2.2.2.1 a1).bind fun y1 =>
 some (y1.1,((a0.1,a0.2.1,a0.2.2.1,a0.2.2.2.1,a0.2.2.2.2.1,a0.2.2.2.2.2.1,y1.2),()))
def J9:Ct:=.mut [.lent,.rd] true true (.pair bg (.pair (.int .i64) .unit)) (.int .i64) (fun x=>wc x.1 x.2.1)
theorem Ha:KC 258 J9:=mq (Ec gH En) .none Tryz.func258
def kG (a0:aa.D) (a1:Int):Option (Int×(aa.D×Unit)) :=
(wc a0.2.2.2.2.2.2.1 a1).bind fun y1 =>
 some (y1.1,((a0.1,a0.2.1,a0.2.2.1,a0.2.2.2.1,a0.2.2.2.2.1,a0.2.2.2.2.2.1,(a0.2.2.2.2.2.2.1.1,a0.2.2.2.2.2.2.1.2.1,a0.2.2.2.2.2.2.1.2.2.1,a0.2.2.2.2.2.2.1.2.2.2.1,a0.2.2.2.2.2.2.1.2.2.2.2.1,a0.2.2.2.2.2.2.1.2.2.2.2.2.1,y1.2.1.2.2.2.2.2.2),a0.2.2.2.2.2.2.2),()))
def Dy:Ct:=.mut [.lent,.rd] true true (.pair aa (.pair (.int .i64) .unit)) (.int .i64) (fun x=>kG x.1 x.2.1)
theorem BR:KC 139 Dy:=mq (Ec Ha En) .none Tryz.func139
def mO (a0:T_Order.D) (a1:Int):Option (Int×(T_Order.D×Unit)) :=
(kG a0.2.1 a1).bind fun y1 =>
(cM a0.2.2.2.1 y1.1).bind fun y2 =>
 some (y2.1,((a0.1,(a0.2.1.1,a0.2.1.2.1,a0.2.1.2.2.1,a0.2.1.2.2.2.1,a0.2.1.2.2.2.2.1,a0.2.1.2.2.2.2.2.1,(a0.2.1.2.2.2.2.2.2.1.1,a0.2.1.2.2.2.2.2.2.1.2.1,a0.2.1.2.2.2.2.2.2.1.2.2.1,a0.2.1.2.2.2.2.2.2.1.2.2.2.1,a0.2.1.2.2.2.2.2.2.1.2.2.2.2.1,a0.2.1.2.2.2.2.2.2.1.2.2.2.2.2.1,y1.2.1.2.2.2.2.2.2.1.2.2.2.2.2.2),a0.2.1.2.2.2.2.2.2.2),a0.2.2.1,y2.2),()))
def Fh:Ct:=.mut [.lent,.rd] true true (.pair T_Order (.pair (.int .i64) .unit)) (.int .i64) (fun x=>mO x.1 x.2.1)
theorem Dz:KC 30 Fh:=mq (Ec gH (Ec BR En)) .none Tryz.func30
def gI (a0:(List ah.D)):(Int×Int)→Option ((Int×Int)⊕((Int×Int)⊕Int)):=fun s1 =>
 bif decide (s1.2 < (a0.length:Int)) then (
 idx a0 s1.2 fun x2 =>
 bif (x2.1 != s1.1) then (
 some (.inr (.inr (-1))))
 else (
 idx a0 s1.2 fun x3 =>
 bif (x3.2.1 != (IntKind.wrap .i64 (s1.1 + 1))) then (
 some (.inr (.inr (-1))))
 else (
 idx a0 s1.2 fun x4 =>
 bif (x4.2.2.1 != (IntKind.wrap .i64 ((IntKind.wrap .i64 (s1.1 + 1)) + 1))) then (
 some (.inr (.inr (-1))))
 else (
 let k5:Int:=IntKind.wrap .i64 ((IntKind.wrap .i64 ((IntKind.wrap .i64 (s1.1 + 1)) + 1)) + 1)
 idx a0 s1.2 fun x6 =>
 bif (x6.2.2.2.1 != k5) then (
 some (.inr (.inr (-1))))
 else (
 idx a0 s1.2 fun x7 =>
 bif (x7.2.2.2.2.1 != (IntKind.wrap .i64 (k5 + 1))) then (
 some (.inr (.inr (-1))))
 else (
 idx a0 s1.2 fun x8 =>
 bif (x8.2.2.2.2.2.1 != (IntKind.wrap .i64 ((IntKind.wrap .i64 (k5 + 1)) + 1))) then (
 some (.inr (.inr (-1))))
 else (
 let k9:Int:=IntKind.wrap .i64 ((IntKind.wrap .i64 ((IntKind.wrap .i64 (k5 + 1)) + 1)) + 1)
 idx a0 s1.2 fun x10 =>
 bif (x10.2.2.2.2.2.2.1 != k9) then (
 some (.inr (.inr (-1))))
 else (
 idx a0 s1.2 fun x11 =>
 bif (x11.2.2.2.2.2.2.2.1 != (IntKind.wrap .i64 (k9 + 1))) then (
 some (.inr (.inr (-1))))
 else (
 idx a0 s1.2 fun x12 =>
 bif (x12.2.2.2.2.2.2.2.2.1 != (IntKind.wrap .i64 ((IntKind.wrap .i64 (k9 + 1)) + 1))) then (
 some (.inr (.inr (-1))))
 else (
 let k13:Int:=IntKind.wrap .i64 ((IntKind.wrap .i64 ((IntKind.wrap .i64 (k9 + 1)) + 1)) + 1)
 idx a0 s1.2 fun x14 =>
 bif (x14.2.2.2.2.2.2.2.2.2.1 != k13) then (
 some (.inr (.inr (-1))))
 else (
 idx a0 s1.2 fun x15 =>
 bif (x15.2.2.2.2.2.2.2.2.2.2.1 != (IntKind.wrap .i64 (k13 + 1))) then (
 some (.inr (.inr (-1))))
 else (
 idx a0 s1.2 fun x16 =>
 if 3=0 then none else (
 let k17:Int:=(IntKind.wrap .i64 ((IntKind.wrap .i64 (k13 + 1)) + 1)).tmod 3
 bif (x16.2.2.2.2.2.2.2.2.2.2.2.1 != (k17 == 0)) then (
 some (.inr (.inr (-1))))
 else (
 let k18:Int:=IntKind.wrap .i64 ((IntKind.wrap .i64 ((IntKind.wrap .i64 (k13 + 1)) + 1)) + 1)
 idx a0 s1.2 fun x19 =>
 if 3=0 then none else (
 bif (x19.2.2.2.2.2.2.2.2.2.2.2.2.1 != ((k18.tmod 3) == 0)) then (
 some (.inr (.inr (-1))))
 else (
 some (.inl (IntKind.wrap .i64 (k18 + 1),IntKind.wrap .i64 (s1.2 + 1)))))))))))))))))))
 else (
 some (.inr (.inl s1)))
def kH (a0:(List ah.D)) (a1:Int):Option Int :=
(al (gI a0) (a1,0)).bind fun o20 =>
 match o20 with
| .inl s21=>(
 some s21.1)
| .inr o22=>(
 some o22)
def DA:Hints:=(n0 (nd (n0 (nd (.node none (some ⟨[.tmp 1 (.int .i64),.tmp 5 (.int .i64)],[some 0],some [.tmp 4 (.int .i64)],[]⟩) .none .none) .none)) .none))
def DB:Ct:=.pure true false (.pair (.slice ah) (.pair (.int .i64) .unit)) (.int .i64) (fun x=>kH x.1 x.2.1)
theorem BS:KC 259 DB:=pq En DA Tryz.func259
def ij (a0:(List ar.D)):(Int×Int)→Option ((Int×Int)⊕((Int×Int)⊕Int)):=fun s1 =>
 bif decide (s1.2 < (a0.length:Int)) then (
 idx a0 s1.2 fun x2 =>
 bif (x2.1 != s1.1) then (
 some (.inr (.inr (-1))))
 else (
 idx a0 s1.2 fun x3 =>
 bif (x3.2.1 != (IntKind.wrap .i64 (s1.1 + 1))) then (
 some (.inr (.inr (-1))))
 else (
 idx a0 s1.2 fun x4 =>
 if 3=0 then none else (
 let k5:Int:=(IntKind.wrap .i64 ((IntKind.wrap .i64 (s1.1 + 1)) + 1)).tmod 3
 bif (x4.2.2.1 != (k5 == 0)) then (
 some (.inr (.inr (-1))))
 else (
 let k6:Int:=IntKind.wrap .i64 ((IntKind.wrap .i64 ((IntKind.wrap .i64 (s1.1 + 1)) + 1)) + 1)
 some (.inl (k6,IntKind.wrap .i64 (s1.2 + 1))))))))
 else (
 some (.inr (.inl s1)))
def mP (a0:(List ar.D)) (a1:Int):Option Int :=
(al (ij a0) (a1,0)).bind fun o7 =>
 match o7 with
| .inl s8=>(
 some s8.1)
| .inr o9=>(
 some o9)
def Fi:Hints:=(n0 (nd (n0 (nd (.node none (some ⟨[.tmp 1 (.int .i64),.tmp 5 (.int .i64)],[some 0],some [.tmp 4 (.int .i64)],[]⟩) .none .none) .none)) .none))
def Fj:Ct:=.pure true false (.pair (.slice ar) (.pair (.int .i64) .unit)) (.int .i64) (fun x=>mP x.1 x.2.1)
theorem DC:KC 260 Fj:=pq En Fi Tryz.func260
def iR (a0:ae.D) (a1:Int):Option Int :=
(kH a0.1 a1).bind fun y1 =>
 bif decide (y1 < 0) then (
 some (-1))
 else (
(mP a0.2.1 y1).bind fun y2 =>
 bif decide (y2 < 0) then (
 some (-1))
 else (
 some y2))
def Fk:Ct:=.pure true false (.pair ae (.pair (.int .i64) .unit)) (.int .i64) (fun x=>iR x.1 x.2.1)
theorem DD:KC 140 Fk:=pq (Ec BS (Ec DC En)) .none Tryz.func140
def gJ (a0:(List ac.D)):(Int×Int)→Option ((Int×Int)⊕((Int×Int)⊕Int)):=fun s1 =>
 bif decide (s1.2 < (a0.length:Int)) then (
 idx a0 s1.2 fun x2 =>
 bif (x2.1 != s1.1) then (
 some (.inr (.inr (-1))))
 else (
 idx a0 s1.2 fun x3 =>
 bif (x3.2.1 != (IntKind.wrap .i64 (s1.1 + 1))) then (
 some (.inr (.inr (-1))))
 else (
 idx a0 s1.2 fun x4 =>
 bif (x4.2.2.1 != (IntKind.wrap .i64 ((IntKind.wrap .i64 (s1.1 + 1)) + 1))) then (
 some (.inr (.inr (-1))))
 else (
 let k5:Int:=IntKind.wrap .i64 ((IntKind.wrap .i64 ((IntKind.wrap .i64 (s1.1 + 1)) + 1)) + 1)
 idx a0 s1.2 fun x6 =>
 bif (x6.2.2.2.1 != k5) then (
 some (.inr (.inr (-1))))
 else (
 idx a0 s1.2 fun x7 =>
 bif (x7.2.2.2.2.1 != (IntKind.wrap .i64 (k5 + 1))) then (
 some (.inr (.inr (-1))))
 else (
 idx a0 s1.2 fun x8 =>
 bif (x8.2.2.2.2.2.1 != (IntKind.wrap .i64 ((IntKind.wrap .i64 (k5 + 1)) + 1))) then (
 some (.inr (.inr (-1))))
 else (
 let k9:Int:=IntKind.wrap .i64 ((IntKind.wrap .i64 ((IntKind.wrap .i64 (k5 + 1)) + 1)) + 1)
 idx a0 s1.2 fun x10 =>
 if 3=0 then none else (
 bif (x10.2.2.2.2.2.2.1 != ((k9.tmod 3) == 0)) then (
 some (.inr (.inr (-1))))
 else (
 some (.inl (IntKind.wrap .i64 (k9 + 1),IntKind.wrap .i64 (s1.2 + 1))))))))))))
 else (
 some (.inr (.inl s1)))
def eh (a0:(List ac.D)) (a1:Int):Option Int :=
(al (gJ a0) (a1,0)).bind fun o11 =>
 match o11 with
| .inl s12=>(
 some s12.1)
| .inr o13=>(
 some o13)
def DE:Hints:=(n0 (nd (n0 (nd (.node none (some ⟨[.tmp 1 (.int .i64),.tmp 5 (.int .i64)],[some 0],some [.tmp 4 (.int .i64)],[]⟩) .none .none) .none)) .none))
def DF:Ct:=.pure true false (.pair (.slice ac) (.pair (.int .i64) .unit)) (.int .i64) (fun x=>eh x.1 x.2.1)
theorem rY:KC 172 DF:=pq En DE Tryz.func172
def fO (a0:(List aa.D)):(Int×Int)→Option ((Int×Int)⊕((Int×Int)⊕Int)):=fun s1 =>
 bif decide (s1.2 < (a0.length:Int)) then (
 idx a0 s1.2 fun x2 =>
 bif (x2.1 != s1.1) then (
 some (.inr (.inr (-1))))
 else (
 idx a0 s1.2 fun x3 =>
 bif (x3.2.1 != (IntKind.wrap .i64 (s1.1 + 1))) then (
 some (.inr (.inr (-1))))
 else (
 idx a0 s1.2 fun x4 =>
 bif (x4.2.2.1 != (IntKind.wrap .i64 ((IntKind.wrap .i64 (s1.1 + 1)) + 1))) then (
 some (.inr (.inr (-1))))
 else (
 let k5:Int:=IntKind.wrap .i64 ((IntKind.wrap .i64 ((IntKind.wrap .i64 (s1.1 + 1)) + 1)) + 1)
 idx a0 s1.2 fun x6 =>
 bif (x6.2.2.2.1 != k5) then (
 some (.inr (.inr (-1))))
 else (
 idx a0 s1.2 fun x7 =>
 bif (x7.2.2.2.2.1.1 != (IntKind.wrap .i64 (k5 + 1))) then (
 some (.inr (.inr (-1))))
 else (
 idx a0 s1.2 fun x8 =>
 bif (x8.2.2.2.2.1.2.1 != (IntKind.wrap .i64 ((IntKind.wrap .i64 (k5 + 1)) + 1))) then (
 some (.inr (.inr (-1))))
 else (
 let k9:Int:=IntKind.wrap .i64 ((IntKind.wrap .i64 ((IntKind.wrap .i64 (k5 + 1)) + 1)) + 1)
 idx a0 s1.2 fun x10 =>
 bif (x10.2.2.2.2.1.2.2.1 != k9) then (
 some (.inr (.inr (-1))))
 else (
 idx a0 s1.2 fun x11 =>
 bif (x11.2.2.2.2.1.2.2.2.1 != (IntKind.wrap .i64 (k9 + 1))) then (
 some (.inr (.inr (-1))))
 else (
 idx a0 s1.2 fun x12 =>
 bif (x12.2.2.2.2.1.2.2.2.2.1 != (IntKind.wrap .i64 ((IntKind.wrap .i64 (k9 + 1)) + 1))) then (
 some (.inr (.inr (-1))))
 else (
 let k13:Int:=IntKind.wrap .i64 ((IntKind.wrap .i64 ((IntKind.wrap .i64 (k9 + 1)) + 1)) + 1)
 idx a0 s1.2 fun x14 =>
 bif (x14.2.2.2.2.1.2.2.2.2.2.1 != k13) then (
 some (.inr (.inr (-1))))
 else (
 idx a0 s1.2 fun x15 =>
 bif (x15.2.2.2.2.1.2.2.2.2.2.2.1 != (IntKind.wrap .i64 (k13 + 1))) then (
 some (.inr (.inr (-1))))
 else (
 idx a0 s1.2 fun x16 =>
 bif (x16.2.2.2.2.2.1.1 != (IntKind.wrap .i64 ((IntKind.wrap .i64 (k13 + 1)) + 1))) then (
 some (.inr (.inr (-1))))
 else (
 let k17:Int:=IntKind.wrap .i64 ((IntKind.wrap .i64 ((IntKind.wrap .i64 (k13 + 1)) + 1)) + 1)
 idx a0 s1.2 fun x18 =>
 bif (x18.2.2.2.2.2.1.2.1 != k17) then (
 some (.inr (.inr (-1))))
 else (
 idx a0 s1.2 fun x19 =>
 bif (x19.2.2.2.2.2.2.1.1 != (IntKind.wrap .i64 (k17 + 1))) then (
 some (.inr (.inr (-1))))
 else (
 idx a0 s1.2 fun x20 =>
 bif (x20.2.2.2.2.2.2.1.2.1 != (IntKind.wrap .i64 ((IntKind.wrap .i64 (k17 + 1)) + 1))) then (
 some (.inr (.inr (-1))))
 else (
 let k21:Int:=IntKind.wrap .i64 ((IntKind.wrap .i64 ((IntKind.wrap .i64 (k17 + 1)) + 1)) + 1)
 idx a0 s1.2 fun x22 =>
 bif (x22.2.2.2.2.2.2.1.2.2.1 != k21) then (
 some (.inr (.inr (-1))))
 else (
 idx a0 s1.2 fun x23 =>
 bif (x23.2.2.2.2.2.2.1.2.2.2.1 != (IntKind.wrap .i64 (k21 + 1))) then (
 some (.inr (.inr (-1))))
 else (
 idx a0 s1.2 fun x24 =>
 bif (x24.2.2.2.2.2.2.1.2.2.2.2.1 != (IntKind.wrap .i64 ((IntKind.wrap .i64 (k21 + 1)) + 1))) then (
 some (.inr (.inr (-1))))
 else (
 let k25:Int:=IntKind.wrap .i64 ((IntKind.wrap .i64 ((IntKind.wrap .i64 (k21 + 1)) + 1)) + 1)
 idx a0 s1.2 fun x26 =>
 if 3=0 then none else (
 bif (x26.2.2.2.2.2.2.1.2.2.2.2.2.1 != ((k25.tmod 3) == 0)) then (
 some (.inr (.inr (-1))))
 else (
 idx a0 s1.2 fun x27 =>
(eh x27.2.2.2.2.2.2.1.2.2.2.2.2.2.1 (IntKind.wrap .i64 (k25 + 1))).bind fun y28 =>
 bif decide (y28 < 0) then (
 some (.inr (.inr (-1))))
 else (
 idx a0 s1.2 fun x29 =>
 bif (x29.2.2.2.2.2.2.2.1 != y28) then (
 some (.inr (.inr (-1))))
 else (
 idx a0 s1.2 fun x30 =>
 bif (x30.2.2.2.2.2.2.2.2.1 != (IntKind.wrap .i64 (y28 + 1))) then (
 some (.inr (.inr (-1))))
 else (
 some (.inl (IntKind.wrap .i64 ((IntKind.wrap .i64 (y28 + 1)) + 1),IntKind.wrap .i64 (s1.2 + 1)))))))))))))))))))))))))))
 else (
 some (.inr (.inl s1)))
def jl (a0:(List aa.D)) (a1:Int):Option Int :=
(al (fO a0) (a1,0)).bind fun o31 =>
 match o31 with
| .inl s32=>(
 some s32.1)
| .inr o33=>(
 some o33)
def BT:Hints:=(n0 (nd (n0 (nd (.node none (some ⟨[.tmp 1 (.int .i64),.tmp 5 (.int .i64)],[some 0],some [.tmp 4 (.int .i64)],[]⟩) .none .none) .none)) .none))
def BU:Ct:=.pure true false (.pair (.slice aa) (.pair (.int .i64) .unit)) (.int .i64) (fun x=>jl x.1 x.2.1)
theorem Ax:KC 141 BU:=pq (Ec rY En) BT Tryz.func141
def jm (a0:(List Int)):(Int×Int)→Option ((Int×Int)⊕((Int×Int)⊕Int)):=fun s1 =>
 bif decide (s1.2 < (a0.length:Int)) then (
 idx a0 s1.2 fun x2 =>
 bif (x2 != s1.1) then (
 some (.inr (.inr (-1))))
 else (
 some (.inl (IntKind.wrap .i64 (s1.1 + 1),IntKind.wrap .i64 (s1.2 + 1)))))
 else (
 some (.inr (.inl s1)))
def oK (a0:(List Int)) (a1:Int):Option Int :=
(al (jm a0) (a1,0)).bind fun o3 =>
 match o3 with
| .inl s4=>(
 some s4.1)
| .inr o5=>(
 some o5)
def Hb:Hints:=(n0 (nd (n0 (nd (.node none (some ⟨[.tmp 1 (.int .i64),.tmp 5 (.int .i64)],[some 0],some [.tmp 4 (.int .i64)],[]⟩) .none .none) .none)) .none))
def Hc:Ct:=.pure true false (.pair (.slice (.int .i64)) (.pair (.int .i64) .unit)) (.int .i64) (fun x=>oK x.1 x.2.1)
theorem Fl:KC 142 Hc:=pq En Hb Tryz.func142
def fy (a0:(List af.D)):(Int×Int)→Option ((Int×Int)⊕((Int×Int)⊕Int)):=fun s1 =>
 bif decide (s1.2 < (a0.length:Int)) then (
 idx a0 s1.2 fun x2 =>
 bif (x2.1 != s1.1) then (
 some (.inr (.inr (-1))))
 else (
 idx a0 s1.2 fun x3 =>
 bif (x3.2.1 != (IntKind.wrap .i64 (s1.1 + 1))) then (
 some (.inr (.inr (-1))))
 else (
 idx a0 s1.2 fun x4 =>
 bif (x4.2.2.1 != (IntKind.wrap .i64 ((IntKind.wrap .i64 (s1.1 + 1)) + 1))) then (
 some (.inr (.inr (-1))))
 else (
 let k5:Int:=IntKind.wrap .i64 ((IntKind.wrap .i64 ((IntKind.wrap .i64 (s1.1 + 1)) + 1)) + 1)
 idx a0 s1.2 fun x6 =>
 bif (x6.2.2.2.1.1 != k5) then (
 some (.inr (.inr (-1))))
 else (
 idx a0 s1.2 fun x7 =>
 bif (x7.2.2.2.1.2.1 != (IntKind.wrap .i64 (k5 + 1))) then (
 some (.inr (.inr (-1))))
 else (
 idx a0 s1.2 fun x8 =>
 bif (x8.2.2.2.1.2.2.1 != (IntKind.wrap .i64 ((IntKind.wrap .i64 (k5 + 1)) + 1))) then (
 some (.inr (.inr (-1))))
 else (
 let k9:Int:=IntKind.wrap .i64 ((IntKind.wrap .i64 ((IntKind.wrap .i64 (k5 + 1)) + 1)) + 1)
 idx a0 s1.2 fun x10 =>
 bif (x10.2.2.2.1.2.2.2.1 != k9) then (
 some (.inr (.inr (-1))))
 else (
 idx a0 s1.2 fun x11 =>
 bif (x11.2.2.2.1.2.2.2.2.1 != (IntKind.wrap .i64 (k9 + 1))) then (
 some (.inr (.inr (-1))))
 else (
 idx a0 s1.2 fun x12 =>
 bif (x12.2.2.2.1.2.2.2.2.2.1 != (IntKind.wrap .i64 ((IntKind.wrap .i64 (k9 + 1)) + 1))) then (
 some (.inr (.inr (-1))))
 else (
 let k13:Int:=IntKind.wrap .i64 ((IntKind.wrap .i64 ((IntKind.wrap .i64 (k9 + 1)) + 1)) + 1)
 idx a0 s1.2 fun x14 =>
 bif (x14.2.2.2.1.2.2.2.2.2.2.1 != k13) then (
 some (.inr (.inr (-1))))
 else (
 idx a0 s1.2 fun x15 =>
 bif (x15.2.2.2.1.2.2.2.2.2.2.2.1 != (IntKind.wrap .i64 (k13 + 1))) then (
 some (.inr (.inr (-1))))
 else (
 idx a0 s1.2 fun x16 =>
 bif (x16.2.2.2.1.2.2.2.2.2.2.2.2.1 != (IntKind.wrap .i64 ((IntKind.wrap .i64 (k13 + 1)) + 1))) then (
 some (.inr (.inr (-1))))
 else (
 let k17:Int:=IntKind.wrap .i64 ((IntKind.wrap .i64 ((IntKind.wrap .i64 (k13 + 1)) + 1)) + 1)
 idx a0 s1.2 fun x18 =>
 bif (x18.2.2.2.1.2.2.2.2.2.2.2.2.2.1 != k17) then (
 some (.inr (.inr (-1))))
 else (
 idx a0 s1.2 fun x19 =>
 bif (x19.2.2.2.1.2.2.2.2.2.2.2.2.2.2.1 != (IntKind.wrap .i64 (k17 + 1))) then (
 some (.inr (.inr (-1))))
 else (
 idx a0 s1.2 fun x20 =>
 if 3=0 then none else (
 let k21:Int:=(IntKind.wrap .i64 ((IntKind.wrap .i64 (k17 + 1)) + 1)).tmod 3
 bif (x20.2.2.2.1.2.2.2.2.2.2.2.2.2.2.2.1 != (k21 == 0)) then (
 some (.inr (.inr (-1))))
 else (
 let k22:Int:=IntKind.wrap .i64 ((IntKind.wrap .i64 ((IntKind.wrap .i64 (k17 + 1)) + 1)) + 1)
 idx a0 s1.2 fun x23 =>
 if 3=0 then none else (
 bif (x23.2.2.2.1.2.2.2.2.2.2.2.2.2.2.2.2.1 != ((k22.tmod 3) == 0)) then (
 some (.inr (.inr (-1))))
 else (
 some (.inl (IntKind.wrap .i64 (k22 + 1),IntKind.wrap .i64 (s1.2 + 1))))))))))))))))))))))
 else (
 some (.inr (.inl s1)))
def ik (a0:(List af.D)) (a1:Int):Option Int :=
(al (fy a0) (a1,0)).bind fun o24 =>
 match o24 with
| .inl s25=>(
 some s25.1)
| .inr o26=>(
 some o26)
def Ay:Hints:=(n0 (nd (n0 (nd (.node none (some ⟨[.tmp 1 (.int .i64),.tmp 5 (.int .i64)],[some 0],some [.tmp 4 (.int .i64)],[]⟩) .none .none) .none)) .none))
def Az:Ct:=.pure true false (.pair (.slice af) (.pair (.int .i64) .unit)) (.int .i64) (fun x=>ik x.1 x.2.1)
theorem zh:KC 143 Az:=pq En Ay Tryz.func143
def il (a0:(List ai.D)):(Int×Int)→Option ((Int×Int)⊕((Int×Int)⊕Int)):=fun s1 =>
 bif decide (s1.2 < (a0.length:Int)) then (
 idx a0 s1.2 fun x2 =>
 bif (x2.1 != s1.1) then (
 some (.inr (.inr (-1))))
 else (
 idx a0 s1.2 fun x3 =>
 bif (x3.2.1.1 != (IntKind.wrap .i64 (s1.1 + 1))) then (
 some (.inr (.inr (-1))))
 else (
 idx a0 s1.2 fun x4 =>
 bif (x4.2.1.2.1 != (IntKind.wrap .i64 ((IntKind.wrap .i64 (s1.1 + 1)) + 1))) then (
 some (.inr (.inr (-1))))
 else (
 let k5:Int:=IntKind.wrap .i64 ((IntKind.wrap .i64 ((IntKind.wrap .i64 (s1.1 + 1)) + 1)) + 1)
 idx a0 s1.2 fun x6 =>
 bif (x6.2.1.2.2.1 != k5) then (
 some (.inr (.inr (-1))))
 else (
 idx a0 s1.2 fun x7 =>
 bif (x7.2.1.2.2.2.1 != (IntKind.wrap .i64 (k5 + 1))) then (
 some (.inr (.inr (-1))))
 else (
 idx a0 s1.2 fun x8 =>
 bif (x8.2.1.2.2.2.2.1 != (IntKind.wrap .i64 ((IntKind.wrap .i64 (k5 + 1)) + 1))) then (
 some (.inr (.inr (-1))))
 else (
 let k9:Int:=IntKind.wrap .i64 ((IntKind.wrap .i64 ((IntKind.wrap .i64 (k5 + 1)) + 1)) + 1)
 idx a0 s1.2 fun x10 =>
 bif (x10.2.1.2.2.2.2.2.1 != k9) then (
 some (.inr (.inr (-1))))
 else (
 idx a0 s1.2 fun x11 =>
 if 3=0 then none else (
 bif (x11.2.1.2.2.2.2.2.2.1 != (((IntKind.wrap .i64 (k9 + 1)).tmod 3) == 0)) then (
 some (.inr (.inr (-1))))
 else (
 idx a0 s1.2 fun x12 =>
 bif (x12.2.2.1 != (IntKind.wrap .i64 ((IntKind.wrap .i64 (k9 + 1)) + 1))) then (
 some (.inr (.inr (-1))))
 else (
 let k13:Int:=IntKind.wrap .i64 ((IntKind.wrap .i64 ((IntKind.wrap .i64 (k9 + 1)) + 1)) + 1)
 idx a0 s1.2 fun x14 =>
 bif (x14.2.2.2.1 != k13) then (
 some (.inr (.inr (-1))))
 else (
 idx a0 s1.2 fun x15 =>
 bif (x15.2.2.2.2.1.1 != (IntKind.wrap .i64 (k13 + 1))) then (
 some (.inr (.inr (-1))))
 else (
 idx a0 s1.2 fun x16 =>
 bif (x16.2.2.2.2.1.2.1 != (IntKind.wrap .i64 ((IntKind.wrap .i64 (k13 + 1)) + 1))) then (
 some (.inr (.inr (-1))))
 else (
 let k17:Int:=IntKind.wrap .i64 ((IntKind.wrap .i64 ((IntKind.wrap .i64 (k13 + 1)) + 1)) + 1)
 idx a0 s1.2 fun x18 =>
 bif (x18.2.2.2.2.1.2.2.1 != k17) then (
 some (.inr (.inr (-1))))
 else (
 idx a0 s1.2 fun x19 =>
 bif (x19.2.2.2.2.1.2.2.2.1 != (IntKind.wrap .i64 (k17 + 1))) then (
 some (.inr (.inr (-1))))
 else (
 idx a0 s1.2 fun x20 =>
 bif (x20.2.2.2.2.1.2.2.2.2.1 != (IntKind.wrap .i64 ((IntKind.wrap .i64 (k17 + 1)) + 1))) then (
 some (.inr (.inr (-1))))
 else (
 let k21:Int:=IntKind.wrap .i64 ((IntKind.wrap .i64 ((IntKind.wrap .i64 (k17 + 1)) + 1)) + 1)
 idx a0 s1.2 fun x22 =>
 bif (x22.2.2.2.2.1.2.2.2.2.2.1 != k21) then (
 some (.inr (.inr (-1))))
 else (
 idx a0 s1.2 fun x23 =>
 bif (x23.2.2.2.2.1.2.2.2.2.2.2.1 != (IntKind.wrap .i64 (k21 + 1))) then (
 some (.inr (.inr (-1))))
 else (
 idx a0 s1.2 fun x24 =>
 bif (x24.2.2.2.2.1.2.2.2.2.2.2.2.1 != (IntKind.wrap .i64 ((IntKind.wrap .i64 (k21 + 1)) + 1))) then (
 some (.inr (.inr (-1))))
 else (
 let k25:Int:=IntKind.wrap .i64 ((IntKind.wrap .i64 ((IntKind.wrap .i64 (k21 + 1)) + 1)) + 1)
 idx a0 s1.2 fun x26 =>
 bif (x26.2.2.2.2.1.2.2.2.2.2.2.2.2.1 != k25) then (
 some (.inr (.inr (-1))))
 else (
 idx a0 s1.2 fun x27 =>
 bif (x27.2.2.2.2.1.2.2.2.2.2.2.2.2.2.1 != (IntKind.wrap .i64 (k25 + 1))) then (
 some (.inr (.inr (-1))))
 else (
 idx a0 s1.2 fun x28 =>
 bif (x28.2.2.2.2.1.2.2.2.2.2.2.2.2.2.2.1 != (IntKind.wrap .i64 ((IntKind.wrap .i64 (k25 + 1)) + 1))) then (
 some (.inr (.inr (-1))))
 else (
 let k29:Int:=IntKind.wrap .i64 ((IntKind.wrap .i64 ((IntKind.wrap .i64 (k25 + 1)) + 1)) + 1)
 idx a0 s1.2 fun x30 =>
 if 3=0 then none else (
 bif (x30.2.2.2.2.1.2.2.2.2.2.2.2.2.2.2.2.1 != ((k29.tmod 3) == 0)) then (
 some (.inr (.inr (-1))))
 else (
 idx a0 s1.2 fun x31 =>
 if 3=0 then none else (
 bif (x31.2.2.2.2.1.2.2.2.2.2.2.2.2.2.2.2.2.1 != (((IntKind.wrap .i64 (k29 + 1)).tmod 3) == 0)) then (
 some (.inr (.inr (-1))))
 else (
 some (.inl (IntKind.wrap .i64 ((IntKind.wrap .i64 (k29 + 1)) + 1),IntKind.wrap .i64 (s1.2 + 1))))))))))))))))))))))))))))))
 else (
 some (.inr (.inl s1)))
def mQ (a0:(List ai.D)) (a1:Int):Option Int :=
(al (il a0) (a1,0)).bind fun o32 =>
 match o32 with
| .inl s33=>(
 some s33.1)
| .inr o34=>(
 some o34)
def Fm:Hints:=(n0 (nd (n0 (nd (.node none (some ⟨[.tmp 1 (.int .i64),.tmp 5 (.int .i64)],[some 0],some [.tmp 4 (.int .i64)],[]⟩) .none .none) .none)) .none))
def Fn:Ct:=.pure true false (.pair (.slice ai) (.pair (.int .i64) .unit)) (.int .i64) (fun x=>mQ x.1 x.2.1)
theorem DG:KC 144 Fn:=pq En Fm Tryz.func144
def io (a0:(List au.D)):(Int×Int)→Option ((Int×Int)⊕((Int×Int)⊕Int)):=fun s1 =>
 bif decide (s1.2 < (a0.length:Int)) then (
 idx a0 s1.2 fun x2 =>
 bif (x2.1 != s1.1) then (
 some (.inr (.inr (-1))))
 else (
 idx a0 s1.2 fun x3 =>
 bif (x3.2.1 != (IntKind.wrap .i64 (s1.1 + 1))) then (
 some (.inr (.inr (-1))))
 else (
 idx a0 s1.2 fun x4 =>
 bif (x4.2.2.1 != (IntKind.wrap .i64 ((IntKind.wrap .i64 (s1.1 + 1)) + 1))) then (
 some (.inr (.inr (-1))))
 else (
 let k5:Int:=IntKind.wrap .i64 ((IntKind.wrap .i64 ((IntKind.wrap .i64 (s1.1 + 1)) + 1)) + 1)
 idx a0 s1.2 fun x6 =>
 bif (x6.2.2.2.1 != k5) then (
 some (.inr (.inr (-1))))
 else (
 idx a0 s1.2 fun x7 =>
 bif (x7.2.2.2.2.1.1 != (IntKind.wrap .i64 (k5 + 1))) then (
 some (.inr (.inr (-1))))
 else (
 idx a0 s1.2 fun x8 =>
 bif (x8.2.2.2.2.1.2.1 != (IntKind.wrap .i64 ((IntKind.wrap .i64 (k5 + 1)) + 1))) then (
 some (.inr (.inr (-1))))
 else (
 let k9:Int:=IntKind.wrap .i64 ((IntKind.wrap .i64 ((IntKind.wrap .i64 (k5 + 1)) + 1)) + 1)
 idx a0 s1.2 fun x10 =>
 bif (x10.2.2.2.2.1.2.2.1 != k9) then (
 some (.inr (.inr (-1))))
 else (
 idx a0 s1.2 fun x11 =>
 bif (x11.2.2.2.2.1.2.2.2.1 != (IntKind.wrap .i64 (k9 + 1))) then (
 some (.inr (.inr (-1))))
 else (
 idx a0 s1.2 fun x12 =>
 bif (x12.2.2.2.2.1.2.2.2.2.1 != (IntKind.wrap .i64 ((IntKind.wrap .i64 (k9 + 1)) + 1))) then (
 some (.inr (.inr (-1))))
 else (
 let k13:Int:=IntKind.wrap .i64 ((IntKind.wrap .i64 ((IntKind.wrap .i64 (k9 + 1)) + 1)) + 1)
 idx a0 s1.2 fun x14 =>
 bif (x14.2.2.2.2.1.2.2.2.2.2.1 != k13) then (
 some (.inr (.inr (-1))))
 else (
 idx a0 s1.2 fun x15 =>
 if 3=0 then none else (
 bif (x15.2.2.2.2.1.2.2.2.2.2.2.1 != (((IntKind.wrap .i64 (k13 + 1)).tmod 3) == 0)) then (
 some (.inr (.inr (-1))))
 else (
 idx a0 s1.2 fun x16 =>
(eh x16.2.2.2.2.2.1 (IntKind.wrap .i64 ((IntKind.wrap .i64 (k13 + 1)) + 1))).bind fun y17 =>
 bif decide (y17 < 0) then (
 some (.inr (.inr (-1))))
 else (
 idx a0 s1.2 fun x18 =>
 bif (x18.2.2.2.2.2.2.1 != y17) then (
 some (.inr (.inr (-1))))
 else (
 idx a0 s1.2 fun x19 =>
 bif (x19.2.2.2.2.2.2.2.1 != (IntKind.wrap .i64 (y17 + 1))) then (
 some (.inr (.inr (-1))))
 else (
 some (.inl (IntKind.wrap .i64 ((IntKind.wrap .i64 (y17 + 1)) + 1),IntKind.wrap .i64 (s1.2 + 1)))))))))))))))))))
 else (
 some (.inr (.inl s1)))
def mR (a0:(List au.D)) (a1:Int):Option Int :=
(al (io a0) (a1,0)).bind fun o20 =>
 match o20 with
| .inl s21=>(
 some s21.1)
| .inr o22=>(
 some o22)
def Fo:Hints:=(n0 (nd (n0 (nd (.node none (some ⟨[.tmp 1 (.int .i64),.tmp 5 (.int .i64)],[some 0],some [.tmp 4 (.int .i64)],[]⟩) .none .none) .none)) .none))
def Fp:Ct:=.pure true false (.pair (.slice au) (.pair (.int .i64) .unit)) (.int .i64) (fun x=>mR x.1 x.2.1)
theorem DH:KC 145 Fp:=pq (Ec rY En) Fo Tryz.func145
def jS (a0:T_Game.D) (a1:Int):Option Int :=
(iR a0.1 a1).bind fun y1 =>
 bif decide (y1 < 0) then (
 some (-1))
 else (
(jl a0.2.1 y1).bind fun y2 =>
 bif decide (y2 < 0) then (
 some (-1))
 else (
(oK a0.2.2.1 y2).bind fun y3 =>
 bif decide (y3 < 0) then (
 some (-1))
 else (
(ik a0.2.2.2.1 y3).bind fun y4 =>
 bif decide (y4 < 0) then (
 some (-1))
 else (
(mQ a0.2.2.2.2.1 y4).bind fun y5 =>
 bif decide (y5 < 0) then (
 some (-1))
 else (
(mR a0.2.2.2.2.2.1 y5).bind fun y6 =>
 bif decide (y6 < 0) then (
 some (-1))
 else (
 some y6))))))
def He:Ct:=.pure true false (.pair T_Game (.pair (.int .i64) .unit)) (.int .i64) (fun x=>jS x.1 x.2.1)
theorem Fq:KC 31 He:=pq (Ec DD (Ec Ax (Ec Fl (Ec zh (Ec DG (Ec DH En)))))) .none Tryz.func31
def jB (a0:T_Game.D) (a1:T_Order.D):Option Bool :=
(iG a0 1048576).bind fun y1 =>
 bif decide (y1 < 0) then (
 some true)
 else (
(qj a1 y1).bind fun y2 =>
 bif decide (y2 < 0) then (
 some true)
 else (
(iI a0).bind fun y3 =>
(gw a1).bind fun y4 =>
(qB y3 y4).bind fun y5 =>
(iI a0).bind fun y6 =>
(gw a1).bind fun y7 =>
(mH y6 y7).bind fun y8 =>
(((iQ y8.1 y5.1).bind fun y9 =>
 bif (!y9) then (
 some true)
 else (
 some (y8.2.1 != y5.2.1))):Option Bool).bind fun o10 =>
 bif o10 then (
 some false)
 else (
(iI a0).bind fun y11 =>
(iQ y6 y11).bind fun y12 =>
 bif (!y12) then (
 some false)
 else (
(gw a1).bind fun y13 =>
(qQ y7 y13).bind fun y14 =>
 bif (!y14) then (
 some false)
 else (
(jR y6 1).bind fun y15 =>
(mO y7 y15.1).bind fun y16 =>
((bif decide (y16.1 < 0) then (
 some true)
 else (
(iQ y8.1 y5.1).bind fun y17 =>
 bif (!y17) then (
 some true)
 else (
 some (y8.2.1 != y5.2.1)))):Option Bool).bind fun o18 =>
 bif o18 then (
 some false)
 else (
(jR y8.1 1).bind fun y19 =>
(jS ((y19.2.1.1.1,y19.2.1.1.2.1,y8.1.1.2.2),y19.2.1.2) 1).bind fun y20 =>
 bif decide (y20 < 0) then (
 some false)
 else (
 bif (y20 != y19.1) then (
 some false)
 else (
(iI a0).bind fun y21 =>
(gw a1).bind fun y22 =>
(mH y21 y22).bind fun y23 =>
(((iQ y23.1 y5.1).bind fun y24 =>
 bif (!y24) then (
 some true)
 else (
 some (y23.2.1 != y5.2.1))):Option Bool).bind fun o25 =>
 bif o25 then (
 some false)
 else (
(jS ((y19.2.1.1.1,y19.2.1.1.2.1,y8.1.1.2.2),y19.2.1.2) 1).bind fun y26 =>
 bif decide (y26 < 0) then (
 some false)
 else (
 bif (y26 != y19.1) then (
 some false)
 else (
 some true)))))))))))
def xI:Hints:=(n0 (n0 (n0 (n0 (n0 (n0 (n0 (n0 (n0 (n0 (nd (nd (cu ⟨[.tmp 53 .bool],[none],none,[]⟩) .none) (n0 (n0 (n0 (n0 (n0 (nd (nd (cu ⟨[.tmp 82 .bool],[none],none,[]⟩) .none) (n0 (n0 (n0 (n0 (n0 (n0 (n0 (nd (nd (cu ⟨[.tmp 110 .bool],[none],none,[]⟩) .none) .none)))))))))))))))))))))))))
def xJ:Ct:=.pure true false (.pair T_Game (.pair T_Order .unit)) .bool (fun x=>jB x.1 x.2.1)
theorem laws_FnExactDoOrder_ct:KC 4 xJ:=pq (Ec xH (Ec xy (Ec IE (Ec Gl (Ec yq (Ec xe (Ec J7 (Ec G6 (Ec Fg (Ec Dz (Ec Fq En))))))))))) xI Tryz.func4
end
end Go.Abs
