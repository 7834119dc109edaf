/- Part of a proof of FnExactPlay: see the row. -/
import Derived.Test.YtenadnbpibhmiaaGreatPlGenPL1
set_option linter.unusedVariables false
set_option linter.unusedSimpArgs false
namespace Go.Abs
open Go.Proofs
set_option maxRecDepth 100000
noncomputable section
def wb (a0:ac.D) (a1:Int):Option ac.D :=
(lu a1 2147483647).bind fun y1 =>
 some (a0.1,a0.2.1,a0.2.2.1,a0.2.2.2.1,y1,a0.2.2.2.2.2)
def Oo:Ct:=.pure true false (.pair ac (.pair (.int .i64) .unit)) ac (fun x=>wb x.1 x.2.1)
theorem Mb:KC 375 Oo:=pq (Ec mD En) .none Tryz.func375
def aZ (a0:Int) (a1:Int):Option Int :=
(ce a0).bind fun y1 =>
(ce a1).bind fun y2 =>
(ce (IntKind.wrap .i64 (y1 + y2))).bind fun y3 =>
 some y3
def P3:Ct:=.pure true false bc (.int .i64) (fun x=>aZ x.1 x.2.1)
theorem qO:KC 364 P3:=pq (Ec gZ En) .none Tryz.func364
def BP (a0:Int):Option Int :=
(ce a0).bind fun y1 =>
(ce (IntKind.wrap .i64 (2 * y1))).bind fun y2 =>
 some y2
def Oq:Ct:=.pure true false (.pair (.int .i64) .unit) (.int .i64) (fun x=>BP x.1)
theorem Mc:KC 397 Oq:=pq (Ec gZ En) .none Tryz.func397
def Fd (a0:Int):Option Int :=
(ce a0).bind fun y1 =>
 if 2=0 then none else (
 some (IntKind.wrap .i64 (y1.tdiv 2)))
def P4:Ct:=.pure true false (.pair (.int .i64) .unit) (.int .i64) (fun x=>Fd x.1)
theorem Ot:KC 398 P4:=pq (Ec gZ En) .none Tryz.func398
def tF (a0:bm.D) (a1:Int):Option Int :=
(lu a1 2147483647).bind fun y1 =>
 bif (a0.1 == 1) then (
 some 0)
 else (
 bif (a0.1 == 3) then (
(aZ y1 a0.2.1).bind fun y2 =>
 some y2)
 else (
 bif (a0.1 == 4) then (
(BP y1).bind fun y3 =>
 some y3)
 else (
 bif (a0.1 == 5) then (
(Fd y1).bind fun y4 =>
 some y4)
 else (
 some y1))))
def Me:Ct:=.pure true false (.pair bm (.pair (.int .i64) .unit)) (.int .i64) (fun x=>tF x.1 x.2.1)
theorem J7:KC 376 Me:=pq (Ec qO (Ec mD (Ec Mc (Ec Ot En)))) .none Tryz.func376
def t8 (a0:bm.D) (a1:ac.D):((List ac.D)×Int)→Option (((List ac.D)×Int)⊕((List ac.D)×Int)):=fun s1 =>
 bif decide (s1.2 < (a0.2.2.2.2.2.2.1.length:Int)) then (
 idx a0.2.2.2.2.2.2.1 s1.2 fun x2 =>
((bif (x2.2.2.2.2.1 == (-1)) then (
(lu a1.2.2.2.2.1 2147483647).bind fun y3 =>
 some (x2.1,x2.2.1,x2.2.2.1,x2.2.2.2.1,y3,x2.2.2.2.2.2))
 else (
 some x2)):Option ac.D).bind fun o4 =>
 if (s1.1.length + [o4].length) * (24 * 7)≤aC then (
 some (.inl ((s1.1++[o4]),IntKind.wrap .i64 (s1.2 + 1)))) else none)
 else (
 some (.inr s1))
def wc (a0:bm.D) (a1:ac.D):Option (List ac.D) :=
 bif (a0.1 != 9) then (
 some [])
 else (
(al (t8 a0 a1) ([],0)).bind fun o5 =>
 some o5.1)
def Ou:Hints:=(n0 (n0 (n0 (nd (n0 (nd (.node none (some ⟨[.tmpO 5 0 (.slice ac),.tmp 16 (.int .i64)],[some 0],none,[]⟩) (n0 (n0 (nd (nd (n0 (nd (n0 (cu ⟨[.box 7 0 ac],[none],none,[(7,0)]⟩)) .none)) .none) .none))) .none) .none)) .none))))
def BQ:Ct:=.pure true true (.pair bm (.pair ac .unit)) (.slice ac) (fun x=>wc x.1 x.2.1)
theorem Aq:KC 377 BQ:=pq (Ec mD En) Ou Tryz.func377
def rX (a0:aa.D) (a1:ac.D):Option ((List ac.D)×(Int×Unit)) :=
 bif (a0.2.2.2.2.2.2.1.1 == 1) then (
 bif (a1.1 == 1) then (
 some ([],a1.2.2.2.2.1,()))
 else (
 some ([],0,())))
 else (
 bif (a0.2.2.2.2.2.2.1.1 == 2) then (
(lu a1.2.2.2.2.1 a0.2.2.2.2.2.2.2.2.1).bind fun y1 =>
(wb a1 (IntKind.wrap .i64 (a1.2.2.2.2.1 - y1))).bind fun y2 =>
 some ([y2],y1,()))
 else (
((bif (a0.2.2.2.2.2.2.1.1 == 3) then (
 some (a0.2.2.2.2.2.2.1.1 == 3))
 else (
((bif (a0.2.2.2.2.2.2.1.1 == 4) then (
 some (a0.2.2.2.2.2.2.1.1 == 4))
 else (
 some (a0.2.2.2.2.2.2.1.1 == 5))):Option Bool).bind fun o3 =>
 some o3)):Option Bool).bind fun o4 =>
 bif o4 then (
(tF a0.2.2.2.2.2.2.1 a1.2.2.2.2.1).bind fun y5 =>
(wb a1 y5).bind fun y6 =>
 some ([y6],0,()))
 else (
((bif (a0.2.2.2.2.2.2.1.1 == 6) then (
 some (.inl (a1.1,a1.2.1,a0.2.2.2.2.2.2.1.2.2.1,a0.2.2.2.2.2.2.1.2.2.2.1,a1.2.2.2.2)))
 else (
((bif (a0.2.2.2.2.2.2.1.1 == 7) then (
((bif (a0.2.2.2.2.2.2.1.2.2.2.2.1 != 2) then (
 some (a1.1,a1.2.1,a1.2.2.1,a1.2.2.2.1,0,a0.2.2.2.2.2.2.1.2.2.2.2.1,false,()))
 else (
 some (a1.1,a1.2.1,a1.2.2.1,a1.2.2.2.1,a1.2.2.2.2.1,a0.2.2.2.2.2.2.1.2.2.2.2.1,a1.2.2.2.2.2.2))):Option ac.D).bind fun o7 =>
 some (.inl o7))
 else (
((bif (a0.2.2.2.2.2.2.1.1 == 8) then (
((bif (a1.2.2.2.2.2.1 == 2) then (
(lu (IntKind.wrap .i64 (a1.2.2.2.2.1 + a0.2.2.2.2.2.2.1.2.1)) 99).bind fun y8 =>
((bif a1.2.2.2.2.2.2.1 then (
 some (a1.1,a1.2.1,a1.2.2.1,a1.2.2.2.1,y8,a1.2.2.2.2.2.1,true,()))
 else (
 some (a1.1,a1.2.1,a1.2.2.1,a1.2.2.2.1,y8,a1.2.2.2.2.2.1,a0.2.2.2.2.2.2.1.2.2.2.2.2.1,()))):Option ac.D).bind fun o9 =>
 some o9)
 else (
 some a1)):Option ac.D).bind fun o10 =>
 some (.inl o10))
 else (
 bif (a0.2.2.2.2.2.2.1.1 == 9) then (
(wc a0.2.2.2.2.2.2.1 a1).bind fun y11 =>
 some (.inr ((y11,0))))
 else (
 some (.inl a1)))):Option (ac.D⊕((List ac.D)×Int))).bind fun o12 =>
 match o12 with
| .inl s13=>(
 some (.inl s13))
| .inr o14=>(
 some (.inr o14)))):Option (ac.D⊕((List ac.D)×Int))).bind fun o15 =>
 match o15 with
| .inl s16=>(
 some (.inl s16))
| .inr o17=>(
 some (.inr o17)))):Option (ac.D⊕((List ac.D)×Int))).bind fun o18 =>
 match o18 with
| .inl s19=>(
 some ([s19],0,()))
| .inr o20=>(
 some (o20.1,o20.2,())))))
def Ov:Hints:=(n0 (n0 (nd (n0 (nd (n0 (n0 (n0 (n0 (nd (n0 (.node (some ⟨[.tmp 34 .bool],[none],none,[]⟩) none .none (n0 (cu ⟨[.tmp 34 .bool],[none],none,[]⟩)))) (n0 (n0 (.node (some ⟨[.box 3 0 ac],[none],some [.tmpO 4 0 (.slice ac),.tmp 5 (.int .i64)],[(3,0)]⟩) none .none (n0 (.node (some ⟨[.box 3 0 ac],[none],some [.tmpO 4 0 (.slice ac),.tmp 5 (.int .i64)],[(3,0)]⟩) none (n0 (n0 (cu ⟨[.box 3 0 ac],[none],none,[(3,0)]⟩))) (n0 (.node (some ⟨[.box 3 0 ac],[none],some [.tmpO 4 0 (.slice ac),.tmp 5 (.int .i64)],[(3,0)]⟩) none (n0 (.node (some ⟨[.box 3 0 ac],[none],none,[(3,0)]⟩) none (n0 (cu ⟨[.box 3 0 ac],[none],none,[(3,0)]⟩)) .none)) .none)))))))))))) .none)) .none)))
def BR:Ct:=.pure false true (.pair aa (.pair ac .unit)) (.pair (.slice ac) (.pair (.int .i64) .unit)) (fun x=>rX x.1 x.2.1)
theorem Ar:KC 343 BR:=pq (Ec mD (Ec Mb (Ec J7 (Ec Aq En)))) Ov Tryz.func343
def bA (a1:((ac.D×Unit)→Option Bool)):((List ac.D)×(Int×Int))→Option (((List ac.D)×(Int×Int))⊕((List ac.D)×(Int×Int))):=fun s3 =>
 bif decide (s3.2.2 < (s3.1.length:Int)) then (
 idx s3.1 s3.2.2 fun _ =>
(s3.1[(s3.2.2:Int).toNat]?).bind fun x4 =>
(a1 (x4,())).bind fun y5 =>
((bif (!y5) then (
 idx s3.1 s3.2.1 fun _ =>
(s3.1[(s3.2.1:Int).toNat]?).bind fun x6 =>
 let u7:(List ac.D):=s3.1.set (s3.2.1:Int).toNat x4
 some (u7,IntKind.wrap .i64 (s3.2.1 + 1)))
 else (
 some (s3.1,s3.2.1))):Option ((List ac.D)×Int)).bind fun o8 =>
 some (.inl (o8.1,o8.2,IntKind.wrap .i64 (s3.2.2 + 1))))
 else (
 some (.inr s3))
def be (a0:(List ac.D)) (a1:((ac.D×Unit)→Option Bool)):Option ((List ac.D)×Unit) :=
(bi a0 a1).bind fun y1 =>
 bif (y1 == (-1)) then (
 some (a0,()))
 else (
(al (bA a1) (a0,y1,IntKind.wrap .i64 (y1 + 1))).bind fun o9 =>
 if 0≤o9.2.1 then (if o9.2.1≤(o9.1.length:Int) then (if (o9.1.length:Int)≤(o9.1.length:Int) then (
 if 0≤(0:Int) then (if (0:Int)≤o9.2.1 then (if o9.2.1≤((o9.1.take (o9.2.1.toNat)++List.replicate ((o9.1.length:Int).toNat - o9.2.1.toNat) (0,0,0,0,0,0,false,())++o9.1.drop ((o9.1.length:Int).toNat)).length:Int) then (
 some ((((o9.1.take (o9.2.1.toNat)++List.replicate ((o9.1.length:Int).toNat - o9.2.1.toNat) (0,0,0,0,0,0,false,())++o9.1.drop ((o9.1.length:Int).toNat)).take (o9.2.1.toNat)).drop ((0:Int).toNat)),())) else none) else none) else none) else none) else none) else none)
def oe:Hints:=(n0 (n0 (n0 (nd (n0 (nd (.node none (some ⟨[.tmpO 0 1 (.slice ac),.tmp 5 (.int .i64),.tmp 6 (.int .i64)],[some 0],none,[]⟩) (n0 (nd (nd (n0 (n0 (cu ⟨[.tmpO 0 2 (.slice ac),.tmp 5 (.int .i64)],[none],none,[(0,1)]⟩))) .none) .none)) .none) .none)) .none))))
def jA:Ct:=.mut [.tk,.rd] true true (.pair (.slice ac) (.pair (.fn (.pair ac .unit) .bool) .unit)) (.slice ac) (fun x=>be x.1 x.2.1)
theorem dY:KC 306 jA:=mq (Ec gh En) oe Tryz.func306
def qP (a0:ac.D):Option Bool :=
(bM a0).bind fun y1 =>
 bif (!y1) then (
 some true)
 else (
(uP a0).bind fun y2 =>
 some y2)
def J8:Ct:=.pure true false (.pair ac .unit) .bool (fun x=>qP x.1)
theorem Ha:KC 344 J8:=pq (Ec bP (Ec Dr En)) .none Tryz.func344
def gi (a0:Int) (a1:Int):Option Int :=
(ce a0).bind fun y1 =>
(ce a1).bind fun y2 =>
(ce (IntKind.wrap .i64 (y1 - y2))).bind fun y3 =>
 some y3
def P5:Ct:=.pure true false bc (.int .i64) (fun x=>gi x.1 x.2.1)
theorem qQ:KC 363 P5:=pq (Ec gZ En) .none Tryz.func363
def wd (a0:aa.D) (a1:Int):Option aa.D :=
(cN a0).bind fun y1 =>
 bif (y1.2.2.2.2.2.2.1.1 == 2) then (
(gi y1.2.2.2.2.2.2.2.2.1 a1).bind fun y2 =>
(lu y2 2147483647).bind fun y3 =>
 some (y1.1,y1.2.1,y1.2.2.1,y1.2.2.2.1,y1.2.2.2.2.1,y1.2.2.2.2.2.1,y1.2.2.2.2.2.2.1,y1.2.2.2.2.2.2.2.1,y3,()))
 else (
 bif decide (y1.2.2.2.2.2.2.2.2.1 > 0) then (
 some (y1.1,y1.2.1,y1.2.2.1,y1.2.2.2.1,y1.2.2.2.2.1,y1.2.2.2.2.2.1,y1.2.2.2.2.2.2.1,y1.2.2.2.2.2.2.2.1,IntKind.wrap .i64 (y1.2.2.2.2.2.2.2.2.1 - 1),()))
 else (
 some y1))
def BS:Ct:=.pure true true (.pair aa (.pair (.int .i64) .unit)) aa (fun x=>wd x.1 x.2.1)
theorem As:KC 345 BS:=pq (Ec cK (Ec qQ (Ec mD En))) .none Tryz.func345
def we (a0:aa.D) (a1:ac.D):Option ((List ac.D)×(Int×(aa.D×Unit))) :=
(((cL a0).bind fun y1 =>
 bif (!y1) then (
 some true)
 else (
(bM a1).bind fun y2 =>
 bif (!y2) then (
 some true)
 else (
(dh a0.2.2.2.2.2.2.1 a1.1).bind fun y3 =>
 some (!y3)))):Option Bool).bind fun o4 =>
 bif o4 then (
(cN a0).bind fun y5 =>
 some ([a1],0,y5,()))
 else (
(rX a0 a1).bind fun y6 =>
(be y6.1 (fun q=>qP q.1)).bind fun y7 =>
(wd a0 y6.2.1).bind fun y8 =>
 some (y7.1,y6.2.1,y8,()))
def Ow:Hints:=(n0 (nd (nd (cu ⟨[.tmp 24 .bool],[none],none,[]⟩) .none) .none))
def rY:Ct:=.pure false true (.pair aa (.pair ac .unit)) (.pair (.slice ac) (.pair (.int .i64) (.pair aa .unit))) (fun x=>we x.1 x.2.1)
theorem Au:KC 279 rY:=pq (Ec bP (Ec nX (Ec cK (Ec wT (Ec dY (Ec Ar (Ec Ha (Ec As En)))))))) Ow Tryz.func279
def qR (a0:ae.D) (a1:ac.D):Option Int :=
(pF a0 a1).bind fun y1 =>
 bif (y1 != (-1)) then (
 some y1)
 else (
 some a0.2.2.1)
def zb:Ct:=.pure true false (.pair ae (.pair ac .unit)) (.int .i64) (fun x=>qR x.1 x.2.1)
theorem Hb:KC 280 zb:=pq (Ec za En) .none Tryz.func280
def rZ (a0:ar.D):Option Bool :=
 some true
def uT:Ct:=.pure true false (.pair ar .unit) .bool (fun x=>rZ x.1)
theorem Dt:KC 165 uT:=pq En .none Tryz.func165
def tG (a0:(List aa.D)) (a1:aa.D):Option (List aa.D) :=
(bO a0).bind fun y1 =>
(fL a0 a1.1).bind fun y2 =>
 bif decide (y2≥0) then (
(cN a1).bind fun y3 =>
 idx y1 y2 fun _ =>
(y1[(y2:Int).toNat]?).bind fun x4 =>
 let u5:(List aa.D):=y1.set (y2:Int).toNat y3
 some u5)
 else (
 some y1)
def qo:Ct:=.pure true true (.pair (.slice aa) (.pair aa .unit)) (.slice aa) (fun x=>tG x.1 x.2.1)
theorem zc:KC 281 qo:=pq (Ec bn (Ec cK (Ec jf En))) .none Tryz.func281
def fu (rec:(sJ.D→ac.D→(List Int)→Option (Bool×sJ.D))) (x5:Int) (y8:((List ac.D)×(Int×(aa.D×Unit)))) (y12:(List Int)):(Int×(lS.D×(vO.D×Unit)))→Option ((Int×(lS.D×(vO.D×Unit)))⊕((Int×(lS.D×(vO.D×Unit)))⊕(Bool×(lS.D×(vO.D×Unit))))):=fun s14 =>
 bif decide (s14.1 < (y8.1.length:Int)) then (
 idx y8.1 s14.1 fun x15 =>
(rec s14.2 x15 (y12++[x5])).bind fun y16 =>
 bif (!y16.1) then (
 some (.inr (.inr ((false,y16.2)))))
 else (
 some (.inl (IntKind.wrap .i64 (s14.1 + 1),y16.2))))
 else (
 some (.inr (.inl s14)))
def eD (rec:(sJ.D→ac.D→(List Int)→Option (Bool×sJ.D))) (x:sJ.D) (a0:ac.D) (a1:(List Int)):Option (Bool×sJ.D) :=
(qN x.1 x.2.1.2.1 a0 a1).bind fun y1 =>
 bif ((y1.length:Int) == 0) then (
(uP a0).bind fun y2 =>
((bif (!y2) then (
 if (x.2.1.1.length + [a0].length) * (24 * 7)≤aC then (
 some (x.1,((x.2.1.1++[a0]),x.2.1.2),())) else none)
 else (
 some x)):Option sJ.D).bind fun o3 =>
 some (true,o3))
 else (
(rW x (y1.length:Int)).bind fun y4 =>
 bif (!y4.1.2.1) then (
 some (false,y4.2))
 else (
 idx y1 y4.1.1 fun _ =>
(y1[(y4.1.1:Int).toNat]?).bind fun x5 =>
(fL y4.2.2.1.2.1 x5).bind fun y6 =>
 idx y4.2.2.1.2.1 y6 fun x7 =>
(we x7 a0).bind fun y8 =>
(qR y4.2.1 a0).bind fun y9 =>
(rZ (x5,y9,y4.1.1,(y1.length:Int),a0,y8.1,y8.2.1,(a1.length:Int),())).bind fun y10 =>
 bif (!y10) then (
 none)
 else (
(tG y4.2.2.1.2.1 y8.2.2.1).bind fun y11 =>
 if (y4.2.2.1.2.2.2.1.length + [(x5,y9,y4.1.1,(y1.length:Int),a0,y8.1,y8.2.1,(a1.length:Int),())].length) * (24 * 14)≤aC then (
(bl a1).bind fun y12 =>
 if (y12.length + [x5].length) * (24 * 1)≤aC then (
(al (fu rec x5 y8 y12) (0,y4.2.1,(y4.2.2.1.1,y11,y4.2.2.1.2.2.1,(y4.2.2.1.2.2.2.1++[(x5,y9,y4.1.1,(y1.length:Int),a0,y8.1,y8.2.1,(a1.length:Int),())]),()),())).bind fun o17 =>
 match o17 with
| .inl s18=>(
 some (true,s18.2))
| .inr o19=>(
 some (o19.1,o19.2))) else none) else none)))
def cE (n:Nat):sJ.D→ac.D→(List Int)→Option (Bool×sJ.D):=Nat.rec (motive:=fun _=>(sJ.D→ac.D→(List Int)→Option (Bool×sJ.D))) (fun _ _ _=>none) (fun _ g=>eD g) n
def Av:Hints:=(n0 (n0 (nd (n0 (nd (nd (n0 (cu ⟨[.boxO 0 0 6 sJ [.fn 163 [(0,1)],.fn 165 []]],[none],none,[(0,2),(0,0),(0,3),(0,4),(0,5)]⟩)) .none) .none)) (nd (.node none (some ⟨[],[some 6],none,[]⟩) .none .none) (n0 (n0 (nd (nd (cu ⟨[],[],none,[(0,7)]⟩) .none) (nd (nd (cu ⟨[],[],none,[(79,0)]⟩) .none) (n0 (n0 (n0 (n0 (nd (nd (nd (cu ⟨[],[],none,[(133,0)]⟩) .none) (nd (.node none (some ⟨[.tmp 136 (.int .i64),.boxO 0 0 10 sJ [.fn 163 [(0,1)],.fn 165 []]],[some 0],some [.tmp 6 .bool,.boxO 0 0 10 sJ [.fn 163 [(0,1)],.fn 165 []]],[]⟩) (n0 (n0 (nd (nd (n0 (nd (.node none (some ⟨[],[some 3],none,[]⟩) .none .none) .none)) .none) .none))) .none) .none)) .none)))))))))))))
def jB (g:(sJ.D→ac.D→(List Int)→Option (Bool×sJ.D))):Ct:=.run sJ [(163,true),(165,false)] true false true (.pair ac (.pair (.slice (.int .i64)) .unit)) .bool (fun x y=>g x y.1 y.2.1)
theorem zd (n:Nat):fC Tryz.prog 166 (jB (cE n)):=by
 induction n with
 | zero=>exact PD (fn:=Tryz.f166) sJ [(163,true),(165,false)] true false true (.pair ac (.pair (.slice (.int .i64)) .unit)) .bool Tryz.func166 (by kernel_rfl)
 | succ n ih=>exact NO (E:={ T:=UI,G:=[(166,jB (cE n)),(163,uR),(153,dO),(165,uT),(211,wV),(277,pG),(278,Gq),(279,rY),(280,zb),(281,qo)],V:=[124],Z:=true }) (aE.frz (aE.views (aE.cons (ih) (aE.cons Ds (aE.cons bu (aE.cons Dt (aE.cons jf (aE.cons xN (aE.cons Dr (aE.cons Au (aE.cons Hb (aE.cons zc (aE.nil Rb))))))))))))) mixed (fn:=Tryz.f166) sJ [(163,true),(165,false)] true false true (.pair ac (.pair (.slice (.int .i64)) .unit)) .bool (fun x y=>eD (cE n) x y.1 y.2.1) Av Tryz.func166 (by kernel_rfl) (fun x y=>by kernel_rfl)
def jg (a0:ae.D) (a1:(List aa.D)) (a2:ac.D) (a3:(List Int)):Option ba.D :=
(bO a1).bind fun y1 =>
(bl a3).bind fun y2 =>
(((dg a0).bind fun y3 =>
 bif (!y3) then (
 some true)
 else (
(bM a2).bind fun y4 =>
 bif (!y4) then (
 some true)
 else (
(fi a1).bind fun y5 =>
 some (!y5)))):Option Bool).bind fun o6 =>
 bif o6 then (
 some ([],y1,y2,[],()))
 else (
(cE 8 (a0,([],y1,y2,[],()),()) a2 []).bind fun y7 =>
(ga y7.2.2.1.2.2.2.1).bind fun y8 =>
 some (y7.2.2.1.1,y7.2.2.1.2.1,y7.2.2.1.2.2.1,y8,()))
def J9:Hints:=(n0 (n0 (nd (nd (cu ⟨[.tmp 30 .bool],[none],none,[]⟩) .none) (n0 (n0 (nd (.node none (some ⟨[],[some 2],none,[]⟩) .none .none) .none))))))
def ze:Ct:=.pure true true (.pair ae (.pair (.slice aa) (.pair ac (.pair (.slice (.int .i64)) .unit)))) ba (fun x=>jg x.1 x.2.1 x.2.2.1 x.2.2.2.1)
theorem xO:fC Tryz.prog 52 ze:=vN (E:={ T:=tab,G:=[(166,jB (cE 8)),(81,yT),(82,yW),(152,gA),(153,dO),(162,yV),(167,gC)],Z:=true }) (aE.frz (aE.cons (zd 8) (aE.cons dw (aE.cons kw (aE.cons bn (aE.cons bu (aE.cons bP (aE.cons gb (aE.nil sU))))))))) mixed (fn:=Tryz.f52) _ _ _ _ _ J9 Tryz.func52 (by kernel_rfl) (fun x=>by kernel_rfl)
def eE (a0:Unit) (a1:Int):Option ((List ac.D)×Unit) :=
((bif decide (a1 < 0) then (
 none)
 else (
 some ())):Option Unit).bind fun o1 =>
 bif decide ((IntKind.wrap .i64 (a1 - (IntKind.wrap .i64 (0 - 0)))) > 0) then (
 if 0≤(0:Int) then (if (0:Int)≤(0:Int) then (if (0:Int)≤((0:Nat):Int) then (
 if 0 < (IntKind.wrap .i64 (a1 - (IntKind.wrap .i64 (0 - 0)))) then (if (IntKind.wrap .i64 (a1 - (IntKind.wrap .i64 (0 - 0)))).toNat * (24 * 7)≤aC then (
 if 0≤(0:Int) then (if (0:Int)≤(0:Int) then (if (0:Int)≤((List.replicate (IntKind.wrap .i64 (a1 - (IntKind.wrap .i64 (0 - 0)))).toNat (0,0,0,0,0,0,false,()):List ac.D).length:Int) then (
 some ((((List.replicate (IntKind.wrap .i64 (a1 - (IntKind.wrap .i64 (0 - 0)))).toNat (0,0,0,0,0,0,false,()):List ac.D).take ((0:Int).toNat)).drop ((0:Int).toNat)),())) else none) else none) else none) else none) else none) else none) else none) else none)
 else (
 some ([],()))
def t9:Hints:=(n0 (nd (n0 (cu ⟨[],[none],none,[]⟩)) .none))
def og:Ct:=.mut [.nil,.rd] true true (.pair .unit (.pair (.int .i64) .unit)) (.slice ac) (fun x=>eE x.1 x.2.1)
theorem np:KC 288 og:=mq En t9 Tryz.func288
def bX (a0:(List (List ac.D))):(Int×Int)→Option ((Int×Int)⊕(Int×Int)):=fun s1 =>
 bif decide (s1.2 < (a0.length:Int)) then (
 idx a0 s1.2 fun x2 =>
 bif decide ((IntKind.wrap .i64 (s1.1 + (x2.length:Int))) < 0) then (
 none)
 else (
 some (.inl (IntKind.wrap .i64 (s1.1 + (x2.length:Int)),IntKind.wrap .i64 (s1.2 + 1)))))
 else (
 some (.inr s1))
def bY (a0:(List (List ac.D))):((List ac.D)×Int)→Option (((List ac.D)×Int)⊕((List ac.D)×Int)):=fun s5 =>
 bif decide (s5.2 < (a0.length:Int)) then (
 idx a0 s5.2 fun x6 =>
 if (s5.1.length + x6.length) * (24 * 7)≤aC then (
 some (.inl ((s5.1++x6),IntKind.wrap .i64 (s5.2 + 1)))) else none)
 else (
 some (.inr s5))
def dP (a0:(List (List ac.D))):Option (List ac.D) :=
(al (bX a0) (0,0)).bind fun o3 =>
(eE () o3.1).bind fun y4 =>
(al (bY a0) (y4.1,0)).bind fun o7 =>
 some o7.1
def sa:Hints:=(n0 (n0 (nd (n0 (nd (.node none (some ⟨[.tmp 3 (.int .i64),.tmp 11 (.int .i64)],[some 0],none,[]⟩) .none .none) .none)) (n0 (nd (n0 (nd (.node none (some ⟨[.tmpO 6 0 (.slice ac),.tmp 27 (.int .i64)],[some 2],none,[]⟩) .none .none) .none)) .none)))))
def fw:Ct:=.pure true true (.pair (.slice (.slice ac)) .unit) (.slice ac) (fun x=>dP x.1)
theorem lH:KC 181 fw:=pq (Ec np En) sa Tryz.func181
def eR (a0:Unit) (a1:Int):Option ((List dV.D)×Unit) :=
((bif decide (a1 < 0) then (
 none)
 else (
 some ())):Option Unit).bind fun o1 =>
 bif decide ((IntKind.wrap .i64 (a1 - (IntKind.wrap .i64 (0 - 0)))) > 0) then (
 if 0≤(0:Int) then (if (0:Int)≤(0:Int) then (if (0:Int)≤((0:Nat):Int) then (
 if 0 < (IntKind.wrap .i64 (a1 - (IntKind.wrap .i64 (0 - 0)))) then (if (IntKind.wrap .i64 (a1 - (IntKind.wrap .i64 (0 - 0)))).toNat * (24 * 14)≤aC then (
 if 0≤(0:Int) then (if (0:Int)≤(0:Int) then (if (0:Int)≤((List.replicate (IntKind.wrap .i64 (a1 - (IntKind.wrap .i64 (0 - 0)))).toNat (0,0,0,0,(0,0,0,0,0,0,false,()),[],0,0,()):List dV.D).length:Int) then (
 some ((((List.replicate (IntKind.wrap .i64 (a1 - (IntKind.wrap .i64 (0 - 0)))).toNat (0,0,0,0,(0,0,0,0,0,0,false,()),[],0,0,()):List dV.D).take ((0:Int).toNat)).drop ((0:Int).toNat)),())) else none) else none) else none) else none) else none) else none) else none) else none)
 else (
 some ([],()))
def uU:Hints:=(n0 (nd (n0 (cu ⟨[],[none],none,[]⟩)) .none))
def gq:Ct:=.mut [.nil,.rd] true true (.pair .unit (.pair (.int .i64) .unit)) (.slice dV) (fun x=>eR x.1 x.2.1)
theorem oh:fC Tryz.prog 289 gq:=NN (E:={ T:=UI,G:=[] }) (aE.nil Rb) mixed (fn:=Tryz.f289) _ _ _ _ _ _ uU Tryz.func289 (by kernel_rfl) (fun x=>by kernel_rfl)
def cf (a0:(List (List dV.D))):(Int×Int)→Option ((Int×Int)⊕(Int×Int)):=fun s1 =>
 bif decide (s1.2 < (a0.length:Int)) then (
 idx a0 s1.2 fun x2 =>
 bif decide ((IntKind.wrap .i64 (s1.1 + (x2.length:Int))) < 0) then (
 none)
 else (
 some (.inl (IntKind.wrap .i64 (s1.1 + (x2.length:Int)),IntKind.wrap .i64 (s1.2 + 1)))))
 else (
 some (.inr s1))
def cg (a0:(List (List dV.D))):((List dV.D)×Int)→Option (((List dV.D)×Int)⊕((List dV.D)×Int)):=fun s5 =>
 bif decide (s5.2 < (a0.length:Int)) then (
 idx a0 s5.2 fun x6 =>
 if (s5.1.length + x6.length) * (24 * 14)≤aC then (
 some (.inl ((s5.1++x6),IntKind.wrap .i64 (s5.2 + 1)))) else none)
 else (
 some (.inr s5))
def dZ (a0:(List (List dV.D))):Option (List ar.D) :=
(al (cf a0) (0,0)).bind fun o3 =>
(eR () o3.1).bind fun y4 =>
(al (cg a0) (y4.1,0)).bind fun o7 =>
 some o7.1
def sK:Hints:=(n0 (n0 (nd (n0 (nd (.node none (some ⟨[.tmp 3 (.int .i64),.tmp 11 (.int .i64)],[some 0],none,[]⟩) .none .none) .none)) (n0 (nd (n0 (nd (.node none (some ⟨[.tmpO 6 0 (.slice dV),.tmp 27 (.int .i64)],[some 2],none,[]⟩) .none .none) .none)) .none)))))
def ju:Ct:=.pure true false (.pair (.slice (.slice dV)) .unit) (.slice ar) (fun x=>dZ x.1)
theorem se:fC Tryz.prog 182 ju:=vN (E:={ T:=UI,G:=[(289,gq)] }) (aE.cons oh (aE.nil Rb)) mixed (fn:=Tryz.f182) _ _ _ _ _ sK Tryz.func182 (by kernel_rfl) (fun x=>by kernel_rfl)
def uV (a0:ba.D) (a1:ba.D):Option ba.D :=
(dP [a0.1,a1.1]).bind fun y1 =>
(bO a1.2.1).bind fun y2 =>
(bl a1.2.2.1).bind fun y3 =>
(dZ [a0.2.2.2.1,a1.2.2.2.1]).bind fun y4 =>
(ga y4).bind fun y5 =>
 some (y1,y2,y3,y5,())
def Du:Ct:=.pure true true (.pair ba (.pair ba .unit)) ba (fun x=>uV x.1 x.2.1)
theorem BT:fC Tryz.prog 75 Du:=vN (E:={ T:=tab,G:=[(152,gA),(153,dO),(167,gC),(181,fw),(182,ju)],V:=[9,21] }) (aE.views (aE.cons bn (aE.cons bu (aE.cons gb (aE.cons lH (aE.cons se (aE.nil sU))))))) mixed (fn:=Tryz.f75) _ _ _ _ _ .none Tryz.func75 (by kernel_rfl) (fun x=>by kernel_rfl)
def gE (a0:ae.D) (a2:(List ac.D)):(Int×((List ac.D)×((List aa.D)×((List Int)×((List ar.D)×Unit)))))→Option ((Int×((List ac.D)×((List aa.D)×((List Int)×((List ar.D)×Unit)))))⊕(Int×((List ac.D)×((List aa.D)×((List Int)×((List ar.D)×Unit)))))):=fun s8 =>
 bif decide (s8.1 < (a2.length:Int)) then (
 idx a2 s8.1 fun x9 =>
(jg a0 s8.2.2.1 x9 s8.2.2.2.1).bind fun y10 =>
(uV s8.2 y10).bind fun y11 =>
 some (.inl (IntKind.wrap .i64 (s8.1 + 1),y11)))
 else (
 some (.inr s8))
def kA (a0:ae.D) (a1:(List aa.D)) (a2:(List ac.D)) (a3:(List Int)):Option ba.D :=
(bO a1).bind fun y1 =>
(bl a3).bind fun y2 =>
(((mC a2).bind fun y3 =>
 bif (!y3) then (
 some true)
 else (
(dg a0).bind fun y4 =>
 bif (!y4) then (
 some true)
 else (
(fi a1).bind fun y5 =>
 some (!y5)))):Option Bool).bind fun o6 =>
 bif o6 then (
 some ([],y1,y2,[],()))
 else (
(al (gE a0 a2) (0,[],y1,y2,[],())).bind fun o12 =>
 some o12.2)
def Dv:Hints:=(n0 (n0 (nd (nd (cu ⟨[.tmp 29 .bool],[none],none,[]⟩) .none) (nd (n0 (nd (.node none (some ⟨[.tmp 33 (.int .i64),.boxO 9 0 1 ba],[some 0],none,[]⟩) .none .none) .none)) .none))))
def uW:Ct:=.pure true true (.pair ae (.pair (.slice aa) (.pair (.slice ac) (.pair (.slice (.int .i64)) .unit)))) ba (fun x=>kA x.1 x.2.1 x.2.2.1 x.2.2.2.1)
theorem ua:KC 65 uW:=pq (Ec xO (Ec BT (Ec wW (Ec dw (Ec kw (Ec bn (Ec bu En))))))) Dv Tryz.func65
def ub (a0:ac.D):Option Bool :=
 some (a0.1 == 2)
def Hc:Ct:=.pure true false (.pair ac .unit) .bool (fun x=>ub x.1)
theorem Fe:KC 305 Hc:=pq En .none Tryz.func305
def A5 (z0:((ac.D×Unit)→Option Bool)) (a0:ac.D):Option Bool :=
(z0 (a0,())).bind fun y1 =>
 some (!y1)
def He:Ct:=.clo (.pair ac .unit) (.pair (.fn (.pair ac .unit) .bool) .unit) .bool (fun z x=>A5 z.1 x.1)
theorem Ff:KC 307 He:=cq En .none Tryz.func307
def fx (a0:ae.D) (a1:Int):Option Int :=
(fj a0 a1).bind fun y1 =>
((bif decide (y1 < 0) then (
 some true)
 else (
 idx a0.1 y1 fun x2 =>
 some (x2.2.2.2.1 != 2))):Option Bool).bind fun o3 =>
 bif o3 then (
 some (-1))
 else (
 some y1)
def Ka:Hints:=(n0 (n0 (nd (nd (cu ⟨[.tmp 19 .bool],[none],none,[]⟩) .none) .none)))
def Kb:Ct:=.pure true false (.pair ae (.pair (.int .i64) .unit)) (.int .i64) (fun x=>fx x.1 x.2.1)
theorem qc:KC 380 Kb:=pq (Ec gR En) Ka Tryz.func380
def mE (a0:ae.D) (a1:ac.D):Option Bool :=
 bif (a1.2.2.1 == 0) then (
(aQ a0 a1.2.2.2.1).bind fun y1 =>
 some y1)
 else (
(fx a0 a1.2.2.1).bind fun y2 =>
 some (decide (y2≥0)))
def Kc:Ct:=.pure true false (.pair ae (.pair ac .unit)) .bool (fun x=>mE x.1 x.2.1)
theorem wX:KC 379 Kc:=pq (Ec gc (Ec qc En)) .none Tryz.func379
def aG (a0:ah.D) (a1:Int):Option Bool :=
((bif (a1 == 1) then (
 some (a1 == 1))
 else (
((bif (a1 == 2) then (
 some (a1 == 2))
 else (
((bif (a1 == 4) then (
 some (a1 == 4))
 else (
((bif (a1 == 8) then (
 some (a1 == 8))
 else (
((bif (a1 == 16) then (
 some (a1 == 16))
 else (
 some (a1 == 32))):Option Bool).bind fun o1 =>
 some o1)):Option Bool).bind fun o2 =>
 some o2)):Option Bool).bind fun o3 =>
 some o3)):Option Bool).bind fun o4 =>
 some o4)):Option Bool).bind fun o5 =>
 bif o5 then (
 let k6:Int:=IntKind.wrap .i64 (BitVec.ofInt (IntKind.bits .i64) a0.2.2.2.2.2.2.2.1 &&& BitVec.ofInt (IntKind.bits .i64) a1).toNat
 some (k6 != 0))
 else (
 some false)
def Hf:Hints:=(n0 (nd (n0 (nd (nd (n0 (.node (some ⟨[.tmp 6 .bool],[none],none,[]⟩) none .none (n0 (.node (some ⟨[.tmp 6 .bool],[none],none,[]⟩) none .none (n0 (.node (some ⟨[.tmp 6 .bool],[none],none,[]⟩) none .none (n0 (.node (some ⟨[.tmp 6 .bool],[none],none,[]⟩) none .none (n0 (cu ⟨[.tmp 6 .bool],[none],none,[]⟩)))))))))) .none) .none)) .none))
def Hg:Ct:=.pure true false (.pair ah (.pair (.int .i64) .unit)) .bool (fun x=>aG x.1 x.2.1)
theorem ol:KC 44 Hg:=pq En Hf Tryz.func44
def lw (a0:ae.D) (a1:ah.D) (a2:ac.D):Option (ae.D×(Int×Unit)) :=
(cJ a0).bind fun y1 =>
(dg y1).bind fun y2 =>
 bif (!y2) then (
 some (y1,0,()))
 else (
(bM a2).bind fun y3 =>
 bif (!y3) then (
 some (y1,0,()))
 else (
 bif (a2.1 != 1) then (
 some (y1,0,()))
 else (
(mE y1 a2).bind fun y4 =>
 bif (!y4) then (
 some (y1,0,()))
 else (
(aG a1 2).bind fun y5 =>
 bif (a2.2.2.1 == 0) then (
 bif y5 then (
 idx y1.2.1 a2.2.2.2.1 fun _ =>
(y1.2.1[(a2.2.2.2.1:Int).toNat]?).bind fun x6 =>
(aZ x6.2.1 a2.2.2.2.2.1).bind fun y7 =>
 idx y1.2.1 a2.2.2.2.1 fun _ =>
(y1.2.1[(a2.2.2.2.1:Int).toNat]?).bind fun x8 =>
 let u9:(List au.D):=y1.2.1.set (a2.2.2.2.1:Int).toNat (x8.1,y7,x8.2.2)
(aG a1 1).bind fun y10 =>
 bif y10 then (
(aQ (y1.1,u9,y1.2.2) a1.2.2.1).bind fun y11 =>
 bif y11 then (
 idx u9 a1.2.2.1 fun _ =>
(u9[(a1.2.2.1:Int).toNat]?).bind fun x12 =>
(aZ x12.1 a2.2.2.2.2.1).bind fun y13 =>
 idx u9 a1.2.2.1 fun _ =>
(u9[(a1.2.2.1:Int).toNat]?).bind fun x14 =>
 let u15:(List au.D):=u9.set (a1.2.2.1:Int).toNat (y13,x14.2)
 some ((y1.1,u15,y1.2.2),a2.2.2.2.2.1,()))
 else (
 some ((y1.1,u9,y1.2.2),a2.2.2.2.2.1,())))
 else (
 some ((y1.1,u9,y1.2.2),a2.2.2.2.2.1,())))
 else (
 bif (a2.2.2.1 == 0) then (
 idx y1.2.1 a2.2.2.2.1 fun _ =>
(y1.2.1[(a2.2.2.2.1:Int).toNat]?).bind fun x16 =>
(gi x16.1 a2.2.2.2.2.1).bind fun y17 =>
 idx y1.2.1 a2.2.2.2.1 fun _ =>
(y1.2.1[(a2.2.2.2.1:Int).toNat]?).bind fun x18 =>
 let u19:(List au.D):=y1.2.1.set (a2.2.2.2.1:Int).toNat (y17,x18.2)
(aG a1 1).bind fun y20 =>
 bif y20 then (
(aQ (y1.1,u19,y1.2.2) a1.2.2.1).bind fun y21 =>
 bif y21 then (
 idx u19 a1.2.2.1 fun _ =>
(u19[(a1.2.2.1:Int).toNat]?).bind fun x22 =>
(aZ x22.1 a2.2.2.2.2.1).bind fun y23 =>
 idx u19 a1.2.2.1 fun _ =>
(u19[(a1.2.2.1:Int).toNat]?).bind fun x24 =>
 let u25:(List au.D):=u19.set (a1.2.2.1:Int).toNat (y23,x24.2)
 some ((y1.1,u25,y1.2.2),a2.2.2.2.2.1,()))
 else (
 some ((y1.1,u19,y1.2.2),a2.2.2.2.2.1,())))
 else (
 some ((y1.1,u19,y1.2.2),a2.2.2.2.2.1,())))
 else (
(fx y1 a2.2.2.1).bind fun y26 =>
 idx y1.1 y26 fun _ =>
 bif y5 then (
(y1.1[(y26:Int).toNat]?).bind fun x27 =>
(aZ x27.2.2.2.2.2.2.2.2.2.1 a2.2.2.2.2.1).bind fun y28 =>
(y1.1[(y26:Int).toNat]?).bind fun x29 =>
 let u30:(List ah.D):=y1.1.set (y26:Int).toNat (x29.1,x29.2.1,x29.2.2.1,x29.2.2.2.1,x29.2.2.2.2.1,x29.2.2.2.2.2.1,x29.2.2.2.2.2.2.1,x29.2.2.2.2.2.2.2.1,x29.2.2.2.2.2.2.2.2.1,y28,x29.2.2.2.2.2.2.2.2.2.2)
(u30[(y26:Int).toNat]?).bind fun x31 =>
 bif x31.2.2.2.2.2.2.2.2.2.2.2.1 then (
(u30[(y26:Int).toNat]?).bind fun x32 =>
 let u33:(List ah.D):=u30.set (y26:Int).toNat (x32.1,x32.2.1,x32.2.2.1,x32.2.2.2.1,x32.2.2.2.2.1,x32.2.2.2.2.2.1,x32.2.2.2.2.2.2.1,x32.2.2.2.2.2.2.2.1,x32.2.2.2.2.2.2.2.2.1,x32.2.2.2.2.2.2.2.2.2.1,x32.2.2.2.2.2.2.2.2.2.2.1,true,x32.2.2.2.2.2.2.2.2.2.2.2.2)
(aG a1 1).bind fun y34 =>
 bif y34 then (
(aQ (u33,y1.2) a1.2.2.1).bind fun y35 =>
 bif y35 then (
 idx y1.2.1 a1.2.2.1 fun _ =>
(y1.2.1[(a1.2.2.1:Int).toNat]?).bind fun x36 =>
(aZ x36.1 a2.2.2.2.2.1).bind fun y37 =>
 idx y1.2.1 a1.2.2.1 fun _ =>
(y1.2.1[(a1.2.2.1:Int).toNat]?).bind fun x38 =>
 let u39:(List au.D):=y1.2.1.set (a1.2.2.1:Int).toNat (y37,x38.2)
 some ((u33,u39,y1.2.2),a2.2.2.2.2.1,()))
 else (
 some ((u33,y1.2),a2.2.2.2.2.1,())))
 else (
 some ((u33,y1.2),a2.2.2.2.2.1,())))
 else (
(aG a1 4).bind fun y40 =>
 bif y40 then (
(u30[(y26:Int).toNat]?).bind fun x41 =>
 let u42:(List ah.D):=u30.set (y26:Int).toNat (x41.1,x41.2.1,x41.2.2.1,x41.2.2.2.1,x41.2.2.2.2.1,x41.2.2.2.2.2.1,x41.2.2.2.2.2.2.1,x41.2.2.2.2.2.2.2.1,x41.2.2.2.2.2.2.2.2.1,x41.2.2.2.2.2.2.2.2.2.1,x41.2.2.2.2.2.2.2.2.2.2.1,decide (a2.2.2.2.2.1≥1),x41.2.2.2.2.2.2.2.2.2.2.2.2)
(aG a1 1).bind fun y43 =>
 bif y43 then (
(aQ (u42,y1.2) a1.2.2.1).bind fun y44 =>
 bif y44 then (
 idx y1.2.1 a1.2.2.1 fun _ =>
(y1.2.1[(a1.2.2.1:Int).toNat]?).bind fun x45 =>
(aZ x45.1 a2.2.2.2.2.1).bind fun y46 =>
 idx y1.2.1 a1.2.2.1 fun _ =>
(y1.2.1[(a1.2.2.1:Int).toNat]?).bind fun x47 =>
 let u48:(List au.D):=y1.2.1.set (a1.2.2.1:Int).toNat (y46,x47.2)
 some ((u42,u48,y1.2.2),a2.2.2.2.2.1,()))
 else (
 some ((u42,y1.2),a2.2.2.2.2.1,())))
 else (
 some ((u42,y1.2),a2.2.2.2.2.1,())))
 else (
(u30[(y26:Int).toNat]?).bind fun x49 =>
 let u50:(List ah.D):=u30.set (y26:Int).toNat (x49.1,x49.2.1,x49.2.2.1,x49.2.2.2.1,x49.2.2.2.2.1,x49.2.2.2.2.2.1,x49.2.2.2.2.2.2.1,x49.2.2.2.2.2.2.2.1,x49.2.2.2.2.2.2.2.2.1,x49.2.2.2.2.2.2.2.2.2.1,x49.2.2.2.2.2.2.2.2.2.2.1,false,x49.2.2.2.2.2.2.2.2.2.2.2.2)
(aG a1 1).bind fun y51 =>
 bif y51 then (
(aQ (u50,y1.2) a1.2.2.1).bind fun y52 =>
 bif y52 then (
 idx y1.2.1 a1.2.2.1 fun _ =>
(y1.2.1[(a1.2.2.1:Int).toNat]?).bind fun x53 =>
(aZ x53.1 a2.2.2.2.2.1).bind fun y54 =>
 idx y1.2.1 a1.2.2.1 fun _ =>
(y1.2.1[(a1.2.2.1:Int).toNat]?).bind fun x55 =>
 let u56:(List au.D):=y1.2.1.set (a1.2.2.1:Int).toNat (y54,x55.2)
 some ((u50,u56,y1.2.2),a2.2.2.2.2.1,()))
 else (
 some ((u50,y1.2),a2.2.2.2.2.1,())))
 else (
 some ((u50,y1.2),a2.2.2.2.2.1,())))))
 else (
(y1.1[(y26:Int).toNat]?).bind fun x57 =>
(aZ x57.2.2.2.2.2.2.2.2.2.2.1 a2.2.2.2.2.1).bind fun y58 =>
(y1.1[(y26:Int).toNat]?).bind fun x59 =>
 let u60:(List ah.D):=y1.1.set (y26:Int).toNat (x59.1,x59.2.1,x59.2.2.1,x59.2.2.2.1,x59.2.2.2.2.1,x59.2.2.2.2.2.1,x59.2.2.2.2.2.2.1,x59.2.2.2.2.2.2.2.1,x59.2.2.2.2.2.2.2.2.1,x59.2.2.2.2.2.2.2.2.2.1,y58,x59.2.2.2.2.2.2.2.2.2.2.2)
(u60[(y26:Int).toNat]?).bind fun x61 =>
 bif x61.2.2.2.2.2.2.2.2.2.2.2.1 then (
(u60[(y26:Int).toNat]?).bind fun x62 =>
 let u63:(List ah.D):=u60.set (y26:Int).toNat (x62.1,x62.2.1,x62.2.2.1,x62.2.2.2.1,x62.2.2.2.2.1,x62.2.2.2.2.2.1,x62.2.2.2.2.2.2.1,x62.2.2.2.2.2.2.2.1,x62.2.2.2.2.2.2.2.2.1,x62.2.2.2.2.2.2.2.2.2.1,x62.2.2.2.2.2.2.2.2.2.2.1,true,x62.2.2.2.2.2.2.2.2.2.2.2.2)
(aG a1 1).bind fun y64 =>
 bif y64 then (
(aQ (u63,y1.2) a1.2.2.1).bind fun y65 =>
 bif y65 then (
 idx y1.2.1 a1.2.2.1 fun _ =>
(y1.2.1[(a1.2.2.1:Int).toNat]?).bind fun x66 =>
(aZ x66.1 a2.2.2.2.2.1).bind fun y67 =>
 idx y1.2.1 a1.2.2.1 fun _ =>
(y1.2.1[(a1.2.2.1:Int).toNat]?).bind fun x68 =>
 let u69:(List au.D):=y1.2.1.set (a1.2.2.1:Int).toNat (y67,x68.2)
 some ((u63,u69,y1.2.2),a2.2.2.2.2.1,()))
 else (
 some ((u63,y1.2),a2.2.2.2.2.1,())))
 else (
 some ((u63,y1.2),a2.2.2.2.2.1,())))
 else (
(aG a1 4).bind fun y70 =>
 bif y70 then (
(u60[(y26:Int).toNat]?).bind fun x71 =>
 let u72:(List ah.D):=u60.set (y26:Int).toNat (x71.1,x71.2.1,x71.2.2.1,x71.2.2.2.1,x71.2.2.2.2.1,x71.2.2.2.2.2.1,x71.2.2.2.2.2.2.1,x71.2.2.2.2.2.2.2.1,x71.2.2.2.2.2.2.2.2.1,x71.2.2.2.2.2.2.2.2.2.1,x71.2.2.2.2.2.2.2.2.2.2.1,decide (a2.2.2.2.2.1≥1),x71.2.2.2.2.2.2.2.2.2.2.2.2)
(aG a1 1).bind fun y73 =>
 bif y73 then (
(aQ (u72,y1.2) a1.2.2.1).bind fun y74 =>
 bif y74 then (
 idx y1.2.1 a1.2.2.1 fun _ =>
(y1.2.1[(a1.2.2.1:Int).toNat]?).bind fun x75 =>
(aZ x75.1 a2.2.2.2.2.1).bind fun y76 =>
 idx y1.2.1 a1.2.2.1 fun _ =>
(y1.2.1[(a1.2.2.1:Int).toNat]?).bind fun x77 =>
 let u78:(List au.D):=y1.2.1.set (a1.2.2.1:Int).toNat (y76,x77.2)
 some ((u72,u78,y1.2.2),a2.2.2.2.2.1,()))
 else (
 some ((u72,y1.2),a2.2.2.2.2.1,())))
 else (
 some ((u72,y1.2),a2.2.2.2.2.1,())))
 else (
(u60[(y26:Int).toNat]?).bind fun x79 =>
 let u80:(List ah.D):=u60.set (y26:Int).toNat (x79.1,x79.2.1,x79.2.2.1,x79.2.2.2.1,x79.2.2.2.2.1,x79.2.2.2.2.2.1,x79.2.2.2.2.2.2.1,x79.2.2.2.2.2.2.2.1,x79.2.2.2.2.2.2.2.2.1,x79.2.2.2.2.2.2.2.2.2.1,x79.2.2.2.2.2.2.2.2.2.2.1,false,x79.2.2.2.2.2.2.2.2.2.2.2.2)
(aG a1 1).bind fun y81 =>
 bif y81 then (
(aQ (u80,y1.2) a1.2.2.1).bind fun y82 =>
 bif y82 then (
 idx y1.2.1 a1.2.2.1 fun _ =>
(y1.2.1[(a1.2.2.1:Int).toNat]?).bind fun x83 =>
(aZ x83.1 a2.2.2.2.2.1).bind fun y84 =>
 idx y1.2.1 a1.2.2.1 fun _ =>
(y1.2.1[(a1.2.2.1:Int).toNat]?).bind fun x85 =>
 let u86:(List au.D):=y1.2.1.set (a1.2.2.1:Int).toNat (y84,x85.2)
 some ((u80,u86,y1.2.2),a2.2.2.2.2.1,()))
 else (
 some ((u80,y1.2),a2.2.2.2.2.1,())))
 else (
 some ((u80,y1.2),a2.2.2.2.2.1,()))))))))
 else (
 bif (a2.2.2.1 == 0) then (
 idx y1.2.1 a2.2.2.2.1 fun _ =>
(y1.2.1[(a2.2.2.2.1:Int).toNat]?).bind fun x87 =>
(gi x87.1 a2.2.2.2.2.1).bind fun y88 =>
 idx y1.2.1 a2.2.2.2.1 fun _ =>
(y1.2.1[(a2.2.2.2.1:Int).toNat]?).bind fun x89 =>
 let u90:(List au.D):=y1.2.1.set (a2.2.2.2.1:Int).toNat (y88,x89.2)
(aG a1 1).bind fun y91 =>
 bif y91 then (
(aQ (y1.1,u90,y1.2.2) a1.2.2.1).bind fun y92 =>
 bif y92 then (
 idx u90 a1.2.2.1 fun _ =>
(u90[(a1.2.2.1:Int).toNat]?).bind fun x93 =>
(aZ x93.1 a2.2.2.2.2.1).bind fun y94 =>
 idx u90 a1.2.2.1 fun _ =>
(u90[(a1.2.2.1:Int).toNat]?).bind fun x95 =>
 let u96:(List au.D):=u90.set (a1.2.2.1:Int).toNat (y94,x95.2)
 some ((y1.1,u96,y1.2.2),a2.2.2.2.2.1,()))
 else (
 some ((y1.1,u90,y1.2.2),a2.2.2.2.2.1,())))
 else (
 some ((y1.1,u90,y1.2.2),a2.2.2.2.2.1,())))
 else (
(fx y1 a2.2.2.1).bind fun y97 =>
 idx y1.1 y97 fun _ =>
 bif y5 then (
(y1.1[(y97:Int).toNat]?).bind fun x98 =>
(aZ x98.2.2.2.2.2.2.2.2.2.1 a2.2.2.2.2.1).bind fun y99 =>
(y1.1[(y97:Int).toNat]?).bind fun x100 =>
 let u101:(List ah.D):=y1.1.set (y97:Int).toNat (x100.1,x100.2.1,x100.2.2.1,x100.2.2.2.1,x100.2.2.2.2.1,x100.2.2.2.2.2.1,x100.2.2.2.2.2.2.1,x100.2.2.2.2.2.2.2.1,x100.2.2.2.2.2.2.2.2.1,y99,x100.2.2.2.2.2.2.2.2.2.2)
(u101[(y97:Int).toNat]?).bind fun x102 =>
 bif x102.2.2.2.2.2.2.2.2.2.2.2.1 then (
(u101[(y97:Int).toNat]?).bind fun x103 =>
 let u104:(List ah.D):=u101.set (y97:Int).toNat (x103.1,x103.2.1,x103.2.2.1,x103.2.2.2.1,x103.2.2.2.2.1,x103.2.2.2.2.2.1,x103.2.2.2.2.2.2.1,x103.2.2.2.2.2.2.2.1,x103.2.2.2.2.2.2.2.2.1,x103.2.2.2.2.2.2.2.2.2.1,x103.2.2.2.2.2.2.2.2.2.2.1,true,x103.2.2.2.2.2.2.2.2.2.2.2.2)
(aG a1 1).bind fun y105 =>
 bif y105 then (
(aQ (u104,y1.2) a1.2.2.1).bind fun y106 =>
 bif y106 then (
 idx y1.2.1 a1.2.2.1 fun _ =>
(y1.2.1[(a1.2.2.1:Int).toNat]?).bind fun x107 =>
(aZ x107.1 a2.2.2.2.2.1).bind fun y108 =>
 idx y1.2.1 a1.2.2.1 fun _ =>
(y1.2.1[(a1.2.2.1:Int).toNat]?).bind fun x109 =>
 let u110:(List au.D):=y1.2.1.set (a1.2.2.1:Int).toNat (y108,x109.2)
 some ((u104,u110,y1.2.2),a2.2.2.2.2.1,()))
 else (
 some ((u104,y1.2),a2.2.2.2.2.1,())))
 else (
 some ((u104,y1.2),a2.2.2.2.2.1,())))
 else (
(aG a1 4).bind fun y111 =>
 bif y111 then (
(u101[(y97:Int).toNat]?).bind fun x112 =>
 let u113:(List ah.D):=u101.set (y97:Int).toNat (x112.1,x112.2.1,x112.2.2.1,x112.2.2.2.1,x112.2.2.2.2.1,x112.2.2.2.2.2.1,x112.2.2.2.2.2.2.1,x112.2.2.2.2.2.2.2.1,x112.2.2.2.2.2.2.2.2.1,x112.2.2.2.2.2.2.2.2.2.1,x112.2.2.2.2.2.2.2.2.2.2.1,decide (a2.2.2.2.2.1≥1),x112.2.2.2.2.2.2.2.2.2.2.2.2)
(aG a1 1).bind fun y114 =>
 bif y114 then (
(aQ (u113,y1.2) a1.2.2.1).bind fun y115 =>
 bif y115 then (
 idx y1.2.1 a1.2.2.1 fun _ =>
(y1.2.1[(a1.2.2.1:Int).toNat]?).bind fun x116 =>
(aZ x116.1 a2.2.2.2.2.1).bind fun y117 =>
 idx y1.2.1 a1.2.2.1 fun _ =>
(y1.2.1[(a1.2.2.1:Int).toNat]?).bind fun x118 =>
 let u119:(List au.D):=y1.2.1.set (a1.2.2.1:Int).toNat (y117,x118.2)
 some ((u113,u119,y1.2.2),a2.2.2.2.2.1,()))
 else (
 some ((u113,y1.2),a2.2.2.2.2.1,())))
 else (
 some ((u113,y1.2),a2.2.2.2.2.1,())))
 else (
(u101[(y97:Int).toNat]?).bind fun x120 =>
 let u121:(List ah.D):=u101.set (y97:Int).toNat (x120.1,x120.2.1,x120.2.2.1,x120.2.2.2.1,x120.2.2.2.2.1,x120.2.2.2.2.2.1,x120.2.2.2.2.2.2.1,x120.2.2.2.2.2.2.2.1,x120.2.2.2.2.2.2.2.2.1,x120.2.2.2.2.2.2.2.2.2.1,x120.2.2.2.2.2.2.2.2.2.2.1,false,x120.2.2.2.2.2.2.2.2.2.2.2.2)
(aG a1 1).bind fun y122 =>
 bif y122 then (
(aQ (u121,y1.2) a1.2.2.1).bind fun y123 =>
 bif y123 then (
 idx y1.2.1 a1.2.2.1 fun _ =>
(y1.2.1[(a1.2.2.1:Int).toNat]?).bind fun x124 =>
(aZ x124.1 a2.2.2.2.2.1).bind fun y125 =>
 idx y1.2.1 a1.2.2.1 fun _ =>
(y1.2.1[(a1.2.2.1:Int).toNat]?).bind fun x126 =>
 let u127:(List au.D):=y1.2.1.set (a1.2.2.1:Int).toNat (y125,x126.2)
 some ((u121,u127,y1.2.2),a2.2.2.2.2.1,()))
 else (
 some ((u121,y1.2),a2.2.2.2.2.1,())))
 else (
 some ((u121,y1.2),a2.2.2.2.2.1,())))))
 else (
(y1.1[(y97:Int).toNat]?).bind fun x128 =>
(aZ x128.2.2.2.2.2.2.2.2.2.2.1 a2.2.2.2.2.1).bind fun y129 =>
(y1.1[(y97:Int).toNat]?).bind fun x130 =>
 let u131:(List ah.D):=y1.1.set (y97:Int).toNat (x130.1,x130.2.1,x130.2.2.1,x130.2.2.2.1,x130.2.2.2.2.1,x130.2.2.2.2.2.1,x130.2.2.2.2.2.2.1,x130.2.2.2.2.2.2.2.1,x130.2.2.2.2.2.2.2.2.1,x130.2.2.2.2.2.2.2.2.2.1,y129,x130.2.2.2.2.2.2.2.2.2.2.2)
(u131[(y97:Int).toNat]?).bind fun x132 =>
 bif x132.2.2.2.2.2.2.2.2.2.2.2.1 then (
(u131[(y97:Int).toNat]?).bind fun x133 =>
 let u134:(List ah.D):=u131.set (y97:Int).toNat (x133.1,x133.2.1,x133.2.2.1,x133.2.2.2.1,x133.2.2.2.2.1,x133.2.2.2.2.2.1,x133.2.2.2.2.2.2.1,x133.2.2.2.2.2.2.2.1,x133.2.2.2.2.2.2.2.2.1,x133.2.2.2.2.2.2.2.2.2.1,x133.2.2.2.2.2.2.2.2.2.2.1,true,x133.2.2.2.2.2.2.2.2.2.2.2.2)
(aG a1 1).bind fun y135 =>
 bif y135 then (
(aQ (u134,y1.2) a1.2.2.1).bind fun y136 =>
 bif y136 then (
 idx y1.2.1 a1.2.2.1 fun _ =>
(y1.2.1[(a1.2.2.1:Int).toNat]?).bind fun x137 =>
(aZ x137.1 a2.2.2.2.2.1).bind fun y138 =>
 idx y1.2.1 a1.2.2.1 fun _ =>
(y1.2.1[(a1.2.2.1:Int).toNat]?).bind fun x139 =>
 let u140:(List au.D):=y1.2.1.set (a1.2.2.1:Int).toNat (y138,x139.2)
 some ((u134,u140,y1.2.2),a2.2.2.2.2.1,()))
 else (
 some ((u134,y1.2),a2.2.2.2.2.1,())))
 else (
 some ((u134,y1.2),a2.2.2.2.2.1,())))
 else (
(aG a1 4).bind fun y141 =>
 bif y141 then (
(u131[(y97:Int).toNat]?).bind fun x142 =>
 let u143:(List ah.D):=u131.set (y97:Int).toNat (x142.1,x142.2.1,x142.2.2.1,x142.2.2.2.1,x142.2.2.2.2.1,x142.2.2.2.2.2.1,x142.2.2.2.2.2.2.1,x142.2.2.2.2.2.2.2.1,x142.2.2.2.2.2.2.2.2.1,x142.2.2.2.2.2.2.2.2.2.1,x142.2.2.2.2.2.2.2.2.2.2.1,decide (a2.2.2.2.2.1≥1),x142.2.2.2.2.2.2.2.2.2.2.2.2)
(aG a1 1).bind fun y144 =>
 bif y144 then (
(aQ (u143,y1.2) a1.2.2.1).bind fun y145 =>
 bif y145 then (
 idx y1.2.1 a1.2.2.1 fun _ =>
(y1.2.1[(a1.2.2.1:Int).toNat]?).bind fun x146 =>
(aZ x146.1 a2.2.2.2.2.1).bind fun y147 =>
 idx y1.2.1 a1.2.2.1 fun _ =>
(y1.2.1[(a1.2.2.1:Int).toNat]?).bind fun x148 =>
 let u149:(List au.D):=y1.2.1.set (a1.2.2.1:Int).toNat (y147,x148.2)
 some ((u143,u149,y1.2.2),a2.2.2.2.2.1,()))
 else (
 some ((u143,y1.2),a2.2.2.2.2.1,())))
 else (
 some ((u143,y1.2),a2.2.2.2.2.1,())))
 else (
(u131[(y97:Int).toNat]?).bind fun x150 =>
 let u151:(List ah.D):=u131.set (y97:Int).toNat (x150.1,x150.2.1,x150.2.2.1,x150.2.2.2.1,x150.2.2.2.2.1,x150.2.2.2.2.2.1,x150.2.2.2.2.2.2.1,x150.2.2.2.2.2.2.2.1,x150.2.2.2.2.2.2.2.2.1,x150.2.2.2.2.2.2.2.2.2.1,x150.2.2.2.2.2.2.2.2.2.2.1,false,x150.2.2.2.2.2.2.2.2.2.2.2.2)
(aG a1 1).bind fun y152 =>
 bif y152 then (
(aQ (u151,y1.2) a1.2.2.1).bind fun y153 =>
 bif y153 then (
 idx y1.2.1 a1.2.2.1 fun _ =>
(y1.2.1[(a1.2.2.1:Int).toNat]?).bind fun x154 =>
(aZ x154.1 a2.2.2.2.2.1).bind fun y155 =>
 idx y1.2.1 a1.2.2.1 fun _ =>
(y1.2.1[(a1.2.2.1:Int).toNat]?).bind fun x156 =>
 let u157:(List au.D):=y1.2.1.set (a1.2.2.1:Int).toNat (y155,x156.2)
 some ((u151,u157,y1.2.2),a2.2.2.2.2.1,()))
 else (
 some ((u151,y1.2),a2.2.2.2.2.1,())))
 else (
 some ((u151,y1.2),a2.2.2.2.2.1,())))))))))))
def Aw:Ct:=.pure false true (.pair ae (.pair ah (.pair ac .unit))) (.pair ae (.pair (.int .i64) .unit)) (fun x=>lw x.1 x.2.1 x.2.2.1)
theorem zf:KC 351 Aw:=pq (Ec ol (Ec dw (Ec bE (Ec bP (Ec gc (Ec qQ (Ec qO (Ec wX (Ec qc En))))))))) .none Tryz.func351
def sh (a0:ah.D) (a1:Int) (a2:Int):Option ah.D :=
 some (a0.1,a0.2.1,a0.2.1,a1,a2,a0.2.2.2.2.2.1,a0.2.2.2.2.2.2.1,a0.2.2.2.2.2.2.2.1,0,0,0,false,false,())
def Ox:Ct:=.pure true false (.pair ah (.pair (.int .i64) (.pair (.int .i64) .unit))) ah (fun x=>sh x.1 x.2.1 x.2.2.1)
theorem A6:KC 243 Ox:=pq En .none Tryz.func243
def wh (a0:ae.D) (a1:ac.D):Option (ae.D×(Bool×Unit)) :=
(cJ a0).bind fun y1 =>
(fj y1 a1.2.2.1).bind fun y2 =>
(((dg y1).bind fun y3 =>
 bif (!y3) then (
 some true)
 else (
(bM a1).bind fun y4 =>
 bif (!y4) then (
 some true)
 else (
 bif (a1.1 != 2) then (
 some true)
 else (
 bif decide (y2 < 0) then (
 some true)
 else (
 idx y1.1 y2 fun _ =>
(y1.1[(y2:Int).toNat]?).bind fun x5 =>
 some (x5.2.2.2.1 == a1.2.2.2.2.2.1)))))):Option Bool).bind fun o6 =>
 bif o6 then (
 some (y1,false,()))
 else (
 idx y1.1 y2 fun _ =>
(y1.1[(y2:Int).toNat]?).bind fun x7 =>
(sh x7 a1.2.2.2.2.2.1 y1.2.2.2.1).bind fun y8 =>
((bif (a1.2.2.2.2.2.1 == 2) then (
 some (y8.1,y8.2.1,y8.2.2.1,y8.2.2.2.1,y8.2.2.2.2.1,y8.2.2.2.2.2.1,y8.2.2.2.2.2.2.1,y8.2.2.2.2.2.2.2.1,a1.2.2.2.2.1,y8.2.2.2.2.2.2.2.2.2.1,y8.2.2.2.2.2.2.2.2.2.2.1,y8.2.2.2.2.2.2.2.2.2.2.2.1,a1.2.2.2.2.2.2))
 else (
 some y8)):Option ah.D).bind fun o9 =>
 idx y1.1 y2 fun _ =>
(y1.1[(y2:Int).toNat]?).bind fun x10 =>
 let u11:(List ah.D):=y1.1.set (y2:Int).toNat o9
 some ((u11,y1.2),true,()))
def Oy:Hints:=(n0 (n0 (n0 (nd (nd (cu ⟨[.tmp 41 .bool],[none],none,[]⟩) .none) (n0 (nd (n0 (cu ⟨[.box 7 0 ah],[none],none,[(7,0)]⟩)) .none))))))
def BU:Ct:=.pure false true (.pair ae (.pair ac .unit)) (.pair ae (.pair .bool .unit)) (fun x=>wh x.1 x.2.1)
theorem Ax:KC 352 BU:=pq (Ec dw (Ec bE (Ec bP (Ec A6 (Ec gR En))))) Oy Tryz.func352
def uX (a0:ae.D) (a1:ac.D):Option (ae.D×(Bool×Unit)) :=
(cJ a0).bind fun y1 =>
(((dg y1).bind fun y2 =>
 bif (!y2) then (
 some true)
 else (
(bM a1).bind fun y3 =>
 bif (!y3) then (
 some true)
 else (
 bif (a1.1 == 1) then (
 some true)
 else (
 bif (a1.1 == 2) then (
 some true)
 else (
(mE y1 a1).bind fun y4 =>
 some (!y4)))))):Option Bool).bind fun o5 =>
 bif o5 then (
 some (y1,false,()))
 else (
((bif (a1.1 == 3) then (
 idx y1.2.1 a1.2.2.2.1 fun _ =>
(y1.2.1[(a1.2.2.2.1:Int).toNat]?).bind fun x6 =>
(aZ x6.1 a1.2.2.2.2.1).bind fun y7 =>
 idx y1.2.1 a1.2.2.2.1 fun _ =>
(y1.2.1[(a1.2.2.2.1:Int).toNat]?).bind fun x8 =>
 let u9:(List au.D):=y1.2.1.set (a1.2.2.2.1:Int).toNat (y7,x8.2)
 some (y1.1,u9,y1.2.2))
 else (
((bif (a1.1 == 4) then (
 idx y1.2.1 a1.2.2.2.1 fun _ =>
(y1.2.1[(a1.2.2.2.1:Int).toNat]?).bind fun x10 =>
(gi x10.1 a1.2.2.2.2.1).bind fun y11 =>
 idx y1.2.1 a1.2.2.2.1 fun _ =>
(y1.2.1[(a1.2.2.2.1:Int).toNat]?).bind fun x12 =>
 let u13:(List au.D):=y1.2.1.set (a1.2.2.2.1:Int).toNat (y11,x12.2)
 some (y1.1,u13,y1.2.2))
 else (
((bif (a1.1 == 5) then (
(fx y1 a1.2.2.1).bind fun y14 =>
 idx y1.1 y14 fun _ =>
(y1.1[(y14:Int).toNat]?).bind fun x15 =>
(aZ x15.2.2.2.2.2.2.2.2.1 a1.2.2.2.2.1).bind fun y16 =>
(y1.1[(y14:Int).toNat]?).bind fun x17 =>
 let u18:(List ah.D):=y1.1.set (y14:Int).toNat (x17.1,x17.2.1,x17.2.2.1,x17.2.2.2.1,x17.2.2.2.2.1,x17.2.2.2.2.2.1,x17.2.2.2.2.2.2.1,x17.2.2.2.2.2.2.2.1,y16,x17.2.2.2.2.2.2.2.2.2)
 some (u18,y1.2))
 else (
((bif (a1.1 == 6) then (
(fx y1 a1.2.2.1).bind fun y19 =>
 idx y1.1 y19 fun _ =>
(y1.1[(y19:Int).toNat]?).bind fun x20 =>
(aZ x20.2.2.2.2.2.2.2.2.2.1 a1.2.2.2.2.1).bind fun y21 =>
(y1.1[(y19:Int).toNat]?).bind fun x22 =>
 let u23:(List ah.D):=y1.1.set (y19:Int).toNat (x22.1,x22.2.1,x22.2.2.1,x22.2.2.2.1,x22.2.2.2.2.1,x22.2.2.2.2.2.1,x22.2.2.2.2.2.2.1,x22.2.2.2.2.2.2.2.1,x22.2.2.2.2.2.2.2.2.1,y21,x22.2.2.2.2.2.2.2.2.2.2)
 some (u23,y1.2))
 else (
 some y1)):Option ae.D).bind fun o24 =>
 some o24)):Option ae.D).bind fun o25 =>
 some o25)):Option ae.D).bind fun o26 =>
 some o26)):Option ae.D).bind fun o27 =>
 some (o27,true,()))
def P6:Hints:=(n0 (n0 (nd (nd (cu ⟨[.tmp 33 .bool],[none],none,[]⟩) .none) (nd (n0 (nd (n0 (.node (some ⟨[.boxO 2 0 1 ae],[none],none,[(9,1),(2,0),(9,0)]⟩) none .none (n0 (.node (some ⟨[.boxO 2 0 1 ae],[none],none,[(9,1),(2,0),(9,0)]⟩) none .none (n0 (.node (some ⟨[.boxO 2 0 1 ae],[none],none,[(9,0),(2,0),(9,1)]⟩) none .none (n0 (cu ⟨[.boxO 2 0 1 ae],[none],none,[(9,0),(2,0),(9,1)]⟩)))))))) .none)) .none))))
def Dw:Ct:=.pure false true (.pair ae (.pair ac .unit)) (.pair ae (.pair .bool .unit)) (fun x=>uX x.1 x.2.1)
theorem BV:KC 354 Dw:=pq (Ec dw (Ec bE (Ec bP (Ec qQ (Ec qO (Ec wX (Ec qc En))))))) P6 Tryz.func354
def dk (a0:ae.D) (a1:ae.D) (a2:ac.D):Option ((ae.D×(ai.D×Unit))×Unit) :=
((bif (a2.1 == 1) then (
(fk a1 a2).bind fun y1 =>
(lw a0 y1 a2).bind fun y2 =>
 bif decide (y2.2.1≥1) then (
 some (.inr ((y2.1,1,a2,y2.2.1,0,(0,0,0,0,0,0,0,0,0,0,0,false,false,()),()))))
 else (
 some (.inl (([],[],0,0,()),(0,(0,0,0,0,0,0,false,()),0,0,(0,0,0,0,0,0,0,0,0,0,0,false,false,()),()),y2.1))))
 else (
((bif (a2.1 == 2) then (
(wh a0 a2).bind fun y3 =>
 bif y3.2.1 then (
(fj a1 a2.2.2.1).bind fun y4 =>
 idx a1.1 y4 fun x5 =>
 some (.inr ((y3.1,3,a2,0,0,x5,()))))
 else (
 some (.inl (([],[],0,0,()),0,(0,0,0,0,0,0,false,()),0,0,(0,0,0,0,0,0,0,0,0,0,0,false,false,()),()))))
 else (
(uX a0 a2).bind fun y6 =>
 bif y6.2.1 then (
 some (.inr ((y6.1,2,a2,0,0,(0,0,0,0,0,0,0,0,0,0,0,false,false,()),()))))
 else (
 some (.inl (([],[],0,0,()),0,(0,0,0,0,0,0,false,()),0,0,(0,0,0,0,0,0,0,0,0,0,0,false,false,()),()))))):Option ((ae.D×(Int×(ac.D×(Int×(Int×(ah.D×Unit))))))⊕(ae.D×(Int×(ac.D×(Int×(Int×(ah.D×Unit)))))))).bind fun o7 =>
 match o7 with
| .inl s8=>(
 some (.inl (s8.1,s8.2,a0)))
| .inr o9=>(
 some (.inr o9)))):Option ((ae.D×(ai.D×((List ah.D)×((List au.D)×(Int×(Int×Unit))))))⊕(ae.D×(Int×(ac.D×(Int×(Int×(ah.D×Unit)))))))).bind fun o10 =>
 match o10 with
| .inl s11=>(
 some ((s11.2.2,(4,a2,0,0,(0,0,0,0,0,0,0,0,0,0,0,false,false,()),()),()),()))
| .inr o12=>(
 some ((o12.1,o12.2,()),()))
def Fg:Hints:=(n0 (nd (n0 (nd (n0 (.node (some ⟨[.boxO 6 0 1 ae,.box 7 0 ai,.boxO 3 0 1 ae],[none],some [.boxO 6 0 1 ae,.box 7 0 ai],[(6,0),(7,0),(3,0),(0,0),(0,1)]⟩) none .none (n0 (cu ⟨[.boxO 6 0 1 ae,.box 7 0 ai],[none],some [.boxO 6 0 1 ae,.box 7 0 ai],[(6,0),(7,0)]⟩)))) .none)) .none))
def wi:Ct:=.mut [.tk,.rd,.rd] false true (.pair ae (.pair ae (.pair ac .unit))) (.pair ae (.pair ai .unit)) (fun x=>dk x.1 x.2.1 x.2.2.1)
theorem uY:KC 308 wi:=mq (Ec rU (Ec zf (Ec Ax (Ec gR (Ec BV En))))) Fg Tryz.func308
def mF (a0:ae.D) (y4:((List ac.D)×Unit)) (y6:((List ac.D)×Unit)):((List ai.D)×(Int×((List ah.D)×((List au.D)×(Int×(Int×Unit))))))→Option (((List ai.D)×(Int×((List ah.D)×((List au.D)×(Int×(Int×Unit))))))⊕((List ai.D)×(Int×((List ah.D)×((List au.D)×(Int×(Int×Unit))))))):=fun s8 =>
 bif decide (s8.2.1 < ((y4.1++y6.1).length:Int)) then (
 idx (y4.1++y6.1) s8.2.1 fun _ =>
((y4.1++y6.1)[(s8.2.1:Int).toNat]?).bind fun x9 =>
(dk s8.2.2 a0 x9).bind fun y10 =>
 if (s8.1.length + [y10.1.2.1].length) * (24 * 23)≤aC then (
 some (.inl ((s8.1++[y10.1.2.1]),IntKind.wrap .i64 (s8.2.1 + 1),y10.1.1))) else none)
 else (
 some (.inr s8))
def tH (a0:ae.D) (a1:(List ac.D)):Option (ae.D×((List ai.D)×Unit)) :=
(cJ a0).bind fun y1 =>
(dg a0).bind fun y2 =>
 bif (!y2) then (
 some (y1,[],()))
 else (
(bd a1).bind fun y3 =>
(be y3 (fun q=>ub q.1)).bind fun y4 =>
(bd a1).bind fun y5 =>
(be y5 (fun q=>A5 (fun q=>ub q.1) q.1)).bind fun y6 =>
 if (y4.1.length + y6.1.length) * (24 * 7)≤aC then (
(al (mF a0 y4 y6) ([],0,y1)).bind fun o11 =>
 some (o11.2.2,o11.1,())) else none)
def Mf:Hints:=(n0 (n0 (n0 (n0 (n0 (n0 (n0 (nd (n0 (nd (.node none (some ⟨[.tmpO 7 0 (.slice ai),.tmp 35 (.int .i64),.boxO 6 0 1 ae],[some 0],none,[]⟩) .none .none) .none)) .none))))))))
def Ay:Ct:=.pure false true (.pair ae (.pair (.slice ac) .unit)) (.pair ae (.pair (.slice ai) .unit)) (fun x=>tH x.1 x.2.1)
theorem zg:KC 213 Ay:=pq (Ec dw (Ec bE (Ec de (Ec Fe (Ec dY (Ec Ff (Ec uY En))))))) Mf Tryz.func213
def gF (a0:ah.D):Option Int :=
(aZ a0.2.2.2.2.2.2.1 a0.2.2.2.2.2.2.2.2.1).bind fun y1 =>
(gi y1 a0.2.2.2.2.2.2.2.2.2.1).bind fun y2 =>
 some y2
def Kd:Ct:=.pure true false (.pair ah .unit) (.int .i64) (fun x=>gF x.1)
theorem Hh:KC 332 Kd:=pq (Ec qQ (Ec qO En)) .none Tryz.func332
def lx (a0:ah.D):Option Bool :=
 bif (a0.2.2.2.1 == 2) then (
(gF a0).bind fun y1 =>
 bif decide (y1≤0) then (
 some true)
 else (
(aG a0 8).bind fun y2 =>
 bif (!y2) then (
 bif a0.2.2.2.2.2.2.2.2.2.2.2.1 then (
 some true)
 else (
(gF a0).bind fun y3 =>
 some (decide (a0.2.2.2.2.2.2.2.2.2.2.1≥y3))))
 else (
 some false)))
 else (
 some false)
def Mg:Ct:=.pure true false (.pair ah .unit) .bool (fun x=>lx x.1)
theorem Ke:KC 242 Mg:=pq (Ec ol (Ec Hh En)) .none Tryz.func242
def jO (a0:ae.D):((List ai.D)×(Int×((List ah.D)×((List au.D)×(Int×(Int×Unit))))))→Option (((List ai.D)×(Int×((List ah.D)×((List au.D)×(Int×(Int×Unit))))))⊕((List ai.D)×(Int×((List ah.D)×((List au.D)×(Int×(Int×Unit))))))):=fun s4 =>
 bif decide (s4.2.1 < (a0.2.1.length:Int)) then (
 idx a0.2.1 s4.2.1 fun x5 =>
((bif (!x5.2.2.1) then (
 bif decide (x5.1≤0) then (
 some true)
 else (
 some (decide (x5.2.1≥10))))
 else (
 some false)):Option Bool).bind fun o6 =>
 bif o6 then (
 idx s4.2.2.2.1 s4.2.1 fun _ =>
(s4.2.2.2.1[(s4.2.1:Int).toNat]?).bind fun x7 =>
 let u8:(List au.D):=s4.2.2.2.1.set (s4.2.1:Int).toNat (x7.1,x7.2.1,true,())
 if (s4.1.length + ([(5,(0,0,0,0,0,0,false,()),0,s4.2.1,(0,0,0,0,0,0,0,0,0,0,0,false,false,()),())]:List ai.D).length) * (24 * 23)≤aC then (
 some (.inl ((s4.1++([(5,(0,0,0,0,0,0,false,()),0,s4.2.1,(0,0,0,0,0,0,0,0,0,0,0,false,false,()),())]:List ai.D)),IntKind.wrap .i64 (s4.2.1 + 1),s4.2.2.1,u8,s4.2.2.2.2))) else none)
 else (
 some (.inl (s4.1,IntKind.wrap .i64 (s4.2.1 + 1),s4.2.2))))
 else (
 some (.inr s4))
def jP (a0:ae.D):((List ai.D)×(Int×((List ah.D)×((List au.D)×(Int×(Int×Unit))))))→Option (((List ai.D)×(Int×((List ah.D)×((List au.D)×(Int×(Int×Unit))))))⊕((List ai.D)×(Int×((List ah.D)×((List au.D)×(Int×(Int×Unit))))))):=fun s11 =>
 bif decide (s11.2.1 < (a0.1.length:Int)) then (
 idx a0.1 s11.2.1 fun x12 =>
(lx x12).bind fun y13 =>
 bif y13 then (
(sh x12 3 a0.2.2.2.1).bind fun y14 =>
 idx s11.2.2.1 s11.2.1 fun _ =>
(s11.2.2.1[(s11.2.1:Int).toNat]?).bind fun x15 =>
 let u16:(List ah.D):=s11.2.2.1.set (s11.2.1:Int).toNat y14
 if (s11.1.length + ([(6,(0,0,0,0,0,0,false,()),0,0,x12,())]:List ai.D).length) * (24 * 23)≤aC then (
 some (.inl ((s11.1++([(6,(0,0,0,0,0,0,false,()),0,0,x12,())]:List ai.D)),IntKind.wrap .i64 (s11.2.1 + 1),u16,s11.2.2.2))) else none)
 else (
((bif (x12.2.2.2.1 == 2) then (
 some (decide ((if x12.2.2.2.2.2.2.2.2.2.1 < x12.2.2.2.2.2.2.2.2.1 then x12.2.2.2.2.2.2.2.2.2.1 else x12.2.2.2.2.2.2.2.2.1) > 0)))
 else (
 some false)):Option Bool).bind fun o17 =>
 bif o17 then (
 idx s11.2.2.1 s11.2.1 fun _ =>
(s11.2.2.1[(s11.2.1:Int).toNat]?).bind fun x18 =>
 let k19:Int:=IntKind.wrap .i64 (x18.2.2.2.2.2.2.2.2.1 - (if x12.2.2.2.2.2.2.2.2.2.1 < x12.2.2.2.2.2.2.2.2.1 then x12.2.2.2.2.2.2.2.2.2.1 else x12.2.2.2.2.2.2.2.2.1))
 idx s11.2.2.1 s11.2.1 fun _ =>
(s11.2.2.1[(s11.2.1:Int).toNat]?).bind fun x20 =>
 let u21:(List ah.D):=s11.2.2.1.set (s11.2.1:Int).toNat (x20.1,x20.2.1,x20.2.2.1,x20.2.2.2.1,x20.2.2.2.2.1,x20.2.2.2.2.2.1,x20.2.2.2.2.2.2.1,x20.2.2.2.2.2.2.2.1,k19,x20.2.2.2.2.2.2.2.2.2)
 idx u21 s11.2.1 fun _ =>
(u21[(s11.2.1:Int).toNat]?).bind fun x22 =>
 let k23:Int:=IntKind.wrap .i64 (x22.2.2.2.2.2.2.2.2.2.1 - (if x12.2.2.2.2.2.2.2.2.2.1 < x12.2.2.2.2.2.2.2.2.1 then x12.2.2.2.2.2.2.2.2.2.1 else x12.2.2.2.2.2.2.2.2.1))
 idx u21 s11.2.1 fun _ =>
(u21[(s11.2.1:Int).toNat]?).bind fun x24 =>
 let u25:(List ah.D):=u21.set (s11.2.1:Int).toNat (x24.1,x24.2.1,x24.2.2.1,x24.2.2.2.1,x24.2.2.2.2.1,x24.2.2.2.2.2.1,x24.2.2.2.2.2.2.1,x24.2.2.2.2.2.2.2.1,x24.2.2.2.2.2.2.2.2.1,k23,x24.2.2.2.2.2.2.2.2.2.2)
 if (s11.1.length + ([(7,(0,0,0,0,0,0,false,()),(if x12.2.2.2.2.2.2.2.2.2.1 < x12.2.2.2.2.2.2.2.2.1 then x12.2.2.2.2.2.2.2.2.2.1 else x12.2.2.2.2.2.2.2.2.1),0,x12,())]:List ai.D).length) * (24 * 23)≤aC then (
 some (.inl ((s11.1++([(7,(0,0,0,0,0,0,false,()),(if x12.2.2.2.2.2.2.2.2.2.1 < x12.2.2.2.2.2.2.2.2.1 then x12.2.2.2.2.2.2.2.2.2.1 else x12.2.2.2.2.2.2.2.2.1),0,x12,())]:List ai.D)),IntKind.wrap .i64 (s11.2.1 + 1),u25,s11.2.2.2))) else none)
 else (
 some (.inl (s11.1,IntKind.wrap .i64 (s11.2.1 + 1),s11.2.2)))))
 else (
 some (.inr s11))
def wj (a0:ae.D):Option (ae.D×((List ai.D)×Unit)) :=
(cJ a0).bind fun y1 =>
(dg a0).bind fun y2 =>
 bif (!y2) then (
 some (y1,[],()))
 else (
(al (jO a0) ([],0,y1)).bind fun o9 =>
(al (jP a0) (o9.1,0,o9.2.2)).bind fun o26 =>
 some (o26.2.2,o26.1,()))
def Oz:Hints:=(n0 (n0 (n0 (n0 (nd (n0 (nd (.node none (some ⟨[.tmpO 5 0 (.slice ai),.tmp 22 (.int .i64),.boxO 4 0 1 ae],[some 0],none,[]⟩) (n0 (n0 (nd (nd (n0 (nd (cu ⟨[.tmp 39 .bool],[none],none,[]⟩) .none)) .none) .none))) .none) .none)) (nd (n0 (nd (.node none (some ⟨[.tmpO 5 1 (.slice ai),.tmp 54 (.int .i64),.boxO 4 0 3 ae],[some 2],none,[]⟩) (n0 (n0 (nd (nd (n0 (n0 (nd (n0 (n0 (nd (cu ⟨[.tmp 80 .bool],[none],none,[]⟩) .none))) .none))) .none) .none))) .none) .none)) .none))))))
def BW:Ct:=.pure false true (.pair ae .unit) (.pair ae (.pair (.slice ai) .unit)) (fun x=>wj x.1)
theorem Az:KC 122 BW:=pq (Ec dw (Ec bE (Ec Ke (Ec A6 En)))) Oz Tryz.func122
def bF:((List ai.D)×(Int×(ae.D×((List ah.D)×((List au.D)×(Int×(Int×Unit)))))))→Option (((List ai.D)×(Int×(ae.D×((List ah.D)×((List au.D)×(Int×(Int×Unit)))))))⊕((List ai.D)×(Int×((List ah.D)×((List au.D)×(Int×(Int×Unit))))))):=fun s4 =>
(wj s4.2.2.2).bind fun y5 =>
 bif ((y5.2.1.length:Int) == 0) then (
 some (.inr (s4.1,s4.2.1,s4.2.2.2)))
 else (
 if (s4.1.length + y5.2.1.length) * (24 * 23)≤aC then (
 some (.inl ((s4.1++y5.2.1),IntKind.wrap .i64 (s4.2.1 + 1),s4.2.2.1,y5.1))) else none)
def ly (a0:ae.D):Option (ae.D×((List ai.D)×(Int×Unit))) :=
(cJ a0).bind fun y1 =>
(al (bF) ([],0,([],[],0,0,()),y1)).bind fun o6 =>
 some (o6.2.2,o6.1,o6.2.1,())
def Mh:Hints:=(n0 (n0 (n0 (n0 (nd (.node none (some ⟨[.tmpO 5 0 (.slice ai),.tmp 6 (.int .i64),.boxO 2 0 1 ae,.boxO 1 0 1 ae],[],some [.tmpO 3 0 (.slice ai),.tmp 4 (.int .i64),.boxO 2 0 1 ae],[]⟩) .none .none) .none)))))
def AA:Ct:=.pure false true (.pair ae .unit) (.pair ae (.pair (.slice ai) (.pair (.int .i64) .unit))) (fun x=>ly x.1)
theorem zh:KC 214 AA:=pq (Ec Az (Ec bE En)) Mh Tryz.func214
def z5 (a0:ai.D):Option Bool :=
 bif (a0.1 == 6) then (
 some true)
 else (
 bif (a0.1 == 3) then (
 bif (a0.2.2.2.2.1.2.2.2.1 == 2) then (
 some (a0.2.1.2.2.2.2.2.1 != 2))
 else (
 some false))
 else (
 some false))
def P7:Ct:=.pure true false (.pair ai .unit) .bool (fun x=>z5 x.1)
theorem OA:KC 314 P7:=pq En .none Tryz.func314
def wk (a0:ae.D) (a1:(List ai.D)):((List af.D)×Int)→Option (((List af.D)×Int)⊕((List af.D)×Int)):=fun s1 =>
 bif decide (s1.2 < (a1.length:Int)) then (
 idx a1 s1.2 fun x2 =>
(fk a0 x2.2.1).bind fun y3 =>
(((z5 x2).bind fun y4 =>
 bif y4 then (
(aG x2.2.2.2.2.1 16).bind fun y5 =>
 some y5)
 else (
 some false)):Option Bool).bind fun o6 =>
 bif o6 then (
 if (s1.1.length + ([(1,x2.2.2.2.2.1.2.2.1,0,x2.2.2.2.2)]:List af.D).length) * (24 * 16)≤aC then (
 some (.inl ((s1.1++([(1,x2.2.2.2.2.1.2.2.1,0,x2.2.2.2.2)]:List af.D)),IntKind.wrap .i64 (s1.2 + 1)))) else none)
 else (
((bif (x2.1 == 1) then (
 bif decide (x2.2.2.1≥1) then (
(aG y3 32).bind fun y7 =>
 some y7)
 else (
 some false))
 else (
 some false)):Option Bool).bind fun o8 =>
 bif o8 then (
 if (s1.1.length + ([(2,y3.2.2.1,x2.2.2.1,y3,())]:List af.D).length) * (24 * 16)≤aC then (
 some (.inl ((s1.1++([(2,y3.2.2.1,x2.2.2.1,y3,())]:List af.D)),IntKind.wrap .i64 (s1.2 + 1)))) else none)
 else (
 some (.inl (s1.1,IntKind.wrap .i64 (s1.2 + 1))))))
 else (
 some (.inr s1))
def uZ (a0:ae.D) (a1:(List ai.D)):Option (List af.D) :=
(al (wk a0 a1) ([],0)).bind fun o9 =>
 some o9.1
def P8:Hints:=(n0 (n0 (nd (n0 (nd (.node none (some ⟨[.tmpO 5 0 (.slice af),.tmp 12 (.int .i64)],[some 0],none,[]⟩) (n0 (n0 (nd (nd (n0 (n0 (nd (nd (cu ⟨[.tmp 20 .bool],[none],none,[]⟩) (n0 (nd (cu ⟨[.tmp 37 .bool],[none],none,[]⟩) .none))) .none))) .none) .none))) .none) .none)) .none)))
def Dx:Ct:=.pure true true (.pair ae (.pair (.slice ai) .unit)) (.slice af) (fun x=>uZ x.1 x.2.1)
theorem BX:KC 216 Dx:=pq (Ec ol (Ec rU (Ec OA En))) P8 Tryz.func216
def mG (a0:ae.D):((List Int)×Int)→Option (((List Int)×Int)⊕((List Int)×Int)):=fun s2 =>
 bif decide (s2.2 < (a0.2.1.length:Int)) then (
 if (a0.2.1.length:Int)=0 then none else (
 let k3:Int:=(IntKind.wrap .i64 (a0.2.2.1 + s2.2)).tmod (a0.2.1.length:Int)
 if (s2.1.length + [k3].length) * (24 * 1)≤aC then (
 some (.inl ((s2.1++[k3]),IntKind.wrap .i64 (s2.2 + 1)))) else none))
 else (
 some (.inr s2))
def gj (a0:ae.D):Option (List Int) :=
(aQ a0 a0.2.2.1).bind fun y1 =>
 bif (!y1) then (
 some [])
 else (
(al (mG a0) ([],0)).bind fun o4 =>
 some o4.1)
def Fh:Hints:=(n0 (n0 (n0 (nd (n0 (nd (.node none (some ⟨[.tmpO 3 0 (.slice (.int .i64)),.tmp 15 (.int .i64)],[some 0],none,[]⟩) .none .none) .none)) .none))))
def wm:Ct:=.pure true true (.pair ae .unit) (.slice (.int .i64)) (fun x=>gj x.1)
theorem lz:KC 95 wm:=pq (Ec gc En) Fh Tryz.func95
def bZ (a0:(List af.D)) (a1:((af.D×Unit)→Option Bool)):Int→Option (Int⊕(Int⊕Int)):=fun s1 =>
 bif decide (s1 < (a0.length:Int)) then (
 idx a0 s1 fun x2 =>
(a1 (x2,())).bind fun y3 =>
 bif y3 then (
 some (.inr (.inr s1)))
 else (
 some (.inl (IntKind.wrap .i64 (s1 + 1)))))
 else (
 some (.inr (.inl s1)))
def cF (a0:(List af.D)) (a1:((af.D×Unit)→Option Bool)):Option Int :=
(al (bZ a0 a1) 0).bind fun o4 =>
 match o4 with
| .inl s5=>(
 some (-1))
| .inr o6=>(
 some o6)
def nq:Hints:=(n0 (nd (n0 (nd (.node none (some ⟨[.tmp 8 (.int .i64)],[some 0],some [.tmp 4 (.int .i64)],[]⟩) .none .none) .none)) .none))
def nr:Ct:=.pure true false (.pair (.slice af) (.pair (.fn (.pair af .unit) .bool) .unit)) (.int .i64) (fun x=>cF x.1 x.2.1)
theorem mH:KC 356 nr:=pq En nq Tryz.func356
def br (a1:((af.D×Unit)→Option Bool)):((List af.D)×(Int×Int))→Option (((List af.D)×(Int×Int))⊕((List af.D)×(Int×Int))):=fun s3 =>
 bif decide (s3.2.2 < (s3.1.length:Int)) then (
 idx s3.1 s3.2.2 fun _ =>
(s3.1[(s3.2.2:Int).toNat]?).bind fun x4 =>
(a1 (x4,())).bind fun y5 =>
((bif (!y5) then (
 idx s3.1 s3.2.1 fun _ =>
(s3.1[(s3.2.1:Int).toNat]?).bind fun x6 =>
 let u7:(List af.D):=s3.1.set (s3.2.1:Int).toNat x4
 some (u7,IntKind.wrap .i64 (s3.2.1 + 1)))
 else (
 some (s3.1,s3.2.1))):Option ((List af.D)×Int)).bind fun o8 =>
 some (.inl (o8.1,o8.2,IntKind.wrap .i64 (s3.2.2 + 1))))
 else (
 some (.inr s3))
def bG (a0:(List af.D)) (a1:((af.D×Unit)→Option Bool)):Option ((List af.D)×Unit) :=
(cF a0 a1).bind fun y1 =>
 bif (y1 == (-1)) then (
 some (a0,()))
 else (
(al (br a1) (a0,y1,IntKind.wrap .i64 (y1 + 1))).bind fun o9 =>
 if 0≤o9.2.1 then (if o9.2.1≤(o9.1.length:Int) then (if (o9.1.length:Int)≤(o9.1.length:Int) then (
 if 0≤(0:Int) then (if (0:Int)≤o9.2.1 then (if o9.2.1≤((o9.1.take (o9.2.1.toNat)++List.replicate ((o9.1.length:Int).toNat - o9.2.1.toNat) (0,0,0,(0,0,0,0,0,0,0,0,0,0,0,false,false,()),())++o9.1.drop ((o9.1.length:Int).toNat)).length:Int) then (
 some ((((o9.1.take (o9.2.1.toNat)++List.replicate ((o9.1.length:Int).toNat - o9.2.1.toNat) (0,0,0,(0,0,0,0,0,0,0,0,0,0,0,false,false,()),())++o9.1.drop ((o9.1.length:Int).toNat)).take (o9.2.1.toNat)).drop ((0:Int).toNat)),())) else none) else none) else none) else none) else none) else none)
def mI:Hints:=(n0 (n0 (n0 (nd (n0 (nd (.node none (some ⟨[.tmpO 0 1 (.slice af),.tmp 5 (.int .i64),.tmp 6 (.int .i64)],[some 0],none,[]⟩) (n0 (nd (nd (n0 (n0 (cu ⟨[.tmpO 0 2 (.slice af),.tmp 5 (.int .i64)],[none],none,[(0,1)]⟩))) .none) .none)) .none) .none)) .none))))
def iQ:Ct:=.mut [.tk,.rd] true true (.pair (.slice af) (.pair (.fn (.pair af .unit) .bool) .unit)) (.slice af) (fun x=>bG x.1 x.2.1)
theorem dM:KC 310 iQ:=mq (Ec mH En) mI Tryz.func310
def tI (z0:Int) (a0:af.D):Option Bool :=
 some (a0.2.1 != z0)
def AB:Ct:=.clo (.pair af .unit) (.pair (.int .i64) .unit) .bool (fun z x=>tI z.1 x.1)
theorem zi:KC 355 AB:=cq En .none Tryz.func355
def kC (a0:(List af.D)) (a1:Int):Option (List af.D) :=
(bv a0).bind fun y1 =>
(bG y1 (fun q=>tI a1 q.1)).bind fun y2 =>
 some y2.1
def va:Ct:=.pure true true (.pair (.slice af) (.pair (.int .i64) .unit)) (.slice af) (fun x=>kC x.1 x.2.1)
theorem uc:KC 309 va:=pq (Ec cS (Ec dM (Ec zi En))) .none Tryz.func309
def zj (z0:Int) (a0:af.D):Option Bool :=
 some (a0.2.1 == z0)
def Fi:Ct:=.clo (.pair af .unit) (.pair (.int .i64) .unit) .bool (fun z x=>zj z.1 x.1)
theorem Dy:KC 311 Fi:=cq En .none Tryz.func311
def dm (a0:(List af.D)) (a1:Int) (a2:Int):Option ((List af.D)×Unit) :=
 if 0≤a1 then (if a1≤a2 then (if a2≤(a0.length:Int) then (
 if a2≤(a0.length:Int) then (if (a0.length:Int)≤(a0.length:Int) then (
 bif (a1 == a2) then (
 some (a0,()))
 else (
 if 0≤(0:Int) then (if (0:Int)≤a1 then (if a1≤(a0.length:Int) then (
 if 0≤a2 then (if a2≤(a0.length:Int) then (if (a0.length:Int)≤(a0.length:Int) then (
 if a2.toNat≤(a0.length:Int).toNat then (if a1.toNat + ((a0.length:Int).toNat - a2.toNat)≤a0.length then (
 let u1:(List af.D):=a0.take (a1.toNat)++(a0.take ((a0.length:Int).toNat)).drop (a2.toNat)++a0.drop (a1.toNat + ((a0.length:Int).toNat - a2.toNat))
 if 0≤((a1.toNat + ((a0.length:Int).toNat - a2.toNat) - 0:Nat):Int) then (if ((a1.toNat + ((a0.length:Int).toNat - a2.toNat) - 0:Nat):Int)≤(a0.length:Int) then (if (a0.length:Int)≤(u1.length:Int) then (
 some ((((u1.take (((a1.toNat + ((a0.length:Int).toNat - a2.toNat) - 0:Nat):Int).toNat)++List.replicate ((a0.length:Int).toNat - ((a1.toNat + ((a0.length:Int).toNat - a2.toNat) - 0:Nat):Int).toNat) (0,0,0,(0,0,0,0,0,0,0,0,0,0,0,false,false,()),())++u1.drop ((a0.length:Int).toNat)).take (a1.toNat + ((a0.length:Int).toNat - a2.toNat))).drop (0)),())) else none) else none) else none) else none) else none) else none) else none) else none) else none) else none) else none)) else none) else none) else none) else none) else none
def kX:Ct:=.mut [.tk,.rd,.rd] true true (.pair (.slice af) (.pair (.int .i64) (.pair (.int .i64) .unit))) (.slice af) (fun x=>dm x.1 x.2.1 x.2.2.1)
theorem jQ:KC 312 kX:=mq En .none Tryz.func312
def kD:((List Int)×((List af.D)×(List af.D)))→Option (((List Int)×((List af.D)×(List af.D)))⊕((List Int)×((List af.D)×(List af.D)))):=fun s8 =>
 bif decide ((s8.2.2.length:Int) > 0) then (
(uQ s8.1 (s8.2.2.length:Int)).bind fun y9 =>
 idx s8.2.2 y9.1 fun _ =>
(s8.2.2[(y9.1:Int).toNat]?).bind fun x10 =>
 if (s8.2.1.length + [x10].length) * (24 * 16)≤aC then (
(dm s8.2.2 y9.1 (IntKind.wrap .i64 (y9.1 + 1))).bind fun y11 =>
 some (.inl (y9.2.1,(s8.2.1++[x10]),y11.1))) else none)
 else (
 some (.inr s8))
def kE (y3:(List Int)):((List Int)×((List af.D)×((List af.D)×Int)))→Option (((List Int)×((List af.D)×((List af.D)×Int)))⊕((List Int)×((List af.D)×((List af.D)×Int)))):=fun s4 =>
 bif decide (s4.2.2.2 < (y3.length:Int)) then (
 idx y3 s4.2.2.2 fun _ =>
(y3[(s4.2.2.2:Int).toNat]?).bind fun x5 =>
(kC s4.2.2.1 x5).bind fun y6 =>
(bG s4.2.2.1 (fun q=>zj x5 q.1)).bind fun y7 =>
(al (kD) (s4.1,s4.2.1,y6)).bind fun o12 =>
 some (.inl (o12.1,o12.2.1,y7.1,IntKind.wrap .i64 (s4.2.2.2 + 1))))
 else (
 some (.inr s4))
def mJ (a0:ae.D) (a1:(List af.D)) (a2:(List Int)):Option ((List af.D)×((List Int)×Unit)) :=
(bv a1).bind fun y1 =>
(bl a2).bind fun y2 =>
(gj a0).bind fun y3 =>
(al (kE y3) (y2,[],y1,0)).bind fun o13 =>
 if (o13.2.1.length + o13.2.2.1.length) * (24 * 16)≤aC then (
 some ((o13.2.1++o13.2.2.1),o13.1,())) else none
def Kf:Hints:=(n0 (n0 (n0 (n0 (nd (n0 (nd (.node none (some ⟨[.tmpO 2 0 (.slice (.int .i64)),.tmpO 8 0 (.slice af),.tmpO 9 0 (.slice af),.tmp 23 (.int .i64)],[some 0],none,[]⟩) (n0 (n0 (nd (nd (n0 (n0 (n0 (nd (.node none (some ⟨[.tmpO 2 1 (.slice (.int .i64)),.tmpO 8 1 (.slice af),.tmpO 12 0 (.slice af)],[some 2],none,[]⟩) .none .none) .none)))) .none) .none))) .none) .none)) .none)))))
def zk:Ct:=.pure false true (.pair ae (.pair (.slice af) (.pair (.slice (.int .i64)) .unit))) (.pair (.slice af) (.pair (.slice (.int .i64)) .unit)) (fun x=>mJ x.1 x.2.1 x.2.2.1)
theorem xP:KC 215 zk:=pq (Ec lz (Ec bu (Ec rV (Ec cS (Ec uc (Ec dM (Ec Dy (Ec jQ En)))))))) Kf Tryz.func215
theorem mK (xs:List aT.D) (hl:xs.length≤1048576) (p:aT.D→Bool) (q:(aT.D×Unit)→Option Bool) (hq:∀ x∈xs,q (x,())=some (p x)) :
  cz xs q=some (match bD p xs with | some k=>(k:Int) | none=>-1):=by
 unfold cz
 rw [dH xs (body:=bU xs q) p (fun i=>i) (by omega) (fun i x hx=>?_) ?_]
 ·cases bD p xs <;> rfl
 ·unfold bU
  simp
 ·unfold bU
  have hlt:=(List.getElem?_eq_some_iff.1 hx).1
  have:((i:Int) < (xs.length:Int)):=by omega
  simp only [this,decide_true,cond_true,ay hx,hq x (List.mem_of_getElem? hx),Option.bind_some]
theorem lI (xs:List aT.D) (hl:xs.length≤1048576) (p:aT.D→Bool) (q:(aT.D×Unit)→Option Bool) (hq:∀ x∈xs,q (x,())=some (p x)) :
  ck xs q=some (xs.filter (fun x=>!p x),()):=by
 unfold ck
 rw [mK xs hl p q hq,Option.bind_some]
 obtain ⟨h1,h2⟩:=eh p xs
 cases hf:bD p xs with
 | none =>
  have:xs.filter (fun x=>!p x)=xs:=by rw [List.filter_eq_self];intro x hx;simp [h1 hf x hx]
  rw [this];rfl
 | some k =>
  obtain ⟨x,g1,g2,g3⟩:=h2 k hf
  have hk:=(List.getElem?_eq_some_iff.1 g1).1
  have n1:((k:Int) == -1)=false:=by simp
  simp only [n1,cond_false]
  rw [aB (by omega) (by omega)]
  obtain ⟨ys,m,e1,e2,e3,e4⟩:∃ (ys:List aT.D) (m:Nat),al (bq q) (xs,(k:Int),(k:Int) + 1)=some (ys,(m:Int),(xs.length:Int))∧ys.length=xs.length∧m≤xs.length∧ys.take m=xs.filter (fun x=>!p x):=by
   refine C1 xs (body:=bq q) p (fun s=>s) (by omega) (fun ys i j x hx hij hl' hm=>?_) (fun ys i hl'=>?_) k x g1 g2 g3
   ·have hlt:=(List.getElem?_eq_some_iff.1 hx).1
    have hil:((j:Int) < (ys.length:Int)):=by omega
    obtain ⟨y,hy⟩:∃ y,ys[i]?=some y:=⟨_,List.getElem?_eq_getElem (by omega)⟩
    unfold bq
    simp (disch:=omega) only [hil,decide_true,cond_true,Int.toNat_natCast,ay hx,hx,hq x hm,Option.bind_some,ay hy,hy,aB]
    cases p x <;> rfl
   ·unfold bq
    have:¬ ((xs.length:Int) < (ys.length:Int)):=by omega
    simp only [this,decide_false,cond_false]
  rw [e1,Option.bind_some]
  have t1:0≤(m:Int):=by omega
  have t2:(m:Int)≤(ys.length:Int):=by omega
  simp only [t1,t2,if_true,Int.le_refl,Int.toNat_natCast]
  have z1:m≤ys.length:=by omega
  rw [if_pos (by simp only [List.length_append,List.length_take,List.length_replicate,List.length_drop];omega)]
  have:∀ (zs:List aT.D),(ys.take m++zs).take m=ys.take m:=fun zs=>by rw [List.take_append_of_le_length (by simp;omega),List.take_take,Nat.min_self]
  rw [List.append_assoc,this,e4]
  simp
def bK (a0:List aa.D) (a1:(aa.D×Unit)→Option Bool):Option (List aa.D×Unit):=if a0.length≤1048576∧a0.all (fun x=>(a1 (x,())).isSome)=true then some (a0.filter (fun x=>!(a1 (x,())).getD false),()) else none
def jh:Ct:=.mut [.tk,.rd] true true (.pair (.slice aa) (.pair (.fn (.pair aa .unit) .bool) .unit)) (.slice aa) (fun x=>bK x.1 x.2.1)
theorem iR:fC Tryz.prog 219 jh:=by
 refine Vm (t:=aa) (FH:=fun x=>ck x.1 x.2.1) rfl rfl it fun xs p z hz=>?_
 have hz:bK xs p=some z:=hz
 unfold bK at hz
 split at hz
 ·rename_i h
  obtain ⟨h1,h2⟩:=h
  cases hz
  refine ⟨_,(PG _ xs 0).2,Gm _ xs,fun xsH pH hl hp=>?_⟩
  have hs:∀ xh∈xsH,pH (xh,())=some ((pH (xh,())).getD false):=fun xh hm=>by
   obtain ⟨i,hi⟩:=List.mem_iff_getElem?.1 hm
   have hil:i < xs.length:=by rw [← hl];exact (List.getElem?_eq_some_iff.1 hi).1
   have hx:xs[i]?=some xs[i]:=List.getElem?_eq_getElem hil
   have hsome:=List.all_eq_true.1 h2 xs[i] (List.getElem_mem hil)
   rw [hp i _ xh hx hi]
   obtain ⟨b,hb⟩:=Option.isSome_iff_exists.1 hsome
   rw [hb];rfl
  refine ⟨_,lI xsH (by omega) (fun xh=>(pH (xh,())).getD false) pH hs,?_⟩
  rw [← IV (fun x=>!(p (x,())).getD false) (fun xh=>!(pH (xh,())).getD false) xs xsH 0 hl fun i x xh hx hh=>by rw [hp i x xh hx hh]]
  exact Gm _ xsH
 ·cases hz
def oP (z0:Int) (a0:aa.D):Option Bool :=
(n9 a0 z0).bind fun y1 =>
 some (!y1)
def Hi:Ct:=.clo (.pair aa .unit) (.pair (.int .i64) .unit) .bool (fun z x=>oP z.1 x.1)
theorem Fj:KC 220 Hi:=cq (Ec A4 En) .none Tryz.func220
def pI (a0:(List aa.D)) (a1:Int):Option (List aa.D) :=
(bO a0).bind fun y1 =>
(bK y1 (fun q=>oP a1 q.1)).bind fun y2 =>
 some y2.1
def AC:Ct:=.pure true true (.pair (.slice aa) (.pair (.int .i64) .unit)) (.slice aa) (fun x=>pI x.1 x.2.1)
theorem pJ:KC 96 AC:=pq (Ec bn (Ec iR (Ec Fj En))) .none Tryz.func96
def dQ (a0:Unit) (a1:Int):Option ((List af.D)×Unit) :=
((bif decide (a1 < 0) then (
 none)
 else (
 some ())):Option Unit).bind fun o1 =>
 bif decide ((IntKind.wrap .i64 (a1 - (IntKind.wrap .i64 (0 - 0)))) > 0) then (
 if 0≤(0:Int) then (if (0:Int)≤(0:Int) then (if (0:Int)≤((0:Nat):Int) then (
 if 0 < (IntKind.wrap .i64 (a1 - (IntKind.wrap .i64 (0 - 0)))) then (if (IntKind.wrap .i64 (a1 - (IntKind.wrap .i64 (0 - 0)))).toNat * (24 * 16)≤aC then (
 if 0≤(0:Int) then (if (0:Int)≤(0:Int) then (if (0:Int)≤((List.replicate (IntKind.wrap .i64 (a1 - (IntKind.wrap .i64 (0 - 0)))).toNat (0,0,0,(0,0,0,0,0,0,0,0,0,0,0,false,false,()),()):List af.D).length:Int) then (
 some ((((List.replicate (IntKind.wrap .i64 (a1 - (IntKind.wrap .i64 (0 - 0)))).toNat (0,0,0,(0,0,0,0,0,0,0,0,0,0,0,false,false,()),()):List af.D).take ((0:Int).toNat)).drop ((0:Int).toNat)),())) else none) else none) else none) else none) else none) else none) else none) else none)
 else (
 some ([],()))
def si:Hints:=(n0 (nd (n0 (cu ⟨[],[none],none,[]⟩)) .none))
def mL:Ct:=.mut [.nil,.rd] true true (.pair .unit (.pair (.int .i64) .unit)) (.slice af) (fun x=>dQ x.1 x.2.1)
theorem lJ:KC 315 mL:=mq En si Tryz.func315
def bo (a0:(List (List af.D))):(Int×Int)→Option ((Int×Int)⊕(Int×Int)):=fun s1 =>
 bif decide (s1.2 < (a0.length:Int)) then (
 idx a0 s1.2 fun x2 =>
 bif decide ((IntKind.wrap .i64 (s1.1 + (x2.length:Int))) < 0) then (
 none)
 else (
 some (.inl (IntKind.wrap .i64 (s1.1 + (x2.length:Int)),IntKind.wrap .i64 (s1.2 + 1)))))
 else (
 some (.inr s1))
def bp (a0:(List (List af.D))):((List af.D)×Int)→Option (((List af.D)×Int)⊕((List af.D)×Int)):=fun s5 =>
 bif decide (s5.2 < (a0.length:Int)) then (
 idx a0 s5.2 fun x6 =>
 if (s5.1.length + x6.length) * (24 * 16)≤aC then (
 some (.inl ((s5.1++x6),IntKind.wrap .i64 (s5.2 + 1)))) else none)
 else (
 some (.inr s5))
def dn (a0:(List (List af.D))):Option (List af.D) :=
(al (bo a0) (0,0)).bind fun o3 =>
(dQ () o3.1).bind fun y4 =>
(al (bp a0) (y4.1,0)).bind fun o7 =>
 some o7.1
def qd:Hints:=(n0 (n0 (nd (n0 (nd (.node none (some ⟨[.tmp 3 (.int .i64),.tmp 11 (.int .i64)],[some 0],none,[]⟩) .none .none) .none)) (n0 (nd (n0 (nd (.node none (some ⟨[.tmpO 6 0 (.slice af),.tmp 27 (.int .i64)],[some 2],none,[]⟩) .none .none) .none)) .none)))))
def kY:Ct:=.pure true true (.pair (.slice (.slice af)) .unit) (.slice af) (fun x=>dn x.1)
theorem jR:KC 217 kY:=pq (Ec lJ En) qd Tryz.func217
def eS (a0:Unit) (a1:Int):Option ((List ai.D)×Unit) :=
((bif decide (a1 < 0) then (
 none)
 else (
 some ())):Option Unit).bind fun o1 =>
 bif decide ((IntKind.wrap .i64 (a1 - (IntKind.wrap .i64 (0 - 0)))) > 0) then (
 if 0≤(0:Int) then (if (0:Int)≤(0:Int) then (if (0:Int)≤((0:Nat):Int) then (
 if 0 < (IntKind.wrap .i64 (a1 - (IntKind.wrap .i64 (0 - 0)))) then (if (IntKind.wrap .i64 (a1 - (IntKind.wrap .i64 (0 - 0)))).toNat * (24 * 23)≤aC then (
 if 0≤(0:Int) then (if (0:Int)≤(0:Int) then (if (0:Int)≤((List.replicate (IntKind.wrap .i64 (a1 - (IntKind.wrap .i64 (0 - 0)))).toNat (0,(0,0,0,0,0,0,false,()),0,0,(0,0,0,0,0,0,0,0,0,0,0,false,false,()),()):List ai.D).length:Int) then (
 some ((((List.replicate (IntKind.wrap .i64 (a1 - (IntKind.wrap .i64 (0 - 0)))).toNat (0,(0,0,0,0,0,0,false,()),0,0,(0,0,0,0,0,0,0,0,0,0,0,false,false,()),()):List ai.D).take ((0:Int).toNat)).drop ((0:Int).toNat)),())) else none) else none) else none) else none) else none) else none) else none) else none)
 else (
 some ([],()))
def vd:Hints:=(n0 (nd (n0 (cu ⟨[],[none],none,[]⟩)) .none))
def pK:Ct:=.mut [.nil,.rd] true true (.pair .unit (.pair (.int .i64) .unit)) (.slice ai) (fun x=>eS x.1 x.2.1)
theorem oo:KC 316 pK:=mq En vd Tryz.func316
def bH (a0:(List (List ai.D))):(Int×Int)→Option ((Int×Int)⊕(Int×Int)):=fun s1 =>
 bif decide (s1.2 < (a0.length:Int)) then (
 idx a0 s1.2 fun x2 =>
 bif decide ((IntKind.wrap .i64 (s1.1 + (x2.length:Int))) < 0) then (
 none)
 else (
 some (.inl (IntKind.wrap .i64 (s1.1 + (x2.length:Int)),IntKind.wrap .i64 (s1.2 + 1)))))
 else (
 some (.inr s1))
def bI (a0:(List (List ai.D))):((List ai.D)×Int)→Option (((List ai.D)×Int)⊕((List ai.D)×Int)):=fun s5 =>
 bif decide (s5.2 < (a0.length:Int)) then (
 idx a0 s5.2 fun x6 =>
 if (s5.1.length + x6.length) * (24 * 23)≤aC then (
 some (.inl ((s5.1++x6),IntKind.wrap .i64 (s5.2 + 1)))) else none)
 else (
 some (.inr s5))
def d7 (a0:(List (List ai.D))):Option (List ai.D) :=
(al (bH a0) (0,0)).bind fun o3 =>
(eS () o3.1).bind fun y4 =>
(al (bI a0) (y4.1,0)).bind fun o7 =>
 some o7.1
def sL:Hints:=(n0 (n0 (nd (n0 (nd (.node none (some ⟨[.tmp 3 (.int .i64),.tmp 11 (.int .i64)],[some 0],none,[]⟩) .none .none) .none)) (n0 (nd (n0 (nd (.node none (some ⟨[.tmpO 6 0 (.slice ai),.tmp 27 (.int .i64)],[some 2],none,[]⟩) .none .none) .none)) .none)))))
def nu:Ct:=.pure true true (.pair (.slice (.slice ai)) .unit) (.slice ai) (fun x=>d7 x.1)
theorem mM:KC 218 nu:=pq (Ec oo En) sL Tryz.func218
def tJ (a0:T_Game.D) (a1:(List ac.D)):Option (T_Game.D×Unit) :=
(kA a0.1 a0.2.1 a1 a0.2.2.1).bind fun y1 =>
(tH a0.1 y1.1).bind fun y2 =>
(ly y2.1).bind fun y3 =>
(uZ a0.1 y2.2.1).bind fun y4 =>
(mJ y3.1 y4 y1.2.2.1).bind fun y5 =>
(uZ y2.1 y3.2.1).bind fun y6 =>
(mJ y3.1 y6 y5.2.1).bind fun y7 =>
(pI y1.2.1 y3.1.2.2.2.1).bind fun y8 =>
(dn [a0.2.2.2.1,y5.1,y7.1]).bind fun y9 =>
(d7 [a0.2.2.2.2.1,y2.2.1,y3.2.1]).bind fun y10 =>
 if (a0.2.2.2.2.2.1.length + y1.2.2.2.1.length) * (24 * 14)≤aC then (
 some ((y3.1,y8,y7.2.1,y9,y10,(a0.2.2.2.2.2.1++y1.2.2.2.1),()),())) else none
def AD:Ct:=.mut [.tk,.rd] true true (.pair T_Game (.pair (.slice ac) .unit)) T_Game (fun x=>tJ x.1 x.2.1)
theorem zl:KC 94 AD:=mq (Ec ua (Ec pJ (Ec zg (Ec zh (Ec xP (Ec BX (Ec jR (Ec mM En)))))))) .none Tryz.func94
def qS (a0:T_Game.D) (a1:T_Order.D):Option (T_Game.D×(Bool×Unit)) :=
(jM a0).bind fun y1 =>
(lr y1).bind fun y2 =>
 bif (!y2) then (
 some (y1,false,()))
 else (
((bif (a1.1 == 1) then (
(qK y1.2.1 a1.2.1).bind fun y3 =>
 some (.inl (y3.2.1,(y1.1,y3.1,y1.2.2),([],[],0,0,()),[],[],[],[],[],())))
 else (
((bif (a1.1 == 2) then (
(zZ y1.2.1 a1.2.2.1).bind fun y4 =>
 some (.inl (y4.2.1,(y1.1,y4.1,y1.2.2),([],[],0,0,()),[],[],[],[],[],())))
 else (
((bif (a1.1 == 3) then (
(mC a1.2.2.2.1).bind fun y5 =>
 bif (!y5) then (
 some (.inr ((false,y1))))
 else (
(tJ y1 a1.2.2.2.1).bind fun y6 =>
 some (.inl (true,(([],[],0,0,()),[],[],[],[],[],()),y6.1))))
 else (
((bif (a1.1 == 4) then (
 bif (y1.1.2.2.2.1 == 9999) then (
 some (.inr ((false,y1))))
 else (
(gj y1.1).bind fun y7 =>
 idx y7 1 fun _ =>
(y7[(1:Int).toNat]?).bind fun x8 =>
(pI y1.2.1 (IntKind.wrap .i64 (y1.1.2.2.2.1 + 1))).bind fun y9 =>
 some (.inl (true,(([],[],0,0,()),[],[],[],[],[],()),(y1.1.1,y1.1.2.1,x8,IntKind.wrap .i64 (y1.1.2.2.2.1 + 1),()),y9,y1.2.2))))
 else (
 some (.inl (false,(([],[],0,0,()),[],[],[],[],[],()),y1)))):Option ((Bool×(T_Game.D×(ae.D×((List aa.D)×((List Int)×((List af.D)×((List ai.D)×((List ar.D)×Unit))))))))⊕(Bool×(ae.D×((List aa.D)×((List Int)×((List af.D)×((List ai.D)×((List ar.D)×Unit))))))))).bind fun o10 =>
 match o10 with
| .inl s11=>(
 some (.inl s11))
| .inr o12=>(
 some (.inr o12)))):Option ((Bool×(T_Game.D×(ae.D×((List aa.D)×((List Int)×((List af.D)×((List ai.D)×((List ar.D)×Unit))))))))⊕(Bool×(ae.D×((List aa.D)×((List Int)×((List af.D)×((List ai.D)×((List ar.D)×Unit))))))))).bind fun o13 =>
 match o13 with
| .inl s14=>(
 some (.inl (s14.1,s14.2.2,s14.2.1)))
| .inr o15=>(
 some (.inr o15)))):Option ((Bool×(T_Game.D×(ae.D×((List aa.D)×((List Int)×((List af.D)×((List ai.D)×((List ar.D)×Unit))))))))⊕(Bool×(ae.D×((List aa.D)×((List Int)×((List af.D)×((List ai.D)×((List ar.D)×Unit))))))))).bind fun o16 =>
 match o16 with
| .inl s17=>(
 some (.inl s17))
| .inr o18=>(
 some (.inr o18)))):Option ((Bool×(T_Game.D×(ae.D×((List aa.D)×((List Int)×((List af.D)×((List ai.D)×((List ar.D)×Unit))))))))⊕(Bool×(ae.D×((List aa.D)×((List Int)×((List af.D)×((List ai.D)×((List ar.D)×Unit))))))))).bind fun o19 =>
 match o19 with
| .inl s20=>(
 some (s20.2.1,s20.1,()))
| .inr o21=>(
 some (o21.2,o21.1,())))
def Kg:Hints:=(n0 (n0 (n0 (n0 (nd (n0 (nd (n0 (.node (some ⟨[.tmp 6 .bool,.boxO 2 0 1 T_Game,.boxO 4 0 1 T_Game],[none],some [.tmp 5 .bool,.boxO 4 0 1 T_Game],[(2,0),(4,0),(8,0),(8,1),(8,2),(8,3),(8,4),(8,5),(8,6)]⟩) none .none (n0 (.node (some ⟨[.tmp 6 .bool,.boxO 2 0 1 T_Game,.boxO 4 0 1 T_Game],[none],some [.tmp 5 .bool,.boxO 4 0 1 T_Game],[(2,0),(4,0),(8,0),(8,1),(8,2),(8,3),(8,4),(8,5),(8,6)]⟩) none .none (n0 (.node (some ⟨[.tmp 6 .bool,.boxO 4 0 1 T_Game,.boxO 2 0 1 T_Game],[none],some [.tmp 5 .bool,.boxO 4 0 1 T_Game],[(4,0),(8,0),(2,0),(8,1),(8,2),(8,3),(8,4),(8,5),(8,6)]⟩) none .none (n0 (cu ⟨[.tmp 6 .bool,.boxO 4 0 1 T_Game,.boxO 2 0 1 T_Game],[none],some [.tmp 5 .bool,.boxO 4 0 1 T_Game],[(4,0),(2,0),(8,0),(8,1),(8,2),(8,3),(8,4),(8,5),(8,6)]⟩)))))))) .none)) .none)))))
def zm:Ct:=.pure false true (.pair T_Game (.pair T_Order .unit)) (.pair T_Game (.pair .bool .unit)) (fun x=>qS x.1 x.2.1)
theorem xQ:KC 12 zm:=pq (Ec JZ (Ec wW (Ec mw (Ec xK (Ec BK (Ec zl (Ec lz (Ec pJ En)))))))) Kg Tryz.func12
def mN (a1:(List T_Order.D)):(Int×(Int×(ae.D×((List aa.D)×((List Int)×((List af.D)×((List ai.D)×((List ar.D)×Unit))))))))→Option ((Int×(Int×(ae.D×((List aa.D)×((List Int)×((List af.D)×((List ai.D)×((List ar.D)×Unit))))))))⊕(Int×(Int×(ae.D×((List aa.D)×((List Int)×((List af.D)×((List ai.D)×((List ar.D)×Unit))))))))):=fun s3 =>
 bif decide (s3.2.1 < (((a1.take (if 12 < (a1.length:Int) then 12 else (a1.length:Int)).toNat).drop (0:Int).toNat).length:Int)) then (
 idx ((a1.take (if 12 < (a1.length:Int) then 12 else (a1.length:Int)).toNat).drop (0:Int).toNat) s3.2.1 fun x4 =>
(qS s3.2.2 x4).bind fun y5 =>
 bif y5.2.1 then (
 some (.inl (IntKind.wrap .i64 (s3.1 + 1),IntKind.wrap .i64 (s3.2.1 + 1),y5.1)))
 else (
 some (.inl (s3.1,IntKind.wrap .i64 (s3.2.1 + 1),y5.1))))
 else (
 some (.inr s3))
def ve (a0:T_Game.D) (a1:(List T_Order.D)):Option (T_Game.D×(Int×Unit)) :=
(jM a0).bind fun y1 =>
 if 0≤(0:Int) then (if (0:Int)≤(if 12 < (a1.length:Int) then 12 else (a1.length:Int)) then (if (if 12 < (a1.length:Int) then 12 else (a1.length:Int))≤(a1.length:Int) then (
(al (mN a1) (0,0,y1)).bind fun o6 =>
 some (o6.2.2,o6.1,())) else none) else none) else none
def P9:Hints:=(n0 (n0 (n0 (nd (n0 (nd (.node none (some ⟨[.tmp 6 (.int .i64),.tmp 19 (.int .i64),.boxO 2 0 1 T_Game],[some 0],none,[]⟩) .none .none) .none)) .none))))
def Dz:Ct:=.pure false true (.pair T_Game (.pair (.slice T_Order) .unit)) (.pair T_Game (.pair (.int .i64) .unit)) (fun x=>ve x.1 x.2.1)
theorem BY:KC 35 Dz:=pq (Ec xQ (Ec mw En)) P9 Tryz.func35
def ji (a0:ah.D) (a1:ah.D):Option Bool :=
 bif (a0.1 != a1.1) then (
 some false)
 else (
 bif (a0.2.1 != a1.2.1) then (
 some false)
 else (
 bif (a0.2.2.1 != a1.2.2.1) then (
 some false)
 else (
 bif (a0.2.2.2.1 != a1.2.2.2.1) then (
 some false)
 else (
 bif (a0.2.2.2.2.1 != a1.2.2.2.2.1) then (
 some false)
 else (
 bif (a0.2.2.2.2.2.1 != a1.2.2.2.2.2.1) then (
 some false)
 else (
 bif (a0.2.2.2.2.2.2.1 != a1.2.2.2.2.2.2.1) then (
 some false)
 else (
 bif (a0.2.2.2.2.2.2.2.1 != a1.2.2.2.2.2.2.2.1) then (
 some false)
 else (
 bif (a0.2.2.2.2.2.2.2.2.1 != a1.2.2.2.2.2.2.2.2.1) then (
 some false)
 else (
 bif (a0.2.2.2.2.2.2.2.2.2.1 != a1.2.2.2.2.2.2.2.2.2.1) then (
 some false)
 else (
 bif (a0.2.2.2.2.2.2.2.2.2.2.1 != a1.2.2.2.2.2.2.2.2.2.2.1) then (
 some false)
 else (
 bif (a0.2.2.2.2.2.2.2.2.2.2.2.1 != a1.2.2.2.2.2.2.2.2.2.2.2.1) then (
 some false)
 else (
 bif (a0.2.2.2.2.2.2.2.2.2.2.2.2.1 != a1.2.2.2.2.2.2.2.2.2.2.2.2.1) then (
 some false)
 else (
 some true)))))))))))))
def Kh:Ct:=.pure true false (.pair ah (.pair ah .unit)) .bool (fun x=>ji x.1 x.2.1)
theorem qe:KC 283 Kh:=pq En .none Tryz.func283
def vf (a0:(List ah.D)) (a1:(List ah.D)):Int→Option (Int⊕(Int⊕Bool)):=fun s1 =>
 bif decide (s1 < (a0.length:Int)) then (
 idx a0 s1 fun x2 =>
 idx a1 s1 fun x3 =>
(ji x2 x3).bind fun y4 =>
 bif (!y4) then (
 some (.inr (.inr false)))
 else (
 some (.inl (IntKind.wrap .i64 (s1 + 1)))))
 else (
 some (.inr (.inl s1)))
def oQ (a0:(List ah.D)) (a1:(List ah.D)):Option Bool :=
 bif ((a0.length:Int) != (a1.length:Int)) then (
 some false)
 else (
(al (vf a0 a1) 0).bind fun o5 =>
 match o5 with
| .inl s6=>(
 some true)
| .inr o7=>(
 some o7))
def Hj:Hints:=(n0 (n0 (nd (n0 (nd (.node none (some ⟨[.tmp 5 (.int .i64)],[some 0],some [.tmp 4 .bool],[]⟩) .none .none) .none)) .none)))
def Hk:Ct:=.pure true false (.pair (.slice ah) (.pair (.slice ah) .unit)) .bool (fun x=>oQ x.1 x.2.1)
theorem Fk:KC 168 Hk:=pq (Ec qe En) Hj Tryz.func168
def tK (a0:au.D) (a1:au.D):Option Bool :=
 bif (a0.1 != a1.1) then (
 some false)
 else (
 bif (a0.2.1 != a1.2.1) then (
 some false)
 else (
 bif (a0.2.2.1 != a1.2.2.1) then (
 some false)
 else (
 some true)))
def Mi:Ct:=.pure true false (.pair au (.pair au .unit)) .bool (fun x=>tK x.1 x.2.1)
theorem Ki:KC 284 Mi:=pq En .none Tryz.func284
def wY (a0:(List au.D)) (a1:(List au.D)):Int→Option (Int⊕(Int⊕Bool)):=fun s1 =>
 bif decide (s1 < (a0.length:Int)) then (
 idx a0 s1 fun x2 =>
 idx a1 s1 fun x3 =>
(tK x2 x3).bind fun y4 =>
 bif (!y4) then (
 some (.inr (.inr false)))
 else (
 some (.inl (IntKind.wrap .i64 (s1 + 1)))))
 else (
 some (.inr (.inl s1)))
def qT (a0:(List au.D)) (a1:(List au.D)):Option Bool :=
 bif ((a0.length:Int) != (a1.length:Int)) then (
 some false)
 else (
(al (wY a0 a1) 0).bind fun o5 =>
 match o5 with
| .inl s6=>(
 some true)
| .inr o7=>(
 some o7))
def Kj:Hints:=(n0 (n0 (nd (n0 (nd (.node none (some ⟨[.tmp 5 (.int .i64)],[some 0],some [.tmp 4 .bool],[]⟩) .none .none) .none)) .none)))
def Kk:Ct:=.pure true false (.pair (.slice au) (.pair (.slice au) .unit)) .bool (fun x=>qT x.1 x.2.1)
theorem Hl:KC 169 Kk:=pq (Ec Ki En) Kj Tryz.func169
def qU (a0:ae.D) (a1:ae.D):Option Bool :=
(oQ a0.1 a1.1).bind fun y1 =>
 bif (!y1) then (
 some false)
 else (
(qT a0.2.1 a1.2.1).bind fun y2 =>
 bif (!y2) then (
 some false)
 else (
 bif (a0.2.2.1 != a1.2.2.1) then (
 some false)
 else (
 bif (a0.2.2.2.1 != a1.2.2.2.1) then (
 some false)
 else (
 some true))))
def Kl:Ct:=.pure true false (.pair ae (.pair ae .unit)) .bool (fun x=>qU x.1 x.2.1)
theorem Hm:KC 54 Kl:=pq (Ec Fk (Ec Hl En)) .none Tryz.func54
def wn (a0:cp.D) (a1:cp.D):Option Bool :=
 bif (a0.1 != a1.1) then (
 some false)
 else (
 bif (a0.2.1 != a1.2.1) then (
 some false)
 else (
 bif (a0.2.2.1 != a1.2.2.1) then (
 some false)
 else (
 bif (a0.2.2.2.1 != a1.2.2.2.1) then (
 some false)
 else (
 bif (a0.2.2.2.2.1 != a1.2.2.2.2.1) then (
 some false)
 else (
 bif (a0.2.2.2.2.2.1 != a1.2.2.2.2.2.1) then (
 some false)
 else (
 bif (a0.2.2.2.2.2.2.1 != a1.2.2.2.2.2.2.1) then (
 some false)
 else (
 some true)))))))
def OB:Ct:=.pure true false (.pair cp (.pair cp .unit)) .bool (fun x=>wn x.1 x.2.1)
theorem Mj:KC 255 OB:=pq En .none Tryz.func255
def qV (a0:bc.D) (a1:bc.D):Option Bool :=
 bif (a0.1 != a1.1) then (
 some false)
 else (
 bif (a0.2.1 != a1.2.1) then (
 some false)
 else (
 some true))
def Km:Ct:=.pure true false (.pair bc (.pair bc .unit)) .bool (fun x=>qV x.1 x.2.1)
theorem Hn:KC 256 Km:=pq En .none Tryz.func256
def jj (a0:ac.D) (a1:ac.D):Option Bool :=
 bif (a0.1 != a1.1) then (
 some false)
 else (
 bif (a0.2.1 != a1.2.1) then (
 some false)
 else (
 bif (a0.2.2.1 != a1.2.2.1) then (
 some false)
 else (
 bif (a0.2.2.2.1 != a1.2.2.2.1) then (
 some false)
 else (
 bif (a0.2.2.2.2.1 != a1.2.2.2.2.1) then (
 some false)
 else (
 bif (a0.2.2.2.2.2.1 != a1.2.2.2.2.2.1) then (
 some false)
 else (
 bif (a0.2.2.2.2.2.2.1 != a1.2.2.2.2.2.2.1) then (
 some false)
 else (
 some true)))))))
def Kn:Ct:=.pure true false (.pair ac (.pair ac .unit)) .bool (fun x=>jj x.1 x.2.1)
theorem qf:KC 174 Kn:=pq En .none Tryz.func174
def vg (a0:(List ac.D)) (a1:(List ac.D)):Int→Option (Int⊕(Int⊕Bool)):=fun s1 =>
 bif decide (s1 < (a0.length:Int)) then (
 idx a0 s1 fun x2 =>
 idx a1 s1 fun x3 =>
(jj x2 x3).bind fun y4 =>
 bif (!y4) then (
 some (.inr (.inr false)))
 else (
 some (.inl (IntKind.wrap .i64 (s1 + 1)))))
 else (
 some (.inr (.inl s1)))
def hU (a0:(List ac.D)) (a1:(List ac.D)):Option Bool :=
 bif ((a0.length:Int) != (a1.length:Int)) then (
 some false)
 else (
(al (vg a0 a1) 0).bind fun o5 =>
 match o5 with
| .inl s6=>(
 some true)
| .inr o7=>(
 some o7))
def Ho:Hints:=(n0 (n0 (nd (n0 (nd (.node none (some ⟨[.tmp 5 (.int .i64)],[some 0],some [.tmp 4 .bool],[]⟩) .none .none) .none)) .none)))
def Hp:Ct:=.pure true false (.pair (.slice ac) (.pair (.slice ac) .unit)) .bool (fun x=>hU x.1 x.2.1)
theorem oq:KC 66 Hp:=pq (Ec qf En) Ho Tryz.func66
def wo (a0:bm.D) (a1:bm.D):Option Bool :=
 bif (a0.1 != a1.1) then (
 some false)
 else (
 bif (a0.2.1 != a1.2.1) then (
 some false)
 else (
 bif (a0.2.2.1 != a1.2.2.1) then (
 some false)
 else (
 bif (a0.2.2.2.1 != a1.2.2.2.1) then (
 some false)
 else (
 bif (a0.2.2.2.2.1 != a1.2.2.2.2.1) then (
 some false)
 else (
 bif (a0.2.2.2.2.2.1 != a1.2.2.2.2.2.1) then (
 some false)
 else (
(hU a0.2.2.2.2.2.2.1 a1.2.2.2.2.2.2.1).bind fun y1 =>
 bif (!y1) then (
 some false)
 else (
 some true)))))))
def OC:Ct:=.pure true false (.pair bm (.pair bm .unit)) .bool (fun x=>wo x.1 x.2.1)
theorem Mk:KC 257 OC:=pq (Ec oq En) .none Tryz.func257
def hY (a0:aa.D) (a1:aa.D):Option Bool :=
 bif (a0.1 != a1.1) then (
 some false)
 else (
 bif (a0.2.1 != a1.2.1) then (
 some false)
 else (
 bif (a0.2.2.1 != a1.2.2.1) then (
 some false)
 else (
 bif (a0.2.2.2.1 != a1.2.2.2.1) then (
 some false)
 else (
(wn a0.2.2.2.2.1 a1.2.2.2.2.1).bind fun y1 =>
 bif (!y1) then (
 some false)
 else (
(qV a0.2.2.2.2.2.1 a1.2.2.2.2.2.1).bind fun y2 =>
 bif (!y2) then (
 some false)
 else (
(wo a0.2.2.2.2.2.2.1 a1.2.2.2.2.2.2.1).bind fun y3 =>
 bif (!y3) then (
 some false)
 else (
 bif (a0.2.2.2.2.2.2.2.1 != a1.2.2.2.2.2.2.2.1) then (
 some false)
 else (
 bif (a0.2.2.2.2.2.2.2.2.1 != a1.2.2.2.2.2.2.2.2.1) then (
 some false)
 else (
 some true)))))))))
def Hq:Ct:=.pure true false (.pair aa (.pair aa .unit)) .bool (fun x=>hY x.1 x.2.1)
theorem vh:KC 135 Hq:=pq (Ec Mj (Ec Hn (Ec Mk En))) .none Tryz.func135
def DA (a0:(List aa.D)) (a1:(List aa.D)):Int→Option (Int⊕(Int⊕Bool)):=fun s1 =>
 bif decide (s1 < (a0.length:Int)) then (
 idx a0 s1 fun x2 =>
 idx a1 s1 fun x3 =>
(hY x2 x3).bind fun y4 =>
 bif (!y4) then (
 some (.inr (.inr false)))
 else (
 some (.inl (IntKind.wrap .i64 (s1 + 1)))))
 else (
 some (.inr (.inl s1)))
def mO (a0:(List aa.D)) (a1:(List aa.D)):Option Bool :=
 bif ((a0.length:Int) != (a1.length:Int)) then (
 some false)
 else (
(al (DA a0 a1) 0).bind fun o5 =>
 match o5 with
| .inl s6=>(
 some true)
| .inr o7=>(
 some o7))
def Fl:Hints:=(n0 (n0 (nd (n0 (nd (.node none (some ⟨[.tmp 5 (.int .i64)],[some 0],some [.tmp 4 .bool],[]⟩) .none .none) .none)) .none)))
def Fm:Ct:=.pure true false (.pair (.slice aa) (.pair (.slice aa) .unit)) .bool (fun x=>mO x.1 x.2.1)
theorem DB:KC 55 Fm:=pq (Ec vh En) Fl Tryz.func55
def Ko (a0:(List Int)) (a1:(List Int)):Int→Option (Int⊕(Int⊕Bool)):=fun s1 =>
 bif decide (s1 < (a0.length:Int)) then (
 idx a0 s1 fun x2 =>
 idx a1 s1 fun x3 =>
 bif (x2 != x3) then (
 some (.inr (.inr false)))
 else (
 some (.inl (IntKind.wrap .i64 (s1 + 1)))))
 else (
 some (.inr (.inl s1)))
def tL (a0:(List Int)) (a1:(List Int)):Option Bool :=
 bif ((a0.length:Int) != (a1.length:Int)) then (
 some false)
 else (
(al (Ko a0 a1) 0).bind fun o4 =>
 match o4 with
| .inl s5=>(
 some true)
| .inr o6=>(
 some o6))
def Ml:Hints:=(n0 (n0 (nd (n0 (nd (.node none (some ⟨[.tmp 5 (.int .i64)],[some 0],some [.tmp 4 .bool],[]⟩) .none .none) .none)) .none)))
def Mm:Ct:=.pure true false (.pair (.slice (.int .i64)) (.pair (.slice (.int .i64)) .unit)) .bool (fun x=>tL x.1 x.2.1)
theorem Kp:KC 56 Mm:=pq En Ml Tryz.func56
def mP (a0:af.D) (a1:af.D):Option Bool :=
 bif (a0.1 != a1.1) then (
 some false)
 else (
 bif (a0.2.1 != a1.2.1) then (
 some false)
 else (
 bif (a0.2.2.1 != a1.2.2.1) then (
 some false)
 else (
(ji a0.2.2.2.1 a1.2.2.2.1).bind fun y1 =>
 bif (!y1) then (
 some false)
 else (
 some true))))
def Fn:Ct:=.pure true false (.pair af (.pair af .unit)) .bool (fun x=>mP x.1 x.2.1)
theorem DC:KC 252 Fn:=pq (Ec qe En) .none Tryz.func252
def sj (a0:(List af.D)) (a1:(List af.D)):Int→Option (Int⊕(Int⊕Bool)):=fun s1 =>
 bif decide (s1 < (a0.length:Int)) then (
 idx a0 s1 fun x2 =>
 idx a1 s1 fun x3 =>
(mP x2 x3).bind fun y4 =>
 bif (!y4) then (
 some (.inr (.inr false)))
 else (
 some (.inl (IntKind.wrap .i64 (s1 + 1)))))
 else (
 some (.inr (.inl s1)))
def kF (a0:(List af.D)) (a1:(List af.D)):Option Bool :=
 bif ((a0.length:Int) != (a1.length:Int)) then (
 some false)
 else (
(al (sj a0 a1) 0).bind fun o5 =>
 match o5 with
| .inl s6=>(
 some true)
| .inr o7=>(
 some o7))
def DD:Hints:=(n0 (n0 (nd (n0 (nd (.node none (some ⟨[.tmp 5 (.int .i64)],[some 0],some [.tmp 4 .bool],[]⟩) .none .none) .none)) .none)))
def DE:Ct:=.pure true false (.pair (.slice af) (.pair (.slice af) .unit)) .bool (fun x=>kF x.1 x.2.1)
theorem BZ:KC 132 DE:=pq (Ec DC En) DD Tryz.func132
def tM (a0:ai.D) (a1:ai.D):Option Bool :=
 bif (a0.1 != a1.1) then (
 some false)
 else (
(jj a0.2.1 a1.2.1).bind fun y1 =>
 bif (!y1) then (
 some false)
 else (
 bif (a0.2.2.1 != a1.2.2.1) then (
 some false)
 else (
 bif (a0.2.2.2.1 != a1.2.2.2.1) then (
 some false)
 else (
(ji a0.2.2.2.2.1 a1.2.2.2.2.1).bind fun y2 =>
 bif (!y2) then (
 some false)
 else (
 some true)))))
def Mn:Ct:=.pure true false (.pair ai (.pair ai .unit)) .bool (fun x=>tM x.1 x.2.1)
theorem Kq:KC 253 Mn:=pq (Ec qf (Ec qe En)) .none Tryz.func253
def wZ (a0:(List ai.D)) (a1:(List ai.D)):Int→Option (Int⊕(Int⊕Bool)):=fun s1 =>
 bif decide (s1 < (a0.length:Int)) then (
 idx a0 s1 fun x2 =>
 idx a1 s1 fun x3 =>
(tM x2 x3).bind fun y4 =>
 bif (!y4) then (
 some (.inr (.inr false)))
 else (
 some (.inl (IntKind.wrap .i64 (s1 + 1)))))
 else (
 some (.inr (.inl s1)))
def qW (a0:(List ai.D)) (a1:(List ai.D)):Option Bool :=
 bif ((a0.length:Int) != (a1.length:Int)) then (
 some false)
 else (
(al (wZ a0 a1) 0).bind fun o5 =>
 match o5 with
| .inl s6=>(
 some true)
| .inr o7=>(
 some o7))
def Kr:Hints:=(n0 (n0 (nd (n0 (nd (.node none (some ⟨[.tmp 5 (.int .i64)],[some 0],some [.tmp 4 .bool],[]⟩) .none .none) .none)) .none)))
def Ks:Ct:=.pure true false (.pair (.slice ai) (.pair (.slice ai) .unit)) .bool (fun x=>qW x.1 x.2.1)
theorem Hr:KC 133 Ks:=pq (Ec Kq En) Kr Tryz.func133
def pL (a0:ar.D) (a1:ar.D):Option Bool :=
 bif (a0.1 != a1.1) then (
 some false)
 else (
 bif (a0.2.1 != a1.2.1) then (
 some false)
 else (
 bif (a0.2.2.1 != a1.2.2.1) then (
 some false)
 else (
 bif (a0.2.2.2.1 != a1.2.2.2.1) then (
 some false)
 else (
(jj a0.2.2.2.2.1 a1.2.2.2.2.1).bind fun y1 =>
 bif (!y1) then (
 some false)
 else (
(hU a0.2.2.2.2.2.1 a1.2.2.2.2.2.1).bind fun y2 =>
 bif (!y2) then (
 some false)
 else (
 bif (a0.2.2.2.2.2.2.1 != a1.2.2.2.2.2.2.1) then (
 some false)
 else (
 bif (a0.2.2.2.2.2.2.2.1 != a1.2.2.2.2.2.2.2.1) then (
 some false)
 else (
 some true))))))))
def Mo:Ct:=.pure true false (.pair ar (.pair ar .unit)) .bool (fun x=>pL x.1 x.2.1)
theorem Kt:KC 254 Mo:=pq (Ec oq (Ec qf En)) .none Tryz.func254
def Hs (a0:(List ar.D)) (a1:(List ar.D)):Int→Option (Int⊕(Int⊕Bool)):=fun s1 =>
 bif decide (s1 < (a0.length:Int)) then (
 idx a0 s1 fun x2 =>
 idx a1 s1 fun x3 =>
(pL x2 x3).bind fun y4 =>
 bif (!y4) then (
 some (.inr (.inr false)))
 else (
 some (.inl (IntKind.wrap .i64 (s1 + 1)))))
 else (
 some (.inr (.inl s1)))
def qX (a0:(List ar.D)) (a1:(List ar.D)):Option Bool :=
 bif ((a0.length:Int) != (a1.length:Int)) then (
 some false)
 else (
(al (Hs a0 a1) 0).bind fun o5 =>
 match o5 with
| .inl s6=>(
 some true)
| .inr o7=>(
 some o7))
def Ku:Hints:=(n0 (n0 (nd (n0 (nd (.node none (some ⟨[.tmp 5 (.int .i64)],[some 0],some [.tmp 4 .bool],[]⟩) .none .none) .none)) .none)))
def Kv:Ct:=.pure true false (.pair (.slice ar) (.pair (.slice ar) .unit)) .bool (fun x=>qX x.1 x.2.1)
theorem Ht:KC 134 Kv:=pq (Ec Kt En) Ku Tryz.func134
def iS (a0:T_Game.D) (a1:T_Game.D):Option Bool :=
(qU a0.1 a1.1).bind fun y1 =>
 bif (!y1) then (
 some false)
 else (
(mO a0.2.1 a1.2.1).bind fun y2 =>
 bif (!y2) then (
 some false)
 else (
(tL a0.2.2.1 a1.2.2.1).bind fun y3 =>
 bif (!y3) then (
 some false)
 else (
(kF a0.2.2.2.1 a1.2.2.2.1).bind fun y4 =>
 bif (!y4) then (
 some false)
 else (
(qW a0.2.2.2.2.1 a1.2.2.2.2.1).bind fun y5 =>
 bif (!y5) then (
 some false)
 else (
(qX a0.2.2.2.2.2.1 a1.2.2.2.2.2.1).bind fun y6 =>
 bif (!y6) then (
 some false)
 else (
 some true))))))
def Mp:Ct:=.pure true false (.pair T_Game (.pair T_Game .unit)) .bool (fun x=>iS x.1 x.2.1)
theorem Kw:KC 27 Mp:=pq (Ec Hm (Ec DB (Ec Kp (Ec BZ (Ec Hr (Ec Ht En)))))) .none Tryz.func27
def mQ (a0:T_Order.D) (a1:T_Order.D):Option Bool :=
 bif (a0.1 != a1.1) then (
 some false)
 else (
(hY a0.2.1 a1.2.1).bind fun y1 =>
 bif (!y1) then (
 some false)
 else (
 bif (a0.2.2.1 != a1.2.2.1) then (
 some false)
 else (
(hU a0.2.2.2.1 a1.2.2.2.1).bind fun y2 =>
 bif (!y2) then (
 some false)
 else (
 some true))))
def Kx:Ct:=.pure true false (.pair T_Order (.pair T_Order .unit)) .bool (fun x=>mQ x.1 x.2.1)
theorem Hu:KC 28 Kx:=pq (Ec oq (Ec vh En)) .none Tryz.func28
def Fo (a0:(List T_Order.D)) (a1:(List T_Order.D)):Int→Option (Int⊕(Int⊕Bool)):=fun s1 =>
 bif decide (s1 < (a0.length:Int)) then (
 idx a0 s1 fun x2 =>
 idx a1 s1 fun x3 =>
(mQ x2 x3).bind fun y4 =>
 bif (!y4) then (
 some (.inr (.inr false)))
 else (
 some (.inl (IntKind.wrap .i64 (s1 + 1)))))
 else (
 some (.inr (.inl s1)))
def oR (a0:(List T_Order.D)) (a1:(List T_Order.D)):Option Bool :=
 bif ((a0.length:Int) != (a1.length:Int)) then (
 some false)
 else (
(al (Fo a0 a1) 0).bind fun o5 =>
 match o5 with
| .inl s6=>(
 some true)
| .inr o7=>(
 some o7))
def Hv:Hints:=(n0 (n0 (nd (n0 (nd (.node none (some ⟨[.tmp 5 (.int .i64)],[some 0],some [.tmp 4 .bool],[]⟩) .none .none) .none)) .none)))
def Hw:Ct:=.pure true false (.pair (.slice T_Order) (.pair (.slice T_Order) .unit)) .bool (fun x=>oR x.1 x.2.1)
theorem Fp:KC 36 Hw:=pq (Ec Hu En) Hv Tryz.func36
def gG:((List ah.D)×(Int×Int))→Option (((List ah.D)×(Int×Int))⊕((List ah.D)×(Int×Int))):=fun s2 =>
 bif decide (s2.2.2 < (s2.1.length:Int)) then (
 idx s2.1 s2.2.2 fun _ =>
(s2.1[(s2.2.2:Int).toNat]?).bind fun x3 =>
 let u4:(List ah.D):=s2.1.set (s2.2.2:Int).toNat (s2.2.1,x3.2)
 idx u4 s2.2.2 fun _ =>
(u4[(s2.2.2:Int).toNat]?).bind fun x5 =>
 let u6:(List ah.D):=u4.set (s2.2.2:Int).toNat (x5.1,IntKind.wrap .i64 (s2.2.1 + 1),x5.2.2)
 idx u6 s2.2.2 fun _ =>
(u6[(s2.2.2:Int).toNat]?).bind fun x7 =>
 let u8:(List ah.D):=u6.set (s2.2.2:Int).toNat (x7.1,x7.2.1,IntKind.wrap .i64 ((IntKind.wrap .i64 (s2.2.1 + 1)) + 1),x7.2.2.2)
 let k9:Int:=IntKind.wrap .i64 ((IntKind.wrap .i64 ((IntKind.wrap .i64 (s2.2.1 + 1)) + 1)) + 1)
 idx u8 s2.2.2 fun _ =>
(u8[(s2.2.2:Int).toNat]?).bind fun x10 =>
 let u11:(List ah.D):=u8.set (s2.2.2:Int).toNat (x10.1,x10.2.1,x10.2.2.1,k9,x10.2.2.2.2)
 idx u11 s2.2.2 fun _ =>
(u11[(s2.2.2:Int).toNat]?).bind fun x12 =>
 let u13:(List ah.D):=u11.set (s2.2.2:Int).toNat (x12.1,x12.2.1,x12.2.2.1,x12.2.2.2.1,IntKind.wrap .i64 (k9 + 1),x12.2.2.2.2.2)
 idx u13 s2.2.2 fun _ =>
(u13[(s2.2.2:Int).toNat]?).bind fun x14 =>
 let u15:(List ah.D):=u13.set (s2.2.2:Int).toNat (x14.1,x14.2.1,x14.2.2.1,x14.2.2.2.1,x14.2.2.2.2.1,IntKind.wrap .i64 ((IntKind.wrap .i64 (k9 + 1)) + 1),x14.2.2.2.2.2.2)
 let k16:Int:=IntKind.wrap .i64 ((IntKind.wrap .i64 ((IntKind.wrap .i64 (k9 + 1)) + 1)) + 1)
 idx u15 s2.2.2 fun _ =>
(u15[(s2.2.2:Int).toNat]?).bind fun x17 =>
 let u18:(List ah.D):=u15.set (s2.2.2:Int).toNat (x17.1,x17.2.1,x17.2.2.1,x17.2.2.2.1,x17.2.2.2.2.1,x17.2.2.2.2.2.1,k16,x17.2.2.2.2.2.2.2)
 idx u18 s2.2.2 fun _ =>
(u18[(s2.2.2:Int).toNat]?).bind fun x19 =>
 let u20:(List ah.D):=u18.set (s2.2.2:Int).toNat (x19.1,x19.2.1,x19.2.2.1,x19.2.2.2.1,x19.2.2.2.2.1,x19.2.2.2.2.2.1,x19.2.2.2.2.2.2.1,IntKind.wrap .i64 (k16 + 1),x19.2.2.2.2.2.2.2.2)
 idx u20 s2.2.2 fun _ =>
(u20[(s2.2.2:Int).toNat]?).bind fun x21 =>
 let u22:(List ah.D):=u20.set (s2.2.2:Int).toNat (x21.1,x21.2.1,x21.2.2.1,x21.2.2.2.1,x21.2.2.2.2.1,x21.2.2.2.2.2.1,x21.2.2.2.2.2.2.1,x21.2.2.2.2.2.2.2.1,IntKind.wrap .i64 ((IntKind.wrap .i64 (k16 + 1)) + 1),x21.2.2.2.2.2.2.2.2.2)
 let k23:Int:=IntKind.wrap .i64 ((IntKind.wrap .i64 ((IntKind.wrap .i64 (k16 + 1)) + 1)) + 1)
 idx u22 s2.2.2 fun _ =>
(u22[(s2.2.2:Int).toNat]?).bind fun x24 =>
 let u25:(List ah.D):=u22.set (s2.2.2:Int).toNat (x24.1,x24.2.1,x24.2.2.1,x24.2.2.2.1,x24.2.2.2.2.1,x24.2.2.2.2.2.1,x24.2.2.2.2.2.2.1,x24.2.2.2.2.2.2.2.1,x24.2.2.2.2.2.2.2.2.1,k23,x24.2.2.2.2.2.2.2.2.2.2)
 idx u25 s2.2.2 fun _ =>
(u25[(s2.2.2:Int).toNat]?).bind fun x26 =>
 let u27:(List ah.D):=u25.set (s2.2.2:Int).toNat (x26.1,x26.2.1,x26.2.2.1,x26.2.2.2.1,x26.2.2.2.2.1,x26.2.2.2.2.2.1,x26.2.2.2.2.2.2.1,x26.2.2.2.2.2.2.2.1,x26.2.2.2.2.2.2.2.2.1,x26.2.2.2.2.2.2.2.2.2.1,IntKind.wrap .i64 (k23 + 1),x26.2.2.2.2.2.2.2.2.2.2.2)
 if 3=0 then none else (
 let k28:Int:=(IntKind.wrap .i64 ((IntKind.wrap .i64 (k23 + 1)) + 1)).tmod 3
 idx u27 s2.2.2 fun _ =>
(u27[(s2.2.2:Int).toNat]?).bind fun x29 =>
 let u30:(List ah.D):=u27.set (s2.2.2:Int).toNat (x29.1,x29.2.1,x29.2.2.1,x29.2.2.2.1,x29.2.2.2.2.1,x29.2.2.2.2.2.1,x29.2.2.2.2.2.2.1,x29.2.2.2.2.2.2.2.1,x29.2.2.2.2.2.2.2.2.1,x29.2.2.2.2.2.2.2.2.2.1,x29.2.2.2.2.2.2.2.2.2.2.1,(k28 == 0),x29.2.2.2.2.2.2.2.2.2.2.2.2)
 let k31:Int:=IntKind.wrap .i64 ((IntKind.wrap .i64 ((IntKind.wrap .i64 (k23 + 1)) + 1)) + 1)
 if 3=0 then none else (
 idx u30 s2.2.2 fun _ =>
(u30[(s2.2.2:Int).toNat]?).bind fun x32 =>
 let u33:(List ah.D):=u30.set (s2.2.2:Int).toNat (x32.1,x32.2.1,x32.2.2.1,x32.2.2.2.1,x32.2.2.2.2.1,x32.2.2.2.2.2.1,x32.2.2.2.2.2.2.1,x32.2.2.2.2.2.2.2.1,x32.2.2.2.2.2.2.2.2.1,x32.2.2.2.2.2.2.2.2.2.1,x32.2.2.2.2.2.2.2.2.2.2.1,x32.2.2.2.2.2.2.2.2.2.2.2.1,((k31.tmod 3) == 0),())
 some (.inl (u33,IntKind.wrap .i64 (k31 + 1),IntKind.wrap .i64 (s2.2.2 + 1))))))
 else (
 some (.inr s2))
def kG (a0:(List ah.D)) (a1:Int):Option (Int×((List ah.D)×Unit)) :=
(al (gG) (a0,a1,0)).bind fun o34 =>
 some (o34.2.1,(o34.1,()))
def DF:Hints:=(n0 (nd (n0 (nd (.node none (some ⟨[.tmpO 0 1 (.slice ah),.tmp 1 (.int .i64),.tmp 5 (.int .i64)],[some 0],none,[]⟩) .none .none) .none)) .none))
def DG:Ct:=.mut [.lent,.rd] true true (.pair (.slice ah) (.pair (.int .i64) .unit)) (.int .i64) (fun x=>kG x.1 x.2.1)
theorem B0:KC 170 DG:=mq En DF Tryz.func170
def ig:((List au.D)×(Int×Int))→Option (((List au.D)×(Int×Int))⊕((List au.D)×(Int×Int))):=fun s2 =>
 bif decide (s2.2.2 < (s2.1.length:Int)) then (
 idx s2.1 s2.2.2 fun _ =>
(s2.1[(s2.2.2:Int).toNat]?).bind fun x3 =>
 let u4:(List au.D):=s2.1.set (s2.2.2:Int).toNat (s2.2.1,x3.2)
 idx u4 s2.2.2 fun _ =>
(u4[(s2.2.2:Int).toNat]?).bind fun x5 =>
 let u6:(List au.D):=u4.set (s2.2.2:Int).toNat (x5.1,IntKind.wrap .i64 (s2.2.1 + 1),x5.2.2)
 if 3=0 then none else (
 let k7:Int:=(IntKind.wrap .i64 ((IntKind.wrap .i64 (s2.2.1 + 1)) + 1)).tmod 3
 idx u6 s2.2.2 fun _ =>
(u6[(s2.2.2:Int).toNat]?).bind fun x8 =>
 let u9:(List au.D):=u6.set (s2.2.2:Int).toNat (x8.1,x8.2.1,(k7 == 0),())
 let k10:Int:=IntKind.wrap .i64 ((IntKind.wrap .i64 ((IntKind.wrap .i64 (s2.2.1 + 1)) + 1)) + 1)
 some (.inl (u9,k10,IntKind.wrap .i64 (s2.2.2 + 1)))))
 else (
 some (.inr s2))
def mR (a0:(List au.D)) (a1:Int):Option (Int×((List au.D)×Unit)) :=
(al (ig) (a0,a1,0)).bind fun o11 =>
 some (o11.2.1,(o11.1,()))
def Fq:Hints:=(n0 (nd (n0 (nd (.node none (some ⟨[.tmpO 0 1 (.slice au),.tmp 1 (.int .i64),.tmp 5 (.int .i64)],[some 0],none,[]⟩) .none .none) .none)) .none))
def Fr:Ct:=.mut [.lent,.rd] true true (.pair (.slice au) (.pair (.int .i64) .unit)) (.int .i64) (fun x=>mR x.1 x.2.1)
theorem DH:KC 171 Fr:=mq En Fq Tryz.func171
def mS (a0:ae.D) (a1:Int):Option (Int×(ae.D×Unit)) :=
(kG a0.1 a1).bind fun y1 =>
(mR a0.2.1 y1.1).bind fun y2 =>
 some (y2.1,((y1.2.1,y2.2.1,a0.2.2),()))
def Fs:Ct:=.mut [.lent,.rd] true true (.pair ae (.pair (.int .i64) .unit)) (.int .i64) (fun x=>mS x.1 x.2.1)
theorem DI:KC 57 Fs:=mq (Ec B0 (Ec DH En)) .none Tryz.func57
def gH:((List ac.D)×(Int×Int))→Option (((List ac.D)×(Int×Int))⊕((List ac.D)×(Int×Int))):=fun s2 =>
 bif decide (s2.2.2 < (s2.1.length:Int)) then (
 idx s2.1 s2.2.2 fun _ =>
(s2.1[(s2.2.2:Int).toNat]?).bind fun x3 =>
 let u4:(List ac.D):=s2.1.set (s2.2.2:Int).toNat (s2.2.1,x3.2)
 idx u4 s2.2.2 fun _ =>
(u4[(s2.2.2:Int).toNat]?).bind fun x5 =>
 let u6:(List ac.D):=u4.set (s2.2.2:Int).toNat (x5.1,IntKind.wrap .i64 (s2.2.1 + 1),x5.2.2)
 idx u6 s2.2.2 fun _ =>
(u6[(s2.2.2:Int).toNat]?).bind fun x7 =>
 let u8:(List ac.D):=u6.set (s2.2.2:Int).toNat (x7.1,x7.2.1,IntKind.wrap .i64 ((IntKind.wrap .i64 (s2.2.1 + 1)) + 1),x7.2.2.2)
 let k9:Int:=IntKind.wrap .i64 ((IntKind.wrap .i64 ((IntKind.wrap .i64 (s2.2.1 + 1)) + 1)) + 1)
 idx u8 s2.2.2 fun _ =>
(u8[(s2.2.2:Int).toNat]?).bind fun x10 =>
 let u11:(List ac.D):=u8.set (s2.2.2:Int).toNat (x10.1,x10.2.1,x10.2.2.1,k9,x10.2.2.2.2)
 idx u11 s2.2.2 fun _ =>
(u11[(s2.2.2:Int).toNat]?).bind fun x12 =>
 let u13:(List ac.D):=u11.set (s2.2.2:Int).toNat (x12.1,x12.2.1,x12.2.2.1,x12.2.2.2.1,IntKind.wrap .i64 (k9 + 1),x12.2.2.2.2.2)
 idx u13 s2.2.2 fun _ =>
(u13[(s2.2.2:Int).toNat]?).bind fun x14 =>
 let u15:(List ac.D):=u13.set (s2.2.2:Int).toNat (x14.1,x14.2.1,x14.2.2.1,x14.2.2.2.1,x14.2.2.2.2.1,IntKind.wrap .i64 ((IntKind.wrap .i64 (k9 + 1)) + 1),x14.2.2.2.2.2.2)
 let k16:Int:=IntKind.wrap .i64 ((IntKind.wrap .i64 ((IntKind.wrap .i64 (k9 + 1)) + 1)) + 1)
 if 3=0 then none else (
 idx u15 s2.2.2 fun _ =>
(u15[(s2.2.2:Int).toNat]?).bind fun x17 =>
 let u18:(List ac.D):=u15.set (s2.2.2:Int).toNat (x17.1,x17.2.1,x17.2.2.1,x17.2.2.2.1,x17.2.2.2.2.1,x17.2.2.2.2.2.1,((k16.tmod 3) == 0),())
 some (.inl (u18,IntKind.wrap .i64 (k16 + 1),IntKind.wrap .i64 (s2.2.2 + 1)))))
 else (
 some (.inr s2))
def bQ (a0:(List ac.D)) (a1:Int):Option (Int×((List ac.D)×Unit)) :=
(al (gH) (a0,a1,0)).bind fun o19 =>
 some (o19.2.1,(o19.1,()))
def DJ:Hints:=(n0 (nd (n0 (nd (.node none (some ⟨[.tmpO 0 1 (.slice ac),.tmp 1 (.int .i64),.tmp 5 (.int .i64)],[some 0],none,[]⟩) .none .none) .none)) .none))
def DK:Ct:=.mut [.lent,.rd] true true (.pair (.slice ac) (.pair (.int .i64) .unit)) (.int .i64) (fun x=>bQ x.1 x.2.1)
theorem kZ:KC 67 DK:=mq En DJ Tryz.func67
def fP:((List aa.D)×(Int×Int))→Option (((List aa.D)×(Int×Int))⊕((List aa.D)×(Int×Int))):=fun s2 =>
 bif decide (s2.2.2 < (s2.1.length:Int)) then (
 idx s2.1 s2.2.2 fun _ =>
(s2.1[(s2.2.2:Int).toNat]?).bind fun x3 =>
 let u4:(List aa.D):=s2.1.set (s2.2.2:Int).toNat (s2.2.1,x3.2)
 idx u4 s2.2.2 fun _ =>
(u4[(s2.2.2:Int).toNat]?).bind fun x5 =>
 let u6:(List aa.D):=u4.set (s2.2.2:Int).toNat (x5.1,IntKind.wrap .i64 (s2.2.1 + 1),x5.2.2)
 idx u6 s2.2.2 fun _ =>
(u6[(s2.2.2:Int).toNat]?).bind fun x7 =>
 let u8:(List aa.D):=u6.set (s2.2.2:Int).toNat (x7.1,x7.2.1,IntKind.wrap .i64 ((IntKind.wrap .i64 (s2.2.1 + 1)) + 1),x7.2.2.2)
 let k9:Int:=IntKind.wrap .i64 ((IntKind.wrap .i64 ((IntKind.wrap .i64 (s2.2.1 + 1)) + 1)) + 1)
 idx u8 s2.2.2 fun _ =>
(u8[(s2.2.2:Int).toNat]?).bind fun x10 =>
 let u11:(List aa.D):=u8.set (s2.2.2:Int).toNat (x10.1,x10.2.1,x10.2.2.1,k9,x10.2.2.2.2)
 idx u11 s2.2.2 fun _ =>
(u11[(s2.2.2:Int).toNat]?).bind fun x12 =>
 let u13:(List aa.D):=u11.set (s2.2.2:Int).toNat (x12.1,x12.2.1,x12.2.2.1,x12.2.2.2.1,(IntKind.wrap .i64 (k9 + 1),x12.2.2.2.2.1.2),x12.2.2.2.2.2)
 idx u13 s2.2.2 fun _ =>
(u13[(s2.2.2:Int).toNat]?).bind fun x14 =>
 let u15:(List aa.D):=u13.set (s2.2.2:Int).toNat (x14.1,x14.2.1,x14.2.2.1,x14.2.2.2.1,(x14.2.2.2.2.1.1,IntKind.wrap .i64 ((IntKind.wrap .i64 (k9 + 1)) + 1),x14.2.2.2.2.1.2.2),x14.2.2.2.2.2)
 let k16:Int:=IntKind.wrap .i64 ((IntKind.wrap .i64 ((IntKind.wrap .i64 (k9 + 1)) + 1)) + 1)
 idx u15 s2.2.2 fun _ =>
(u15[(s2.2.2:Int).toNat]?).bind fun x17 =>
 let u18:(List aa.D):=u15.set (s2.2.2:Int).toNat (x17.1,x17.2.1,x17.2.2.1,x17.2.2.2.1,(x17.2.2.2.2.1.1,x17.2.2.2.2.1.2.1,k16,x17.2.2.2.2.1.2.2.2),x17.2.2.2.2.2)
 idx u18 s2.2.2 fun _ =>
(u18[(s2.2.2:Int).toNat]?).bind fun x19 =>
 let u20:(List aa.D):=u18.set (s2.2.2:Int).toNat (x19.1,x19.2.1,x19.2.2.1,x19.2.2.2.1,(x19.2.2.2.2.1.1,x19.2.2.2.2.1.2.1,x19.2.2.2.2.1.2.2.1,IntKind.wrap .i64 (k16 + 1),x19.2.2.2.2.1.2.2.2.2),x19.2.2.2.2.2)
 idx u20 s2.2.2 fun _ =>
(u20[(s2.2.2:Int).toNat]?).bind fun x21 =>
 let u22:(List aa.D):=u20.set (s2.2.2:Int).toNat (x21.1,x21.2.1,x21.2.2.1,x21.2.2.2.1,(x21.2.2.2.2.1.1,x21.2.2.2.2.1.2.1,x21.2.2.2.2.1.2.2.1,x21.2.2.2.2.1.2.2.2.1,IntKind.wrap .i64 ((IntKind.wrap .i64 (k16 + 1)) + 1),x21.2.2.2.2.1.2.2.2.2.2),x21.2.2.2.2.2)
 let k23:Int:=IntKind.wrap .i64 ((IntKind.wrap .i64 ((IntKind.wrap .i64 (k16 + 1)) + 1)) + 1)
 idx u22 s2.2.2 fun _ =>
(u22[(s2.2.2:Int).toNat]?).bind fun x24 =>
 let u25:(List aa.D):=u22.set (s2.2.2:Int).toNat (x24.1,x24.2.1,x24.2.2.1,x24.2.2.2.1,(x24.2.2.2.2.1.1,x24.2.2.2.2.1.2.1,x24.2.2.2.2.1.2.2.1,x24.2.2.2.2.1.2.2.2.1,x24.2.2.2.2.1.2.2.2.2.1,k23,x24.2.2.2.2.1.2.2.2.2.2.2),x24.2.2.2.2.2)
 idx u25 s2.2.2 fun _ =>
(u25[(s2.2.2:Int).toNat]?).bind fun x26 =>
 let u27:(List aa.D):=u25.set (s2.2.2:Int).toNat (x26.1,x26.2.1,x26.2.2.1,x26.2.2.2.1,(x26.2.2.2.2.1.1,x26.2.2.2.2.1.2.1,x26.2.2.2.2.1.2.2.1,x26.2.2.2.2.1.2.2.2.1,x26.2.2.2.2.1.2.2.2.2.1,x26.2.2.2.2.1.2.2.2.2.2.1,IntKind.wrap .i64 (k23 + 1),()),x26.2.2.2.2.2)
 idx u27 s2.2.2 fun _ =>
(u27[(s2.2.2:Int).toNat]?).bind fun x28 =>
 let u29:(List aa.D):=u27.set (s2.2.2:Int).toNat (x28.1,x28.2.1,x28.2.2.1,x28.2.2.2.1,x28.2.2.2.2.1,(IntKind.wrap .i64 ((IntKind.wrap .i64 (k23 + 1)) + 1),x28.2.2.2.2.2.1.2),x28.2.2.2.2.2.2)
 let k30:Int:=IntKind.wrap .i64 ((IntKind.wrap .i64 ((IntKind.wrap .i64 (k23 + 1)) + 1)) + 1)
 idx u29 s2.2.2 fun _ =>
(u29[(s2.2.2:Int).toNat]?).bind fun x31 =>
 let u32:(List aa.D):=u29.set (s2.2.2:Int).toNat (x31.1,x31.2.1,x31.2.2.1,x31.2.2.2.1,x31.2.2.2.2.1,(x31.2.2.2.2.2.1.1,k30,()),x31.2.2.2.2.2.2)
 idx u32 s2.2.2 fun _ =>
(u32[(s2.2.2:Int).toNat]?).bind fun x33 =>
 let u34:(List aa.D):=u32.set (s2.2.2:Int).toNat (x33.1,x33.2.1,x33.2.2.1,x33.2.2.2.1,x33.2.2.2.2.1,x33.2.2.2.2.2.1,(IntKind.wrap .i64 (k30 + 1),x33.2.2.2.2.2.2.1.2),x33.2.2.2.2.2.2.2)
 idx u34 s2.2.2 fun _ =>
(u34[(s2.2.2:Int).toNat]?).bind fun x35 =>
 let u36:(List aa.D):=u34.set (s2.2.2:Int).toNat (x35.1,x35.2.1,x35.2.2.1,x35.2.2.2.1,x35.2.2.2.2.1,x35.2.2.2.2.2.1,(x35.2.2.2.2.2.2.1.1,IntKind.wrap .i64 ((IntKind.wrap .i64 (k30 + 1)) + 1),x35.2.2.2.2.2.2.1.2.2),x35.2.2.2.2.2.2.2)
 let k37:Int:=IntKind.wrap .i64 ((IntKind.wrap .i64 ((IntKind.wrap .i64 (k30 + 1)) + 1)) + 1)
 idx u36 s2.2.2 fun _ =>
(u36[(s2.2.2:Int).toNat]?).bind fun x38 =>
 let u39:(List aa.D):=u36.set (s2.2.2:Int).toNat (x38.1,x38.2.1,x38.2.2.1,x38.2.2.2.1,x38.2.2.2.2.1,x38.2.2.2.2.2.1,(x38.2.2.2.2.2.2.1.1,x38.2.2.2.2.2.2.1.2.1,k37,x38.2.2.2.2.2.2.1.2.2.2),x38.2.2.2.2.2.2.2)
 idx u39 s2.2.2 fun _ =>
(u39[(s2.2.2:Int).toNat]?).bind fun x40 =>
 let u41:(List aa.D):=u39.set (s2.2.2:Int).toNat (x40.1,x40.2.1,x40.2.2.1,x40.2.2.2.1,x40.2.2.2.2.1,x40.2.2.2.2.2.1,(x40.2.2.2.2.2.2.1.1,x40.2.2.2.2.2.2.1.2.1,x40.2.2.2.2.2.2.1.2.2.1,IntKind.wrap .i64 (k37 + 1),x40.2.2.2.2.2.2.1.2.2.2.2),x40.2.2.2.2.2.2.2)
 idx u41 s2.2.2 fun _ =>
(u41[(s2.2.2:Int).toNat]?).bind fun x42 =>
 let u43:(List aa.D):=u41.set (s2.2.2:Int).toNat (x42.1,x42.2.1,x42.2.2.1,x42.2.2.2.1,x42.2.2.2.2.1,x42.2.2.2.2.2.1,(x42.2.2.2.2.2.2.1.1,x42.2.2.2.2.2.2.1.2.1,x42.2.2.2.2.2.2.1.2.2.1,x42.2.2.2.2.2.2.1.2.2.2.1,IntKind.wrap .i64 ((IntKind.wrap .i64 (k37 + 1)) + 1),x42.2.2.2.2.2.2.1.2.2.2.2.2),x42.2.2.2.2.2.2.2)
 let k44:Int:=IntKind.wrap .i64 ((IntKind.wrap .i64 ((IntKind.wrap .i64 (k37 + 1)) + 1)) + 1)
 if 3=0 then none else (
 idx u43 s2.2.2 fun _ =>
(u43[(s2.2.2:Int).toNat]?).bind fun x45 =>
 let u46:(List aa.D):=u43.set (s2.2.2:Int).toNat (x45.1,x45.2.1,x45.2.2.1,x45.2.2.2.1,x45.2.2.2.2.1,x45.2.2.2.2.2.1,(x45.2.2.2.2.2.2.1.1,x45.2.2.2.2.2.2.1.2.1,x45.2.2.2.2.2.2.1.2.2.1,x45.2.2.2.2.2.2.1.2.2.2.1,x45.2.2.2.2.2.2.1.2.2.2.2.1,((k44.tmod 3) == 0),x45.2.2.2.2.2.2.1.2.2.2.2.2.2),x45.2.2.2.2.2.2.2)
 idx u46 s2.2.2 fun _ =>
(u46[(s2.2.2:Int).toNat]?).bind fun x47 =>
(bQ x47.2.2.2.2.2.2.1.2.2.2.2.2.2.1 (IntKind.wrap .i64 (k44 + 1))).bind fun y48 =>
 let u49:(List aa.D):=u46.set (s2.2.2:Int).toNat (x47.1,x47.2.1,x47.2.2.1,x47.2.2.2.1,x47.2.2.2.2.1,x47.2.2.2.2.2.1,(x47.2.2.2.2.2.2.1.1,x47.2.2.2.2.2.2.1.2.1,x47.2.2.2.2.2.2.1.2.2.1,x47.2.2.2.2.2.2.1.2.2.2.1,x47.2.2.2.2.2.2.1.2.2.2.2.1,x47.2.2.2.2.2.2.1.2.2.2.2.2.1,y48.2),x47.2.2.2.2.2.2.2)
 idx u49 s2.2.2 fun _ =>
(u49[(s2.2.2:Int).toNat]?).bind fun x50 =>
 let u51:(List aa.D):=u49.set (s2.2.2:Int).toNat (x50.1,x50.2.1,x50.2.2.1,x50.2.2.2.1,x50.2.2.2.2.1,x50.2.2.2.2.2.1,x50.2.2.2.2.2.2.1,y48.1,x50.2.2.2.2.2.2.2.2)
 idx u51 s2.2.2 fun _ =>
(u51[(s2.2.2:Int).toNat]?).bind fun x52 =>
 let u53:(List aa.D):=u51.set (s2.2.2:Int).toNat (x52.1,x52.2.1,x52.2.2.1,x52.2.2.2.1,x52.2.2.2.2.1,x52.2.2.2.2.2.1,x52.2.2.2.2.2.2.1,x52.2.2.2.2.2.2.2.1,IntKind.wrap .i64 (y48.1 + 1),())
 some (.inl (u53,IntKind.wrap .i64 ((IntKind.wrap .i64 (y48.1 + 1)) + 1),IntKind.wrap .i64 (s2.2.2 + 1)))))
 else (
 some (.inr s2))
def jk (a0:(List aa.D)) (a1:Int):Option (Int×((List aa.D)×Unit)) :=
(al (fP) (a0,a1,0)).bind fun o54 =>
 some (o54.2.1,(o54.1,()))
def B1:Hints:=(n0 (nd (n0 (nd (.node none (some ⟨[.tmpO 0 1 (.slice aa),.tmp 1 (.int .i64),.tmp 5 (.int .i64)],[some 0],none,[]⟩) (n0 (nd (nd (n0 (n0 (n0 (n0 (n0 (n0 (n0 (n0 (n0 (n0 (n0 (n0 (n0 (n0 (n0 (n0 (n0 (n0 (n0 (n0 (n0 (n0 (n0 (n0 (n0 (n0 (n0 (n0 (n0 (n0 (n0 (n0 (n0 (n0 (n0 (n0 (n0 (n0 (nd (.node none (some ⟨[],[],none,[(5,0)]⟩) .none .none) .none))))))))))))))))))))))))))))))))))))))) .none) .none)) .none) .none)) .none))
def B2:Ct:=.mut [.lent,.rd] true true (.pair (.slice aa) (.pair (.int .i64) .unit)) (.int .i64) (fun x=>jk x.1 x.2.1)
theorem AE:KC 58 B2:=mq (Ec kZ En) B1 Tryz.func58
def jl:((List Int)×(Int×Int))→Option (((List Int)×(Int×Int))⊕((List Int)×(Int×Int))):=fun s2 =>
 bif decide (s2.2.2 < (s2.1.length:Int)) then (
 idx s2.1 s2.2.2 fun _ =>
(s2.1[(s2.2.2:Int).toNat]?).bind fun x3 =>
 let u4:(List Int):=s2.1.set (s2.2.2:Int).toNat s2.2.1
 some (.inl (u4,IntKind.wrap .i64 (s2.2.1 + 1),IntKind.wrap .i64 (s2.2.2 + 1))))
 else (
 some (.inr s2))
def oS (a0:(List Int)) (a1:Int):Option (Int×((List Int)×Unit)) :=
(al (jl) (a0,a1,0)).bind fun o5 =>
 some (o5.2.1,(o5.1,()))
def Hx:Hints:=(n0 (nd (n0 (nd (.node none (some ⟨[.tmpO 0 1 (.slice (.int .i64)),.tmp 1 (.int .i64),.tmp 5 (.int .i64)],[some 0],none,[]⟩) .none .none) .none)) .none))
def Hy:Ct:=.mut [.lent,.rd] true true (.pair (.slice (.int .i64)) (.pair (.int .i64) .unit)) (.int .i64) (fun x=>oS x.1 x.2.1)
theorem Ft:KC 59 Hy:=mq En Hx Tryz.func59
def fy:((List af.D)×(Int×Int))→Option (((List af.D)×(Int×Int))⊕((List af.D)×(Int×Int))):=fun s2 =>
 bif decide (s2.2.2 < (s2.1.length:Int)) then (
 idx s2.1 s2.2.2 fun _ =>
(s2.1[(s2.2.2:Int).toNat]?).bind fun x3 =>
 let u4:(List af.D):=s2.1.set (s2.2.2:Int).toNat (s2.2.1,x3.2)
 idx u4 s2.2.2 fun _ =>
(u4[(s2.2.2:Int).toNat]?).bind fun x5 =>
 let u6:(List af.D):=u4.set (s2.2.2:Int).toNat (x5.1,IntKind.wrap .i64 (s2.2.1 + 1),x5.2.2)
 idx u6 s2.2.2 fun _ =>
(u6[(s2.2.2:Int).toNat]?).bind fun x7 =>
 let u8:(List af.D):=u6.set (s2.2.2:Int).toNat (x7.1,x7.2.1,IntKind.wrap .i64 ((IntKind.wrap .i64 (s2.2.1 + 1)) + 1),x7.2.2.2)
 let k9:Int:=IntKind.wrap .i64 ((IntKind.wrap .i64 ((IntKind.wrap .i64 (s2.2.1 + 1)) + 1)) + 1)
 idx u8 s2.2.2 fun _ =>
(u8[(s2.2.2:Int).toNat]?).bind fun x10 =>
 let u11:(List af.D):=u8.set (s2.2.2:Int).toNat (x10.1,x10.2.1,x10.2.2.1,(k9,x10.2.2.2.1.2),())
 idx u11 s2.2.2 fun _ =>
(u11[(s2.2.2:Int).toNat]?).bind fun x12 =>
 let u13:(List af.D):=u11.set (s2.2.2:Int).toNat (x12.1,x12.2.1,x12.2.2.1,(x12.2.2.2.1.1,IntKind.wrap .i64 (k9 + 1),x12.2.2.2.1.2.2),())
 idx u13 s2.2.2 fun _ =>
(u13[(s2.2.2:Int).toNat]?).bind fun x14 =>
 let u15:(List af.D):=u13.set (s2.2.2:Int).toNat (x14.1,x14.2.1,x14.2.2.1,(x14.2.2.2.1.1,x14.2.2.2.1.2.1,IntKind.wrap .i64 ((IntKind.wrap .i64 (k9 + 1)) + 1),x14.2.2.2.1.2.2.2),())
 let k16:Int:=IntKind.wrap .i64 ((IntKind.wrap .i64 ((IntKind.wrap .i64 (k9 + 1)) + 1)) + 1)
 idx u15 s2.2.2 fun _ =>
(u15[(s2.2.2:Int).toNat]?).bind fun x17 =>
 let u18:(List af.D):=u15.set (s2.2.2:Int).toNat (x17.1,x17.2.1,x17.2.2.1,(x17.2.2.2.1.1,x17.2.2.2.1.2.1,x17.2.2.2.1.2.2.1,k16,x17.2.2.2.1.2.2.2.2),())
 idx u18 s2.2.2 fun _ =>
(u18[(s2.2.2:Int).toNat]?).bind fun x19 =>
 let u20:(List af.D):=u18.set (s2.2.2:Int).toNat (x19.1,x19.2.1,x19.2.2.1,(x19.2.2.2.1.1,x19.2.2.2.1.2.1,x19.2.2.2.1.2.2.1,x19.2.2.2.1.2.2.2.1,IntKind.wrap .i64 (k16 + 1),x19.2.2.2.1.2.2.2.2.2),())
 idx u20 s2.2.2 fun _ =>
(u20[(s2.2.2:Int).toNat]?).bind fun x21 =>
 let u22:(List af.D):=u20.set (s2.2.2:Int).toNat (x21.1,x21.2.1,x21.2.2.1,(x21.2.2.2.1.1,x21.2.2.2.1.2.1,x21.2.2.2.1.2.2.1,x21.2.2.2.1.2.2.2.1,x21.2.2.2.1.2.2.2.2.1,IntKind.wrap .i64 ((IntKind.wrap .i64 (k16 + 1)) + 1),x21.2.2.2.1.2.2.2.2.2.2),())
 let k23:Int:=IntKind.wrap .i64 ((IntKind.wrap .i64 ((IntKind.wrap .i64 (k16 + 1)) + 1)) + 1)
 idx u22 s2.2.2 fun _ =>
(u22[(s2.2.2:Int).toNat]?).bind fun x24 =>
 let u25:(List af.D):=u22.set (s2.2.2:Int).toNat (x24.1,x24.2.1,x24.2.2.1,(x24.2.2.2.1.1,x24.2.2.2.1.2.1,x24.2.2.2.1.2.2.1,x24.2.2.2.1.2.2.2.1,x24.2.2.2.1.2.2.2.2.1,x24.2.2.2.1.2.2.2.2.2.1,k23,x24.2.2.2.1.2.2.2.2.2.2.2),())
 idx u25 s2.2.2 fun _ =>
(u25[(s2.2.2:Int).toNat]?).bind fun x26 =>
 let u27:(List af.D):=u25.set (s2.2.2:Int).toNat (x26.1,x26.2.1,x26.2.2.1,(x26.2.2.2.1.1,x26.2.2.2.1.2.1,x26.2.2.2.1.2.2.1,x26.2.2.2.1.2.2.2.1,x26.2.2.2.1.2.2.2.2.1,x26.2.2.2.1.2.2.2.2.2.1,x26.2.2.2.1.2.2.2.2.2.2.1,IntKind.wrap .i64 (k23 + 1),x26.2.2.2.1.2.2.2.2.2.2.2.2),())
 idx u27 s2.2.2 fun _ =>
(u27[(s2.2.2:Int).toNat]?).bind fun x28 =>
 let u29:(List af.D):=u27.set (s2.2.2:Int).toNat (x28.1,x28.2.1,x28.2.2.1,(x28.2.2.2.1.1,x28.2.2.2.1.2.1,x28.2.2.2.1.2.2.1,x28.2.2.2.1.2.2.2.1,x28.2.2.2.1.2.2.2.2.1,x28.2.2.2.1.2.2.2.2.2.1,x28.2.2.2.1.2.2.2.2.2.2.1,x28.2.2.2.1.2.2.2.2.2.2.2.1,IntKind.wrap .i64 ((IntKind.wrap .i64 (k23 + 1)) + 1),x28.2.2.2.1.2.2.2.2.2.2.2.2.2),())
 let k30:Int:=IntKind.wrap .i64 ((IntKind.wrap .i64 ((IntKind.wrap .i64 (k23 + 1)) + 1)) + 1)
 idx u29 s2.2.2 fun _ =>
(u29[(s2.2.2:Int).toNat]?).bind fun x31 =>
 let u32:(List af.D):=u29.set (s2.2.2:Int).toNat (x31.1,x31.2.1,x31.2.2.1,(x31.2.2.2.1.1,x31.2.2.2.1.2.1,x31.2.2.2.1.2.2.1,x31.2.2.2.1.2.2.2.1,x31.2.2.2.1.2.2.2.2.1,x31.2.2.2.1.2.2.2.2.2.1,x31.2.2.2.1.2.2.2.2.2.2.1,x31.2.2.2.1.2.2.2.2.2.2.2.1,x31.2.2.2.1.2.2.2.2.2.2.2.2.1,k30,x31.2.2.2.1.2.2.2.2.2.2.2.2.2.2),())
 idx u32 s2.2.2 fun _ =>
(u32[(s2.2.2:Int).toNat]?).bind fun x33 =>
 let u34:(List af.D):=u32.set (s2.2.2:Int).toNat (x33.1,x33.2.1,x33.2.2.1,(x33.2.2.2.1.1,x33.2.2.2.1.2.1,x33.2.2.2.1.2.2.1,x33.2.2.2.1.2.2.2.1,x33.2.2.2.1.2.2.2.2.1,x33.2.2.2.1.2.2.2.2.2.1,x33.2.2.2.1.2.2.2.2.2.2.1,x33.2.2.2.1.2.2.2.2.2.2.2.1,x33.2.2.2.1.2.2.2.2.2.2.2.2.1,x33.2.2.2.1.2.2.2.2.2.2.2.2.2.1,IntKind.wrap .i64 (k30 + 1),x33.2.2.2.1.2.2.2.2.2.2.2.2.2.2.2),())
 if 3=0 then none else (
 let k35:Int:=(IntKind.wrap .i64 ((IntKind.wrap .i64 (k30 + 1)) + 1)).tmod 3
 idx u34 s2.2.2 fun _ =>
(u34[(s2.2.2:Int).toNat]?).bind fun x36 =>
 let u37:(List af.D):=u34.set (s2.2.2:Int).toNat (x36.1,x36.2.1,x36.2.2.1,(x36.2.2.2.1.1,x36.2.2.2.1.2.1,x36.2.2.2.1.2.2.1,x36.2.2.2.1.2.2.2.1,x36.2.2.2.1.2.2.2.2.1,x36.2.2.2.1.2.2.2.2.2.1,x36.2.2.2.1.2.2.2.2.2.2.1,x36.2.2.2.1.2.2.2.2.2.2.2.1,x36.2.2.2.1.2.2.2.2.2.2.2.2.1,x36.2.2.2.1.2.2.2.2.2.2.2.2.2.1,x36.2.2.2.1.2.2.2.2.2.2.2.2.2.2.1,(k35 == 0),x36.2.2.2.1.2.2.2.2.2.2.2.2.2.2.2.2),())
 let k38:Int:=IntKind.wrap .i64 ((IntKind.wrap .i64 ((IntKind.wrap .i64 (k30 + 1)) + 1)) + 1)
 if 3=0 then none else (
 idx u37 s2.2.2 fun _ =>
(u37[(s2.2.2:Int).toNat]?).bind fun x39 =>
 let u40:(List af.D):=u37.set (s2.2.2:Int).toNat (x39.1,x39.2.1,x39.2.2.1,(x39.2.2.2.1.1,x39.2.2.2.1.2.1,x39.2.2.2.1.2.2.1,x39.2.2.2.1.2.2.2.1,x39.2.2.2.1.2.2.2.2.1,x39.2.2.2.1.2.2.2.2.2.1,x39.2.2.2.1.2.2.2.2.2.2.1,x39.2.2.2.1.2.2.2.2.2.2.2.1,x39.2.2.2.1.2.2.2.2.2.2.2.2.1,x39.2.2.2.1.2.2.2.2.2.2.2.2.2.1,x39.2.2.2.1.2.2.2.2.2.2.2.2.2.2.1,x39.2.2.2.1.2.2.2.2.2.2.2.2.2.2.2.1,((k38.tmod 3) == 0),()),())
 some (.inl (u40,IntKind.wrap .i64 (k38 + 1),IntKind.wrap .i64 (s2.2.2 + 1))))))
 else (
 some (.inr s2))
def ii (a0:(List af.D)) (a1:Int):Option (Int×((List af.D)×Unit)) :=
(al (fy) (a0,a1,0)).bind fun o41 =>
 some (o41.2.1,(o41.1,()))
def AF:Hints:=(n0 (nd (n0 (nd (.node none (some ⟨[.tmpO 0 1 (.slice af),.tmp 1 (.int .i64),.tmp 5 (.int .i64)],[some 0],none,[]⟩) .none .none) .none)) .none))
def AG:Ct:=.mut [.lent,.rd] true true (.pair (.slice af) (.pair (.int .i64) .unit)) (.int .i64) (fun x=>ii x.1 x.2.1)
theorem zn:KC 136 AG:=mq En AF Tryz.func136
def ij:((List ai.D)×(Int×Int))→Option (((List ai.D)×(Int×Int))⊕((List ai.D)×(Int×Int))):=fun s2 =>
 bif decide (s2.2.2 < (s2.1.length:Int)) then (
 idx s2.1 s2.2.2 fun _ =>
(s2.1[(s2.2.2:Int).toNat]?).bind fun x3 =>
 let u4:(List ai.D):=s2.1.set (s2.2.2:Int).toNat (s2.2.1,x3.2)
 idx u4 s2.2.2 fun _ =>
(u4[(s2.2.2:Int).toNat]?).bind fun x5 =>
 let u6:(List ai.D):=u4.set (s2.2.2:Int).toNat (x5.1,(IntKind.wrap .i64 (s2.2.1 + 1),x5.2.1.2),x5.2.2)
 idx u6 s2.2.2 fun _ =>
(u6[(s2.2.2:Int).toNat]?).bind fun x7 =>
 let u8:(List ai.D):=u6.set (s2.2.2:Int).toNat (x7.1,(x7.2.1.1,IntKind.wrap .i64 ((IntKind.wrap .i64 (s2.2.1 + 1)) + 1),x7.2.1.2.2),x7.2.2)
 let k9:Int:=IntKind.wrap .i64 ((IntKind.wrap .i64 ((IntKind.wrap .i64 (s2.2.1 + 1)) + 1)) + 1)
 idx u8 s2.2.2 fun _ =>
(u8[(s2.2.2:Int).toNat]?).bind fun x10 =>
 let u11:(List ai.D):=u8.set (s2.2.2:Int).toNat (x10.1,(x10.2.1.1,x10.2.1.2.1,k9,x10.2.1.2.2.2),x10.2.2)
 idx u11 s2.2.2 fun _ =>
(u11[(s2.2.2:Int).toNat]?).bind fun x12 =>
 let u13:(List ai.D):=u11.set (s2.2.2:Int).toNat (x12.1,(x12.2.1.1,x12.2.1.2.1,x12.2.1.2.2.1,IntKind.wrap .i64 (k9 + 1),x12.2.1.2.2.2.2),x12.2.2)
 idx u13 s2.2.2 fun _ =>
(u13[(s2.2.2:Int).toNat]?).bind fun x14 =>
 let u15:(List ai.D):=u13.set (s2.2.2:Int).toNat (x14.1,(x14.2.1.1,x14.2.1.2.1,x14.2.1.2.2.1,x14.2.1.2.2.2.1,IntKind.wrap .i64 ((IntKind.wrap .i64 (k9 + 1)) + 1),x14.2.1.2.2.2.2.2),x14.2.2)
 let k16:Int:=IntKind.wrap .i64 ((IntKind.wrap .i64 ((IntKind.wrap .i64 (k9 + 1)) + 1)) + 1)
 idx u15 s2.2.2 fun _ =>
(u15[(s2.2.2:Int).toNat]?).bind fun x17 =>
 let u18:(List ai.D):=u15.set (s2.2.2:Int).toNat (x17.1,(x17.2.1.1,x17.2.1.2.1,x17.2.1.2.2.1,x17.2.1.2.2.2.1,x17.2.1.2.2.2.2.1,k16,x17.2.1.2.2.2.2.2.2),x17.2.2)
 if 3=0 then none else (
 idx u18 s2.2.2 fun _ =>
(u18[(s2.2.2:Int).toNat]?).bind fun x19 =>
 let u20:(List ai.D):=u18.set (s2.2.2:Int).toNat (x19.1,(x19.2.1.1,x19.2.1.2.1,x19.2.1.2.2.1,x19.2.1.2.2.2.1,x19.2.1.2.2.2.2.1,x19.2.1.2.2.2.2.2.1,(((IntKind.wrap .i64 (k16 + 1)).tmod 3) == 0),()),x19.2.2)
 idx u20 s2.2.2 fun _ =>
(u20[(s2.2.2:Int).toNat]?).bind fun x21 =>
 let u22:(List ai.D):=u20.set (s2.2.2:Int).toNat (x21.1,x21.2.1,IntKind.wrap .i64 ((IntKind.wrap .i64 (k16 + 1)) + 1),x21.2.2.2)
 let k23:Int:=IntKind.wrap .i64 ((IntKind.wrap .i64 ((IntKind.wrap .i64 (k16 + 1)) + 1)) + 1)
 idx u22 s2.2.2 fun _ =>
(u22[(s2.2.2:Int).toNat]?).bind fun x24 =>
 let u25:(List ai.D):=u22.set (s2.2.2:Int).toNat (x24.1,x24.2.1,x24.2.2.1,k23,x24.2.2.2.2)
 idx u25 s2.2.2 fun _ =>
(u25[(s2.2.2:Int).toNat]?).bind fun x26 =>
 let u27:(List ai.D):=u25.set (s2.2.2:Int).toNat (x26.1,x26.2.1,x26.2.2.1,x26.2.2.2.1,(IntKind.wrap .i64 (k23 + 1),x26.2.2.2.2.1.2),())
 idx u27 s2.2.2 fun _ =>
(u27[(s2.2.2:Int).toNat]?).bind fun x28 =>
 let u29:(List ai.D):=u27.set (s2.2.2:Int).toNat (x28.1,x28.2.1,x28.2.2.1,x28.2.2.2.1,(x28.2.2.2.2.1.1,IntKind.wrap .i64 ((IntKind.wrap .i64 (k23 + 1)) + 1),x28.2.2.2.2.1.2.2),())
 let k30:Int:=IntKind.wrap .i64 ((IntKind.wrap .i64 ((IntKind.wrap .i64 (k23 + 1)) + 1)) + 1)
 idx u29 s2.2.2 fun _ =>
(u29[(s2.2.2:Int).toNat]?).bind fun x31 =>
 let u32:(List ai.D):=u29.set (s2.2.2:Int).toNat (x31.1,x31.2.1,x31.2.2.1,x31.2.2.2.1,(x31.2.2.2.2.1.1,x31.2.2.2.2.1.2.1,k30,x31.2.2.2.2.1.2.2.2),())
 idx u32 s2.2.2 fun _ =>
(u32[(s2.2.2:Int).toNat]?).bind fun x33 =>
 let u34:(List ai.D):=u32.set (s2.2.2:Int).toNat (x33.1,x33.2.1,x33.2.2.1,x33.2.2.2.1,(x33.2.2.2.2.1.1,x33.2.2.2.2.1.2.1,x33.2.2.2.2.1.2.2.1,IntKind.wrap .i64 (k30 + 1),x33.2.2.2.2.1.2.2.2.2),())
 idx u34 s2.2.2 fun _ =>
(u34[(s2.2.2:Int).toNat]?).bind fun x35 =>
 let u36:(List ai.D):=u34.set (s2.2.2:Int).toNat (x35.1,x35.2.1,x35.2.2.1,x35.2.2.2.1,(x35.2.2.2.2.1.1,x35.2.2.2.2.1.2.1,x35.2.2.2.2.1.2.2.1,x35.2.2.2.2.1.2.2.2.1,IntKind.wrap .i64 ((IntKind.wrap .i64 (k30 + 1)) + 1),x35.2.2.2.2.1.2.2.2.2.2),())
 let k37:Int:=IntKind.wrap .i64 ((IntKind.wrap .i64 ((IntKind.wrap .i64 (k30 + 1)) + 1)) + 1)
 idx u36 s2.2.2 fun _ =>
(u36[(s2.2.2:Int).toNat]?).bind fun x38 =>
 let u39:(List ai.D):=u36.set (s2.2.2:Int).toNat (x38.1,x38.2.1,x38.2.2.1,x38.2.2.2.1,(x38.2.2.2.2.1.1,x38.2.2.2.2.1.2.1,x38.2.2.2.2.1.2.2.1,x38.2.2.2.2.1.2.2.2.1,x38.2.2.2.2.1.2.2.2.2.1,k37,x38.2.2.2.2.1.2.2.2.2.2.2),())
 idx u39 s2.2.2 fun _ =>
(u39[(s2.2.2:Int).toNat]?).bind fun x40 =>
 let u41:(List ai.D):=u39.set (s2.2.2:Int).toNat (x40.1,x40.2.1,x40.2.2.1,x40.2.2.2.1,(x40.2.2.2.2.1.1,x40.2.2.2.2.1.2.1,x40.2.2.2.2.1.2.2.1,x40.2.2.2.2.1.2.2.2.1,x40.2.2.2.2.1.2.2.2.2.1,x40.2.2.2.2.1.2.2.2.2.2.1,IntKind.wrap .i64 (k37 + 1),x40.2.2.2.2.1.2.2.2.2.2.2.2),())
 idx u41 s2.2.2 fun _ =>
(u41[(s2.2.2:Int).toNat]?).bind fun x42 =>
 let u43:(List ai.D):=u41.set (s2.2.2:Int).toNat (x42.1,x42.2.1,x42.2.2.1,x42.2.2.2.1,(x42.2.2.2.2.1.1,x42.2.2.2.2.1.2.1,x42.2.2.2.2.1.2.2.1,x42.2.2.2.2.1.2.2.2.1,x42.2.2.2.2.1.2.2.2.2.1,x42.2.2.2.2.1.2.2.2.2.2.1,x42.2.2.2.2.1.2.2.2.2.2.2.1,IntKind.wrap .i64 ((IntKind.wrap .i64 (k37 + 1)) + 1),x42.2.2.2.2.1.2.2.2.2.2.2.2.2),())
 let k44:Int:=IntKind.wrap .i64 ((IntKind.wrap .i64 ((IntKind.wrap .i64 (k37 + 1)) + 1)) + 1)
 idx u43 s2.2.2 fun _ =>
(u43[(s2.2.2:Int).toNat]?).bind fun x45 =>
 let u46:(List ai.D):=u43.set (s2.2.2:Int).toNat (x45.1,x45.2.1,x45.2.2.1,x45.2.2.2.1,(x45.2.2.2.2.1.1,x45.2.2.2.2.1.2.1,x45.2.2.2.2.1.2.2.1,x45.2.2.2.2.1.2.2.2.1,x45.2.2.2.2.1.2.2.2.2.1,x45.2.2.2.2.1.2.2.2.2.2.1,x45.2.2.2.2.1.2.2.2.2.2.2.1,x45.2.2.2.2.1.2.2.2.2.2.2.2.1,k44,x45.2.2.2.2.1.2.2.2.2.2.2.2.2.2),())
 idx u46 s2.2.2 fun _ =>
(u46[(s2.2.2:Int).toNat]?).bind fun x47 =>
 let u48:(List ai.D):=u46.set (s2.2.2:Int).toNat (x47.1,x47.2.1,x47.2.2.1,x47.2.2.2.1,(x47.2.2.2.2.1.1,x47.2.2.2.2.1.2.1,x47.2.2.2.2.1.2.2.1,x47.2.2.2.2.1.2.2.2.1,x47.2.2.2.2.1.2.2.2.2.1,x47.2.2.2.2.1.2.2.2.2.2.1,x47.2.2.2.2.1.2.2.2.2.2.2.1,x47.2.2.2.2.1.2.2.2.2.2.2.2.1,x47.2.2.2.2.1.2.2.2.2.2.2.2.2.1,IntKind.wrap .i64 (k44 + 1),x47.2.2.2.2.1.2.2.2.2.2.2.2.2.2.2),())
 idx u48 s2.2.2 fun _ =>
(u48[(s2.2.2:Int).toNat]?).bind fun x49 =>
 let u50:(List ai.D):=u48.set (s2.2.2:Int).toNat (x49.1,x49.2.1,x49.2.2.1,x49.2.2.2.1,(x49.2.2.2.2.1.1,x49.2.2.2.2.1.2.1,x49.2.2.2.2.1.2.2.1,x49.2.2.2.2.1.2.2.2.1,x49.2.2.2.2.1.2.2.2.2.1,x49.2.2.2.2.1.2.2.2.2.2.1,x49.2.2.2.2.1.2.2.2.2.2.2.1,x49.2.2.2.2.1.2.2.2.2.2.2.2.1,x49.2.2.2.2.1.2.2.2.2.2.2.2.2.1,x49.2.2.2.2.1.2.2.2.2.2.2.2.2.2.1,IntKind.wrap .i64 ((IntKind.wrap .i64 (k44 + 1)) + 1),x49.2.2.2.2.1.2.2.2.2.2.2.2.2.2.2.2),())
 let k51:Int:=IntKind.wrap .i64 ((IntKind.wrap .i64 ((IntKind.wrap .i64 (k44 + 1)) + 1)) + 1)
 if 3=0 then none else (
 idx u50 s2.2.2 fun _ =>
(u50[(s2.2.2:Int).toNat]?).bind fun x52 =>
 let u53:(List ai.D):=u50.set (s2.2.2:Int).toNat (x52.1,x52.2.1,x52.2.2.1,x52.2.2.2.1,(x52.2.2.2.2.1.1,x52.2.2.2.2.1.2.1,x52.2.2.2.2.1.2.2.1,x52.2.2.2.2.1.2.2.2.1,x52.2.2.2.2.1.2.2.2.2.1,x52.2.2.2.2.1.2.2.2.2.2.1,x52.2.2.2.2.1.2.2.2.2.2.2.1,x52.2.2.2.2.1.2.2.2.2.2.2.2.1,x52.2.2.2.2.1.2.2.2.2.2.2.2.2.1,x52.2.2.2.2.1.2.2.2.2.2.2.2.2.2.1,x52.2.2.2.2.1.2.2.2.2.2.2.2.2.2.2.1,((k51.tmod 3) == 0),x52.2.2.2.2.1.2.2.2.2.2.2.2.2.2.2.2.2),())
 if 3=0 then none else (
 idx u53 s2.2.2 fun _ =>
(u53[(s2.2.2:Int).toNat]?).bind fun x54 =>
 let u55:(List ai.D):=u53.set (s2.2.2:Int).toNat (x54.1,x54.2.1,x54.2.2.1,x54.2.2.2.1,(x54.2.2.2.2.1.1,x54.2.2.2.2.1.2.1,x54.2.2.2.2.1.2.2.1,x54.2.2.2.2.1.2.2.2.1,x54.2.2.2.2.1.2.2.2.2.1,x54.2.2.2.2.1.2.2.2.2.2.1,x54.2.2.2.2.1.2.2.2.2.2.2.1,x54.2.2.2.2.1.2.2.2.2.2.2.2.1,x54.2.2.2.2.1.2.2.2.2.2.2.2.2.1,x54.2.2.2.2.1.2.2.2.2.2.2.2.2.2.1,x54.2.2.2.2.1.2.2.2.2.2.2.2.2.2.2.1,x54.2.2.2.2.1.2.2.2.2.2.2.2.2.2.2.2.1,(((IntKind.wrap .i64 (k51 + 1)).tmod 3) == 0),()),())
 some (.inl (u55,IntKind.wrap .i64 ((IntKind.wrap .i64 (k51 + 1)) + 1),IntKind.wrap .i64 (s2.2.2 + 1)))))))
 else (
 some (.inr s2))
def mT (a0:(List ai.D)) (a1:Int):Option (Int×((List ai.D)×Unit)) :=
(al (ij) (a0,a1,0)).bind fun o56 =>
 some (o56.2.1,(o56.1,()))
def Fu:Hints:=(n0 (nd (n0 (nd (.node none (some ⟨[.tmpO 0 1 (.slice ai),.tmp 1 (.int .i64),.tmp 5 (.int .i64)],[some 0],none,[]⟩) .none .none) .none)) .none))
def Fv:Ct:=.mut [.lent,.rd] true true (.pair (.slice ai) (.pair (.int .i64) .unit)) (.int .i64) (fun x=>mT x.1 x.2.1)
theorem DL:KC 137 Fv:=mq En Fu Tryz.func137
def ik:((List ar.D)×(Int×Int))→Option (((List ar.D)×(Int×Int))⊕((List ar.D)×(Int×Int))):=fun s2 =>
 bif decide (s2.2.2 < (s2.1.length:Int)) then (
 idx s2.1 s2.2.2 fun _ =>
(s2.1[(s2.2.2:Int).toNat]?).bind fun x3 =>
 let u4:(List ar.D):=s2.1.set (s2.2.2:Int).toNat (s2.2.1,x3.2)
 idx u4 s2.2.2 fun _ =>
(u4[(s2.2.2:Int).toNat]?).bind fun x5 =>
 let u6:(List ar.D):=u4.set (s2.2.2:Int).toNat (x5.1,IntKind.wrap .i64 (s2.2.1 + 1),x5.2.2)
 idx u6 s2.2.2 fun _ =>
(u6[(s2.2.2:Int).toNat]?).bind fun x7 =>
 let u8:(List ar.D):=u6.set (s2.2.2:Int).toNat (x7.1,x7.2.1,IntKind.wrap .i64 ((IntKind.wrap .i64 (s2.2.1 + 1)) + 1),x7.2.2.2)
 let k9:Int:=IntKind.wrap .i64 ((IntKind.wrap .i64 ((IntKind.wrap .i64 (s2.2.1 + 1)) + 1)) + 1)
 idx u8 s2.2.2 fun _ =>
(u8[(s2.2.2:Int).toNat]?).bind fun x10 =>
 let u11:(List ar.D):=u8.set (s2.2.2:Int).toNat (x10.1,x10.2.1,x10.2.2.1,k9,x10.2.2.2.2)
 idx u11 s2.2.2 fun _ =>
(u11[(s2.2.2:Int).toNat]?).bind fun x12 =>
 let u13:(List ar.D):=u11.set (s2.2.2:Int).toNat (x12.1,x12.2.1,x12.2.2.1,x12.2.2.2.1,(IntKind.wrap .i64 (k9 + 1),x12.2.2.2.2.1.2),x12.2.2.2.2.2)
 idx u13 s2.2.2 fun _ =>
(u13[(s2.2.2:Int).toNat]?).bind fun x14 =>
 let u15:(List ar.D):=u13.set (s2.2.2:Int).toNat (x14.1,x14.2.1,x14.2.2.1,x14.2.2.2.1,(x14.2.2.2.2.1.1,IntKind.wrap .i64 ((IntKind.wrap .i64 (k9 + 1)) + 1),x14.2.2.2.2.1.2.2),x14.2.2.2.2.2)
 let k16:Int:=IntKind.wrap .i64 ((IntKind.wrap .i64 ((IntKind.wrap .i64 (k9 + 1)) + 1)) + 1)
 idx u15 s2.2.2 fun _ =>
(u15[(s2.2.2:Int).toNat]?).bind fun x17 =>
 let u18:(List ar.D):=u15.set (s2.2.2:Int).toNat (x17.1,x17.2.1,x17.2.2.1,x17.2.2.2.1,(x17.2.2.2.2.1.1,x17.2.2.2.2.1.2.1,k16,x17.2.2.2.2.1.2.2.2),x17.2.2.2.2.2)
 idx u18 s2.2.2 fun _ =>
(u18[(s2.2.2:Int).toNat]?).bind fun x19 =>
 let u20:(List ar.D):=u18.set (s2.2.2:Int).toNat (x19.1,x19.2.1,x19.2.2.1,x19.2.2.2.1,(x19.2.2.2.2.1.1,x19.2.2.2.2.1.2.1,x19.2.2.2.2.1.2.2.1,IntKind.wrap .i64 (k16 + 1),x19.2.2.2.2.1.2.2.2.2),x19.2.2.2.2.2)
 idx u20 s2.2.2 fun _ =>
(u20[(s2.2.2:Int).toNat]?).bind fun x21 =>
 let u22:(List ar.D):=u20.set (s2.2.2:Int).toNat (x21.1,x21.2.1,x21.2.2.1,x21.2.2.2.1,(x21.2.2.2.2.1.1,x21.2.2.2.2.1.2.1,x21.2.2.2.2.1.2.2.1,x21.2.2.2.2.1.2.2.2.1,IntKind.wrap .i64 ((IntKind.wrap .i64 (k16 + 1)) + 1),x21.2.2.2.2.1.2.2.2.2.2),x21.2.2.2.2.2)
 let k23:Int:=IntKind.wrap .i64 ((IntKind.wrap .i64 ((IntKind.wrap .i64 (k16 + 1)) + 1)) + 1)
 idx u22 s2.2.2 fun _ =>
(u22[(s2.2.2:Int).toNat]?).bind fun x24 =>
 let u25:(List ar.D):=u22.set (s2.2.2:Int).toNat (x24.1,x24.2.1,x24.2.2.1,x24.2.2.2.1,(x24.2.2.2.2.1.1,x24.2.2.2.2.1.2.1,x24.2.2.2.2.1.2.2.1,x24.2.2.2.2.1.2.2.2.1,x24.2.2.2.2.1.2.2.2.2.1,k23,x24.2.2.2.2.1.2.2.2.2.2.2),x24.2.2.2.2.2)
 if 3=0 then none else (
 idx u25 s2.2.2 fun _ =>
(u25[(s2.2.2:Int).toNat]?).bind fun x26 =>
 let u27:(List ar.D):=u25.set (s2.2.2:Int).toNat (x26.1,x26.2.1,x26.2.2.1,x26.2.2.2.1,(x26.2.2.2.2.1.1,x26.2.2.2.2.1.2.1,x26.2.2.2.2.1.2.2.1,x26.2.2.2.2.1.2.2.2.1,x26.2.2.2.2.1.2.2.2.2.1,x26.2.2.2.2.1.2.2.2.2.2.1,(((IntKind.wrap .i64 (k23 + 1)).tmod 3) == 0),()),x26.2.2.2.2.2)
 idx u27 s2.2.2 fun _ =>
(u27[(s2.2.2:Int).toNat]?).bind fun x28 =>
(bQ x28.2.2.2.2.2.1 (IntKind.wrap .i64 ((IntKind.wrap .i64 (k23 + 1)) + 1))).bind fun y29 =>
 let u30:(List ar.D):=u27.set (s2.2.2:Int).toNat (x28.1,x28.2.1,x28.2.2.1,x28.2.2.2.1,x28.2.2.2.2.1,y29.2.1,x28.2.2.2.2.2.2)
 idx u30 s2.2.2 fun _ =>
(u30[(s2.2.2:Int).toNat]?).bind fun x31 =>
 let u32:(List ar.D):=u30.set (s2.2.2:Int).toNat (x31.1,x31.2.1,x31.2.2.1,x31.2.2.2.1,x31.2.2.2.2.1,x31.2.2.2.2.2.1,y29.1,x31.2.2.2.2.2.2.2)
 idx u32 s2.2.2 fun _ =>
(u32[(s2.2.2:Int).toNat]?).bind fun x33 =>
 let u34:(List ar.D):=u32.set (s2.2.2:Int).toNat (x33.1,x33.2.1,x33.2.2.1,x33.2.2.2.1,x33.2.2.2.2.1,x33.2.2.2.2.2.1,x33.2.2.2.2.2.2.1,IntKind.wrap .i64 (y29.1 + 1),())
 some (.inl (u34,IntKind.wrap .i64 ((IntKind.wrap .i64 (y29.1 + 1)) + 1),IntKind.wrap .i64 (s2.2.2 + 1)))))
 else (
 some (.inr s2))
def mU (a0:(List ar.D)) (a1:Int):Option (Int×((List ar.D)×Unit)) :=
(al (ik) (a0,a1,0)).bind fun o35 =>
 some (o35.2.1,(o35.1,()))
def Fw:Hints:=(n0 (nd (n0 (nd (.node none (some ⟨[.tmpO 0 1 (.slice ar),.tmp 1 (.int .i64),.tmp 5 (.int .i64)],[some 0],none,[]⟩) (n0 (nd (nd (n0 (n0 (n0 (n0 (n0 (n0 (n0 (n0 (n0 (n0 (n0 (n0 (n0 (n0 (n0 (n0 (n0 (n0 (n0 (n0 (n0 (n0 (nd (.node none (some ⟨[],[],none,[(4,0)]⟩) .none .none) .none))))))))))))))))))))))) .none) .none)) .none) .none)) .none))
def Fx:Ct:=.mut [.lent,.rd] true true (.pair (.slice ar) (.pair (.int .i64) .unit)) (.int .i64) (fun x=>mU x.1 x.2.1)
theorem DM:KC 138 Fx:=mq (Ec kZ En) Fw Tryz.func138
def jS (a0:T_Game.D) (a1:Int):Option (Int×(T_Game.D×Unit)) :=
(mS a0.1 a1).bind fun y1 =>
(jk a0.2.1 y1.1).bind fun y2 =>
(oS a0.2.2.1 y2.1).bind fun y3 =>
(ii a0.2.2.2.1 y3.1).bind fun y4 =>
(mT a0.2.2.2.2.1 y4.1).bind fun y5 =>
(mU a0.2.2.2.2.2.1 y5.1).bind fun y6 =>
 some (y6.1,(((y1.2.1.1,y1.2.1.2.1,a0.1.2.2),y2.2.1,y3.2.1,y4.2.1,y5.2.1,y6.2),()))
def Hz:Ct:=.mut [.lent,.rd] true true (.pair T_Game (.pair (.int .i64) .unit)) (.int .i64) (fun x=>jS x.1 x.2.1)
theorem Fy:KC 29 Hz:=mq (Ec DI (Ec AE (Ec Ft (Ec zn (Ec DL (Ec DM En)))))) .none Tryz.func29
def dJ:((List T_Order.D)×(Int×Int))→Option (((List T_Order.D)×(Int×Int))⊕((List T_Order.D)×(Int×Int))):=fun s2 =>
 bif decide (s2.2.2 < (s2.1.length:Int)) then (
 idx s2.1 s2.2.2 fun _ =>
(s2.1[(s2.2.2:Int).toNat]?).bind fun x3 =>
 let u4:(List T_Order.D):=s2.1.set (s2.2.2:Int).toNat (s2.2.1,x3.2)
 idx u4 s2.2.2 fun _ =>
(u4[(s2.2.2:Int).toNat]?).bind fun x5 =>
 let u6:(List T_Order.D):=u4.set (s2.2.2:Int).toNat (x5.1,(IntKind.wrap .i64 (s2.2.1 + 1),x5.2.1.2),x5.2.2)
 idx u6 s2.2.2 fun _ =>
(u6[(s2.2.2:Int).toNat]?).bind fun x7 =>
 let u8:(List T_Order.D):=u6.set (s2.2.2:Int).toNat (x7.1,(x7.2.1.1,IntKind.wrap .i64 ((IntKind.wrap .i64 (s2.2.1 + 1)) + 1),x7.2.1.2.2),x7.2.2)
 let k9:Int:=IntKind.wrap .i64 ((IntKind.wrap .i64 ((IntKind.wrap .i64 (s2.2.1 + 1)) + 1)) + 1)
 idx u8 s2.2.2 fun _ =>
(u8[(s2.2.2:Int).toNat]?).bind fun x10 =>
 let u11:(List T_Order.D):=u8.set (s2.2.2:Int).toNat (x10.1,(x10.2.1.1,x10.2.1.2.1,k9,x10.2.1.2.2.2),x10.2.2)
 idx u11 s2.2.2 fun _ =>
(u11[(s2.2.2:Int).toNat]?).bind fun x12 =>
 let u13:(List T_Order.D):=u11.set (s2.2.2:Int).toNat (x12.1,(x12.2.1.1,x12.2.1.2.1,x12.2.1.2.2.1,IntKind.wrap .i64 (k9 + 1),x12.2.1.2.2.2.2),x12.2.2)
 idx u13 s2.2.2 fun _ =>
(u13[(s2.2.2:Int).toNat]?).bind fun x14 =>
 let u15:(List T_Order.D):=u13.set (s2.2.2:Int).toNat (x14.1,(x14.2.1.1,x14.2.1.2.1,x14.2.1.2.2.1,x14.2.1.2.2.2.1,(IntKind.wrap .i64 ((IntKind.wrap .i64 (k9 + 1)) + 1),x14.2.1.2.2.2.2.1.2),x14.2.1.2.2.2.2.2),x14.2.2)
 let k16:Int:=IntKind.wrap .i64 ((IntKind.wrap .i64 ((IntKind.wrap .i64 (k9 + 1)) + 1)) + 1)
 idx u15 s2.2.2 fun _ =>
(u15[(s2.2.2:Int).toNat]?).bind fun x17 =>
 let u18:(List T_Order.D):=u15.set (s2.2.2:Int).toNat (x17.1,(x17.2.1.1,x17.2.1.2.1,x17.2.1.2.2.1,x17.2.1.2.2.2.1,(x17.2.1.2.2.2.2.1.1,k16,x17.2.1.2.2.2.2.1.2.2),x17.2.1.2.2.2.2.2),x17.2.2)
 idx u18 s2.2.2 fun _ =>
(u18[(s2.2.2:Int).toNat]?).bind fun x19 =>
 let u20:(List T_Order.D):=u18.set (s2.2.2:Int).toNat (x19.1,(x19.2.1.1,x19.2.1.2.1,x19.2.1.2.2.1,x19.2.1.2.2.2.1,(x19.2.1.2.2.2.2.1.1,x19.2.1.2.2.2.2.1.2.1,IntKind.wrap .i64 (k16 + 1),x19.2.1.2.2.2.2.1.2.2.2),x19.2.1.2.2.2.2.2),x19.2.2)
 idx u20 s2.2.2 fun _ =>
(u20[(s2.2.2:Int).toNat]?).bind fun x21 =>
 let u22:(List T_Order.D):=u20.set (s2.2.2:Int).toNat (x21.1,(x21.2.1.1,x21.2.1.2.1,x21.2.1.2.2.1,x21.2.1.2.2.2.1,(x21.2.1.2.2.2.2.1.1,x21.2.1.2.2.2.2.1.2.1,x21.2.1.2.2.2.2.1.2.2.1,IntKind.wrap .i64 ((IntKind.wrap .i64 (k16 + 1)) + 1),x21.2.1.2.2.2.2.1.2.2.2.2),x21.2.1.2.2.2.2.2),x21.2.2)
 let k23:Int:=IntKind.wrap .i64 ((IntKind.wrap .i64 ((IntKind.wrap .i64 (k16 + 1)) + 1)) + 1)
 idx u22 s2.2.2 fun _ =>
(u22[(s2.2.2:Int).toNat]?).bind fun x24 =>
 let u25:(List T_Order.D):=u22.set (s2.2.2:Int).toNat (x24.1,(x24.2.1.1,x24.2.1.2.1,x24.2.1.2.2.1,x24.2.1.2.2.2.1,(x24.2.1.2.2.2.2.1.1,x24.2.1.2.2.2.2.1.2.1,x24.2.1.2.2.2.2.1.2.2.1,x24.2.1.2.2.2.2.1.2.2.2.1,k23,x24.2.1.2.2.2.2.1.2.2.2.2.2),x24.2.1.2.2.2.2.2),x24.2.2)
 idx u25 s2.2.2 fun _ =>
(u25[(s2.2.2:Int).toNat]?).bind fun x26 =>
 let u27:(List T_Order.D):=u25.set (s2.2.2:Int).toNat (x26.1,(x26.2.1.1,x26.2.1.2.1,x26.2.1.2.2.1,x26.2.1.2.2.2.1,(x26.2.1.2.2.2.2.1.1,x26.2.1.2.2.2.2.1.2.1,x26.2.1.2.2.2.2.1.2.2.1,x26.2.1.2.2.2.2.1.2.2.2.1,x26.2.1.2.2.2.2.1.2.2.2.2.1,IntKind.wrap .i64 (k23 + 1),x26.2.1.2.2.2.2.1.2.2.2.2.2.2),x26.2.1.2.2.2.2.2),x26.2.2)
 idx u27 s2.2.2 fun _ =>
(u27[(s2.2.2:Int).toNat]?).bind fun x28 =>
 let u29:(List T_Order.D):=u27.set (s2.2.2:Int).toNat (x28.1,(x28.2.1.1,x28.2.1.2.1,x28.2.1.2.2.1,x28.2.1.2.2.2.1,(x28.2.1.2.2.2.2.1.1,x28.2.1.2.2.2.2.1.2.1,x28.2.1.2.2.2.2.1.2.2.1,x28.2.1.2.2.2.2.1.2.2.2.1,x28.2.1.2.2.2.2.1.2.2.2.2.1,x28.2.1.2.2.2.2.1.2.2.2.2.2.1,IntKind.wrap .i64 ((IntKind.wrap .i64 (k23 + 1)) + 1),()),x28.2.1.2.2.2.2.2),x28.2.2)
 let k30:Int:=IntKind.wrap .i64 ((IntKind.wrap .i64 ((IntKind.wrap .i64 (k23 + 1)) + 1)) + 1)
 idx u29 s2.2.2 fun _ =>
(u29[(s2.2.2:Int).toNat]?).bind fun x31 =>
 let u32:(List T_Order.D):=u29.set (s2.2.2:Int).toNat (x31.1,(x31.2.1.1,x31.2.1.2.1,x31.2.1.2.2.1,x31.2.1.2.2.2.1,x31.2.1.2.2.2.2.1,(k30,x31.2.1.2.2.2.2.2.1.2),x31.2.1.2.2.2.2.2.2),x31.2.2)
 idx u32 s2.2.2 fun _ =>
(u32[(s2.2.2:Int).toNat]?).bind fun x33 =>
 let u34:(List T_Order.D):=u32.set (s2.2.2:Int).toNat (x33.1,(x33.2.1.1,x33.2.1.2.1,x33.2.1.2.2.1,x33.2.1.2.2.2.1,x33.2.1.2.2.2.2.1,(x33.2.1.2.2.2.2.2.1.1,IntKind.wrap .i64 (k30 + 1),()),x33.2.1.2.2.2.2.2.2),x33.2.2)
 idx u34 s2.2.2 fun _ =>
(u34[(s2.2.2:Int).toNat]?).bind fun x35 =>
 let u36:(List T_Order.D):=u34.set (s2.2.2:Int).toNat (x35.1,(x35.2.1.1,x35.2.1.2.1,x35.2.1.2.2.1,x35.2.1.2.2.2.1,x35.2.1.2.2.2.2.1,x35.2.1.2.2.2.2.2.1,(IntKind.wrap .i64 ((IntKind.wrap .i64 (k30 + 1)) + 1),x35.2.1.2.2.2.2.2.2.1.2),x35.2.1.2.2.2.2.2.2.2),x35.2.2)
 let k37:Int:=IntKind.wrap .i64 ((IntKind.wrap .i64 ((IntKind.wrap .i64 (k30 + 1)) + 1)) + 1)
 idx u36 s2.2.2 fun _ =>
(u36[(s2.2.2:Int).toNat]?).bind fun x38 =>
 let u39:(List T_Order.D):=u36.set (s2.2.2:Int).toNat (x38.1,(x38.2.1.1,x38.2.1.2.1,x38.2.1.2.2.1,x38.2.1.2.2.2.1,x38.2.1.2.2.2.2.1,x38.2.1.2.2.2.2.2.1,(x38.2.1.2.2.2.2.2.2.1.1,k37,x38.2.1.2.2.2.2.2.2.1.2.2),x38.2.1.2.2.2.2.2.2.2),x38.2.2)
 idx u39 s2.2.2 fun _ =>
(u39[(s2.2.2:Int).toNat]?).bind fun x40 =>
 let u41:(List T_Order.D):=u39.set (s2.2.2:Int).toNat (x40.1,(x40.2.1.1,x40.2.1.2.1,x40.2.1.2.2.1,x40.2.1.2.2.2.1,x40.2.1.2.2.2.2.1,x40.2.1.2.2.2.2.2.1,(x40.2.1.2.2.2.2.2.2.1.1,x40.2.1.2.2.2.2.2.2.1.2.1,IntKind.wrap .i64 (k37 + 1),x40.2.1.2.2.2.2.2.2.1.2.2.2),x40.2.1.2.2.2.2.2.2.2),x40.2.2)
 idx u41 s2.2.2 fun _ =>
(u41[(s2.2.2:Int).toNat]?).bind fun x42 =>
 let u43:(List T_Order.D):=u41.set (s2.2.2:Int).toNat (x42.1,(x42.2.1.1,x42.2.1.2.1,x42.2.1.2.2.1,x42.2.1.2.2.2.1,x42.2.1.2.2.2.2.1,x42.2.1.2.2.2.2.2.1,(x42.2.1.2.2.2.2.2.2.1.1,x42.2.1.2.2.2.2.2.2.1.2.1,x42.2.1.2.2.2.2.2.2.1.2.2.1,IntKind.wrap .i64 ((IntKind.wrap .i64 (k37 + 1)) + 1),x42.2.1.2.2.2.2.2.2.1.2.2.2.2),x42.2.1.2.2.2.2.2.2.2),x42.2.2)
 let k44:Int:=IntKind.wrap .i64 ((IntKind.wrap .i64 ((IntKind.wrap .i64 (k37 + 1)) + 1)) + 1)
 idx u43 s2.2.2 fun _ =>
(u43[(s2.2.2:Int).toNat]?).bind fun x45 =>
 let u46:(List T_Order.D):=u43.set (s2.2.2:Int).toNat (x45.1,(x45.2.1.1,x45.2.1.2.1,x45.2.1.2.2.1,x45.2.1.2.2.2.1,x45.2.1.2.2.2.2.1,x45.2.1.2.2.2.2.2.1,(x45.2.1.2.2.2.2.2.2.1.1,x45.2.1.2.2.2.2.2.2.1.2.1,x45.2.1.2.2.2.2.2.2.1.2.2.1,x45.2.1.2.2.2.2.2.2.1.2.2.2.1,k44,x45.2.1.2.2.2.2.2.2.1.2.2.2.2.2),x45.2.1.2.2.2.2.2.2.2),x45.2.2)
 if 3=0 then none else (
 idx u46 s2.2.2 fun _ =>
(u46[(s2.2.2:Int).toNat]?).bind fun x47 =>
 let u48:(List T_Order.D):=u46.set (s2.2.2:Int).toNat (x47.1,(x47.2.1.1,x47.2.1.2.1,x47.2.1.2.2.1,x47.2.1.2.2.2.1,x47.2.1.2.2.2.2.1,x47.2.1.2.2.2.2.2.1,(x47.2.1.2.2.2.2.2.2.1.1,x47.2.1.2.2.2.2.2.2.1.2.1,x47.2.1.2.2.2.2.2.2.1.2.2.1,x47.2.1.2.2.2.2.2.2.1.2.2.2.1,x47.2.1.2.2.2.2.2.2.1.2.2.2.2.1,(((IntKind.wrap .i64 (k44 + 1)).tmod 3) == 0),x47.2.1.2.2.2.2.2.2.1.2.2.2.2.2.2),x47.2.1.2.2.2.2.2.2.2),x47.2.2)
 idx u48 s2.2.2 fun _ =>
(u48[(s2.2.2:Int).toNat]?).bind fun x49 =>
(bQ x49.2.1.2.2.2.2.2.2.1.2.2.2.2.2.2.1 (IntKind.wrap .i64 ((IntKind.wrap .i64 (k44 + 1)) + 1))).bind fun y50 =>
 let u51:(List T_Order.D):=u48.set (s2.2.2:Int).toNat (x49.1,(x49.2.1.1,x49.2.1.2.1,x49.2.1.2.2.1,x49.2.1.2.2.2.1,x49.2.1.2.2.2.2.1,x49.2.1.2.2.2.2.2.1,(x49.2.1.2.2.2.2.2.2.1.1,x49.2.1.2.2.2.2.2.2.1.2.1,x49.2.1.2.2.2.2.2.2.1.2.2.1,x49.2.1.2.2.2.2.2.2.1.2.2.2.1,x49.2.1.2.2.2.2.2.2.1.2.2.2.2.1,x49.2.1.2.2.2.2.2.2.1.2.2.2.2.2.1,y50.2),x49.2.1.2.2.2.2.2.2.2),x49.2.2)
 idx u51 s2.2.2 fun _ =>
(u51[(s2.2.2:Int).toNat]?).bind fun x52 =>
 let u53:(List T_Order.D):=u51.set (s2.2.2:Int).toNat (x52.1,(x52.2.1.1,x52.2.1.2.1,x52.2.1.2.2.1,x52.2.1.2.2.2.1,x52.2.1.2.2.2.2.1,x52.2.1.2.2.2.2.2.1,x52.2.1.2.2.2.2.2.2.1,y50.1,x52.2.1.2.2.2.2.2.2.2.2),x52.2.2)
 idx u53 s2.2.2 fun _ =>
(u53[(s2.2.2:Int).toNat]?).bind fun x54 =>
 let u55:(List T_Order.D):=u53.set (s2.2.2:Int).toNat (x54.1,(x54.2.1.1,x54.2.1.2.1,x54.2.1.2.2.1,x54.2.1.2.2.2.1,x54.2.1.2.2.2.2.1,x54.2.1.2.2.2.2.2.1,x54.2.1.2.2.2.2.2.2.1,x54.2.1.2.2.2.2.2.2.2.1,IntKind.wrap .i64 (y50.1 + 1),()),x54.2.2)
 idx u55 s2.2.2 fun _ =>
(u55[(s2.2.2:Int).toNat]?).bind fun x56 =>
 let u57:(List T_Order.D):=u55.set (s2.2.2:Int).toNat (x56.1,x56.2.1,IntKind.wrap .i64 ((IntKind.wrap .i64 (y50.1 + 1)) + 1),x56.2.2.2)
 let k58:Int:=IntKind.wrap .i64 ((IntKind.wrap .i64 ((IntKind.wrap .i64 (y50.1 + 1)) + 1)) + 1)
 idx u57 s2.2.2 fun _ =>
(u57[(s2.2.2:Int).toNat]?).bind fun x59 =>
(bQ x59.2.2.2.1 k58).bind fun y60 =>
 let u61:(List T_Order.D):=u57.set (s2.2.2:Int).toNat (x59.1,x59.2.1,x59.2.2.1,y60.2)
 some (.inl (u61,y60.1,IntKind.wrap .i64 (s2.2.2 + 1)))))
 else (
 some (.inr s2))
def kH (a0:(List T_Order.D)) (a1:Int):Option (Int×((List T_Order.D)×Unit)) :=
(al (dJ) (a0,a1,0)).bind fun o62 =>
 some (o62.2.1,(o62.1,()))
def DN:Hints:=(n0 (nd (n0 (nd (.node none (some ⟨[.tmpO 0 1 (.slice T_Order),.tmp 1 (.int .i64),.tmp 5 (.int .i64)],[some 0],none,[]⟩) (n0 (nd (nd (n0 (n0 (n0 (n0 (n0 (n0 (n0 (n0 (n0 (n0 (n0 (n0 (n0 (n0 (n0 (n0 (n0 (n0 (n0 (n0 (n0 (n0 (n0 (n0 (n0 (n0 (n0 (n0 (n0 (n0 (n0 (n0 (n0 (n0 (n0 (n0 (n0 (n0 (n0 (n0 (nd (.node none (some ⟨[],[],none,[(6,0)]⟩) .none .none) (n0 (n0 (n0 (n0 (n0 (n0 (.node none (some ⟨[],[],none,[(4,0)]⟩) .none .none)))))))))))))))))))))))))))))))))))))))))))))))) .none) .none)) .none) .none)) .none))
def DO:Ct:=.mut [.lent,.rd] true true (.pair (.slice T_Order) (.pair (.int .i64) .unit)) (.int .i64) (fun x=>kH x.1 x.2.1)
theorem B3:KC 37 DO:=mq (Ec kZ En) DN Tryz.func37
def gI (a0:(List ah.D)):(Int×Int)→Option ((Int×Int)⊕((Int×Int)⊕Int)):=fun s1 =>
 bif decide (s1.2 < (a0.length:Int)) then (
 idx a0 s1.2 fun x2 =>
 bif (x2.1 != s1.1) then (
 some (.inr (.inr (-1))))
 else (
 idx a0 s1.2 fun x3 =>
 bif (x3.2.1 != (IntKind.wrap .i64 (s1.1 + 1))) then (
 some (.inr (.inr (-1))))
 else (
 idx a0 s1.2 fun x4 =>
 bif (x4.2.2.1 != (IntKind.wrap .i64 ((IntKind.wrap .i64 (s1.1 + 1)) + 1))) then (
 some (.inr (.inr (-1))))
 else (
 let k5:Int:=IntKind.wrap .i64 ((IntKind.wrap .i64 ((IntKind.wrap .i64 (s1.1 + 1)) + 1)) + 1)
 idx a0 s1.2 fun x6 =>
 bif (x6.2.2.2.1 != k5) then (
 some (.inr (.inr (-1))))
 else (
 idx a0 s1.2 fun x7 =>
 bif (x7.2.2.2.2.1 != (IntKind.wrap .i64 (k5 + 1))) then (
 some (.inr (.inr (-1))))
 else (
 idx a0 s1.2 fun x8 =>
 bif (x8.2.2.2.2.2.1 != (IntKind.wrap .i64 ((IntKind.wrap .i64 (k5 + 1)) + 1))) then (
 some (.inr (.inr (-1))))
 else (
 let k9:Int:=IntKind.wrap .i64 ((IntKind.wrap .i64 ((IntKind.wrap .i64 (k5 + 1)) + 1)) + 1)
 idx a0 s1.2 fun x10 =>
 bif (x10.2.2.2.2.2.2.1 != k9) then (
 some (.inr (.inr (-1))))
 else (
 idx a0 s1.2 fun x11 =>
 bif (x11.2.2.2.2.2.2.2.1 != (IntKind.wrap .i64 (k9 + 1))) then (
 some (.inr (.inr (-1))))
 else (
 idx a0 s1.2 fun x12 =>
 bif (x12.2.2.2.2.2.2.2.2.1 != (IntKind.wrap .i64 ((IntKind.wrap .i64 (k9 + 1)) + 1))) then (
 some (.inr (.inr (-1))))
 else (
 let k13:Int:=IntKind.wrap .i64 ((IntKind.wrap .i64 ((IntKind.wrap .i64 (k9 + 1)) + 1)) + 1)
 idx a0 s1.2 fun x14 =>
 bif (x14.2.2.2.2.2.2.2.2.2.1 != k13) then (
 some (.inr (.inr (-1))))
 else (
 idx a0 s1.2 fun x15 =>
 bif (x15.2.2.2.2.2.2.2.2.2.2.1 != (IntKind.wrap .i64 (k13 + 1))) then (
 some (.inr (.inr (-1))))
 else (
 idx a0 s1.2 fun x16 =>
 if 3=0 then none else (
 let k17:Int:=(IntKind.wrap .i64 ((IntKind.wrap .i64 (k13 + 1)) + 1)).tmod 3
 bif (x16.2.2.2.2.2.2.2.2.2.2.2.1 != (k17 == 0)) then (
 some (.inr (.inr (-1))))
 else (
 let k18:Int:=IntKind.wrap .i64 ((IntKind.wrap .i64 ((IntKind.wrap .i64 (k13 + 1)) + 1)) + 1)
 idx a0 s1.2 fun x19 =>
 if 3=0 then none else (
 bif (x19.2.2.2.2.2.2.2.2.2.2.2.2.1 != ((k18.tmod 3) == 0)) then (
 some (.inr (.inr (-1))))
 else (
 some (.inl (IntKind.wrap .i64 (k18 + 1),IntKind.wrap .i64 (s1.2 + 1)))))))))))))))))))
 else (
 some (.inr (.inl s1)))
def kI (a0:(List ah.D)) (a1:Int):Option Int :=
(al (gI a0) (a1,0)).bind fun o20 =>
 match o20 with
| .inl s21=>(
 some s21.1)
| .inr o22=>(
 some o22)
def DP:Hints:=(n0 (nd (n0 (nd (.node none (some ⟨[.tmp 1 (.int .i64),.tmp 5 (.int .i64)],[some 0],some [.tmp 4 (.int .i64)],[]⟩) .none .none) .none)) .none))
def DQ:Ct:=.pure true false (.pair (.slice ah) (.pair (.int .i64) .unit)) (.int .i64) (fun x=>kI x.1 x.2.1)
theorem B4:KC 259 DQ:=pq En DP Tryz.func259
def il (a0:(List au.D)):(Int×Int)→Option ((Int×Int)⊕((Int×Int)⊕Int)):=fun s1 =>
 bif decide (s1.2 < (a0.length:Int)) then (
 idx a0 s1.2 fun x2 =>
 bif (x2.1 != s1.1) then (
 some (.inr (.inr (-1))))
 else (
 idx a0 s1.2 fun x3 =>
 bif (x3.2.1 != (IntKind.wrap .i64 (s1.1 + 1))) then (
 some (.inr (.inr (-1))))
 else (
 idx a0 s1.2 fun x4 =>
 if 3=0 then none else (
 let k5:Int:=(IntKind.wrap .i64 ((IntKind.wrap .i64 (s1.1 + 1)) + 1)).tmod 3
 bif (x4.2.2.1 != (k5 == 0)) then (
 some (.inr (.inr (-1))))
 else (
 let k6:Int:=IntKind.wrap .i64 ((IntKind.wrap .i64 ((IntKind.wrap .i64 (s1.1 + 1)) + 1)) + 1)
 some (.inl (k6,IntKind.wrap .i64 (s1.2 + 1))))))))
 else (
 some (.inr (.inl s1)))
def mV (a0:(List au.D)) (a1:Int):Option Int :=
(al (il a0) (a1,0)).bind fun o7 =>
 match o7 with
| .inl s8=>(
 some s8.1)
| .inr o9=>(
 some o9)
def FA:Hints:=(n0 (nd (n0 (nd (.node none (some ⟨[.tmp 1 (.int .i64),.tmp 5 (.int .i64)],[some 0],some [.tmp 4 (.int .i64)],[]⟩) .none .none) .none)) .none))
def FB:Ct:=.pure true false (.pair (.slice au) (.pair (.int .i64) .unit)) (.int .i64) (fun x=>mV x.1 x.2.1)
theorem DR:KC 260 FB:=pq En FA Tryz.func260
def iT (a0:ae.D) (a1:Int):Option Int :=
(kI a0.1 a1).bind fun y1 =>
 bif decide (y1 < 0) then (
 some (-1))
 else (
(mV a0.2.1 y1).bind fun y2 =>
 bif decide (y2 < 0) then (
 some (-1))
 else (
 some y2))
def FC:Ct:=.pure true false (.pair ae (.pair (.int .i64) .unit)) (.int .i64) (fun x=>iT x.1 x.2.1)
theorem DS:KC 140 FC:=pq (Ec B4 (Ec DR En)) .none Tryz.func140
def gJ (a0:(List ac.D)):(Int×Int)→Option ((Int×Int)⊕((Int×Int)⊕Int)):=fun s1 =>
 bif decide (s1.2 < (a0.length:Int)) then (
 idx a0 s1.2 fun x2 =>
 bif (x2.1 != s1.1) then (
 some (.inr (.inr (-1))))
 else (
 idx a0 s1.2 fun x3 =>
 bif (x3.2.1 != (IntKind.wrap .i64 (s1.1 + 1))) then (
 some (.inr (.inr (-1))))
 else (
 idx a0 s1.2 fun x4 =>
 bif (x4.2.2.1 != (IntKind.wrap .i64 ((IntKind.wrap .i64 (s1.1 + 1)) + 1))) then (
 some (.inr (.inr (-1))))
 else (
 let k5:Int:=IntKind.wrap .i64 ((IntKind.wrap .i64 ((IntKind.wrap .i64 (s1.1 + 1)) + 1)) + 1)
 idx a0 s1.2 fun x6 =>
 bif (x6.2.2.2.1 != k5) then (
 some (.inr (.inr (-1))))
 else (
 idx a0 s1.2 fun x7 =>
 bif (x7.2.2.2.2.1 != (IntKind.wrap .i64 (k5 + 1))) then (
 some (.inr (.inr (-1))))
 else (
 idx a0 s1.2 fun x8 =>
 bif (x8.2.2.2.2.2.1 != (IntKind.wrap .i64 ((IntKind.wrap .i64 (k5 + 1)) + 1))) then (
 some (.inr (.inr (-1))))
 else (
 let k9:Int:=IntKind.wrap .i64 ((IntKind.wrap .i64 ((IntKind.wrap .i64 (k5 + 1)) + 1)) + 1)
 idx a0 s1.2 fun x10 =>
 if 3=0 then none else (
 bif (x10.2.2.2.2.2.2.1 != ((k9.tmod 3) == 0)) then (
 some (.inr (.inr (-1))))
 else (
 some (.inl (IntKind.wrap .i64 (k9 + 1),IntKind.wrap .i64 (s1.2 + 1))))))))))))
 else (
 some (.inr (.inl s1)))
def ej (a0:(List ac.D)) (a1:Int):Option Int :=
(al (gJ a0) (a1,0)).bind fun o11 =>
 match o11 with
| .inl s12=>(
 some s12.1)
| .inr o13=>(
 some o13)
def DT:Hints:=(n0 (nd (n0 (nd (.node none (some ⟨[.tmp 1 (.int .i64),.tmp 5 (.int .i64)],[some 0],some [.tmp 4 (.int .i64)],[]⟩) .none .none) .none)) .none))
def DU:Ct:=.pure true false (.pair (.slice ac) (.pair (.int .i64) .unit)) (.int .i64) (fun x=>ej x.1 x.2.1)
theorem sk:KC 172 DU:=pq En DT Tryz.func172
def fQ (a0:(List aa.D)):(Int×Int)→Option ((Int×Int)⊕((Int×Int)⊕Int)):=fun s1 =>
 bif decide (s1.2 < (a0.length:Int)) then (
 idx a0 s1.2 fun x2 =>
 bif (x2.1 != s1.1) then (
 some (.inr (.inr (-1))))
 else (
 idx a0 s1.2 fun x3 =>
 bif (x3.2.1 != (IntKind.wrap .i64 (s1.1 + 1))) then (
 some (.inr (.inr (-1))))
 else (
 idx a0 s1.2 fun x4 =>
 bif (x4.2.2.1 != (IntKind.wrap .i64 ((IntKind.wrap .i64 (s1.1 + 1)) + 1))) then (
 some (.inr (.inr (-1))))
 else (
 let k5:Int:=IntKind.wrap .i64 ((IntKind.wrap .i64 ((IntKind.wrap .i64 (s1.1 + 1)) + 1)) + 1)
 idx a0 s1.2 fun x6 =>
 bif (x6.2.2.2.1 != k5) then (
 some (.inr (.inr (-1))))
 else (
 idx a0 s1.2 fun x7 =>
 bif (x7.2.2.2.2.1.1 != (IntKind.wrap .i64 (k5 + 1))) then (
 some (.inr (.inr (-1))))
 else (
 idx a0 s1.2 fun x8 =>
 bif (x8.2.2.2.2.1.2.1 != (IntKind.wrap .i64 ((IntKind.wrap .i64 (k5 + 1)) + 1))) then (
 some (.inr (.inr (-1))))
 else (
 let k9:Int:=IntKind.wrap .i64 ((IntKind.wrap .i64 ((IntKind.wrap .i64 (k5 + 1)) + 1)) + 1)
 idx a0 s1.2 fun x10 =>
 bif (x10.2.2.2.2.1.2.2.1 != k9) then (
 some (.inr (.inr (-1))))
 else (
 idx a0 s1.2 fun x11 =>
 bif (x11.2.2.2.2.1.2.2.2.1 != (IntKind.wrap .i64 (k9 + 1))) then (
 some (.inr (.inr (-1))))
 else (
 idx a0 s1.2 fun x12 =>
 bif (x12.2.2.2.2.1.2.2.2.2.1 != (IntKind.wrap .i64 ((IntKind.wrap .i64 (k9 + 1)) + 1))) then (
 some (.inr (.inr (-1))))
 else (
 let k13:Int:=IntKind.wrap .i64 ((IntKind.wrap .i64 ((IntKind.wrap .i64 (k9 + 1)) + 1)) + 1)
 idx a0 s1.2 fun x14 =>
 bif (x14.2.2.2.2.1.2.2.2.2.2.1 != k13) then (
 some (.inr (.inr (-1))))
 else (
 idx a0 s1.2 fun x15 =>
 bif (x15.2.2.2.2.1.2.2.2.2.2.2.1 != (IntKind.wrap .i64 (k13 + 1))) then (
 some (.inr (.inr (-1))))
 else (
 idx a0 s1.2 fun x16 =>
 bif (x16.2.2.2.2.2.1.1 != (IntKind.wrap .i64 ((IntKind.wrap .i64 (k13 + 1)) + 1))) then (
 some (.inr (.inr (-1))))
 else (
 let k17:Int:=IntKind.wrap .i64 ((IntKind.wrap .i64 ((IntKind.wrap .i64 (k13 + 1)) + 1)) + 1)
 idx a0 s1.2 fun x18 =>
 bif (x18.2.2.2.2.2.1.2.1 != k17) then (
 some (.inr (.inr (-1))))
 else (
 idx a0 s1.2 fun x19 =>
 bif (x19.2.2.2.2.2.2.1.1 != (IntKind.wrap .i64 (k17 + 1))) then (
 some (.inr (.inr (-1))))
 else (
 idx a0 s1.2 fun x20 =>
 bif (x20.2.2.2.2.2.2.1.2.1 != (IntKind.wrap .i64 ((IntKind.wrap .i64 (k17 + 1)) + 1))) then (
 some (.inr (.inr (-1))))
 else (
 let k21:Int:=IntKind.wrap .i64 ((IntKind.wrap .i64 ((IntKind.wrap .i64 (k17 + 1)) + 1)) + 1)
 idx a0 s1.2 fun x22 =>
 bif (x22.2.2.2.2.2.2.1.2.2.1 != k21) then (
 some (.inr (.inr (-1))))
 else (
 idx a0 s1.2 fun x23 =>
 bif (x23.2.2.2.2.2.2.1.2.2.2.1 != (IntKind.wrap .i64 (k21 + 1))) then (
 some (.inr (.inr (-1))))
 else (
 idx a0 s1.2 fun x24 =>
 bif (x24.2.2.2.2.2.2.1.2.2.2.2.1 != (IntKind.wrap .i64 ((IntKind.wrap .i64 (k21 + 1)) + 1))) then (
 some (.inr (.inr (-1))))
 else (
 let k25:Int:=IntKind.wrap .i64 ((IntKind.wrap .i64 ((IntKind.wrap .i64 (k21 + 1)) + 1)) + 1)
 idx a0 s1.2 fun x26 =>
 if 3=0 then none else (
 bif (x26.2.2.2.2.2.2.1.2.2.2.2.2.1 != ((k25.tmod 3) == 0)) then (
 some (.inr (.inr (-1))))
 else (
 idx a0 s1.2 fun x27 =>
(ej x27.2.2.2.2.2.2.1.2.2.2.2.2.2.1 (IntKind.wrap .i64 (k25 + 1))).bind fun y28 =>
 bif decide (y28 < 0) then (
 some (.inr (.inr (-1))))
 else (
 idx a0 s1.2 fun x29 =>
 bif (x29.2.2.2.2.2.2.2.1 != y28) then (
 some (.inr (.inr (-1))))
 else (
 idx a0 s1.2 fun x30 =>
 bif (x30.2.2.2.2.2.2.2.2.1 != (IntKind.wrap .i64 (y28 + 1))) then (
 some (.inr (.inr (-1))))
 else (
 some (.inl (IntKind.wrap .i64 ((IntKind.wrap .i64 (y28 + 1)) + 1),IntKind.wrap .i64 (s1.2 + 1)))))))))))))))))))))))))))
 else (
 some (.inr (.inl s1)))
def jm (a0:(List aa.D)) (a1:Int):Option Int :=
(al (fQ a0) (a1,0)).bind fun o31 =>
 match o31 with
| .inl s32=>(
 some s32.1)
| .inr o33=>(
 some o33)
def B5:Hints:=(n0 (nd (n0 (nd (.node none (some ⟨[.tmp 1 (.int .i64),.tmp 5 (.int .i64)],[some 0],some [.tmp 4 (.int .i64)],[]⟩) .none .none) .none)) .none))
def B6:Ct:=.pure true false (.pair (.slice aa) (.pair (.int .i64) .unit)) (.int .i64) (fun x=>jm x.1 x.2.1)
theorem AH:KC 141 B6:=pq (Ec sk En) B5 Tryz.func141
def jn (a0:(List Int)):(Int×Int)→Option ((Int×Int)⊕((Int×Int)⊕Int)):=fun s1 =>
 bif decide (s1.2 < (a0.length:Int)) then (
 idx a0 s1.2 fun x2 =>
 bif (x2 != s1.1) then (
 some (.inr (.inr (-1))))
 else (
 some (.inl (IntKind.wrap .i64 (s1.1 + 1),IntKind.wrap .i64 (s1.2 + 1)))))
 else (
 some (.inr (.inl s1)))
def oT (a0:(List Int)) (a1:Int):Option Int :=
(al (jn a0) (a1,0)).bind fun o3 =>
 match o3 with
| .inl s4=>(
 some s4.1)
| .inr o5=>(
 some o5)
def HA:Hints:=(n0 (nd (n0 (nd (.node none (some ⟨[.tmp 1 (.int .i64),.tmp 5 (.int .i64)],[some 0],some [.tmp 4 (.int .i64)],[]⟩) .none .none) .none)) .none))
def HB:Ct:=.pure true false (.pair (.slice (.int .i64)) (.pair (.int .i64) .unit)) (.int .i64) (fun x=>oT x.1 x.2.1)
theorem FD:KC 142 HB:=pq En HA Tryz.func142
def fz (a0:(List af.D)):(Int×Int)→Option ((Int×Int)⊕((Int×Int)⊕Int)):=fun s1 =>
 bif decide (s1.2 < (a0.length:Int)) then (
 idx a0 s1.2 fun x2 =>
 bif (x2.1 != s1.1) then (
 some (.inr (.inr (-1))))
 else (
 idx a0 s1.2 fun x3 =>
 bif (x3.2.1 != (IntKind.wrap .i64 (s1.1 + 1))) then (
 some (.inr (.inr (-1))))
 else (
 idx a0 s1.2 fun x4 =>
 bif (x4.2.2.1 != (IntKind.wrap .i64 ((IntKind.wrap .i64 (s1.1 + 1)) + 1))) then (
 some (.inr (.inr (-1))))
 else (
 let k5:Int:=IntKind.wrap .i64 ((IntKind.wrap .i64 ((IntKind.wrap .i64 (s1.1 + 1)) + 1)) + 1)
 idx a0 s1.2 fun x6 =>
 bif (x6.2.2.2.1.1 != k5) then (
 some (.inr (.inr (-1))))
 else (
 idx a0 s1.2 fun x7 =>
 bif (x7.2.2.2.1.2.1 != (IntKind.wrap .i64 (k5 + 1))) then (
 some (.inr (.inr (-1))))
 else (
 idx a0 s1.2 fun x8 =>
 bif (x8.2.2.2.1.2.2.1 != (IntKind.wrap .i64 ((IntKind.wrap .i64 (k5 + 1)) + 1))) then (
 some (.inr (.inr (-1))))
 else (
 let k9:Int:=IntKind.wrap .i64 ((IntKind.wrap .i64 ((IntKind.wrap .i64 (k5 + 1)) + 1)) + 1)
 idx a0 s1.2 fun x10 =>
 bif (x10.2.2.2.1.2.2.2.1 != k9) then (
 some (.inr (.inr (-1))))
 else (
 idx a0 s1.2 fun x11 =>
 bif (x11.2.2.2.1.2.2.2.2.1 != (IntKind.wrap .i64 (k9 + 1))) then (
 some (.inr (.inr (-1))))
 else (
 idx a0 s1.2 fun x12 =>
 bif (x12.2.2.2.1.2.2.2.2.2.1 != (IntKind.wrap .i64 ((IntKind.wrap .i64 (k9 + 1)) + 1))) then (
 some (.inr (.inr (-1))))
 else (
 let k13:Int:=IntKind.wrap .i64 ((IntKind.wrap .i64 ((IntKind.wrap .i64 (k9 + 1)) + 1)) + 1)
 idx a0 s1.2 fun x14 =>
 bif (x14.2.2.2.1.2.2.2.2.2.2.1 != k13) then (
 some (.inr (.inr (-1))))
 else (
 idx a0 s1.2 fun x15 =>
 bif (x15.2.2.2.1.2.2.2.2.2.2.2.1 != (IntKind.wrap .i64 (k13 + 1))) then (
 some (.inr (.inr (-1))))
 else (
 idx a0 s1.2 fun x16 =>
 bif (x16.2.2.2.1.2.2.2.2.2.2.2.2.1 != (IntKind.wrap .i64 ((IntKind.wrap .i64 (k13 + 1)) + 1))) then (
 some (.inr (.inr (-1))))
 else (
 let k17:Int:=IntKind.wrap .i64 ((IntKind.wrap .i64 ((IntKind.wrap .i64 (k13 + 1)) + 1)) + 1)
 idx a0 s1.2 fun x18 =>
 bif (x18.2.2.2.1.2.2.2.2.2.2.2.2.2.1 != k17) then (
 some (.inr (.inr (-1))))
 else (
 idx a0 s1.2 fun x19 =>
 bif (x19.2.2.2.1.2.2.2.2.2.2.2.2.2.2.1 != (IntKind.wrap .i64 (k17 + 1))) then (
 some (.inr (.inr (-1))))
 else (
 idx a0 s1.2 fun x20 =>
 if 3=0 then none else (
 let k21:Int:=(IntKind.wrap .i64 ((IntKind.wrap .i64 (k17 + 1)) + 1)).tmod 3
 bif (x20.2.2.2.1.2.2.2.2.2.2.2.2.2.2.2.1 != (k21 == 0)) then (
 some (.inr (.inr (-1))))
 else (
 let k22:Int:=IntKind.wrap .i64 ((IntKind.wrap .i64 ((IntKind.wrap .i64 (k17 + 1)) + 1)) + 1)
 idx a0 s1.2 fun x23 =>
 if 3=0 then none else (
 bif (x23.2.2.2.1.2.2.2.2.2.2.2.2.2.2.2.2.1 != ((k22.tmod 3) == 0)) then (
 some (.inr (.inr (-1))))
 else (
 some (.inl (IntKind.wrap .i64 (k22 + 1),IntKind.wrap .i64 (s1.2 + 1))))))))))))))))))))))
 else (
 some (.inr (.inl s1)))
def io (a0:(List af.D)) (a1:Int):Option Int :=
(al (fz a0) (a1,0)).bind fun o24 =>
 match o24 with
| .inl s25=>(
 some s25.1)
| .inr o26=>(
 some o26)
def AI:Hints:=(n0 (nd (n0 (nd (.node none (some ⟨[.tmp 1 (.int .i64),.tmp 5 (.int .i64)],[some 0],some [.tmp 4 (.int .i64)],[]⟩) .none .none) .none)) .none))
def AJ:Ct:=.pure true false (.pair (.slice af) (.pair (.int .i64) .unit)) (.int .i64) (fun x=>io x.1 x.2.1)
theorem zo:KC 143 AJ:=pq En AI Tryz.func143
def ip (a0:(List ai.D)):(Int×Int)→Option ((Int×Int)⊕((Int×Int)⊕Int)):=fun s1 =>
 bif decide (s1.2 < (a0.length:Int)) then (
 idx a0 s1.2 fun x2 =>
 bif (x2.1 != s1.1) then (
 some (.inr (.inr (-1))))
 else (
 idx a0 s1.2 fun x3 =>
 bif (x3.2.1.1 != (IntKind.wrap .i64 (s1.1 + 1))) then (
 some (.inr (.inr (-1))))
 else (
 idx a0 s1.2 fun x4 =>
 bif (x4.2.1.2.1 != (IntKind.wrap .i64 ((IntKind.wrap .i64 (s1.1 + 1)) + 1))) then (
 some (.inr (.inr (-1))))
 else (
 let k5:Int:=IntKind.wrap .i64 ((IntKind.wrap .i64 ((IntKind.wrap .i64 (s1.1 + 1)) + 1)) + 1)
 idx a0 s1.2 fun x6 =>
 bif (x6.2.1.2.2.1 != k5) then (
 some (.inr (.inr (-1))))
 else (
 idx a0 s1.2 fun x7 =>
 bif (x7.2.1.2.2.2.1 != (IntKind.wrap .i64 (k5 + 1))) then (
 some (.inr (.inr (-1))))
 else (
 idx a0 s1.2 fun x8 =>
 bif (x8.2.1.2.2.2.2.1 != (IntKind.wrap .i64 ((IntKind.wrap .i64 (k5 + 1)) + 1))) then (
 some (.inr (.inr (-1))))
 else (
 let k9:Int:=IntKind.wrap .i64 ((IntKind.wrap .i64 ((IntKind.wrap .i64 (k5 + 1)) + 1)) + 1)
 idx a0 s1.2 fun x10 =>
 bif (x10.2.1.2.2.2.2.2.1 != k9) then (
 some (.inr (.inr (-1))))
 else (
 idx a0 s1.2 fun x11 =>
 if 3=0 then none else (
 bif (x11.2.1.2.2.2.2.2.2.1 != (((IntKind.wrap .i64 (k9 + 1)).tmod 3) == 0)) then (
 some (.inr (.inr (-1))))
 else (
 idx a0 s1.2 fun x12 =>
 bif (x12.2.2.1 != (IntKind.wrap .i64 ((IntKind.wrap .i64 (k9 + 1)) + 1))) then (
 some (.inr (.inr (-1))))
 else (
 let k13:Int:=IntKind.wrap .i64 ((IntKind.wrap .i64 ((IntKind.wrap .i64 (k9 + 1)) + 1)) + 1)
 idx a0 s1.2 fun x14 =>
 bif (x14.2.2.2.1 != k13) then (
 some (.inr (.inr (-1))))
 else (
 idx a0 s1.2 fun x15 =>
 bif (x15.2.2.2.2.1.1 != (IntKind.wrap .i64 (k13 + 1))) then (
 some (.inr (.inr (-1))))
 else (
 idx a0 s1.2 fun x16 =>
 bif (x16.2.2.2.2.1.2.1 != (IntKind.wrap .i64 ((IntKind.wrap .i64 (k13 + 1)) + 1))) then (
 some (.inr (.inr (-1))))
 else (
 let k17:Int:=IntKind.wrap .i64 ((IntKind.wrap .i64 ((IntKind.wrap .i64 (k13 + 1)) + 1)) + 1)
 idx a0 s1.2 fun x18 =>
 bif (x18.2.2.2.2.1.2.2.1 != k17) then (
 some (.inr (.inr (-1))))
 else (
 idx a0 s1.2 fun x19 =>
 bif (x19.2.2.2.2.1.2.2.2.1 != (IntKind.wrap .i64 (k17 + 1))) then (
 some (.inr (.inr (-1))))
 else (
 idx a0 s1.2 fun x20 =>
 bif (x20.2.2.2.2.1.2.2.2.2.1 != (IntKind.wrap .i64 ((IntKind.wrap .i64 (k17 + 1)) + 1))) then (
 some (.inr (.inr (-1))))
 else (
 let k21:Int:=IntKind.wrap .i64 ((IntKind.wrap .i64 ((IntKind.wrap .i64 (k17 + 1)) + 1)) + 1)
 idx a0 s1.2 fun x22 =>
 bif (x22.2.2.2.2.1.2.2.2.2.2.1 != k21) then (
 some (.inr (.inr (-1))))
 else (
 idx a0 s1.2 fun x23 =>
 bif (x23.2.2.2.2.1.2.2.2.2.2.2.1 != (IntKind.wrap .i64 (k21 + 1))) then (
 some (.inr (.inr (-1))))
 else (
 idx a0 s1.2 fun x24 =>
 bif (x24.2.2.2.2.1.2.2.2.2.2.2.2.1 != (IntKind.wrap .i64 ((IntKind.wrap .i64 (k21 + 1)) + 1))) then (
 some (.inr (.inr (-1))))
 else (
 let k25:Int:=IntKind.wrap .i64 ((IntKind.wrap .i64 ((IntKind.wrap .i64 (k21 + 1)) + 1)) + 1)
 idx a0 s1.2 fun x26 =>
 bif (x26.2.2.2.2.1.2.2.2.2.2.2.2.2.1 != k25) then (
 some (.inr (.inr (-1))))
 else (
 idx a0 s1.2 fun x27 =>
 bif (x27.2.2.2.2.1.2.2.2.2.2.2.2.2.2.1 != (IntKind.wrap .i64 (k25 + 1))) then (
 some (.inr (.inr (-1))))
 else (
 idx a0 s1.2 fun x28 =>
 bif (x28.2.2.2.2.1.2.2.2.2.2.2.2.2.2.2.1 != (IntKind.wrap .i64 ((IntKind.wrap .i64 (k25 + 1)) + 1))) then (
 some (.inr (.inr (-1))))
 else (
 let k29:Int:=IntKind.wrap .i64 ((IntKind.wrap .i64 ((IntKind.wrap .i64 (k25 + 1)) + 1)) + 1)
 idx a0 s1.2 fun x30 =>
 if 3=0 then none else (
 bif (x30.2.2.2.2.1.2.2.2.2.2.2.2.2.2.2.2.1 != ((k29.tmod 3) == 0)) then (
 some (.inr (.inr (-1))))
 else (
 idx a0 s1.2 fun x31 =>
 if 3=0 then none else (
 bif (x31.2.2.2.2.1.2.2.2.2.2.2.2.2.2.2.2.2.1 != (((IntKind.wrap .i64 (k29 + 1)).tmod 3) == 0)) then (
 some (.inr (.inr (-1))))
 else (
 some (.inl (IntKind.wrap .i64 ((IntKind.wrap .i64 (k29 + 1)) + 1),IntKind.wrap .i64 (s1.2 + 1))))))))))))))))))))))))))))))
 else (
 some (.inr (.inl s1)))
def mW (a0:(List ai.D)) (a1:Int):Option Int :=
(al (ip a0) (a1,0)).bind fun o32 =>
 match o32 with
| .inl s33=>(
 some s33.1)
| .inr o34=>(
 some o34)
def FE:Hints:=(n0 (nd (n0 (nd (.node none (some ⟨[.tmp 1 (.int .i64),.tmp 5 (.int .i64)],[some 0],some [.tmp 4 (.int .i64)],[]⟩) .none .none) .none)) .none))
def FF:Ct:=.pure true false (.pair (.slice ai) (.pair (.int .i64) .unit)) (.int .i64) (fun x=>mW x.1 x.2.1)
theorem DV:KC 144 FF:=pq En FE Tryz.func144
def iq (a0:(List ar.D)):(Int×Int)→Option ((Int×Int)⊕((Int×Int)⊕Int)):=fun s1 =>
 bif decide (s1.2 < (a0.length:Int)) then (
 idx a0 s1.2 fun x2 =>
 bif (x2.1 != s1.1) then (
 some (.inr (.inr (-1))))
 else (
 idx a0 s1.2 fun x3 =>
 bif (x3.2.1 != (IntKind.wrap .i64 (s1.1 + 1))) then (
 some (.inr (.inr (-1))))
 else (
 idx a0 s1.2 fun x4 =>
 bif (x4.2.2.1 != (IntKind.wrap .i64 ((IntKind.wrap .i64 (s1.1 + 1)) + 1))) then (
 some (.inr (.inr (-1))))
 else (
 let k5:Int:=IntKind.wrap .i64 ((IntKind.wrap .i64 ((IntKind.wrap .i64 (s1.1 + 1)) + 1)) + 1)
 idx a0 s1.2 fun x6 =>
 bif (x6.2.2.2.1 != k5) then (
 some (.inr (.inr (-1))))
 else (
 idx a0 s1.2 fun x7 =>
 bif (x7.2.2.2.2.1.1 != (IntKind.wrap .i64 (k5 + 1))) then (
 some (.inr (.inr (-1))))
 else (
 idx a0 s1.2 fun x8 =>
 bif (x8.2.2.2.2.1.2.1 != (IntKind.wrap .i64 ((IntKind.wrap .i64 (k5 + 1)) + 1))) then (
 some (.inr (.inr (-1))))
 else (
 let k9:Int:=IntKind.wrap .i64 ((IntKind.wrap .i64 ((IntKind.wrap .i64 (k5 + 1)) + 1)) + 1)
 idx a0 s1.2 fun x10 =>
 bif (x10.2.2.2.2.1.2.2.1 != k9) then (
 some (.inr (.inr (-1))))
 else (
 idx a0 s1.2 fun x11 =>
 bif (x11.2.2.2.2.1.2.2.2.1 != (IntKind.wrap .i64 (k9 + 1))) then (
 some (.inr (.inr (-1))))
 else (
 idx a0 s1.2 fun x12 =>
 bif (x12.2.2.2.2.1.2.2.2.2.1 != (IntKind.wrap .i64 ((IntKind.wrap .i64 (k9 + 1)) + 1))) then (
 some (.inr (.inr (-1))))
 else (
 let k13:Int:=IntKind.wrap .i64 ((IntKind.wrap .i64 ((IntKind.wrap .i64 (k9 + 1)) + 1)) + 1)
 idx a0 s1.2 fun x14 =>
 bif (x14.2.2.2.2.1.2.2.2.2.2.1 != k13) then (
 some (.inr (.inr (-1))))
 else (
 idx a0 s1.2 fun x15 =>
 if 3=0 then none else (
 bif (x15.2.2.2.2.1.2.2.2.2.2.2.1 != (((IntKind.wrap .i64 (k13 + 1)).tmod 3) == 0)) then (
 some (.inr (.inr (-1))))
 else (
 idx a0 s1.2 fun x16 =>
(ej x16.2.2.2.2.2.1 (IntKind.wrap .i64 ((IntKind.wrap .i64 (k13 + 1)) + 1))).bind fun y17 =>
 bif decide (y17 < 0) then (
 some (.inr (.inr (-1))))
 else (
 idx a0 s1.2 fun x18 =>
 bif (x18.2.2.2.2.2.2.1 != y17) then (
 some (.inr (.inr (-1))))
 else (
 idx a0 s1.2 fun x19 =>
 bif (x19.2.2.2.2.2.2.2.1 != (IntKind.wrap .i64 (y17 + 1))) then (
 some (.inr (.inr (-1))))
 else (
 some (.inl (IntKind.wrap .i64 ((IntKind.wrap .i64 (y17 + 1)) + 1),IntKind.wrap .i64 (s1.2 + 1)))))))))))))))))))
 else (
 some (.inr (.inl s1)))
def mX (a0:(List ar.D)) (a1:Int):Option Int :=
(al (iq a0) (a1,0)).bind fun o20 =>
 match o20 with
| .inl s21=>(
 some s21.1)
| .inr o22=>(
 some o22)
def FG:Hints:=(n0 (nd (n0 (nd (.node none (some ⟨[.tmp 1 (.int .i64),.tmp 5 (.int .i64)],[some 0],some [.tmp 4 (.int .i64)],[]⟩) .none .none) .none)) .none))
def FI:Ct:=.pure true false (.pair (.slice ar) (.pair (.int .i64) .unit)) (.int .i64) (fun x=>mX x.1 x.2.1)
theorem DW:KC 145 FI:=pq (Ec sk En) FG Tryz.func145
def jT (a0:T_Game.D) (a1:Int):Option Int :=
(iT a0.1 a1).bind fun y1 =>
 bif decide (y1 < 0) then (
 some (-1))
 else (
(jm a0.2.1 y1).bind fun y2 =>
 bif decide (y2 < 0) then (
 some (-1))
 else (
(oT a0.2.2.1 y2).bind fun y3 =>
 bif decide (y3 < 0) then (
 some (-1))
 else (
(io a0.2.2.2.1 y3).bind fun y4 =>
 bif decide (y4 < 0) then (
 some (-1))
 else (
(mW a0.2.2.2.2.1 y4).bind fun y5 =>
 bif decide (y5 < 0) then (
 some (-1))
 else (
(mX a0.2.2.2.2.2.1 y5).bind fun y6 =>
 bif decide (y6 < 0) then (
 some (-1))
 else (
 some y6))))))
def HC:Ct:=.pure true false (.pair T_Game (.pair (.int .i64) .unit)) (.int .i64) (fun x=>jT x.1 x.2.1)
theorem FJ:KC 31 HC:=pq (Ec DS (Ec AH (Ec FD (Ec zo (Ec DV (Ec DW En)))))) .none Tryz.func31
def ot (a0:T_Game.D) (a1:(List T_Order.D)):Option Bool :=
(iI a0 1048576).bind fun y1 =>
 bif decide (y1 < 0) then (
 some true)
 else (
(oG a1 y1).bind fun y2 =>
 bif decide (y2 < 0) then (
 some true)
 else (
(iK a0).bind fun y3 =>
(fI a1).bind fun y4 =>
(zY y3 y4).bind fun y5 =>
(iK a0).bind fun y6 =>
(fI a1).bind fun y7 =>
(ve y6 y7).bind fun y8 =>
(((iS y8.1 y5.1).bind fun y9 =>
 bif (!y9) then (
 some true)
 else (
 some (y8.2.1 != y5.2.1))):Option Bool).bind fun o10 =>
 bif o10 then (
 some false)
 else (
(iK a0).bind fun y11 =>
(iS y6 y11).bind fun y12 =>
 bif (!y12) then (
 some false)
 else (
(fI a1).bind fun y13 =>
(oR y7 y13).bind fun y14 =>
 bif (!y14) then (
 some false)
 else (
(jS y6 1).bind fun y15 =>
(kH y7 y15.1).bind fun y16 =>
((bif decide (y16.1 < 0) then (
 some true)
 else (
(iS y8.1 y5.1).bind fun y17 =>
 bif (!y17) then (
 some true)
 else (
 some (y8.2.1 != y5.2.1)))):Option Bool).bind fun o18 =>
 bif o18 then (
 some false)
 else (
(jS y8.1 1).bind fun y19 =>
(jT ((y19.2.1.1.1,y19.2.1.1.2.1,y8.1.1.2.2),y19.2.1.2) 1).bind fun y20 =>
 bif decide (y20 < 0) then (
 some false)
 else (
 bif (y20 != y19.1) then (
 some false)
 else (
(iK a0).bind fun y21 =>
(fI a1).bind fun y22 =>
(ve y21 y22).bind fun y23 =>
(((iS y23.1 y5.1).bind fun y24 =>
 bif (!y24) then (
 some true)
 else (
 some (y23.2.1 != y5.2.1))):Option Bool).bind fun o25 =>
 bif o25 then (
 some false)
 else (
(jT ((y19.2.1.1.1,y19.2.1.1.2.1,y8.1.1.2.2),y19.2.1.2) 1).bind fun y26 =>
 bif decide (y26 < 0) then (
 some false)
 else (
 bif (y26 != y19.1) then (
 some false)
 else (
 some true)))))))))))
def B7:Hints:=(n0 (n0 (n0 (n0 (n0 (n0 (n0 (n0 (n0 (n0 (nd (nd (cu ⟨[.tmp 53 .bool],[none],none,[]⟩) .none) (n0 (n0 (n0 (n0 (n0 (nd (nd (cu ⟨[.tmp 82 .bool],[none],none,[]⟩) .none) (n0 (n0 (n0 (n0 (n0 (n0 (n0 (nd (nd (cu ⟨[.tmp 110 .bool],[none],none,[]⟩) .none) .none)))))))))))))))))))))))))
def B8:Ct:=.pure true false (.pair T_Game (.pair (.slice T_Order) .unit)) .bool (fun x=>ot x.1 x.2.1)
theorem laws_FnExactPlay_ct:KC 5 B8:=pq (Ec I7 (Ec yy (Ec Kw (Ec Fy (Ec FJ (Ec EW (Ec BI (Ec vU (Ec BY (Ec Fp (Ec B3 En))))))))))) B7 Tryz.func5
end
end Go.Abs
