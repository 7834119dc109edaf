/- Part of a proof of FnGames: see the row. -/
import Derived.Test.YtenadnbpibhmiaaGreatGmGenGM1
set_option linter.unusedVariables false
set_option linter.unusedSimpArgs false
namespace Go.Abs
open Go.Proofs
set_option maxRecDepth 100000
noncomputable section
def v9 (a0:ah.D):Option Bool :=
 bif (a0.2.2.2.2.1 == 0) then (
 some (a0.1 != 2))
 else (
 some false)
def FT:Ct:=.pure true false (.pair ah .unit) .bool (fun x=>v9 x.1)
theorem DC:KC 278 FT:=pq En .none Tryz.func278
def wa (a0:(List Int)) (a1:Int):Option (Int×((List Int)×Unit)) :=
((bif decide (a1 < 2) then (
 some true)
 else (
 some ((a0.length:Int) == 0))):Option Bool).bind fun o1 =>
 bif o1 then (
(bw a0).bind fun y2 =>
 some (0,y2,()))
 else (
 idx a0 0 fun x3 =>
 if a1=0 then none else (
((bif decide ((x3.tmod a1) < 0) then (
 some (IntKind.wrap .i64 ((x3.tmod a1) + a1)))
 else (
 some (x3.tmod a1))):Option Int).bind fun o4 =>
 if 0≤(1:Int) then (if (1:Int)≤(a0.length:Int) then (if (a0.length:Int)≤(a0.length:Int) then (
(bw ((a0.take (a0.length:Int).toNat).drop (1:Int).toNat)).bind fun y5 =>
 some (o4,y5,())) else none) else none) else none))
def Oc:Hints:=(n0 (nd (nd (cu ⟨[.tmp 13 .bool],[none],none,[]⟩) .none) (n0 (nd (n0 (cu ⟨[.tmp 6 (.int .i64)],[none],none,[]⟩)) .none))))
def uN:Ct:=.pure false true (.pair (.slice (.int .i64)) (.pair (.int .i64) .unit)) (.pair (.int .i64) (.pair (.slice (.int .i64)) .unit)) (fun x=>wa x.1 x.2.1)
theorem tj:KC 164 uN:=pq (Ec bz En) Oc Tryz.func164
def tp (x:tY.D) (a0:Int):Option ((Int×(Bool×Unit))×tY.D) :=
(wa x.2.1.2.2.1 a0).bind fun y1 =>
 some ((y1.1,true,()),(x.1,(x.2.1.1,x.2.1.2.1,y1.2.1,x.2.1.2.2.2),()))
def wb:Ct:=.run tY [(163,true),(165,false)] true true false (.pair (.int .i64) .unit) (.pair (.int .i64) (.pair .bool .unit)) (fun x y=>tp x y.1)
theorem DD:cS Tryz.prog 163 wb:=L1 (E:={ T:=tab,G:=[(164,uN)] }) (ar.cons tj (ar.nil dJ)) mixed (fn:=Tryz.f163) _ _ _ _ _ _ _ _ .none Tryz.func163 (by kernel_rfl) (fun x y=>by kernel_rfl)
def ma (a0:Int) (a1:Int):Option Int :=
 some (if (if a1 < a0 then a1 else a0) > 0 then (if a1 < a0 then a1 else a0) else 0)
def Od:Ct:=.pure true false bU (.int .i64) (fun x=>ma x.1 x.2.1)
theorem nh:KC 374 Od:=pq En .none Tryz.func374
def w5 (a0:ah.D) (a1:Int):Option ah.D :=
(ma a1 2147483647).bind fun y1 =>
 some (a0.1,a0.2.1,a0.2.2.1,a0.2.2.2.1,y1,a0.2.2.2.2.2)
def MA:Ct:=.pure true false (.pair ah (.pair (.int .i64) .unit)) ah (fun x=>w5 x.1 x.2.1)
theorem Ko:KC 375 MA:=pq (Ec nh En) .none Tryz.func375
def bq (a0:Int) (a1:Int):Option Int :=
(cO a0).bind fun y1 =>
(cO a1).bind fun y2 =>
(cO (IntKind.wrap .i64 (y1 + y2))).bind fun y3 =>
 some y3
def Oe:Ct:=.pure true false bU (.int .i64) (fun x=>bq x.1 x.2.1)
theorem rL:KC 364 Oe:=pq (Ec iX En) .none Tryz.func364
def Cf (a0:Int):Option Int :=
(cO a0).bind fun y1 =>
(cO (IntKind.wrap .i64 (2 * y1))).bind fun y2 =>
 some y2
def MB:Ct:=.pure true false (.pair (.int .i64) .unit) (.int .i64) (fun x=>Cf x.1)
theorem Kp:KC 397 MB:=pq (Ec iX En) .none Tryz.func397
def E4 (a0:Int):Option Int :=
(cO a0).bind fun y1 =>
 if 2=0 then none else (
 some (IntKind.wrap .i64 (y1.tdiv 2)))
def Of:Ct:=.pure true false (.pair (.int .i64) .unit) (.int .i64) (fun x=>E4 x.1)
theorem MC:KC 398 Of:=pq (Ec iX En) .none Tryz.func398
def uO (a0:bR.D) (a1:Int):Option Int :=
(ma a1 2147483647).bind fun y1 =>
 bif (a0.1 == 1) then (
 some 0)
 else (
 bif (a0.1 == 3) then (
(bq y1 a0.2.1).bind fun y2 =>
 some y2)
 else (
 bif (a0.1 == 4) then (
(Cf y1).bind fun y3 =>
 some y3)
 else (
 bif (a0.1 == 5) then (
(E4 y1).bind fun y4 =>
 some y4)
 else (
 some y1))))
def Kq:Ct:=.pure true false (.pair bR (.pair (.int .i64) .unit)) (.int .i64) (fun x=>uO x.1 x.2.1)
theorem IF:KC 376 Kq:=pq (Ec rL (Ec nh (Ec Kp (Ec MC En)))) .none Tryz.func376
def vq (a0:bR.D) (a1:ah.D):((List ah.D)×Int)→Option (((List ah.D)×Int)⊕((List ah.D)×Int)):=fun s1 =>
 bif decide (s1.2 < (a0.2.2.2.2.2.2.1.length:Int)) then (
 idx a0.2.2.2.2.2.2.1 s1.2 fun x2 =>
((bif (x2.2.2.2.2.1 == (-1)) then (
(ma a1.2.2.2.2.1 2147483647).bind fun y3 =>
 some (x2.1,x2.2.1,x2.2.2.1,x2.2.2.2.1,y3,x2.2.2.2.2.2))
 else (
 some x2)):Option ah.D).bind fun o4 =>
 if (s1.1.length + [o4].length) * (24 * 7)≤aI then (
 some (.inl ((s1.1++[o4]),IntKind.wrap .i64 (s1.2 + 1)))) else none)
 else (
 some (.inr s1))
def w6 (a0:bR.D) (a1:ah.D):Option (List ah.D) :=
 bif (a0.1 != 9) then (
 some [])
 else (
(ay (vq a0 a1) ([],0)).bind fun o5 =>
 some o5.1)
def MD:Hints:=(n0 (n0 (n0 (nd (n0 (nd (.node none (some ⟨[.tmpO 5 0 (.slice ah),.tmp 16 (.int .i64)],[some 0],none,[]⟩) (n0 (n0 (nd (nd (n0 (nd (n0 (cu ⟨[.box 7 0 ah],[none],none,[(7,0)]⟩)) .none)) .none) .none))) .none) .none)) .none))))
def Cg:Ct:=.pure true true (.pair bR (.pair ah .unit)) (.slice ah) (fun x=>w6 x.1 x.2.1)
theorem AQ:KC 377 Cg:=pq (Ec nh En) MD Tryz.func377
def tq (a0:aa.D) (a1:ah.D):Option ((List ah.D)×(Int×Unit)) :=
 bif (a0.2.2.2.2.2.2.1.1 == 1) then (
 bif (a1.1 == 1) then (
 some ([],a1.2.2.2.2.1,()))
 else (
 some ([],0,())))
 else (
 bif (a0.2.2.2.2.2.2.1.1 == 2) then (
(ma a1.2.2.2.2.1 a0.2.2.2.2.2.2.2.2.1).bind fun y1 =>
(w5 a1 (IntKind.wrap .i64 (a1.2.2.2.2.1 - y1))).bind fun y2 =>
 some ([y2],y1,()))
 else (
((bif (a0.2.2.2.2.2.2.1.1 == 3) then (
 some (a0.2.2.2.2.2.2.1.1 == 3))
 else (
((bif (a0.2.2.2.2.2.2.1.1 == 4) then (
 some (a0.2.2.2.2.2.2.1.1 == 4))
 else (
 some (a0.2.2.2.2.2.2.1.1 == 5))):Option Bool).bind fun o3 =>
 some o3)):Option Bool).bind fun o4 =>
 bif o4 then (
(uO a0.2.2.2.2.2.2.1 a1.2.2.2.2.1).bind fun y5 =>
(w5 a1 y5).bind fun y6 =>
 some ([y6],0,()))
 else (
((bif (a0.2.2.2.2.2.2.1.1 == 6) then (
 some (.inl (a1.1,a1.2.1,a0.2.2.2.2.2.2.1.2.2.1,a0.2.2.2.2.2.2.1.2.2.2.1,a1.2.2.2.2)))
 else (
((bif (a0.2.2.2.2.2.2.1.1 == 7) then (
((bif (a0.2.2.2.2.2.2.1.2.2.2.2.1 != 2) then (
 some (a1.1,a1.2.1,a1.2.2.1,a1.2.2.2.1,0,a0.2.2.2.2.2.2.1.2.2.2.2.1,false,()))
 else (
 some (a1.1,a1.2.1,a1.2.2.1,a1.2.2.2.1,a1.2.2.2.2.1,a0.2.2.2.2.2.2.1.2.2.2.2.1,a1.2.2.2.2.2.2))):Option ah.D).bind fun o7 =>
 some (.inl o7))
 else (
((bif (a0.2.2.2.2.2.2.1.1 == 8) then (
((bif (a1.2.2.2.2.2.1 == 2) then (
(ma (IntKind.wrap .i64 (a1.2.2.2.2.1 + a0.2.2.2.2.2.2.1.2.1)) 99).bind fun y8 =>
((bif a1.2.2.2.2.2.2.1 then (
 some (a1.1,a1.2.1,a1.2.2.1,a1.2.2.2.1,y8,a1.2.2.2.2.2.1,true,()))
 else (
 some (a1.1,a1.2.1,a1.2.2.1,a1.2.2.2.1,y8,a1.2.2.2.2.2.1,a0.2.2.2.2.2.2.1.2.2.2.2.2.1,()))):Option ah.D).bind fun o9 =>
 some o9)
 else (
 some a1)):Option ah.D).bind fun o10 =>
 some (.inl o10))
 else (
 bif (a0.2.2.2.2.2.2.1.1 == 9) then (
(w6 a0.2.2.2.2.2.2.1 a1).bind fun y11 =>
 some (.inr ((y11,0))))
 else (
 some (.inl a1)))):Option (ah.D⊕((List ah.D)×Int))).bind fun o12 =>
 match o12 with
| .inl s13=>(
 some (.inl s13))
| .inr o14=>(
 some (.inr o14)))):Option (ah.D⊕((List ah.D)×Int))).bind fun o15 =>
 match o15 with
| .inl s16=>(
 some (.inl s16))
| .inr o17=>(
 some (.inr o17)))):Option (ah.D⊕((List ah.D)×Int))).bind fun o18 =>
 match o18 with
| .inl s19=>(
 some ([s19],0,()))
| .inr o20=>(
 some (o20.1,o20.2,())))))
def ME:Hints:=(n0 (n0 (nd (n0 (nd (n0 (n0 (n0 (n0 (nd (n0 (.node (some ⟨[.tmp 34 .bool],[none],none,[]⟩) none .none (n0 (cu ⟨[.tmp 34 .bool],[none],none,[]⟩)))) (n0 (n0 (.node (some ⟨[.box 3 0 ah],[none],some [.tmpO 4 0 (.slice ah),.tmp 5 (.int .i64)],[(3,0)]⟩) none .none (n0 (.node (some ⟨[.box 3 0 ah],[none],some [.tmpO 4 0 (.slice ah),.tmp 5 (.int .i64)],[(3,0)]⟩) none (n0 (n0 (cu ⟨[.box 3 0 ah],[none],none,[(3,0)]⟩))) (n0 (.node (some ⟨[.box 3 0 ah],[none],some [.tmpO 4 0 (.slice ah),.tmp 5 (.int .i64)],[(3,0)]⟩) none (n0 (.node (some ⟨[.box 3 0 ah],[none],none,[(3,0)]⟩) none (n0 (cu ⟨[.box 3 0 ah],[none],none,[(3,0)]⟩)) .none)) .none)))))))))))) .none)) .none)))
def Ch:Ct:=.pure false true (.pair aa (.pair ah .unit)) (.pair (.slice ah) (.pair (.int .i64) .unit)) (fun x=>tq x.1 x.2.1)
theorem AR:KC 343 Ch:=pq (Ec nh (Ec Ko (Ec IF (Ec AQ En)))) ME Tryz.func343
def bV (a1:((ah.D×Unit)→Option Bool)):((List ah.D)×(Int×Int))→Option (((List ah.D)×(Int×Int))⊕((List ah.D)×(Int×Int))):=fun s3 =>
 bif decide (s3.2.2 < (s3.1.length:Int)) then (
 idx s3.1 s3.2.2 fun _ =>
(s3.1[(s3.2.2:Int).toNat]?).bind fun x4 =>
(a1 (x4,())).bind fun y5 =>
((bif (!y5) then (
 idx s3.1 s3.2.1 fun _ =>
(s3.1[(s3.2.1:Int).toNat]?).bind fun x6 =>
 let u7:(List ah.D):=s3.1.set (s3.2.1:Int).toNat x4
 some (u7,IntKind.wrap .i64 (s3.2.1 + 1)))
 else (
 some (s3.1,s3.2.1))):Option ((List ah.D)×Int)).bind fun o8 =>
 some (.inl (o8.1,o8.2,IntKind.wrap .i64 (s3.2.2 + 1))))
 else (
 some (.inr s3))
def bx (a0:(List ah.D)) (a1:((ah.D×Unit)→Option Bool)):Option ((List ah.D)×Unit) :=
(bD a0 a1).bind fun y1 =>
 bif (y1 == (-1)) then (
 some (a0,()))
 else (
(ay (bV a1) (a0,y1,IntKind.wrap .i64 (y1 + 1))).bind fun o9 =>
 if 0≤o9.2.1 then (if o9.2.1≤(o9.1.length:Int) then (if (o9.1.length:Int)≤(o9.1.length:Int) then (
 if 0≤(0:Int) then (if (0:Int)≤o9.2.1 then (if o9.2.1≤((o9.1.take (o9.2.1.toNat)++List.replicate ((o9.1.length:Int).toNat - o9.2.1.toNat) (0,0,0,0,0,0,false,())++o9.1.drop ((o9.1.length:Int).toNat)).length:Int) then (
 some ((((o9.1.take (o9.2.1.toNat)++List.replicate ((o9.1.length:Int).toNat - o9.2.1.toNat) (0,0,0,0,0,0,false,())++o9.1.drop ((o9.1.length:Int).toNat)).take (o9.2.1.toNat)).drop ((0:Int).toNat)),())) else none) else none) else none) else none) else none) else none)
def oX:Hints:=(n0 (n0 (n0 (nd (n0 (nd (.node none (some ⟨[.tmpO 0 1 (.slice ah),.tmp 5 (.int .i64),.tmp 6 (.int .i64)],[some 0],none,[]⟩) (n0 (nd (nd (n0 (n0 (cu ⟨[.tmpO 0 2 (.slice ah),.tmp 5 (.int .i64)],[none],none,[(0,1)]⟩))) .none) .none)) .none) .none)) .none))))
def kr:Ct:=.mut [.tk,.rd] true true (.pair (.slice ah) (.pair (.fn (.pair ah .unit) .bool) .unit)) (.slice ah) (fun x=>bx x.1 x.2.1)
theorem fd:KC 306 kr:=mq (Ec ia En) oX Tryz.func306
def rM (a0:ah.D):Option Bool :=
(cn a0).bind fun y1 =>
 bif (!y1) then (
 some true)
 else (
(v9 a0).bind fun y2 =>
 some y2)
def IG:Ct:=.pure true false (.pair ah .unit) .bool (fun x=>rM x.1)
theorem Gy:KC 344 IG:=pq (Ec cw (Ec DC En)) .none Tryz.func344
def ib (a0:Int) (a1:Int):Option Int :=
(cO a0).bind fun y1 =>
(cO a1).bind fun y2 =>
(cO (IntKind.wrap .i64 (y1 - y2))).bind fun y3 =>
 some y3
def Og:Ct:=.pure true false bU (.int .i64) (fun x=>ib x.1 x.2.1)
theorem rN:KC 363 Og:=pq (Ec iX En) .none Tryz.func363
def w7 (a0:aa.D) (a1:Int):Option aa.D :=
(dx a0).bind fun y1 =>
 bif (y1.2.2.2.2.2.2.1.1 == 2) then (
(ib y1.2.2.2.2.2.2.2.2.1 a1).bind fun y2 =>
(ma y2 2147483647).bind fun y3 =>
 some (y1.1,y1.2.1,y1.2.2.1,y1.2.2.2.1,y1.2.2.2.2.1,y1.2.2.2.2.2.1,y1.2.2.2.2.2.2.1,y1.2.2.2.2.2.2.2.1,y3,()))
 else (
 bif decide (y1.2.2.2.2.2.2.2.2.1 > 0) then (
 some (y1.1,y1.2.1,y1.2.2.1,y1.2.2.2.1,y1.2.2.2.2.1,y1.2.2.2.2.2.1,y1.2.2.2.2.2.2.1,y1.2.2.2.2.2.2.2.1,IntKind.wrap .i64 (y1.2.2.2.2.2.2.2.2.1 - 1),()))
 else (
 some y1))
def Ci:Ct:=.pure true true (.pair aa (.pair (.int .i64) .unit)) aa (fun x=>w7 x.1 x.2.1)
theorem AS:KC 345 Ci:=pq (Ec dt (Ec rN (Ec nh En))) .none Tryz.func345
def w8 (a0:aa.D) (a1:ah.D):Option ((List ah.D)×(Int×(aa.D×Unit))) :=
(((cy a0).bind fun y1 =>
 bif (!y1) then (
 some true)
 else (
(cn a1).bind fun y2 =>
 bif (!y2) then (
 some true)
 else (
(bG a0.2.2.2.2.2.2.1 a1.1).bind fun y3 =>
 some (!y3)))):Option Bool).bind fun o4 =>
 bif o4 then (
(dx a0).bind fun y5 =>
 some ([a1],0,y5,()))
 else (
(tq a0 a1).bind fun y6 =>
(bx y6.1 (fun q=>rM q.1)).bind fun y7 =>
(w7 a0 y6.2.1).bind fun y8 =>
 some (y7.1,y6.2.1,y8,()))
def MF:Hints:=(n0 (nd (nd (cu ⟨[.tmp 24 .bool],[none],none,[]⟩) .none) .none))
def tt:Ct:=.pure false true (.pair aa (.pair ah .unit)) (.pair (.slice ah) (.pair (.int .i64) (.pair aa .unit))) (fun x=>w8 x.1 x.2.1)
theorem AT:KC 279 tt:=pq (Ec cw (Ec oR (Ec dt (Ec ya (Ec fd (Ec AR (Ec Gy (Ec AS En)))))))) MF Tryz.func279
def rO (a0:ae.D) (a1:ah.D):Option Int :=
(qq a0 a1).bind fun y1 =>
 bif (y1 != (-1)) then (
 some y1)
 else (
 some a0.2.2.1)
def zG:Ct:=.pure true false (.pair ae (.pair ah .unit)) (.int .i64) (fun x=>rO x.1 x.2.1)
theorem Gz:KC 280 zG:=pq (Ec zF En) .none Tryz.func280
def tu (a0:aF.D):Option Bool :=
 some true
def wc:Ct:=.pure true false (.pair aF .unit) .bool (fun x=>tu x.1)
theorem DE:KC 165 wc:=pq En .none Tryz.func165
def uP (a0:(List aa.D)) (a1:aa.D):Option (List aa.D) :=
(b8 a0).bind fun y1 =>
(gF a0 a1.1).bind fun y2 =>
 bif decide (y2≥0) then (
(dx a1).bind fun y3 =>
 idx y1 y2 fun _ =>
(y1[(y2:Int).toNat]?).bind fun x4 =>
 let u5:(List aa.D):=y1.set (y2:Int).toNat y3
 some u5)
 else (
 some y1)
def rk:Ct:=.pure true true (.pair (.slice aa) (.pair aa .unit)) (.slice aa) (fun x=>uP x.1 x.2.1)
theorem zI:KC 281 rk:=pq (Ec bv (Ec dt (Ec jY En))) .none Tryz.func281
def gv (rec:(tY.D→ah.D→(List Int)→Option (Bool×tY.D))) (x5:Int) (y8:((List ah.D)×(Int×(aa.D×Unit)))) (y12:(List Int)):(Int×(mF.D×(wM.D×Unit)))→Option ((Int×(mF.D×(wM.D×Unit)))⊕((Int×(mF.D×(wM.D×Unit)))⊕(Bool×(mF.D×(wM.D×Unit))))):=fun s14 =>
 bif decide (s14.1 < (y8.1.length:Int)) then (
 idx y8.1 s14.1 fun x15 =>
(rec s14.2 x15 (y12++[x5])).bind fun y16 =>
 bif (!y16.1) then (
 some (.inr (.inr ((false,y16.2)))))
 else (
 some (.inl (IntKind.wrap .i64 (s14.1 + 1),y16.2))))
 else (
 some (.inr (.inl s14)))
def fD (rec:(tY.D→ah.D→(List Int)→Option (Bool×tY.D))) (x:tY.D) (a0:ah.D) (a1:(List Int)):Option (Bool×tY.D) :=
(rK x.1 x.2.1.2.1 a0 a1).bind fun y1 =>
 bif ((y1.length:Int) == 0) then (
(v9 a0).bind fun y2 =>
((bif (!y2) then (
 if (x.2.1.1.length + [a0].length) * (24 * 7)≤aI then (
 some (x.1,((x.2.1.1++[a0]),x.2.1.2),())) else none)
 else (
 some x)):Option tY.D).bind fun o3 =>
 some (true,o3))
 else (
(tp x (y1.length:Int)).bind fun y4 =>
 bif (!y4.1.2.1) then (
 some (false,y4.2))
 else (
 idx y1 y4.1.1 fun _ =>
(y1[(y4.1.1:Int).toNat]?).bind fun x5 =>
(gF y4.2.2.1.2.1 x5).bind fun y6 =>
 idx y4.2.2.1.2.1 y6 fun x7 =>
(w8 x7 a0).bind fun y8 =>
(rO y4.2.1 a0).bind fun y9 =>
(tu (x5,y9,y4.1.1,(y1.length:Int),a0,y8.1,y8.2.1,(a1.length:Int),())).bind fun y10 =>
 bif (!y10) then (
 none)
 else (
(uP y4.2.2.1.2.1 y8.2.2.1).bind fun y11 =>
 if (y4.2.2.1.2.2.2.1.length + [(x5,y9,y4.1.1,(y1.length:Int),a0,y8.1,y8.2.1,(a1.length:Int),())].length) * (24 * 14)≤aI then (
(bw a1).bind fun y12 =>
 if (y12.length + [x5].length) * (24 * 1)≤aI then (
(ay (gv rec x5 y8 y12) (0,y4.2.1,(y4.2.2.1.1,y11,y4.2.2.1.2.2.1,(y4.2.2.1.2.2.2.1++[(x5,y9,y4.1.1,(y1.length:Int),a0,y8.1,y8.2.1,(a1.length:Int),())]),()),())).bind fun o17 =>
 match o17 with
| .inl s18=>(
 some (true,s18.2))
| .inr o19=>(
 some (o19.1,o19.2))) else none) else none)))
def di (n:Nat):tY.D→ah.D→(List Int)→Option (Bool×tY.D):=Nat.rec (motive:=fun _=>(tY.D→ah.D→(List Int)→Option (Bool×tY.D))) (fun _ _ _=>none) (fun _ g=>fD g) n
def AU:Hints:=(n0 (n0 (nd (n0 (nd (nd (n0 (cu ⟨[.boxO 0 0 6 tY [.fn 163 [(0,1)],.fn 165 []]],[none],none,[(0,2),(0,0),(0,3),(0,4),(0,5)]⟩)) .none) .none)) (nd (.node none (some ⟨[],[some 6],none,[]⟩) .none .none) (n0 (n0 (nd (nd (cu ⟨[],[],none,[(0,7)]⟩) .none) (nd (nd (cu ⟨[],[],none,[(79,0)]⟩) .none) (n0 (n0 (n0 (n0 (nd (nd (nd (cu ⟨[],[],none,[(133,0)]⟩) .none) (nd (.node none (some ⟨[.tmp 136 (.int .i64),.boxO 0 0 10 tY [.fn 163 [(0,1)],.fn 165 []]],[some 0],some [.tmp 6 .bool,.boxO 0 0 10 tY [.fn 163 [(0,1)],.fn 165 []]],[]⟩) (n0 (n0 (nd (nd (n0 (nd (.node none (some ⟨[],[some 3],none,[]⟩) .none .none) .none)) .none) .none))) .none) .none)) .none)))))))))))))
def kt (g:(tY.D→ah.D→(List Int)→Option (Bool×tY.D))):Ct:=.run tY [(163,true),(165,false)] true false true (.pair ah (.pair (.slice (.int .i64)) .unit)) .bool (fun x y=>g x y.1 y.2.1)
theorem zJ (n:Nat):cS Tryz.prog 166 (kt (di n)):=by
 induction n with
 | zero=>exact NP (fn:=Tryz.f166) tY [(163,true),(165,false)] true false true (.pair ah (.pair (.slice (.int .i64)) .unit)) .bool Tryz.func166 (by kernel_rfl)
 | succ n ih=>exact L1 (E:={ T:=TM,G:=[(166,kt (di n)),(163,wb),(153,eO),(165,wc),(211,yc),(277,qr),(278,FT),(279,tt),(280,zG),(281,rk)],V:=[124],Z:=true }) (ar.frz (ar.views (ar.cons (ih) (ar.cons DD (ar.cons bz (ar.cons DE (ar.cons jY (ar.cons yw (ar.cons DC (ar.cons AT (ar.cons Gz (ar.cons zI (ar.nil PD))))))))))))) mixed (fn:=Tryz.f166) tY [(163,true),(165,false)] true false true (.pair ah (.pair (.slice (.int .i64)) .unit)) .bool (fun x y=>fD (di n) x y.1 y.2.1) AU Tryz.func166 (by kernel_rfl) (fun x y=>by kernel_rfl)
def jZ (a0:ae.D) (a1:(List aa.D)) (a2:ah.D) (a3:(List Int)):Option br.D :=
(b8 a1).bind fun y1 =>
(bw a3).bind fun y2 =>
(((dS a0).bind fun y3 =>
 bif (!y3) then (
 some true)
 else (
(cn a2).bind fun y4 =>
 bif (!y4) then (
 some true)
 else (
(go a1).bind fun y5 =>
 some (!y5)))):Option Bool).bind fun o6 =>
 bif o6 then (
 some ([],y1,y2,[],()))
 else (
(di 8 (a0,([],y1,y2,[],()),()) a2 []).bind fun y7 =>
(gY y7.2.2.1.2.2.2.1).bind fun y8 =>
 some (y7.2.2.1.1,y7.2.2.1.2.1,y7.2.2.1.2.2.1,y8,()))
def II:Hints:=(n0 (n0 (nd (nd (cu ⟨[.tmp 30 .bool],[none],none,[]⟩) .none) (n0 (n0 (nd (.node none (some ⟨[],[some 2],none,[]⟩) .none .none) .none))))))
def zK:Ct:=.pure true true (.pair ae (.pair (.slice aa) (.pair ah (.pair (.slice (.int .i64)) .unit)))) br (fun x=>jZ x.1 x.2.1 x.2.2.1 x.2.2.2.1)
theorem yx:cS Tryz.prog 52 zK:=wK (E:={ T:=tab,G:=[(166,kt (di 8)),(81,zx),(82,zA),(152,iE),(153,eO),(162,zz),(167,iG)],Z:=true }) (ar.frz (ar.cons (zJ 8) (ar.cons ee (ar.cons lr (ar.cons bv (ar.cons bz (ar.cons cw (ar.cons gZ (ar.nil dJ))))))))) mixed (fn:=Tryz.f52) _ _ _ _ _ II Tryz.func52 (by kernel_rfl) (fun x=>by kernel_rfl)
def fE (a0:Unit) (a1:Int):Option ((List ah.D)×Unit) :=
((bif decide (a1 < 0) then (
 none)
 else (
 some ())):Option Unit).bind fun o1 =>
 bif decide ((IntKind.wrap .i64 (a1 - (IntKind.wrap .i64 (0 - 0)))) > 0) then (
 if 0≤(0:Int) then (if (0:Int)≤(0:Int) then (if (0:Int)≤((0:Nat):Int) then (
 if 0 < (IntKind.wrap .i64 (a1 - (IntKind.wrap .i64 (0 - 0)))) then (if (IntKind.wrap .i64 (a1 - (IntKind.wrap .i64 (0 - 0)))).toNat * (24 * 7)≤aI then (
 if 0≤(0:Int) then (if (0:Int)≤(0:Int) then (if (0:Int)≤((List.replicate (IntKind.wrap .i64 (a1 - (IntKind.wrap .i64 (0 - 0)))).toNat (0,0,0,0,0,0,false,()):List ah.D).length:Int) then (
 some ((((List.replicate (IntKind.wrap .i64 (a1 - (IntKind.wrap .i64 (0 - 0)))).toNat (0,0,0,0,0,0,false,()):List ah.D).take ((0:Int).toNat)).drop ((0:Int).toNat)),())) else none) else none) else none) else none) else none) else none) else none) else none)
 else (
 some ([],()))
def vr:Hints:=(n0 (nd (n0 (cu ⟨[],[none],none,[]⟩)) .none))
def oY:Ct:=.mut [.nil,.rd] true true (.pair .unit (.pair (.int .i64) .unit)) (.slice ah) (fun x=>fE x.1 x.2.1)
theorem nS:KC 288 oY:=mq En vr Tryz.func288
def cG (a0:(List (List ah.D))):(Int×Int)→Option ((Int×Int)⊕(Int×Int)):=fun s1 =>
 bif decide (s1.2 < (a0.length:Int)) then (
 idx a0 s1.2 fun x2 =>
 bif decide ((IntKind.wrap .i64 (s1.1 + (x2.length:Int))) < 0) then (
 none)
 else (
 some (.inl (IntKind.wrap .i64 (s1.1 + (x2.length:Int)),IntKind.wrap .i64 (s1.2 + 1)))))
 else (
 some (.inr s1))
def cH (a0:(List (List ah.D))):((List ah.D)×Int)→Option (((List ah.D)×Int)⊕((List ah.D)×Int)):=fun s5 =>
 bif decide (s5.2 < (a0.length:Int)) then (
 idx a0 s5.2 fun x6 =>
 if (s5.1.length + x6.length) * (24 * 7)≤aI then (
 some (.inl ((s5.1++x6),IntKind.wrap .i64 (s5.2 + 1)))) else none)
 else (
 some (.inr s5))
def eP (a0:(List (List ah.D))):Option (List ah.D) :=
(ay (cG a0) (0,0)).bind fun o3 =>
(fE () o3.1).bind fun y4 =>
(ay (cH a0) (y4.1,0)).bind fun o7 =>
 some o7.1
def tw:Hints:=(n0 (n0 (nd (n0 (nd (.node none (some ⟨[.tmp 3 (.int .i64),.tmp 11 (.int .i64)],[some 0],none,[]⟩) .none .none) .none)) (n0 (nd (n0 (nd (.node none (some ⟨[.tmpO 6 0 (.slice ah),.tmp 27 (.int .i64)],[some 2],none,[]⟩) .none .none) .none)) .none)))))
def gw:Ct:=.pure true true (.pair (.slice (.slice ah)) .unit) (.slice ah) (fun x=>eP x.1)
theorem mt:KC 181 gw:=pq (Ec nS En) tw Tryz.func181
def fW (a0:Unit) (a1:Int):Option ((List eX.D)×Unit) :=
((bif decide (a1 < 0) then (
 none)
 else (
 some ())):Option Unit).bind fun o1 =>
 bif decide ((IntKind.wrap .i64 (a1 - (IntKind.wrap .i64 (0 - 0)))) > 0) then (
 if 0≤(0:Int) then (if (0:Int)≤(0:Int) then (if (0:Int)≤((0:Nat):Int) then (
 if 0 < (IntKind.wrap .i64 (a1 - (IntKind.wrap .i64 (0 - 0)))) then (if (IntKind.wrap .i64 (a1 - (IntKind.wrap .i64 (0 - 0)))).toNat * (24 * 14)≤aI then (
 if 0≤(0:Int) then (if (0:Int)≤(0:Int) then (if (0:Int)≤((List.replicate (IntKind.wrap .i64 (a1 - (IntKind.wrap .i64 (0 - 0)))).toNat (0,0,0,0,(0,0,0,0,0,0,false,()),[],0,0,()):List eX.D).length:Int) then (
 some ((((List.replicate (IntKind.wrap .i64 (a1 - (IntKind.wrap .i64 (0 - 0)))).toNat (0,0,0,0,(0,0,0,0,0,0,false,()),[],0,0,()):List eX.D).take ((0:Int).toNat)).drop ((0:Int).toNat)),())) else none) else none) else none) else none) else none) else none) else none) else none)
 else (
 some ([],()))
def wd:Hints:=(n0 (nd (n0 (cu ⟨[],[none],none,[]⟩)) .none))
def iv:Ct:=.mut [.nil,.rd] true true (.pair .unit (.pair (.int .i64) .unit)) (.slice eX) (fun x=>fW x.1 x.2.1)
theorem oZ:cS Tryz.prog 289 iv:=dL (E:={ T:=TM,G:=[] }) (ar.nil PD) mixed (fn:=Tryz.f289) _ _ _ _ _ _ wd Tryz.func289 (by kernel_rfl) (fun x=>by kernel_rfl)
def cP (a0:(List (List eX.D))):(Int×Int)→Option ((Int×Int)⊕(Int×Int)):=fun s1 =>
 bif decide (s1.2 < (a0.length:Int)) then (
 idx a0 s1.2 fun x2 =>
 bif decide ((IntKind.wrap .i64 (s1.1 + (x2.length:Int))) < 0) then (
 none)
 else (
 some (.inl (IntKind.wrap .i64 (s1.1 + (x2.length:Int)),IntKind.wrap .i64 (s1.2 + 1)))))
 else (
 some (.inr s1))
def cQ (a0:(List (List eX.D))):((List eX.D)×Int)→Option (((List eX.D)×Int)⊕((List eX.D)×Int)):=fun s5 =>
 bif decide (s5.2 < (a0.length:Int)) then (
 idx a0 s5.2 fun x6 =>
 if (s5.1.length + x6.length) * (24 * 14)≤aI then (
 some (.inl ((s5.1++x6),IntKind.wrap .i64 (s5.2 + 1)))) else none)
 else (
 some (.inr s5))
def ff (a0:(List (List eX.D))):Option (List aF.D) :=
(ay (cP a0) (0,0)).bind fun o3 =>
(fW () o3.1).bind fun y4 =>
(ay (cQ a0) (y4.1,0)).bind fun o7 =>
 some o7.1
def tZ:Hints:=(n0 (n0 (nd (n0 (nd (.node none (some ⟨[.tmp 3 (.int .i64),.tmp 11 (.int .i64)],[some 0],none,[]⟩) .none .none) .none)) (n0 (nd (n0 (nd (.node none (some ⟨[.tmpO 6 0 (.slice eX),.tmp 27 (.int .i64)],[some 2],none,[]⟩) .none .none) .none)) .none)))))
def kd:Ct:=.pure true false (.pair (.slice (.slice eX)) .unit) (.slice aF) (fun x=>ff x.1)
theorem tx:cS Tryz.prog 182 kd:=wK (E:={ T:=TM,G:=[(289,iv)] }) (ar.cons oZ (ar.nil PD)) mixed (fn:=Tryz.f182) _ _ _ _ _ tZ Tryz.func182 (by kernel_rfl) (fun x=>by kernel_rfl)
def we (a0:br.D) (a1:br.D):Option br.D :=
(eP [a0.1,a1.1]).bind fun y1 =>
(b8 a1.2.1).bind fun y2 =>
(bw a1.2.2.1).bind fun y3 =>
(ff [a0.2.2.2.1,a1.2.2.2.1]).bind fun y4 =>
(gY y4).bind fun y5 =>
 some (y1,y2,y3,y5,())
def DF:Ct:=.pure true true (.pair br (.pair br .unit)) br (fun x=>we x.1 x.2.1)
theorem Cj:cS Tryz.prog 75 DF:=wK (E:={ T:=tab,G:=[(152,iE),(153,eO),(167,iG),(181,gw),(182,kd)],V:=[9,21] }) (ar.views (ar.cons bv (ar.cons bz (ar.cons gZ (ar.cons mt (ar.cons tx (ar.nil dJ))))))) mixed (fn:=Tryz.f75) _ _ _ _ _ .none Tryz.func75 (by kernel_rfl) (fun x=>by kernel_rfl)
def iH (a0:ae.D) (a2:(List ah.D)):(Int×((List ah.D)×((List aa.D)×((List Int)×((List aF.D)×Unit)))))→Option ((Int×((List ah.D)×((List aa.D)×((List Int)×((List aF.D)×Unit)))))⊕(Int×((List ah.D)×((List aa.D)×((List Int)×((List aF.D)×Unit)))))):=fun s8 =>
 bif decide (s8.1 < (a2.length:Int)) then (
 idx a2 s8.1 fun x9 =>
(jZ a0 s8.2.2.1 x9 s8.2.2.2.1).bind fun y10 =>
(we s8.2 y10).bind fun y11 =>
 some (.inl (IntKind.wrap .i64 (s8.1 + 1),y11)))
 else (
 some (.inr s8))
def ly (a0:ae.D) (a1:(List aa.D)) (a2:(List ah.D)) (a3:(List Int)):Option br.D :=
(b8 a1).bind fun y1 =>
(bw a3).bind fun y2 =>
(((ng a2).bind fun y3 =>
 bif (!y3) then (
 some true)
 else (
(dS a0).bind fun y4 =>
 bif (!y4) then (
 some true)
 else (
(go a1).bind fun y5 =>
 some (!y5)))):Option Bool).bind fun o6 =>
 bif o6 then (
 some ([],y1,y2,[],()))
 else (
(ay (iH a0 a2) (0,[],y1,y2,[],())).bind fun o12 =>
 some o12.2)
def DG:Hints:=(n0 (n0 (nd (nd (cu ⟨[.tmp 29 .bool],[none],none,[]⟩) .none) (nd (n0 (nd (.node none (some ⟨[.tmp 33 (.int .i64),.boxO 9 0 1 br],[some 0],none,[]⟩) .none .none) .none)) .none))))
def wg:Ct:=.pure true true (.pair ae (.pair (.slice aa) (.pair (.slice ah) (.pair (.slice (.int .i64)) .unit)))) br (fun x=>ly x.1 x.2.1 x.2.2.1 x.2.2.2.1)
theorem vu:KC 65 wg:=pq (Ec yx (Ec Cj (Ec yd (Ec ee (Ec lr (Ec bv (Ec bz En))))))) DG Tryz.func65
def vy (a0:ah.D):Option Bool :=
 some (a0.1 == 2)
def GA:Ct:=.pure true false (.pair ah .unit) .bool (fun x=>vy x.1)
theorem E5:KC 305 GA:=pq En .none Tryz.func305
def Bu (z0:((ah.D×Unit)→Option Bool)) (a0:ah.D):Option Bool :=
(z0 (a0,())).bind fun y1 =>
 some (!y1)
def GB:Ct:=.clo (.pair ah .unit) (.pair (.fn (.pair ah .unit) .bool) .unit) .bool (fun z x=>Bu z.1 x.1)
theorem E6:KC 307 GB:=cq En .none Tryz.func307
def gx (a0:ae.D) (a1:Int):Option Int :=
(gq a0 a1).bind fun y1 =>
((bif decide (y1 < 0) then (
 some true)
 else (
 idx a0.1 y1 fun x2 =>
 some (x2.2.2.2.1 != 2))):Option Bool).bind fun o3 =>
 bif o3 then (
 some (-1))
 else (
 some y1)
def IJ:Hints:=(n0 (n0 (nd (nd (cu ⟨[.tmp 19 .bool],[none],none,[]⟩) .none) .none)))
def IK:Ct:=.pure true false (.pair ae (.pair (.int .i64) .unit)) (.int .i64) (fun x=>gx x.1 x.2.1)
theorem qT:KC 380 IK:=pq (Ec iQ En) IJ Tryz.func380
def ni (a0:ae.D) (a1:ah.D):Option Bool :=
 bif (a1.2.2.1 == 0) then (
(bc a0 a1.2.2.2.1).bind fun y1 =>
 some y1)
 else (
(gx a0 a1.2.2.1).bind fun y2 =>
 some (decide (y2≥0)))
def IL:Ct:=.pure true false (.pair ae (.pair ah .unit)) .bool (fun x=>ni x.1 x.2.1)
theorem ye:KC 379 IL:=pq (Ec hU (Ec qT En)) .none Tryz.func379
def aQ (a0:aj.D) (a1:Int):Option Bool :=
((bif (a1 == 1) then (
 some (a1 == 1))
 else (
((bif (a1 == 2) then (
 some (a1 == 2))
 else (
((bif (a1 == 4) then (
 some (a1 == 4))
 else (
((bif (a1 == 8) then (
 some (a1 == 8))
 else (
((bif (a1 == 16) then (
 some (a1 == 16))
 else (
 some (a1 == 32))):Option Bool).bind fun o1 =>
 some o1)):Option Bool).bind fun o2 =>
 some o2)):Option Bool).bind fun o3 =>
 some o3)):Option Bool).bind fun o4 =>
 some o4)):Option Bool).bind fun o5 =>
 bif o5 then (
 let k6:Int:=IntKind.wrap .i64 (BitVec.ofInt (IntKind.bits .i64) a0.2.2.2.2.2.2.2.1 &&& BitVec.ofInt (IntKind.bits .i64) a1).toNat
 some (k6 != 0))
 else (
 some false)
def GC:Hints:=(n0 (nd (n0 (nd (nd (n0 (.node (some ⟨[.tmp 6 .bool],[none],none,[]⟩) none .none (n0 (.node (some ⟨[.tmp 6 .bool],[none],none,[]⟩) none .none (n0 (.node (some ⟨[.tmp 6 .bool],[none],none,[]⟩) none .none (n0 (.node (some ⟨[.tmp 6 .bool],[none],none,[]⟩) none .none (n0 (cu ⟨[.tmp 6 .bool],[none],none,[]⟩)))))))))) .none) .none)) .none))
def GD:Ct:=.pure true false (.pair aj (.pair (.int .i64) .unit)) .bool (fun x=>aQ x.1 x.2.1)
theorem j5:KC 44 GD:=pq En GC Tryz.func44
def mb (a0:ae.D) (a1:aj.D) (a2:ah.D):Option (ae.D×(Int×Unit)) :=
(cN a0).bind fun y1 =>
(dS y1).bind fun y2 =>
 bif (!y2) then (
 some (y1,0,()))
 else (
(cn a2).bind fun y3 =>
 bif (!y3) then (
 some (y1,0,()))
 else (
 bif (a2.1 != 1) then (
 some (y1,0,()))
 else (
(ni y1 a2).bind fun y4 =>
 bif (!y4) then (
 some (y1,0,()))
 else (
(aQ a1 2).bind fun y5 =>
 bif (a2.2.2.1 == 0) then (
 bif y5 then (
 idx y1.2.1 a2.2.2.2.1 fun _ =>
(y1.2.1[(a2.2.2.2.1:Int).toNat]?).bind fun x6 =>
(bq x6.2.1 a2.2.2.2.2.1).bind fun y7 =>
 idx y1.2.1 a2.2.2.2.1 fun _ =>
(y1.2.1[(a2.2.2.2.1:Int).toNat]?).bind fun x8 =>
 let u9:(List aB.D):=y1.2.1.set (a2.2.2.2.1:Int).toNat (x8.1,y7,x8.2.2)
(aQ a1 1).bind fun y10 =>
 bif y10 then (
(bc (y1.1,u9,y1.2.2) a1.2.2.1).bind fun y11 =>
 bif y11 then (
 idx u9 a1.2.2.1 fun _ =>
(u9[(a1.2.2.1:Int).toNat]?).bind fun x12 =>
(bq x12.1 a2.2.2.2.2.1).bind fun y13 =>
 idx u9 a1.2.2.1 fun _ =>
(u9[(a1.2.2.1:Int).toNat]?).bind fun x14 =>
 let u15:(List aB.D):=u9.set (a1.2.2.1:Int).toNat (y13,x14.2)
 some ((y1.1,u15,y1.2.2),a2.2.2.2.2.1,()))
 else (
 some ((y1.1,u9,y1.2.2),a2.2.2.2.2.1,())))
 else (
 some ((y1.1,u9,y1.2.2),a2.2.2.2.2.1,())))
 else (
 bif (a2.2.2.1 == 0) then (
 idx y1.2.1 a2.2.2.2.1 fun _ =>
(y1.2.1[(a2.2.2.2.1:Int).toNat]?).bind fun x16 =>
(ib x16.1 a2.2.2.2.2.1).bind fun y17 =>
 idx y1.2.1 a2.2.2.2.1 fun _ =>
(y1.2.1[(a2.2.2.2.1:Int).toNat]?).bind fun x18 =>
 let u19:(List aB.D):=y1.2.1.set (a2.2.2.2.1:Int).toNat (y17,x18.2)
(aQ a1 1).bind fun y20 =>
 bif y20 then (
(bc (y1.1,u19,y1.2.2) a1.2.2.1).bind fun y21 =>
 bif y21 then (
 idx u19 a1.2.2.1 fun _ =>
(u19[(a1.2.2.1:Int).toNat]?).bind fun x22 =>
(bq x22.1 a2.2.2.2.2.1).bind fun y23 =>
 idx u19 a1.2.2.1 fun _ =>
(u19[(a1.2.2.1:Int).toNat]?).bind fun x24 =>
 let u25:(List aB.D):=u19.set (a1.2.2.1:Int).toNat (y23,x24.2)
 some ((y1.1,u25,y1.2.2),a2.2.2.2.2.1,()))
 else (
 some ((y1.1,u19,y1.2.2),a2.2.2.2.2.1,())))
 else (
 some ((y1.1,u19,y1.2.2),a2.2.2.2.2.1,())))
 else (
(gx y1 a2.2.2.1).bind fun y26 =>
 idx y1.1 y26 fun _ =>
 bif y5 then (
(y1.1[(y26:Int).toNat]?).bind fun x27 =>
(bq x27.2.2.2.2.2.2.2.2.2.1 a2.2.2.2.2.1).bind fun y28 =>
(y1.1[(y26:Int).toNat]?).bind fun x29 =>
 let u30:(List aj.D):=y1.1.set (y26:Int).toNat (x29.1,x29.2.1,x29.2.2.1,x29.2.2.2.1,x29.2.2.2.2.1,x29.2.2.2.2.2.1,x29.2.2.2.2.2.2.1,x29.2.2.2.2.2.2.2.1,x29.2.2.2.2.2.2.2.2.1,y28,x29.2.2.2.2.2.2.2.2.2.2)
(u30[(y26:Int).toNat]?).bind fun x31 =>
 bif x31.2.2.2.2.2.2.2.2.2.2.2.1 then (
(u30[(y26:Int).toNat]?).bind fun x32 =>
 let u33:(List aj.D):=u30.set (y26:Int).toNat (x32.1,x32.2.1,x32.2.2.1,x32.2.2.2.1,x32.2.2.2.2.1,x32.2.2.2.2.2.1,x32.2.2.2.2.2.2.1,x32.2.2.2.2.2.2.2.1,x32.2.2.2.2.2.2.2.2.1,x32.2.2.2.2.2.2.2.2.2.1,x32.2.2.2.2.2.2.2.2.2.2.1,true,x32.2.2.2.2.2.2.2.2.2.2.2.2)
(aQ a1 1).bind fun y34 =>
 bif y34 then (
(bc (u33,y1.2) a1.2.2.1).bind fun y35 =>
 bif y35 then (
 idx y1.2.1 a1.2.2.1 fun _ =>
(y1.2.1[(a1.2.2.1:Int).toNat]?).bind fun x36 =>
(bq x36.1 a2.2.2.2.2.1).bind fun y37 =>
 idx y1.2.1 a1.2.2.1 fun _ =>
(y1.2.1[(a1.2.2.1:Int).toNat]?).bind fun x38 =>
 let u39:(List aB.D):=y1.2.1.set (a1.2.2.1:Int).toNat (y37,x38.2)
 some ((u33,u39,y1.2.2),a2.2.2.2.2.1,()))
 else (
 some ((u33,y1.2),a2.2.2.2.2.1,())))
 else (
 some ((u33,y1.2),a2.2.2.2.2.1,())))
 else (
(aQ a1 4).bind fun y40 =>
 bif y40 then (
(u30[(y26:Int).toNat]?).bind fun x41 =>
 let u42:(List aj.D):=u30.set (y26:Int).toNat (x41.1,x41.2.1,x41.2.2.1,x41.2.2.2.1,x41.2.2.2.2.1,x41.2.2.2.2.2.1,x41.2.2.2.2.2.2.1,x41.2.2.2.2.2.2.2.1,x41.2.2.2.2.2.2.2.2.1,x41.2.2.2.2.2.2.2.2.2.1,x41.2.2.2.2.2.2.2.2.2.2.1,decide (a2.2.2.2.2.1≥1),x41.2.2.2.2.2.2.2.2.2.2.2.2)
(aQ a1 1).bind fun y43 =>
 bif y43 then (
(bc (u42,y1.2) a1.2.2.1).bind fun y44 =>
 bif y44 then (
 idx y1.2.1 a1.2.2.1 fun _ =>
(y1.2.1[(a1.2.2.1:Int).toNat]?).bind fun x45 =>
(bq x45.1 a2.2.2.2.2.1).bind fun y46 =>
 idx y1.2.1 a1.2.2.1 fun _ =>
(y1.2.1[(a1.2.2.1:Int).toNat]?).bind fun x47 =>
 let u48:(List aB.D):=y1.2.1.set (a1.2.2.1:Int).toNat (y46,x47.2)
 some ((u42,u48,y1.2.2),a2.2.2.2.2.1,()))
 else (
 some ((u42,y1.2),a2.2.2.2.2.1,())))
 else (
 some ((u42,y1.2),a2.2.2.2.2.1,())))
 else (
(u30[(y26:Int).toNat]?).bind fun x49 =>
 let u50:(List aj.D):=u30.set (y26:Int).toNat (x49.1,x49.2.1,x49.2.2.1,x49.2.2.2.1,x49.2.2.2.2.1,x49.2.2.2.2.2.1,x49.2.2.2.2.2.2.1,x49.2.2.2.2.2.2.2.1,x49.2.2.2.2.2.2.2.2.1,x49.2.2.2.2.2.2.2.2.2.1,x49.2.2.2.2.2.2.2.2.2.2.1,false,x49.2.2.2.2.2.2.2.2.2.2.2.2)
(aQ a1 1).bind fun y51 =>
 bif y51 then (
(bc (u50,y1.2) a1.2.2.1).bind fun y52 =>
 bif y52 then (
 idx y1.2.1 a1.2.2.1 fun _ =>
(y1.2.1[(a1.2.2.1:Int).toNat]?).bind fun x53 =>
(bq x53.1 a2.2.2.2.2.1).bind fun y54 =>
 idx y1.2.1 a1.2.2.1 fun _ =>
(y1.2.1[(a1.2.2.1:Int).toNat]?).bind fun x55 =>
 let u56:(List aB.D):=y1.2.1.set (a1.2.2.1:Int).toNat (y54,x55.2)
 some ((u50,u56,y1.2.2),a2.2.2.2.2.1,()))
 else (
 some ((u50,y1.2),a2.2.2.2.2.1,())))
 else (
 some ((u50,y1.2),a2.2.2.2.2.1,())))))
 else (
(y1.1[(y26:Int).toNat]?).bind fun x57 =>
(bq x57.2.2.2.2.2.2.2.2.2.2.1 a2.2.2.2.2.1).bind fun y58 =>
(y1.1[(y26:Int).toNat]?).bind fun x59 =>
 let u60:(List aj.D):=y1.1.set (y26:Int).toNat (x59.1,x59.2.1,x59.2.2.1,x59.2.2.2.1,x59.2.2.2.2.1,x59.2.2.2.2.2.1,x59.2.2.2.2.2.2.1,x59.2.2.2.2.2.2.2.1,x59.2.2.2.2.2.2.2.2.1,x59.2.2.2.2.2.2.2.2.2.1,y58,x59.2.2.2.2.2.2.2.2.2.2.2)
(u60[(y26:Int).toNat]?).bind fun x61 =>
 bif x61.2.2.2.2.2.2.2.2.2.2.2.1 then (
(u60[(y26:Int).toNat]?).bind fun x62 =>
 let u63:(List aj.D):=u60.set (y26:Int).toNat (x62.1,x62.2.1,x62.2.2.1,x62.2.2.2.1,x62.2.2.2.2.1,x62.2.2.2.2.2.1,x62.2.2.2.2.2.2.1,x62.2.2.2.2.2.2.2.1,x62.2.2.2.2.2.2.2.2.1,x62.2.2.2.2.2.2.2.2.2.1,x62.2.2.2.2.2.2.2.2.2.2.1,true,x62.2.2.2.2.2.2.2.2.2.2.2.2)
(aQ a1 1).bind fun y64 =>
 bif y64 then (
(bc (u63,y1.2) a1.2.2.1).bind fun y65 =>
 bif y65 then (
 idx y1.2.1 a1.2.2.1 fun _ =>
(y1.2.1[(a1.2.2.1:Int).toNat]?).bind fun x66 =>
(bq x66.1 a2.2.2.2.2.1).bind fun y67 =>
 idx y1.2.1 a1.2.2.1 fun _ =>
(y1.2.1[(a1.2.2.1:Int).toNat]?).bind fun x68 =>
 let u69:(List aB.D):=y1.2.1.set (a1.2.2.1:Int).toNat (y67,x68.2)
 some ((u63,u69,y1.2.2),a2.2.2.2.2.1,()))
 else (
 some ((u63,y1.2),a2.2.2.2.2.1,())))
 else (
 some ((u63,y1.2),a2.2.2.2.2.1,())))
 else (
(aQ a1 4).bind fun y70 =>
 bif y70 then (
(u60[(y26:Int).toNat]?).bind fun x71 =>
 let u72:(List aj.D):=u60.set (y26:Int).toNat (x71.1,x71.2.1,x71.2.2.1,x71.2.2.2.1,x71.2.2.2.2.1,x71.2.2.2.2.2.1,x71.2.2.2.2.2.2.1,x71.2.2.2.2.2.2.2.1,x71.2.2.2.2.2.2.2.2.1,x71.2.2.2.2.2.2.2.2.2.1,x71.2.2.2.2.2.2.2.2.2.2.1,decide (a2.2.2.2.2.1≥1),x71.2.2.2.2.2.2.2.2.2.2.2.2)
(aQ a1 1).bind fun y73 =>
 bif y73 then (
(bc (u72,y1.2) a1.2.2.1).bind fun y74 =>
 bif y74 then (
 idx y1.2.1 a1.2.2.1 fun _ =>
(y1.2.1[(a1.2.2.1:Int).toNat]?).bind fun x75 =>
(bq x75.1 a2.2.2.2.2.1).bind fun y76 =>
 idx y1.2.1 a1.2.2.1 fun _ =>
(y1.2.1[(a1.2.2.1:Int).toNat]?).bind fun x77 =>
 let u78:(List aB.D):=y1.2.1.set (a1.2.2.1:Int).toNat (y76,x77.2)
 some ((u72,u78,y1.2.2),a2.2.2.2.2.1,()))
 else (
 some ((u72,y1.2),a2.2.2.2.2.1,())))
 else (
 some ((u72,y1.2),a2.2.2.2.2.1,())))
 else (
(u60[(y26:Int).toNat]?).bind fun x79 =>
 let u80:(List aj.D):=u60.set (y26:Int).toNat (x79.1,x79.2.1,x79.2.2.1,x79.2.2.2.1,x79.2.2.2.2.1,x79.2.2.2.2.2.1,x79.2.2.2.2.2.2.1,x79.2.2.2.2.2.2.2.1,x79.2.2.2.2.2.2.2.2.1,x79.2.2.2.2.2.2.2.2.2.1,x79.2.2.2.2.2.2.2.2.2.2.1,false,x79.2.2.2.2.2.2.2.2.2.2.2.2)
(aQ a1 1).bind fun y81 =>
 bif y81 then (
(bc (u80,y1.2) a1.2.2.1).bind fun y82 =>
 bif y82 then (
 idx y1.2.1 a1.2.2.1 fun _ =>
(y1.2.1[(a1.2.2.1:Int).toNat]?).bind fun x83 =>
(bq x83.1 a2.2.2.2.2.1).bind fun y84 =>
 idx y1.2.1 a1.2.2.1 fun _ =>
(y1.2.1[(a1.2.2.1:Int).toNat]?).bind fun x85 =>
 let u86:(List aB.D):=y1.2.1.set (a1.2.2.1:Int).toNat (y84,x85.2)
 some ((u80,u86,y1.2.2),a2.2.2.2.2.1,()))
 else (
 some ((u80,y1.2),a2.2.2.2.2.1,())))
 else (
 some ((u80,y1.2),a2.2.2.2.2.1,()))))))))
 else (
 bif (a2.2.2.1 == 0) then (
 idx y1.2.1 a2.2.2.2.1 fun _ =>
(y1.2.1[(a2.2.2.2.1:Int).toNat]?).bind fun x87 =>
(ib x87.1 a2.2.2.2.2.1).bind fun y88 =>
 idx y1.2.1 a2.2.2.2.1 fun _ =>
(y1.2.1[(a2.2.2.2.1:Int).toNat]?).bind fun x89 =>
 let u90:(List aB.D):=y1.2.1.set (a2.2.2.2.1:Int).toNat (y88,x89.2)
(aQ a1 1).bind fun y91 =>
 bif y91 then (
(bc (y1.1,u90,y1.2.2) a1.2.2.1).bind fun y92 =>
 bif y92 then (
 idx u90 a1.2.2.1 fun _ =>
(u90[(a1.2.2.1:Int).toNat]?).bind fun x93 =>
(bq x93.1 a2.2.2.2.2.1).bind fun y94 =>
 idx u90 a1.2.2.1 fun _ =>
(u90[(a1.2.2.1:Int).toNat]?).bind fun x95 =>
 let u96:(List aB.D):=u90.set (a1.2.2.1:Int).toNat (y94,x95.2)
 some ((y1.1,u96,y1.2.2),a2.2.2.2.2.1,()))
 else (
 some ((y1.1,u90,y1.2.2),a2.2.2.2.2.1,())))
 else (
 some ((y1.1,u90,y1.2.2),a2.2.2.2.2.1,())))
 else (
(gx y1 a2.2.2.1).bind fun y97 =>
 idx y1.1 y97 fun _ =>
 bif y5 then (
(y1.1[(y97:Int).toNat]?).bind fun x98 =>
(bq x98.2.2.2.2.2.2.2.2.2.1 a2.2.2.2.2.1).bind fun y99 =>
(y1.1[(y97:Int).toNat]?).bind fun x100 =>
 let u101:(List aj.D):=y1.1.set (y97:Int).toNat (x100.1,x100.2.1,x100.2.2.1,x100.2.2.2.1,x100.2.2.2.2.1,x100.2.2.2.2.2.1,x100.2.2.2.2.2.2.1,x100.2.2.2.2.2.2.2.1,x100.2.2.2.2.2.2.2.2.1,y99,x100.2.2.2.2.2.2.2.2.2.2)
(u101[(y97:Int).toNat]?).bind fun x102 =>
 bif x102.2.2.2.2.2.2.2.2.2.2.2.1 then (
(u101[(y97:Int).toNat]?).bind fun x103 =>
 let u104:(List aj.D):=u101.set (y97:Int).toNat (x103.1,x103.2.1,x103.2.2.1,x103.2.2.2.1,x103.2.2.2.2.1,x103.2.2.2.2.2.1,x103.2.2.2.2.2.2.1,x103.2.2.2.2.2.2.2.1,x103.2.2.2.2.2.2.2.2.1,x103.2.2.2.2.2.2.2.2.2.1,x103.2.2.2.2.2.2.2.2.2.2.1,true,x103.2.2.2.2.2.2.2.2.2.2.2.2)
(aQ a1 1).bind fun y105 =>
 bif y105 then (
(bc (u104,y1.2) a1.2.2.1).bind fun y106 =>
 bif y106 then (
 idx y1.2.1 a1.2.2.1 fun _ =>
(y1.2.1[(a1.2.2.1:Int).toNat]?).bind fun x107 =>
(bq x107.1 a2.2.2.2.2.1).bind fun y108 =>
 idx y1.2.1 a1.2.2.1 fun _ =>
(y1.2.1[(a1.2.2.1:Int).toNat]?).bind fun x109 =>
 let u110:(List aB.D):=y1.2.1.set (a1.2.2.1:Int).toNat (y108,x109.2)
 some ((u104,u110,y1.2.2),a2.2.2.2.2.1,()))
 else (
 some ((u104,y1.2),a2.2.2.2.2.1,())))
 else (
 some ((u104,y1.2),a2.2.2.2.2.1,())))
 else (
(aQ a1 4).bind fun y111 =>
 bif y111 then (
(u101[(y97:Int).toNat]?).bind fun x112 =>
 let u113:(List aj.D):=u101.set (y97:Int).toNat (x112.1,x112.2.1,x112.2.2.1,x112.2.2.2.1,x112.2.2.2.2.1,x112.2.2.2.2.2.1,x112.2.2.2.2.2.2.1,x112.2.2.2.2.2.2.2.1,x112.2.2.2.2.2.2.2.2.1,x112.2.2.2.2.2.2.2.2.2.1,x112.2.2.2.2.2.2.2.2.2.2.1,decide (a2.2.2.2.2.1≥1),x112.2.2.2.2.2.2.2.2.2.2.2.2)
(aQ a1 1).bind fun y114 =>
 bif y114 then (
(bc (u113,y1.2) a1.2.2.1).bind fun y115 =>
 bif y115 then (
 idx y1.2.1 a1.2.2.1 fun _ =>
(y1.2.1[(a1.2.2.1:Int).toNat]?).bind fun x116 =>
(bq x116.1 a2.2.2.2.2.1).bind fun y117 =>
 idx y1.2.1 a1.2.2.1 fun _ =>
(y1.2.1[(a1.2.2.1:Int).toNat]?).bind fun x118 =>
 let u119:(List aB.D):=y1.2.1.set (a1.2.2.1:Int).toNat (y117,x118.2)
 some ((u113,u119,y1.2.2),a2.2.2.2.2.1,()))
 else (
 some ((u113,y1.2),a2.2.2.2.2.1,())))
 else (
 some ((u113,y1.2),a2.2.2.2.2.1,())))
 else (
(u101[(y97:Int).toNat]?).bind fun x120 =>
 let u121:(List aj.D):=u101.set (y97:Int).toNat (x120.1,x120.2.1,x120.2.2.1,x120.2.2.2.1,x120.2.2.2.2.1,x120.2.2.2.2.2.1,x120.2.2.2.2.2.2.1,x120.2.2.2.2.2.2.2.1,x120.2.2.2.2.2.2.2.2.1,x120.2.2.2.2.2.2.2.2.2.1,x120.2.2.2.2.2.2.2.2.2.2.1,false,x120.2.2.2.2.2.2.2.2.2.2.2.2)
(aQ a1 1).bind fun y122 =>
 bif y122 then (
(bc (u121,y1.2) a1.2.2.1).bind fun y123 =>
 bif y123 then (
 idx y1.2.1 a1.2.2.1 fun _ =>
(y1.2.1[(a1.2.2.1:Int).toNat]?).bind fun x124 =>
(bq x124.1 a2.2.2.2.2.1).bind fun y125 =>
 idx y1.2.1 a1.2.2.1 fun _ =>
(y1.2.1[(a1.2.2.1:Int).toNat]?).bind fun x126 =>
 let u127:(List aB.D):=y1.2.1.set (a1.2.2.1:Int).toNat (y125,x126.2)
 some ((u121,u127,y1.2.2),a2.2.2.2.2.1,()))
 else (
 some ((u121,y1.2),a2.2.2.2.2.1,())))
 else (
 some ((u121,y1.2),a2.2.2.2.2.1,())))))
 else (
(y1.1[(y97:Int).toNat]?).bind fun x128 =>
(bq x128.2.2.2.2.2.2.2.2.2.2.1 a2.2.2.2.2.1).bind fun y129 =>
(y1.1[(y97:Int).toNat]?).bind fun x130 =>
 let u131:(List aj.D):=y1.1.set (y97:Int).toNat (x130.1,x130.2.1,x130.2.2.1,x130.2.2.2.1,x130.2.2.2.2.1,x130.2.2.2.2.2.1,x130.2.2.2.2.2.2.1,x130.2.2.2.2.2.2.2.1,x130.2.2.2.2.2.2.2.2.1,x130.2.2.2.2.2.2.2.2.2.1,y129,x130.2.2.2.2.2.2.2.2.2.2.2)
(u131[(y97:Int).toNat]?).bind fun x132 =>
 bif x132.2.2.2.2.2.2.2.2.2.2.2.1 then (
(u131[(y97:Int).toNat]?).bind fun x133 =>
 let u134:(List aj.D):=u131.set (y97:Int).toNat (x133.1,x133.2.1,x133.2.2.1,x133.2.2.2.1,x133.2.2.2.2.1,x133.2.2.2.2.2.1,x133.2.2.2.2.2.2.1,x133.2.2.2.2.2.2.2.1,x133.2.2.2.2.2.2.2.2.1,x133.2.2.2.2.2.2.2.2.2.1,x133.2.2.2.2.2.2.2.2.2.2.1,true,x133.2.2.2.2.2.2.2.2.2.2.2.2)
(aQ a1 1).bind fun y135 =>
 bif y135 then (
(bc (u134,y1.2) a1.2.2.1).bind fun y136 =>
 bif y136 then (
 idx y1.2.1 a1.2.2.1 fun _ =>
(y1.2.1[(a1.2.2.1:Int).toNat]?).bind fun x137 =>
(bq x137.1 a2.2.2.2.2.1).bind fun y138 =>
 idx y1.2.1 a1.2.2.1 fun _ =>
(y1.2.1[(a1.2.2.1:Int).toNat]?).bind fun x139 =>
 let u140:(List aB.D):=y1.2.1.set (a1.2.2.1:Int).toNat (y138,x139.2)
 some ((u134,u140,y1.2.2),a2.2.2.2.2.1,()))
 else (
 some ((u134,y1.2),a2.2.2.2.2.1,())))
 else (
 some ((u134,y1.2),a2.2.2.2.2.1,())))
 else (
(aQ a1 4).bind fun y141 =>
 bif y141 then (
(u131[(y97:Int).toNat]?).bind fun x142 =>
 let u143:(List aj.D):=u131.set (y97:Int).toNat (x142.1,x142.2.1,x142.2.2.1,x142.2.2.2.1,x142.2.2.2.2.1,x142.2.2.2.2.2.1,x142.2.2.2.2.2.2.1,x142.2.2.2.2.2.2.2.1,x142.2.2.2.2.2.2.2.2.1,x142.2.2.2.2.2.2.2.2.2.1,x142.2.2.2.2.2.2.2.2.2.2.1,decide (a2.2.2.2.2.1≥1),x142.2.2.2.2.2.2.2.2.2.2.2.2)
(aQ a1 1).bind fun y144 =>
 bif y144 then (
(bc (u143,y1.2) a1.2.2.1).bind fun y145 =>
 bif y145 then (
 idx y1.2.1 a1.2.2.1 fun _ =>
(y1.2.1[(a1.2.2.1:Int).toNat]?).bind fun x146 =>
(bq x146.1 a2.2.2.2.2.1).bind fun y147 =>
 idx y1.2.1 a1.2.2.1 fun _ =>
(y1.2.1[(a1.2.2.1:Int).toNat]?).bind fun x148 =>
 let u149:(List aB.D):=y1.2.1.set (a1.2.2.1:Int).toNat (y147,x148.2)
 some ((u143,u149,y1.2.2),a2.2.2.2.2.1,()))
 else (
 some ((u143,y1.2),a2.2.2.2.2.1,())))
 else (
 some ((u143,y1.2),a2.2.2.2.2.1,())))
 else (
(u131[(y97:Int).toNat]?).bind fun x150 =>
 let u151:(List aj.D):=u131.set (y97:Int).toNat (x150.1,x150.2.1,x150.2.2.1,x150.2.2.2.1,x150.2.2.2.2.1,x150.2.2.2.2.2.1,x150.2.2.2.2.2.2.1,x150.2.2.2.2.2.2.2.1,x150.2.2.2.2.2.2.2.2.1,x150.2.2.2.2.2.2.2.2.2.1,x150.2.2.2.2.2.2.2.2.2.2.1,false,x150.2.2.2.2.2.2.2.2.2.2.2.2)
(aQ a1 1).bind fun y152 =>
 bif y152 then (
(bc (u151,y1.2) a1.2.2.1).bind fun y153 =>
 bif y153 then (
 idx y1.2.1 a1.2.2.1 fun _ =>
(y1.2.1[(a1.2.2.1:Int).toNat]?).bind fun x154 =>
(bq x154.1 a2.2.2.2.2.1).bind fun y155 =>
 idx y1.2.1 a1.2.2.1 fun _ =>
(y1.2.1[(a1.2.2.1:Int).toNat]?).bind fun x156 =>
 let u157:(List aB.D):=y1.2.1.set (a1.2.2.1:Int).toNat (y155,x156.2)
 some ((u151,u157,y1.2.2),a2.2.2.2.2.1,()))
 else (
 some ((u151,y1.2),a2.2.2.2.2.1,())))
 else (
 some ((u151,y1.2),a2.2.2.2.2.1,())))))))))))
def AW:Ct:=.pure false true (.pair ae (.pair aj (.pair ah .unit))) (.pair ae (.pair (.int .i64) .unit)) (fun x=>mb x.1 x.2.1 x.2.2.1)
theorem zL:KC 351 AW:=pq (Ec j5 (Ec ee (Ec bH (Ec cw (Ec hU (Ec rN (Ec rL (Ec ye (Ec qT En))))))))) .none Tryz.func351
def tz (a0:aj.D) (a1:Int) (a2:Int):Option aj.D :=
 some (a0.1,a0.2.1,a0.2.1,a1,a2,a0.2.2.2.2.2.1,a0.2.2.2.2.2.2.1,a0.2.2.2.2.2.2.2.1,0,0,0,false,false,())
def MG:Ct:=.pure true false (.pair aj (.pair (.int .i64) (.pair (.int .i64) .unit))) aj (fun x=>tz x.1 x.2.1 x.2.2.1)
theorem Bv:KC 243 MG:=pq En .none Tryz.func243
def w9 (a0:ae.D) (a1:ah.D):Option (ae.D×(Bool×Unit)) :=
(cN a0).bind fun y1 =>
(gq y1 a1.2.2.1).bind fun y2 =>
(((dS y1).bind fun y3 =>
 bif (!y3) then (
 some true)
 else (
(cn a1).bind fun y4 =>
 bif (!y4) then (
 some true)
 else (
 bif (a1.1 != 2) then (
 some true)
 else (
 bif decide (y2 < 0) then (
 some true)
 else (
 idx y1.1 y2 fun _ =>
(y1.1[(y2:Int).toNat]?).bind fun x5 =>
 some (x5.2.2.2.1 == a1.2.2.2.2.2.1)))))):Option Bool).bind fun o6 =>
 bif o6 then (
 some (y1,false,()))
 else (
 idx y1.1 y2 fun _ =>
(y1.1[(y2:Int).toNat]?).bind fun x7 =>
(tz x7 a1.2.2.2.2.2.1 y1.2.2.2.1).bind fun y8 =>
((bif (a1.2.2.2.2.2.1 == 2) then (
 some (y8.1,y8.2.1,y8.2.2.1,y8.2.2.2.1,y8.2.2.2.2.1,y8.2.2.2.2.2.1,y8.2.2.2.2.2.2.1,y8.2.2.2.2.2.2.2.1,a1.2.2.2.2.1,y8.2.2.2.2.2.2.2.2.2.1,y8.2.2.2.2.2.2.2.2.2.2.1,y8.2.2.2.2.2.2.2.2.2.2.2.1,a1.2.2.2.2.2.2))
 else (
 some y8)):Option aj.D).bind fun o9 =>
 idx y1.1 y2 fun _ =>
(y1.1[(y2:Int).toNat]?).bind fun x10 =>
 let u11:(List aj.D):=y1.1.set (y2:Int).toNat o9
 some ((u11,y1.2),true,()))
def MH:Hints:=(n0 (n0 (n0 (nd (nd (cu ⟨[.tmp 41 .bool],[none],none,[]⟩) .none) (n0 (nd (n0 (cu ⟨[.box 7 0 aj],[none],none,[(7,0)]⟩)) .none))))))
def Ck:Ct:=.pure false true (.pair ae (.pair ah .unit)) (.pair ae (.pair .bool .unit)) (fun x=>w9 x.1 x.2.1)
theorem AX:KC 352 Ck:=pq (Ec ee (Ec bH (Ec cw (Ec Bv (Ec iQ En))))) MH Tryz.func352
def wh (a0:ae.D) (a1:ah.D):Option (ae.D×(Bool×Unit)) :=
(cN a0).bind fun y1 =>
(((dS y1).bind fun y2 =>
 bif (!y2) then (
 some true)
 else (
(cn a1).bind fun y3 =>
 bif (!y3) then (
 some true)
 else (
 bif (a1.1 == 1) then (
 some true)
 else (
 bif (a1.1 == 2) then (
 some true)
 else (
(ni y1 a1).bind fun y4 =>
 some (!y4)))))):Option Bool).bind fun o5 =>
 bif o5 then (
 some (y1,false,()))
 else (
((bif (a1.1 == 3) then (
 idx y1.2.1 a1.2.2.2.1 fun _ =>
(y1.2.1[(a1.2.2.2.1:Int).toNat]?).bind fun x6 =>
(bq x6.1 a1.2.2.2.2.1).bind fun y7 =>
 idx y1.2.1 a1.2.2.2.1 fun _ =>
(y1.2.1[(a1.2.2.2.1:Int).toNat]?).bind fun x8 =>
 let u9:(List aB.D):=y1.2.1.set (a1.2.2.2.1:Int).toNat (y7,x8.2)
 some (y1.1,u9,y1.2.2))
 else (
((bif (a1.1 == 4) then (
 idx y1.2.1 a1.2.2.2.1 fun _ =>
(y1.2.1[(a1.2.2.2.1:Int).toNat]?).bind fun x10 =>
(ib x10.1 a1.2.2.2.2.1).bind fun y11 =>
 idx y1.2.1 a1.2.2.2.1 fun _ =>
(y1.2.1[(a1.2.2.2.1:Int).toNat]?).bind fun x12 =>
 let u13:(List aB.D):=y1.2.1.set (a1.2.2.2.1:Int).toNat (y11,x12.2)
 some (y1.1,u13,y1.2.2))
 else (
((bif (a1.1 == 5) then (
(gx y1 a1.2.2.1).bind fun y14 =>
 idx y1.1 y14 fun _ =>
(y1.1[(y14:Int).toNat]?).bind fun x15 =>
(bq x15.2.2.2.2.2.2.2.2.1 a1.2.2.2.2.1).bind fun y16 =>
(y1.1[(y14:Int).toNat]?).bind fun x17 =>
 let u18:(List aj.D):=y1.1.set (y14:Int).toNat (x17.1,x17.2.1,x17.2.2.1,x17.2.2.2.1,x17.2.2.2.2.1,x17.2.2.2.2.2.1,x17.2.2.2.2.2.2.1,x17.2.2.2.2.2.2.2.1,y16,x17.2.2.2.2.2.2.2.2.2)
 some (u18,y1.2))
 else (
((bif (a1.1 == 6) then (
(gx y1 a1.2.2.1).bind fun y19 =>
 idx y1.1 y19 fun _ =>
(y1.1[(y19:Int).toNat]?).bind fun x20 =>
(bq x20.2.2.2.2.2.2.2.2.2.1 a1.2.2.2.2.1).bind fun y21 =>
(y1.1[(y19:Int).toNat]?).bind fun x22 =>
 let u23:(List aj.D):=y1.1.set (y19:Int).toNat (x22.1,x22.2.1,x22.2.2.1,x22.2.2.2.1,x22.2.2.2.2.1,x22.2.2.2.2.2.1,x22.2.2.2.2.2.2.1,x22.2.2.2.2.2.2.2.1,x22.2.2.2.2.2.2.2.2.1,y21,x22.2.2.2.2.2.2.2.2.2.2)
 some (u23,y1.2))
 else (
 some y1)):Option ae.D).bind fun o24 =>
 some o24)):Option ae.D).bind fun o25 =>
 some o25)):Option ae.D).bind fun o26 =>
 some o26)):Option ae.D).bind fun o27 =>
 some (o27,true,()))
def Oh:Hints:=(n0 (n0 (nd (nd (cu ⟨[.tmp 33 .bool],[none],none,[]⟩) .none) (nd (n0 (nd (n0 (.node (some ⟨[.boxO 2 0 1 ae],[none],none,[(9,1),(2,0),(9,0)]⟩) none .none (n0 (.node (some ⟨[.boxO 2 0 1 ae],[none],none,[(9,1),(2,0),(9,0)]⟩) none .none (n0 (.node (some ⟨[.boxO 2 0 1 ae],[none],none,[(9,0),(2,0),(9,1)]⟩) none .none (n0 (cu ⟨[.boxO 2 0 1 ae],[none],none,[(9,0),(2,0),(9,1)]⟩)))))))) .none)) .none))))
def DH:Ct:=.pure false true (.pair ae (.pair ah .unit)) (.pair ae (.pair .bool .unit)) (fun x=>wh x.1 x.2.1)
theorem Cl:KC 354 DH:=pq (Ec ee (Ec bH (Ec cw (Ec rN (Ec rL (Ec ye (Ec qT En))))))) Oh Tryz.func354
def dW (a0:ae.D) (a1:ae.D) (a2:ah.D):Option ((ae.D×(au.D×Unit))×Unit) :=
((bif (a2.1 == 1) then (
(gu a1 a2).bind fun y1 =>
(mb a0 y1 a2).bind fun y2 =>
 bif decide (y2.2.1≥1) then (
 some (.inr ((y2.1,1,a2,y2.2.1,0,(0,0,0,0,0,0,0,0,0,0,0,false,false,()),()))))
 else (
 some (.inl (([],[],0,0,()),(0,(0,0,0,0,0,0,false,()),0,0,(0,0,0,0,0,0,0,0,0,0,0,false,false,()),()),y2.1))))
 else (
((bif (a2.1 == 2) then (
(w9 a0 a2).bind fun y3 =>
 bif y3.2.1 then (
(gq a1 a2.2.2.1).bind fun y4 =>
 idx a1.1 y4 fun x5 =>
 some (.inr ((y3.1,3,a2,0,0,x5,()))))
 else (
 some (.inl (([],[],0,0,()),0,(0,0,0,0,0,0,false,()),0,0,(0,0,0,0,0,0,0,0,0,0,0,false,false,()),()))))
 else (
(wh a0 a2).bind fun y6 =>
 bif y6.2.1 then (
 some (.inr ((y6.1,2,a2,0,0,(0,0,0,0,0,0,0,0,0,0,0,false,false,()),()))))
 else (
 some (.inl (([],[],0,0,()),0,(0,0,0,0,0,0,false,()),0,0,(0,0,0,0,0,0,0,0,0,0,0,false,false,()),()))))):Option ((ae.D×(Int×(ah.D×(Int×(Int×(aj.D×Unit))))))⊕(ae.D×(Int×(ah.D×(Int×(Int×(aj.D×Unit)))))))).bind fun o7 =>
 match o7 with
| .inl s8=>(
 some (.inl (s8.1,s8.2,a0)))
| .inr o9=>(
 some (.inr o9)))):Option ((ae.D×(au.D×((List aj.D)×((List aB.D)×(Int×(Int×Unit))))))⊕(ae.D×(Int×(ah.D×(Int×(Int×(aj.D×Unit)))))))).bind fun o10 =>
 match o10 with
| .inl s11=>(
 some ((s11.2.2,(4,a2,0,0,(0,0,0,0,0,0,0,0,0,0,0,false,false,()),()),()),()))
| .inr o12=>(
 some ((o12.1,o12.2,()),()))
def E7:Hints:=(n0 (nd (n0 (nd (n0 (.node (some ⟨[.boxO 6 0 1 ae,.box 7 0 au,.boxO 3 0 1 ae],[none],some [.boxO 6 0 1 ae,.box 7 0 au],[(6,0),(7,0),(3,0),(0,0),(0,1)]⟩) none .none (n0 (cu ⟨[.boxO 6 0 1 ae,.box 7 0 au],[none],some [.boxO 6 0 1 ae,.box 7 0 au],[(6,0),(7,0)]⟩)))) .none)) .none))
def xe:Ct:=.mut [.tk,.rd,.rd] false true (.pair ae (.pair ae (.pair ah .unit))) (.pair ae (.pair au .unit)) (fun x=>dW x.1 x.2.1 x.2.2.1)
theorem wi:KC 308 xe:=mq (Ec th (Ec zL (Ec AX (Ec iQ (Ec Cl En))))) E7 Tryz.func308
def nj (a0:ae.D) (y4:((List ah.D)×Unit)) (y6:((List ah.D)×Unit)):((List au.D)×(Int×((List aj.D)×((List aB.D)×(Int×(Int×Unit))))))→Option (((List au.D)×(Int×((List aj.D)×((List aB.D)×(Int×(Int×Unit))))))⊕((List au.D)×(Int×((List aj.D)×((List aB.D)×(Int×(Int×Unit))))))):=fun s8 =>
 bif decide (s8.2.1 < ((y4.1++y6.1).length:Int)) then (
 idx (y4.1++y6.1) s8.2.1 fun _ =>
((y4.1++y6.1)[(s8.2.1:Int).toNat]?).bind fun x9 =>
(dW s8.2.2 a0 x9).bind fun y10 =>
 if (s8.1.length + [y10.1.2.1].length) * (24 * 23)≤aI then (
 some (.inl ((s8.1++[y10.1.2.1]),IntKind.wrap .i64 (s8.2.1 + 1),y10.1.1))) else none)
 else (
 some (.inr s8))
def uQ (a0:ae.D) (a1:(List ah.D)):Option (ae.D×((List au.D)×Unit)) :=
(cN a0).bind fun y1 =>
(dS a0).bind fun y2 =>
 bif (!y2) then (
 some (y1,[],()))
 else (
(bu a1).bind fun y3 =>
(bx y3 (fun q=>vy q.1)).bind fun y4 =>
(bu a1).bind fun y5 =>
(bx y5 (fun q=>Bu (fun q=>vy q.1) q.1)).bind fun y6 =>
 if (y4.1.length + y6.1.length) * (24 * 7)≤aI then (
(ay (nj a0 y4 y6) ([],0,y1)).bind fun o11 =>
 some (o11.2.2,o11.1,())) else none)
def Kr:Hints:=(n0 (n0 (n0 (n0 (n0 (n0 (n0 (nd (n0 (nd (.node none (some ⟨[.tmpO 7 0 (.slice au),.tmp 35 (.int .i64),.boxO 6 0 1 ae],[some 0],none,[]⟩) .none .none) .none)) .none))))))))
def AY:Ct:=.pure false true (.pair ae (.pair (.slice ah) .unit)) (.pair ae (.pair (.slice au) .unit)) (fun x=>uQ x.1 x.2.1)
theorem zM:KC 213 AY:=pq (Ec ee (Ec bH (Ec dQ (Ec E5 (Ec fd (Ec E6 (Ec wi En))))))) Kr Tryz.func213
def iI (a0:aj.D):Option Int :=
(bq a0.2.2.2.2.2.2.1 a0.2.2.2.2.2.2.2.2.1).bind fun y1 =>
(ib y1 a0.2.2.2.2.2.2.2.2.2.1).bind fun y2 =>
 some y2
def IM:Ct:=.pure true false (.pair aj .unit) (.int .i64) (fun x=>iI x.1)
theorem GE:KC 332 IM:=pq (Ec rN (Ec rL En)) .none Tryz.func332
def mc (a0:aj.D):Option Bool :=
 bif (a0.2.2.2.1 == 2) then (
(iI a0).bind fun y1 =>
 bif decide (y1≤0) then (
 some true)
 else (
(aQ a0 8).bind fun y2 =>
 bif (!y2) then (
 bif a0.2.2.2.2.2.2.2.2.2.2.2.1 then (
 some true)
 else (
(iI a0).bind fun y3 =>
 some (decide (a0.2.2.2.2.2.2.2.2.2.2.1≥y3))))
 else (
 some false)))
 else (
 some false)
def Ks:Ct:=.pure true false (.pair aj .unit) .bool (fun x=>mc x.1)
theorem IN:KC 242 Ks:=pq (Ec j5 (Ec GE En)) .none Tryz.func242
def kI (a0:ae.D):((List au.D)×(Int×((List aj.D)×((List aB.D)×(Int×(Int×Unit))))))→Option (((List au.D)×(Int×((List aj.D)×((List aB.D)×(Int×(Int×Unit))))))⊕((List au.D)×(Int×((List aj.D)×((List aB.D)×(Int×(Int×Unit))))))):=fun s4 =>
 bif decide (s4.2.1 < (a0.2.1.length:Int)) then (
 idx a0.2.1 s4.2.1 fun x5 =>
((bif (!x5.2.2.1) then (
 bif decide (x5.1≤0) then (
 some true)
 else (
 some (decide (x5.2.1≥10))))
 else (
 some false)):Option Bool).bind fun o6 =>
 bif o6 then (
 idx s4.2.2.2.1 s4.2.1 fun _ =>
(s4.2.2.2.1[(s4.2.1:Int).toNat]?).bind fun x7 =>
 let u8:(List aB.D):=s4.2.2.2.1.set (s4.2.1:Int).toNat (x7.1,x7.2.1,true,())
 if (s4.1.length + ([(5,(0,0,0,0,0,0,false,()),0,s4.2.1,(0,0,0,0,0,0,0,0,0,0,0,false,false,()),())]:List au.D).length) * (24 * 23)≤aI then (
 some (.inl ((s4.1++([(5,(0,0,0,0,0,0,false,()),0,s4.2.1,(0,0,0,0,0,0,0,0,0,0,0,false,false,()),())]:List au.D)),IntKind.wrap .i64 (s4.2.1 + 1),s4.2.2.1,u8,s4.2.2.2.2))) else none)
 else (
 some (.inl (s4.1,IntKind.wrap .i64 (s4.2.1 + 1),s4.2.2))))
 else (
 some (.inr s4))
def kJ (a0:ae.D):((List au.D)×(Int×((List aj.D)×((List aB.D)×(Int×(Int×Unit))))))→Option (((List au.D)×(Int×((List aj.D)×((List aB.D)×(Int×(Int×Unit))))))⊕((List au.D)×(Int×((List aj.D)×((List aB.D)×(Int×(Int×Unit))))))):=fun s11 =>
 bif decide (s11.2.1 < (a0.1.length:Int)) then (
 idx a0.1 s11.2.1 fun x12 =>
(mc x12).bind fun y13 =>
 bif y13 then (
(tz x12 3 a0.2.2.2.1).bind fun y14 =>
 idx s11.2.2.1 s11.2.1 fun _ =>
(s11.2.2.1[(s11.2.1:Int).toNat]?).bind fun x15 =>
 let u16:(List aj.D):=s11.2.2.1.set (s11.2.1:Int).toNat y14
 if (s11.1.length + ([(6,(0,0,0,0,0,0,false,()),0,0,x12,())]:List au.D).length) * (24 * 23)≤aI then (
 some (.inl ((s11.1++([(6,(0,0,0,0,0,0,false,()),0,0,x12,())]:List au.D)),IntKind.wrap .i64 (s11.2.1 + 1),u16,s11.2.2.2))) else none)
 else (
((bif (x12.2.2.2.1 == 2) then (
 some (decide ((if x12.2.2.2.2.2.2.2.2.2.1 < x12.2.2.2.2.2.2.2.2.1 then x12.2.2.2.2.2.2.2.2.2.1 else x12.2.2.2.2.2.2.2.2.1) > 0)))
 else (
 some false)):Option Bool).bind fun o17 =>
 bif o17 then (
 idx s11.2.2.1 s11.2.1 fun _ =>
(s11.2.2.1[(s11.2.1:Int).toNat]?).bind fun x18 =>
 let k19:Int:=IntKind.wrap .i64 (x18.2.2.2.2.2.2.2.2.1 - (if x12.2.2.2.2.2.2.2.2.2.1 < x12.2.2.2.2.2.2.2.2.1 then x12.2.2.2.2.2.2.2.2.2.1 else x12.2.2.2.2.2.2.2.2.1))
 idx s11.2.2.1 s11.2.1 fun _ =>
(s11.2.2.1[(s11.2.1:Int).toNat]?).bind fun x20 =>
 let u21:(List aj.D):=s11.2.2.1.set (s11.2.1:Int).toNat (x20.1,x20.2.1,x20.2.2.1,x20.2.2.2.1,x20.2.2.2.2.1,x20.2.2.2.2.2.1,x20.2.2.2.2.2.2.1,x20.2.2.2.2.2.2.2.1,k19,x20.2.2.2.2.2.2.2.2.2)
 idx u21 s11.2.1 fun _ =>
(u21[(s11.2.1:Int).toNat]?).bind fun x22 =>
 let k23:Int:=IntKind.wrap .i64 (x22.2.2.2.2.2.2.2.2.2.1 - (if x12.2.2.2.2.2.2.2.2.2.1 < x12.2.2.2.2.2.2.2.2.1 then x12.2.2.2.2.2.2.2.2.2.1 else x12.2.2.2.2.2.2.2.2.1))
 idx u21 s11.2.1 fun _ =>
(u21[(s11.2.1:Int).toNat]?).bind fun x24 =>
 let u25:(List aj.D):=u21.set (s11.2.1:Int).toNat (x24.1,x24.2.1,x24.2.2.1,x24.2.2.2.1,x24.2.2.2.2.1,x24.2.2.2.2.2.1,x24.2.2.2.2.2.2.1,x24.2.2.2.2.2.2.2.1,x24.2.2.2.2.2.2.2.2.1,k23,x24.2.2.2.2.2.2.2.2.2.2)
 if (s11.1.length + ([(7,(0,0,0,0,0,0,false,()),(if x12.2.2.2.2.2.2.2.2.2.1 < x12.2.2.2.2.2.2.2.2.1 then x12.2.2.2.2.2.2.2.2.2.1 else x12.2.2.2.2.2.2.2.2.1),0,x12,())]:List au.D).length) * (24 * 23)≤aI then (
 some (.inl ((s11.1++([(7,(0,0,0,0,0,0,false,()),(if x12.2.2.2.2.2.2.2.2.2.1 < x12.2.2.2.2.2.2.2.2.1 then x12.2.2.2.2.2.2.2.2.2.1 else x12.2.2.2.2.2.2.2.2.1),0,x12,())]:List au.D)),IntKind.wrap .i64 (s11.2.1 + 1),u25,s11.2.2.2))) else none)
 else (
 some (.inl (s11.1,IntKind.wrap .i64 (s11.2.1 + 1),s11.2.2)))))
 else (
 some (.inr s11))
def xf (a0:ae.D):Option (ae.D×((List au.D)×Unit)) :=
(cN a0).bind fun y1 =>
(dS a0).bind fun y2 =>
 bif (!y2) then (
 some (y1,[],()))
 else (
(ay (kI a0) ([],0,y1)).bind fun o9 =>
(ay (kJ a0) (o9.1,0,o9.2.2)).bind fun o26 =>
 some (o26.2.2,o26.1,()))
def MI:Hints:=(n0 (n0 (n0 (n0 (nd (n0 (nd (.node none (some ⟨[.tmpO 5 0 (.slice au),.tmp 22 (.int .i64),.boxO 4 0 1 ae],[some 0],none,[]⟩) (n0 (n0 (nd (nd (n0 (nd (cu ⟨[.tmp 39 .bool],[none],none,[]⟩) .none)) .none) .none))) .none) .none)) (nd (n0 (nd (.node none (some ⟨[.tmpO 5 1 (.slice au),.tmp 54 (.int .i64),.boxO 4 0 3 ae],[some 2],none,[]⟩) (n0 (n0 (nd (nd (n0 (n0 (nd (n0 (n0 (nd (cu ⟨[.tmp 80 .bool],[none],none,[]⟩) .none))) .none))) .none) .none))) .none) .none)) .none))))))
def Cm:Ct:=.pure false true (.pair ae .unit) (.pair ae (.pair (.slice au) .unit)) (fun x=>xf x.1)
theorem AZ:KC 122 Cm:=pq (Ec ee (Ec bH (Ec IN (Ec Bv En)))) MI Tryz.func122
def cd:((List au.D)×(Int×(ae.D×((List aj.D)×((List aB.D)×(Int×(Int×Unit)))))))→Option (((List au.D)×(Int×(ae.D×((List aj.D)×((List aB.D)×(Int×(Int×Unit)))))))⊕((List au.D)×(Int×((List aj.D)×((List aB.D)×(Int×(Int×Unit))))))):=fun s4 =>
(xf s4.2.2.2).bind fun y5 =>
 bif ((y5.2.1.length:Int) == 0) then (
 some (.inr (s4.1,s4.2.1,s4.2.2.2)))
 else (
 if (s4.1.length + y5.2.1.length) * (24 * 23)≤aI then (
 some (.inl ((s4.1++y5.2.1),IntKind.wrap .i64 (s4.2.1 + 1),s4.2.2.1,y5.1))) else none)
def md (a0:ae.D):Option (ae.D×((List au.D)×(Int×Unit))) :=
(cN a0).bind fun y1 =>
(ay (cd) ([],0,([],[],0,0,()),y1)).bind fun o6 =>
 some (o6.2.2,o6.1,o6.2.1,())
def Kt:Hints:=(n0 (n0 (n0 (n0 (nd (.node none (some ⟨[.tmpO 5 0 (.slice au),.tmp 6 (.int .i64),.boxO 2 0 1 ae,.boxO 1 0 1 ae],[],some [.tmpO 3 0 (.slice au),.tmp 4 (.int .i64),.boxO 2 0 1 ae],[]⟩) .none .none) .none)))))
def A0:Ct:=.pure false true (.pair ae .unit) (.pair ae (.pair (.slice au) (.pair (.int .i64) .unit))) (fun x=>md x.1)
theorem zN:KC 214 A0:=pq (Ec AZ (Ec bH En)) Kt Tryz.func214
def Av (a0:au.D):Option Bool :=
 bif (a0.1 == 6) then (
 some true)
 else (
 bif (a0.1 == 3) then (
 bif (a0.2.2.2.2.1.2.2.2.1 == 2) then (
 some (a0.2.1.2.2.2.2.2.1 != 2))
 else (
 some false))
 else (
 some false))
def Oi:Ct:=.pure true false (.pair au .unit) .bool (fun x=>Av x.1)
theorem MJ:KC 314 Oi:=pq En .none Tryz.func314
def xj (a0:ae.D) (a1:(List au.D)):((List ai.D)×Int)→Option (((List ai.D)×Int)⊕((List ai.D)×Int)):=fun s1 =>
 bif decide (s1.2 < (a1.length:Int)) then (
 idx a1 s1.2 fun x2 =>
(gu a0 x2.2.1).bind fun y3 =>
(((Av x2).bind fun y4 =>
 bif y4 then (
(aQ x2.2.2.2.2.1 16).bind fun y5 =>
 some y5)
 else (
 some false)):Option Bool).bind fun o6 =>
 bif o6 then (
 if (s1.1.length + ([(1,x2.2.2.2.2.1.2.2.1,0,x2.2.2.2.2)]:List ai.D).length) * (24 * 16)≤aI then (
 some (.inl ((s1.1++([(1,x2.2.2.2.2.1.2.2.1,0,x2.2.2.2.2)]:List ai.D)),IntKind.wrap .i64 (s1.2 + 1)))) else none)
 else (
((bif (x2.1 == 1) then (
 bif decide (x2.2.2.1≥1) then (
(aQ y3 32).bind fun y7 =>
 some y7)
 else (
 some false))
 else (
 some false)):Option Bool).bind fun o8 =>
 bif o8 then (
 if (s1.1.length + ([(2,y3.2.2.1,x2.2.2.1,y3,())]:List ai.D).length) * (24 * 16)≤aI then (
 some (.inl ((s1.1++([(2,y3.2.2.1,x2.2.2.1,y3,())]:List ai.D)),IntKind.wrap .i64 (s1.2 + 1)))) else none)
 else (
 some (.inl (s1.1,IntKind.wrap .i64 (s1.2 + 1))))))
 else (
 some (.inr s1))
def wj (a0:ae.D) (a1:(List au.D)):Option (List ai.D) :=
(ay (xj a0 a1) ([],0)).bind fun o9 =>
 some o9.1
def Oj:Hints:=(n0 (n0 (nd (n0 (nd (.node none (some ⟨[.tmpO 5 0 (.slice ai),.tmp 12 (.int .i64)],[some 0],none,[]⟩) (n0 (n0 (nd (nd (n0 (n0 (nd (nd (cu ⟨[.tmp 20 .bool],[none],none,[]⟩) (n0 (nd (cu ⟨[.tmp 37 .bool],[none],none,[]⟩) .none))) .none))) .none) .none))) .none) .none)) .none)))
def DI:Ct:=.pure true true (.pair ae (.pair (.slice au) .unit)) (.slice ai) (fun x=>wj x.1 x.2.1)
theorem Cn:KC 216 DI:=pq (Ec j5 (Ec th (Ec MJ En))) Oj Tryz.func216
def nk (a0:ae.D):((List Int)×Int)→Option (((List Int)×Int)⊕((List Int)×Int)):=fun s2 =>
 bif decide (s2.2 < (a0.2.1.length:Int)) then (
 if (a0.2.1.length:Int)=0 then none else (
 let k3:Int:=(IntKind.wrap .i64 (a0.2.2.1 + s2.2)).tmod (a0.2.1.length:Int)
 if (s2.1.length + [k3].length) * (24 * 1)≤aI then (
 some (.inl ((s2.1++[k3]),IntKind.wrap .i64 (s2.2 + 1)))) else none))
 else (
 some (.inr s2))
def ic (a0:ae.D):Option (List Int) :=
(bc a0 a0.2.2.1).bind fun y1 =>
 bif (!y1) then (
 some [])
 else (
(ay (nk a0) ([],0)).bind fun o4 =>
 some o4.1)
def E8:Hints:=(n0 (n0 (n0 (nd (n0 (nd (.node none (some ⟨[.tmpO 3 0 (.slice (.int .i64)),.tmp 15 (.int .i64)],[some 0],none,[]⟩) .none .none) .none)) .none))))
def xn:Ct:=.pure true true (.pair ae .unit) (.slice (.int .i64)) (fun x=>ic x.1)
theorem me:KC 95 xn:=pq (Ec hU En) E8 Tryz.func95
def cI (a0:(List ai.D)) (a1:((ai.D×Unit)→Option Bool)):Int→Option (Int⊕(Int⊕Int)):=fun s1 =>
 bif decide (s1 < (a0.length:Int)) then (
 idx a0 s1 fun x2 =>
(a1 (x2,())).bind fun y3 =>
 bif y3 then (
 some (.inr (.inr s1)))
 else (
 some (.inl (IntKind.wrap .i64 (s1 + 1)))))
 else (
 some (.inr (.inl s1)))
def dk (a0:(List ai.D)) (a1:((ai.D×Unit)→Option Bool)):Option Int :=
(ay (cI a0 a1) 0).bind fun o4 =>
 match o4 with
| .inl s5=>(
 some (-1))
| .inr o6=>(
 some o6)
def nT:Hints:=(n0 (nd (n0 (nd (.node none (some ⟨[.tmp 8 (.int .i64)],[some 0],some [.tmp 4 (.int .i64)],[]⟩) .none .none) .none)) .none))
def nU:Ct:=.pure true false (.pair (.slice ai) (.pair (.fn (.pair ai .unit) .bool) .unit)) (.int .i64) (fun x=>dk x.1 x.2.1)
theorem nl:KC 356 nU:=pq En nT Tryz.func356
def bL (a1:((ai.D×Unit)→Option Bool)):((List ai.D)×(Int×Int))→Option (((List ai.D)×(Int×Int))⊕((List ai.D)×(Int×Int))):=fun s3 =>
 bif decide (s3.2.2 < (s3.1.length:Int)) then (
 idx s3.1 s3.2.2 fun _ =>
(s3.1[(s3.2.2:Int).toNat]?).bind fun x4 =>
(a1 (x4,())).bind fun y5 =>
((bif (!y5) then (
 idx s3.1 s3.2.1 fun _ =>
(s3.1[(s3.2.1:Int).toNat]?).bind fun x6 =>
 let u7:(List ai.D):=s3.1.set (s3.2.1:Int).toNat x4
 some (u7,IntKind.wrap .i64 (s3.2.1 + 1)))
 else (
 some (s3.1,s3.2.1))):Option ((List ai.D)×Int)).bind fun o8 =>
 some (.inl (o8.1,o8.2,IntKind.wrap .i64 (s3.2.2 + 1))))
 else (
 some (.inr s3))
def ce (a0:(List ai.D)) (a1:((ai.D×Unit)→Option Bool)):Option ((List ai.D)×Unit) :=
(dk a0 a1).bind fun y1 =>
 bif (y1 == (-1)) then (
 some (a0,()))
 else (
(ay (bL a1) (a0,y1,IntKind.wrap .i64 (y1 + 1))).bind fun o9 =>
 if 0≤o9.2.1 then (if o9.2.1≤(o9.1.length:Int) then (if (o9.1.length:Int)≤(o9.1.length:Int) then (
 if 0≤(0:Int) then (if (0:Int)≤o9.2.1 then (if o9.2.1≤((o9.1.take (o9.2.1.toNat)++List.replicate ((o9.1.length:Int).toNat - o9.2.1.toNat) (0,0,0,(0,0,0,0,0,0,0,0,0,0,0,false,false,()),())++o9.1.drop ((o9.1.length:Int).toNat)).length:Int) then (
 some ((((o9.1.take (o9.2.1.toNat)++List.replicate ((o9.1.length:Int).toNat - o9.2.1.toNat) (0,0,0,(0,0,0,0,0,0,0,0,0,0,0,false,false,()),())++o9.1.drop ((o9.1.length:Int).toNat)).take (o9.2.1.toNat)).drop ((0:Int).toNat)),())) else none) else none) else none) else none) else none) else none)
def np:Hints:=(n0 (n0 (n0 (nd (n0 (nd (.node none (some ⟨[.tmpO 0 1 (.slice ai),.tmp 5 (.int .i64),.tmp 6 (.int .i64)],[some 0],none,[]⟩) (n0 (nd (nd (n0 (n0 (cu ⟨[.tmpO 0 2 (.slice ai),.tmp 5 (.int .i64)],[none],none,[(0,1)]⟩))) .none) .none)) .none) .none)) .none))))
def jJ:Ct:=.mut [.tk,.rd] true true (.pair (.slice ai) (.pair (.fn (.pair ai .unit) .bool) .unit)) (.slice ai) (fun x=>ce x.1 x.2.1)
theorem eL:KC 310 jJ:=mq (Ec nl En) np Tryz.func310
def uR (z0:Int) (a0:ai.D):Option Bool :=
 some (a0.2.1 != z0)
def A1:Ct:=.clo (.pair ai .unit) (.pair (.int .i64) .unit) .bool (fun z x=>uR z.1 x.1)
theorem zO:KC 355 A1:=cq En .none Tryz.func355
def lz (a0:(List ai.D)) (a1:Int):Option (List ai.D) :=
(bM a0).bind fun y1 =>
(ce y1 (fun q=>uR a1 q.1)).bind fun y2 =>
 some y2.1
def wk:Ct:=.pure true true (.pair (.slice ai) (.pair (.int .i64) .unit)) (.slice ai) (fun x=>lz x.1 x.2.1)
theorem vz:KC 309 wk:=pq (Ec dA (Ec eL (Ec zO En))) .none Tryz.func309
def zP (z0:Int) (a0:ai.D):Option Bool :=
 some (a0.2.1 == z0)
def E9:Ct:=.clo (.pair ai .unit) (.pair (.int .i64) .unit) .bool (fun z x=>zP z.1 x.1)
theorem DJ:KC 311 E9:=cq En .none Tryz.func311
def dX (a0:(List ai.D)) (a1:Int) (a2:Int):Option ((List ai.D)×Unit) :=
 if 0≤a1 then (if a1≤a2 then (if a2≤(a0.length:Int) then (
 if a2≤(a0.length:Int) then (if (a0.length:Int)≤(a0.length:Int) then (
 bif (a1 == a2) then (
 some (a0,()))
 else (
 if 0≤(0:Int) then (if (0:Int)≤a1 then (if a1≤(a0.length:Int) then (
 if 0≤a2 then (if a2≤(a0.length:Int) then (if (a0.length:Int)≤(a0.length:Int) then (
 if a2.toNat≤(a0.length:Int).toNat then (if a1.toNat + ((a0.length:Int).toNat - a2.toNat)≤a0.length then (
 let u1:(List ai.D):=a0.take (a1.toNat)++(a0.take ((a0.length:Int).toNat)).drop (a2.toNat)++a0.drop (a1.toNat + ((a0.length:Int).toNat - a2.toNat))
 if 0≤((a1.toNat + ((a0.length:Int).toNat - a2.toNat) - 0:Nat):Int) then (if ((a1.toNat + ((a0.length:Int).toNat - a2.toNat) - 0:Nat):Int)≤(a0.length:Int) then (if (a0.length:Int)≤(u1.length:Int) then (
 some ((((u1.take (((a1.toNat + ((a0.length:Int).toNat - a2.toNat) - 0:Nat):Int).toNat)++List.replicate ((a0.length:Int).toNat - ((a1.toNat + ((a0.length:Int).toNat - a2.toNat) - 0:Nat):Int).toNat) (0,0,0,(0,0,0,0,0,0,0,0,0,0,0,false,false,()),())++u1.drop ((a0.length:Int).toNat)).take (a1.toNat + ((a0.length:Int).toNat - a2.toNat))).drop (0)),())) else none) else none) else none) else none) else none) else none) else none) else none) else none) else none) else none)) else none) else none) else none) else none) else none
def lQ:Ct:=.mut [.tk,.rd,.rd] true true (.pair (.slice ai) (.pair (.int .i64) (.pair (.int .i64) .unit))) (.slice ai) (fun x=>dX x.1 x.2.1 x.2.2.1)
theorem kK:KC 312 lQ:=mq En .none Tryz.func312
def lA:((List Int)×((List ai.D)×(List ai.D)))→Option (((List Int)×((List ai.D)×(List ai.D)))⊕((List Int)×((List ai.D)×(List ai.D)))):=fun s8 =>
 bif decide ((s8.2.2.length:Int) > 0) then (
(wa s8.1 (s8.2.2.length:Int)).bind fun y9 =>
 idx s8.2.2 y9.1 fun _ =>
(s8.2.2[(y9.1:Int).toNat]?).bind fun x10 =>
 if (s8.2.1.length + [x10].length) * (24 * 16)≤aI then (
(dX s8.2.2 y9.1 (IntKind.wrap .i64 (y9.1 + 1))).bind fun y11 =>
 some (.inl (y9.2.1,(s8.2.1++[x10]),y11.1))) else none)
 else (
 some (.inr s8))
def lB (y3:(List Int)):((List Int)×((List ai.D)×((List ai.D)×Int)))→Option (((List Int)×((List ai.D)×((List ai.D)×Int)))⊕((List Int)×((List ai.D)×((List ai.D)×Int)))):=fun s4 =>
 bif decide (s4.2.2.2 < (y3.length:Int)) then (
 idx y3 s4.2.2.2 fun _ =>
(y3[(s4.2.2.2:Int).toNat]?).bind fun x5 =>
(lz s4.2.2.1 x5).bind fun y6 =>
(ce s4.2.2.1 (fun q=>zP x5 q.1)).bind fun y7 =>
(ay (lA) (s4.1,s4.2.1,y6)).bind fun o12 =>
 some (.inl (o12.1,o12.2.1,y7.1,IntKind.wrap .i64 (s4.2.2.2 + 1))))
 else (
 some (.inr s4))
def nq (a0:ae.D) (a1:(List ai.D)) (a2:(List Int)):Option ((List ai.D)×((List Int)×Unit)) :=
(bM a1).bind fun y1 =>
(bw a2).bind fun y2 =>
(ic a0).bind fun y3 =>
(ay (lB y3) (y2,[],y1,0)).bind fun o13 =>
 if (o13.2.1.length + o13.2.2.1.length) * (24 * 16)≤aI then (
 some ((o13.2.1++o13.2.2.1),o13.1,())) else none
def IOq:Hints:=(n0 (n0 (n0 (n0 (nd (n0 (nd (.node none (some ⟨[.tmpO 2 0 (.slice (.int .i64)),.tmpO 8 0 (.slice ai),.tmpO 9 0 (.slice ai),.tmp 23 (.int .i64)],[some 0],none,[]⟩) (n0 (n0 (nd (nd (n0 (n0 (n0 (nd (.node none (some ⟨[.tmpO 2 1 (.slice (.int .i64)),.tmpO 8 1 (.slice ai),.tmpO 12 0 (.slice ai)],[some 2],none,[]⟩) .none .none) .none)))) .none) .none))) .none) .none)) .none)))))
def zQ:Ct:=.pure false true (.pair ae (.pair (.slice ai) (.pair (.slice (.int .i64)) .unit))) (.pair (.slice ai) (.pair (.slice (.int .i64)) .unit)) (fun x=>nq x.1 x.2.1 x.2.2.1)
theorem yy:KC 215 zQ:=pq (Ec me (Ec bz (Ec tj (Ec dA (Ec vz (Ec eL (Ec DJ (Ec kK En)))))))) IOq Tryz.func215
theorem nr (xs:List bf.D) (hl:xs.length≤1048576) (p:bf.D→Bool) (q:(bf.D×Unit)→Option Bool) (hq:∀ x∈xs,q (x,())=some (p x)) :
  dd xs q=some (match bZ p xs with | some k=>(k:Int) | none=>-1):=by
 unfold dd
 rw [eG xs (body:=cC xs q) p (fun i=>i) (by omega) (fun i x hx=>?_) ?_]
 ·cases bZ p xs <;> rfl
 ·unfold cC
  simp
 ·unfold cC
  have hlt:=(List.getElem?_eq_some_iff.1 hx).1
  have:((i:Int) < (xs.length:Int)):=by omega
  simp only [this,decide_true,cond_true,aJ hx,hq x (List.mem_of_getElem? hx),Option.bind_some]
theorem mu (xs:List bf.D) (hl:xs.length≤1048576) (p:bf.D→Bool) (q:(bf.D×Unit)→Option Bool) (hq:∀ x∈xs,q (x,())=some (p x)) :
  cT xs q=some (xs.filter (fun x=>!p x),()):=by
 unfold cT
 rw [nr xs hl p q hq,Option.bind_some]
 obtain ⟨h1,h2⟩:=fk p xs
 cases hf:bZ p xs with
 | none =>
  have:xs.filter (fun x=>!p x)=xs:=by rw [List.filter_eq_self];intro x hx;simp [h1 hf x hx]
  rw [this];rfl
 | some k =>
  obtain ⟨x,g1,g2,g3⟩:=h2 k hf
  have hk:=(List.getElem?_eq_some_iff.1 g1).1
  have n1:((k:Int) == -1)=false:=by simp
  simp only [n1,cond_false]
  rw [aA (by omega) (by omega)]
  obtain ⟨ys,m,e1,e2,e3,e4⟩:∃ (ys:List bf.D) (m:Nat),ay (bK q) (xs,(k:Int),(k:Int) + 1)=some (ys,(m:Int),(xs.length:Int))∧ys.length=xs.length∧m≤xs.length∧ys.take m=xs.filter (fun x=>!p x):=by
   refine Df xs (body:=bK q) p (fun s=>s) (by omega) (fun ys i j x hx hij hl' hm=>?_) (fun ys i hl'=>?_) k x g1 g2 g3
   ·have hlt:=(List.getElem?_eq_some_iff.1 hx).1
    have hil:((j:Int) < (ys.length:Int)):=by omega
    obtain ⟨y,hy⟩:∃ y,ys[i]?=some y:=⟨_,List.getElem?_eq_getElem (by omega)⟩
    unfold bK
    simp (disch:=omega) only [hil,decide_true,cond_true,Int.toNat_natCast,aJ hx,hx,hq x hm,Option.bind_some,aJ hy,hy,aA]
    cases p x <;> rfl
   ·unfold bK
    have:¬ ((xs.length:Int) < (ys.length:Int)):=by omega
    simp only [this,decide_false,cond_false]
  rw [e1,Option.bind_some]
  have t1:0≤(m:Int):=by omega
  have t2:(m:Int)≤(ys.length:Int):=by omega
  simp only [t1,t2,if_true,Int.le_refl,Int.toNat_natCast]
  have z1:m≤ys.length:=by omega
  rw [if_pos (by simp only [List.length_append,List.length_take,List.length_replicate,List.length_drop];omega)]
  have:∀ (zs:List bf.D),(ys.take m++zs).take m=ys.take m:=fun zs=>by rw [List.take_append_of_le_length (by simp;omega),List.take_take,Nat.min_self]
  rw [List.append_assoc,this,e4]
  simp
def cj (a0:List aa.D) (a1:(aa.D×Unit)→Option Bool):Option (List aa.D×Unit):=if a0.length≤1048576∧a0.all (fun x=>(a1 (x,())).isSome)=true then some (a0.filter (fun x=>!(a1 (x,())).getD false),()) else none
def j6:Ct:=.mut [.tk,.rd] true true (.pair (.slice aa) (.pair (.fn (.pair aa .unit) .bool) .unit)) (.slice aa) (fun x=>cj x.1 x.2.1)
theorem jK:cS Tryz.prog 219 j6:=by
 refine Ux (t:=aa) (FH:=fun x=>cT x.1 x.2.1) rfl rfl jj fun xs p z hz=>?_
 have hz:cj xs p=some z:=hz
 unfold cj at hz
 split at hz
 ·rename_i h
  obtain ⟨h1,h2⟩:=h
  cases hz
  refine ⟨_,(NS _ xs 0).2,FQ _ xs,fun xsH pH hl hp=>?_⟩
  have hs:∀ xh∈xsH,pH (xh,())=some ((pH (xh,())).getD false):=fun xh hm=>by
   obtain ⟨i,hi⟩:=List.mem_iff_getElem?.1 hm
   have hil:i < xs.length:=by rw [← hl];exact (List.getElem?_eq_some_iff.1 hi).1
   have hx:xs[i]?=some xs[i]:=List.getElem?_eq_getElem hil
   have hsome:=List.all_eq_true.1 h2 xs[i] (List.getElem_mem hil)
   rw [hp i _ xh hx hi]
   obtain ⟨b,hb⟩:=Option.isSome_iff_exists.1 hsome
   rw [hb];rfl
  refine ⟨_,mu xsH (by omega) (fun xh=>(pH (xh,())).getD false) pH hs,?_⟩
  rw [← HK (fun x=>!(p (x,())).getD false) (fun xh=>!(pH (xh,())).getD false) xs xsH 0 hl fun i x xh hx hh=>by rw [hp i x xh hx hh]]
  exact FQ _ xsH
 ·cases hz
def pM (z0:Int) (a0:aa.D):Option Bool :=
(oV a0 z0).bind fun y1 =>
 some (!y1)
def GF:Ct:=.clo (.pair aa .unit) (.pair (.int .i64) .unit) .bool (fun z x=>pM z.1 x.1)
theorem Fa:KC 220 GF:=cq (Ec Bt En) .none Tryz.func220
def qs (a0:(List aa.D)) (a1:Int):Option (List aa.D) :=
(b8 a0).bind fun y1 =>
(cj y1 (fun q=>pM a1 q.1)).bind fun y2 =>
 some y2.1
def A2:Ct:=.pure true true (.pair (.slice aa) (.pair (.int .i64) .unit)) (.slice aa) (fun x=>qs x.1 x.2.1)
theorem qt:KC 96 A2:=pq (Ec bv (Ec jK (Ec Fa En))) .none Tryz.func96
def eQ (a0:Unit) (a1:Int):Option ((List ai.D)×Unit) :=
((bif decide (a1 < 0) then (
 none)
 else (
 some ())):Option Unit).bind fun o1 =>
 bif decide ((IntKind.wrap .i64 (a1 - (IntKind.wrap .i64 (0 - 0)))) > 0) then (
 if 0≤(0:Int) then (if (0:Int)≤(0:Int) then (if (0:Int)≤((0:Nat):Int) then (
 if 0 < (IntKind.wrap .i64 (a1 - (IntKind.wrap .i64 (0 - 0)))) then (if (IntKind.wrap .i64 (a1 - (IntKind.wrap .i64 (0 - 0)))).toNat * (24 * 16)≤aI then (
 if 0≤(0:Int) then (if (0:Int)≤(0:Int) then (if (0:Int)≤((List.replicate (IntKind.wrap .i64 (a1 - (IntKind.wrap .i64 (0 - 0)))).toNat (0,0,0,(0,0,0,0,0,0,0,0,0,0,0,false,false,()),()):List ai.D).length:Int) then (
 some ((((List.replicate (IntKind.wrap .i64 (a1 - (IntKind.wrap .i64 (0 - 0)))).toNat (0,0,0,(0,0,0,0,0,0,0,0,0,0,0,false,false,()),()):List ai.D).take ((0:Int).toNat)).drop ((0:Int).toNat)),())) else none) else none) else none) else none) else none) else none) else none) else none)
 else (
 some ([],()))
def tA:Hints:=(n0 (nd (n0 (cu ⟨[],[none],none,[]⟩)) .none))
def nu:Ct:=.mut [.nil,.rd] true true (.pair .unit (.pair (.int .i64) .unit)) (.slice ai) (fun x=>eQ x.1 x.2.1)
theorem mw:KC 315 nu:=mq En tA Tryz.func315
def bI (a0:(List (List ai.D))):(Int×Int)→Option ((Int×Int)⊕(Int×Int)):=fun s1 =>
 bif decide (s1.2 < (a0.length:Int)) then (
 idx a0 s1.2 fun x2 =>
 bif decide ((IntKind.wrap .i64 (s1.1 + (x2.length:Int))) < 0) then (
 none)
 else (
 some (.inl (IntKind.wrap .i64 (s1.1 + (x2.length:Int)),IntKind.wrap .i64 (s1.2 + 1)))))
 else (
 some (.inr s1))
def bJ (a0:(List (List ai.D))):((List ai.D)×Int)→Option (((List ai.D)×Int)⊕((List ai.D)×Int)):=fun s5 =>
 bif decide (s5.2 < (a0.length:Int)) then (
 idx a0 s5.2 fun x6 =>
 if (s5.1.length + x6.length) * (24 * 16)≤aI then (
 some (.inl ((s5.1++x6),IntKind.wrap .i64 (s5.2 + 1)))) else none)
 else (
 some (.inr s5))
def dY (a0:(List (List ai.D))):Option (List ai.D) :=
(ay (bI a0) (0,0)).bind fun o3 =>
(eQ () o3.1).bind fun y4 =>
(ay (bJ a0) (y4.1,0)).bind fun o7 =>
 some o7.1
def qU:Hints:=(n0 (n0 (nd (n0 (nd (.node none (some ⟨[.tmp 3 (.int .i64),.tmp 11 (.int .i64)],[some 0],none,[]⟩) .none .none) .none)) (n0 (nd (n0 (nd (.node none (some ⟨[.tmpO 6 0 (.slice ai),.tmp 27 (.int .i64)],[some 2],none,[]⟩) .none .none) .none)) .none)))))
def lR:Ct:=.pure true true (.pair (.slice (.slice ai)) .unit) (.slice ai) (fun x=>dY x.1)
theorem kL:KC 217 lR:=pq (Ec mw En) qU Tryz.func217
def fX (a0:Unit) (a1:Int):Option ((List au.D)×Unit) :=
((bif decide (a1 < 0) then (
 none)
 else (
 some ())):Option Unit).bind fun o1 =>
 bif decide ((IntKind.wrap .i64 (a1 - (IntKind.wrap .i64 (0 - 0)))) > 0) then (
 if 0≤(0:Int) then (if (0:Int)≤(0:Int) then (if (0:Int)≤((0:Nat):Int) then (
 if 0 < (IntKind.wrap .i64 (a1 - (IntKind.wrap .i64 (0 - 0)))) then (if (IntKind.wrap .i64 (a1 - (IntKind.wrap .i64 (0 - 0)))).toNat * (24 * 23)≤aI then (
 if 0≤(0:Int) then (if (0:Int)≤(0:Int) then (if (0:Int)≤((List.replicate (IntKind.wrap .i64 (a1 - (IntKind.wrap .i64 (0 - 0)))).toNat (0,(0,0,0,0,0,0,false,()),0,0,(0,0,0,0,0,0,0,0,0,0,0,false,false,()),()):List au.D).length:Int) then (
 some ((((List.replicate (IntKind.wrap .i64 (a1 - (IntKind.wrap .i64 (0 - 0)))).toNat (0,(0,0,0,0,0,0,false,()),0,0,(0,0,0,0,0,0,0,0,0,0,0,false,false,()),()):List au.D).take ((0:Int).toNat)).drop ((0:Int).toNat)),())) else none) else none) else none) else none) else none) else none) else none) else none)
 else (
 some ([],()))
def wl:Hints:=(n0 (nd (n0 (cu ⟨[],[none],none,[]⟩)) .none))
def qv:Ct:=.mut [.nil,.rd] true true (.pair .unit (.pair (.int .i64) .unit)) (.slice au) (fun x=>fX x.1 x.2.1)
theorem o0:KC 316 qv:=mq En wl Tryz.func316
def cf (a0:(List (List au.D))):(Int×Int)→Option ((Int×Int)⊕(Int×Int)):=fun s1 =>
 bif decide (s1.2 < (a0.length:Int)) then (
 idx a0 s1.2 fun x2 =>
 bif decide ((IntKind.wrap .i64 (s1.1 + (x2.length:Int))) < 0) then (
 none)
 else (
 some (.inl (IntKind.wrap .i64 (s1.1 + (x2.length:Int)),IntKind.wrap .i64 (s1.2 + 1)))))
 else (
 some (.inr s1))
def cg (a0:(List (List au.D))):((List au.D)×Int)→Option (((List au.D)×Int)⊕((List au.D)×Int)):=fun s5 =>
 bif decide (s5.2 < (a0.length:Int)) then (
 idx a0 s5.2 fun x6 =>
 if (s5.1.length + x6.length) * (24 * 23)≤aI then (
 some (.inl ((s5.1++x6),IntKind.wrap .i64 (s5.2 + 1)))) else none)
 else (
 some (.inr s5))
def fg (a0:(List (List au.D))):Option (List au.D) :=
(ay (cf a0) (0,0)).bind fun o3 =>
(fX () o3.1).bind fun y4 =>
(ay (cg a0) (y4.1,0)).bind fun o7 =>
 some o7.1
def t7:Hints:=(n0 (n0 (nd (n0 (nd (.node none (some ⟨[.tmp 3 (.int .i64),.tmp 11 (.int .i64)],[some 0],none,[]⟩) .none .none) .none)) (n0 (nd (n0 (nd (.node none (some ⟨[.tmpO 6 0 (.slice au),.tmp 27 (.int .i64)],[some 2],none,[]⟩) .none .none) .none)) .none)))))
def nV:Ct:=.pure true true (.pair (.slice (.slice au)) .unit) (.slice au) (fun x=>fg x.1)
theorem nv:KC 218 nV:=pq (Ec o0 En) t7 Tryz.func218
def uT (a0:aK.D) (a1:(List ah.D)):Option (aK.D×Unit) :=
(ly a0.1 a0.2.1 a1 a0.2.2.1).bind fun y1 =>
(uQ a0.1 y1.1).bind fun y2 =>
(md y2.1).bind fun y3 =>
(wj a0.1 y2.2.1).bind fun y4 =>
(nq y3.1 y4 y1.2.2.1).bind fun y5 =>
(wj y2.1 y3.2.1).bind fun y6 =>
(nq y3.1 y6 y5.2.1).bind fun y7 =>
(qs y1.2.1 y3.1.2.2.2.1).bind fun y8 =>
(dY [a0.2.2.2.1,y5.1,y7.1]).bind fun y9 =>
(fg [a0.2.2.2.2.1,y2.2.1,y3.2.1]).bind fun y10 =>
 if (a0.2.2.2.2.2.1.length + y1.2.2.2.1.length) * (24 * 14)≤aI then (
 some ((y3.1,y8,y7.2.1,y9,y10,(a0.2.2.2.2.2.1++y1.2.2.2.1),()),())) else none
def A3:Ct:=.mut [.tk,.rd] true true (.pair aK (.pair (.slice ah) .unit)) aK (fun x=>uT x.1 x.2.1)
theorem zR:KC 94 A3:=mq (Ec vu (Ec qt (Ec zM (Ec zN (Ec yy (Ec Cn (Ec kL (Ec nv En)))))))) .none Tryz.func94
def nx (a0:aK.D) (a1:bm.D):Option (aK.D×(Bool×Unit)) :=
(kH a0).bind fun y1 =>
(qm y1).bind fun y2 =>
 bif (!y2) then (
 some (y1,false,()))
 else (
((bif (a1.1 == 1) then (
(rH y1.2.1 a1.2.1).bind fun y3 =>
 some (.inl (y3.2.1,(y1.1,y3.1,y1.2.2),([],[],0,0,()),[],[],[],[],[],())))
 else (
((bif (a1.1 == 2) then (
(Au y1.2.1 a1.2.2.1).bind fun y4 =>
 some (.inl (y4.2.1,(y1.1,y4.1,y1.2.2),([],[],0,0,()),[],[],[],[],[],())))
 else (
((bif (a1.1 == 3) then (
(ng a1.2.2.2.1).bind fun y5 =>
 bif (!y5) then (
 some (.inr ((false,y1))))
 else (
(uT y1 a1.2.2.2.1).bind fun y6 =>
 some (.inl (true,(([],[],0,0,()),[],[],[],[],[],()),y6.1))))
 else (
((bif (a1.1 == 4) then (
 bif (y1.1.2.2.2.1 == 9999) then (
 some (.inr ((false,y1))))
 else (
(ic y1.1).bind fun y7 =>
 idx y7 1 fun _ =>
(y7[(1:Int).toNat]?).bind fun x8 =>
(qs y1.2.1 (IntKind.wrap .i64 (y1.1.2.2.2.1 + 1))).bind fun y9 =>
 some (.inl (true,(([],[],0,0,()),[],[],[],[],[],()),(y1.1.1,y1.1.2.1,x8,IntKind.wrap .i64 (y1.1.2.2.2.1 + 1),()),y9,y1.2.2))))
 else (
 some (.inl (false,(([],[],0,0,()),[],[],[],[],[],()),y1)))):Option ((Bool×(aK.D×(ae.D×((List aa.D)×((List Int)×((List ai.D)×((List au.D)×((List aF.D)×Unit))))))))⊕(Bool×(ae.D×((List aa.D)×((List Int)×((List ai.D)×((List au.D)×((List aF.D)×Unit))))))))).bind fun o10 =>
 match o10 with
| .inl s11=>(
 some (.inl s11))
| .inr o12=>(
 some (.inr o12)))):Option ((Bool×(aK.D×(ae.D×((List aa.D)×((List Int)×((List ai.D)×((List au.D)×((List aF.D)×Unit))))))))⊕(Bool×(ae.D×((List aa.D)×((List Int)×((List ai.D)×((List au.D)×((List aF.D)×Unit))))))))).bind fun o13 =>
 match o13 with
| .inl s14=>(
 some (.inl (s14.1,s14.2.2,s14.2.1)))
| .inr o15=>(
 some (.inr o15)))):Option ((Bool×(aK.D×(ae.D×((List aa.D)×((List Int)×((List ai.D)×((List au.D)×((List aF.D)×Unit))))))))⊕(Bool×(ae.D×((List aa.D)×((List Int)×((List ai.D)×((List au.D)×((List aF.D)×Unit))))))))).bind fun o16 =>
 match o16 with
| .inl s17=>(
 some (.inl s17))
| .inr o18=>(
 some (.inr o18)))):Option ((Bool×(aK.D×(ae.D×((List aa.D)×((List Int)×((List ai.D)×((List au.D)×((List aF.D)×Unit))))))))⊕(Bool×(ae.D×((List aa.D)×((List Int)×((List ai.D)×((List au.D)×((List aF.D)×Unit))))))))).bind fun o19 =>
 match o19 with
| .inl s20=>(
 some (s20.2.1,s20.1,()))
| .inr o21=>(
 some (o21.2,o21.1,())))
def IP:Hints:=(n0 (n0 (n0 (n0 (nd (n0 (nd (n0 (.node (some ⟨[.tmp 6 .bool,.boxO 2 0 1 aK,.boxO 4 0 1 aK],[none],some [.tmp 5 .bool,.boxO 4 0 1 aK],[(2,0),(4,0),(8,0),(8,1),(8,2),(8,3),(8,4),(8,5),(8,6)]⟩) none .none (n0 (.node (some ⟨[.tmp 6 .bool,.boxO 2 0 1 aK,.boxO 4 0 1 aK],[none],some [.tmp 5 .bool,.boxO 4 0 1 aK],[(2,0),(4,0),(8,0),(8,1),(8,2),(8,3),(8,4),(8,5),(8,6)]⟩) none .none (n0 (.node (some ⟨[.tmp 6 .bool,.boxO 4 0 1 aK,.boxO 2 0 1 aK],[none],some [.tmp 5 .bool,.boxO 4 0 1 aK],[(4,0),(8,0),(2,0),(8,1),(8,2),(8,3),(8,4),(8,5),(8,6)]⟩) none .none (n0 (cu ⟨[.tmp 6 .bool,.boxO 4 0 1 aK,.boxO 2 0 1 aK],[none],some [.tmp 5 .bool,.boxO 4 0 1 aK],[(4,0),(2,0),(8,0),(8,1),(8,2),(8,3),(8,4),(8,5),(8,6)]⟩)))))))) .none)) .none)))))
def zS:Ct:=.pure false true (.pair aK (.pair bm .unit)) (.pair aK (.pair .bool .unit)) (fun x=>nx x.1 x.2.1)
theorem yz:KC 12 zS:=pq (Ec zB (Ec yd (Ec m8 (Ec yt (Ec Ca (Ec zR (Ec me (Ec qt En)))))))) IP Tryz.func12
def ny (a1:(List bm.D)):(Int×(Int×(ae.D×((List aa.D)×((List Int)×((List ai.D)×((List au.D)×((List aF.D)×Unit))))))))→Option ((Int×(Int×(ae.D×((List aa.D)×((List Int)×((List ai.D)×((List au.D)×((List aF.D)×Unit))))))))⊕(Int×(Int×(ae.D×((List aa.D)×((List Int)×((List ai.D)×((List au.D)×((List aF.D)×Unit))))))))):=fun s3 =>
 bif decide (s3.2.1 < (((a1.take (if 12 < (a1.length:Int) then 12 else (a1.length:Int)).toNat).drop (0:Int).toNat).length:Int)) then (
 idx ((a1.take (if 12 < (a1.length:Int) then 12 else (a1.length:Int)).toNat).drop (0:Int).toNat) s3.2.1 fun x4 =>
(nx s3.2.2 x4).bind fun y5 =>
 bif y5.2.1 then (
 some (.inl (IntKind.wrap .i64 (s3.1 + 1),IntKind.wrap .i64 (s3.2.1 + 1),y5.1)))
 else (
 some (.inl (s3.1,IntKind.wrap .i64 (s3.2.1 + 1),y5.1))))
 else (
 some (.inr s3))
def pa (a0:aK.D) (a1:(List bm.D)):Option (aK.D×(Int×Unit)) :=
(kH a0).bind fun y1 =>
 if 0≤(0:Int) then (if (0:Int)≤(if 12 < (a1.length:Int) then 12 else (a1.length:Int)) then (if (if 12 < (a1.length:Int) then 12 else (a1.length:Int))≤(a1.length:Int) then (
(ay (ny a1) (0,0,y1)).bind fun o6 =>
 some (o6.2.2,o6.1,())) else none) else none) else none
def Ok:Hints:=(n0 (n0 (n0 (nd (n0 (nd (.node none (some ⟨[.tmp 6 (.int .i64),.tmp 19 (.int .i64),.boxO 2 0 1 aK],[some 0],none,[]⟩) .none .none) .none)) .none))))
def DK:Ct:=.pure false true (.pair aK (.pair (.slice bm) .unit)) (.pair aK (.pair (.int .i64) .unit)) (fun x=>pa x.1 x.2.1)
theorem Co:KC 35 DK:=pq (Ec yz (Ec m8 En)) Ok Tryz.func35
def nz (a1:(List bm.D)):(Int×(Int×(ae.D×((List aa.D)×((List Int)×((List ai.D)×((List au.D)×((List aF.D)×Unit))))))))→Option ((Int×(Int×(ae.D×((List aa.D)×((List Int)×((List ai.D)×((List au.D)×((List aF.D)×Unit))))))))⊕(Int×(Int×(ae.D×((List aa.D)×((List Int)×((List ai.D)×((List au.D)×((List aF.D)×Unit))))))))):=fun s3 =>
((bif decide (s3.2.1 < (a1.length:Int)) then (
 some (decide (s3.2.1 < 12)))
 else (
 some false)):Option Bool).bind fun o4 =>
 bif o4 then (
 idx a1 s3.2.1 fun x5 =>
(mV s3.2.2 x5).bind fun y6 =>
((bif y6.2.1 then (
 some (IntKind.wrap .i64 (s3.1 + 1)))
 else (
 some s3.1)):Option Int).bind fun o7 =>
 some (.inl (o7,IntKind.wrap .i64 (s3.2.1 + 1),y6.1)))
 else (
 some (.inr s3))
def wm (a0:aK.D) (a1:(List bm.D)):Option (aK.D×(Int×Unit)) :=
(mN a0).bind fun y1 =>
(ay (nz a1) (0,0,y1)).bind fun o8 =>
 some (o8.2.2,o8.1,())
def Ol:Hints:=(n0 (n0 (n0 (nd (n0 (nd (.node none (some ⟨[.tmp 7 (.int .i64),.tmp 8 (.int .i64),.boxO 6 0 1 aK],[some 0],none,[]⟩) (nd (nd (cu ⟨[.tmp 20 .bool],[none],none,[]⟩) .none) (nd (nd (n0 (n0 (n0 (cu ⟨[.tmp 7 (.int .i64)],[none],none,[]⟩)))) .none) .none)) .none) .none)) .none))))
def uU:Ct:=.pure false true (.pair aK (.pair (.slice bm) .unit)) (.pair aK (.pair (.int .i64) .unit)) (fun x=>wm x.1 x.2.1)
theorem tB:KC 33 uU:=pq (Ec ot (Ec ol En)) Ol Tryz.func33
def xq (a0:al.D):Option (Int×(al.D×Unit)) :=
(aG a0 ([(-1),0,1,2,255,256,65535,2147483647,2147483648,4294967295,4294967296,(-2147483648),9223372036854775807,(-9223372036854775808)]:List Int)).bind fun y1 =>
 some (y1.1,y1.2)
def DL:Ct:=.mut [.ptr] true true (.pair al .unit) (.int .i64) (fun x=>xq x.1)
theorem Ku:cS Tryz.prog 301 DL:=dL (E:={ T:=tab,G:=[(198,bi)],V:=[4] }) (ar.views (ar.cons bg (ar.nil dJ))) mixed (fn:=Tryz.f301) _ _ _ _ _ _ .none Tryz.func301 (by kernel_rfl) (fun x=>by kernel_rfl)
def eI (a0:al.D):Option (Int×(al.D×Unit)) :=
(bF a0 2).bind fun y1 =>
 bif y1.1 then (
(xq y1.2.1).bind fun y2 =>
 some (y2.1,y2.2))
 else (
(aG y1.2.1 ([(-2147483648),(-2147483647),(-3),(-1),0,1,3,7,2147483647,2147483648]:List Int)).bind fun y3 =>
 some (y3.1,y3.2))
def fF:Ct:=.mut [.ptr] true true (.pair al .unit) (.int .i64) (fun x=>eI x.1)
theorem fM:cS Tryz.prog 201 fF:=dL (E:={ T:=tab,G:=[(103,eM),(198,bi),(301,DL)],V:=[8] }) (ar.views (ar.cons dN (ar.cons bg (ar.cons Ku (ar.nil dJ))))) mixed (fn:=Tryz.f201) _ _ _ _ _ _ .none Tryz.func201 (by kernel_rfl) (fun x=>by kernel_rfl)
def tC (a0:al.D):Option (aj.D×(al.D×Unit)) :=
(aN a0 9).bind fun y1 =>
(io y1.2.1 (IntKind.wrap .i64 (1 + y1.1))).bind fun y2 =>
(aN y2.2.1 20).bind fun y3 =>
 bif (y3.1 == 0) then (
(aG y3.2.1 ([0,99,100]:List Int)).bind fun y4 =>
 some ((y4.1,y2.1.2),y4.2))
 else (
 bif (y3.1 == 1) then (
(aG y3.2.1 ([(-1),2,3]:List Int)).bind fun y5 =>
 some ((y2.1.1,y5.1,y2.1.2.2),y5.2))
 else (
 bif (y3.1 == 2) then (
(aG y3.2.1 ([(-1),2,3]:List Int)).bind fun y6 =>
 some ((y2.1.1,y2.1.2.1,y6.1,y2.1.2.2.2),y6.2))
 else (
 bif (y3.1 == 3) then (
(aG y3.2.1 ([0,1,4,5]:List Int)).bind fun y7 =>
 some ((y2.1.1,y2.1.2.1,y2.1.2.2.1,y7.1,y2.1.2.2.2.2),y7.2))
 else (
 bif (y3.1 == 4) then (
(aG y3.2.1 ([(-1),9999,10000]:List Int)).bind fun y8 =>
 some ((y2.1.1,y2.1.2.1,y2.1.2.2.1,y2.1.2.2.2.1,y8.1,y2.1.2.2.2.2.2),y8.2))
 else (
 bif (y3.1 == 5) then (
(aG y3.2.1 ([(-1),999,1000]:List Int)).bind fun y9 =>
 some ((y2.1.1,y2.1.2.1,y2.1.2.2.1,y2.1.2.2.2.1,y2.1.2.2.2.2.1,y9.1,y2.1.2.2.2.2.2.2),y9.2))
 else (
 bif (y3.1 == 6) then (
(aG y3.2.1 ([(-1),999,1000]:List Int)).bind fun y10 =>
 some ((y2.1.1,y2.1.2.1,y2.1.2.2.1,y2.1.2.2.2.1,y2.1.2.2.2.2.1,y2.1.2.2.2.2.2.1,y10.1,y2.1.2.2.2.2.2.2.2),y10.2))
 else (
 bif (y3.1 == 7) then (
(aG y3.2.1 ([(-1),63,64]:List Int)).bind fun y11 =>
 some ((y2.1.1,y2.1.2.1,y2.1.2.2.1,y2.1.2.2.2.1,y2.1.2.2.2.2.1,y2.1.2.2.2.2.2.1,y2.1.2.2.2.2.2.2.1,y11.1,y2.1.2.2.2.2.2.2.2.2),y11.2))
 else (
 bif (y3.1 == 8) then (
(eI y3.2.1).bind fun y12 =>
 some ((y2.1.1,y2.1.2.1,y2.1.2.2.1,y2.1.2.2.2.1,y2.1.2.2.2.2.1,y2.1.2.2.2.2.2.1,y2.1.2.2.2.2.2.2.1,y2.1.2.2.2.2.2.2.2.1,y12.1,y2.1.2.2.2.2.2.2.2.2.2),y12.2))
 else (
 bif (y3.1 == 9) then (
(eI y3.2.1).bind fun y13 =>
 some ((y2.1.1,y2.1.2.1,y2.1.2.2.1,y2.1.2.2.2.1,y2.1.2.2.2.2.1,y2.1.2.2.2.2.2.1,y2.1.2.2.2.2.2.2.1,y2.1.2.2.2.2.2.2.2.1,y2.1.2.2.2.2.2.2.2.2.1,y13.1,y2.1.2.2.2.2.2.2.2.2.2.2),y13.2))
 else (
 bif (y3.1 == 10) then (
(eI y3.2.1).bind fun y14 =>
 some ((y2.1.1,y2.1.2.1,y2.1.2.2.1,y2.1.2.2.2.1,y2.1.2.2.2.2.1,y2.1.2.2.2.2.2.1,y2.1.2.2.2.2.2.2.1,y2.1.2.2.2.2.2.2.2.1,y2.1.2.2.2.2.2.2.2.2.1,y2.1.2.2.2.2.2.2.2.2.2.1,y14.1,y2.1.2.2.2.2.2.2.2.2.2.2.2),y14.2))
 else (
 bif (y3.1 == 11) then (
 some ((y2.1.1,y2.1.2.1,y2.1.2.2.1,y2.1.2.2.2.1,y2.1.2.2.2.2.1,y2.1.2.2.2.2.2.1,y2.1.2.2.2.2.2.2.1,y2.1.2.2.2.2.2.2.2.1,y2.1.2.2.2.2.2.2.2.2.1,y2.1.2.2.2.2.2.2.2.2.2.1,y2.1.2.2.2.2.2.2.2.2.2.2.1,true,y2.1.2.2.2.2.2.2.2.2.2.2.2.2),y3.2))
 else (
 some (y2.1,y3.2)))))))))))))
def xv:Ct:=.mut [.ptr] true true (.pair al .unit) aj (fun x=>tC x.1)
theorem Bw:cS Tryz.prog 261 xv:=dL (E:={ T:=tab,G:=[(88,bb),(198,bi),(201,fF),(262,iV)],V:=[14,20,26,32,38,44,50,56] }) (ar.views (ar.cons aR (ar.cons bg (ar.cons fM (ar.cons jx (ar.nil dJ)))))) mixed (fn:=Tryz.f261) _ _ _ _ _ _ .none Tryz.func261 (by kernel_rfl) (fun x=>by kernel_rfl)
def Bx:(Int×(al.D×((List aj.D)×((List aB.D)×(Int×(Int×Unit))))))→Option ((Int×(al.D×((List aj.D)×((List aB.D)×(Int×(Int×Unit))))))⊕(Int×(al.D×((List aj.D)×((List aB.D)×(Int×(Int×Unit))))))):=fun s15 =>
 bif decide (s15.1 < 46) then (
(io s15.2.1 s15.1).bind fun y16 =>
 if (s15.2.2.1.length + [y16.1].length) * (24 * 13)≤aI then (
 some (.inl (IntKind.wrap .i64 (s15.1 + 1),y16.2.1,(s15.2.2.1++[y16.1]),s15.2.2.2))) else none)
 else (
 some (.inr s15))
def pb (a0:al.D):Option (ae.D×(al.D×Unit)) :=
(ip a0).bind fun y1 =>
(aN y1.2.1 18).bind fun y2 =>
 bif (y2.1 == 0) then (
(aG y2.2.1 ([(-1),2,3]:List Int)).bind fun y3 =>
 some ((y1.1.1,y1.1.2.1,y3.1,y1.1.2.2.2),y3.2))
 else (
 bif (y2.1 == 1) then (
(aG y2.2.1 ([(-1),0,9999,10000]:List Int)).bind fun y4 =>
 some ((y1.1.1,y1.1.2.1,y1.1.2.2.1,y4.1,()),y4.2))
 else (
 bif (y2.1 == 2) then (
(eI y2.2.1).bind fun y5 =>
 if (y1.1.2.1.length + [(y5.1,0,false,())].length) * (24 * 3)≤aI then (
 some ((y1.1.1,(y1.1.2.1++[(y5.1,0,false,())]),y1.1.2.2),y5.2)) else none)
 else (
 bif (y2.1 == 3) then (
(eI y2.2.1).bind fun y6 =>
 idx y1.1.2.1 0 fun _ =>
(y1.1.2.1[(0:Int).toNat]?).bind fun x7 =>
 let u8:(List aB.D):=y1.1.2.1.set (0:Int).toNat (x7.1,y6.1,x7.2.2)
 some ((y1.1.1,u8,y1.1.2.2),y6.2))
 else (
 bif (y2.1 == 4) then (
(tC y2.2.1).bind fun y9 =>
 if (y1.1.1.length + [y9.1].length) * (24 * 13)≤aI then (
 some (((y1.1.1++[y9.1]),y1.1.2),y9.2)) else none)
 else (
 bif (y2.1 == 5) then (
 if 0≤(0:Int) then (if (0:Int)≤(1:Int) then (if (1:Int)≤(y1.1.2.1.length:Int) then (
 some ((y1.1.1,((y1.1.2.1.take ((1:Int).toNat)).drop ((0:Int).toNat)),y1.1.2.2),y2.2)) else none) else none) else none)
 else (
 bif (y2.1 == 6) then (
(tC y2.2.1).bind fun y10 =>
 idx y1.1.1 0 fun _ =>
(y1.1.1[(0:Int).toNat]?).bind fun x11 =>
 let u12:(List aj.D):=y1.1.1.set (0:Int).toNat y10.1
 some ((u12,y1.1.2),y10.2))
 else (
 bif (y2.1 == 7) then (
(ay (Bx) (40,y2.2.1,y1.1)).bind fun o17 =>
 some (o17.2.2,(o17.2.1,())))
 else (
 some (y1.1,y2.2)))))))))
def DM:Hints:=(n0 (n0 (nd (n0 (nd (n0 (n0 (n0 (n0 (n0 (n0 (n0 (n0 (n0 (n0 (n0 (n0 (n0 (n0 (n0 (nd (n0 (nd (.node none (some ⟨[.tmp 4 (.int .i64),.box 0 0 al,.boxO 3 0 1 ae],[some 1],none,[]⟩) .none .none) .none)) .none)))))))))))))))) .none)) .none)))
def MK:Ct:=.mut [.ptr] true false (.pair al .unit) ae (fun x=>pb x.1)
theorem Kv:cS Tryz.prog 148 MK:=dL (E:={ T:=tab,G:=[(88,bb),(175,kl),(198,bi),(201,fF),(261,xv),(262,iV)],V:=[12,18] }) (ar.views (ar.cons aR (ar.cons pW (ar.cons bg (ar.cons fM (ar.cons Bw (ar.cons jx (ar.nil dJ)))))))) mixed (fn:=Tryz.f148) _ _ _ _ _ _ DM Tryz.func148 (by kernel_rfl) (fun x=>by kernel_rfl)
def tD:Ct:=.mut [.ptr] true true (.pair al .unit) ae (fun x=>pb x.1)
theorem A4:cS Tryz.prog 148 tD:=dL (E:={ T:=tab,G:=[(88,bb),(175,kl),(198,bi),(201,fF),(261,xv),(262,iV)],V:=[12,18] }) (ar.views (ar.cons aR (ar.cons pW (ar.cons bg (ar.cons fM (ar.cons Bw (ar.cons jx (ar.nil dJ)))))))) mixed (fn:=Tryz.f148) _ _ _ _ _ _ DM Tryz.func148 (by kernel_rfl) (fun x=>by kernel_rfl)
def xw (a0:al.D) (a1:ae.D):Option (dr.D×(al.D×Unit)) :=
(jy a0 a1).bind fun y1 =>
(aN y1.2.1 16).bind fun y2 =>
 bif (y2.1 == 0) then (
(aG y2.2.1 ([0,1,2,3,7]:List Int)).bind fun y3 =>
 some ((y3.1,y1.1.2),y3.2))
 else (
 bif (y2.1 == 1) then (
(aG y2.2.1 ([(-1),3]:List Int)).bind fun y4 =>
 some ((y1.1.1,y4.1,y1.1.2.2),y4.2))
 else (
 bif (y2.1 == 2) then (
(aG y2.2.1 ([(-1),1,99,100]:List Int)).bind fun y5 =>
 some ((y1.1.1,y1.1.2.1,y5.1,y1.1.2.2.2),y5.2))
 else (
 bif (y2.1 == 3) then (
(aG y2.2.1 ([(-1),1,63,64]:List Int)).bind fun y6 =>
 some ((y1.1.1,y1.1.2.1,y1.1.2.2.1,y6.1,y1.1.2.2.2.2),y6.2))
 else (
 bif (y2.1 == 4) then (
(aG y2.2.1 ([(-1),1,100]:List Int)).bind fun y7 =>
 some ((y1.1.1,y1.1.2.1,y1.1.2.2.1,y1.1.2.2.2.1,y7.1,y1.1.2.2.2.2.2),y7.2))
 else (
 bif (y2.1 == 5) then (
(eI y2.2.1).bind fun y8 =>
 some ((y1.1.1,y1.1.2.1,y1.1.2.2.1,y1.1.2.2.2.1,y1.1.2.2.2.2.1,y8.1,y1.1.2.2.2.2.2.2),y8.2))
 else (
 bif (y2.1 == 6) then (
(aG y2.2.1 ([(-1),2,5]:List Int)).bind fun y9 =>
 some ((y1.1.1,y1.1.2.1,y1.1.2.2.1,y1.1.2.2.2.1,y1.1.2.2.2.2.1,y1.1.2.2.2.2.2.1,y9.1,()),y9.2))
 else (
 some (y1.1,y2.2))))))))
def DN:Ct:=.mut [.ptr,.rd] true true (.pair al (.pair ae .unit)) dr (fun x=>xw x.1 x.2.1)
theorem Kw:cS Tryz.prog 202 DN:=dL (E:={ T:=tab,G:=[(88,bb),(198,bi),(201,fF),(298,pz)],V:=[14,20,26,32,38,49] }) (ar.views (ar.cons aR (ar.cons bg (ar.cons fM (ar.cons sJ (ar.nil dJ)))))) mixed (fn:=Tryz.f202) _ _ _ _ _ _ .none Tryz.func202 (by kernel_rfl) (fun x=>by kernel_rfl)
def xx (a0:al.D):Option (bU.D×(al.D×Unit)) :=
(jz a0).bind fun y1 =>
(aN y1.2.1 8).bind fun y2 =>
 bif (y2.1 == 0) then (
(aG y2.2.1 ([(-1),1,2,3,4,5]:List Int)).bind fun y3 =>
 some ((y3.1,y1.1.2),y3.2))
 else (
 bif (y2.1 == 1) then (
(eI y2.2.1).bind fun y4 =>
 some ((y1.1.1,y4.1,()),y4.2))
 else (
 bif (y2.1 == 2) then (
(aG y2.2.1 ([1,8,9,(-1)]:List Int)).bind fun y5 =>
 some ((y1.1.1,y5.1,()),y5.2))
 else (
 some (y1.1,y2.2))))
def DO:Ct:=.mut [.ptr] true true (.pair al .unit) bU (fun x=>xx x.1)
theorem Kx:cS Tryz.prog 203 DO:=dL (E:={ T:=tab,G:=[(88,bb),(198,bi),(201,fF),(299,pA)],V:=[11,22] }) (ar.views (ar.cons aR (ar.cons bg (ar.cons fM (ar.cons sK (ar.nil dJ)))))) mixed (fn:=Tryz.f203) _ _ _ _ _ _ .none Tryz.func203 (by kernel_rfl) (fun x=>by kernel_rfl)
def tE (a0:al.D) (a1:ae.D):Option (ah.D×(al.D×Unit)) :=
(d8 a0 a1).bind fun y1 =>
(aN y1.2.1 16).bind fun y2 =>
 bif (y2.1 == 0) then (
(aG y2.2.1 ([0,1,2,3,5,7]:List Int)).bind fun y3 =>
 some ((y3.1,y1.1.2),y3.2))
 else (
 bif (y2.1 == 1) then (
(aG y2.2.1 ([0,1,99,100]:List Int)).bind fun y4 =>
 some ((y1.1.1,y4.1,y1.1.2.2),y4.2))
 else (
 bif (y2.1 == 2) then (
(aG y2.2.1 ([0,99,100,(-1)]:List Int)).bind fun y5 =>
 some ((y1.1.1,y1.1.2.1,y5.1,y1.1.2.2.2),y5.2))
 else (
 bif (y2.1 == 3) then (
(aG y2.2.1 ([(-2),(-1),0,2,3]:List Int)).bind fun y6 =>
 some ((y1.1.1,y1.1.2.1,y1.1.2.2.1,y6.1,y1.1.2.2.2.2),y6.2))
 else (
 bif (y2.1 == 4) then (
(eI y2.2.1).bind fun y7 =>
 some ((y1.1.1,y1.1.2.1,y1.1.2.2.1,y1.1.2.2.2.1,y7.1,y1.1.2.2.2.2.2),y7.2))
 else (
 bif (y2.1 == 5) then (
(aG y2.2.1 ([0,2,4,5]:List Int)).bind fun y8 =>
 some ((y1.1.1,y1.1.2.1,y1.1.2.2.1,y1.1.2.2.2.1,y1.1.2.2.2.2.1,y8.1,y1.1.2.2.2.2.2.2),y8.2))
 else (
 bif (y2.1 == 6) then (
 some ((y1.1.1,y1.1.2.1,y1.1.2.2.1,y1.1.2.2.2.1,y1.1.2.2.2.2.1,y1.1.2.2.2.2.2.1,(!y1.1.2.2.2.2.2.2.1),()),y2.2))
 else (
 some (y1.1,y2.2))))))))
def xy:Ct:=.mut [.ptr,.rd] true true (.pair al (.pair ae .unit)) ah (fun x=>tE x.1 x.2.1)
theorem By:cS Tryz.prog 89 xy:=dL (E:={ T:=tab,G:=[(88,bb),(178,pB),(198,bi),(201,fF)],V:=[14,20,26,32,43] }) (ar.views (ar.cons aR (ar.cons mK (ar.cons bg (ar.cons fM (ar.nil dJ)))))) mixed (fn:=Tryz.f89) _ _ _ _ _ _ .none Tryz.func89 (by kernel_rfl) (fun x=>by kernel_rfl)
def xA (a0:al.D) (a1:ae.D):Option (bR.D×(al.D×Unit)) :=
(aN a0 6).bind fun y1 =>
(jA y1.2.1 a1 (IntKind.wrap .i64 (1 + y1.1))).bind fun y2 =>
(aN y2.2.1 18).bind fun y3 =>
 bif (y3.1 == 0) then (
(aG y3.2.1 ([0,1,3,6,7,8,9,10]:List Int)).bind fun y4 =>
 some ((y4.1,y2.1.2),y4.2))
 else (
 bif (y3.1 == 1) then (
(eI y3.2.1).bind fun y5 =>
 some ((y2.1.1,y5.1,y2.1.2.2),y5.2))
 else (
 bif (y3.1 == 2) then (
(aG y3.2.1 ([0,1,99,100]:List Int)).bind fun y6 =>
 some ((y2.1.1,y2.1.2.1,y6.1,y2.1.2.2.2),y6.2))
 else (
 bif (y3.1 == 3) then (
(aG y3.2.1 ([(-2),0,2,3]:List Int)).bind fun y7 =>
 some ((y2.1.1,y2.1.2.1,y2.1.2.2.1,y7.1,y2.1.2.2.2.2),y7.2))
 else (
 bif (y3.1 == 4) then (
(aG y3.2.1 ([0,4,5]:List Int)).bind fun y8 =>
 some ((y2.1.1,y2.1.2.1,y2.1.2.2.1,y2.1.2.2.2.1,y8.1,y2.1.2.2.2.2.2),y8.2))
 else (
 bif (y3.1 == 5) then (
 some ((y2.1.1,y2.1.2.1,y2.1.2.2.1,y2.1.2.2.2.1,y2.1.2.2.2.2.1,(!y2.1.2.2.2.2.2.1),y2.1.2.2.2.2.2.2),y3.2))
 else (
 bif (y3.1 == 6) then (
(tE y3.2.1 a1).bind fun y9 =>
 if (y2.1.2.2.2.2.2.2.1.length + [y9.1].length) * (24 * 7)≤aI then (
 some ((y2.1.1,y2.1.2.1,y2.1.2.2.1,y2.1.2.2.2.1,y2.1.2.2.2.2.1,y2.1.2.2.2.2.2.1,(y2.1.2.2.2.2.2.2.1++[y9.1]),()),y9.2)) else none)
 else (
 bif (y3.1 == 7) then (
(d8 y3.2.1 a1).bind fun y10 =>
(d8 y10.2.1 a1).bind fun y11 =>
(d8 y11.2.1 a1).bind fun y12 =>
 if (y2.1.2.2.2.2.2.2.1.length + [y10.1,y11.1,y12.1].length) * (24 * 7)≤aI then (
 some ((y2.1.1,y2.1.2.1,y2.1.2.2.1,y2.1.2.2.2.1,y2.1.2.2.2.2.1,y2.1.2.2.2.2.2.1,(y2.1.2.2.2.2.2.2.1++[y10.1,y11.1,y12.1]),()),y12.2)) else none)
 else (
 some (y2.1,y3.2)))))))))
def tF:Ct:=.mut [.ptr,.rd] true true (.pair al (.pair ae .unit)) bR (fun x=>xA x.1 x.2.1)
theorem A5:cS Tryz.prog 204 tF:=dL (E:={ T:=tab,G:=[(88,bb),(89,xy),(178,pB),(198,bi),(201,fF),(300,gI)],V:=[17,28,34,40] }) (ar.views (ar.cons aR (ar.cons By (ar.cons mK (ar.cons bg (ar.cons fM (ar.cons jB (ar.nil dJ)))))))) mixed (fn:=Tryz.f204) _ _ _ _ _ _ .none Tryz.func204 (by kernel_rfl) (fun x=>by kernel_rfl)
def qw (a0:al.D) (a1:ae.D):Option (aa.D×(al.D×Unit)) :=
(aN a0 9).bind fun y1 =>
(cU y1.2.1 a1 (IntKind.wrap .i64 (1 + y1.1))).bind fun y2 =>
(aN y2.2.1 20).bind fun y3 =>
 bif (y3.1 == 0) then (
(aG y3.2.1 ([0,99,100]:List Int)).bind fun y4 =>
 some ((y4.1,y2.1.2),y4.2))
 else (
 bif (y3.1 == 1) then (
(aG y3.2.1 ([(-1),2,3]:List Int)).bind fun y5 =>
 some ((y2.1.1,y5.1,y2.1.2.2),y5.2))
 else (
 bif (y3.1 == 2) then (
(aG y3.2.1 ([(-1),0,99,100]:List Int)).bind fun y6 =>
 some ((y2.1.1,y2.1.2.1,y6.1,y2.1.2.2.2),y6.2))
 else (
 bif (y3.1 == 3) then (
(aG y3.2.1 ([(-1),0,5]:List Int)).bind fun y7 =>
 some ((y2.1.1,y2.1.2.1,y2.1.2.2.1,y7.1,y2.1.2.2.2.2),y7.2))
 else (
 bif (y3.1 == 4) then (
(xw y3.2.1 a1).bind fun y8 =>
 some ((y2.1.1,y2.1.2.1,y2.1.2.2.1,y2.1.2.2.2.1,y8.1,y2.1.2.2.2.2.2),y8.2))
 else (
 bif (y3.1 == 5) then (
(xx y3.2.1).bind fun y9 =>
 some ((y2.1.1,y2.1.2.1,y2.1.2.2.1,y2.1.2.2.2.1,y2.1.2.2.2.2.1,y9.1,y2.1.2.2.2.2.2.2),y9.2))
 else (
 bif (y3.1 == 6) then (
(xA y3.2.1 a1).bind fun y10 =>
 some ((y2.1.1,y2.1.2.1,y2.1.2.2.1,y2.1.2.2.2.1,y2.1.2.2.2.2.1,y2.1.2.2.2.2.2.1,y10.1,y2.1.2.2.2.2.2.2.2),y10.2))
 else (
 bif (y3.1 == 7) then (
(aG y3.2.1 ([(-2),0,9999,10000]:List Int)).bind fun y11 =>
 some ((y2.1.1,y2.1.2.1,y2.1.2.2.1,y2.1.2.2.2.1,y2.1.2.2.2.2.1,y2.1.2.2.2.2.2.1,y2.1.2.2.2.2.2.2.1,y11.1,y2.1.2.2.2.2.2.2.2.2),y11.2))
 else (
 bif (y3.1 == 8) then (
(aG y3.2.1 ([(-2),(-1),0,1,2147483648]:List Int)).bind fun y12 =>
 some ((y2.1.1,y2.1.2.1,y2.1.2.2.1,y2.1.2.2.2.1,y2.1.2.2.2.2.1,y2.1.2.2.2.2.2.1,y2.1.2.2.2.2.2.2.1,y2.1.2.2.2.2.2.2.2.1,y12.1,()),y12.2))
 else (
 some (y2.1,y3.2))))))))))
def A6:Ct:=.mut [.ptr,.rd] true true (.pair al (.pair ae .unit)) aa (fun x=>qw x.1 x.2.1)
theorem zT:cS Tryz.prog 90 A6:=dL (E:={ T:=tab,G:=[(88,bb),(198,bi),(199,jC),(202,DN),(203,DO),(204,tF)],V:=[17,23,29,35,58,64] }) (ar.views (ar.cons aR (ar.cons bg (ar.cons fV (ar.cons Kw (ar.cons Kx (ar.cons A5 (ar.nil dJ)))))))) mixed (fn:=Tryz.f90) _ _ _ _ _ _ .none Tryz.func90 (by kernel_rfl) (fun x=>by kernel_rfl)
def qx (a0:al.D) (a1:ae.D):Option ((List aa.D)×(al.D×Unit)) :=
(iA a0 a1).bind fun y1 =>
(aN y1.2.1 12).bind fun y2 =>
 bif (y2.1 == 0) then (
(qw y2.2.1 a1).bind fun y3 =>
 if (y1.1.length + [y3.1].length) * (24 * 22)≤aI then (
 some ((y1.1++[y3.1]),y3.2)) else none)
 else (
 bif (y2.1 == 1) then (
(cU y2.2.1 a1 50).bind fun y4 =>
(cU y4.2.1 a1 51).bind fun y5 =>
(cU y5.2.1 a1 52).bind fun y6 =>
 if (y1.1.length + [y4.1,y5.1,y6.1].length) * (24 * 22)≤aI then (
 some ((y1.1++[y4.1,y5.1,y6.1]),y6.2)) else none)
 else (
 bif (y2.1 == 2) then (
 bif decide ((y1.1.length:Int) > 0) then (
(qw y2.2.1 a1).bind fun y7 =>
 idx y1.1 0 fun _ =>
(y1.1[(0:Int).toNat]?).bind fun x8 =>
 let u9:(List aa.D):=y1.1.set (0:Int).toNat y7.1
 some (u9,y7.2))
 else (
 some (y1.1,y2.2)))
 else (
 some (y1.1,y2.2))))
def rl:Ct:=.mut [.ptr,.rd] true true (.pair al (.pair ae .unit)) (.slice aa) (fun x=>qx x.1 x.2.1)
theorem qy:KC 149 rl:=mq (Ec aR (Ec zT (Ec jd (Ec fV En)))) .none Tryz.func149
def rP (a0:al.D) (a1:ae.D):Option (aF.D×(al.D×Unit)) :=
(aN a0 5).bind fun y1 =>
(cU y1.2.1 a1 (IntKind.wrap .i64 (1 + y1.1))).bind fun y2 =>
(kD y2.2.1 a1 [y2.1]).bind fun y3 =>
(iC a1 y3.1).bind fun y4 =>
(aN y3.2.1 3).bind fun y5 =>
(sV y2.1 y3.1).bind fun y6 =>
(aN y5.2.1 (IntKind.wrap .i64 (1 + y5.1))).bind fun y7 =>
(aN y7.2.1 14).bind fun y8 =>
 bif (y8.1 == 0) then (
(aG y8.2.1 ([0,99,100]:List Int)).bind fun y9 =>
 some ((y9.1,y4,y7.1,IntKind.wrap .i64 (1 + y5.1),y3.1,y6.1,y6.2.1,0,()),y9.2))
 else (
 bif (y8.1 == 1) then (
(aG y8.2.1 ([(-1),3]:List Int)).bind fun y10 =>
 some ((y2.1.1,y10.1,y7.1,IntKind.wrap .i64 (1 + y5.1),y3.1,y6.1,y6.2.1,0,()),y10.2))
 else (
 bif (y8.1 == 2) then (
 some ((y2.1.1,y4,IntKind.wrap .i64 (1 + y5.1),IntKind.wrap .i64 (1 + y5.1),y3.1,y6.1,y6.2.1,0,()),y8.2))
 else (
 bif (y8.1 == 3) then (
(aG y8.2.1 ([0,5,6]:List Int)).bind fun y11 =>
 some ((y2.1.1,y4,y7.1,y11.1,y3.1,y6.1,y6.2.1,0,()),y11.2))
 else (
 bif (y8.1 == 4) then (
(tE y8.2.1 a1).bind fun y12 =>
 if (y6.1.length + [y12.1].length) * (24 * 7)≤aI then (
 some ((y2.1.1,y4,y7.1,IntKind.wrap .i64 (1 + y5.1),y3.1,(y6.1++[y12.1]),y6.2.1,0,()),y12.2)) else none)
 else (
 bif (y8.1 == 5) then (
(eI y8.2.1).bind fun y13 =>
 some ((y2.1.1,y4,y7.1,IntKind.wrap .i64 (1 + y5.1),y3.1,y6.1,y13.1,0,()),y13.2))
 else (
 bif (y8.1 == 6) then (
(aG y8.2.1 ([(-1),4,5]:List Int)).bind fun y14 =>
 some ((y2.1.1,y4,y7.1,IntKind.wrap .i64 (1 + y5.1),y3.1,y6.1,y6.2.1,y14.1,()),y14.2))
 else (
 some ((y2.1.1,y4,y7.1,IntKind.wrap .i64 (1 + y5.1),y3.1,y6.1,y6.2.1,0,()),y8.2))))))))
def qz:Ct:=.mut [.ptr,.rd] true true (.pair al (.pair ae .unit)) aF (fun x=>rP x.1 x.2.1)
theorem yA:cS Tryz.prog 197 qz:=dL (E:={ T:=tab,G:=[(88,bb),(89,xy),(198,bi),(199,zc),(201,fF),(268,lM),(270,sW),(286,xU)],V:=[17,48,54,65,86] }) (ar.views (ar.cons aR (ar.cons By (ar.cons bg (ar.cons F7 (ar.cons fM (ar.cons rg (ar.cons xX (ar.cons vT (ar.nil dJ)))))))))) mixed (fn:=Tryz.f197) _ _ _ _ _ _ .none Tryz.func197 (by kernel_rfl) (fun x=>by kernel_rfl)
def uV (a0:al.D):Option (aK.D×(al.D×Unit)) :=
(iq a0).bind fun y1 =>
(gW y1.2.1 y1.1 3).bind fun y2 =>
(wm y1.1 y2.1).bind fun y3 =>
(aN y2.2.1 12).bind fun y4 =>
 bif (y4.1 == 0) then (
(pb y4.2.1).bind fun y5 =>
 some ((y5.1,y3.1.2),y5.2))
 else (
 bif (y4.1 == 1) then (
(qx y4.2.1 y3.1.1).bind fun y6 =>
 some ((y3.1.1,y6.1,y3.1.2.2),y6.2))
 else (
 bif (y4.1 == 2) then (
(rP y4.2.1 y3.1.1).bind fun y7 =>
 if (y3.1.2.2.2.2.2.1.length + [y7.1].length) * (24 * 14)≤aI then (
 some ((y3.1.1,y3.1.2.1,y3.1.2.2.1,y3.1.2.2.2.1,y3.1.2.2.2.2.1,(y3.1.2.2.2.2.2.1++[y7.1]),()),y7.2)) else none)
 else (
 bif (y4.1 == 3) then (
 some (((y3.1.1.1,y3.1.1.2.1,y3.1.1.2.2.1,9999,()),y3.1.2),y4.2))
 else (
 some (y3.1,y4.2)))))
def Ky:Hints:=(n0 (n0 (nd (nd (cu ⟨[],[],none,[(5,0),(5,1),(5,2),(5,3),(5,4),(5,5),(5,6)]⟩) .none) (nd (nd (nd (cu ⟨[],[],none,[(11,0),(11,1)]⟩) .none) .none) .none))))
def Kz:Ct:=.mut [.ptr] true false (.pair al .unit) aK (fun x=>uV x.1)
theorem IQ:cS Tryz.prog 86 Kz:=dL (E:={ T:=tab,G:=[(33,uU),(88,bb),(146,rf),(147,mW),(148,tD),(149,rl),(197,qz)],Z:=true }) (ar.frz (ar.cons tB (ar.cons aR (ar.cons zh (ar.cons gX (ar.cons A4 (ar.cons qy (ar.cons yA (ar.nil dJ))))))))) mixed (fn:=Tryz.f86) _ _ _ _ _ _ Ky Tryz.func86 (by kernel_rfl) (fun x=>by kernel_rfl)
def pN (a0:(List Int)):Option (aK.D×((List bm.D)×Unit)) :=
(oG a0).bind fun y1 =>
(uV y1).bind fun y2 =>
(gW y2.2.1 y2.1 6).bind fun y3 =>
 some (y2.1,y3.1,())
def GG:Ct:=.pure false false (.pair (.slice (.int .u8)) .unit) (.pair aK (.pair (.slice bm) .unit)) (fun x=>pN x.1)
theorem Fb:KC 39 GG:=pq (Ec vk (Ec IQ (Ec gX En))) .none Tryz.func39
def j7 (a0:(List Int)):Option (ae.D×((List aa.D)×((List Int)×Unit))) :=
(oG a0).bind fun y1 =>
(pb y1).bind fun y2 =>
(qx y2.2.1 y2.1).bind fun y3 =>
(fu y3.2.1).bind fun y4 =>
 some (y2.1,y3.1,y4.1,())
def Cp:Ct:=.pure false false (.pair (.slice (.int .u8)) .unit) (.pair ae (.pair (.slice aa) (.pair (.slice (.int .i64)) .unit))) (fun x=>j7 x.1)
theorem A7:KC 40 Cp:=pq (Ec vk (Ec Kv (Ec qy (Ec BU En)))) .none Tryz.func40
def GX (a0:(List Int)) (a1:Int):Option Int :=
 bif decide (a1 < (a0.length:Int)) then (
 idx a0 a1 fun x1 =>
 some (IntKind.wrap .i64 x1))
 else (
 let k2:Int:=IntKind.wrap .i64 ((IntKind.wrap .i64 (a1 * 31)) + (IntKind.wrap .i64 ((a0.length:Int) * 7)))
 if 256=0 then none else (
 some (k2.tmod 256)))
def Q4:Ct:=.pure true false (.pair (.slice (.int .u8)) (.pair (.int .i64) .unit)) (.int .i64) (fun x=>GX x.1 x.2.1)
theorem PJ:KC 41 Q4:=pq En .none Tryz.func41
def rQ (a0:ae.D) (a1:(List aa.D)) (a2:(List Int)):Option aK.D :=
(cN a0).bind fun y1 =>
(b8 a1).bind fun y2 =>
(bw a2).bind fun y3 =>
 some (y1,y2,y3,[],[],[],())
def zU:Ct:=.pure true true (.pair ae (.pair (.slice aa) (.pair (.slice (.int .i64)) .unit))) aK (fun x=>rQ x.1 x.2.1 x.2.2.1)
theorem yB:KC 42 zU:=pq (Ec bH (Ec bv (Ec bz En))) .none Tryz.func42
def tG (a0:(List aj.D)) (a1:(List aj.D)):Int→Option (Int⊕(Int⊕Bool)):=fun s1 =>
 bif decide (s1 < (a0.length:Int)) then (
 idx a0 s1 fun x2 =>
 idx a1 s1 fun x3 =>
 bif (!((x2.1 == x3.1) && ((x2.2.1 == x3.2.1) && ((x2.2.2.1 == x3.2.2.1) && ((x2.2.2.2.1 == x3.2.2.2.1) && ((x2.2.2.2.2.1 == x3.2.2.2.2.1) && ((x2.2.2.2.2.2.1 == x3.2.2.2.2.2.1) && ((x2.2.2.2.2.2.2.1 == x3.2.2.2.2.2.2.1) && ((x2.2.2.2.2.2.2.2.1 == x3.2.2.2.2.2.2.2.1) && ((x2.2.2.2.2.2.2.2.2.1 == x3.2.2.2.2.2.2.2.2.1) && ((x2.2.2.2.2.2.2.2.2.2.1 == x3.2.2.2.2.2.2.2.2.2.1) && ((x2.2.2.2.2.2.2.2.2.2.2.1 == x3.2.2.2.2.2.2.2.2.2.2.1) && ((x2.2.2.2.2.2.2.2.2.2.2.2.1 == x3.2.2.2.2.2.2.2.2.2.2.2.1) && ((x2.2.2.2.2.2.2.2.2.2.2.2.2.1 == x3.2.2.2.2.2.2.2.2.2.2.2.2.1) && true)))))))))))))) then (
 some (.inr (.inr false)))
 else (
 some (.inl (IntKind.wrap .i64 (s1 + 1)))))
 else (
 some (.inr (.inl s1)))
def ie (a0:(List aj.D)) (a1:(List aj.D)):Option Bool :=
 bif ((a0.length:Int) != (a1.length:Int)) then (
 some false)
 else (
(ay (tG a0 a1) 0).bind fun o4 =>
 match o4 with
| .inl s5=>(
 some true)
| .inr o6=>(
 some o6))
def t9:Hints:=(n0 (n0 (nd (n0 (nd (.node none (some ⟨[.tmp 13 (.int .i64)],[some 0],some [.tmp 4 .bool],[]⟩) .none .none) .none)) .none)))
def ua:Ct:=.pure true false (.pair (.slice aj) (.pair (.slice aj) .unit)) .bool (fun x=>ie x.1 x.2.1)
theorem tH:KC 231 ua:=pq En t9 Tryz.func231
def ub (a0:(List aB.D)) (a1:(List aB.D)):Int→Option (Int⊕(Int⊕Bool)):=fun s1 =>
 bif decide (s1 < (a0.length:Int)) then (
 idx a0 s1 fun x2 =>
 idx a1 s1 fun x3 =>
 bif (!((x2.1 == x3.1) && ((x2.2.1 == x3.2.1) && ((x2.2.2.1 == x3.2.2.1) && true)))) then (
 some (.inr (.inr false)))
 else (
 some (.inl (IntKind.wrap .i64 (s1 + 1)))))
 else (
 some (.inr (.inl s1)))
def iJ (a0:(List aB.D)) (a1:(List aB.D)):Option Bool :=
 bif ((a0.length:Int) != (a1.length:Int)) then (
 some false)
 else (
(ay (ub a0 a1) 0).bind fun o4 =>
 match o4 with
| .inl s5=>(
 some true)
| .inr o6=>(
 some o6))
def vA:Hints:=(n0 (n0 (nd (n0 (nd (.node none (some ⟨[.tmp 13 (.int .i64)],[some 0],some [.tmp 4 .bool],[]⟩) .none .none) .none)) .none)))
def vB:Ct:=.pure true false (.pair (.slice aB) (.pair (.slice aB) .unit)) .bool (fun x=>iJ x.1 x.2.1)
theorem uc:KC 232 vB:=pq En vA Tryz.func232
def nA (a0:ae.D) (a1:ae.D):Option Bool :=
 bif (a0.2.2.1 == a1.2.2.1) then (
 bif (a0.2.2.2.1 == a1.2.2.2.1) then (
(ie a0.1 a1.1).bind fun y1 =>
 bif y1 then (
(iJ a0.2.1 a1.2.1).bind fun y2 =>
 some y2)
 else (
 some false))
 else (
 some false))
 else (
 some false)
def Fc:Ct:=.pure true false (.pair ae (.pair ae .unit)) .bool (fun x=>nA x.1 x.2.1)
theorem DP:KC 104 Fc:=pq (Ec tH (Ec uc En)) .none Tryz.func104
def nW (a0:(List aa.D)) (a1:(List aa.D)) (a2:((aa.D×(aa.D×Unit))→Option Bool)):Int→Option (Int⊕(Int⊕Bool)):=fun s1 =>
 bif decide (s1 < (a0.length:Int)) then (
 idx a0 s1 fun x2 =>
 idx a1 s1 fun x3 =>
(a2 (x2,x3,())).bind fun y4 =>
 bif (!y4) then (
 some (.inr (.inr false)))
 else (
 some (.inl (IntKind.wrap .i64 (s1 + 1)))))
 else (
 some (.inr (.inl s1)))
def fw (a0:(List aa.D)) (a1:(List aa.D)) (a2:((aa.D×(aa.D×Unit))→Option Bool)):Option Bool :=
 bif ((a0.length:Int) != (a1.length:Int)) then (
 some false)
 else (
(ay (nW a0 a1 a2) 0).bind fun o5 =>
 match o5 with
| .inl s6=>(
 some true)
| .inr o7=>(
 some o7))
def pd:Hints:=(n0 (n0 (nd (n0 (nd (.node none (some ⟨[.tmp 17 (.int .i64)],[some 0],some [.tmp 6 .bool],[]⟩) .none .none) .none)) .none)))
def pe:Ct:=.pure true false (.pair (.slice aa) (.pair (.slice aa) (.pair (.fn (.pair aa (.pair aa .unit)) .bool) .unit))) .bool (fun x=>fw x.1 x.2.1 x.2.2.1)
theorem nX:KC 195 pe:=pq En pd Tryz.func195
def tI (a0:(List ah.D)) (a1:(List ah.D)):Int→Option (Int⊕(Int⊕Bool)):=fun s1 =>
 bif decide (s1 < (a0.length:Int)) then (
 idx a0 s1 fun x2 =>
 idx a1 s1 fun x3 =>
 bif (!((x2.1 == x3.1) && ((x2.2.1 == x3.2.1) && ((x2.2.2.1 == x3.2.2.1) && ((x2.2.2.2.1 == x3.2.2.2.1) && ((x2.2.2.2.2.1 == x3.2.2.2.2.1) && ((x2.2.2.2.2.2.1 == x3.2.2.2.2.2.1) && ((x2.2.2.2.2.2.2.1 == x3.2.2.2.2.2.2.1) && true)))))))) then (
 some (.inr (.inr false)))
 else (
 some (.inl (IntKind.wrap .i64 (s1 + 1)))))
 else (
 some (.inr (.inl s1)))
def fh (a0:(List ah.D)) (a1:(List ah.D)):Option Bool :=
 bif ((a0.length:Int) != (a1.length:Int)) then (
 some false)
 else (
(ay (tI a0 a1) 0).bind fun o4 =>
 match o4 with
| .inl s5=>(
 some true)
| .inr o6=>(
 some o6))
def ud:Hints:=(n0 (n0 (nd (n0 (nd (.node none (some ⟨[.tmp 13 (.int .i64)],[some 0],some [.tmp 4 .bool],[]⟩) .none .none) .none)) .none)))
def ue:Ct:=.pure true false (.pair (.slice ah) (.pair (.slice ah) .unit)) .bool (fun x=>fh x.1 x.2.1)
theorem jL:KC 185 ue:=pq En ud Tryz.func185
def xB (a0:bR.D) (a1:bR.D):Option Bool :=
 bif (a0.1 == a1.1) then (
 bif (a0.2.1 == a1.2.1) then (
 bif (a0.2.2.1 == a1.2.2.1) then (
 bif (a0.2.2.2.1 == a1.2.2.2.1) then (
 bif (a0.2.2.2.2.1 == a1.2.2.2.2.1) then (
 bif (a0.2.2.2.2.2.1 == a1.2.2.2.2.2.1) then (
(fh a0.2.2.2.2.2.2.1 a1.2.2.2.2.2.2.1).bind fun y1 =>
 some y1)
 else (
 some false))
 else (
 some false))
 else (
 some false))
 else (
 some false))
 else (
 some false))
 else (
 some false)
def IR:Ct:=.pure true false (.pair bR (.pair bR .unit)) .bool (fun x=>xB x.1 x.2.1)
theorem GH:KC 297 IR:=pq (Ec jL En) .none Tryz.func297
def gc (a0:aa.D) (a1:aa.D):Option Bool :=
 bif (a0.1 == a1.1) then (
 bif (a0.2.1 == a1.2.1) then (
 bif (a0.2.2.1 == a1.2.2.1) then (
 bif (a0.2.2.2.1 == a1.2.2.2.1) then (
 bif ((a0.2.2.2.2.1.1 == a1.2.2.2.2.1.1) && ((a0.2.2.2.2.1.2.1 == a1.2.2.2.2.1.2.1) && ((a0.2.2.2.2.1.2.2.1 == a1.2.2.2.2.1.2.2.1) && ((a0.2.2.2.2.1.2.2.2.1 == a1.2.2.2.2.1.2.2.2.1) && ((a0.2.2.2.2.1.2.2.2.2.1 == a1.2.2.2.2.1.2.2.2.2.1) && ((a0.2.2.2.2.1.2.2.2.2.2.1 == a1.2.2.2.2.1.2.2.2.2.2.1) && ((a0.2.2.2.2.1.2.2.2.2.2.2.1 == a1.2.2.2.2.1.2.2.2.2.2.2.1) && true))))))) then (
 bif ((a0.2.2.2.2.2.1.1 == a1.2.2.2.2.2.1.1) && ((a0.2.2.2.2.2.1.2.1 == a1.2.2.2.2.2.1.2.1) && true)) then (
(xB a0.2.2.2.2.2.2.1 a1.2.2.2.2.2.2.1).bind fun y1 =>
 bif y1 then (
 bif (a0.2.2.2.2.2.2.2.1 == a1.2.2.2.2.2.2.2.1) then (
 some (a0.2.2.2.2.2.2.2.2.1 == a1.2.2.2.2.2.2.2.2.1))
 else (
 some false))
 else (
 some false))
 else (
 some false))
 else (
 some false))
 else (
 some false))
 else (
 some false))
 else (
 some false))
 else (
 some false)
def DQ:Ct:=.pure true false (.pair aa (.pair aa .unit)) .bool (fun x=>gc x.1 x.2.1)
theorem Cq:KC 196 DQ:=pq (Ec GH En) .none Tryz.func196
def nB (a0:(List aa.D)) (a1:(List aa.D)):Option Bool :=
(fw a0 a1 (fun q=>gc q.1 q.2.1)).bind fun y1 =>
 some y1
def Fd:Ct:=.pure true false (.pair (.slice aa) (.pair (.slice aa) .unit)) .bool (fun x=>nB x.1 x.2.1)
theorem DR:KC 83 Fd:=pq (Ec nX (Ec Cq En)) .none Tryz.func83
def A8 (a0:(List Int)) (a1:(List Int)):Int→Option (Int⊕(Int⊕Bool)):=fun s1 =>
 bif decide (s1 < (a0.length:Int)) then (
 idx a0 s1 fun x2 =>
 idx a1 s1 fun x3 =>
 bif (x2 != x3) then (
 some (.inr (.inr false)))
 else (
 some (.inl (IntKind.wrap .i64 (s1 + 1)))))
 else (
 some (.inr (.inl s1)))
def pf (a0:(List Int)) (a1:(List Int)):Option Bool :=
 bif ((a0.length:Int) != (a1.length:Int)) then (
 some false)
 else (
(ay (A8 a0 a1) 0).bind fun o4 =>
 match o4 with
| .inl s5=>(
 some true)
| .inr o6=>(
 some o6))
def Cr:Hints:=(n0 (n0 (nd (n0 (nd (.node none (some ⟨[.tmp 13 (.int .i64)],[some 0],some [.tmp 4 .bool],[]⟩) .none .none) .none)) .none)))
def Cs:Ct:=.pure true false (.pair (.slice (.int .i64)) (.pair (.slice (.int .i64)) .unit)) .bool (fun x=>pf x.1 x.2.1)
theorem A9:KC 105 Cs:=pq En Cr Tryz.func105
def qV (a0:(List ai.D)) (a1:(List ai.D)):Int→Option (Int⊕(Int⊕Bool)):=fun s1 =>
 bif decide (s1 < (a0.length:Int)) then (
 idx a0 s1 fun x2 =>
 idx a1 s1 fun x3 =>
 bif (!((x2.1 == x3.1) && ((x2.2.1 == x3.2.1) && ((x2.2.2.1 == x3.2.2.1) && (((x2.2.2.2.1.1 == x3.2.2.2.1.1) && ((x2.2.2.2.1.2.1 == x3.2.2.2.1.2.1) && ((x2.2.2.2.1.2.2.1 == x3.2.2.2.1.2.2.1) && ((x2.2.2.2.1.2.2.2.1 == x3.2.2.2.1.2.2.2.1) && ((x2.2.2.2.1.2.2.2.2.1 == x3.2.2.2.1.2.2.2.2.1) && ((x2.2.2.2.1.2.2.2.2.2.1 == x3.2.2.2.1.2.2.2.2.2.1) && ((x2.2.2.2.1.2.2.2.2.2.2.1 == x3.2.2.2.1.2.2.2.2.2.2.1) && ((x2.2.2.2.1.2.2.2.2.2.2.2.1 == x3.2.2.2.1.2.2.2.2.2.2.2.1) && ((x2.2.2.2.1.2.2.2.2.2.2.2.2.1 == x3.2.2.2.1.2.2.2.2.2.2.2.2.1) && ((x2.2.2.2.1.2.2.2.2.2.2.2.2.2.1 == x3.2.2.2.1.2.2.2.2.2.2.2.2.2.1) && ((x2.2.2.2.1.2.2.2.2.2.2.2.2.2.2.1 == x3.2.2.2.1.2.2.2.2.2.2.2.2.2.2.1) && ((x2.2.2.2.1.2.2.2.2.2.2.2.2.2.2.2.1 == x3.2.2.2.1.2.2.2.2.2.2.2.2.2.2.2.1) && ((x2.2.2.2.1.2.2.2.2.2.2.2.2.2.2.2.2.1 == x3.2.2.2.1.2.2.2.2.2.2.2.2.2.2.2.2.1) && true))))))))))))) && true))))) then (
 some (.inr (.inr false)))
 else (
 some (.inl (IntKind.wrap .i64 (s1 + 1)))))
 else (
 some (.inr (.inl s1)))
def ga (a0:(List ai.D)) (a1:(List ai.D)):Option Bool :=
 bif ((a0.length:Int) != (a1.length:Int)) then (
 some false)
 else (
(ay (qV a0 a1) 0).bind fun o4 =>
 match o4 with
| .inl s5=>(
 some true)
| .inr o6=>(
 some o6))
def rR:Hints:=(n0 (n0 (nd (n0 (nd (.node none (some ⟨[.tmp 13 (.int .i64)],[some 0],some [.tmp 4 .bool],[]⟩) .none .none) .none)) .none)))
def rS:Ct:=.pure true false (.pair (.slice ai) (.pair (.slice ai) .unit)) .bool (fun x=>ga x.1 x.2.1)
theorem qW:KC 121 rS:=pq En rR Tryz.func121
def jg (a0:(List ai.D)) (a1:(List ai.D)):Option Bool :=
(ga a0 a1).bind fun y1 =>
 some y1
def Ba:Ct:=.pure true false (.pair (.slice ai) (.pair (.slice ai) .unit)) .bool (fun x=>jg x.1 x.2.1)
theorem zV:KC 21 Ba:=pq (Ec qW En) .none Tryz.func21
def uf (a0:(List au.D)) (a1:(List au.D)):Int→Option (Int⊕(Int⊕Bool)):=fun s1 =>
 bif decide (s1 < (a0.length:Int)) then (
 idx a0 s1 fun x2 =>
 idx a1 s1 fun x3 =>
 bif (!((x2.1 == x3.1) && (((x2.2.1.1 == x3.2.1.1) && ((x2.2.1.2.1 == x3.2.1.2.1) && ((x2.2.1.2.2.1 == x3.2.1.2.2.1) && ((x2.2.1.2.2.2.1 == x3.2.1.2.2.2.1) && ((x2.2.1.2.2.2.2.1 == x3.2.1.2.2.2.2.1) && ((x2.2.1.2.2.2.2.2.1 == x3.2.1.2.2.2.2.2.1) && ((x2.2.1.2.2.2.2.2.2.1 == x3.2.1.2.2.2.2.2.2.1) && true))))))) && ((x2.2.2.1 == x3.2.2.1) && ((x2.2.2.2.1 == x3.2.2.2.1) && (((x2.2.2.2.2.1.1 == x3.2.2.2.2.1.1) && ((x2.2.2.2.2.1.2.1 == x3.2.2.2.2.1.2.1) && ((x2.2.2.2.2.1.2.2.1 == x3.2.2.2.2.1.2.2.1) && ((x2.2.2.2.2.1.2.2.2.1 == x3.2.2.2.2.1.2.2.2.1) && ((x2.2.2.2.2.1.2.2.2.2.1 == x3.2.2.2.2.1.2.2.2.2.1) && ((x2.2.2.2.2.1.2.2.2.2.2.1 == x3.2.2.2.2.1.2.2.2.2.2.1) && ((x2.2.2.2.2.1.2.2.2.2.2.2.1 == x3.2.2.2.2.1.2.2.2.2.2.2.1) && ((x2.2.2.2.2.1.2.2.2.2.2.2.2.1 == x3.2.2.2.2.1.2.2.2.2.2.2.2.1) && ((x2.2.2.2.2.1.2.2.2.2.2.2.2.2.1 == x3.2.2.2.2.1.2.2.2.2.2.2.2.2.1) && ((x2.2.2.2.2.1.2.2.2.2.2.2.2.2.2.1 == x3.2.2.2.2.1.2.2.2.2.2.2.2.2.2.1) && ((x2.2.2.2.2.1.2.2.2.2.2.2.2.2.2.2.1 == x3.2.2.2.2.1.2.2.2.2.2.2.2.2.2.2.1) && ((x2.2.2.2.2.1.2.2.2.2.2.2.2.2.2.2.2.1 == x3.2.2.2.2.1.2.2.2.2.2.2.2.2.2.2.2.1) && ((x2.2.2.2.2.1.2.2.2.2.2.2.2.2.2.2.2.2.1 == x3.2.2.2.2.1.2.2.2.2.2.2.2.2.2.2.2.2.1) && true))))))))))))) && true)))))) then (
 some (.inr (.inr false)))
 else (
 some (.inl (IntKind.wrap .i64 (s1 + 1)))))
 else (
 some (.inr (.inl s1)))
def iK (a0:(List au.D)) (a1:(List au.D)):Option Bool :=
 bif ((a0.length:Int) != (a1.length:Int)) then (
 some false)
 else (
(ay (uf a0 a1) 0).bind fun o4 =>
 match o4 with
| .inl s5=>(
 some true)
| .inr o6=>(
 some o6))
def vC:Hints:=(n0 (n0 (nd (n0 (nd (.node none (some ⟨[.tmp 13 (.int .i64)],[some 0],some [.tmp 4 .bool],[]⟩) .none .none) .none)) .none)))
def vD:Ct:=.pure true false (.pair (.slice au) (.pair (.slice au) .unit)) .bool (fun x=>iK x.1 x.2.1)
theorem ug:KC 120 vD:=pq En vC Tryz.func120
def nC (a0:(List au.D)) (a1:(List au.D)):Option Bool :=
(iK a0 a1).bind fun y1 =>
 some y1
def Fe:Ct:=.pure true false (.pair (.slice au) (.pair (.slice au) .unit)) .bool (fun x=>nC x.1 x.2.1)
theorem DS:KC 20 Fe:=pq (Ec ug En) .none Tryz.func20
def qA (a0:(List aF.D)) (a1:(List aF.D)) (a2:((aF.D×(aF.D×Unit))→Option Bool)):Int→Option (Int⊕(Int⊕Bool)):=fun s1 =>
 bif decide (s1 < (a0.length:Int)) then (
 idx a0 s1 fun x2 =>
 idx a1 s1 fun x3 =>
(a2 (x2,x3,())).bind fun y4 =>
 bif (!y4) then (
 some (.inr (.inr false)))
 else (
 some (.inl (IntKind.wrap .i64 (s1 + 1)))))
 else (
 some (.inr (.inl s1)))
def fT (a0:(List aF.D)) (a1:(List aF.D)) (a2:((aF.D×(aF.D×Unit))→Option Bool)):Option Bool :=
 bif ((a0.length:Int) != (a1.length:Int)) then (
 some false)
 else (
(ay (qA a0 a1 a2) 0).bind fun o5 =>
 match o5 with
| .inl s6=>(
 some true)
| .inr o7=>(
 some o7))
def qX:Hints:=(n0 (n0 (nd (n0 (nd (.node none (some ⟨[.tmp 17 (.int .i64)],[some 0],some [.tmp 6 .bool],[]⟩) .none .none) .none)) .none)))
def qY:Ct:=.pure true false (.pair (.slice aF) (.pair (.slice aF) (.pair (.fn (.pair aF (.pair aF .unit)) .bool) .unit))) .bool (fun x=>fT x.1 x.2.1 x.2.2.1)
theorem qB:KC 106 qY:=pq En qX Tryz.func106
def iZ (a0:aF.D) (a1:aF.D):Option Bool :=
 bif (a0.1 == a1.1) then (
 bif (a0.2.1 == a1.2.1) then (
 bif (a0.2.2.1 == a1.2.2.1) then (
 bif (a0.2.2.2.1 == a1.2.2.2.1) then (
 bif ((a0.2.2.2.2.1.1 == a1.2.2.2.2.1.1) && ((a0.2.2.2.2.1.2.1 == a1.2.2.2.2.1.2.1) && ((a0.2.2.2.2.1.2.2.1 == a1.2.2.2.2.1.2.2.1) && ((a0.2.2.2.2.1.2.2.2.1 == a1.2.2.2.2.1.2.2.2.1) && ((a0.2.2.2.2.1.2.2.2.2.1 == a1.2.2.2.2.1.2.2.2.2.1) && ((a0.2.2.2.2.1.2.2.2.2.2.1 == a1.2.2.2.2.1.2.2.2.2.2.1) && ((a0.2.2.2.2.1.2.2.2.2.2.2.1 == a1.2.2.2.2.1.2.2.2.2.2.2.1) && true))))))) then (
(fh a0.2.2.2.2.2.1 a1.2.2.2.2.2.1).bind fun y1 =>
 bif y1 then (
 bif (a0.2.2.2.2.2.2.1 == a1.2.2.2.2.2.2.1) then (
 some (a0.2.2.2.2.2.2.2.1 == a1.2.2.2.2.2.2.2.1))
 else (
 some false))
 else (
 some false))
 else (
 some false))
 else (
 some false))
 else (
 some false))
 else (
 some false))
 else (
 some false)
def GI:Ct:=.pure true false (.pair aF (.pair aF .unit)) .bool (fun x=>iZ x.1 x.2.1)
theorem Ff:KC 107 GI:=pq (Ec jL En) .none Tryz.func107
def i4 (a0:aK.D) (a1:aK.D):Option Bool :=
(nA a0.1 a1.1).bind fun y1 =>
 bif y1 then (
(nB a0.2.1 a1.2.1).bind fun y2 =>
 bif y2 then (
(pf a0.2.2.1 a1.2.2.1).bind fun y3 =>
 bif y3 then (
(jg a0.2.2.2.1 a1.2.2.2.1).bind fun y4 =>
 bif y4 then (
(nC a0.2.2.2.2.1 a1.2.2.2.2.1).bind fun y5 =>
 bif y5 then (
(fT a0.2.2.2.2.2.1 a1.2.2.2.2.2.1 (fun q=>iZ q.1 q.2.1)).bind fun y6 =>
 some y6)
 else (
 some false))
 else (
 some false))
 else (
 some false))
 else (
 some false))
 else (
 some false)
def GJ:Ct:=.pure true false (.pair aK (.pair aK .unit)) .bool (fun x=>i4 x.1 x.2.1)
theorem Fg:KC 15 GJ:=pq (Ec DS (Ec zV (Ec DR (Ec DP (Ec A9 (Ec qB (Ec Ff En))))))) .none Tryz.func15
def iR (y3:(aK.D×(Int×Unit))):Int→Option (Int⊕(Int⊕Bool)):=fun s17 =>
 bif decide (s17 < (y3.1.2.2.2.1.length:Int)) then (
((idx y3.1.2.2.2.1 s17 fun _ =>
(y3.1.2.2.2.1[(s17:Int).toNat]?).bind fun x18 =>
 bif (x18.1 == 1) then (
 idx y3.1.2.2.2.1 s17 fun _ =>
(y3.1.2.2.2.1[(s17:Int).toNat]?).bind fun x19 =>
(aQ x19.2.2.2.1 16).bind fun y20 =>
 bif (!y20) then (
 some true)
 else (
 idx y3.1.2.2.2.1 s17 fun _ =>
(y3.1.2.2.2.1[(s17:Int).toNat]?).bind fun x21 =>
 bif (x21.1 == 2) then (
 idx y3.1.2.2.2.1 s17 fun _ =>
(y3.1.2.2.2.1[(s17:Int).toNat]?).bind fun x22 =>
(aQ x22.2.2.2.1 32).bind fun y23 =>
 some (!y23))
 else (
 some false)))
 else (
 idx y3.1.2.2.2.1 s17 fun _ =>
(y3.1.2.2.2.1[(s17:Int).toNat]?).bind fun x24 =>
 bif (x24.1 == 2) then (
 idx y3.1.2.2.2.1 s17 fun _ =>
(y3.1.2.2.2.1[(s17:Int).toNat]?).bind fun x25 =>
(aQ x25.2.2.2.1 32).bind fun y26 =>
 some (!y26))
 else (
 some false))):Option Bool).bind fun o27 =>
 bif o27 then (
 some (.inr (.inr false)))
 else (
 some (.inl (IntKind.wrap .i64 (s17 + 1)))))
 else (
 some (.inr (.inl s17)))
def xC (a0:(List Int)):Option Bool :=
(HM a0).bind fun y1 =>
 bif y1 then (
 some true)
 else (
(pJ a0).bind fun y2 =>
(pa y2.1 y2.2.1).bind fun y3 =>
(pN a0).bind fun y4 =>
(pa y4.1 y4.2.1).bind fun y5 =>
(wm y4.1 y4.2.1).bind fun y6 =>
(j7 a0).bind fun y7 =>
(GX a0 2).bind fun y8 =>
 if (IntKind.wrap .i64 ((y2.2.1.length:Int) + 1))=0 then none else (
 if 0≤(0:Int) then (if (0:Int)≤(y8.tmod (IntKind.wrap .i64 ((y2.2.1.length:Int) + 1))) then (if (y8.tmod (IntKind.wrap .i64 ((y2.2.1.length:Int) + 1)))≤(y2.2.1.length:Int) then (
(pa y2.1 ((y2.2.1.take (y8.tmod (IntKind.wrap .i64 ((y2.2.1.length:Int) + 1))).toNat).drop (0:Int).toNat)).bind fun y9 =>
 if 0≤(y8.tmod (IntKind.wrap .i64 ((y2.2.1.length:Int) + 1))) then (if (y8.tmod (IntKind.wrap .i64 ((y2.2.1.length:Int) + 1)))≤(y2.2.1.length:Int) then (if (y2.2.1.length:Int)≤(y2.2.1.length:Int) then (
(pa y9.1 ((y2.2.1.take (y2.2.1.length:Int).toNat).drop (y8.tmod (IntKind.wrap .i64 ((y2.2.1.length:Int) + 1))).toNat)).bind fun y10 =>
(rQ y7.1 y7.2.1 y7.2.2.1).bind fun y11 =>
(((i4 y5.1 y6.1).bind fun y12 =>
 bif (!y12) then (
 some true)
 else (
 bif (y5.2.1 != y6.2.1) then (
 some true)
 else (
(mL y7.1 y7.2.1 y7.2.2.1).bind fun y13 =>
(i4 y11 y13).bind fun y14 =>
 bif (!y14) then (
 some true)
 else (
 bif ((y11.2.2.2.2.1.length:Int) != 0) then (
 some true)
 else (
(qm y3.1).bind fun y15 =>
 bif (!y15) then (
 some true)
 else (
 some (decide (y3.2.1 > (y2.2.1.length:Int))))))))):Option Bool).bind fun o16 =>
 bif o16 then (
 some false)
 else (
(ay (iR y3) 0).bind fun o28 =>
 match o28 with
| .inl s29=>(
(i4 y3.1 y10.1).bind fun y31 =>
 bif y31 then (
 bif (y3.2.1 == (IntKind.wrap .i64 (y9.2.1 + y10.2.1))) then (
 some (decide (y3.1.1.2.2.2.1≥y2.1.1.2.2.2.1)))
 else (
 some false))
 else (
 some false))
| .inr o30=>(
 some o30))) else none) else none) else none) else none) else none) else none))
def IS:Hints:=(n0 (n0 (n0 (n0 (n0 (n0 (n0 (n0 (n0 (n0 (n0 (n0 (nd (nd (cu ⟨[.tmp 119 .bool],[none],none,[]⟩) .none) (nd (n0 (nd (.node none (some ⟨[.tmp 22 (.int .i64)],[some 0],some [.tmp 2 .bool],[]⟩) (n0 (nd (nd (nd (cu ⟨[.tmp 162 .bool],[none],none,[]⟩) .none) .none) .none)) .none) .none)) .none))))))))))))))
def IT:Ct:=.pure true false (.pair (.slice (.int .u8)) .unit) .bool (fun x=>xC x.1)
theorem laws_FnGames_ct:KC 6 IT:=pq (Ec NU (Ec Fg (Ec zB (Ec tB (Ec Co (Ec ET (Ec Fb (Ec A7 (Ec PJ (Ec yB (Ec je (Ec j5 En)))))))))))) IS Tryz.func6
end
end Go.Abs
