/- Part of a proof of FnOrders: see the row. -/
import Derived.Test.YtenadnbpibhmiaaGreatOrGenOR1
set_option linter.unusedVariables false
set_option linter.unusedSimpArgs false
namespace Go.Abs
open Go.Proofs
set_option maxRecDepth 100000
noncomputable section
def cR (a0:(List aA.D)) (a1:((aA.D×Unit)→Option Bool)):Option Bool :=
(dG a0 a1).bind fun y1 =>
 some (decide (y1≥0))
def nI:Ct:=.pure true false (.pair (.slice aA) (.pair (.fn (.pair aA .unit) .bool) .unit)) .bool (fun x=>cR x.1 x.2.1)
theorem mT:KC 114 nI:=pq (Ec p9 En) .none Tryz.func114
def iD (a0:ae.D):Option Bool :=
(b7 a0).bind fun y1 =>
 some (!y1)
def GV:Ct:=.pure true false (.pair ae .unit) .bool (fun x=>iD x.1)
theorem Fa:KC 238 GV:=pq (Ec cd En) .none Tryz.func238
def jh (a0:aA.D):Option Bool :=
(cV a0.1).bind fun y1 =>
 bif y1 then (
(bo a0.2.1).bind fun y2 =>
 bif y2 then (
(bl a0.2.2.2.1 1 5).bind fun y3 =>
 bif y3 then (
(bl a0.2.2.1 0 (IntKind.wrap .i64 (a0.2.2.2.1 - 1))).bind fun y4 =>
 bif y4 then (
(bY a0.2.2.2.2.2.2.1).bind fun y5 =>
 bif y5 then (
(bl a0.2.2.2.2.2.2.2.1 0 4).bind fun y6 =>
 bif y6 then (
(b7 a0.2.2.2.2.1).bind fun y7 =>
 bif y7 then (
 bif decide ((a0.2.2.2.2.2.1.length:Int)≤3) then (
(aR a0.2.2.2.2.2.1 (fun q=>iD q.1)).bind fun y8 =>
 some (!y8))
 else (
 some false))
 else (
 some false))
 else (
 some false))
 else (
 some false))
 else (
 some false))
 else (
 some false))
 else (
 some false))
 else (
 some false)
def KK:Ct:=.pure true false (.pair aA .unit) .bool (fun x=>jh x.1)
theorem I5:KC 116 KK:=pq (Ec cd (Ec dt (Ec b6 (Ec gO (Ec jz (Ec gN (Ec Fa En))))))) .none Tryz.func116
def pr (a0:aA.D):Option Bool :=
(jh a0).bind fun y1 =>
 some (!y1)
def GW:Ct:=.pure true false (.pair aA .unit) .bool (fun x=>pr x.1)
theorem Fb:KC 115 GW:=pq (Ec I5 En) .none Tryz.func115
def lQ (a0:aC.D):Option Bool :=
(dE a0.1).bind fun y1 =>
 bif y1 then (
(fW a0.2.1).bind fun y2 =>
 bif y2 then (
(cR a0.2.2.2.2.2.1 (fun q=>pr q.1)).bind fun y3 =>
 some (!y3))
 else (
 some false))
 else (
 some false)
def KL:Ct:=.pure true false (.pair aC .unit) .bool (fun x=>lQ x.1)
theorem zp:KC 17 KL:=pq (Ec dN (Ec kR (Ec mT (Ec Fb En)))) .none Tryz.func17
def cw (a0:(List aa.D)) (a1:((aa.D×Unit)→Option Bool)):Int→Option (Int⊕(Int⊕Int)):=fun s1 =>
 bif decide (s1 < (a0.length:Int)) then (
 idx a0 s1 fun x2 =>
(a1 (x2,())).bind fun y3 =>
 bif y3 then (
 some (.inr (.inr s1)))
 else (
 some (.inl (IntKind.wrap .i64 (s1 + 1)))))
 else (
 some (.inr (.inl s1)))
def bI (a0:(List aa.D)) (a1:((aa.D×Unit)→Option Bool)):Option Int :=
(aw (cw a0 a1) 0).bind fun o4 =>
 match o4 with
| .inl s5=>(
 some (-1))
| .inr o6=>(
 some o6)
def oG:Hints:=(n0 (nd (n0 (nd (.node none (some ⟨[.tmp 8 (.int .i64)],[some 0],some [.tmp 4 (.int .i64)],[]⟩) .none .none) .none)) .none))
def oH:Ct:=.pure true false (.pair (.slice aa) (.pair (.fn (.pair aa .unit) .bool) .unit)) (.int .i64) (fun x=>bI x.1 x.2.1)
theorem gu:KC 207 oH:=pq En oG Tryz.func207
def sJ (z0:aa.D) (a0:aa.D):Option Bool :=
 some (decide (a0.1≥z0.1))
def Fc:Ct:=.clo (.pair aa .unit) (.pair aa .unit) .bool (fun z x=>sJ z.1 x.1)
theorem DE:KC 208 Fc:=cq En .none Tryz.func208
def dV (a0:List aa.D) (a1:Int) (a2:List aa.D):Option (List aa.D×Unit):=if 0≤a1∧a1≤(a0.length:Int)∧a2.length=1∧a0.length≤1048576 then some (a0.take a1.toNat++a2++a0.drop a1.toNat,()) else none
def l8:Ct:=.mut [.tk,.rd,.tk] true true (.pair (.slice aa) (.pair (.int .i64) (.pair (.slice aa) .unit))) (.slice aa) (fun x=>dV x.1 x.2.1 x.2.2.1)
theorem lw:cI Tryz.prog 209 l8:=SR rfl
def xJ (z0:Int) (a0:aa.D):Option Bool :=
 some (a0.1 == z0)
def DF:Ct:=.clo (.pair aa .unit) (.pair (.int .i64) .unit) .bool (fun z x=>xJ z.1 x.1)
theorem Cb:KC 304 DF:=cq En .none Tryz.func304
def gn (a0:(List aa.D)) (a1:Int):Option Int :=
(bI a0 (fun q=>xJ a1 q.1)).bind fun y1 =>
 some y1
def xK:Ct:=.pure true false (.pair (.slice aa) (.pair (.int .i64) .unit)) (.int .i64) (fun x=>gn x.1 x.2.1)
theorem jC:KC 211 xK:=pq (Ec gu (Ec Cb En)) .none Tryz.func211
def rs (a0:(List aa.D)) (a1:aa.D):Option ((List aa.D)×(Bool×Unit)) :=
(b9 a0).bind fun y1 =>
(bI a0 (fun q=>sJ a1 q.1)).bind fun y2 =>
((bif decide (y2 < 0) then (
 some (a0.length:Int))
 else (
 some y2)):Option Int).bind fun o3 =>
(b9 a0).bind fun y4 =>
(db a1).bind fun y5 =>
(dV y4 o3 [y5]).bind fun y6 =>
(((gn a0 a1.1).bind fun y7 =>
 bif decide (y7≥0) then (
 some true)
 else (
(fW y6.1).bind fun y8 =>
 some (!y8))):Option Bool).bind fun o9 =>
 bif o9 then (
 some (y1,false,()))
 else (
 some (y6.1,true,()))
def I6:Hints:=(n0 (n0 (n0 (nd (n0 (cu ⟨[.tmp 7 (.int .i64)],[none],none,[]⟩)) (n0 (nd (nd (cu ⟨[.tmp 34 .bool],[none],none,[]⟩) .none) .none))))))
def zq:Ct:=.pure false true (.pair (.slice aa) (.pair aa .unit)) (.pair (.slice aa) (.pair .bool .unit)) (fun x=>rs x.1 x.2.1)
theorem yc:KC 92 zq:=pq (Ec kR (Ec bB (Ec gu (Ec DE (Ec lw (Ec cY (Ec jC En))))))) I6 Tryz.func92
theorem qa (xs:List bc.D) (i j:Nat) (hij:i < j) (hj:j≤xs.length):dy xs (i:Int) (j:Int)=some (xs.take i++xs.drop j,()):=by
 unfold dy
 have e0:((i:Int) == (j:Int))=false:=by rw [beq_eq_false_iff_ne];omega
 have t2:(xs.length:Int).toNat=xs.length:=by omega
 have t3:i + (xs.length - j) - 0=i + (xs.length - j):=by omega
 simp only [e0,cond_false,t2,Int.toNat_natCast,t3]
 rw [if_pos (by omega),if_pos (by omega),if_pos (by omega),if_pos (by omega),if_pos (by omega),if_pos (by omega),if_pos (by omega),if_pos (by omega),if_pos (by omega),if_pos (by omega),if_pos (by omega),if_pos (by omega),if_pos (by omega),if_pos (by omega),if_pos (by omega)]
 have hlen:(xs.take i++(xs.take xs.length).drop j++xs.drop (i + (xs.length - j))).length=xs.length:=by simp;omega
 rw [if_pos (by rw [hlen];omega)]
 rw [List.drop_zero,List.append_assoc (List.take (i + (xs.length - j)) _),List.take_append_of_le_length (by rw [List.length_take,hlen];omega),List.take_take,Nat.min_self,List.take_append_of_le_length (by simp;omega),List.take_of_length_le (by simp;omega),List.take_length]
def cJ (a0:List aa.D) (a1 a2:Int):Option (List aa.D×Unit):=if 0≤a1∧a1 < a2∧a2≤(a0.length:Int) then some (a0.take a1.toNat++a0.drop a2.toNat,()) else none
def l9:Ct:=.mut [.tk,.rd,.rd] true true (.pair (.slice aa) (.pair (.int .i64) (.pair (.int .i64) .unit))) (.slice aa) (fun x=>cJ x.1 x.2.1 x.2.2.1)
theorem lx:cI Tryz.prog 212 l9:=by
 refine Ur (t:=aa) (FH:=fun x=>dy x.1 x.2.1 x.2.2.1) rfl jZ fun xs i j z hz=>?_
 have hz:cJ xs i j=some z:=hz
 unfold cJ at hz
 split at hz
 ·rename_i h
  obtain ⟨h1,h2,h3⟩:=h
  cases hz
  obtain ⟨i,rfl⟩:=Int.eq_ofNat_of_zero_le h1
  obtain ⟨j,rfl⟩:=Int.eq_ofNat_of_zero_le (show 0≤j by omega)
  obtain ⟨p1,p2⟩:=Oc xs i j (by omega) (by omega)
  refine ⟨_,p2,p1,fun xsH hl=>⟨_,qa xsH i j (by omega) (by omega),?_⟩⟩
  rw [← hl]
  exact (Oc xsH i j (by omega) (by omega)).1
 ·cases hz
def Am (a0:(List aa.D)) (a1:Int):Option ((List aa.D)×(Bool×Unit)) :=
(b9 a0).bind fun y1 =>
(gn a0 a1).bind fun y2 =>
 bif decide (y2 < 0) then (
 some (y1,false,()))
 else (
(cJ y1 y2 (IntKind.wrap .i64 (y2 + 1))).bind fun y3 =>
 some (y3.1,true,()))
def DG:Ct:=.pure false true (.pair (.slice aa) (.pair (.int .i64) .unit)) (.pair (.slice aa) (.pair .bool .unit)) (fun x=>Am x.1 x.2.1)
theorem Cc:KC 93 DG:=pq (Ec bB (Ec jC (Ec lx En))) .none Tryz.func93
def mU (a0:ae.D):Option Bool :=
(b7 a0).bind fun y1 =>
 some (!y1)
def Fd:Ct:=.pure true false (.pair ae .unit) .bool (fun x=>mU x.1)
theorem DH:KC 184 Fd:=pq (Ec cd En) .none Tryz.func184
def mV (a0:(List ae.D)):Option Bool :=
 bif decide ((a0.length:Int)≤4) then (
(aR a0 (fun q=>mU q.1)).bind fun y1 =>
 some (!y1))
 else (
 some false)
def I7:Ct:=.pure true false (.pair (.slice ae) .unit) .bool (fun x=>mV x.1)
theorem xL:KC 77 I7:=pq (Ec dt (Ec DH En)) .none Tryz.func77
def gw (a0:(List Int)) (a1:Int):Int→Option (Int⊕(Int⊕Int)):=fun s1 =>
 bif decide (s1 < (a0.length:Int)) then (
 idx a0 s1 fun x2 =>
 bif (a1 == x2) then (
 some (.inr (.inr s1)))
 else (
 some (.inl (IntKind.wrap .i64 (s1 + 1)))))
 else (
 some (.inr (.inl s1)))
def oI (a0:(List Int)) (a1:Int):Option Int :=
(aw (gw a0 a1) 0).bind fun o3 =>
 match o3 with
| .inl s4=>(
 some (-1))
| .inr o5=>(
 some o5)
def Cd:Hints:=(n0 (nd (n0 (nd (.node none (some ⟨[.tmp 8 (.int .i64)],[some 0],some [.tmp 4 (.int .i64)],[]⟩) .none .none) .none)) .none))
def Ce:Ct:=.pure true false (.pair (.slice (.int .i64)) (.pair (.int .i64) .unit)) (.int .i64) (fun x=>oI x.1 x.2.1)
theorem AM:KC 392 Ce:=pq En Cd Tryz.func392
def jR (a0:(List Int)) (a1:Int):Option Bool :=
(oI a0 a1).bind fun y1 =>
 some (decide (y1≥0))
def yd:Ct:=.pure true false (.pair (.slice (.int .i64)) (.pair (.int .i64) .unit)) .bool (fun x=>jR x.1 x.2.1)
theorem wN:KC 370 yd:=pq (Ec AM En) .none Tryz.func370
def DI (a0:(List Int)) (a1:Int):Option Bool :=
(jR a0 a1).bind fun y1 =>
 some y1
def P0:Ct:=.pure true false (.pair (.slice (.int .i64)) (.pair (.int .i64) .unit)) .bool (fun x=>DI x.1 x.2.1)
theorem Oy:KC 341 P0:=pq (Ec wN En) .none Tryz.func341
def oJ (a0:aa.D) (a1:Int):Option Bool :=
 bif (a0.2.2.2.2.2.2.2.2.1 != 0) then (
 bif (a0.2.2.2.2.2.2.2.1 == (-1)) then (
 some true)
 else (
 some (decide (a0.2.2.2.2.2.2.2.1≥a1))))
 else (
 some false)
def MQ:Ct:=.pure true false (.pair aa (.pair (.int .i64) .unit)) .bool (fun x=>oJ x.1 x.2.1)
theorem Bv:KC 221 MQ:=pq En .none Tryz.func221
def Fe (a0:aa.D) (a1:ae.D):Option Bool :=
 bif (a0.2.2.2.1 != 0) then (
 some true)
 else (
 bif (a0.2.2.1 == a1.2.1) then (
 some true)
 else (
 some (a0.2.2.1 == a1.2.2.1)))
def Oz:Ct:=.pure true false (.pair aa (.pair ae .unit)) .bool (fun x=>Fe x.1 x.2.1)
theorem MR:KC 371 Oz:=pq En .none Tryz.func371
def qC (a0:ac.D) (a1:Int):((List Int)×Int)→Option (((List Int)×Int)⊕((List Int)×Int)):=fun s1 =>
 bif decide (s1.2 < (a0.1.length:Int)) then (
 idx a0.1 s1.2 fun x2 =>
((bif (x2.2.2.2.1 == 2) then (
 bif (a1 == (-1)) then (
 some true)
 else (
 some (x2.2.2.1 == a1)))
 else (
 some false)):Option Bool).bind fun o3 =>
 bif o3 then (
 if (s1.1.length + [x2.1].length) * (24 * 1)≤aG then (
 some (.inl ((s1.1++[x2.1]),IntKind.wrap .i64 (s1.2 + 1)))) else none)
 else (
 some (.inl (s1.1,IntKind.wrap .i64 (s1.2 + 1)))))
 else (
 some (.inr s1))
def rt (a0:ac.D) (a1:Int):Option (List Int) :=
(aw (qC a0 a1) ([],0)).bind fun o4 =>
 some o4.1
def I8:Hints:=(n0 (n0 (nd (n0 (nd (.node none (some ⟨[.tmpO 5 0 (.slice (.int .i64)),.tmp 12 (.int .i64)],[some 0],none,[]⟩) (n0 (n0 (nd (nd (n0 (nd (cu ⟨[.tmp 28 .bool],[none],none,[]⟩) .none)) .none) .none))) .none) .none)) .none)))
def zr:Ct:=.pure true true (.pair ac (.pair (.int .i64) .unit)) (.slice (.int .i64)) (fun x=>rt x.1 x.2.1)
theorem ye:KC 393 zr:=pq En I8 Tryz.func393
def sK (a0:ac.D) (a1:Int):(Int×Int)→Option ((Int×Int)⊕(Int×Int)):=fun s1 =>
 bif decide (s1.2 < (a0.1.length:Int)) then (
 idx a0.1 s1.2 fun x2 =>
((bif (x2.2.2.2.1 == 2) then (
 bif (x2.2.2.1 == a1) then (
 some x2.2.2.2.2.2.2.2.2.2.2.2.2.1)
 else (
 some false))
 else (
 some false)):Option Bool).bind fun o3 =>
 bif o3 then (
 some (.inl (IntKind.wrap .i64 (s1.1 + 1),IntKind.wrap .i64 (s1.2 + 1))))
 else (
 some (.inl (s1.1,IntKind.wrap .i64 (s1.2 + 1)))))
 else (
 some (.inr s1))
def uq (a0:ac.D) (a1:Int):Option Int :=
(aw (sK a0 a1) (0,0)).bind fun o4 =>
 some o4.1
def KM:Hints:=(n0 (n0 (nd (n0 (nd (.node none (some ⟨[.tmp 5 (.int .i64),.tmp 11 (.int .i64)],[some 0],none,[]⟩) (n0 (n0 (nd (nd (n0 (nd (cu ⟨[.tmp 27 .bool],[none],none,[]⟩) .none)) .none) .none))) .none) .none)) .none)))
def KN:Ct:=.pure true false (.pair ac (.pair (.int .i64) .unit)) (.int .i64) (fun x=>uq x.1 x.2.1)
theorem I9:KC 394 KN:=pq En KM Tryz.func394
def wO (a0:ac.D) (a1:Int) (a2:bP.D):Option Bool :=
(((ik a2).bind fun y1 =>
 bif (!y1) then (
 some true)
 else (
(aZ a0 a1).bind fun y2 =>
 some (!y2))):Option Bool).bind fun o3 =>
 bif o3 then (
 some false)
 else (
 bif (a2.1 == 1) then (
 idx a0.2.1 a1 fun x4 =>
 some (decide (x4.1≤a2.2.1)))
 else (
 bif (a2.1 == 2) then (
(rt a0 a1).bind fun y5 =>
 some (decide ((y5.length:Int)≥a2.2.1)))
 else (
 bif (a2.1 == 3) then (
 some (a0.2.2.1 == a1))
 else (
 bif (a2.1 == 4) then (
(uq a0 a1).bind fun y6 =>
 some (decide (y6≥a2.2.1)))
 else (
 some true)))))
def MS:Hints:=(n0 (nd (nd (cu ⟨[.tmp 15 .bool],[none],none,[]⟩) .none) .none))
def MT:Ct:=.pure true false (.pair ac (.pair (.int .i64) (.pair bP .unit))) .bool (fun x=>wO x.1 x.2.1 x.2.2.1)
theorem KO:KC 372 MT:=pq (Ec gM (Ec xH (Ec ye (Ec I9 En)))) MS Tryz.func372
def cF (a0:(List ai.D)) (a1:((ai.D×Unit)→Option Bool)):Int→Option (Int⊕(Int⊕Int)):=fun s1 =>
 bif decide (s1 < (a0.length:Int)) then (
 idx a0 s1 fun x2 =>
(a1 (x2,())).bind fun y3 =>
 bif y3 then (
 some (.inr (.inr s1)))
 else (
 some (.inl (IntKind.wrap .i64 (s1 + 1)))))
 else (
 some (.inr (.inl s1)))
def dq (a0:(List ai.D)) (a1:((ai.D×Unit)→Option Bool)):Option Int :=
(aw (cF a0 a1) 0).bind fun o4 =>
 match o4 with
| .inl s5=>(
 some (-1))
| .inr o6=>(
 some o6)
def qb:Hints:=(n0 (nd (n0 (nd (.node none (some ⟨[.tmp 8 (.int .i64)],[some 0],some [.tmp 4 (.int .i64)],[]⟩) .none .none) .none)) .none))
def qc:Ct:=.pure true false (.pair (.slice ai) (.pair (.fn (.pair ai .unit) .bool) .unit)) (.int .i64) (fun x=>dq x.1 x.2.1)
theorem oK:KC 381 qc:=pq En qb Tryz.func381
def zt (z0:Int) (a0:ai.D):Option Bool :=
 some (a0.1 == z0)
def Ff:Ct:=.clo (.pair ai .unit) (.pair (.int .i64) .unit) .bool (fun z x=>zt z.1 x.1)
theorem DJ:KC 382 Ff:=cq En .none Tryz.func382
def fX (a0:ac.D) (a1:Int):Option Int :=
(dq a0.1 (fun q=>zt a1 q.1)).bind fun y1 =>
 some y1
def Ja:Ct:=.pure true false (.pair ac (.pair (.int .i64) .unit)) (.int .i64) (fun x=>fX x.1 x.2.1)
theorem iw:KC 353 Ja:=pq (Ec oK (Ec DJ En)) .none Tryz.func353
def qd (a0:ac.D) (a1:ae.D):Option Int :=
 bif (a1.2.2.1 == 0) then (
(aZ a0 a1.2.2.2.1).bind fun y1 =>
 bif y1 then (
 some a1.2.2.2.1)
 else (
 some (-1)))
 else (
(fX a0 a1.2.2.1).bind fun y2 =>
 bif decide (y2 < 0) then (
 some (-1))
 else (
 idx a0.1 y2 fun x3 =>
 some x3.2.2.1))
def KP:Ct:=.pure true false (.pair ac (.pair ae .unit)) (.int .i64) (fun x=>qd x.1 x.2.1)
theorem zu:KC 346 KP:=pq (Ec gM (Ec iw En)) .none Tryz.func346
def kS (a0:ac.D) (a1:Int) (a2:de.D) (a3:ae.D):Option Bool :=
(qd a0 a3).bind fun y1 =>
((bif (y1 == (-1)) then (
 some true)
 else (
 bif (a2.2.1 == 1) then (
 bif (y1 != a1) then (
 some true)
 else (
 bif (a2.2.1 == 2) then (
 some (y1 == a1))
 else (
 some false)))
 else (
 bif (a2.2.1 == 2) then (
 some (y1 == a1))
 else (
 some false)))):Option Bool).bind fun o2 =>
 bif o2 then (
 some false)
 else (
 bif (a2.2.2.2.2.1 == 0) then (
 some true)
 else (
 some (a2.2.2.2.2.1 == a3.2.2.1)))
def DK:Hints:=(n0 (n0 (nd (nd (cu ⟨[.tmp 34 .bool],[none],none,[]⟩) .none) .none)))
def DL:Ct:=.pure true false (.pair ac (.pair (.int .i64) (.pair de (.pair ae .unit)))) .bool (fun x=>kS x.1 x.2.1 x.2.2.1 x.2.2.2.1)
theorem Cf:KC 395 DL:=pq (Ec zu En) DK Tryz.func395
def fY (a0:ac.D) (a1:ae.D):Option ai.D :=
(fX a0 a1.2.1).bind fun y1 =>
((bif (a1.1 != 1) then (
 some true)
 else (
 some (decide (y1 < 0)))):Option Bool).bind fun o2 =>
 bif o2 then (
 some (0,0,0,0,0,0,0,0,0,0,0,false,false,()))
 else (
 idx a0.1 y1 fun x3 =>
 some x3)
def KQ:Hints:=(n0 (n0 (nd (nd (cu ⟨[.tmp 16 .bool],[none],none,[]⟩) .none) .none)))
def KR:Ct:=.pure true false (.pair ac (.pair ae .unit)) ai (fun x=>fY x.1 x.2.1)
theorem sL:KC 313 KR:=pq (Ec iw En) KQ Tryz.func313
def kT (a0:ac.D) (a1:de.D) (a2:ae.D):Option Bool :=
 bif (a1.2.2.1 == 0) then (
(fY a0 a2).bind fun y1 =>
 let k2:Int:=IntKind.wrap .i64 (BitVec.ofInt (IntKind.bits .i64) y1.2.2.2.2.2.2.2.1 &&& BitVec.ofInt (IntKind.bits .i64) a1.2.2.2.1).toNat
 some (k2 == a1.2.2.2.1))
 else (
 bif (a1.2.2.1 == a2.2.1) then (
(fY a0 a2).bind fun y3 =>
 let k4:Int:=IntKind.wrap .i64 (BitVec.ofInt (IntKind.bits .i64) y3.2.2.2.2.2.2.2.1 &&& BitVec.ofInt (IntKind.bits .i64) a1.2.2.2.1).toNat
 some (k4 == a1.2.2.2.1))
 else (
 some false))
def DM:Ct:=.pure true false (.pair ac (.pair de (.pair ae .unit))) .bool (fun x=>kT x.1 x.2.1 x.2.2.1)
theorem Cg:KC 396 DM:=pq (Ec sL En) .none Tryz.func396
def ru (a0:ac.D) (a1:Int) (a2:de.D) (a3:ae.D):Option Bool :=
(lu a2).bind fun y1 =>
 bif y1 then (
(b7 a3).bind fun y2 =>
 bif y2 then (
 bif (a2.1 == a3.1) then (
(kS a0 a1 a2 a3).bind fun y3 =>
 bif y3 then (
(kT a0 a2 a3).bind fun y4 =>
 bif y4 then (
 bif decide (a3.2.2.2.2.1≥a2.2.2.2.2.2.1) then (
 bif (a2.2.2.2.2.2.2.1 == 0) then (
 some true)
 else (
 some (a2.2.2.2.2.2.2.1 == a3.2.2.2.2.2.1)))
 else (
 some false))
 else (
 some false))
 else (
 some false))
 else (
 some false))
 else (
 some false))
 else (
 some false)
def Jb:Ct:=.pure true false (.pair ac (.pair (.int .i64) (.pair de (.pair ae .unit)))) .bool (fun x=>ru x.1 x.2.1 x.2.2.1 x.2.2.2.1)
theorem GX:KC 373 Jb:=pq (Ec cd (Ec Bu (Ec Cf (Ec Cg En)))) .none Tryz.func373
def rM (a0:ac.D) (a1:aa.D) (a2:ae.D):Option Bool :=
(cD a1).bind fun y1 =>
 bif y1 then (
(oJ a1 a0.2.2.2.1).bind fun y2 =>
 bif y2 then (
(Fe a1 a2).bind fun y3 =>
 bif y3 then (
(wO a0 a1.2.1 a1.2.2.2.2.2.1).bind fun y4 =>
 bif y4 then (
(ru a0 a1.2.1 a1.2.2.2.2.1 a2).bind fun y5 =>
 some y5)
 else (
 some false))
 else (
 some false))
 else (
 some false))
 else (
 some false)
def OA:Ct:=.pure true false (.pair ac (.pair aa (.pair ae .unit))) .bool (fun x=>rM x.1 x.2.1 x.2.2.1)
theorem MU:KC 342 OA:=pq (Ec oF (Ec Bv (Ec MR (Ec KO (Ec GX En))))) .none Tryz.func342
def kU (a0:ac.D) (a1:(List aa.D)) (a2:ae.D) (a3:(List Int)):((List Int)×(Int×Int))→Option (((List Int)×(Int×Int))⊕((List Int)×(Int×Int))):=fun s1 =>
 bif decide (s1.2.2 < (a1.length:Int)) then (
 idx a1 s1.2.2 fun x2 =>
(((DI a3 x2.1).bind fun y3 =>
 bif y3 then (
 some true)
 else (
(rM a0 x2 a2).bind fun y4 =>
 some (!y4))):Option Bool).bind fun o5 =>
 bif o5 then (
 some (.inl (s1.1,s1.2.1,IntKind.wrap .i64 (s1.2.2 + 1))))
 else (
((bif ((s1.1.length:Int) == 0) then (
 some true)
 else (
 some (decide (x2.2.2.2.1 < s1.2.1)))):Option Bool).bind fun o6 =>
((bif o6 then (
 if 0≤(0:Int) then (if (0:Int)≤(0:Int) then (if (0:Int)≤(s1.1.length:Int) then (
 some ((s1.1.take ((0:Int).toNat)),x2.2.2.2.1)) else none) else none) else none)
 else (
 some (s1.1,s1.2.1))):Option ((List Int)×Int)).bind fun o7 =>
 bif (x2.2.2.2.1 == o7.2) then (
 if (o7.1.length + [x2.1].length) * (24 * 1)≤aG then (
 some (.inl ((o7.1++[x2.1]),o7.2,IntKind.wrap .i64 (s1.2.2 + 1)))) else none)
 else (
 some (.inl (o7.1,o7.2,IntKind.wrap .i64 (s1.2.2 + 1))))))
 else (
 some (.inr s1))
def rv (a0:ac.D) (a1:(List aa.D)) (a2:ae.D) (a3:(List Int)):Option (List Int) :=
(aw (kU a0 a1 a2 a3) ([],0,0)).bind fun o8 =>
 some o8.1
def Jc:Hints:=(n0 (n0 (n0 (nd (n0 (nd (.node none (some ⟨[.tmpO 9 0 (.slice (.int .i64)),.tmp 10 (.int .i64),.tmp 16 (.int .i64)],[some 0],none,[]⟩) (n0 (n0 (nd (nd (n0 (nd (nd (cu ⟨[.tmp 30 .bool],[none],none,[]⟩) .none) (nd (nd (cu ⟨[.tmp 39 .bool],[none],none,[]⟩) (cu ⟨[.tmpO 9 1 (.slice (.int .i64)),.tmp 10 (.int .i64)],[none],none,[(9,0)]⟩)) .none))) .none) .none))) .none) .none)) .none))))
def qe:Ct:=.pure true true (.pair ac (.pair (.slice aa) (.pair ae (.pair (.slice (.int .i64)) .unit)))) (.slice (.int .i64)) (fun x=>rv x.1 x.2.1 x.2.2.1 x.2.2.2.1)
theorem yf:KC 277 qe:=pq (Ec Oy (Ec MU En)) Jc Tryz.func277
def vN (a0:ae.D):Option Bool :=
 bif (a0.2.2.2.2.1 == 0) then (
 some (a0.1 != 2))
 else (
 some false)
def Gj:Ct:=.pure true false (.pair ae .unit) .bool (fun x=>vN x.1)
theorem DN:KC 278 Gj:=pq En .none Tryz.func278
def vO (a0:(List Int)) (a1:Int):Option (Int×((List Int)×Unit)) :=
((bif decide (a1 < 2) then (
 some true)
 else (
 some ((a0.length:Int) == 0))):Option Bool).bind fun o1 =>
 bif o1 then (
(bA a0).bind fun y2 =>
 some (0,y2,()))
 else (
 idx a0 0 fun x3 =>
 if a1=0 then none else (
((bif decide ((x3.tmod a1) < 0) then (
 some (IntKind.wrap .i64 ((x3.tmod a1) + a1)))
 else (
 some (x3.tmod a1))):Option Int).bind fun o4 =>
 if 0≤(1:Int) then (if (1:Int)≤(a0.length:Int) then (if (a0.length:Int)≤(a0.length:Int) then (
(bA ((a0.take (a0.length:Int).toNat).drop (1:Int).toNat)).bind fun y5 =>
 some (o4,y5,())) else none) else none) else none))
def OB:Hints:=(n0 (nd (nd (cu ⟨[.tmp 13 .bool],[none],none,[]⟩) .none) (n0 (nd (n0 (cu ⟨[.tmp 6 (.int .i64)],[none],none,[]⟩)) .none))))
def ur:Ct:=.pure false true (.pair (.slice (.int .i64)) (.pair (.int .i64) .unit)) (.pair (.int .i64) (.pair (.slice (.int .i64)) .unit)) (fun x=>vO x.1 x.2.1)
theorem sM:KC 164 ur:=pq (Ec bG En) OB Tryz.func164
def sN (x:tF.D) (a0:Int):Option ((Int×(Bool×Unit))×tF.D) :=
(vO x.2.1.2.2.1 a0).bind fun y1 =>
 some ((y1.1,true,()),(x.1,(x.2.1.1,x.2.1.2.1,y1.2.1,x.2.1.2.2.2),()))
def vP:Ct:=.run tF [(163,true),(165,false)] true true false (.pair (.int .i64) .unit) (.pair (.int .i64) (.pair .bool .unit)) (fun x y=>sN x y.1)
theorem DO:cI Tryz.prog 163 vP:=Mm (E:={ T:=tab,G:=[(164,ur)] }) (ar.cons sM (ar.nil dL)) mixed (fn:=Tryz.f163) _ _ _ _ _ _ _ _ .none Tryz.func163 (by kernel_rfl) (fun x y=>by kernel_rfl)
def lR (a0:Int) (a1:Int):Option Int :=
 some (if (if a1 < a0 then a1 else a0) > 0 then (if a1 < a0 then a1 else a0) else 0)
def OC:Ct:=.pure true false bP (.int .i64) (fun x=>lR x.1 x.2.1)
theorem mW:KC 374 OC:=pq En .none Tryz.func374
def wQ (a0:ae.D) (a1:Int):Option ae.D :=
(lR a1 2147483647).bind fun y1 =>
 some (a0.1,a0.2.1,a0.2.2.1,a0.2.2.2.1,y1,a0.2.2.2.2.2)
def MV:Ct:=.pure true false (.pair ae (.pair (.int .i64) .unit)) ae (fun x=>wQ x.1 x.2.1)
theorem KS:KC 375 MV:=pq (Ec mW En) .none Tryz.func375
def bn (a0:Int) (a1:Int):Option Int :=
(cz a0).bind fun y1 =>
(cz a1).bind fun y2 =>
(cz (IntKind.wrap .i64 (y1 + y2))).bind fun y3 =>
 some y3
def OD:Ct:=.pure true false bP (.int .i64) (fun x=>bn x.1 x.2.1)
theorem rz:KC 364 OD:=pq (Ec iC En) .none Tryz.func364
def Ch (a0:Int):Option Int :=
(cz a0).bind fun y1 =>
(cz (IntKind.wrap .i64 (2 * y1))).bind fun y2 =>
 some y2
def MW:Ct:=.pure true false (.pair (.int .i64) .unit) (.int .i64) (fun x=>Ch x.1)
theorem KT:KC 397 MW:=pq (Ec iC En) .none Tryz.func397
def Fg (a0:Int):Option Int :=
(cz a0).bind fun y1 =>
 if 2=0 then none else (
 some (IntKind.wrap .i64 (y1.tdiv 2)))
def OE:Ct:=.pure true false (.pair (.int .i64) .unit) (.int .i64) (fun x=>Fg x.1)
theorem MX:KC 398 OE:=pq (Ec iC En) .none Tryz.func398
def ut (a0:bM.D) (a1:Int):Option Int :=
(lR a1 2147483647).bind fun y1 =>
 bif (a0.1 == 1) then (
 some 0)
 else (
 bif (a0.1 == 3) then (
(bn y1 a0.2.1).bind fun y2 =>
 some y2)
 else (
 bif (a0.1 == 4) then (
(Ch y1).bind fun y3 =>
 some y3)
 else (
 bif (a0.1 == 5) then (
(Fg y1).bind fun y4 =>
 some y4)
 else (
 some y1))))
def KU:Ct:=.pure true false (.pair bM (.pair (.int .i64) .unit)) (.int .i64) (fun x=>ut x.1 x.2.1)
theorem Jd:KC 376 KU:=pq (Ec rz (Ec mW (Ec KT (Ec MX En)))) .none Tryz.func376
def uX (a0:bM.D) (a1:ae.D):((List ae.D)×Int)→Option (((List ae.D)×Int)⊕((List ae.D)×Int)):=fun s1 =>
 bif decide (s1.2 < (a0.2.2.2.2.2.2.1.length:Int)) then (
 idx a0.2.2.2.2.2.2.1 s1.2 fun x2 =>
((bif (x2.2.2.2.2.1 == (-1)) then (
(lR a1.2.2.2.2.1 2147483647).bind fun y3 =>
 some (x2.1,x2.2.1,x2.2.2.1,x2.2.2.2.1,y3,x2.2.2.2.2.2))
 else (
 some x2)):Option ae.D).bind fun o4 =>
 if (s1.1.length + [o4].length) * (24 * 7)≤aG then (
 some (.inl ((s1.1++[o4]),IntKind.wrap .i64 (s1.2 + 1)))) else none)
 else (
 some (.inr s1))
def wR (a0:bM.D) (a1:ae.D):Option (List ae.D) :=
 bif (a0.1 != 9) then (
 some [])
 else (
(aw (uX a0 a1) ([],0)).bind fun o5 =>
 some o5.1)
def MY:Hints:=(n0 (n0 (n0 (nd (n0 (nd (.node none (some ⟨[.tmpO 5 0 (.slice ae),.tmp 16 (.int .i64)],[some 0],none,[]⟩) (n0 (n0 (nd (nd (n0 (nd (n0 (cu ⟨[.box 7 0 ae],[none],none,[(7,0)]⟩)) .none)) .none) .none))) .none) .none)) .none))))
def Ci:Ct:=.pure true true (.pair bM (.pair ae .unit)) (.slice ae) (fun x=>wR x.1 x.2.1)
theorem AN:KC 377 Ci:=pq (Ec mW En) MY Tryz.func377
def sO (a0:aa.D) (a1:ae.D):Option ((List ae.D)×(Int×Unit)) :=
 bif (a0.2.2.2.2.2.2.1.1 == 1) then (
 bif (a1.1 == 1) then (
 some ([],a1.2.2.2.2.1,()))
 else (
 some ([],0,())))
 else (
 bif (a0.2.2.2.2.2.2.1.1 == 2) then (
(lR a1.2.2.2.2.1 a0.2.2.2.2.2.2.2.2.1).bind fun y1 =>
(wQ a1 (IntKind.wrap .i64 (a1.2.2.2.2.1 - y1))).bind fun y2 =>
 some ([y2],y1,()))
 else (
((bif (a0.2.2.2.2.2.2.1.1 == 3) then (
 some (a0.2.2.2.2.2.2.1.1 == 3))
 else (
((bif (a0.2.2.2.2.2.2.1.1 == 4) then (
 some (a0.2.2.2.2.2.2.1.1 == 4))
 else (
 some (a0.2.2.2.2.2.2.1.1 == 5))):Option Bool).bind fun o3 =>
 some o3)):Option Bool).bind fun o4 =>
 bif o4 then (
(ut a0.2.2.2.2.2.2.1 a1.2.2.2.2.1).bind fun y5 =>
(wQ a1 y5).bind fun y6 =>
 some ([y6],0,()))
 else (
((bif (a0.2.2.2.2.2.2.1.1 == 6) then (
 some (.inl (a1.1,a1.2.1,a0.2.2.2.2.2.2.1.2.2.1,a0.2.2.2.2.2.2.1.2.2.2.1,a1.2.2.2.2)))
 else (
((bif (a0.2.2.2.2.2.2.1.1 == 7) then (
((bif (a0.2.2.2.2.2.2.1.2.2.2.2.1 != 2) then (
 some (a1.1,a1.2.1,a1.2.2.1,a1.2.2.2.1,0,a0.2.2.2.2.2.2.1.2.2.2.2.1,false,()))
 else (
 some (a1.1,a1.2.1,a1.2.2.1,a1.2.2.2.1,a1.2.2.2.2.1,a0.2.2.2.2.2.2.1.2.2.2.2.1,a1.2.2.2.2.2.2))):Option ae.D).bind fun o7 =>
 some (.inl o7))
 else (
((bif (a0.2.2.2.2.2.2.1.1 == 8) then (
((bif (a1.2.2.2.2.2.1 == 2) then (
(lR (IntKind.wrap .i64 (a1.2.2.2.2.1 + a0.2.2.2.2.2.2.1.2.1)) 99).bind fun y8 =>
((bif a1.2.2.2.2.2.2.1 then (
 some (a1.1,a1.2.1,a1.2.2.1,a1.2.2.2.1,y8,a1.2.2.2.2.2.1,true,()))
 else (
 some (a1.1,a1.2.1,a1.2.2.1,a1.2.2.2.1,y8,a1.2.2.2.2.2.1,a0.2.2.2.2.2.2.1.2.2.2.2.2.1,()))):Option ae.D).bind fun o9 =>
 some o9)
 else (
 some a1)):Option ae.D).bind fun o10 =>
 some (.inl o10))
 else (
 bif (a0.2.2.2.2.2.2.1.1 == 9) then (
(wR a0.2.2.2.2.2.2.1 a1).bind fun y11 =>
 some (.inr ((y11,0))))
 else (
 some (.inl a1)))):Option (ae.D⊕((List ae.D)×Int))).bind fun o12 =>
 match o12 with
| .inl s13=>(
 some (.inl s13))
| .inr o14=>(
 some (.inr o14)))):Option (ae.D⊕((List ae.D)×Int))).bind fun o15 =>
 match o15 with
| .inl s16=>(
 some (.inl s16))
| .inr o17=>(
 some (.inr o17)))):Option (ae.D⊕((List ae.D)×Int))).bind fun o18 =>
 match o18 with
| .inl s19=>(
 some ([s19],0,()))
| .inr o20=>(
 some (o20.1,o20.2,())))))
def MZ:Hints:=(n0 (n0 (nd (n0 (nd (n0 (n0 (n0 (n0 (nd (n0 (.node (some ⟨[.tmp 34 .bool],[none],none,[]⟩) none .none (n0 (cu ⟨[.tmp 34 .bool],[none],none,[]⟩)))) (n0 (n0 (.node (some ⟨[.box 3 0 ae],[none],some [.tmpO 4 0 (.slice ae),.tmp 5 (.int .i64)],[(3,0)]⟩) none .none (n0 (.node (some ⟨[.box 3 0 ae],[none],some [.tmpO 4 0 (.slice ae),.tmp 5 (.int .i64)],[(3,0)]⟩) none (n0 (n0 (cu ⟨[.box 3 0 ae],[none],none,[(3,0)]⟩))) (n0 (.node (some ⟨[.box 3 0 ae],[none],some [.tmpO 4 0 (.slice ae),.tmp 5 (.int .i64)],[(3,0)]⟩) none (n0 (.node (some ⟨[.box 3 0 ae],[none],none,[(3,0)]⟩) none (n0 (cu ⟨[.box 3 0 ae],[none],none,[(3,0)]⟩)) .none)) .none)))))))))))) .none)) .none)))
def Cj:Ct:=.pure false true (.pair aa (.pair ae .unit)) (.pair (.slice ae) (.pair (.int .i64) .unit)) (fun x=>sO x.1 x.2.1)
theorem AO:KC 343 Cj:=pq (Ec mW (Ec KS (Ec Jd (Ec AN En)))) MZ Tryz.func343
def bN (a1:((ae.D×Unit)→Option Bool)):((List ae.D)×(Int×Int))→Option (((List ae.D)×(Int×Int))⊕((List ae.D)×(Int×Int))):=fun s3 =>
 bif decide (s3.2.2 < (s3.1.length:Int)) then (
 idx s3.1 s3.2.2 fun _ =>
(s3.1[(s3.2.2:Int).toNat]?).bind fun x4 =>
(a1 (x4,())).bind fun y5 =>
((bif (!y5) then (
 idx s3.1 s3.2.1 fun _ =>
(s3.1[(s3.2.1:Int).toNat]?).bind fun x6 =>
 let u7:(List ae.D):=s3.1.set (s3.2.1:Int).toNat x4
 some (u7,IntKind.wrap .i64 (s3.2.1 + 1)))
 else (
 some (s3.1,s3.2.1))):Option ((List ae.D)×Int)).bind fun o8 =>
 some (.inl (o8.1,o8.2,IntKind.wrap .i64 (s3.2.2 + 1))))
 else (
 some (.inr s3))
def br (a0:(List ae.D)) (a1:((ae.D×Unit)→Option Bool)):Option ((List ae.D)×Unit) :=
(bz a0 a1).bind fun y1 =>
 bif (y1 == (-1)) then (
 some (a0,()))
 else (
(aw (bN a1) (a0,y1,IntKind.wrap .i64 (y1 + 1))).bind fun o9 =>
 if 0≤o9.2.1 then (if o9.2.1≤(o9.1.length:Int) then (if (o9.1.length:Int)≤(o9.1.length:Int) then (
 if 0≤(0:Int) then (if (0:Int)≤o9.2.1 then (if o9.2.1≤((o9.1.take (o9.2.1.toNat)++List.replicate ((o9.1.length:Int).toNat - o9.2.1.toNat) (0,0,0,0,0,0,false,())++o9.1.drop ((o9.1.length:Int).toNat)).length:Int) then (
 some ((((o9.1.take (o9.2.1.toNat)++List.replicate ((o9.1.length:Int).toNat - o9.2.1.toNat) (0,0,0,0,0,0,false,())++o9.1.drop ((o9.1.length:Int).toNat)).take (o9.2.1.toNat)).drop ((0:Int).toNat)),())) else none) else none) else none) else none) else none) else none)
def oL:Hints:=(n0 (n0 (n0 (nd (n0 (nd (.node none (some ⟨[.tmpO 0 1 (.slice ae),.tmp 5 (.int .i64),.tmp 6 (.int .i64)],[some 0],none,[]⟩) (n0 (nd (nd (n0 (n0 (cu ⟨[.tmpO 0 2 (.slice ae),.tmp 5 (.int .i64)],[none],none,[(0,1)]⟩))) .none) .none)) .none) .none)) .none))))
def jS:Ct:=.mut [.tk,.rd] true true (.pair (.slice ae) (.pair (.fn (.pair ae .unit) .bool) .unit)) (.slice ae) (fun x=>br x.1 x.2.1)
theorem eN:KC 306 jS:=mq (Ec gP En) oL Tryz.func306
def rA (a0:ae.D):Option Bool :=
(b7 a0).bind fun y1 =>
 bif (!y1) then (
 some true)
 else (
(vN a0).bind fun y2 =>
 some y2)
def Je:Ct:=.pure true false (.pair ae .unit) .bool (fun x=>rA x.1)
theorem GY:KC 344 Je:=pq (Ec cd (Ec DN En)) .none Tryz.func344
def gQ (a0:Int) (a1:Int):Option Int :=
(cz a0).bind fun y1 =>
(cz a1).bind fun y2 =>
(cz (IntKind.wrap .i64 (y1 - y2))).bind fun y3 =>
 some y3
def OF:Ct:=.pure true false bP (.int .i64) (fun x=>gQ x.1 x.2.1)
theorem rB:KC 363 OF:=pq (Ec iC En) .none Tryz.func363
def wT (a0:aa.D) (a1:Int):Option aa.D :=
(db a0).bind fun y1 =>
 bif (y1.2.2.2.2.2.2.1.1 == 2) then (
(gQ y1.2.2.2.2.2.2.2.2.1 a1).bind fun y2 =>
(lR y2 2147483647).bind fun y3 =>
 some (y1.1,y1.2.1,y1.2.2.1,y1.2.2.2.1,y1.2.2.2.2.1,y1.2.2.2.2.2.1,y1.2.2.2.2.2.2.1,y1.2.2.2.2.2.2.2.1,y3,()))
 else (
 bif decide (y1.2.2.2.2.2.2.2.2.1 > 0) then (
 some (y1.1,y1.2.1,y1.2.2.1,y1.2.2.2.1,y1.2.2.2.2.1,y1.2.2.2.2.2.1,y1.2.2.2.2.2.2.1,y1.2.2.2.2.2.2.2.1,IntKind.wrap .i64 (y1.2.2.2.2.2.2.2.2.1 - 1),()))
 else (
 some y1))
def Ck:Ct:=.pure true true (.pair aa (.pair (.int .i64) .unit)) aa (fun x=>wT x.1 x.2.1)
theorem AP:KC 345 Ck:=pq (Ec cY (Ec rB (Ec mW En))) .none Tryz.func345
def wU (a0:aa.D) (a1:ae.D):Option ((List ae.D)×(Int×(aa.D×Unit))) :=
(((cD a0).bind fun y1 =>
 bif (!y1) then (
 some true)
 else (
(b7 a1).bind fun y2 =>
 bif (!y2) then (
 some true)
 else (
(dF a0.2.2.2.2.2.2.1 a1.1).bind fun y3 =>
 some (!y3)))):Option Bool).bind fun o4 =>
 bif o4 then (
(db a0).bind fun y5 =>
 some ([a1],0,y5,()))
 else (
(sO a0 a1).bind fun y6 =>
(br y6.1 (fun q=>rA q.1)).bind fun y7 =>
(wT a0 y6.2.1).bind fun y8 =>
 some (y7.1,y6.2.1,y8,()))
def M0:Hints:=(n0 (nd (nd (cu ⟨[.tmp 24 .bool],[none],none,[]⟩) .none) .none))
def sP:Ct:=.pure false true (.pair aa (.pair ae .unit)) (.pair (.slice ae) (.pair (.int .i64) (.pair aa .unit))) (fun x=>wU x.1 x.2.1)
theorem AQ:KC 279 sP:=pq (Ec cd (Ec oF (Ec cY (Ec xI (Ec eN (Ec AO (Ec GY (Ec AP En)))))))) M0 Tryz.func279
def rC (a0:ac.D) (a1:ae.D):Option Int :=
(qd a0 a1).bind fun y1 =>
 bif (y1 != (-1)) then (
 some y1)
 else (
 some a0.2.2.1)
def zv:Ct:=.pure true false (.pair ac (.pair ae .unit)) (.int .i64) (fun x=>rC x.1 x.2.1)
theorem GZ:KC 280 zv:=pq (Ec zu En) .none Tryz.func280
def sQ (a0:aA.D):Option Bool :=
 some true
def vQ:Ct:=.pure true false (.pair aA .unit) .bool (fun x=>sQ x.1)
theorem DP:KC 165 vQ:=pq En .none Tryz.func165
def uu (a0:(List aa.D)) (a1:aa.D):Option (List aa.D) :=
(b9 a0).bind fun y1 =>
(gn a0 a1.1).bind fun y2 =>
 bif decide (y2≥0) then (
(db a1).bind fun y3 =>
 idx y1 y2 fun _ =>
(y1[(y2:Int).toNat]?).bind fun x4 =>
 let u5:(List aa.D):=y1.set (y2:Int).toNat y3
 some u5)
 else (
 some y1)
def qW:Ct:=.pure true true (.pair (.slice aa) (.pair aa .unit)) (.slice aa) (fun x=>uu x.1 x.2.1)
theorem zw:KC 281 qW:=pq (Ec bB (Ec cY (Ec jC En))) .none Tryz.func281
def fZ (rec:(tF.D→ae.D→(List Int)→Option (Bool×tF.D))) (x5:Int) (y8:((List ae.D)×(Int×(aa.D×Unit)))) (y12:(List Int)):(Int×(mr.D×(ww.D×Unit)))→Option ((Int×(mr.D×(ww.D×Unit)))⊕((Int×(mr.D×(ww.D×Unit)))⊕(Bool×(mr.D×(ww.D×Unit))))):=fun s14 =>
 bif decide (s14.1 < (y8.1.length:Int)) then (
 idx y8.1 s14.1 fun x15 =>
(rec s14.2 x15 (y12++[x5])).bind fun y16 =>
 bif (!y16.1) then (
 some (.inr (.inr ((false,y16.2)))))
 else (
 some (.inl (IntKind.wrap .i64 (s14.1 + 1),y16.2))))
 else (
 some (.inr (.inl s14)))
def ff (rec:(tF.D→ae.D→(List Int)→Option (Bool×tF.D))) (x:tF.D) (a0:ae.D) (a1:(List Int)):Option (Bool×tF.D) :=
(rv x.1 x.2.1.2.1 a0 a1).bind fun y1 =>
 bif ((y1.length:Int) == 0) then (
(vN a0).bind fun y2 =>
((bif (!y2) then (
 if (x.2.1.1.length + [a0].length) * (24 * 7)≤aG then (
 some (x.1,((x.2.1.1++[a0]),x.2.1.2),())) else none)
 else (
 some x)):Option tF.D).bind fun o3 =>
 some (true,o3))
 else (
(sN x (y1.length:Int)).bind fun y4 =>
 bif (!y4.1.2.1) then (
 some (false,y4.2))
 else (
 idx y1 y4.1.1 fun _ =>
(y1[(y4.1.1:Int).toNat]?).bind fun x5 =>
(gn y4.2.2.1.2.1 x5).bind fun y6 =>
 idx y4.2.2.1.2.1 y6 fun x7 =>
(wU x7 a0).bind fun y8 =>
(rC y4.2.1 a0).bind fun y9 =>
(sQ (x5,y9,y4.1.1,(y1.length:Int),a0,y8.1,y8.2.1,(a1.length:Int),())).bind fun y10 =>
 bif (!y10) then (
 none)
 else (
(uu y4.2.2.1.2.1 y8.2.2.1).bind fun y11 =>
 if (y4.2.2.1.2.2.2.1.length + [(x5,y9,y4.1.1,(y1.length:Int),a0,y8.1,y8.2.1,(a1.length:Int),())].length) * (24 * 14)≤aG then (
(bA a1).bind fun y12 =>
 if (y12.length + [x5].length) * (24 * 1)≤aG then (
(aw (fZ rec x5 y8 y12) (0,y4.2.1,(y4.2.2.1.1,y11,y4.2.2.1.2.2.1,(y4.2.2.1.2.2.2.1++[(x5,y9,y4.1.1,(y1.length:Int),a0,y8.1,y8.2.1,(a1.length:Int),())]),()),())).bind fun o17 =>
 match o17 with
| .inl s18=>(
 some (true,s18.2))
| .inr o19=>(
 some (o19.1,o19.2))) else none) else none)))
def cS (n:Nat):tF.D→ae.D→(List Int)→Option (Bool×tF.D):=Nat.rec (motive:=fun _=>(tF.D→ae.D→(List Int)→Option (Bool×tF.D))) (fun _ _ _=>none) (fun _ g=>ff g) n
def AR:Hints:=(n0 (n0 (nd (n0 (nd (nd (n0 (cu ⟨[.boxO 0 0 6 tF [.fn 163 [(0,1)],.fn 165 []]],[none],none,[(0,2),(0,0),(0,3),(0,4),(0,5)]⟩)) .none) .none)) (nd (.node none (some ⟨[],[some 6],none,[]⟩) .none .none) (n0 (n0 (nd (nd (cu ⟨[],[],none,[(0,7)]⟩) .none) (nd (nd (cu ⟨[],[],none,[(79,0)]⟩) .none) (n0 (n0 (n0 (n0 (nd (nd (nd (cu ⟨[],[],none,[(133,0)]⟩) .none) (nd (.node none (some ⟨[.tmp 136 (.int .i64),.boxO 0 0 10 tF [.fn 163 [(0,1)],.fn 165 []]],[some 0],some [.tmp 6 .bool,.boxO 0 0 10 tF [.fn 163 [(0,1)],.fn 165 []]],[]⟩) (n0 (n0 (nd (nd (n0 (nd (.node none (some ⟨[],[some 3],none,[]⟩) .none .none) .none)) .none) .none))) .none) .none)) .none)))))))))))))
def jT (g:(tF.D→ae.D→(List Int)→Option (Bool×tF.D))):Ct:=.run tF [(163,true),(165,false)] true false true (.pair ae (.pair (.slice (.int .i64)) .unit)) .bool (fun x y=>g x y.1 y.2.1)
theorem zx (n:Nat):cI Tryz.prog 166 (jT (cS n)):=by
 induction n with
 | zero=>exact Oa (fn:=Tryz.f166) tF [(163,true),(165,false)] true false true (.pair ae (.pair (.slice (.int .i64)) .unit)) .bool Tryz.func166 (by kernel_rfl)
 | succ n ih=>exact Mm (E:={ T:=TF,G:=[(166,jT (cS n)),(163,vP),(153,eC),(165,vQ),(211,xK),(277,qe),(278,Gj),(279,sP),(280,zv),(281,qW)],V:=[124],Z:=true }) (ar.frz (ar.views (ar.cons (ih) (ar.cons DO (ar.cons bG (ar.cons DP (ar.cons jC (ar.cons yf (ar.cons DN (ar.cons AQ (ar.cons GZ (ar.cons zw (ar.nil PV))))))))))))) mixed (fn:=Tryz.f166) tF [(163,true),(165,false)] true false true (.pair ae (.pair (.slice (.int .i64)) .unit)) .bool (fun x y=>ff (cS n) x y.1 y.2.1) AR Tryz.func166 (by kernel_rfl) (fun x y=>by kernel_rfl)
def jD (a0:ac.D) (a1:(List aa.D)) (a2:ae.D) (a3:(List Int)):Option bp.D :=
(b9 a1).bind fun y1 =>
(bA a3).bind fun y2 =>
(((dE a0).bind fun y3 =>
 bif (!y3) then (
 some true)
 else (
(b7 a2).bind fun y4 =>
 bif (!y4) then (
 some true)
 else (
(fW a1).bind fun y5 =>
 some (!y5)))):Option Bool).bind fun o6 =>
 bif o6 then (
 some ([],y1,y2,[],()))
 else (
(cS 8 (a0,([],y1,y2,[],()),()) a2 []).bind fun y7 =>
(gK y7.2.2.1.2.2.2.1).bind fun y8 =>
 some (y7.2.2.1.1,y7.2.2.1.2.1,y7.2.2.1.2.2.1,y8,()))
def Jf:Hints:=(n0 (n0 (nd (nd (cu ⟨[.tmp 30 .bool],[none],none,[]⟩) .none) (n0 (n0 (nd (.node none (some ⟨[],[some 2],none,[]⟩) .none .none) .none))))))
def zy:Ct:=.pure true true (.pair ac (.pair (.slice aa) (.pair ae (.pair (.slice (.int .i64)) .unit)))) bp (fun x=>jD x.1 x.2.1 x.2.2.1 x.2.2.2.1)
theorem yg:cI Tryz.prog 52 zy:=wv (E:={ T:=tab,G:=[(166,jT (cS 8)),(81,zl),(82,zo),(152,ig),(153,eC),(162,zn),(167,ij)],Z:=true }) (ar.frz (ar.cons (zx 8) (ar.cons dN (ar.cons kR (ar.cons bB (ar.cons bG (ar.cons cd (ar.cons gL (ar.nil dL))))))))) mixed (fn:=Tryz.f52) _ _ _ _ _ Jf Tryz.func52 (by kernel_rfl) (fun x=>by kernel_rfl)
def fg (a0:Unit) (a1:Int):Option ((List ae.D)×Unit) :=
((bif decide (a1 < 0) then (
 none)
 else (
 some ())):Option Unit).bind fun o1 =>
 bif decide ((IntKind.wrap .i64 (a1 - (IntKind.wrap .i64 (0 - 0)))) > 0) then (
 if 0≤(0:Int) then (if (0:Int)≤(0:Int) then (if (0:Int)≤((0:Nat):Int) then (
 if 0 < (IntKind.wrap .i64 (a1 - (IntKind.wrap .i64 (0 - 0)))) then (if (IntKind.wrap .i64 (a1 - (IntKind.wrap .i64 (0 - 0)))).toNat * (24 * 7)≤aG then (
 if 0≤(0:Int) then (if (0:Int)≤(0:Int) then (if (0:Int)≤((List.replicate (IntKind.wrap .i64 (a1 - (IntKind.wrap .i64 (0 - 0)))).toNat (0,0,0,0,0,0,false,()):List ae.D).length:Int) then (
 some ((((List.replicate (IntKind.wrap .i64 (a1 - (IntKind.wrap .i64 (0 - 0)))).toNat (0,0,0,0,0,0,false,()):List ae.D).take ((0:Int).toNat)).drop ((0:Int).toNat)),())) else none) else none) else none) else none) else none) else none) else none) else none)
 else (
 some ([],()))
def uY:Hints:=(n0 (nd (n0 (cu ⟨[],[none],none,[]⟩)) .none))
def oM:Ct:=.mut [.nil,.rd] true true (.pair .unit (.pair (.int .i64) .unit)) (.slice ae) (fun x=>fg x.1 x.2.1)
theorem nJ:KC 288 oM:=mq En uY Tryz.func288
def cn (a0:(List (List ae.D))):(Int×Int)→Option ((Int×Int)⊕(Int×Int)):=fun s1 =>
 bif decide (s1.2 < (a0.length:Int)) then (
 idx a0 s1.2 fun x2 =>
 bif decide ((IntKind.wrap .i64 (s1.1 + (x2.length:Int))) < 0) then (
 none)
 else (
 some (.inl (IntKind.wrap .i64 (s1.1 + (x2.length:Int)),IntKind.wrap .i64 (s1.2 + 1)))))
 else (
 some (.inr s1))
def cp (a0:(List (List ae.D))):((List ae.D)×Int)→Option (((List ae.D)×Int)⊕((List ae.D)×Int)):=fun s5 =>
 bif decide (s5.2 < (a0.length:Int)) then (
 idx a0 s5.2 fun x6 =>
 if (s5.1.length + x6.length) * (24 * 7)≤aG then (
 some (.inl ((s5.1++x6),IntKind.wrap .i64 (s5.2 + 1)))) else none)
 else (
 some (.inr s5))
def eD (a0:(List (List ae.D))):Option (List ae.D) :=
(aw (cn a0) (0,0)).bind fun o3 =>
(fg () o3.1).bind fun y4 =>
(aw (cp a0) (y4.1,0)).bind fun o7 =>
 some o7.1
def sR:Hints:=(n0 (n0 (nd (n0 (nd (.node none (some ⟨[.tmp 3 (.int .i64),.tmp 11 (.int .i64)],[some 0],none,[]⟩) .none .none) .none)) (n0 (nd (n0 (nd (.node none (some ⟨[.tmpO 6 0 (.slice ae),.tmp 27 (.int .i64)],[some 2],none,[]⟩) .none .none) .none)) .none)))))
def f8:Ct:=.pure true true (.pair (.slice (.slice ae)) .unit) (.slice ae) (fun x=>eD x.1)
theorem ma:KC 181 f8:=pq (Ec nJ En) sR Tryz.func181
def fH (a0:Unit) (a1:Int):Option ((List eK.D)×Unit) :=
((bif decide (a1 < 0) then (
 none)
 else (
 some ())):Option Unit).bind fun o1 =>
 bif decide ((IntKind.wrap .i64 (a1 - (IntKind.wrap .i64 (0 - 0)))) > 0) then (
 if 0≤(0:Int) then (if (0:Int)≤(0:Int) then (if (0:Int)≤((0:Nat):Int) then (
 if 0 < (IntKind.wrap .i64 (a1 - (IntKind.wrap .i64 (0 - 0)))) then (if (IntKind.wrap .i64 (a1 - (IntKind.wrap .i64 (0 - 0)))).toNat * (24 * 14)≤aG then (
 if 0≤(0:Int) then (if (0:Int)≤(0:Int) then (if (0:Int)≤((List.replicate (IntKind.wrap .i64 (a1 - (IntKind.wrap .i64 (0 - 0)))).toNat (0,0,0,0,(0,0,0,0,0,0,false,()),[],0,0,()):List eK.D).length:Int) then (
 some ((((List.replicate (IntKind.wrap .i64 (a1 - (IntKind.wrap .i64 (0 - 0)))).toNat (0,0,0,0,(0,0,0,0,0,0,false,()),[],0,0,()):List eK.D).take ((0:Int).toNat)).drop ((0:Int).toNat)),())) else none) else none) else none) else none) else none) else none) else none) else none)
 else (
 some ([],()))
def vR:Hints:=(n0 (nd (n0 (cu ⟨[],[none],none,[]⟩)) .none))
def gZ:Ct:=.mut [.nil,.rd] true true (.pair .unit (.pair (.int .i64) .unit)) (.slice eK) (fun x=>fH x.1 x.2.1)
theorem oN:cI Tryz.prog 289 gZ:=d8 (E:={ T:=TF,G:=[] }) (ar.nil PV) mixed (fn:=Tryz.f289) _ _ _ _ _ _ vR Tryz.func289 (by kernel_rfl) (fun x=>by kernel_rfl)
def cA (a0:(List (List eK.D))):(Int×Int)→Option ((Int×Int)⊕(Int×Int)):=fun s1 =>
 bif decide (s1.2 < (a0.length:Int)) then (
 idx a0 s1.2 fun x2 =>
 bif decide ((IntKind.wrap .i64 (s1.1 + (x2.length:Int))) < 0) then (
 none)
 else (
 some (.inl (IntKind.wrap .i64 (s1.1 + (x2.length:Int)),IntKind.wrap .i64 (s1.2 + 1)))))
 else (
 some (.inr s1))
def cB (a0:(List (List eK.D))):((List eK.D)×Int)→Option (((List eK.D)×Int)⊕((List eK.D)×Int)):=fun s5 =>
 bif decide (s5.2 < (a0.length:Int)) then (
 idx a0 s5.2 fun x6 =>
 if (s5.1.length + x6.length) * (24 * 14)≤aG then (
 some (.inl ((s5.1++x6),IntKind.wrap .i64 (s5.2 + 1)))) else none)
 else (
 some (.inr s5))
def eO (a0:(List (List eK.D))):Option (List aA.D) :=
(aw (cA a0) (0,0)).bind fun o3 =>
(fH () o3.1).bind fun y4 =>
(aw (cB a0) (y4.1,0)).bind fun o7 =>
 some o7.1
def tG:Hints:=(n0 (n0 (nd (n0 (nd (.node none (some ⟨[.tmp 3 (.int .i64),.tmp 11 (.int .i64)],[some 0],none,[]⟩) .none .none) .none)) (n0 (nd (n0 (nd (.node none (some ⟨[.tmpO 6 0 (.slice eK),.tmp 27 (.int .i64)],[some 2],none,[]⟩) .none .none) .none)) .none)))))
def jM:Ct:=.pure true false (.pair (.slice (.slice eK)) .unit) (.slice aA) (fun x=>eO x.1)
theorem sS:cI Tryz.prog 182 jM:=wv (E:={ T:=TF,G:=[(289,gZ)] }) (ar.cons oN (ar.nil PV)) mixed (fn:=Tryz.f182) _ _ _ _ _ tG Tryz.func182 (by kernel_rfl) (fun x=>by kernel_rfl)
def vS (a0:bp.D) (a1:bp.D):Option bp.D :=
(eD [a0.1,a1.1]).bind fun y1 =>
(b9 a1.2.1).bind fun y2 =>
(bA a1.2.2.1).bind fun y3 =>
(eO [a0.2.2.2.1,a1.2.2.2.1]).bind fun y4 =>
(gK y4).bind fun y5 =>
 some (y1,y2,y3,y5,())
def DQ:Ct:=.pure true true (.pair bp (.pair bp .unit)) bp (fun x=>vS x.1 x.2.1)
theorem Cl:cI Tryz.prog 75 DQ:=wv (E:={ T:=tab,G:=[(152,ig),(153,eC),(167,ij),(181,f8),(182,jM)],V:=[9,21] }) (ar.views (ar.cons bB (ar.cons bG (ar.cons gL (ar.cons ma (ar.cons sS (ar.nil dL))))))) mixed (fn:=Tryz.f75) _ _ _ _ _ .none Tryz.func75 (by kernel_rfl) (fun x=>by kernel_rfl)
def il (a0:ac.D) (a2:(List ae.D)):(Int×((List ae.D)×((List aa.D)×((List Int)×((List aA.D)×Unit)))))→Option ((Int×((List ae.D)×((List aa.D)×((List Int)×((List aA.D)×Unit)))))⊕(Int×((List ae.D)×((List aa.D)×((List Int)×((List aA.D)×Unit)))))):=fun s8 =>
 bif decide (s8.1 < (a2.length:Int)) then (
 idx a2 s8.1 fun x9 =>
(jD a0 s8.2.2.1 x9 s8.2.2.2.1).bind fun y10 =>
(vS s8.2 y10).bind fun y11 =>
 some (.inl (IntKind.wrap .i64 (s8.1 + 1),y11)))
 else (
 some (.inr s8))
def kV (a0:ac.D) (a1:(List aa.D)) (a2:(List ae.D)) (a3:(List Int)):Option bp.D :=
(b9 a1).bind fun y1 =>
(bA a3).bind fun y2 =>
(((mV a2).bind fun y3 =>
 bif (!y3) then (
 some true)
 else (
(dE a0).bind fun y4 =>
 bif (!y4) then (
 some true)
 else (
(fW a1).bind fun y5 =>
 some (!y5)))):Option Bool).bind fun o6 =>
 bif o6 then (
 some ([],y1,y2,[],()))
 else (
(aw (il a0 a2) (0,[],y1,y2,[],())).bind fun o12 =>
 some o12.2)
def DR:Hints:=(n0 (n0 (nd (nd (cu ⟨[.tmp 29 .bool],[none],none,[]⟩) .none) (nd (n0 (nd (.node none (some ⟨[.tmp 33 (.int .i64),.boxO 9 0 1 bp],[some 0],none,[]⟩) .none .none) .none)) .none))))
def vT:Ct:=.pure true true (.pair ac (.pair (.slice aa) (.pair (.slice ae) (.pair (.slice (.int .i64)) .unit)))) bp (fun x=>kV x.1 x.2.1 x.2.2.1 x.2.2.2.1)
theorem uZ:KC 65 vT:=pq (Ec yg (Ec Cl (Ec xL (Ec dN (Ec kR (Ec bB (Ec bG En))))))) DR Tryz.func65
def u6 (a0:ae.D):Option Bool :=
 some (a0.1 == 2)
def G0:Ct:=.pure true false (.pair ae .unit) .bool (fun x=>u6 x.1)
theorem Fh:KC 305 G0:=pq En .none Tryz.func305
def Bw (z0:((ae.D×Unit)→Option Bool)) (a0:ae.D):Option Bool :=
(z0 (a0,())).bind fun y1 =>
 some (!y1)
def G1:Ct:=.clo (.pair ae .unit) (.pair (.fn (.pair ae .unit) .bool) .unit) .bool (fun z x=>Bw z.1 x.1)
theorem Fi:KC 307 G1:=cq En .none Tryz.func307
def f9 (a0:ac.D) (a1:Int):Option Int :=
(fX a0 a1).bind fun y1 =>
((bif decide (y1 < 0) then (
 some true)
 else (
 idx a0.1 y1 fun x2 =>
 some (x2.2.2.2.1 != 2))):Option Bool).bind fun o3 =>
 bif o3 then (
 some (-1))
 else (
 some y1)
def Jg:Hints:=(n0 (n0 (nd (nd (cu ⟨[.tmp 19 .bool],[none],none,[]⟩) .none) .none)))
def Jh:Ct:=.pure true false (.pair ac (.pair (.int .i64) .unit)) (.int .i64) (fun x=>f9 x.1 x.2.1)
theorem qD:KC 380 Jh:=pq (Ec iw En) Jg Tryz.func380
def mX (a0:ac.D) (a1:ae.D):Option Bool :=
 bif (a1.2.2.1 == 0) then (
(aZ a0 a1.2.2.2.1).bind fun y1 =>
 some y1)
 else (
(f9 a0 a1.2.2.1).bind fun y2 =>
 some (decide (y2≥0)))
def Ji:Ct:=.pure true false (.pair ac (.pair ae .unit)) .bool (fun x=>mX x.1 x.2.1)
theorem xM:KC 379 Ji:=pq (Ec gM (Ec qD En)) .none Tryz.func379
def aP (a0:ai.D) (a1:Int):Option Bool :=
((bif (a1 == 1) then (
 some (a1 == 1))
 else (
((bif (a1 == 2) then (
 some (a1 == 2))
 else (
((bif (a1 == 4) then (
 some (a1 == 4))
 else (
((bif (a1 == 8) then (
 some (a1 == 8))
 else (
((bif (a1 == 16) then (
 some (a1 == 16))
 else (
 some (a1 == 32))):Option Bool).bind fun o1 =>
 some o1)):Option Bool).bind fun o2 =>
 some o2)):Option Bool).bind fun o3 =>
 some o3)):Option Bool).bind fun o4 =>
 some o4)):Option Bool).bind fun o5 =>
 bif o5 then (
 let k6:Int:=IntKind.wrap .i64 (BitVec.ofInt (IntKind.bits .i64) a0.2.2.2.2.2.2.2.1 &&& BitVec.ofInt (IntKind.bits .i64) a1).toNat
 some (k6 != 0))
 else (
 some false)
def G2:Hints:=(n0 (nd (n0 (nd (nd (n0 (.node (some ⟨[.tmp 6 .bool],[none],none,[]⟩) none .none (n0 (.node (some ⟨[.tmp 6 .bool],[none],none,[]⟩) none .none (n0 (.node (some ⟨[.tmp 6 .bool],[none],none,[]⟩) none .none (n0 (.node (some ⟨[.tmp 6 .bool],[none],none,[]⟩) none .none (n0 (cu ⟨[.tmp 6 .bool],[none],none,[]⟩)))))))))) .none) .none)) .none))
def G3:Ct:=.pure true false (.pair ai (.pair (.int .i64) .unit)) .bool (fun x=>aP x.1 x.2.1)
theorem oO:KC 44 G3:=pq En G2 Tryz.func44
def lS (a0:ac.D) (a1:ai.D) (a2:ae.D):Option (ac.D×(Int×Unit)) :=
(cX a0).bind fun y1 =>
(dE y1).bind fun y2 =>
 bif (!y2) then (
 some (y1,0,()))
 else (
(b7 a2).bind fun y3 =>
 bif (!y3) then (
 some (y1,0,()))
 else (
 bif (a2.1 != 1) then (
 some (y1,0,()))
 else (
(mX y1 a2).bind fun y4 =>
 bif (!y4) then (
 some (y1,0,()))
 else (
(aP a1 2).bind fun y5 =>
 bif (a2.2.2.1 == 0) then (
 bif y5 then (
 idx y1.2.1 a2.2.2.2.1 fun _ =>
(y1.2.1[(a2.2.2.2.1:Int).toNat]?).bind fun x6 =>
(bn x6.2.1 a2.2.2.2.2.1).bind fun y7 =>
 idx y1.2.1 a2.2.2.2.1 fun _ =>
(y1.2.1[(a2.2.2.2.1:Int).toNat]?).bind fun x8 =>
 let u9:(List ay.D):=y1.2.1.set (a2.2.2.2.1:Int).toNat (x8.1,y7,x8.2.2)
(aP a1 1).bind fun y10 =>
 bif y10 then (
(aZ (y1.1,u9,y1.2.2) a1.2.2.1).bind fun y11 =>
 bif y11 then (
 idx u9 a1.2.2.1 fun _ =>
(u9[(a1.2.2.1:Int).toNat]?).bind fun x12 =>
(bn x12.1 a2.2.2.2.2.1).bind fun y13 =>
 idx u9 a1.2.2.1 fun _ =>
(u9[(a1.2.2.1:Int).toNat]?).bind fun x14 =>
 let u15:(List ay.D):=u9.set (a1.2.2.1:Int).toNat (y13,x14.2)
 some ((y1.1,u15,y1.2.2),a2.2.2.2.2.1,()))
 else (
 some ((y1.1,u9,y1.2.2),a2.2.2.2.2.1,())))
 else (
 some ((y1.1,u9,y1.2.2),a2.2.2.2.2.1,())))
 else (
 bif (a2.2.2.1 == 0) then (
 idx y1.2.1 a2.2.2.2.1 fun _ =>
(y1.2.1[(a2.2.2.2.1:Int).toNat]?).bind fun x16 =>
(gQ x16.1 a2.2.2.2.2.1).bind fun y17 =>
 idx y1.2.1 a2.2.2.2.1 fun _ =>
(y1.2.1[(a2.2.2.2.1:Int).toNat]?).bind fun x18 =>
 let u19:(List ay.D):=y1.2.1.set (a2.2.2.2.1:Int).toNat (y17,x18.2)
(aP a1 1).bind fun y20 =>
 bif y20 then (
(aZ (y1.1,u19,y1.2.2) a1.2.2.1).bind fun y21 =>
 bif y21 then (
 idx u19 a1.2.2.1 fun _ =>
(u19[(a1.2.2.1:Int).toNat]?).bind fun x22 =>
(bn x22.1 a2.2.2.2.2.1).bind fun y23 =>
 idx u19 a1.2.2.1 fun _ =>
(u19[(a1.2.2.1:Int).toNat]?).bind fun x24 =>
 let u25:(List ay.D):=u19.set (a1.2.2.1:Int).toNat (y23,x24.2)
 some ((y1.1,u25,y1.2.2),a2.2.2.2.2.1,()))
 else (
 some ((y1.1,u19,y1.2.2),a2.2.2.2.2.1,())))
 else (
 some ((y1.1,u19,y1.2.2),a2.2.2.2.2.1,())))
 else (
(f9 y1 a2.2.2.1).bind fun y26 =>
 idx y1.1 y26 fun _ =>
 bif y5 then (
(y1.1[(y26:Int).toNat]?).bind fun x27 =>
(bn x27.2.2.2.2.2.2.2.2.2.1 a2.2.2.2.2.1).bind fun y28 =>
(y1.1[(y26:Int).toNat]?).bind fun x29 =>
 let u30:(List ai.D):=y1.1.set (y26:Int).toNat (x29.1,x29.2.1,x29.2.2.1,x29.2.2.2.1,x29.2.2.2.2.1,x29.2.2.2.2.2.1,x29.2.2.2.2.2.2.1,x29.2.2.2.2.2.2.2.1,x29.2.2.2.2.2.2.2.2.1,y28,x29.2.2.2.2.2.2.2.2.2.2)
(u30[(y26:Int).toNat]?).bind fun x31 =>
 bif x31.2.2.2.2.2.2.2.2.2.2.2.1 then (
(u30[(y26:Int).toNat]?).bind fun x32 =>
 let u33:(List ai.D):=u30.set (y26:Int).toNat (x32.1,x32.2.1,x32.2.2.1,x32.2.2.2.1,x32.2.2.2.2.1,x32.2.2.2.2.2.1,x32.2.2.2.2.2.2.1,x32.2.2.2.2.2.2.2.1,x32.2.2.2.2.2.2.2.2.1,x32.2.2.2.2.2.2.2.2.2.1,x32.2.2.2.2.2.2.2.2.2.2.1,true,x32.2.2.2.2.2.2.2.2.2.2.2.2)
(aP a1 1).bind fun y34 =>
 bif y34 then (
(aZ (u33,y1.2) a1.2.2.1).bind fun y35 =>
 bif y35 then (
 idx y1.2.1 a1.2.2.1 fun _ =>
(y1.2.1[(a1.2.2.1:Int).toNat]?).bind fun x36 =>
(bn x36.1 a2.2.2.2.2.1).bind fun y37 =>
 idx y1.2.1 a1.2.2.1 fun _ =>
(y1.2.1[(a1.2.2.1:Int).toNat]?).bind fun x38 =>
 let u39:(List ay.D):=y1.2.1.set (a1.2.2.1:Int).toNat (y37,x38.2)
 some ((u33,u39,y1.2.2),a2.2.2.2.2.1,()))
 else (
 some ((u33,y1.2),a2.2.2.2.2.1,())))
 else (
 some ((u33,y1.2),a2.2.2.2.2.1,())))
 else (
(aP a1 4).bind fun y40 =>
 bif y40 then (
(u30[(y26:Int).toNat]?).bind fun x41 =>
 let u42:(List ai.D):=u30.set (y26:Int).toNat (x41.1,x41.2.1,x41.2.2.1,x41.2.2.2.1,x41.2.2.2.2.1,x41.2.2.2.2.2.1,x41.2.2.2.2.2.2.1,x41.2.2.2.2.2.2.2.1,x41.2.2.2.2.2.2.2.2.1,x41.2.2.2.2.2.2.2.2.2.1,x41.2.2.2.2.2.2.2.2.2.2.1,decide (a2.2.2.2.2.1≥1),x41.2.2.2.2.2.2.2.2.2.2.2.2)
(aP a1 1).bind fun y43 =>
 bif y43 then (
(aZ (u42,y1.2) a1.2.2.1).bind fun y44 =>
 bif y44 then (
 idx y1.2.1 a1.2.2.1 fun _ =>
(y1.2.1[(a1.2.2.1:Int).toNat]?).bind fun x45 =>
(bn x45.1 a2.2.2.2.2.1).bind fun y46 =>
 idx y1.2.1 a1.2.2.1 fun _ =>
(y1.2.1[(a1.2.2.1:Int).toNat]?).bind fun x47 =>
 let u48:(List ay.D):=y1.2.1.set (a1.2.2.1:Int).toNat (y46,x47.2)
 some ((u42,u48,y1.2.2),a2.2.2.2.2.1,()))
 else (
 some ((u42,y1.2),a2.2.2.2.2.1,())))
 else (
 some ((u42,y1.2),a2.2.2.2.2.1,())))
 else (
(u30[(y26:Int).toNat]?).bind fun x49 =>
 let u50:(List ai.D):=u30.set (y26:Int).toNat (x49.1,x49.2.1,x49.2.2.1,x49.2.2.2.1,x49.2.2.2.2.1,x49.2.2.2.2.2.1,x49.2.2.2.2.2.2.1,x49.2.2.2.2.2.2.2.1,x49.2.2.2.2.2.2.2.2.1,x49.2.2.2.2.2.2.2.2.2.1,x49.2.2.2.2.2.2.2.2.2.2.1,false,x49.2.2.2.2.2.2.2.2.2.2.2.2)
(aP a1 1).bind fun y51 =>
 bif y51 then (
(aZ (u50,y1.2) a1.2.2.1).bind fun y52 =>
 bif y52 then (
 idx y1.2.1 a1.2.2.1 fun _ =>
(y1.2.1[(a1.2.2.1:Int).toNat]?).bind fun x53 =>
(bn x53.1 a2.2.2.2.2.1).bind fun y54 =>
 idx y1.2.1 a1.2.2.1 fun _ =>
(y1.2.1[(a1.2.2.1:Int).toNat]?).bind fun x55 =>
 let u56:(List ay.D):=y1.2.1.set (a1.2.2.1:Int).toNat (y54,x55.2)
 some ((u50,u56,y1.2.2),a2.2.2.2.2.1,()))
 else (
 some ((u50,y1.2),a2.2.2.2.2.1,())))
 else (
 some ((u50,y1.2),a2.2.2.2.2.1,())))))
 else (
(y1.1[(y26:Int).toNat]?).bind fun x57 =>
(bn x57.2.2.2.2.2.2.2.2.2.2.1 a2.2.2.2.2.1).bind fun y58 =>
(y1.1[(y26:Int).toNat]?).bind fun x59 =>
 let u60:(List ai.D):=y1.1.set (y26:Int).toNat (x59.1,x59.2.1,x59.2.2.1,x59.2.2.2.1,x59.2.2.2.2.1,x59.2.2.2.2.2.1,x59.2.2.2.2.2.2.1,x59.2.2.2.2.2.2.2.1,x59.2.2.2.2.2.2.2.2.1,x59.2.2.2.2.2.2.2.2.2.1,y58,x59.2.2.2.2.2.2.2.2.2.2.2)
(u60[(y26:Int).toNat]?).bind fun x61 =>
 bif x61.2.2.2.2.2.2.2.2.2.2.2.1 then (
(u60[(y26:Int).toNat]?).bind fun x62 =>
 let u63:(List ai.D):=u60.set (y26:Int).toNat (x62.1,x62.2.1,x62.2.2.1,x62.2.2.2.1,x62.2.2.2.2.1,x62.2.2.2.2.2.1,x62.2.2.2.2.2.2.1,x62.2.2.2.2.2.2.2.1,x62.2.2.2.2.2.2.2.2.1,x62.2.2.2.2.2.2.2.2.2.1,x62.2.2.2.2.2.2.2.2.2.2.1,true,x62.2.2.2.2.2.2.2.2.2.2.2.2)
(aP a1 1).bind fun y64 =>
 bif y64 then (
(aZ (u63,y1.2) a1.2.2.1).bind fun y65 =>
 bif y65 then (
 idx y1.2.1 a1.2.2.1 fun _ =>
(y1.2.1[(a1.2.2.1:Int).toNat]?).bind fun x66 =>
(bn x66.1 a2.2.2.2.2.1).bind fun y67 =>
 idx y1.2.1 a1.2.2.1 fun _ =>
(y1.2.1[(a1.2.2.1:Int).toNat]?).bind fun x68 =>
 let u69:(List ay.D):=y1.2.1.set (a1.2.2.1:Int).toNat (y67,x68.2)
 some ((u63,u69,y1.2.2),a2.2.2.2.2.1,()))
 else (
 some ((u63,y1.2),a2.2.2.2.2.1,())))
 else (
 some ((u63,y1.2),a2.2.2.2.2.1,())))
 else (
(aP a1 4).bind fun y70 =>
 bif y70 then (
(u60[(y26:Int).toNat]?).bind fun x71 =>
 let u72:(List ai.D):=u60.set (y26:Int).toNat (x71.1,x71.2.1,x71.2.2.1,x71.2.2.2.1,x71.2.2.2.2.1,x71.2.2.2.2.2.1,x71.2.2.2.2.2.2.1,x71.2.2.2.2.2.2.2.1,x71.2.2.2.2.2.2.2.2.1,x71.2.2.2.2.2.2.2.2.2.1,x71.2.2.2.2.2.2.2.2.2.2.1,decide (a2.2.2.2.2.1≥1),x71.2.2.2.2.2.2.2.2.2.2.2.2)
(aP a1 1).bind fun y73 =>
 bif y73 then (
(aZ (u72,y1.2) a1.2.2.1).bind fun y74 =>
 bif y74 then (
 idx y1.2.1 a1.2.2.1 fun _ =>
(y1.2.1[(a1.2.2.1:Int).toNat]?).bind fun x75 =>
(bn x75.1 a2.2.2.2.2.1).bind fun y76 =>
 idx y1.2.1 a1.2.2.1 fun _ =>
(y1.2.1[(a1.2.2.1:Int).toNat]?).bind fun x77 =>
 let u78:(List ay.D):=y1.2.1.set (a1.2.2.1:Int).toNat (y76,x77.2)
 some ((u72,u78,y1.2.2),a2.2.2.2.2.1,()))
 else (
 some ((u72,y1.2),a2.2.2.2.2.1,())))
 else (
 some ((u72,y1.2),a2.2.2.2.2.1,())))
 else (
(u60[(y26:Int).toNat]?).bind fun x79 =>
 let u80:(List ai.D):=u60.set (y26:Int).toNat (x79.1,x79.2.1,x79.2.2.1,x79.2.2.2.1,x79.2.2.2.2.1,x79.2.2.2.2.2.1,x79.2.2.2.2.2.2.1,x79.2.2.2.2.2.2.2.1,x79.2.2.2.2.2.2.2.2.1,x79.2.2.2.2.2.2.2.2.2.1,x79.2.2.2.2.2.2.2.2.2.2.1,false,x79.2.2.2.2.2.2.2.2.2.2.2.2)
(aP a1 1).bind fun y81 =>
 bif y81 then (
(aZ (u80,y1.2) a1.2.2.1).bind fun y82 =>
 bif y82 then (
 idx y1.2.1 a1.2.2.1 fun _ =>
(y1.2.1[(a1.2.2.1:Int).toNat]?).bind fun x83 =>
(bn x83.1 a2.2.2.2.2.1).bind fun y84 =>
 idx y1.2.1 a1.2.2.1 fun _ =>
(y1.2.1[(a1.2.2.1:Int).toNat]?).bind fun x85 =>
 let u86:(List ay.D):=y1.2.1.set (a1.2.2.1:Int).toNat (y84,x85.2)
 some ((u80,u86,y1.2.2),a2.2.2.2.2.1,()))
 else (
 some ((u80,y1.2),a2.2.2.2.2.1,())))
 else (
 some ((u80,y1.2),a2.2.2.2.2.1,()))))))))
 else (
 bif (a2.2.2.1 == 0) then (
 idx y1.2.1 a2.2.2.2.1 fun _ =>
(y1.2.1[(a2.2.2.2.1:Int).toNat]?).bind fun x87 =>
(gQ x87.1 a2.2.2.2.2.1).bind fun y88 =>
 idx y1.2.1 a2.2.2.2.1 fun _ =>
(y1.2.1[(a2.2.2.2.1:Int).toNat]?).bind fun x89 =>
 let u90:(List ay.D):=y1.2.1.set (a2.2.2.2.1:Int).toNat (y88,x89.2)
(aP a1 1).bind fun y91 =>
 bif y91 then (
(aZ (y1.1,u90,y1.2.2) a1.2.2.1).bind fun y92 =>
 bif y92 then (
 idx u90 a1.2.2.1 fun _ =>
(u90[(a1.2.2.1:Int).toNat]?).bind fun x93 =>
(bn x93.1 a2.2.2.2.2.1).bind fun y94 =>
 idx u90 a1.2.2.1 fun _ =>
(u90[(a1.2.2.1:Int).toNat]?).bind fun x95 =>
 let u96:(List ay.D):=u90.set (a1.2.2.1:Int).toNat (y94,x95.2)
 some ((y1.1,u96,y1.2.2),a2.2.2.2.2.1,()))
 else (
 some ((y1.1,u90,y1.2.2),a2.2.2.2.2.1,())))
 else (
 some ((y1.1,u90,y1.2.2),a2.2.2.2.2.1,())))
 else (
(f9 y1 a2.2.2.1).bind fun y97 =>
 idx y1.1 y97 fun _ =>
 bif y5 then (
(y1.1[(y97:Int).toNat]?).bind fun x98 =>
(bn x98.2.2.2.2.2.2.2.2.2.1 a2.2.2.2.2.1).bind fun y99 =>
(y1.1[(y97:Int).toNat]?).bind fun x100 =>
 let u101:(List ai.D):=y1.1.set (y97:Int).toNat (x100.1,x100.2.1,x100.2.2.1,x100.2.2.2.1,x100.2.2.2.2.1,x100.2.2.2.2.2.1,x100.2.2.2.2.2.2.1,x100.2.2.2.2.2.2.2.1,x100.2.2.2.2.2.2.2.2.1,y99,x100.2.2.2.2.2.2.2.2.2.2)
(u101[(y97:Int).toNat]?).bind fun x102 =>
 bif x102.2.2.2.2.2.2.2.2.2.2.2.1 then (
(u101[(y97:Int).toNat]?).bind fun x103 =>
 let u104:(List ai.D):=u101.set (y97:Int).toNat (x103.1,x103.2.1,x103.2.2.1,x103.2.2.2.1,x103.2.2.2.2.1,x103.2.2.2.2.2.1,x103.2.2.2.2.2.2.1,x103.2.2.2.2.2.2.2.1,x103.2.2.2.2.2.2.2.2.1,x103.2.2.2.2.2.2.2.2.2.1,x103.2.2.2.2.2.2.2.2.2.2.1,true,x103.2.2.2.2.2.2.2.2.2.2.2.2)
(aP a1 1).bind fun y105 =>
 bif y105 then (
(aZ (u104,y1.2) a1.2.2.1).bind fun y106 =>
 bif y106 then (
 idx y1.2.1 a1.2.2.1 fun _ =>
(y1.2.1[(a1.2.2.1:Int).toNat]?).bind fun x107 =>
(bn x107.1 a2.2.2.2.2.1).bind fun y108 =>
 idx y1.2.1 a1.2.2.1 fun _ =>
(y1.2.1[(a1.2.2.1:Int).toNat]?).bind fun x109 =>
 let u110:(List ay.D):=y1.2.1.set (a1.2.2.1:Int).toNat (y108,x109.2)
 some ((u104,u110,y1.2.2),a2.2.2.2.2.1,()))
 else (
 some ((u104,y1.2),a2.2.2.2.2.1,())))
 else (
 some ((u104,y1.2),a2.2.2.2.2.1,())))
 else (
(aP a1 4).bind fun y111 =>
 bif y111 then (
(u101[(y97:Int).toNat]?).bind fun x112 =>
 let u113:(List ai.D):=u101.set (y97:Int).toNat (x112.1,x112.2.1,x112.2.2.1,x112.2.2.2.1,x112.2.2.2.2.1,x112.2.2.2.2.2.1,x112.2.2.2.2.2.2.1,x112.2.2.2.2.2.2.2.1,x112.2.2.2.2.2.2.2.2.1,x112.2.2.2.2.2.2.2.2.2.1,x112.2.2.2.2.2.2.2.2.2.2.1,decide (a2.2.2.2.2.1≥1),x112.2.2.2.2.2.2.2.2.2.2.2.2)
(aP a1 1).bind fun y114 =>
 bif y114 then (
(aZ (u113,y1.2) a1.2.2.1).bind fun y115 =>
 bif y115 then (
 idx y1.2.1 a1.2.2.1 fun _ =>
(y1.2.1[(a1.2.2.1:Int).toNat]?).bind fun x116 =>
(bn x116.1 a2.2.2.2.2.1).bind fun y117 =>
 idx y1.2.1 a1.2.2.1 fun _ =>
(y1.2.1[(a1.2.2.1:Int).toNat]?).bind fun x118 =>
 let u119:(List ay.D):=y1.2.1.set (a1.2.2.1:Int).toNat (y117,x118.2)
 some ((u113,u119,y1.2.2),a2.2.2.2.2.1,()))
 else (
 some ((u113,y1.2),a2.2.2.2.2.1,())))
 else (
 some ((u113,y1.2),a2.2.2.2.2.1,())))
 else (
(u101[(y97:Int).toNat]?).bind fun x120 =>
 let u121:(List ai.D):=u101.set (y97:Int).toNat (x120.1,x120.2.1,x120.2.2.1,x120.2.2.2.1,x120.2.2.2.2.1,x120.2.2.2.2.2.1,x120.2.2.2.2.2.2.1,x120.2.2.2.2.2.2.2.1,x120.2.2.2.2.2.2.2.2.1,x120.2.2.2.2.2.2.2.2.2.1,x120.2.2.2.2.2.2.2.2.2.2.1,false,x120.2.2.2.2.2.2.2.2.2.2.2.2)
(aP a1 1).bind fun y122 =>
 bif y122 then (
(aZ (u121,y1.2) a1.2.2.1).bind fun y123 =>
 bif y123 then (
 idx y1.2.1 a1.2.2.1 fun _ =>
(y1.2.1[(a1.2.2.1:Int).toNat]?).bind fun x124 =>
(bn x124.1 a2.2.2.2.2.1).bind fun y125 =>
 idx y1.2.1 a1.2.2.1 fun _ =>
(y1.2.1[(a1.2.2.1:Int).toNat]?).bind fun x126 =>
 let u127:(List ay.D):=y1.2.1.set (a1.2.2.1:Int).toNat (y125,x126.2)
 some ((u121,u127,y1.2.2),a2.2.2.2.2.1,()))
 else (
 some ((u121,y1.2),a2.2.2.2.2.1,())))
 else (
 some ((u121,y1.2),a2.2.2.2.2.1,())))))
 else (
(y1.1[(y97:Int).toNat]?).bind fun x128 =>
(bn x128.2.2.2.2.2.2.2.2.2.2.1 a2.2.2.2.2.1).bind fun y129 =>
(y1.1[(y97:Int).toNat]?).bind fun x130 =>
 let u131:(List ai.D):=y1.1.set (y97:Int).toNat (x130.1,x130.2.1,x130.2.2.1,x130.2.2.2.1,x130.2.2.2.2.1,x130.2.2.2.2.2.1,x130.2.2.2.2.2.2.1,x130.2.2.2.2.2.2.2.1,x130.2.2.2.2.2.2.2.2.1,x130.2.2.2.2.2.2.2.2.2.1,y129,x130.2.2.2.2.2.2.2.2.2.2.2)
(u131[(y97:Int).toNat]?).bind fun x132 =>
 bif x132.2.2.2.2.2.2.2.2.2.2.2.1 then (
(u131[(y97:Int).toNat]?).bind fun x133 =>
 let u134:(List ai.D):=u131.set (y97:Int).toNat (x133.1,x133.2.1,x133.2.2.1,x133.2.2.2.1,x133.2.2.2.2.1,x133.2.2.2.2.2.1,x133.2.2.2.2.2.2.1,x133.2.2.2.2.2.2.2.1,x133.2.2.2.2.2.2.2.2.1,x133.2.2.2.2.2.2.2.2.2.1,x133.2.2.2.2.2.2.2.2.2.2.1,true,x133.2.2.2.2.2.2.2.2.2.2.2.2)
(aP a1 1).bind fun y135 =>
 bif y135 then (
(aZ (u134,y1.2) a1.2.2.1).bind fun y136 =>
 bif y136 then (
 idx y1.2.1 a1.2.2.1 fun _ =>
(y1.2.1[(a1.2.2.1:Int).toNat]?).bind fun x137 =>
(bn x137.1 a2.2.2.2.2.1).bind fun y138 =>
 idx y1.2.1 a1.2.2.1 fun _ =>
(y1.2.1[(a1.2.2.1:Int).toNat]?).bind fun x139 =>
 let u140:(List ay.D):=y1.2.1.set (a1.2.2.1:Int).toNat (y138,x139.2)
 some ((u134,u140,y1.2.2),a2.2.2.2.2.1,()))
 else (
 some ((u134,y1.2),a2.2.2.2.2.1,())))
 else (
 some ((u134,y1.2),a2.2.2.2.2.1,())))
 else (
(aP a1 4).bind fun y141 =>
 bif y141 then (
(u131[(y97:Int).toNat]?).bind fun x142 =>
 let u143:(List ai.D):=u131.set (y97:Int).toNat (x142.1,x142.2.1,x142.2.2.1,x142.2.2.2.1,x142.2.2.2.2.1,x142.2.2.2.2.2.1,x142.2.2.2.2.2.2.1,x142.2.2.2.2.2.2.2.1,x142.2.2.2.2.2.2.2.2.1,x142.2.2.2.2.2.2.2.2.2.1,x142.2.2.2.2.2.2.2.2.2.2.1,decide (a2.2.2.2.2.1≥1),x142.2.2.2.2.2.2.2.2.2.2.2.2)
(aP a1 1).bind fun y144 =>
 bif y144 then (
(aZ (u143,y1.2) a1.2.2.1).bind fun y145 =>
 bif y145 then (
 idx y1.2.1 a1.2.2.1 fun _ =>
(y1.2.1[(a1.2.2.1:Int).toNat]?).bind fun x146 =>
(bn x146.1 a2.2.2.2.2.1).bind fun y147 =>
 idx y1.2.1 a1.2.2.1 fun _ =>
(y1.2.1[(a1.2.2.1:Int).toNat]?).bind fun x148 =>
 let u149:(List ay.D):=y1.2.1.set (a1.2.2.1:Int).toNat (y147,x148.2)
 some ((u143,u149,y1.2.2),a2.2.2.2.2.1,()))
 else (
 some ((u143,y1.2),a2.2.2.2.2.1,())))
 else (
 some ((u143,y1.2),a2.2.2.2.2.1,())))
 else (
(u131[(y97:Int).toNat]?).bind fun x150 =>
 let u151:(List ai.D):=u131.set (y97:Int).toNat (x150.1,x150.2.1,x150.2.2.1,x150.2.2.2.1,x150.2.2.2.2.1,x150.2.2.2.2.2.1,x150.2.2.2.2.2.2.1,x150.2.2.2.2.2.2.2.1,x150.2.2.2.2.2.2.2.2.1,x150.2.2.2.2.2.2.2.2.2.1,x150.2.2.2.2.2.2.2.2.2.2.1,false,x150.2.2.2.2.2.2.2.2.2.2.2.2)
(aP a1 1).bind fun y152 =>
 bif y152 then (
(aZ (u151,y1.2) a1.2.2.1).bind fun y153 =>
 bif y153 then (
 idx y1.2.1 a1.2.2.1 fun _ =>
(y1.2.1[(a1.2.2.1:Int).toNat]?).bind fun x154 =>
(bn x154.1 a2.2.2.2.2.1).bind fun y155 =>
 idx y1.2.1 a1.2.2.1 fun _ =>
(y1.2.1[(a1.2.2.1:Int).toNat]?).bind fun x156 =>
 let u157:(List ay.D):=y1.2.1.set (a1.2.2.1:Int).toNat (y155,x156.2)
 some ((u151,u157,y1.2.2),a2.2.2.2.2.1,()))
 else (
 some ((u151,y1.2),a2.2.2.2.2.1,())))
 else (
 some ((u151,y1.2),a2.2.2.2.2.1,())))))))))))
def AS:Ct:=.pure false true (.pair ac (.pair ai (.pair ae .unit))) (.pair ac (.pair (.int .i64) .unit)) (fun x=>lS x.1 x.2.1 x.2.2.1)
theorem zz:KC 351 AS:=pq (Ec oO (Ec dN (Ec bT (Ec cd (Ec gM (Ec rB (Ec rz (Ec xM (Ec qD En))))))))) .none Tryz.func351
def sU (a0:ai.D) (a1:Int) (a2:Int):Option ai.D :=
 some (a0.1,a0.2.1,a0.2.1,a1,a2,a0.2.2.2.2.2.1,a0.2.2.2.2.2.2.1,a0.2.2.2.2.2.2.2.1,0,0,0,false,false,())
def M1:Ct:=.pure true false (.pair ai (.pair (.int .i64) (.pair (.int .i64) .unit))) ai (fun x=>sU x.1 x.2.1 x.2.2.1)
theorem Bx:KC 243 M1:=pq En .none Tryz.func243
def wV (a0:ac.D) (a1:ae.D):Option (ac.D×(Bool×Unit)) :=
(cX a0).bind fun y1 =>
(fX y1 a1.2.2.1).bind fun y2 =>
(((dE y1).bind fun y3 =>
 bif (!y3) then (
 some true)
 else (
(b7 a1).bind fun y4 =>
 bif (!y4) then (
 some true)
 else (
 bif (a1.1 != 2) then (
 some true)
 else (
 bif decide (y2 < 0) then (
 some true)
 else (
 idx y1.1 y2 fun _ =>
(y1.1[(y2:Int).toNat]?).bind fun x5 =>
 some (x5.2.2.2.1 == a1.2.2.2.2.2.1)))))):Option Bool).bind fun o6 =>
 bif o6 then (
 some (y1,false,()))
 else (
 idx y1.1 y2 fun _ =>
(y1.1[(y2:Int).toNat]?).bind fun x7 =>
(sU x7 a1.2.2.2.2.2.1 y1.2.2.2.1).bind fun y8 =>
((bif (a1.2.2.2.2.2.1 == 2) then (
 some (y8.1,y8.2.1,y8.2.2.1,y8.2.2.2.1,y8.2.2.2.2.1,y8.2.2.2.2.2.1,y8.2.2.2.2.2.2.1,y8.2.2.2.2.2.2.2.1,a1.2.2.2.2.1,y8.2.2.2.2.2.2.2.2.2.1,y8.2.2.2.2.2.2.2.2.2.2.1,y8.2.2.2.2.2.2.2.2.2.2.2.1,a1.2.2.2.2.2.2))
 else (
 some y8)):Option ai.D).bind fun o9 =>
 idx y1.1 y2 fun _ =>
(y1.1[(y2:Int).toNat]?).bind fun x10 =>
 let u11:(List ai.D):=y1.1.set (y2:Int).toNat o9
 some ((u11,y1.2),true,()))
def M2:Hints:=(n0 (n0 (n0 (nd (nd (cu ⟨[.tmp 41 .bool],[none],none,[]⟩) .none) (n0 (nd (n0 (cu ⟨[.box 7 0 ai],[none],none,[(7,0)]⟩)) .none))))))
def Cm:Ct:=.pure false true (.pair ac (.pair ae .unit)) (.pair ac (.pair .bool .unit)) (fun x=>wV x.1 x.2.1)
theorem AT:KC 352 Cm:=pq (Ec dN (Ec bT (Ec cd (Ec Bx (Ec iw En))))) M2 Tryz.func352
def vU (a0:ac.D) (a1:ae.D):Option (ac.D×(Bool×Unit)) :=
(cX a0).bind fun y1 =>
(((dE y1).bind fun y2 =>
 bif (!y2) then (
 some true)
 else (
(b7 a1).bind fun y3 =>
 bif (!y3) then (
 some true)
 else (
 bif (a1.1 == 1) then (
 some true)
 else (
 bif (a1.1 == 2) then (
 some true)
 else (
(mX y1 a1).bind fun y4 =>
 some (!y4)))))):Option Bool).bind fun o5 =>
 bif o5 then (
 some (y1,false,()))
 else (
((bif (a1.1 == 3) then (
 idx y1.2.1 a1.2.2.2.1 fun _ =>
(y1.2.1[(a1.2.2.2.1:Int).toNat]?).bind fun x6 =>
(bn x6.1 a1.2.2.2.2.1).bind fun y7 =>
 idx y1.2.1 a1.2.2.2.1 fun _ =>
(y1.2.1[(a1.2.2.2.1:Int).toNat]?).bind fun x8 =>
 let u9:(List ay.D):=y1.2.1.set (a1.2.2.2.1:Int).toNat (y7,x8.2)
 some (y1.1,u9,y1.2.2))
 else (
((bif (a1.1 == 4) then (
 idx y1.2.1 a1.2.2.2.1 fun _ =>
(y1.2.1[(a1.2.2.2.1:Int).toNat]?).bind fun x10 =>
(gQ x10.1 a1.2.2.2.2.1).bind fun y11 =>
 idx y1.2.1 a1.2.2.2.1 fun _ =>
(y1.2.1[(a1.2.2.2.1:Int).toNat]?).bind fun x12 =>
 let u13:(List ay.D):=y1.2.1.set (a1.2.2.2.1:Int).toNat (y11,x12.2)
 some (y1.1,u13,y1.2.2))
 else (
((bif (a1.1 == 5) then (
(f9 y1 a1.2.2.1).bind fun y14 =>
 idx y1.1 y14 fun _ =>
(y1.1[(y14:Int).toNat]?).bind fun x15 =>
(bn x15.2.2.2.2.2.2.2.2.1 a1.2.2.2.2.1).bind fun y16 =>
(y1.1[(y14:Int).toNat]?).bind fun x17 =>
 let u18:(List ai.D):=y1.1.set (y14:Int).toNat (x17.1,x17.2.1,x17.2.2.1,x17.2.2.2.1,x17.2.2.2.2.1,x17.2.2.2.2.2.1,x17.2.2.2.2.2.2.1,x17.2.2.2.2.2.2.2.1,y16,x17.2.2.2.2.2.2.2.2.2)
 some (u18,y1.2))
 else (
((bif (a1.1 == 6) then (
(f9 y1 a1.2.2.1).bind fun y19 =>
 idx y1.1 y19 fun _ =>
(y1.1[(y19:Int).toNat]?).bind fun x20 =>
(bn x20.2.2.2.2.2.2.2.2.2.1 a1.2.2.2.2.1).bind fun y21 =>
(y1.1[(y19:Int).toNat]?).bind fun x22 =>
 let u23:(List ai.D):=y1.1.set (y19:Int).toNat (x22.1,x22.2.1,x22.2.2.1,x22.2.2.2.1,x22.2.2.2.2.1,x22.2.2.2.2.2.1,x22.2.2.2.2.2.2.1,x22.2.2.2.2.2.2.2.1,x22.2.2.2.2.2.2.2.2.1,y21,x22.2.2.2.2.2.2.2.2.2.2)
 some (u23,y1.2))
 else (
 some y1)):Option ac.D).bind fun o24 =>
 some o24)):Option ac.D).bind fun o25 =>
 some o25)):Option ac.D).bind fun o26 =>
 some o26)):Option ac.D).bind fun o27 =>
 some (o27,true,()))
def OG:Hints:=(n0 (n0 (nd (nd (cu ⟨[.tmp 33 .bool],[none],none,[]⟩) .none) (nd (n0 (nd (n0 (.node (some ⟨[.boxO 2 0 1 ac],[none],none,[(9,1),(2,0),(9,0)]⟩) none .none (n0 (.node (some ⟨[.boxO 2 0 1 ac],[none],none,[(9,1),(2,0),(9,0)]⟩) none .none (n0 (.node (some ⟨[.boxO 2 0 1 ac],[none],none,[(9,0),(2,0),(9,1)]⟩) none .none (n0 (cu ⟨[.boxO 2 0 1 ac],[none],none,[(9,0),(2,0),(9,1)]⟩)))))))) .none)) .none))))
def DS:Ct:=.pure false true (.pair ac (.pair ae .unit)) (.pair ac (.pair .bool .unit)) (fun x=>vU x.1 x.2.1)
theorem Cn:KC 354 DS:=pq (Ec dN (Ec bT (Ec cd (Ec rB (Ec rz (Ec xM (Ec qD En))))))) OG Tryz.func354
def dH (a0:ac.D) (a1:ac.D) (a2:ae.D):Option ((ac.D×(aq.D×Unit))×Unit) :=
((bif (a2.1 == 1) then (
(fY a1 a2).bind fun y1 =>
(lS a0 y1 a2).bind fun y2 =>
 bif decide (y2.2.1≥1) then (
 some (.inr ((y2.1,1,a2,y2.2.1,0,(0,0,0,0,0,0,0,0,0,0,0,false,false,()),()))))
 else (
 some (.inl (([],[],0,0,()),(0,(0,0,0,0,0,0,false,()),0,0,(0,0,0,0,0,0,0,0,0,0,0,false,false,()),()),y2.1))))
 else (
((bif (a2.1 == 2) then (
(wV a0 a2).bind fun y3 =>
 bif y3.2.1 then (
(fX a1 a2.2.2.1).bind fun y4 =>
 idx a1.1 y4 fun x5 =>
 some (.inr ((y3.1,3,a2,0,0,x5,()))))
 else (
 some (.inl (([],[],0,0,()),0,(0,0,0,0,0,0,false,()),0,0,(0,0,0,0,0,0,0,0,0,0,0,false,false,()),()))))
 else (
(vU a0 a2).bind fun y6 =>
 bif y6.2.1 then (
 some (.inr ((y6.1,2,a2,0,0,(0,0,0,0,0,0,0,0,0,0,0,false,false,()),()))))
 else (
 some (.inl (([],[],0,0,()),0,(0,0,0,0,0,0,false,()),0,0,(0,0,0,0,0,0,0,0,0,0,0,false,false,()),()))))):Option ((ac.D×(Int×(ae.D×(Int×(Int×(ai.D×Unit))))))⊕(ac.D×(Int×(ae.D×(Int×(Int×(ai.D×Unit)))))))).bind fun o7 =>
 match o7 with
| .inl s8=>(
 some (.inl (s8.1,s8.2,a0)))
| .inr o9=>(
 some (.inr o9)))):Option ((ac.D×(aq.D×((List ai.D)×((List ay.D)×(Int×(Int×Unit))))))⊕(ac.D×(Int×(ae.D×(Int×(Int×(ai.D×Unit)))))))).bind fun o10 =>
 match o10 with
| .inl s11=>(
 some ((s11.2.2,(4,a2,0,0,(0,0,0,0,0,0,0,0,0,0,0,false,false,()),()),()),()))
| .inr o12=>(
 some ((o12.1,o12.2,()),()))
def Fj:Hints:=(n0 (nd (n0 (nd (n0 (.node (some ⟨[.boxO 6 0 1 ac,.box 7 0 aq,.boxO 3 0 1 ac],[none],some [.boxO 6 0 1 ac,.box 7 0 aq],[(6,0),(7,0),(3,0),(0,0),(0,1)]⟩) none .none (n0 (cu ⟨[.boxO 6 0 1 ac,.box 7 0 aq],[none],some [.boxO 6 0 1 ac,.box 7 0 aq],[(6,0),(7,0)]⟩)))) .none)) .none))
def wW:Ct:=.mut [.tk,.rd,.rd] false true (.pair ac (.pair ac (.pair ae .unit))) (.pair ac (.pair aq .unit)) (fun x=>dH x.1 x.2.1 x.2.2.1)
theorem vV:KC 308 wW:=mq (Ec sL (Ec zz (Ec AT (Ec iw (Ec Cn En))))) Fj Tryz.func308
def mY (a0:ac.D) (y4:((List ae.D)×Unit)) (y6:((List ae.D)×Unit)):((List aq.D)×(Int×((List ai.D)×((List ay.D)×(Int×(Int×Unit))))))→Option (((List aq.D)×(Int×((List ai.D)×((List ay.D)×(Int×(Int×Unit))))))⊕((List aq.D)×(Int×((List ai.D)×((List ay.D)×(Int×(Int×Unit))))))):=fun s8 =>
 bif decide (s8.2.1 < ((y4.1++y6.1).length:Int)) then (
 idx (y4.1++y6.1) s8.2.1 fun _ =>
((y4.1++y6.1)[(s8.2.1:Int).toNat]?).bind fun x9 =>
(dH s8.2.2 a0 x9).bind fun y10 =>
 if (s8.1.length + [y10.1.2.1].length) * (24 * 23)≤aG then (
 some (.inl ((s8.1++[y10.1.2.1]),IntKind.wrap .i64 (s8.2.1 + 1),y10.1.1))) else none)
 else (
 some (.inr s8))
def uv (a0:ac.D) (a1:(List ae.D)):Option (ac.D×((List aq.D)×Unit)) :=
(cX a0).bind fun y1 =>
(dE a0).bind fun y2 =>
 bif (!y2) then (
 some (y1,[],()))
 else (
(bq a1).bind fun y3 =>
(br y3 (fun q=>u6 q.1)).bind fun y4 =>
(bq a1).bind fun y5 =>
(br y5 (fun q=>Bw (fun q=>u6 q.1) q.1)).bind fun y6 =>
 if (y4.1.length + y6.1.length) * (24 * 7)≤aG then (
(aw (mY a0 y4 y6) ([],0,y1)).bind fun o11 =>
 some (o11.2.2,o11.1,())) else none)
def KV:Hints:=(n0 (n0 (n0 (n0 (n0 (n0 (n0 (nd (n0 (nd (.node none (some ⟨[.tmpO 7 0 (.slice aq),.tmp 35 (.int .i64),.boxO 6 0 1 ac],[some 0],none,[]⟩) .none .none) .none)) .none))))))))
def AU:Ct:=.pure false true (.pair ac (.pair (.slice ae) .unit)) (.pair ac (.pair (.slice aq) .unit)) (fun x=>uv x.1 x.2.1)
theorem zA:KC 213 AU:=pq (Ec dN (Ec bT (Ec dC (Ec Fh (Ec eN (Ec Fi (Ec vV En))))))) KV Tryz.func213
def io (a0:ai.D):Option Int :=
(bn a0.2.2.2.2.2.2.1 a0.2.2.2.2.2.2.2.2.1).bind fun y1 =>
(gQ y1 a0.2.2.2.2.2.2.2.2.2.1).bind fun y2 =>
 some y2
def Jj:Ct:=.pure true false (.pair ai .unit) (.int .i64) (fun x=>io x.1)
theorem G4:KC 332 Jj:=pq (Ec rB (Ec rz En)) .none Tryz.func332
def lT (a0:ai.D):Option Bool :=
 bif (a0.2.2.2.1 == 2) then (
(io a0).bind fun y1 =>
 bif decide (y1≤0) then (
 some true)
 else (
(aP a0 8).bind fun y2 =>
 bif (!y2) then (
 bif a0.2.2.2.2.2.2.2.2.2.2.2.1 then (
 some true)
 else (
(io a0).bind fun y3 =>
 some (decide (a0.2.2.2.2.2.2.2.2.2.2.1≥y3))))
 else (
 some false)))
 else (
 some false)
def KW:Ct:=.pure true false (.pair ai .unit) .bool (fun x=>lT x.1)
theorem Jk:KC 242 KW:=pq (Ec oO (Ec G4 En)) .none Tryz.func242
def kg (a0:ac.D):((List aq.D)×(Int×((List ai.D)×((List ay.D)×(Int×(Int×Unit))))))→Option (((List aq.D)×(Int×((List ai.D)×((List ay.D)×(Int×(Int×Unit))))))⊕((List aq.D)×(Int×((List ai.D)×((List ay.D)×(Int×(Int×Unit))))))):=fun s4 =>
 bif decide (s4.2.1 < (a0.2.1.length:Int)) then (
 idx a0.2.1 s4.2.1 fun x5 =>
((bif (!x5.2.2.1) then (
 bif decide (x5.1≤0) then (
 some true)
 else (
 some (decide (x5.2.1≥10))))
 else (
 some false)):Option Bool).bind fun o6 =>
 bif o6 then (
 idx s4.2.2.2.1 s4.2.1 fun _ =>
(s4.2.2.2.1[(s4.2.1:Int).toNat]?).bind fun x7 =>
 let u8:(List ay.D):=s4.2.2.2.1.set (s4.2.1:Int).toNat (x7.1,x7.2.1,true,())
 if (s4.1.length + ([(5,(0,0,0,0,0,0,false,()),0,s4.2.1,(0,0,0,0,0,0,0,0,0,0,0,false,false,()),())]:List aq.D).length) * (24 * 23)≤aG then (
 some (.inl ((s4.1++([(5,(0,0,0,0,0,0,false,()),0,s4.2.1,(0,0,0,0,0,0,0,0,0,0,0,false,false,()),())]:List aq.D)),IntKind.wrap .i64 (s4.2.1 + 1),s4.2.2.1,u8,s4.2.2.2.2))) else none)
 else (
 some (.inl (s4.1,IntKind.wrap .i64 (s4.2.1 + 1),s4.2.2))))
 else (
 some (.inr s4))
def ki (a0:ac.D):((List aq.D)×(Int×((List ai.D)×((List ay.D)×(Int×(Int×Unit))))))→Option (((List aq.D)×(Int×((List ai.D)×((List ay.D)×(Int×(Int×Unit))))))⊕((List aq.D)×(Int×((List ai.D)×((List ay.D)×(Int×(Int×Unit))))))):=fun s11 =>
 bif decide (s11.2.1 < (a0.1.length:Int)) then (
 idx a0.1 s11.2.1 fun x12 =>
(lT x12).bind fun y13 =>
 bif y13 then (
(sU x12 3 a0.2.2.2.1).bind fun y14 =>
 idx s11.2.2.1 s11.2.1 fun _ =>
(s11.2.2.1[(s11.2.1:Int).toNat]?).bind fun x15 =>
 let u16:(List ai.D):=s11.2.2.1.set (s11.2.1:Int).toNat y14
 if (s11.1.length + ([(6,(0,0,0,0,0,0,false,()),0,0,x12,())]:List aq.D).length) * (24 * 23)≤aG then (
 some (.inl ((s11.1++([(6,(0,0,0,0,0,0,false,()),0,0,x12,())]:List aq.D)),IntKind.wrap .i64 (s11.2.1 + 1),u16,s11.2.2.2))) else none)
 else (
((bif (x12.2.2.2.1 == 2) then (
 some (decide ((if x12.2.2.2.2.2.2.2.2.2.1 < x12.2.2.2.2.2.2.2.2.1 then x12.2.2.2.2.2.2.2.2.2.1 else x12.2.2.2.2.2.2.2.2.1) > 0)))
 else (
 some false)):Option Bool).bind fun o17 =>
 bif o17 then (
 idx s11.2.2.1 s11.2.1 fun _ =>
(s11.2.2.1[(s11.2.1:Int).toNat]?).bind fun x18 =>
 let k19:Int:=IntKind.wrap .i64 (x18.2.2.2.2.2.2.2.2.1 - (if x12.2.2.2.2.2.2.2.2.2.1 < x12.2.2.2.2.2.2.2.2.1 then x12.2.2.2.2.2.2.2.2.2.1 else x12.2.2.2.2.2.2.2.2.1))
 idx s11.2.2.1 s11.2.1 fun _ =>
(s11.2.2.1[(s11.2.1:Int).toNat]?).bind fun x20 =>
 let u21:(List ai.D):=s11.2.2.1.set (s11.2.1:Int).toNat (x20.1,x20.2.1,x20.2.2.1,x20.2.2.2.1,x20.2.2.2.2.1,x20.2.2.2.2.2.1,x20.2.2.2.2.2.2.1,x20.2.2.2.2.2.2.2.1,k19,x20.2.2.2.2.2.2.2.2.2)
 idx u21 s11.2.1 fun _ =>
(u21[(s11.2.1:Int).toNat]?).bind fun x22 =>
 let k23:Int:=IntKind.wrap .i64 (x22.2.2.2.2.2.2.2.2.2.1 - (if x12.2.2.2.2.2.2.2.2.2.1 < x12.2.2.2.2.2.2.2.2.1 then x12.2.2.2.2.2.2.2.2.2.1 else x12.2.2.2.2.2.2.2.2.1))
 idx u21 s11.2.1 fun _ =>
(u21[(s11.2.1:Int).toNat]?).bind fun x24 =>
 let u25:(List ai.D):=u21.set (s11.2.1:Int).toNat (x24.1,x24.2.1,x24.2.2.1,x24.2.2.2.1,x24.2.2.2.2.1,x24.2.2.2.2.2.1,x24.2.2.2.2.2.2.1,x24.2.2.2.2.2.2.2.1,x24.2.2.2.2.2.2.2.2.1,k23,x24.2.2.2.2.2.2.2.2.2.2)
 if (s11.1.length + ([(7,(0,0,0,0,0,0,false,()),(if x12.2.2.2.2.2.2.2.2.2.1 < x12.2.2.2.2.2.2.2.2.1 then x12.2.2.2.2.2.2.2.2.2.1 else x12.2.2.2.2.2.2.2.2.1),0,x12,())]:List aq.D).length) * (24 * 23)≤aG then (
 some (.inl ((s11.1++([(7,(0,0,0,0,0,0,false,()),(if x12.2.2.2.2.2.2.2.2.2.1 < x12.2.2.2.2.2.2.2.2.1 then x12.2.2.2.2.2.2.2.2.2.1 else x12.2.2.2.2.2.2.2.2.1),0,x12,())]:List aq.D)),IntKind.wrap .i64 (s11.2.1 + 1),u25,s11.2.2.2))) else none)
 else (
 some (.inl (s11.1,IntKind.wrap .i64 (s11.2.1 + 1),s11.2.2)))))
 else (
 some (.inr s11))
def sV (a0:ac.D):Option (ac.D×((List aq.D)×Unit)) :=
(cX a0).bind fun y1 =>
(dE a0).bind fun y2 =>
 bif (!y2) then (
 some (y1,[],()))
 else (
(aw (kg a0) ([],0,y1)).bind fun o9 =>
(aw (ki a0) (o9.1,0,o9.2.2)).bind fun o26 =>
 some (o26.2.2,o26.1,()))
def M3:Hints:=(n0 (n0 (n0 (n0 (nd (n0 (nd (.node none (some ⟨[.tmpO 5 0 (.slice aq),.tmp 22 (.int .i64),.boxO 4 0 1 ac],[some 0],none,[]⟩) (n0 (n0 (nd (nd (n0 (nd (cu ⟨[.tmp 39 .bool],[none],none,[]⟩) .none)) .none) .none))) .none) .none)) (nd (n0 (nd (.node none (some ⟨[.tmpO 5 1 (.slice aq),.tmp 54 (.int .i64),.boxO 4 0 3 ac],[some 2],none,[]⟩) (n0 (n0 (nd (nd (n0 (n0 (nd (n0 (n0 (nd (cu ⟨[.tmp 80 .bool],[none],none,[]⟩) .none))) .none))) .none) .none))) .none) .none)) .none))))))
def Co:Ct:=.pure false true (.pair ac .unit) (.pair ac (.pair (.slice aq) .unit)) (fun x=>sV x.1)
theorem qX:KC 122 Co:=pq (Ec dN (Ec bT (Ec Jk (Ec Bx En)))) M3 Tryz.func122
def bU:((List aq.D)×(Int×(ac.D×((List ai.D)×((List ay.D)×(Int×(Int×Unit)))))))→Option (((List aq.D)×(Int×(ac.D×((List ai.D)×((List ay.D)×(Int×(Int×Unit)))))))⊕((List aq.D)×(Int×((List ai.D)×((List ay.D)×(Int×(Int×Unit))))))):=fun s4 =>
(sV s4.2.2.2).bind fun y5 =>
 bif ((y5.2.1.length:Int) == 0) then (
 some (.inr (s4.1,s4.2.1,s4.2.2.2)))
 else (
 if (s4.1.length + y5.2.1.length) * (24 * 23)≤aG then (
 some (.inl ((s4.1++y5.2.1),IntKind.wrap .i64 (s4.2.1 + 1),s4.2.2.1,y5.1))) else none)
def lU (a0:ac.D):Option (ac.D×((List aq.D)×(Int×Unit))) :=
(cX a0).bind fun y1 =>
(aw (bU) ([],0,([],[],0,0,()),y1)).bind fun o6 =>
 some (o6.2.2,o6.1,o6.2.1,())
def KX:Hints:=(n0 (n0 (n0 (n0 (nd (.node none (some ⟨[.tmpO 5 0 (.slice aq),.tmp 6 (.int .i64),.boxO 2 0 1 ac,.boxO 1 0 1 ac],[],some [.tmpO 3 0 (.slice aq),.tmp 4 (.int .i64),.boxO 2 0 1 ac],[]⟩) .none .none) .none)))))
def AW:Ct:=.pure false true (.pair ac .unit) (.pair ac (.pair (.slice aq) (.pair (.int .i64) .unit))) (fun x=>lU x.1)
theorem zB:KC 214 AW:=pq (Ec qX (Ec bT En)) KX Tryz.func214
def An (a0:aq.D):Option Bool :=
 bif (a0.1 == 6) then (
 some true)
 else (
 bif (a0.1 == 3) then (
 bif (a0.2.2.2.2.1.2.2.2.1 == 2) then (
 some (a0.2.1.2.2.2.2.2.1 != 2))
 else (
 some false))
 else (
 some false))
def OH:Ct:=.pure true false (.pair aq .unit) .bool (fun x=>An x.1)
theorem M4:KC 314 OH:=pq En .none Tryz.func314
def wX (a0:ac.D) (a1:(List aq.D)):((List ah.D)×Int)→Option (((List ah.D)×Int)⊕((List ah.D)×Int)):=fun s1 =>
 bif decide (s1.2 < (a1.length:Int)) then (
 idx a1 s1.2 fun x2 =>
(fY a0 x2.2.1).bind fun y3 =>
(((An x2).bind fun y4 =>
 bif y4 then (
(aP x2.2.2.2.2.1 16).bind fun y5 =>
 some y5)
 else (
 some false)):Option Bool).bind fun o6 =>
 bif o6 then (
 if (s1.1.length + ([(1,x2.2.2.2.2.1.2.2.1,0,x2.2.2.2.2)]:List ah.D).length) * (24 * 16)≤aG then (
 some (.inl ((s1.1++([(1,x2.2.2.2.2.1.2.2.1,0,x2.2.2.2.2)]:List ah.D)),IntKind.wrap .i64 (s1.2 + 1)))) else none)
 else (
((bif (x2.1 == 1) then (
 bif decide (x2.2.2.1≥1) then (
(aP y3 32).bind fun y7 =>
 some y7)
 else (
 some false))
 else (
 some false)):Option Bool).bind fun o8 =>
 bif o8 then (
 if (s1.1.length + ([(2,y3.2.2.1,x2.2.2.1,y3,())]:List ah.D).length) * (24 * 16)≤aG then (
 some (.inl ((s1.1++([(2,y3.2.2.1,x2.2.2.1,y3,())]:List ah.D)),IntKind.wrap .i64 (s1.2 + 1)))) else none)
 else (
 some (.inl (s1.1,IntKind.wrap .i64 (s1.2 + 1))))))
 else (
 some (.inr s1))
def vW (a0:ac.D) (a1:(List aq.D)):Option (List ah.D) :=
(aw (wX a0 a1) ([],0)).bind fun o9 =>
 some o9.1
def OI:Hints:=(n0 (n0 (nd (n0 (nd (.node none (some ⟨[.tmpO 5 0 (.slice ah),.tmp 12 (.int .i64)],[some 0],none,[]⟩) (n0 (n0 (nd (nd (n0 (n0 (nd (nd (cu ⟨[.tmp 20 .bool],[none],none,[]⟩) (n0 (nd (cu ⟨[.tmp 37 .bool],[none],none,[]⟩) .none))) .none))) .none) .none))) .none) .none)) .none)))
def DT:Ct:=.pure true true (.pair ac (.pair (.slice aq) .unit)) (.slice ah) (fun x=>vW x.1 x.2.1)
theorem Cp:KC 216 DT:=pq (Ec oO (Ec sL (Ec M4 En))) OI Tryz.func216
def mZ (a0:ac.D):((List Int)×Int)→Option (((List Int)×Int)⊕((List Int)×Int)):=fun s2 =>
 bif decide (s2.2 < (a0.2.1.length:Int)) then (
 if (a0.2.1.length:Int)=0 then none else (
 let k3:Int:=(IntKind.wrap .i64 (a0.2.2.1 + s2.2)).tmod (a0.2.1.length:Int)
 if (s2.1.length + [k3].length) * (24 * 1)≤aG then (
 some (.inl ((s2.1++[k3]),IntKind.wrap .i64 (s2.2 + 1)))) else none))
 else (
 some (.inr s2))
def gR (a0:ac.D):Option (List Int) :=
(aZ a0 a0.2.2.1).bind fun y1 =>
 bif (!y1) then (
 some [])
 else (
(aw (mZ a0) ([],0)).bind fun o4 =>
 some o4.1)
def Fk:Hints:=(n0 (n0 (n0 (nd (n0 (nd (.node none (some ⟨[.tmpO 3 0 (.slice (.int .i64)),.tmp 15 (.int .i64)],[some 0],none,[]⟩) .none .none) .none)) .none))))
def wY:Ct:=.pure true true (.pair ac .unit) (.slice (.int .i64)) (fun x=>gR x.1)
theorem lV:KC 95 wY:=pq (Ec gM En) Fk Tryz.func95
def cr (a0:(List ah.D)) (a1:((ah.D×Unit)→Option Bool)):Int→Option (Int⊕(Int⊕Int)):=fun s1 =>
 bif decide (s1 < (a0.length:Int)) then (
 idx a0 s1 fun x2 =>
(a1 (x2,())).bind fun y3 =>
 bif y3 then (
 some (.inr (.inr s1)))
 else (
 some (.inl (IntKind.wrap .i64 (s1 + 1)))))
 else (
 some (.inr (.inl s1)))
def cT (a0:(List ah.D)) (a1:((ah.D×Unit)→Option Bool)):Option Int :=
(aw (cr a0 a1) 0).bind fun o4 =>
 match o4 with
| .inl s5=>(
 some (-1))
| .inr o6=>(
 some o6)
def nK:Hints:=(n0 (nd (n0 (nd (.node none (some ⟨[.tmp 8 (.int .i64)],[some 0],some [.tmp 4 (.int .i64)],[]⟩) .none .none) .none)) .none))
def nL:Ct:=.pure true false (.pair (.slice ah) (.pair (.fn (.pair ah .unit) .bool) .unit)) (.int .i64) (fun x=>cT x.1 x.2.1)
theorem m7:KC 356 nL:=pq En nK Tryz.func356
def bF (a1:((ah.D×Unit)→Option Bool)):((List ah.D)×(Int×Int))→Option (((List ah.D)×(Int×Int))⊕((List ah.D)×(Int×Int))):=fun s3 =>
 bif decide (s3.2.2 < (s3.1.length:Int)) then (
 idx s3.1 s3.2.2 fun _ =>
(s3.1[(s3.2.2:Int).toNat]?).bind fun x4 =>
(a1 (x4,())).bind fun y5 =>
((bif (!y5) then (
 idx s3.1 s3.2.1 fun _ =>
(s3.1[(s3.2.1:Int).toNat]?).bind fun x6 =>
 let u7:(List ah.D):=s3.1.set (s3.2.1:Int).toNat x4
 some (u7,IntKind.wrap .i64 (s3.2.1 + 1)))
 else (
 some (s3.1,s3.2.1))):Option ((List ah.D)×Int)).bind fun o8 =>
 some (.inl (o8.1,o8.2,IntKind.wrap .i64 (s3.2.2 + 1))))
 else (
 some (.inr s3))
def bV (a0:(List ah.D)) (a1:((ah.D×Unit)→Option Bool)):Option ((List ah.D)×Unit) :=
(cT a0 a1).bind fun y1 =>
 bif (y1 == (-1)) then (
 some (a0,()))
 else (
(aw (bF a1) (a0,y1,IntKind.wrap .i64 (y1 + 1))).bind fun o9 =>
 if 0≤o9.2.1 then (if o9.2.1≤(o9.1.length:Int) then (if (o9.1.length:Int)≤(o9.1.length:Int) then (
 if 0≤(0:Int) then (if (0:Int)≤o9.2.1 then (if o9.2.1≤((o9.1.take (o9.2.1.toNat)++List.replicate ((o9.1.length:Int).toNat - o9.2.1.toNat) (0,0,0,(0,0,0,0,0,0,0,0,0,0,0,false,false,()),())++o9.1.drop ((o9.1.length:Int).toNat)).length:Int) then (
 some ((((o9.1.take (o9.2.1.toNat)++List.replicate ((o9.1.length:Int).toNat - o9.2.1.toNat) (0,0,0,(0,0,0,0,0,0,0,0,0,0,0,false,false,()),())++o9.1.drop ((o9.1.length:Int).toNat)).take (o9.2.1.toNat)).drop ((0:Int).toNat)),())) else none) else none) else none) else none) else none) else none)
def m8:Hints:=(n0 (n0 (n0 (nd (n0 (nd (.node none (some ⟨[.tmpO 0 1 (.slice ah),.tmp 5 (.int .i64),.tmp 6 (.int .i64)],[some 0],none,[]⟩) (n0 (nd (nd (n0 (n0 (cu ⟨[.tmpO 0 2 (.slice ah),.tmp 5 (.int .i64)],[none],none,[(0,1)]⟩))) .none) .none)) .none) .none)) .none))))
def ji:Ct:=.mut [.tk,.rd] true true (.pair (.slice ah) (.pair (.fn (.pair ah .unit) .bool) .unit)) (.slice ah) (fun x=>bV x.1 x.2.1)
theorem eo:KC 310 ji:=mq (Ec m7 En) m8 Tryz.func310
def uw (z0:Int) (a0:ah.D):Option Bool :=
 some (a0.2.1 != z0)
def AX:Ct:=.clo (.pair ah .unit) (.pair (.int .i64) .unit) .bool (fun z x=>uw z.1 x.1)
theorem zC:KC 355 AX:=cq En .none Tryz.func355
def kW (a0:(List ah.D)) (a1:Int):Option (List ah.D) :=
(bH a0).bind fun y1 =>
(bV y1 (fun q=>uw a1 q.1)).bind fun y2 =>
 some y2.1
def vX:Ct:=.pure true true (.pair (.slice ah) (.pair (.int .i64) .unit)) (.slice ah) (fun x=>kW x.1 x.2.1)
theorem va:KC 309 vX:=pq (Ec dg (Ec eo (Ec zC En))) .none Tryz.func309
def zD (z0:Int) (a0:ah.D):Option Bool :=
 some (a0.2.1 == z0)
def Fl:Ct:=.clo (.pair ah .unit) (.pair (.int .i64) .unit) .bool (fun z x=>zD z.1 x.1)
theorem DU:KC 311 Fl:=cq En .none Tryz.func311
def dI (a0:(List ah.D)) (a1:Int) (a2:Int):Option ((List ah.D)×Unit) :=
 if 0≤a1 then (if a1≤a2 then (if a2≤(a0.length:Int) then (
 if a2≤(a0.length:Int) then (if (a0.length:Int)≤(a0.length:Int) then (
 bif (a1 == a2) then (
 some (a0,()))
 else (
 if 0≤(0:Int) then (if (0:Int)≤a1 then (if a1≤(a0.length:Int) then (
 if 0≤a2 then (if a2≤(a0.length:Int) then (if (a0.length:Int)≤(a0.length:Int) then (
 if a2.toNat≤(a0.length:Int).toNat then (if a1.toNat + ((a0.length:Int).toNat - a2.toNat)≤a0.length then (
 let u1:(List ah.D):=a0.take (a1.toNat)++(a0.take ((a0.length:Int).toNat)).drop (a2.toNat)++a0.drop (a1.toNat + ((a0.length:Int).toNat - a2.toNat))
 if 0≤((a1.toNat + ((a0.length:Int).toNat - a2.toNat) - 0:Nat):Int) then (if ((a1.toNat + ((a0.length:Int).toNat - a2.toNat) - 0:Nat):Int)≤(a0.length:Int) then (if (a0.length:Int)≤(u1.length:Int) then (
 some ((((u1.take (((a1.toNat + ((a0.length:Int).toNat - a2.toNat) - 0:Nat):Int).toNat)++List.replicate ((a0.length:Int).toNat - ((a1.toNat + ((a0.length:Int).toNat - a2.toNat) - 0:Nat):Int).toNat) (0,0,0,(0,0,0,0,0,0,0,0,0,0,0,false,false,()),())++u1.drop ((a0.length:Int).toNat)).take (a1.toNat + ((a0.length:Int).toNat - a2.toNat))).drop (0)),())) else none) else none) else none) else none) else none) else none) else none) else none) else none) else none) else none)) else none) else none) else none) else none) else none
def ly:Ct:=.mut [.tk,.rd,.rd] true true (.pair (.slice ah) (.pair (.int .i64) (.pair (.int .i64) .unit))) (.slice ah) (fun x=>dI x.1 x.2.1 x.2.2.1)
theorem kj:KC 312 ly:=mq En .none Tryz.func312
def kX:((List Int)×((List ah.D)×(List ah.D)))→Option (((List Int)×((List ah.D)×(List ah.D)))⊕((List Int)×((List ah.D)×(List ah.D)))):=fun s8 =>
 bif decide ((s8.2.2.length:Int) > 0) then (
(vO s8.1 (s8.2.2.length:Int)).bind fun y9 =>
 idx s8.2.2 y9.1 fun _ =>
(s8.2.2[(y9.1:Int).toNat]?).bind fun x10 =>
 if (s8.2.1.length + [x10].length) * (24 * 16)≤aG then (
(dI s8.2.2 y9.1 (IntKind.wrap .i64 (y9.1 + 1))).bind fun y11 =>
 some (.inl (y9.2.1,(s8.2.1++[x10]),y11.1))) else none)
 else (
 some (.inr s8))
def kY (y3:(List Int)):((List Int)×((List ah.D)×((List ah.D)×Int)))→Option (((List Int)×((List ah.D)×((List ah.D)×Int)))⊕((List Int)×((List ah.D)×((List ah.D)×Int)))):=fun s4 =>
 bif decide (s4.2.2.2 < (y3.length:Int)) then (
 idx y3 s4.2.2.2 fun _ =>
(y3[(s4.2.2.2:Int).toNat]?).bind fun x5 =>
(kW s4.2.2.1 x5).bind fun y6 =>
(bV s4.2.2.1 (fun q=>zD x5 q.1)).bind fun y7 =>
(aw (kX) (s4.1,s4.2.1,y6)).bind fun o12 =>
 some (.inl (o12.1,o12.2.1,y7.1,IntKind.wrap .i64 (s4.2.2.2 + 1))))
 else (
 some (.inr s4))
def m9 (a0:ac.D) (a1:(List ah.D)) (a2:(List Int)):Option ((List ah.D)×((List Int)×Unit)) :=
(bH a1).bind fun y1 =>
(bA a2).bind fun y2 =>
(gR a0).bind fun y3 =>
(aw (kY y3) (y2,[],y1,0)).bind fun o13 =>
 if (o13.2.1.length + o13.2.2.1.length) * (24 * 16)≤aG then (
 some ((o13.2.1++o13.2.2.1),o13.1,())) else none
def Jl:Hints:=(n0 (n0 (n0 (n0 (nd (n0 (nd (.node none (some ⟨[.tmpO 2 0 (.slice (.int .i64)),.tmpO 8 0 (.slice ah),.tmpO 9 0 (.slice ah),.tmp 23 (.int .i64)],[some 0],none,[]⟩) (n0 (n0 (nd (nd (n0 (n0 (n0 (nd (.node none (some ⟨[.tmpO 2 1 (.slice (.int .i64)),.tmpO 8 1 (.slice ah),.tmpO 12 0 (.slice ah)],[some 2],none,[]⟩) .none .none) .none)))) .none) .none))) .none) .none)) .none)))))
def zE:Ct:=.pure false true (.pair ac (.pair (.slice ah) (.pair (.slice (.int .i64)) .unit))) (.pair (.slice ah) (.pair (.slice (.int .i64)) .unit)) (fun x=>m9 x.1 x.2.1 x.2.2.1)
theorem yh:KC 215 zE:=pq (Ec lV (Ec bG (Ec sM (Ec dg (Ec va (Ec eo (Ec DU (Ec kj En)))))))) Jl Tryz.func215
theorem nc (xs:List bc.D) (hl:xs.length≤1048576) (p:bc.D→Bool) (q:(bc.D×Unit)→Option Bool) (hq:∀ x∈xs,q (x,())=some (p x)) :
  cN xs q=some (match bS p xs with | some k=>(k:Int) | none=>-1):=by
 unfold cN
 rw [d9 xs (body:=ci xs q) p (fun i=>i) (by omega) (fun i x hx=>?_) ?_]
 ·cases bS p xs <;> rfl
 ·unfold ci
  simp
 ·unfold ci
  have hlt:=(List.getElem?_eq_some_iff.1 hx).1
  have:((i:Int) < (xs.length:Int)):=by omega
  simp only [this,decide_true,cond_true,aJ hx,hq x (List.mem_of_getElem? hx),Option.bind_some]
theorem mb (xs:List bc.D) (hl:xs.length≤1048576) (p:bc.D→Bool) (q:(bc.D×Unit)→Option Bool) (hq:∀ x∈xs,q (x,())=some (p x)) :
  cE xs q=some (xs.filter (fun x=>!p x),()):=by
 unfold cE
 rw [nc xs hl p q hq,Option.bind_some]
 obtain ⟨h1,h2⟩:=eT p xs
 cases hf:bS p xs with
 | none =>
  have:xs.filter (fun x=>!p x)=xs:=by rw [List.filter_eq_self];intro x hx;simp [h1 hf x hx]
  rw [this];rfl
 | some k =>
  obtain ⟨x,g1,g2,g3⟩:=h2 k hf
  have hk:=(List.getElem?_eq_some_iff.1 g1).1
  have n1:((k:Int) == -1)=false:=by simp
  simp only [n1,cond_false]
  rw [aD (by omega) (by omega)]
  obtain ⟨ys,m,e1,e2,e3,e4⟩:∃ (ys:List bc.D) (m:Nat),aw (bE q) (xs,(k:Int),(k:Int) + 1)=some (ys,(m:Int),(xs.length:Int))∧ys.length=xs.length∧m≤xs.length∧ys.take m=xs.filter (fun x=>!p x):=by
   refine Dm xs (body:=bE q) p (fun s=>s) (by omega) (fun ys i j x hx hij hl' hm=>?_) (fun ys i hl'=>?_) k x g1 g2 g3
   ·have hlt:=(List.getElem?_eq_some_iff.1 hx).1
    have hil:((j:Int) < (ys.length:Int)):=by omega
    obtain ⟨y,hy⟩:∃ y,ys[i]?=some y:=⟨_,List.getElem?_eq_getElem (by omega)⟩
    unfold bE
    simp (disch:=omega) only [hil,decide_true,cond_true,Int.toNat_natCast,aJ hx,hx,hq x hm,Option.bind_some,aJ hy,hy,aD]
    cases p x <;> rfl
   ·unfold bE
    have:¬ ((xs.length:Int) < (ys.length:Int)):=by omega
    simp only [this,decide_false,cond_false]
  rw [e1,Option.bind_some]
  have t1:0≤(m:Int):=by omega
  have t2:(m:Int)≤(ys.length:Int):=by omega
  simp only [t1,t2,if_true,Int.le_refl,Int.toNat_natCast]
  have z1:m≤ys.length:=by omega
  rw [if_pos (by simp only [List.length_append,List.length_take,List.length_replicate,List.length_drop];omega)]
  have:∀ (zs:List bc.D),(ys.take m++zs).take m=ys.take m:=fun zs=>by rw [List.take_append_of_le_length (by simp;omega),List.take_take,Nat.min_self]
  rw [List.append_assoc,this,e4]
  simp
def b5 (a0:List aa.D) (a1:(aa.D×Unit)→Option Bool):Option (List aa.D×Unit):=if a0.length≤1048576∧a0.all (fun x=>(a1 (x,())).isSome)=true then some (a0.filter (fun x=>!(a1 (x,())).getD false),()) else none
def jE:Ct:=.mut [.tk,.rd] true true (.pair (.slice aa) (.pair (.fn (.pair aa .unit) .bool) .unit)) (.slice aa) (fun x=>b5 x.1 x.2.1)
theorem jj:cI Tryz.prog 219 jE:=by
 refine Us (t:=aa) (FH:=fun x=>cE x.1 x.2.1) rfl rfl iR fun xs p z hz=>?_
 have hz:b5 xs p=some z:=hz
 unfold b5 at hz
 split at hz
 ·rename_i h
  obtain ⟨h1,h2⟩:=h
  cases hz
  refine ⟨_,(Od _ xs 0).2,Gg _ xs,fun xsH pH hl hp=>?_⟩
  have hs:∀ xh∈xsH,pH (xh,())=some ((pH (xh,())).getD false):=fun xh hm=>by
   obtain ⟨i,hi⟩:=List.mem_iff_getElem?.1 hm
   have hil:i < xs.length:=by rw [← hl];exact (List.getElem?_eq_some_iff.1 hi).1
   have hx:xs[i]?=some xs[i]:=List.getElem?_eq_getElem hil
   have hsome:=List.all_eq_true.1 h2 xs[i] (List.getElem_mem hil)
   rw [hp i _ xh hx hi]
   obtain ⟨b,hb⟩:=Option.isSome_iff_exists.1 hsome
   rw [hb];rfl
  refine ⟨_,mb xsH (by omega) (fun xh=>(pH (xh,())).getD false) pH hs,?_⟩
  rw [← Ig (fun x=>!(p (x,())).getD false) (fun xh=>!(pH (xh,())).getD false) xs xsH 0 hl fun i x xh hx hh=>by rw [hp i x xh hx hh]]
  exact Gg _ xsH
 ·cases hz
def pt (z0:Int) (a0:aa.D):Option Bool :=
(oJ a0 z0).bind fun y1 =>
 some (!y1)
def G5:Ct:=.clo (.pair aa .unit) (.pair (.int .i64) .unit) .bool (fun z x=>pt z.1 x.1)
theorem Fm:KC 220 G5:=cq (Ec Bv En) .none Tryz.func220
def qf (a0:(List aa.D)) (a1:Int):Option (List aa.D) :=
(b9 a0).bind fun y1 =>
(b5 y1 (fun q=>pt a1 q.1)).bind fun y2 =>
 some y2.1
def AY:Ct:=.pure true true (.pair (.slice aa) (.pair (.int .i64) .unit)) (.slice aa) (fun x=>qf x.1 x.2.1)
theorem qg:KC 96 AY:=pq (Ec bB (Ec jj (Ec Fm En))) .none Tryz.func96
def eE (a0:Unit) (a1:Int):Option ((List ah.D)×Unit) :=
((bif decide (a1 < 0) then (
 none)
 else (
 some ())):Option Unit).bind fun o1 =>
 bif decide ((IntKind.wrap .i64 (a1 - (IntKind.wrap .i64 (0 - 0)))) > 0) then (
 if 0≤(0:Int) then (if (0:Int)≤(0:Int) then (if (0:Int)≤((0:Nat):Int) then (
 if 0 < (IntKind.wrap .i64 (a1 - (IntKind.wrap .i64 (0 - 0)))) then (if (IntKind.wrap .i64 (a1 - (IntKind.wrap .i64 (0 - 0)))).toNat * (24 * 16)≤aG then (
 if 0≤(0:Int) then (if (0:Int)≤(0:Int) then (if (0:Int)≤((List.replicate (IntKind.wrap .i64 (a1 - (IntKind.wrap .i64 (0 - 0)))).toNat (0,0,0,(0,0,0,0,0,0,0,0,0,0,0,false,false,()),()):List ah.D).length:Int) then (
 some ((((List.replicate (IntKind.wrap .i64 (a1 - (IntKind.wrap .i64 (0 - 0)))).toNat (0,0,0,(0,0,0,0,0,0,0,0,0,0,0,false,false,()),()):List ah.D).take ((0:Int).toNat)).drop ((0:Int).toNat)),())) else none) else none) else none) else none) else none) else none) else none) else none)
 else (
 some ([],()))
def sW:Hints:=(n0 (nd (n0 (cu ⟨[],[none],none,[]⟩)) .none))
def ne:Ct:=.mut [.nil,.rd] true true (.pair .unit (.pair (.int .i64) .unit)) (.slice ah) (fun x=>eE x.1 x.2.1)
theorem mc:KC 315 ne:=mq En sW Tryz.func315
def bC (a0:(List (List ah.D))):(Int×Int)→Option ((Int×Int)⊕(Int×Int)):=fun s1 =>
 bif decide (s1.2 < (a0.length:Int)) then (
 idx a0 s1.2 fun x2 =>
 bif decide ((IntKind.wrap .i64 (s1.1 + (x2.length:Int))) < 0) then (
 none)
 else (
 some (.inl (IntKind.wrap .i64 (s1.1 + (x2.length:Int)),IntKind.wrap .i64 (s1.2 + 1)))))
 else (
 some (.inr s1))
def bD (a0:(List (List ah.D))):((List ah.D)×Int)→Option (((List ah.D)×Int)⊕((List ah.D)×Int)):=fun s5 =>
 bif decide (s5.2 < (a0.length:Int)) then (
 idx a0 s5.2 fun x6 =>
 if (s5.1.length + x6.length) * (24 * 16)≤aG then (
 some (.inl ((s5.1++x6),IntKind.wrap .i64 (s5.2 + 1)))) else none)
 else (
 some (.inr s5))
def dJ (a0:(List (List ah.D))):Option (List ah.D) :=
(aw (bC a0) (0,0)).bind fun o3 =>
(eE () o3.1).bind fun y4 =>
(aw (bD a0) (y4.1,0)).bind fun o7 =>
 some o7.1
def qE:Hints:=(n0 (n0 (nd (n0 (nd (.node none (some ⟨[.tmp 3 (.int .i64),.tmp 11 (.int .i64)],[some 0],none,[]⟩) .none .none) .none)) (n0 (nd (n0 (nd (.node none (some ⟨[.tmpO 6 0 (.slice ah),.tmp 27 (.int .i64)],[some 2],none,[]⟩) .none .none) .none)) .none)))))
def lz:Ct:=.pure true true (.pair (.slice (.slice ah)) .unit) (.slice ah) (fun x=>dJ x.1)
theorem kl:KC 217 lz:=pq (Ec mc En) qE Tryz.func217
def fI (a0:Unit) (a1:Int):Option ((List aq.D)×Unit) :=
((bif decide (a1 < 0) then (
 none)
 else (
 some ())):Option Unit).bind fun o1 =>
 bif decide ((IntKind.wrap .i64 (a1 - (IntKind.wrap .i64 (0 - 0)))) > 0) then (
 if 0≤(0:Int) then (if (0:Int)≤(0:Int) then (if (0:Int)≤((0:Nat):Int) then (
 if 0 < (IntKind.wrap .i64 (a1 - (IntKind.wrap .i64 (0 - 0)))) then (if (IntKind.wrap .i64 (a1 - (IntKind.wrap .i64 (0 - 0)))).toNat * (24 * 23)≤aG then (
 if 0≤(0:Int) then (if (0:Int)≤(0:Int) then (if (0:Int)≤((List.replicate (IntKind.wrap .i64 (a1 - (IntKind.wrap .i64 (0 - 0)))).toNat (0,(0,0,0,0,0,0,false,()),0,0,(0,0,0,0,0,0,0,0,0,0,0,false,false,()),()):List aq.D).length:Int) then (
 some ((((List.replicate (IntKind.wrap .i64 (a1 - (IntKind.wrap .i64 (0 - 0)))).toNat (0,(0,0,0,0,0,0,false,()),0,0,(0,0,0,0,0,0,0,0,0,0,0,false,false,()),()):List aq.D).take ((0:Int).toNat)).drop ((0:Int).toNat)),())) else none) else none) else none) else none) else none) else none) else none) else none)
 else (
 some ([],()))
def vY:Hints:=(n0 (nd (n0 (cu ⟨[],[none],none,[]⟩)) .none))
def qi:Ct:=.mut [.nil,.rd] true true (.pair .unit (.pair (.int .i64) .unit)) (.slice aq) (fun x=>fI x.1 x.2.1)
theorem oP:KC 316 qi:=mq En vY Tryz.func316
def bW (a0:(List (List aq.D))):(Int×Int)→Option ((Int×Int)⊕(Int×Int)):=fun s1 =>
 bif decide (s1.2 < (a0.length:Int)) then (
 idx a0 s1.2 fun x2 =>
 bif decide ((IntKind.wrap .i64 (s1.1 + (x2.length:Int))) < 0) then (
 none)
 else (
 some (.inl (IntKind.wrap .i64 (s1.1 + (x2.length:Int)),IntKind.wrap .i64 (s1.2 + 1)))))
 else (
 some (.inr s1))
def bX (a0:(List (List aq.D))):((List aq.D)×Int)→Option (((List aq.D)×Int)⊕((List aq.D)×Int)):=fun s5 =>
 bif decide (s5.2 < (a0.length:Int)) then (
 idx a0 s5.2 fun x6 =>
 if (s5.1.length + x6.length) * (24 * 23)≤aG then (
 some (.inl ((s5.1++x6),IntKind.wrap .i64 (s5.2 + 1)))) else none)
 else (
 some (.inr s5))
def eP (a0:(List (List aq.D))):Option (List aq.D) :=
(aw (bW a0) (0,0)).bind fun o3 =>
(fI () o3.1).bind fun y4 =>
(aw (bX a0) (y4.1,0)).bind fun o7 =>
 some o7.1
def tH:Hints:=(n0 (n0 (nd (n0 (nd (.node none (some ⟨[.tmp 3 (.int .i64),.tmp 11 (.int .i64)],[some 0],none,[]⟩) .none .none) .none)) (n0 (nd (n0 (nd (.node none (some ⟨[.tmpO 6 0 (.slice aq),.tmp 27 (.int .i64)],[some 2],none,[]⟩) .none .none) .none)) .none)))))
def nM:Ct:=.pure true true (.pair (.slice (.slice aq)) .unit) (.slice aq) (fun x=>eP x.1)
theorem nf:KC 218 nM:=pq (Ec oP En) tH Tryz.func218
def ux (a0:aC.D) (a1:(List ae.D)):Option (aC.D×Unit) :=
(kV a0.1 a0.2.1 a1 a0.2.2.1).bind fun y1 =>
(uv a0.1 y1.1).bind fun y2 =>
(lU y2.1).bind fun y3 =>
(vW a0.1 y2.2.1).bind fun y4 =>
(m9 y3.1 y4 y1.2.2.1).bind fun y5 =>
(vW y2.1 y3.2.1).bind fun y6 =>
(m9 y3.1 y6 y5.2.1).bind fun y7 =>
(qf y1.2.1 y3.1.2.2.2.1).bind fun y8 =>
(dJ [a0.2.2.2.1,y5.1,y7.1]).bind fun y9 =>
(eP [a0.2.2.2.2.1,y2.2.1,y3.2.1]).bind fun y10 =>
 if (a0.2.2.2.2.2.1.length + y1.2.2.2.1.length) * (24 * 14)≤aG then (
 some ((y3.1,y8,y7.2.1,y9,y10,(a0.2.2.2.2.2.1++y1.2.2.2.1),()),())) else none
def AZ:Ct:=.mut [.tk,.rd] true true (.pair aC (.pair (.slice ae) .unit)) aC (fun x=>ux x.1 x.2.1)
theorem zF:KC 94 AZ:=mq (Ec uZ (Ec qg (Ec zA (Ec zB (Ec yh (Ec Cp (Ec kl (Ec nf En)))))))) .none Tryz.func94
def jF (a0:aC.D) (a1:bi.D):Option (aC.D×(Bool×Unit)) :=
(kc a0).bind fun y1 =>
(lQ y1).bind fun y2 =>
 bif (!y2) then (
 some (y1,false,()))
 else (
((bif (a1.1 == 1) then (
(rs y1.2.1 a1.2.1).bind fun y3 =>
 some (.inl (y3.2.1,(y1.1,y3.1,y1.2.2),([],[],0,0,()),[],[],[],[],[],())))
 else (
((bif (a1.1 == 2) then (
(Am y1.2.1 a1.2.2.1).bind fun y4 =>
 some (.inl (y4.2.1,(y1.1,y4.1,y1.2.2),([],[],0,0,()),[],[],[],[],[],())))
 else (
((bif (a1.1 == 3) then (
(mV a1.2.2.2.1).bind fun y5 =>
 bif (!y5) then (
 some (.inr ((false,y1))))
 else (
(ux y1 a1.2.2.2.1).bind fun y6 =>
 some (.inl (true,(([],[],0,0,()),[],[],[],[],[],()),y6.1))))
 else (
((bif (a1.1 == 4) then (
 bif (y1.1.2.2.2.1 == 9999) then (
 some (.inr ((false,y1))))
 else (
(gR y1.1).bind fun y7 =>
 idx y7 1 fun _ =>
(y7[(1:Int).toNat]?).bind fun x8 =>
(qf y1.2.1 (IntKind.wrap .i64 (y1.1.2.2.2.1 + 1))).bind fun y9 =>
 some (.inl (true,(([],[],0,0,()),[],[],[],[],[],()),(y1.1.1,y1.1.2.1,x8,IntKind.wrap .i64 (y1.1.2.2.2.1 + 1),()),y9,y1.2.2))))
 else (
 some (.inl (false,(([],[],0,0,()),[],[],[],[],[],()),y1)))):Option ((Bool×(aC.D×(ac.D×((List aa.D)×((List Int)×((List ah.D)×((List aq.D)×((List aA.D)×Unit))))))))⊕(Bool×(ac.D×((List aa.D)×((List Int)×((List ah.D)×((List aq.D)×((List aA.D)×Unit))))))))).bind fun o10 =>
 match o10 with
| .inl s11=>(
 some (.inl s11))
| .inr o12=>(
 some (.inr o12)))):Option ((Bool×(aC.D×(ac.D×((List aa.D)×((List Int)×((List ah.D)×((List aq.D)×((List aA.D)×Unit))))))))⊕(Bool×(ac.D×((List aa.D)×((List Int)×((List ah.D)×((List aq.D)×((List aA.D)×Unit))))))))).bind fun o13 =>
 match o13 with
| .inl s14=>(
 some (.inl (s14.1,s14.2.2,s14.2.1)))
| .inr o15=>(
 some (.inr o15)))):Option ((Bool×(aC.D×(ac.D×((List aa.D)×((List Int)×((List ah.D)×((List aq.D)×((List aA.D)×Unit))))))))⊕(Bool×(ac.D×((List aa.D)×((List Int)×((List ah.D)×((List aq.D)×((List aA.D)×Unit))))))))).bind fun o16 =>
 match o16 with
| .inl s17=>(
 some (.inl s17))
| .inr o18=>(
 some (.inr o18)))):Option ((Bool×(aC.D×(ac.D×((List aa.D)×((List Int)×((List ah.D)×((List aq.D)×((List aA.D)×Unit))))))))⊕(Bool×(ac.D×((List aa.D)×((List Int)×((List ah.D)×((List aq.D)×((List aA.D)×Unit))))))))).bind fun o19 =>
 match o19 with
| .inl s20=>(
 some (s20.2.1,s20.1,()))
| .inr o21=>(
 some (o21.2,o21.1,())))
def Jm:Hints:=(n0 (n0 (n0 (n0 (nd (n0 (nd (n0 (.node (some ⟨[.tmp 6 .bool,.boxO 2 0 1 aC,.boxO 4 0 1 aC],[none],some [.tmp 5 .bool,.boxO 4 0 1 aC],[(2,0),(4,0),(8,0),(8,1),(8,2),(8,3),(8,4),(8,5),(8,6)]⟩) none .none (n0 (.node (some ⟨[.tmp 6 .bool,.boxO 2 0 1 aC,.boxO 4 0 1 aC],[none],some [.tmp 5 .bool,.boxO 4 0 1 aC],[(2,0),(4,0),(8,0),(8,1),(8,2),(8,3),(8,4),(8,5),(8,6)]⟩) none .none (n0 (.node (some ⟨[.tmp 6 .bool,.boxO 4 0 1 aC,.boxO 2 0 1 aC],[none],some [.tmp 5 .bool,.boxO 4 0 1 aC],[(4,0),(8,0),(2,0),(8,1),(8,2),(8,3),(8,4),(8,5),(8,6)]⟩) none .none (n0 (cu ⟨[.tmp 6 .bool,.boxO 4 0 1 aC,.boxO 2 0 1 aC],[none],some [.tmp 5 .bool,.boxO 4 0 1 aC],[(4,0),(2,0),(8,0),(8,1),(8,2),(8,3),(8,4),(8,5),(8,6)]⟩)))))))) .none)) .none)))))
def zG:Ct:=.pure false true (.pair aC (.pair bi .unit)) (.pair aC (.pair .bool .unit)) (fun x=>jF x.1 x.2.1)
theorem yi:KC 12 zG:=pq (Ec zp (Ec xL (Ec wM (Ec yc (Ec Cc (Ec zF (Ec lV (Ec qg En)))))))) Jm Tryz.func12
def iN (a0:(List Int)):Option (aC.D×(aC.D×Unit)) :=
(sj a0).bind fun y1 =>
(lO y1).bind fun y2 =>
(bu y2.2.1 2).bind fun y3 =>
 bif y3.1 then (
(ia y2.1).bind fun y4 =>
 some (y2.1,y4,()))
 else (
(ia y2.1).bind fun y5 =>
(aI y3.2.1 4).bind fun y6 =>
((bif (y6.1 == 0) then (
 some (.inl (((y5.1.1,y5.1.2.1,y5.1.2.2.1,IntKind.wrap .i64 (y5.1.2.2.2.1 + 1),()),y5.2),y6.2.1,(([],[],0,0,()),[],[],[],[],[],()),([],[],0,0,()),[],[],[],[],[],())))
 else (
((bif (y6.1 == 1) then (
 if (y5.2.2.1.length + ([1]:List Int).length) * (24 * 1)≤aG then (
 some (.inl ((y5.1,y5.2.1,(y5.2.2.1++([1]:List Int)),y5.2.2.2),y6.2.1,(([],[],0,0,()),[],[],[],[],[],()),([],[],0,0,()),[],[],[],[],[],()))) else none)
 else (
 bif (y6.1 == 2) then (
 if (y5.2.2.2.2.1.length + ([(1,(0,0,0,0,0,0,false,()),0,0,(0,0,0,0,0,0,0,0,0,0,0,false,false,()),())]:List aq.D).length) * (24 * 23)≤aG then (
 some (.inl ((y5.1,y5.2.1,y5.2.2.1,y5.2.2.2.1,(y5.2.2.2.2.1++([(1,(0,0,0,0,0,0,false,()),0,0,(0,0,0,0,0,0,0,0,0,0,0,false,false,()),())]:List aq.D)),y5.2.2.2.2.2),y6.2.1,(([],[],0,0,()),[],[],[],[],[],()),([],[],0,0,()),[],[],[],[],[],()))) else none)
 else (
(lO y6.2.1).bind fun y7 =>
 some (.inr ((y2.1,y7.1)))))):Option ((aC.D×(aj.D×(aC.D×(ac.D×((List aa.D)×((List Int)×((List ah.D)×((List aq.D)×((List aA.D)×Unit)))))))))⊕(aC.D×(ac.D×((List aa.D)×((List Int)×((List ah.D)×((List aq.D)×((List aA.D)×Unit))))))))).bind fun o8 =>
 match o8 with
| .inl s9=>(
 some (.inl s9))
| .inr o10=>(
 some (.inr o10)))):Option ((aC.D×(aj.D×(aC.D×(ac.D×((List aa.D)×((List Int)×((List ah.D)×((List aq.D)×((List aA.D)×Unit)))))))))⊕(aC.D×(ac.D×((List aa.D)×((List Int)×((List ah.D)×((List aq.D)×((List aA.D)×Unit))))))))).bind fun o11 =>
 match o11 with
| .inl s12=>(
 some (y2.1,s12.1,()))
| .inr o13=>(
 some (o13.1,o13.2,())))
def A0:Hints:=(n0 (n0 (n0 (n0 (n0 (nd (n0 (nd (n0 (.node (some ⟨[.boxO 6 0 1 aC,.box 8 0 aj,.boxO 2 0 1 aC,.boxO 3 0 1 aC],[none],some [.box 2 0 aC,.box 3 0 aC],[(6,0),(17,3),(17,5),(8,0),(2,0),(3,0),(17,0),(17,1),(17,2),(17,4),(17,6)]⟩) none .none (n0 (cu ⟨[.boxO 6 0 1 aC,.box 8 0 aj,.boxO 2 0 1 aC,.boxO 3 0 1 aC],[none],some [.box 2 0 aC,.box 3 0 aC],[(17,3),(6,0),(17,5),(8,0),(2,0),(3,0),(17,0),(17,1),(17,2),(17,4),(17,6)]⟩)))) .none)) .none))))))
def A1:Ct:=.pure false false (.pair (.slice (.int .u8)) .unit) (.pair aC (.pair aC .unit)) (fun x=>iN x.1)
theorem zI:KC 14 A1:=pq (Ec Bl (Ec zj (Ec aO (Ec iJ (Ec cW En))))) A0 Tryz.func14
def sX (a0:(List ai.D)) (a1:(List ai.D)):Int→Option (Int⊕(Int⊕Bool)):=fun s1 =>
 bif decide (s1 < (a0.length:Int)) then (
 idx a0 s1 fun x2 =>
 idx a1 s1 fun x3 =>
 bif (!((x2.1 == x3.1) && ((x2.2.1 == x3.2.1) && ((x2.2.2.1 == x3.2.2.1) && ((x2.2.2.2.1 == x3.2.2.2.1) && ((x2.2.2.2.2.1 == x3.2.2.2.2.1) && ((x2.2.2.2.2.2.1 == x3.2.2.2.2.2.1) && ((x2.2.2.2.2.2.2.1 == x3.2.2.2.2.2.2.1) && ((x2.2.2.2.2.2.2.2.1 == x3.2.2.2.2.2.2.2.1) && ((x2.2.2.2.2.2.2.2.2.1 == x3.2.2.2.2.2.2.2.2.1) && ((x2.2.2.2.2.2.2.2.2.2.1 == x3.2.2.2.2.2.2.2.2.2.1) && ((x2.2.2.2.2.2.2.2.2.2.2.1 == x3.2.2.2.2.2.2.2.2.2.2.1) && ((x2.2.2.2.2.2.2.2.2.2.2.2.1 == x3.2.2.2.2.2.2.2.2.2.2.2.1) && ((x2.2.2.2.2.2.2.2.2.2.2.2.2.1 == x3.2.2.2.2.2.2.2.2.2.2.2.2.1) && true)))))))))))))) then (
 some (.inr (.inr false)))
 else (
 some (.inl (IntKind.wrap .i64 (s1 + 1)))))
 else (
 some (.inr (.inl s1)))
def gS (a0:(List ai.D)) (a1:(List ai.D)):Option Bool :=
 bif ((a0.length:Int) != (a1.length:Int)) then (
 some false)
 else (
(aw (sX a0 a1) 0).bind fun o4 =>
 match o4 with
| .inl s5=>(
 some true)
| .inr o6=>(
 some o6))
def tI:Hints:=(n0 (n0 (nd (n0 (nd (.node none (some ⟨[.tmp 13 (.int .i64)],[some 0],some [.tmp 4 .bool],[]⟩) .none .none) .none)) .none)))
def tJ:Ct:=.pure true false (.pair (.slice ai) (.pair (.slice ai) .unit)) .bool (fun x=>gS x.1 x.2.1)
theorem sY:KC 231 tJ:=pq En tI Tryz.func231
def tK (a0:(List ay.D)) (a1:(List ay.D)):Int→Option (Int⊕(Int⊕Bool)):=fun s1 =>
 bif decide (s1 < (a0.length:Int)) then (
 idx a0 s1 fun x2 =>
 idx a1 s1 fun x3 =>
 bif (!((x2.1 == x3.1) && ((x2.2.1 == x3.2.1) && ((x2.2.2.1 == x3.2.2.1) && true)))) then (
 some (.inr (.inr false)))
 else (
 some (.inl (IntKind.wrap .i64 (s1 + 1)))))
 else (
 some (.inr (.inl s1)))
def ip (a0:(List ay.D)) (a1:(List ay.D)):Option Bool :=
 bif ((a0.length:Int) != (a1.length:Int)) then (
 some false)
 else (
(aw (tK a0 a1) 0).bind fun o4 =>
 match o4 with
| .inl s5=>(
 some true)
| .inr o6=>(
 some o6))
def vd:Hints:=(n0 (n0 (nd (n0 (nd (.node none (some ⟨[.tmp 13 (.int .i64)],[some 0],some [.tmp 4 .bool],[]⟩) .none .none) .none)) .none)))
def ve:Ct:=.pure true false (.pair (.slice ay) (.pair (.slice ay) .unit)) .bool (fun x=>ip x.1 x.2.1)
theorem tL:KC 232 ve:=pq En vd Tryz.func232
def ng (a0:ac.D) (a1:ac.D):Option Bool :=
 bif (a0.2.2.1 == a1.2.2.1) then (
 bif (a0.2.2.2.1 == a1.2.2.2.1) then (
(gS a0.1 a1.1).bind fun y1 =>
 bif y1 then (
(ip a0.2.1 a1.2.1).bind fun y2 =>
 some y2)
 else (
 some false))
 else (
 some false))
 else (
 some false)
def Fn:Ct:=.pure true false (.pair ac (.pair ac .unit)) .bool (fun x=>ng x.1 x.2.1)
theorem DV:KC 104 Fn:=pq (Ec sY (Ec tL En)) .none Tryz.func104
def nN (a0:(List aa.D)) (a1:(List aa.D)) (a2:((aa.D×(aa.D×Unit))→Option Bool)):Int→Option (Int⊕(Int⊕Bool)):=fun s1 =>
 bif decide (s1 < (a0.length:Int)) then (
 idx a0 s1 fun x2 =>
 idx a1 s1 fun x3 =>
(a2 (x2,x3,())).bind fun y4 =>
 bif (!y4) then (
 some (.inr (.inr false)))
 else (
 some (.inl (IntKind.wrap .i64 (s1 + 1)))))
 else (
 some (.inr (.inl s1)))
def eU (a0:(List aa.D)) (a1:(List aa.D)) (a2:((aa.D×(aa.D×Unit))→Option Bool)):Option Bool :=
 bif ((a0.length:Int) != (a1.length:Int)) then (
 some false)
 else (
(aw (nN a0 a1 a2) 0).bind fun o5 =>
 match o5 with
| .inl s6=>(
 some true)
| .inr o7=>(
 some o7))
def oQ:Hints:=(n0 (n0 (nd (n0 (nd (.node none (some ⟨[.tmp 17 (.int .i64)],[some 0],some [.tmp 6 .bool],[]⟩) .none .none) .none)) .none)))
def oR:Ct:=.pure true false (.pair (.slice aa) (.pair (.slice aa) (.pair (.fn (.pair aa (.pair aa .unit)) .bool) .unit))) .bool (fun x=>eU x.1 x.2.1 x.2.2.1)
theorem nO:KC 195 oR:=pq En oQ Tryz.func195
def sZ (a0:(List ae.D)) (a1:(List ae.D)):Int→Option (Int⊕(Int⊕Bool)):=fun s1 =>
 bif decide (s1 < (a0.length:Int)) then (
 idx a0 s1 fun x2 =>
 idx a1 s1 fun x3 =>
 bif (!((x2.1 == x3.1) && ((x2.2.1 == x3.2.1) && ((x2.2.2.1 == x3.2.2.1) && ((x2.2.2.2.1 == x3.2.2.2.1) && ((x2.2.2.2.2.1 == x3.2.2.2.2.1) && ((x2.2.2.2.2.2.1 == x3.2.2.2.2.2.1) && ((x2.2.2.2.2.2.2.1 == x3.2.2.2.2.2.2.1) && true)))))))) then (
 some (.inr (.inr false)))
 else (
 some (.inl (IntKind.wrap .i64 (s1 + 1)))))
 else (
 some (.inr (.inl s1)))
def eQ (a0:(List ae.D)) (a1:(List ae.D)):Option Bool :=
 bif ((a0.length:Int) != (a1.length:Int)) then (
 some false)
 else (
(aw (sZ a0 a1) 0).bind fun o4 =>
 match o4 with
| .inl s5=>(
 some true)
| .inr o6=>(
 some o6))
def tM:Hints:=(n0 (n0 (nd (n0 (nd (.node none (some ⟨[.tmp 13 (.int .i64)],[some 0],some [.tmp 4 .bool],[]⟩) .none .none) .none)) .none)))
def tN:Ct:=.pure true false (.pair (.slice ae) (.pair (.slice ae) .unit)) .bool (fun x=>eQ x.1 x.2.1)
theorem jk:KC 185 tN:=pq En tM Tryz.func185
def wZ (a0:bM.D) (a1:bM.D):Option Bool :=
 bif (a0.1 == a1.1) then (
 bif (a0.2.1 == a1.2.1) then (
 bif (a0.2.2.1 == a1.2.2.1) then (
 bif (a0.2.2.2.1 == a1.2.2.2.1) then (
 bif (a0.2.2.2.2.1 == a1.2.2.2.2.1) then (
 bif (a0.2.2.2.2.2.1 == a1.2.2.2.2.2.1) then (
(eQ a0.2.2.2.2.2.2.1 a1.2.2.2.2.2.2.1).bind fun y1 =>
 some y1)
 else (
 some false))
 else (
 some false))
 else (
 some false))
 else (
 some false))
 else (
 some false))
 else (
 some false)
def Jn:Ct:=.pure true false (.pair bM (.pair bM .unit)) .bool (fun x=>wZ x.1 x.2.1)
theorem G6:KC 297 Jn:=pq (Ec jk En) .none Tryz.func297
def fO (a0:aa.D) (a1:aa.D):Option Bool :=
 bif (a0.1 == a1.1) then (
 bif (a0.2.1 == a1.2.1) then (
 bif (a0.2.2.1 == a1.2.2.1) then (
 bif (a0.2.2.2.1 == a1.2.2.2.1) then (
 bif ((a0.2.2.2.2.1.1 == a1.2.2.2.2.1.1) && ((a0.2.2.2.2.1.2.1 == a1.2.2.2.2.1.2.1) && ((a0.2.2.2.2.1.2.2.1 == a1.2.2.2.2.1.2.2.1) && ((a0.2.2.2.2.1.2.2.2.1 == a1.2.2.2.2.1.2.2.2.1) && ((a0.2.2.2.2.1.2.2.2.2.1 == a1.2.2.2.2.1.2.2.2.2.1) && ((a0.2.2.2.2.1.2.2.2.2.2.1 == a1.2.2.2.2.1.2.2.2.2.2.1) && ((a0.2.2.2.2.1.2.2.2.2.2.2.1 == a1.2.2.2.2.1.2.2.2.2.2.2.1) && true))))))) then (
 bif ((a0.2.2.2.2.2.1.1 == a1.2.2.2.2.2.1.1) && ((a0.2.2.2.2.2.1.2.1 == a1.2.2.2.2.2.1.2.1) && true)) then (
(wZ a0.2.2.2.2.2.2.1 a1.2.2.2.2.2.2.1).bind fun y1 =>
 bif y1 then (
 bif (a0.2.2.2.2.2.2.2.1 == a1.2.2.2.2.2.2.2.1) then (
 some (a0.2.2.2.2.2.2.2.2.1 == a1.2.2.2.2.2.2.2.2.1))
 else (
 some false))
 else (
 some false))
 else (
 some false))
 else (
 some false))
 else (
 some false))
 else (
 some false))
 else (
 some false))
 else (
 some false)
def DW:Ct:=.pure true false (.pair aa (.pair aa .unit)) .bool (fun x=>fO x.1 x.2.1)
theorem Cq:KC 196 DW:=pq (Ec G6 En) .none Tryz.func196
def nh (a0:(List aa.D)) (a1:(List aa.D)):Option Bool :=
(eU a0 a1 (fun q=>fO q.1 q.2.1)).bind fun y1 =>
 some y1
def Fo:Ct:=.pure true false (.pair (.slice aa) (.pair (.slice aa) .unit)) .bool (fun x=>nh x.1 x.2.1)
theorem DX:KC 83 Fo:=pq (Ec nO (Ec Cq En)) .none Tryz.func83
def A2 (a0:(List Int)) (a1:(List Int)):Int→Option (Int⊕(Int⊕Bool)):=fun s1 =>
 bif decide (s1 < (a0.length:Int)) then (
 idx a0 s1 fun x2 =>
 idx a1 s1 fun x3 =>
 bif (x2 != x3) then (
 some (.inr (.inr false)))
 else (
 some (.inl (IntKind.wrap .i64 (s1 + 1)))))
 else (
 some (.inr (.inl s1)))
def oS (a0:(List Int)) (a1:(List Int)):Option Bool :=
 bif ((a0.length:Int) != (a1.length:Int)) then (
 some false)
 else (
(aw (A2 a0 a1) 0).bind fun o4 =>
 match o4 with
| .inl s5=>(
 some true)
| .inr o6=>(
 some o6))
def Cr:Hints:=(n0 (n0 (nd (n0 (nd (.node none (some ⟨[.tmp 13 (.int .i64)],[some 0],some [.tmp 4 .bool],[]⟩) .none .none) .none)) .none)))
def Cs:Ct:=.pure true false (.pair (.slice (.int .i64)) (.pair (.slice (.int .i64)) .unit)) .bool (fun x=>oS x.1 x.2.1)
theorem A3:KC 105 Cs:=pq En Cr Tryz.func105
def qF (a0:(List ah.D)) (a1:(List ah.D)):Int→Option (Int⊕(Int⊕Bool)):=fun s1 =>
 bif decide (s1 < (a0.length:Int)) then (
 idx a0 s1 fun x2 =>
 idx a1 s1 fun x3 =>
 bif (!((x2.1 == x3.1) && ((x2.2.1 == x3.2.1) && ((x2.2.2.1 == x3.2.2.1) && (((x2.2.2.2.1.1 == x3.2.2.2.1.1) && ((x2.2.2.2.1.2.1 == x3.2.2.2.1.2.1) && ((x2.2.2.2.1.2.2.1 == x3.2.2.2.1.2.2.1) && ((x2.2.2.2.1.2.2.2.1 == x3.2.2.2.1.2.2.2.1) && ((x2.2.2.2.1.2.2.2.2.1 == x3.2.2.2.1.2.2.2.2.1) && ((x2.2.2.2.1.2.2.2.2.2.1 == x3.2.2.2.1.2.2.2.2.2.1) && ((x2.2.2.2.1.2.2.2.2.2.2.1 == x3.2.2.2.1.2.2.2.2.2.2.1) && ((x2.2.2.2.1.2.2.2.2.2.2.2.1 == x3.2.2.2.1.2.2.2.2.2.2.2.1) && ((x2.2.2.2.1.2.2.2.2.2.2.2.2.1 == x3.2.2.2.1.2.2.2.2.2.2.2.2.1) && ((x2.2.2.2.1.2.2.2.2.2.2.2.2.2.1 == x3.2.2.2.1.2.2.2.2.2.2.2.2.2.1) && ((x2.2.2.2.1.2.2.2.2.2.2.2.2.2.2.1 == x3.2.2.2.1.2.2.2.2.2.2.2.2.2.2.1) && ((x2.2.2.2.1.2.2.2.2.2.2.2.2.2.2.2.1 == x3.2.2.2.1.2.2.2.2.2.2.2.2.2.2.2.1) && ((x2.2.2.2.1.2.2.2.2.2.2.2.2.2.2.2.2.1 == x3.2.2.2.1.2.2.2.2.2.2.2.2.2.2.2.2.1) && true))))))))))))) && true))))) then (
 some (.inr (.inr false)))
 else (
 some (.inl (IntKind.wrap .i64 (s1 + 1)))))
 else (
 some (.inr (.inl s1)))
def fM (a0:(List ah.D)) (a1:(List ah.D)):Option Bool :=
 bif ((a0.length:Int) != (a1.length:Int)) then (
 some false)
 else (
(aw (qF a0 a1) 0).bind fun o4 =>
 match o4 with
| .inl s5=>(
 some true)
| .inr o6=>(
 some o6))
def rD:Hints:=(n0 (n0 (nd (n0 (nd (.node none (some ⟨[.tmp 13 (.int .i64)],[some 0],some [.tmp 4 .bool],[]⟩) .none .none) .none)) .none)))
def rE:Ct:=.pure true false (.pair (.slice ah) (.pair (.slice ah) .unit)) .bool (fun x=>fM x.1 x.2.1)
theorem qG:KC 121 rE:=pq En rD Tryz.func121
def ga (a0:(List ah.D)) (a1:(List ah.D)):Option Bool :=
(fM a0 a1).bind fun y1 =>
 some y1
def A4:Ct:=.pure true false (.pair (.slice ah) (.pair (.slice ah) .unit)) .bool (fun x=>ga x.1 x.2.1)
theorem qj:KC 21 A4:=pq (Ec qG En) .none Tryz.func21
def tO (a0:(List aq.D)) (a1:(List aq.D)):Int→Option (Int⊕(Int⊕Bool)):=fun s1 =>
 bif decide (s1 < (a0.length:Int)) then (
 idx a0 s1 fun x2 =>
 idx a1 s1 fun x3 =>
 bif (!((x2.1 == x3.1) && (((x2.2.1.1 == x3.2.1.1) && ((x2.2.1.2.1 == x3.2.1.2.1) && ((x2.2.1.2.2.1 == x3.2.1.2.2.1) && ((x2.2.1.2.2.2.1 == x3.2.1.2.2.2.1) && ((x2.2.1.2.2.2.2.1 == x3.2.1.2.2.2.2.1) && ((x2.2.1.2.2.2.2.2.1 == x3.2.1.2.2.2.2.2.1) && ((x2.2.1.2.2.2.2.2.2.1 == x3.2.1.2.2.2.2.2.2.1) && true))))))) && ((x2.2.2.1 == x3.2.2.1) && ((x2.2.2.2.1 == x3.2.2.2.1) && (((x2.2.2.2.2.1.1 == x3.2.2.2.2.1.1) && ((x2.2.2.2.2.1.2.1 == x3.2.2.2.2.1.2.1) && ((x2.2.2.2.2.1.2.2.1 == x3.2.2.2.2.1.2.2.1) && ((x2.2.2.2.2.1.2.2.2.1 == x3.2.2.2.2.1.2.2.2.1) && ((x2.2.2.2.2.1.2.2.2.2.1 == x3.2.2.2.2.1.2.2.2.2.1) && ((x2.2.2.2.2.1.2.2.2.2.2.1 == x3.2.2.2.2.1.2.2.2.2.2.1) && ((x2.2.2.2.2.1.2.2.2.2.2.2.1 == x3.2.2.2.2.1.2.2.2.2.2.2.1) && ((x2.2.2.2.2.1.2.2.2.2.2.2.2.1 == x3.2.2.2.2.1.2.2.2.2.2.2.2.1) && ((x2.2.2.2.2.1.2.2.2.2.2.2.2.2.1 == x3.2.2.2.2.1.2.2.2.2.2.2.2.2.1) && ((x2.2.2.2.2.1.2.2.2.2.2.2.2.2.2.1 == x3.2.2.2.2.1.2.2.2.2.2.2.2.2.2.1) && ((x2.2.2.2.2.1.2.2.2.2.2.2.2.2.2.2.1 == x3.2.2.2.2.1.2.2.2.2.2.2.2.2.2.2.1) && ((x2.2.2.2.2.1.2.2.2.2.2.2.2.2.2.2.2.1 == x3.2.2.2.2.1.2.2.2.2.2.2.2.2.2.2.2.1) && ((x2.2.2.2.2.1.2.2.2.2.2.2.2.2.2.2.2.2.1 == x3.2.2.2.2.1.2.2.2.2.2.2.2.2.2.2.2.2.1) && true))))))))))))) && true)))))) then (
 some (.inr (.inr false)))
 else (
 some (.inl (IntKind.wrap .i64 (s1 + 1)))))
 else (
 some (.inr (.inl s1)))
def iq (a0:(List aq.D)) (a1:(List aq.D)):Option Bool :=
 bif ((a0.length:Int) != (a1.length:Int)) then (
 some false)
 else (
(aw (tO a0 a1) 0).bind fun o4 =>
 match o4 with
| .inl s5=>(
 some true)
| .inr o6=>(
 some o6))
def vf:Hints:=(n0 (n0 (nd (n0 (nd (.node none (some ⟨[.tmp 13 (.int .i64)],[some 0],some [.tmp 4 .bool],[]⟩) .none .none) .none)) .none)))
def vg:Ct:=.pure true false (.pair (.slice aq) (.pair (.slice aq) .unit)) .bool (fun x=>iq x.1 x.2.1)
theorem tP:KC 120 vg:=pq En vf Tryz.func120
def jl (a0:(List aq.D)) (a1:(List aq.D)):Option Bool :=
(iq a0 a1).bind fun y1 =>
 some y1
def Fp:Ct:=.pure true false (.pair (.slice aq) (.pair (.slice aq) .unit)) .bool (fun x=>jl x.1 x.2.1)
theorem uy:KC 20 Fp:=pq (Ec tP En) .none Tryz.func20
def qk (a0:(List aA.D)) (a1:(List aA.D)) (a2:((aA.D×(aA.D×Unit))→Option Bool)):Int→Option (Int⊕(Int⊕Bool)):=fun s1 =>
 bif decide (s1 < (a0.length:Int)) then (
 idx a0 s1 fun x2 =>
 idx a1 s1 fun x3 =>
(a2 (x2,x3,())).bind fun y4 =>
 bif (!y4) then (
 some (.inr (.inr false)))
 else (
 some (.inl (IntKind.wrap .i64 (s1 + 1)))))
 else (
 some (.inr (.inl s1)))
def fC (a0:(List aA.D)) (a1:(List aA.D)) (a2:((aA.D×(aA.D×Unit))→Option Bool)):Option Bool :=
 bif ((a0.length:Int) != (a1.length:Int)) then (
 some false)
 else (
(aw (qk a0 a1 a2) 0).bind fun o5 =>
 match o5 with
| .inl s6=>(
 some true)
| .inr o7=>(
 some o7))
def qH:Hints:=(n0 (n0 (nd (n0 (nd (.node none (some ⟨[.tmp 17 (.int .i64)],[some 0],some [.tmp 6 .bool],[]⟩) .none .none) .none)) .none)))
def qI:Ct:=.pure true false (.pair (.slice aA) (.pair (.slice aA) (.pair (.fn (.pair aA (.pair aA .unit)) .bool) .unit))) .bool (fun x=>fC x.1 x.2.1 x.2.2.1)
theorem ql:KC 106 qI:=pq En qH Tryz.func106
def iE (a0:aA.D) (a1:aA.D):Option Bool :=
 bif (a0.1 == a1.1) then (
 bif (a0.2.1 == a1.2.1) then (
 bif (a0.2.2.1 == a1.2.2.1) then (
 bif (a0.2.2.2.1 == a1.2.2.2.1) then (
 bif ((a0.2.2.2.2.1.1 == a1.2.2.2.2.1.1) && ((a0.2.2.2.2.1.2.1 == a1.2.2.2.2.1.2.1) && ((a0.2.2.2.2.1.2.2.1 == a1.2.2.2.2.1.2.2.1) && ((a0.2.2.2.2.1.2.2.2.1 == a1.2.2.2.2.1.2.2.2.1) && ((a0.2.2.2.2.1.2.2.2.2.1 == a1.2.2.2.2.1.2.2.2.2.1) && ((a0.2.2.2.2.1.2.2.2.2.2.1 == a1.2.2.2.2.1.2.2.2.2.2.1) && ((a0.2.2.2.2.1.2.2.2.2.2.2.1 == a1.2.2.2.2.1.2.2.2.2.2.2.1) && true))))))) then (
(eQ a0.2.2.2.2.2.1 a1.2.2.2.2.2.1).bind fun y1 =>
 bif y1 then (
 bif (a0.2.2.2.2.2.2.1 == a1.2.2.2.2.2.2.1) then (
 some (a0.2.2.2.2.2.2.2.1 == a1.2.2.2.2.2.2.2.1))
 else (
 some false))
 else (
 some false))
 else (
 some false))
 else (
 some false))
 else (
 some false))
 else (
 some false))
 else (
 some false)
def G7:Ct:=.pure true false (.pair aA (.pair aA .unit)) .bool (fun x=>iE x.1 x.2.1)
theorem Fq:KC 107 G7:=pq (Ec jk En) .none Tryz.func107
def iF (a0:aC.D) (a1:aC.D):Option Bool :=
(ng a0.1 a1.1).bind fun y1 =>
 bif y1 then (
(nh a0.2.1 a1.2.1).bind fun y2 =>
 bif y2 then (
(oS a0.2.2.1 a1.2.2.1).bind fun y3 =>
 bif y3 then (
(ga a0.2.2.2.1 a1.2.2.2.1).bind fun y4 =>
 bif y4 then (
(jl a0.2.2.2.2.1 a1.2.2.2.2.1).bind fun y5 =>
 bif y5 then (
(fC a0.2.2.2.2.2.1 a1.2.2.2.2.2.1 (fun q=>iE q.1 q.2.1)).bind fun y6 =>
 some y6)
 else (
 some false))
 else (
 some false))
 else (
 some false))
 else (
 some false))
 else (
 some false)
def G8:Ct:=.pure true false (.pair aC (.pair aC .unit)) .bool (fun x=>iF x.1 x.2.1)
theorem Fr:KC 15 G8:=pq (Ec uy (Ec qj (Ec DX (Ec DV (Ec A3 (Ec ql (Ec Fq En))))))) .none Tryz.func15
def uz (a0:ac.D) (a1:ac.D):Int→Option (Int⊕(Int⊕Bool)):=fun s2 =>
 bif decide (s2 < (a0.1.length:Int)) then (
 idx a0.1 s2 fun x3 =>
 idx a1.1 s2 fun x4 =>
 bif (!((x3.1 == x4.1) && ((x3.2.1 == x4.2.1) && ((x3.2.2.1 == x4.2.2.1) && ((x3.2.2.2.1 == x4.2.2.2.1) && ((x3.2.2.2.2.1 == x4.2.2.2.2.1) && ((x3.2.2.2.2.2.1 == x4.2.2.2.2.2.1) && ((x3.2.2.2.2.2.2.1 == x4.2.2.2.2.2.2.1) && ((x3.2.2.2.2.2.2.2.1 == x4.2.2.2.2.2.2.2.1) && ((x3.2.2.2.2.2.2.2.2.1 == x4.2.2.2.2.2.2.2.2.1) && ((x3.2.2.2.2.2.2.2.2.2.1 == x4.2.2.2.2.2.2.2.2.2.1) && ((x3.2.2.2.2.2.2.2.2.2.2.1 == x4.2.2.2.2.2.2.2.2.2.2.1) && ((x3.2.2.2.2.2.2.2.2.2.2.2.1 == x4.2.2.2.2.2.2.2.2.2.2.2.1) && ((x3.2.2.2.2.2.2.2.2.2.2.2.2.1 == x4.2.2.2.2.2.2.2.2.2.2.2.2.1) && true)))))))))))))) then (
 some (.inr (.inr false)))
 else (
 some (.inl (IntKind.wrap .i64 (s2 + 1)))))
 else (
 some (.inr (.inl s2)))
def uA (a0:ac.D) (a1:ac.D):Int→Option (Int⊕(Int⊕Bool)):=fun s8 =>
 bif decide (s8 < (a0.2.1.length:Int)) then (
 idx a0.2.1 s8 fun x9 =>
 idx a1.2.1 s8 fun x10 =>
 bif (!((x9.1 == x10.1) && ((x9.2.1 == x10.2.1) && ((x9.2.2.1 == x10.2.2.1) && true)))) then (
 some (.inr (.inr false)))
 else (
 some (.inl (IntKind.wrap .i64 (s8 + 1)))))
 else (
 some (.inr (.inl s8)))
def ni (a0:ac.D) (a1:ac.D):Option Bool :=
((bif ((a0.1.length:Int) != (a1.1.length:Int)) then (
 some true)
 else (
 bif ((a0.2.1.length:Int) != (a1.2.1.length:Int)) then (
 some true)
 else (
 bif (a0.2.2.1 != a1.2.2.1) then (
 some true)
 else (
 some (a0.2.2.2.1 != a1.2.2.2.1))))):Option Bool).bind fun o1 =>
 bif o1 then (
 some false)
 else (
(aw (uz a0 a1) 0).bind fun o5 =>
 match o5 with
| .inl s6=>(
(aw (uA a0 a1) 0).bind fun o11 =>
 match o11 with
| .inl s12=>(
 some true)
| .inr o13=>(
 some o13))
| .inr o7=>(
 some o7))
def Fs:Hints:=(n0 (nd (nd (cu ⟨[.tmp 36 .bool],[none],none,[]⟩) .none) (nd (n0 (nd (.node none (some ⟨[.tmp 5 (.int .i64)],[some 0],some [.tmp 4 .bool],[]⟩) .none .none) .none)) (nd (n0 (nd (.node none (some ⟨[.tmp 6 (.int .i64)],[some 2],some [.tmp 4 .bool],[]⟩) .none .none) .none)) .none))))
def Ft:Ct:=.pure true false (.pair ac (.pair ac .unit)) .bool (fun x=>ni x.1 x.2.1)
theorem DY:KC 108 Ft:=pq En Fs Tryz.func108
def tc (a0:aa.D) (a1:aa.D):Int→Option (Int⊕(Int⊕Bool)):=fun s3 =>
 bif decide (s3 < (a0.2.2.2.2.2.2.1.2.2.2.2.2.2.1.length:Int)) then (
 idx a0.2.2.2.2.2.2.1.2.2.2.2.2.2.1 s3 fun x4 =>
 idx a1.2.2.2.2.2.2.1.2.2.2.2.2.2.1 s3 fun x5 =>
 bif (!((x4.1 == x5.1) && ((x4.2.1 == x5.2.1) && ((x4.2.2.1 == x5.2.2.1) && ((x4.2.2.2.1 == x5.2.2.2.1) && ((x4.2.2.2.2.1 == x5.2.2.2.2.1) && ((x4.2.2.2.2.2.1 == x5.2.2.2.2.2.1) && ((x4.2.2.2.2.2.2.1 == x5.2.2.2.2.2.2.1) && true)))))))) then (
 some (.inr (.inr false)))
 else (
 some (.inl (IntKind.wrap .i64 (s3 + 1)))))
 else (
 some (.inr (.inl s3)))
def iy (a0:aa.D) (a1:aa.D):Option Bool :=
((bif (a0.1 != a1.1) then (
 some true)
 else (
 bif (a0.2.1 != a1.2.1) then (
 some true)
 else (
 bif (a0.2.2.1 != a1.2.2.1) then (
 some true)
 else (
 bif (a0.2.2.2.1 != a1.2.2.2.1) then (
 some true)
 else (
 bif (!((a0.2.2.2.2.1.1 == a1.2.2.2.2.1.1) && ((a0.2.2.2.2.1.2.1 == a1.2.2.2.2.1.2.1) && ((a0.2.2.2.2.1.2.2.1 == a1.2.2.2.2.1.2.2.1) && ((a0.2.2.2.2.1.2.2.2.1 == a1.2.2.2.2.1.2.2.2.1) && ((a0.2.2.2.2.1.2.2.2.2.1 == a1.2.2.2.2.1.2.2.2.2.1) && ((a0.2.2.2.2.1.2.2.2.2.2.1 == a1.2.2.2.2.1.2.2.2.2.2.1) && ((a0.2.2.2.2.1.2.2.2.2.2.2.1 == a1.2.2.2.2.1.2.2.2.2.2.2.1) && true)))))))) then (
 some true)
 else (
 bif (!((a0.2.2.2.2.2.1.1 == a1.2.2.2.2.2.1.1) && ((a0.2.2.2.2.2.1.2.1 == a1.2.2.2.2.2.1.2.1) && true))) then (
 some true)
 else (
 bif (a0.2.2.2.2.2.2.2.1 != a1.2.2.2.2.2.2.2.1) then (
 some true)
 else (
 some (a0.2.2.2.2.2.2.2.2.1 != a1.2.2.2.2.2.2.2.2.1))))))))):Option Bool).bind fun o1 =>
 bif o1 then (
 some false)
 else (
((bif (a0.2.2.2.2.2.2.1.1 != a1.2.2.2.2.2.2.1.1) then (
 some true)
 else (
 bif (a0.2.2.2.2.2.2.1.2.1 != a1.2.2.2.2.2.2.1.2.1) then (
 some true)
 else (
 bif (a0.2.2.2.2.2.2.1.2.2.1 != a1.2.2.2.2.2.2.1.2.2.1) then (
 some true)
 else (
 bif (a0.2.2.2.2.2.2.1.2.2.2.1 != a1.2.2.2.2.2.2.1.2.2.2.1) then (
 some true)
 else (
 bif (a0.2.2.2.2.2.2.1.2.2.2.2.1 != a1.2.2.2.2.2.2.1.2.2.2.2.1) then (
 some true)
 else (
 bif (a0.2.2.2.2.2.2.1.2.2.2.2.2.1 != a1.2.2.2.2.2.2.1.2.2.2.2.2.1) then (
 some true)
 else (
 some ((a0.2.2.2.2.2.2.1.2.2.2.2.2.2.1.length:Int) != (a1.2.2.2.2.2.2.1.2.2.2.2.2.2.1.length:Int))))))))):Option Bool).bind fun o2 =>
 bif o2 then (
 some false)
 else (
(aw (tc a0 a1) 0).bind fun o6 =>
 match o6 with
| .inl s7=>(
 some true)
| .inr o8=>(
 some o8)))
def DZ:Hints:=(n0 (nd (nd (cu ⟨[.tmp 61 .bool],[none],none,[]⟩) .none) (n0 (n0 (nd (nd (cu ⟨[.tmp 114 .bool],[none],none,[]⟩) .none) (nd (n0 (nd (.node none (some ⟨[.tmp 7 (.int .i64)],[some 0],some [.tmp 4 .bool],[]⟩) .none .none) .none)) .none))))))
def D0:Ct:=.pure true false (.pair aa (.pair aa .unit)) .bool (fun x=>iy x.1 x.2.1)
theorem Cu:KC 233 D0:=pq En DZ Tryz.func233
def D1 (a0:(List aa.D)) (a1:(List aa.D)):Int→Option (Int⊕(Int⊕Bool)):=fun s1 =>
 bif decide (s1 < (a0.length:Int)) then (
 idx a0 s1 fun x2 =>
 idx a1 s1 fun x3 =>
(iy x2 x3).bind fun y4 =>
 bif (!y4) then (
 some (.inr (.inr false)))
 else (
 some (.inl (IntKind.wrap .i64 (s1 + 1)))))
 else (
 some (.inr (.inl s1)))
def nj (a0:(List aa.D)) (a1:(List aa.D)):Option Bool :=
 bif ((a0.length:Int) != (a1.length:Int)) then (
 some false)
 else (
(aw (D1 a0 a1) 0).bind fun o5 =>
 match o5 with
| .inl s6=>(
 some true)
| .inr o7=>(
 some o7))
def Fu:Hints:=(n0 (n0 (nd (n0 (nd (.node none (some ⟨[.tmp 5 (.int .i64)],[some 0],some [.tmp 4 .bool],[]⟩) .none .none) .none)) .none)))
def Fv:Ct:=.pure true false (.pair (.slice aa) (.pair (.slice aa) .unit)) .bool (fun x=>nj x.1 x.2.1)
theorem D2:KC 109 Fv:=pq (Ec Cu En) Fu Tryz.func109
def A5 (a0:(List Int)) (a1:(List Int)):Int→Option (Int⊕(Int⊕Bool)):=fun s1 =>
 bif decide (s1 < (a0.length:Int)) then (
 idx a0 s1 fun x2 =>
 idx a1 s1 fun x3 =>
 bif (x2 != x3) then (
 some (.inr (.inr false)))
 else (
 some (.inl (IntKind.wrap .i64 (s1 + 1)))))
 else (
 some (.inr (.inl s1)))
def jG (a0:(List Int)) (a1:(List Int)):Option Bool :=
 bif ((a0.length:Int) != (a1.length:Int)) then (
 some false)
 else (
(aw (A5 a0 a1) 0).bind fun o4 =>
 match o4 with
| .inl s5=>(
 some true)
| .inr o6=>(
 some o6))
def Cv:Hints:=(n0 (n0 (nd (n0 (nd (.node none (some ⟨[.tmp 5 (.int .i64)],[some 0],some [.tmp 4 .bool],[]⟩) .none .none) .none)) .none)))
def Cw:Ct:=.pure true false (.pair (.slice (.int .i64)) (.pair (.slice (.int .i64)) .unit)) .bool (fun x=>jG x.1 x.2.1)
theorem A6:KC 110 Cw:=pq En Cv Tryz.func110
def zJ (a0:(List ah.D)) (a1:(List ah.D)):Int→Option (Int⊕(Int⊕Bool)):=fun s1 =>
 bif decide (s1 < (a0.length:Int)) then (
 idx a0 s1 fun x2 =>
 idx a1 s1 fun x3 =>
 bif (!((x2.1 == x3.1) && ((x2.2.1 == x3.2.1) && ((x2.2.2.1 == x3.2.2.1) && (((x2.2.2.2.1.1 == x3.2.2.2.1.1) && ((x2.2.2.2.1.2.1 == x3.2.2.2.1.2.1) && ((x2.2.2.2.1.2.2.1 == x3.2.2.2.1.2.2.1) && ((x2.2.2.2.1.2.2.2.1 == x3.2.2.2.1.2.2.2.1) && ((x2.2.2.2.1.2.2.2.2.1 == x3.2.2.2.1.2.2.2.2.1) && ((x2.2.2.2.1.2.2.2.2.2.1 == x3.2.2.2.1.2.2.2.2.2.1) && ((x2.2.2.2.1.2.2.2.2.2.2.1 == x3.2.2.2.1.2.2.2.2.2.2.1) && ((x2.2.2.2.1.2.2.2.2.2.2.2.1 == x3.2.2.2.1.2.2.2.2.2.2.2.1) && ((x2.2.2.2.1.2.2.2.2.2.2.2.2.1 == x3.2.2.2.1.2.2.2.2.2.2.2.2.1) && ((x2.2.2.2.1.2.2.2.2.2.2.2.2.2.1 == x3.2.2.2.1.2.2.2.2.2.2.2.2.2.1) && ((x2.2.2.2.1.2.2.2.2.2.2.2.2.2.2.1 == x3.2.2.2.1.2.2.2.2.2.2.2.2.2.2.1) && ((x2.2.2.2.1.2.2.2.2.2.2.2.2.2.2.2.1 == x3.2.2.2.1.2.2.2.2.2.2.2.2.2.2.2.1) && ((x2.2.2.2.1.2.2.2.2.2.2.2.2.2.2.2.2.1 == x3.2.2.2.1.2.2.2.2.2.2.2.2.2.2.2.2.1) && true))))))))))))) && true))))) then (
 some (.inr (.inr false)))
 else (
 some (.inl (IntKind.wrap .i64 (s1 + 1)))))
 else (
 some (.inr (.inl s1)))
def iO (a0:(List ah.D)) (a1:(List ah.D)):Option Bool :=
 bif ((a0.length:Int) != (a1.length:Int)) then (
 some false)
 else (
(aw (zJ a0 a1) 0).bind fun o4 =>
 match o4 with
| .inl s5=>(
 some true)
| .inr o6=>(
 some o6))
def A7:Hints:=(n0 (n0 (nd (n0 (nd (.node none (some ⟨[.tmp 5 (.int .i64)],[some 0],some [.tmp 4 .bool],[]⟩) .none .none) .none)) .none)))
def A8:Ct:=.pure true false (.pair (.slice ah) (.pair (.slice ah) .unit)) .bool (fun x=>iO x.1 x.2.1)
theorem zK:KC 111 A8:=pq En A7 Tryz.func111
def D3 (a0:(List aq.D)) (a1:(List aq.D)):Int→Option (Int⊕(Int⊕Bool)):=fun s1 =>
 bif decide (s1 < (a0.length:Int)) then (
 idx a0 s1 fun x2 =>
 idx a1 s1 fun x3 =>
 bif (!((x2.1 == x3.1) && (((x2.2.1.1 == x3.2.1.1) && ((x2.2.1.2.1 == x3.2.1.2.1) && ((x2.2.1.2.2.1 == x3.2.1.2.2.1) && ((x2.2.1.2.2.2.1 == x3.2.1.2.2.2.1) && ((x2.2.1.2.2.2.2.1 == x3.2.1.2.2.2.2.1) && ((x2.2.1.2.2.2.2.2.1 == x3.2.1.2.2.2.2.2.1) && ((x2.2.1.2.2.2.2.2.2.1 == x3.2.1.2.2.2.2.2.2.1) && true))))))) && ((x2.2.2.1 == x3.2.2.1) && ((x2.2.2.2.1 == x3.2.2.2.1) && (((x2.2.2.2.2.1.1 == x3.2.2.2.2.1.1) && ((x2.2.2.2.2.1.2.1 == x3.2.2.2.2.1.2.1) && ((x2.2.2.2.2.1.2.2.1 == x3.2.2.2.2.1.2.2.1) && ((x2.2.2.2.2.1.2.2.2.1 == x3.2.2.2.2.1.2.2.2.1) && ((x2.2.2.2.2.1.2.2.2.2.1 == x3.2.2.2.2.1.2.2.2.2.1) && ((x2.2.2.2.2.1.2.2.2.2.2.1 == x3.2.2.2.2.1.2.2.2.2.2.1) && ((x2.2.2.2.2.1.2.2.2.2.2.2.1 == x3.2.2.2.2.1.2.2.2.2.2.2.1) && ((x2.2.2.2.2.1.2.2.2.2.2.2.2.1 == x3.2.2.2.2.1.2.2.2.2.2.2.2.1) && ((x2.2.2.2.2.1.2.2.2.2.2.2.2.2.1 == x3.2.2.2.2.1.2.2.2.2.2.2.2.2.1) && ((x2.2.2.2.2.1.2.2.2.2.2.2.2.2.2.1 == x3.2.2.2.2.1.2.2.2.2.2.2.2.2.2.1) && ((x2.2.2.2.2.1.2.2.2.2.2.2.2.2.2.2.1 == x3.2.2.2.2.1.2.2.2.2.2.2.2.2.2.2.1) && ((x2.2.2.2.2.1.2.2.2.2.2.2.2.2.2.2.2.1 == x3.2.2.2.2.1.2.2.2.2.2.2.2.2.2.2.2.1) && ((x2.2.2.2.2.1.2.2.2.2.2.2.2.2.2.2.2.2.1 == x3.2.2.2.2.1.2.2.2.2.2.2.2.2.2.2.2.2.1) && true))))))))))))) && true)))))) then (
 some (.inr (.inr false)))
 else (
 some (.inl (IntKind.wrap .i64 (s1 + 1)))))
 else (
 some (.inr (.inl s1)))
def nk (a0:(List aq.D)) (a1:(List aq.D)):Option Bool :=
 bif ((a0.length:Int) != (a1.length:Int)) then (
 some false)
 else (
(aw (D3 a0 a1) 0).bind fun o4 =>
 match o4 with
| .inl s5=>(
 some true)
| .inr o6=>(
 some o6))
def Fw:Hints:=(n0 (n0 (nd (n0 (nd (.node none (some ⟨[.tmp 5 (.int .i64)],[some 0],some [.tmp 4 .bool],[]⟩) .none .none) .none)) .none)))
def Fx:Ct:=.pure true false (.pair (.slice aq) (.pair (.slice aq) .unit)) .bool (fun x=>nk x.1 x.2.1)
theorem D4:KC 112 Fx:=pq En Fw Tryz.func112
def vZ (a0:aA.D) (a1:aA.D):Int→Option (Int⊕(Int⊕Bool)):=fun s2 =>
 bif decide (s2 < (a0.2.2.2.2.2.1.length:Int)) then (
 idx a0.2.2.2.2.2.1 s2 fun x3 =>
 idx a1.2.2.2.2.2.1 s2 fun x4 =>
 bif (!((x3.1 == x4.1) && ((x3.2.1 == x4.2.1) && ((x3.2.2.1 == x4.2.2.1) && ((x3.2.2.2.1 == x4.2.2.2.1) && ((x3.2.2.2.2.1 == x4.2.2.2.2.1) && ((x3.2.2.2.2.2.1 == x4.2.2.2.2.2.1) && ((x3.2.2.2.2.2.2.1 == x4.2.2.2.2.2.2.1) && true)))))))) then (
 some (.inr (.inr false)))
 else (
 some (.inl (IntKind.wrap .i64 (s2 + 1)))))
 else (
 some (.inr (.inl s2)))
def ko (a0:aA.D) (a1:aA.D):Option Bool :=
((bif (a0.1 != a1.1) then (
 some true)
 else (
 bif (a0.2.1 != a1.2.1) then (
 some true)
 else (
 bif (a0.2.2.1 != a1.2.2.1) then (
 some true)
 else (
 bif (a0.2.2.2.1 != a1.2.2.2.1) then (
 some true)
 else (
 bif (!((a0.2.2.2.2.1.1 == a1.2.2.2.2.1.1) && ((a0.2.2.2.2.1.2.1 == a1.2.2.2.2.1.2.1) && ((a0.2.2.2.2.1.2.2.1 == a1.2.2.2.2.1.2.2.1) && ((a0.2.2.2.2.1.2.2.2.1 == a1.2.2.2.2.1.2.2.2.1) && ((a0.2.2.2.2.1.2.2.2.2.1 == a1.2.2.2.2.1.2.2.2.2.1) && ((a0.2.2.2.2.1.2.2.2.2.2.1 == a1.2.2.2.2.1.2.2.2.2.2.1) && ((a0.2.2.2.2.1.2.2.2.2.2.2.1 == a1.2.2.2.2.1.2.2.2.2.2.2.1) && true)))))))) then (
 some true)
 else (
 bif (a0.2.2.2.2.2.2.1 != a1.2.2.2.2.2.2.1) then (
 some true)
 else (
 bif (a0.2.2.2.2.2.2.2.1 != a1.2.2.2.2.2.2.2.1) then (
 some true)
 else (
 some ((a0.2.2.2.2.2.1.length:Int) != (a1.2.2.2.2.2.1.length:Int)))))))))):Option Bool).bind fun o1 =>
 bif o1 then (
 some false)
 else (
(aw (vZ a0 a1) 0).bind fun o5 =>
 match o5 with
| .inl s6=>(
 some true)
| .inr o7=>(
 some o7))
def G9:Hints:=(n0 (nd (nd (cu ⟨[.tmp 61 .bool],[none],none,[]⟩) .none) (nd (n0 (nd (.node none (some ⟨[.tmp 5 (.int .i64)],[some 0],some [.tmp 4 .bool],[]⟩) .none .none) .none)) .none)))
def Ha:Ct:=.pure true false (.pair aA (.pair aA .unit)) .bool (fun x=>ko x.1 x.2.1)
theorem Fy:KC 234 Ha:=pq En G9 Tryz.func234
def zL (a0:(List aA.D)) (a1:(List aA.D)):Int→Option (Int⊕(Int⊕Bool)):=fun s1 =>
 bif decide (s1 < (a0.length:Int)) then (
 idx a0 s1 fun x2 =>
 idx a1 s1 fun x3 =>
(ko x2 x3).bind fun y4 =>
 bif (!y4) then (
 some (.inr (.inr false)))
 else (
 some (.inl (IntKind.wrap .i64 (s1 + 1)))))
 else (
 some (.inr (.inl s1)))
def iP (a0:(List aA.D)) (a1:(List aA.D)):Option Bool :=
 bif ((a0.length:Int) != (a1.length:Int)) then (
 some false)
 else (
(aw (zL a0 a1) 0).bind fun o5 =>
 match o5 with
| .inl s6=>(
 some true)
| .inr o7=>(
 some o7))
def A9:Hints:=(n0 (n0 (nd (n0 (nd (.node none (some ⟨[.tmp 5 (.int .i64)],[some 0],some [.tmp 4 .bool],[]⟩) .none .none) .none)) .none)))
def Ba:Ct:=.pure true false (.pair (.slice aA) (.pair (.slice aA) .unit)) .bool (fun x=>iP x.1 x.2.1)
theorem zM:KC 113 Ba:=pq (Ec Fy En) A9 Tryz.func113
def pu (a0:aC.D) (a1:aC.D):Option Bool :=
(ni a0.1 a1.1).bind fun y1 =>
 bif y1 then (
(nj a0.2.1 a1.2.1).bind fun y2 =>
 bif y2 then (
(jG a0.2.2.1 a1.2.2.1).bind fun y3 =>
 bif y3 then (
(iO a0.2.2.2.1 a1.2.2.2.1).bind fun y4 =>
 bif y4 then (
(nk a0.2.2.2.2.1 a1.2.2.2.2.1).bind fun y5 =>
 bif y5 then (
(iP a0.2.2.2.2.2.1 a1.2.2.2.2.2.1).bind fun y6 =>
 some y6)
 else (
 some false))
 else (
 some false))
 else (
 some false))
 else (
 some false))
 else (
 some false)
def Hb:Ct:=.pure true false (.pair aC (.pair aC .unit)) .bool (fun x=>pu x.1 x.2.1)
theorem FA:KC 16 Hb:=pq (Ec DY (Ec D2 (Ec A6 (Ec zK (Ec D4 (Ec zM En)))))) .none Tryz.func16
def FB (a0:(List Int)) (a1:(List Int)):Int→Option (Int⊕(Int⊕Bool)):=fun s1 =>
 bif decide (s1 < (a0.length:Int)) then (
 idx a0 s1 fun x2 =>
 idx a1 s1 fun x3 =>
 bif (x2 != x3) then (
 some (.inr (.inr false)))
 else (
 some (.inl (IntKind.wrap .i64 (s1 + 1)))))
 else (
 some (.inr (.inl s1)))
def pv (a0:(List Int)) (a1:(List Int)):Option Bool :=
 bif ((a0.length:Int) != (a1.length:Int)) then (
 some false)
 else (
(aw (FB a0 a1) 0).bind fun o4 =>
 match o4 with
| .inl s5=>(
 some true)
| .inr o6=>(
 some o6))
def Hc:Hints:=(n0 (n0 (nd (n0 (nd (.node none (some ⟨[.tmp 5 (.int .i64)],[some 0],some [.tmp 4 .bool],[]⟩) .none .none) .none)) .none)))
def He:Ct:=.pure true false (.pair (.slice (.int .i64)) (.pair (.slice (.int .i64)) .unit)) .bool (fun x=>pv x.1 x.2.1)
theorem FC:KC 84 He:=pq En Hc Tryz.func84
def Ao (a0:(List Int)) (a1:(List Int)):Option Bool :=
 bif decide ((a1.length:Int)≤(a0.length:Int)) then (
 if 0≤(IntKind.wrap .i64 ((a0.length:Int) - (a1.length:Int))) then (if (IntKind.wrap .i64 ((a0.length:Int) - (a1.length:Int)))≤(a0.length:Int) then (if (a0.length:Int)≤(a0.length:Int) then (
(pv ((a0.take (a0.length:Int).toNat).drop (IntKind.wrap .i64 ((a0.length:Int) - (a1.length:Int))).toNat) a1).bind fun y1 =>
 some y1) else none) else none) else none)
 else (
 some false)
def OJ:Ct:=.pure true false (.pair (.slice (.int .i64)) (.pair (.slice (.int .i64)) .unit)) .bool (fun x=>Ao x.1 x.2.1)
theorem M5:KC 19 OJ:=pq (Ec FC En) .none Tryz.func19
def Cx (a0:ac.D):Option Bool :=
(sV a0).bind fun y1 =>
 some ((y1.2.1.length:Int) == 0)
def M6:Ct:=.pure true false (.pair ac .unit) .bool (fun x=>Cx x.1)
theorem KY:KC 22 M6:=pq (Ec qX En) .none Tryz.func22
def vh (a0:(List Int)):Option Bool :=
(Ii a0).bind fun y1 =>
 bif y1 then (
 some true)
 else (
(jy a0).bind fun y2 =>
(jF y2.1 y2.2.1).bind fun y3 =>
(jx y2.1 y2.2.1).bind fun y4 =>
(iN a0).bind fun y5 =>
((bif (y3.2.1 != y4.2.1) then (
 some true)
 else (
(iF y3.1 y4.1).bind fun y6 =>
 bif (!y6) then (
 some true)
 else (
(iF y5.1 y5.2.1).bind fun y7 =>
(pu y5.1 y5.2.1).bind fun y8 =>
 bif (y7 != y8) then (
 some true)
 else (
(lQ y2.1).bind fun y9 =>
(pN y2.1).bind fun y10 =>
 some (y9 != y10))))):Option Bool).bind fun o11 =>
 bif o11 then (
 some false)
 else (
 bif (!y3.2.1) then (
(iF y3.1 y2.1).bind fun y12 =>
 some y12)
 else (
(lQ y3.1).bind fun y13 =>
 bif y13 then (
(Ao y2.1.2.2.1 y3.1.2.2.1).bind fun y14 =>
 bif y14 then (
 if 0≤(0:Int) then (if (0:Int)≤(y2.1.2.2.2.2.1.length:Int) then (if (y2.1.2.2.2.2.1.length:Int)≤(y3.1.2.2.2.2.1.length:Int) then (
(jl ((y3.1.2.2.2.2.1.take ((y2.1.2.2.2.2.1.length:Int).toNat)).drop ((0:Int).toNat)) y2.1.2.2.2.2.1).bind fun y15 =>
 bif y15 then (
 if 0≤(0:Int) then (if (0:Int)≤(y2.1.2.2.2.1.length:Int) then (if (y2.1.2.2.2.1.length:Int)≤(y3.1.2.2.2.1.length:Int) then (
(ga ((y3.1.2.2.2.1.take ((y2.1.2.2.2.1.length:Int).toNat)).drop ((0:Int).toNat)) y2.1.2.2.2.1).bind fun y16 =>
 bif y16 then (
 bif decide ((y3.1.2.2.2.2.2.1.length:Int)≥(y2.1.2.2.2.2.2.1.length:Int)) then (
 bif (y2.2.1.1 != 3) then (
 some true)
 else (
(Cx y3.1.1).bind fun y17 =>
 some y17))
 else (
 some false))
 else (
 some false)) else none) else none) else none)
 else (
 some false)) else none) else none) else none)
 else (
 some false))
 else (
 some false))))
def Hf:Hints:=(n0 (n0 (n0 (n0 (n0 (n0 (nd (nd (cu ⟨[.tmp 59 .bool],[none],none,[]⟩) .none) .none)))))))
def Hg:Ct:=.pure true false (.pair (.slice (.int .u8)) .unit) .bool (fun x=>vh x.1)
theorem laws_FnOrders_ct:KC 3 Hg:=pq (Ec Of (Ec AL (Ec yi (Ec iK (Ec zI (Ec Fr (Ec FA (Ec zp (Ec yZ (Ec M5 (Ec uy (Ec qj (Ec KY En))))))))))))) Hf Tryz.func3
def nl (a1:(List bi.D)):(Int×(Int×(ac.D×((List aa.D)×((List Int)×((List ah.D)×((List aq.D)×((List aA.D)×Unit))))))))→Option ((Int×(Int×(ac.D×((List aa.D)×((List Int)×((List ah.D)×((List aq.D)×((List aA.D)×Unit))))))))⊕(Int×(Int×(ac.D×((List aa.D)×((List Int)×((List ah.D)×((List aq.D)×((List aA.D)×Unit))))))))):=fun s3 =>
 bif decide (s3.2.1 < (((a1.take (if 12 < (a1.length:Int) then 12 else (a1.length:Int)).toNat).drop (0:Int).toNat).length:Int)) then (
 idx ((a1.take (if 12 < (a1.length:Int) then 12 else (a1.length:Int)).toNat).drop (0:Int).toNat) s3.2.1 fun x4 =>
(jF s3.2.2 x4).bind fun y5 =>
 bif y5.2.1 then (
 some (.inl (IntKind.wrap .i64 (s3.1 + 1),IntKind.wrap .i64 (s3.2.1 + 1),y5.1)))
 else (
 some (.inl (s3.1,IntKind.wrap .i64 (s3.2.1 + 1),y5.1))))
 else (
 some (.inr s3))
def LD (a0:aC.D) (a1:(List bi.D)):Option (aC.D×(Int×Unit)) :=
(kc a0).bind fun y1 =>
 if 0≤(0:Int) then (if (0:Int)≤(if 12 < (a1.length:Int) then 12 else (a1.length:Int)) then (if (if 12 < (a1.length:Int) then 12 else (a1.length:Int))≤(a1.length:Int) then (
(aw (nl a1) (0,0,y1)).bind fun o6 =>
 some (o6.2.2,o6.1,())) else none) else none) else none
end
end Go.Abs
