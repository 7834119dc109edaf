import Derived.Test.YtenadnbpibhmiaaGreatGenRA1
set_option linter.unusedVariables false
set_option linter.unusedSimpArgs false
namespace Go.Abs
open Go.Proofs
set_option maxRecDepth 100000
noncomputable section
/-! loop.example/g00486/laws.eqFate -/
def laws_eqFate (a0 : T_Fate.D) (a1 : T_Fate.D) : Option Bool :=
(laws_eqEventS a0.1 a1.1).bind fun y1 =>
 bif (!y1) then (
 some false)
 else (
(laws_eqEffectS a0.2.1 a1.2.1).bind fun y2 =>
 bif (!y2) then (
 some false)
 else (
(laws_eqIntS a0.2.2.1 a1.2.2.1).bind fun y3 =>
 bif (!y3) then (
 some false)
 else (
(laws_eqTurnS a0.2.2.2.1 a1.2.2.2.1).bind fun y4 =>
 bif (!y4) then (
 some false)
 else (
 some true))))
def laws_eqFate_c : Ct := .pure true false (.pair T_Fate (.pair T_Fate .unit)) .bool (fun x => laws_eqFate x.1 x.2.1)
theorem laws_eqFate_ct : CtOk Tryz.prog 53 laws_eqFate_c := pure_ct (E := { T := tab, G := [(55, laws_eqEffectS_c), (56, laws_eqIntS_c), (66, laws_eqEventS_c), (134, laws_eqTurnS_c)] }) (EnvOk.cons laws_eqEffectS_ct (EnvOk.cons laws_eqIntS_ct (EnvOk.cons laws_eqEventS_ct (EnvOk.cons laws_eqTurnS_ct (EnvOk.nil tabOk))))) mixed (fn := Tryz.f53) _ _ _ _ _ .none Tryz.func53 (by kernel_rfl) (fun x => by kernel_rfl)
/-! loop.example/g00486/laws.eqPiece -/
def laws_eqPiece (a0 : T_Piece.D) (a1 : T_Piece.D) : Option Bool :=
 bif (a0.1 != a1.1) then (
 some false)
 else (
 bif (a0.2.1 != a1.2.1) then (
 some false)
 else (
 bif (a0.2.2.1 != a1.2.2.1) then (
 some false)
 else (
 bif (a0.2.2.2.1 != a1.2.2.2.1) then (
 some false)
 else (
 bif (a0.2.2.2.2.1 != a1.2.2.2.2.1) then (
 some false)
 else (
 bif (a0.2.2.2.2.2.1 != a1.2.2.2.2.2.1) then (
 some false)
 else (
 bif (a0.2.2.2.2.2.2.1 != a1.2.2.2.2.2.2.1) then (
 some false)
 else (
 bif (a0.2.2.2.2.2.2.2.1 != a1.2.2.2.2.2.2.2.1) then (
 some false)
 else (
 bif (a0.2.2.2.2.2.2.2.2.1 != a1.2.2.2.2.2.2.2.2.1) then (
 some false)
 else (
 bif (a0.2.2.2.2.2.2.2.2.2.1 != a1.2.2.2.2.2.2.2.2.2.1) then (
 some false)
 else (
 bif (a0.2.2.2.2.2.2.2.2.2.2.1 != a1.2.2.2.2.2.2.2.2.2.2.1) then (
 some false)
 else (
 bif (a0.2.2.2.2.2.2.2.2.2.2.2.1 != a1.2.2.2.2.2.2.2.2.2.2.2.1) then (
 some false)
 else (
 bif (a0.2.2.2.2.2.2.2.2.2.2.2.2.1 != a1.2.2.2.2.2.2.2.2.2.2.2.2.1) then (
 some false)
 else (
 some true)))))))))))))
def laws_eqPiece_c : Ct := .pure true false (.pair T_Piece (.pair T_Piece .unit)) .bool (fun x => laws_eqPiece x.1 x.2.1)
theorem laws_eqPiece_ct : CtOk Tryz.prog 283 laws_eqPiece_c := pure_ct (E := { T := tab, G := [] }) (EnvOk.nil tabOk) mixed (fn := Tryz.f283) _ _ _ _ _ .none Tryz.func283 (by kernel_rfl) (fun x => by kernel_rfl)
/-! loop.example/g00486/laws.eqPieceS -/
def laws_eqPieceS_l1 (a0 : (List T_Piece.D)) (a1 : (List T_Piece.D)) : Int → Option (Int ⊕ (Int ⊕ Bool)) := fun s1 =>
 bif decide (s1 < (a0.length : Int)) then (
 idx a0 s1 fun x2 =>
 idx a1 s1 fun x3 =>
(laws_eqPiece x2 x3).bind fun y4 =>
 bif (!y4) then (
 some (.inr (.inr false)))
 else (
 some (.inl (IntKind.wrap .i64 (s1 + 1)))))
 else (
 some (.inr (.inl s1)))
def laws_eqPieceS (a0 : (List T_Piece.D)) (a1 : (List T_Piece.D)) : Option Bool :=
 bif ((a0.length : Int) != (a1.length : Int)) then (
 some false)
 else (
(while_ (laws_eqPieceS_l1 a0 a1) 0).bind fun o5 =>
 match o5 with
| .inl s6 => (
 some true)
| .inr o7 => (
 some o7))
def laws_eqPieceS_h : Hints := (.node none none .none (.node none none .none (.node none none (.node none none .none (.node none none (.node none (some ⟨[.tmp 5 (.int .i64)], [some 0], some [.tmp 4 .bool], []⟩) .none .none) .none)) .none)))
def laws_eqPieceS_c : Ct := .pure true false (.pair (.slice T_Piece) (.pair (.slice T_Piece) .unit)) .bool (fun x => laws_eqPieceS x.1 x.2.1)
theorem laws_eqPieceS_ct : CtOk Tryz.prog 168 laws_eqPieceS_c := pure_ct (E := { T := tab, G := [(283, laws_eqPiece_c)] }) (EnvOk.cons laws_eqPiece_ct (EnvOk.nil tabOk)) mixed (fn := Tryz.f168) _ _ _ _ _ laws_eqPieceS_h Tryz.func168 (by kernel_rfl) (fun x => by kernel_rfl)
/-! loop.example/g00486/laws.eqSide -/
def laws_eqSide (a0 : T_Side.D) (a1 : T_Side.D) : Option Bool :=
 bif (a0.1 != a1.1) then (
 some false)
 else (
 bif (a0.2.1 != a1.2.1) then (
 some false)
 else (
 bif (a0.2.2.1 != a1.2.2.1) then (
 some false)
 else (
 some true)))
def laws_eqSide_c : Ct := .pure true false (.pair T_Side (.pair T_Side .unit)) .bool (fun x => laws_eqSide x.1 x.2.1)
theorem laws_eqSide_ct : CtOk Tryz.prog 284 laws_eqSide_c := pure_ct (E := { T := tab, G := [] }) (EnvOk.nil tabOk) mixed (fn := Tryz.f284) _ _ _ _ _ .none Tryz.func284 (by kernel_rfl) (fun x => by kernel_rfl)
/-! loop.example/g00486/laws.eqSideS -/
def laws_eqSideS_l1 (a0 : (List T_Side.D)) (a1 : (List T_Side.D)) : Int → Option (Int ⊕ (Int ⊕ Bool)) := fun s1 =>
 bif decide (s1 < (a0.length : Int)) then (
 idx a0 s1 fun x2 =>
 idx a1 s1 fun x3 =>
(laws_eqSide x2 x3).bind fun y4 =>
 bif (!y4) then (
 some (.inr (.inr false)))
 else (
 some (.inl (IntKind.wrap .i64 (s1 + 1)))))
 else (
 some (.inr (.inl s1)))
def laws_eqSideS (a0 : (List T_Side.D)) (a1 : (List T_Side.D)) : Option Bool :=
 bif ((a0.length : Int) != (a1.length : Int)) then (
 some false)
 else (
(while_ (laws_eqSideS_l1 a0 a1) 0).bind fun o5 =>
 match o5 with
| .inl s6 => (
 some true)
| .inr o7 => (
 some o7))
def laws_eqSideS_h : Hints := (.node none none .none (.node none none .none (.node none none (.node none none .none (.node none none (.node none (some ⟨[.tmp 5 (.int .i64)], [some 0], some [.tmp 4 .bool], []⟩) .none .none) .none)) .none)))
def laws_eqSideS_c : Ct := .pure true false (.pair (.slice T_Side) (.pair (.slice T_Side) .unit)) .bool (fun x => laws_eqSideS x.1 x.2.1)
theorem laws_eqSideS_ct : CtOk Tryz.prog 169 laws_eqSideS_c := pure_ct (E := { T := tab, G := [(284, laws_eqSide_c)] }) (EnvOk.cons laws_eqSide_ct (EnvOk.nil tabOk)) mixed (fn := Tryz.f169) _ _ _ _ _ laws_eqSideS_h Tryz.func169 (by kernel_rfl) (fun x => by kernel_rfl)
/-! loop.example/g00486/laws.eqState -/
def laws_eqState (a0 : T_State.D) (a1 : T_State.D) : Option Bool :=
(laws_eqPieceS a0.1 a1.1).bind fun y1 =>
 bif (!y1) then (
 some false)
 else (
(laws_eqSideS a0.2.1 a1.2.1).bind fun y2 =>
 bif (!y2) then (
 some false)
 else (
 bif (a0.2.2.1 != a1.2.2.1) then (
 some false)
 else (
 bif (a0.2.2.2.1 != a1.2.2.2.1) then (
 some false)
 else (
 some true))))
def laws_eqState_c : Ct := .pure true false (.pair T_State (.pair T_State .unit)) .bool (fun x => laws_eqState x.1 x.2.1)
theorem laws_eqState_ct : CtOk Tryz.prog 54 laws_eqState_c := pure_ct (E := { T := tab, G := [(168, laws_eqPieceS_c), (169, laws_eqSideS_c)] }) (EnvOk.cons laws_eqPieceS_ct (EnvOk.cons laws_eqSideS_ct (EnvOk.nil tabOk))) mixed (fn := Tryz.f54) _ _ _ _ _ .none Tryz.func54 (by kernel_rfl) (fun x => by kernel_rfl)
/-! loop.example/g00486/laws.markPieceS -/
def laws_markPieceS_l1 : ((List T_Piece.D) × (Int × Int)) → Option (((List T_Piece.D) × (Int × Int)) ⊕ ((List T_Piece.D) × (Int × Int))) := fun s2 =>
 bif decide (s2.2.2 < (s2.1.length : Int)) then (
 idx s2.1 s2.2.2 fun _ =>
(s2.1[(s2.2.2 : Int).toNat]?).bind fun x3 =>
 let u4 : (List T_Piece.D) := s2.1.set (s2.2.2 : Int).toNat (s2.2.1, x3.2)
 idx u4 s2.2.2 fun _ =>
(u4[(s2.2.2 : Int).toNat]?).bind fun x5 =>
 let u6 : (List T_Piece.D) := u4.set (s2.2.2 : Int).toNat (x5.1, IntKind.wrap .i64 (s2.2.1 + 1), x5.2.2)
 idx u6 s2.2.2 fun _ =>
(u6[(s2.2.2 : Int).toNat]?).bind fun x7 =>
 let u8 : (List T_Piece.D) := u6.set (s2.2.2 : Int).toNat (x7.1, x7.2.1, IntKind.wrap .i64 ((IntKind.wrap .i64 (s2.2.1 + 1)) + 1), x7.2.2.2)
 let k9 : Int := IntKind.wrap .i64 ((IntKind.wrap .i64 ((IntKind.wrap .i64 (s2.2.1 + 1)) + 1)) + 1)
 idx u8 s2.2.2 fun _ =>
(u8[(s2.2.2 : Int).toNat]?).bind fun x10 =>
 let u11 : (List T_Piece.D) := u8.set (s2.2.2 : Int).toNat (x10.1, x10.2.1, x10.2.2.1, k9, x10.2.2.2.2)
 idx u11 s2.2.2 fun _ =>
(u11[(s2.2.2 : Int).toNat]?).bind fun x12 =>
 let u13 : (List T_Piece.D) := u11.set (s2.2.2 : Int).toNat (x12.1, x12.2.1, x12.2.2.1, x12.2.2.2.1, IntKind.wrap .i64 (k9 + 1), x12.2.2.2.2.2)
 idx u13 s2.2.2 fun _ =>
(u13[(s2.2.2 : Int).toNat]?).bind fun x14 =>
 let u15 : (List T_Piece.D) := u13.set (s2.2.2 : Int).toNat (x14.1, x14.2.1, x14.2.2.1, x14.2.2.2.1, x14.2.2.2.2.1, IntKind.wrap .i64 ((IntKind.wrap .i64 (k9 + 1)) + 1), x14.2.2.2.2.2.2)
 let k16 : Int := IntKind.wrap .i64 ((IntKind.wrap .i64 ((IntKind.wrap .i64 (k9 + 1)) + 1)) + 1)
 idx u15 s2.2.2 fun _ =>
(u15[(s2.2.2 : Int).toNat]?).bind fun x17 =>
 let u18 : (List T_Piece.D) := u15.set (s2.2.2 : Int).toNat (x17.1, x17.2.1, x17.2.2.1, x17.2.2.2.1, x17.2.2.2.2.1, x17.2.2.2.2.2.1, k16, x17.2.2.2.2.2.2.2)
 idx u18 s2.2.2 fun _ =>
(u18[(s2.2.2 : Int).toNat]?).bind fun x19 =>
 let u20 : (List T_Piece.D) := u18.set (s2.2.2 : Int).toNat (x19.1, x19.2.1, x19.2.2.1, x19.2.2.2.1, x19.2.2.2.2.1, x19.2.2.2.2.2.1, x19.2.2.2.2.2.2.1, IntKind.wrap .i64 (k16 + 1), x19.2.2.2.2.2.2.2.2)
 idx u20 s2.2.2 fun _ =>
(u20[(s2.2.2 : Int).toNat]?).bind fun x21 =>
 let u22 : (List T_Piece.D) := u20.set (s2.2.2 : Int).toNat (x21.1, x21.2.1, x21.2.2.1, x21.2.2.2.1, x21.2.2.2.2.1, x21.2.2.2.2.2.1, x21.2.2.2.2.2.2.1, x21.2.2.2.2.2.2.2.1, IntKind.wrap .i64 ((IntKind.wrap .i64 (k16 + 1)) + 1), x21.2.2.2.2.2.2.2.2.2)
 let k23 : Int := IntKind.wrap .i64 ((IntKind.wrap .i64 ((IntKind.wrap .i64 (k16 + 1)) + 1)) + 1)
 idx u22 s2.2.2 fun _ =>
(u22[(s2.2.2 : Int).toNat]?).bind fun x24 =>
 let u25 : (List T_Piece.D) := u22.set (s2.2.2 : Int).toNat (x24.1, x24.2.1, x24.2.2.1, x24.2.2.2.1, x24.2.2.2.2.1, x24.2.2.2.2.2.1, x24.2.2.2.2.2.2.1, x24.2.2.2.2.2.2.2.1, x24.2.2.2.2.2.2.2.2.1, k23, x24.2.2.2.2.2.2.2.2.2.2)
 idx u25 s2.2.2 fun _ =>
(u25[(s2.2.2 : Int).toNat]?).bind fun x26 =>
 let u27 : (List T_Piece.D) := u25.set (s2.2.2 : Int).toNat (x26.1, x26.2.1, x26.2.2.1, x26.2.2.2.1, x26.2.2.2.2.1, x26.2.2.2.2.2.1, x26.2.2.2.2.2.2.1, x26.2.2.2.2.2.2.2.1, x26.2.2.2.2.2.2.2.2.1, x26.2.2.2.2.2.2.2.2.2.1, IntKind.wrap .i64 (k23 + 1), x26.2.2.2.2.2.2.2.2.2.2.2)
 if 3 = 0 then none else (
 let k28 : Int := (IntKind.wrap .i64 ((IntKind.wrap .i64 (k23 + 1)) + 1)).tmod 3
 idx u27 s2.2.2 fun _ =>
(u27[(s2.2.2 : Int).toNat]?).bind fun x29 =>
 let u30 : (List T_Piece.D) := u27.set (s2.2.2 : Int).toNat (x29.1, x29.2.1, x29.2.2.1, x29.2.2.2.1, x29.2.2.2.2.1, x29.2.2.2.2.2.1, x29.2.2.2.2.2.2.1, x29.2.2.2.2.2.2.2.1, x29.2.2.2.2.2.2.2.2.1, x29.2.2.2.2.2.2.2.2.2.1, x29.2.2.2.2.2.2.2.2.2.2.1, (k28 == 0), x29.2.2.2.2.2.2.2.2.2.2.2.2)
 let k31 : Int := IntKind.wrap .i64 ((IntKind.wrap .i64 ((IntKind.wrap .i64 (k23 + 1)) + 1)) + 1)
 if 3 = 0 then none else (
 idx u30 s2.2.2 fun _ =>
(u30[(s2.2.2 : Int).toNat]?).bind fun x32 =>
 let u33 : (List T_Piece.D) := u30.set (s2.2.2 : Int).toNat (x32.1, x32.2.1, x32.2.2.1, x32.2.2.2.1, x32.2.2.2.2.1, x32.2.2.2.2.2.1, x32.2.2.2.2.2.2.1, x32.2.2.2.2.2.2.2.1, x32.2.2.2.2.2.2.2.2.1, x32.2.2.2.2.2.2.2.2.2.1, x32.2.2.2.2.2.2.2.2.2.2.1, x32.2.2.2.2.2.2.2.2.2.2.2.1, ((k31.tmod 3) == 0), ())
 some (.inl (u33, IntKind.wrap .i64 (k31 + 1), IntKind.wrap .i64 (s2.2.2 + 1))))))
 else (
 some (.inr s2))
def laws_markPieceS (a0 : (List T_Piece.D)) (a1 : Int) : Option (Int × ((List T_Piece.D) × Unit)) :=
(while_ (laws_markPieceS_l1) (a0, a1, 0)).bind fun o34 =>
 some (o34.2.1, (o34.1, ()))
def laws_markPieceS_h : Hints := (.node none none .none (.node none none (.node none none .none (.node none none (.node none (some ⟨[.tmpO 0 1 (.slice T_Piece), .tmp 1 (.int .i64), .tmp 5 (.int .i64)], [some 0], none, []⟩) .none .none) .none)) .none))
def laws_markPieceS_c : Ct := .mut [.lent, .rd] true true (.pair (.slice T_Piece) (.pair (.int .i64) .unit)) (.int .i64) (fun x => laws_markPieceS x.1 x.2.1)
theorem laws_markPieceS_ct : CtOk Tryz.prog 170 laws_markPieceS_c := mut_ct (E := { T := tab, G := [] }) (EnvOk.nil tabOk) mixed (fn := Tryz.f170) _ _ _ _ _ _ laws_markPieceS_h Tryz.func170 (by kernel_rfl) (fun x => by kernel_rfl)
/-! loop.example/g00486/laws.markSideS -/
def laws_markSideS_l1 : ((List T_Side.D) × (Int × Int)) → Option (((List T_Side.D) × (Int × Int)) ⊕ ((List T_Side.D) × (Int × Int))) := fun s2 =>
 bif decide (s2.2.2 < (s2.1.length : Int)) then (
 idx s2.1 s2.2.2 fun _ =>
(s2.1[(s2.2.2 : Int).toNat]?).bind fun x3 =>
 let u4 : (List T_Side.D) := s2.1.set (s2.2.2 : Int).toNat (s2.2.1, x3.2)
 idx u4 s2.2.2 fun _ =>
(u4[(s2.2.2 : Int).toNat]?).bind fun x5 =>
 let u6 : (List T_Side.D) := u4.set (s2.2.2 : Int).toNat (x5.1, IntKind.wrap .i64 (s2.2.1 + 1), x5.2.2)
 if 3 = 0 then none else (
 let k7 : Int := (IntKind.wrap .i64 ((IntKind.wrap .i64 (s2.2.1 + 1)) + 1)).tmod 3
 idx u6 s2.2.2 fun _ =>
(u6[(s2.2.2 : Int).toNat]?).bind fun x8 =>
 let u9 : (List T_Side.D) := u6.set (s2.2.2 : Int).toNat (x8.1, x8.2.1, (k7 == 0), ())
 let k10 : Int := IntKind.wrap .i64 ((IntKind.wrap .i64 ((IntKind.wrap .i64 (s2.2.1 + 1)) + 1)) + 1)
 some (.inl (u9, k10, IntKind.wrap .i64 (s2.2.2 + 1)))))
 else (
 some (.inr s2))
def laws_markSideS (a0 : (List T_Side.D)) (a1 : Int) : Option (Int × ((List T_Side.D) × Unit)) :=
(while_ (laws_markSideS_l1) (a0, a1, 0)).bind fun o11 =>
 some (o11.2.1, (o11.1, ()))
def laws_markSideS_h : Hints := (.node none none .none (.node none none (.node none none .none (.node none none (.node none (some ⟨[.tmpO 0 1 (.slice T_Side), .tmp 1 (.int .i64), .tmp 5 (.int .i64)], [some 0], none, []⟩) .none .none) .none)) .none))
def laws_markSideS_c : Ct := .mut [.lent, .rd] true true (.pair (.slice T_Side) (.pair (.int .i64) .unit)) (.int .i64) (fun x => laws_markSideS x.1 x.2.1)
theorem laws_markSideS_ct : CtOk Tryz.prog 171 laws_markSideS_c := mut_ct (E := { T := tab, G := [] }) (EnvOk.nil tabOk) mixed (fn := Tryz.f171) _ _ _ _ _ _ laws_markSideS_h Tryz.func171 (by kernel_rfl) (fun x => by kernel_rfl)
/-! loop.example/g00486/laws.markState -/
def laws_markState (a0 : T_State.D) (a1 : Int) : Option (Int × (T_State.D × Unit)) :=
(laws_markPieceS a0.1 a1).bind fun y1 =>
(laws_markSideS a0.2.1 y1.1).bind fun y2 =>
 some (y2.1, ((y1.2.1, y2.2.1, a0.2.2), ()))
def laws_markState_c : Ct := .mut [.lent, .rd] true true (.pair T_State (.pair (.int .i64) .unit)) (.int .i64) (fun x => laws_markState x.1 x.2.1)
theorem laws_markState_ct : CtOk Tryz.prog 57 laws_markState_c := mut_ct (E := { T := tab, G := [(170, laws_markPieceS_c), (171, laws_markSideS_c)] }) (EnvOk.cons laws_markPieceS_ct (EnvOk.cons laws_markSideS_ct (EnvOk.nil tabOk))) mixed (fn := Tryz.f57) _ _ _ _ _ _ .none Tryz.func57 (by kernel_rfl) (fun x => by kernel_rfl)
/-! loop.example/g00486/laws.markEventS -/
def laws_markEventS_l1 : ((List T_Event.D) × (Int × Int)) → Option (((List T_Event.D) × (Int × Int)) ⊕ ((List T_Event.D) × (Int × Int))) := fun s2 =>
 bif decide (s2.2.2 < (s2.1.length : Int)) then (
 idx s2.1 s2.2.2 fun _ =>
(s2.1[(s2.2.2 : Int).toNat]?).bind fun x3 =>
 let u4 : (List T_Event.D) := s2.1.set (s2.2.2 : Int).toNat (s2.2.1, x3.2)
 idx u4 s2.2.2 fun _ =>
(u4[(s2.2.2 : Int).toNat]?).bind fun x5 =>
 let u6 : (List T_Event.D) := u4.set (s2.2.2 : Int).toNat (x5.1, IntKind.wrap .i64 (s2.2.1 + 1), x5.2.2)
 idx u6 s2.2.2 fun _ =>
(u6[(s2.2.2 : Int).toNat]?).bind fun x7 =>
 let u8 : (List T_Event.D) := u6.set (s2.2.2 : Int).toNat (x7.1, x7.2.1, IntKind.wrap .i64 ((IntKind.wrap .i64 (s2.2.1 + 1)) + 1), x7.2.2.2)
 let k9 : Int := IntKind.wrap .i64 ((IntKind.wrap .i64 ((IntKind.wrap .i64 (s2.2.1 + 1)) + 1)) + 1)
 idx u8 s2.2.2 fun _ =>
(u8[(s2.2.2 : Int).toNat]?).bind fun x10 =>
 let u11 : (List T_Event.D) := u8.set (s2.2.2 : Int).toNat (x10.1, x10.2.1, x10.2.2.1, k9, x10.2.2.2.2)
 idx u11 s2.2.2 fun _ =>
(u11[(s2.2.2 : Int).toNat]?).bind fun x12 =>
 let u13 : (List T_Event.D) := u11.set (s2.2.2 : Int).toNat (x12.1, x12.2.1, x12.2.2.1, x12.2.2.2.1, IntKind.wrap .i64 (k9 + 1), x12.2.2.2.2.2)
 idx u13 s2.2.2 fun _ =>
(u13[(s2.2.2 : Int).toNat]?).bind fun x14 =>
 let u15 : (List T_Event.D) := u13.set (s2.2.2 : Int).toNat (x14.1, x14.2.1, x14.2.2.1, x14.2.2.2.1, x14.2.2.2.2.1, IntKind.wrap .i64 ((IntKind.wrap .i64 (k9 + 1)) + 1), x14.2.2.2.2.2.2)
 let k16 : Int := IntKind.wrap .i64 ((IntKind.wrap .i64 ((IntKind.wrap .i64 (k9 + 1)) + 1)) + 1)
 if 3 = 0 then none else (
 idx u15 s2.2.2 fun _ =>
(u15[(s2.2.2 : Int).toNat]?).bind fun x17 =>
 let u18 : (List T_Event.D) := u15.set (s2.2.2 : Int).toNat (x17.1, x17.2.1, x17.2.2.1, x17.2.2.2.1, x17.2.2.2.2.1, x17.2.2.2.2.2.1, ((k16.tmod 3) == 0), ())
 some (.inl (u18, IntKind.wrap .i64 (k16 + 1), IntKind.wrap .i64 (s2.2.2 + 1)))))
 else (
 some (.inr s2))
def laws_markEventS (a0 : (List T_Event.D)) (a1 : Int) : Option (Int × ((List T_Event.D) × Unit)) :=
(while_ (laws_markEventS_l1) (a0, a1, 0)).bind fun o19 =>
 some (o19.2.1, (o19.1, ()))
def laws_markEventS_h : Hints := (.node none none .none (.node none none (.node none none .none (.node none none (.node none (some ⟨[.tmpO 0 1 (.slice T_Event), .tmp 1 (.int .i64), .tmp 5 (.int .i64)], [some 0], none, []⟩) .none .none) .none)) .none))
def laws_markEventS_c : Ct := .mut [.lent, .rd] true true (.pair (.slice T_Event) (.pair (.int .i64) .unit)) (.int .i64) (fun x => laws_markEventS x.1 x.2.1)
theorem laws_markEventS_ct : CtOk Tryz.prog 67 laws_markEventS_c := mut_ct (E := { T := tab, G := [] }) (EnvOk.nil tabOk) mixed (fn := Tryz.f67) _ _ _ _ _ _ laws_markEventS_h Tryz.func67 (by kernel_rfl) (fun x => by kernel_rfl)
/-! loop.example/g00486/laws.markEffectS -/
def laws_markEffectS_l1 : ((List T_Effect.D) × (Int × Int)) → Option (((List T_Effect.D) × (Int × Int)) ⊕ ((List T_Effect.D) × (Int × Int))) := fun s2 =>
 bif decide (s2.2.2 < (s2.1.length : Int)) then (
 idx s2.1 s2.2.2 fun _ =>
(s2.1[(s2.2.2 : Int).toNat]?).bind fun x3 =>
 let u4 : (List T_Effect.D) := s2.1.set (s2.2.2 : Int).toNat (s2.2.1, x3.2)
 idx u4 s2.2.2 fun _ =>
(u4[(s2.2.2 : Int).toNat]?).bind fun x5 =>
 let u6 : (List T_Effect.D) := u4.set (s2.2.2 : Int).toNat (x5.1, IntKind.wrap .i64 (s2.2.1 + 1), x5.2.2)
 idx u6 s2.2.2 fun _ =>
(u6[(s2.2.2 : Int).toNat]?).bind fun x7 =>
 let u8 : (List T_Effect.D) := u6.set (s2.2.2 : Int).toNat (x7.1, x7.2.1, IntKind.wrap .i64 ((IntKind.wrap .i64 (s2.2.1 + 1)) + 1), x7.2.2.2)
 let k9 : Int := IntKind.wrap .i64 ((IntKind.wrap .i64 ((IntKind.wrap .i64 (s2.2.1 + 1)) + 1)) + 1)
 idx u8 s2.2.2 fun _ =>
(u8[(s2.2.2 : Int).toNat]?).bind fun x10 =>
 let u11 : (List T_Effect.D) := u8.set (s2.2.2 : Int).toNat (x10.1, x10.2.1, x10.2.2.1, k9, x10.2.2.2.2)
 idx u11 s2.2.2 fun _ =>
(u11[(s2.2.2 : Int).toNat]?).bind fun x12 =>
 let u13 : (List T_Effect.D) := u11.set (s2.2.2 : Int).toNat (x12.1, x12.2.1, x12.2.2.1, x12.2.2.2.1, (IntKind.wrap .i64 (k9 + 1), x12.2.2.2.2.1.2), x12.2.2.2.2.2)
 idx u13 s2.2.2 fun _ =>
(u13[(s2.2.2 : Int).toNat]?).bind fun x14 =>
 let u15 : (List T_Effect.D) := u13.set (s2.2.2 : Int).toNat (x14.1, x14.2.1, x14.2.2.1, x14.2.2.2.1, (x14.2.2.2.2.1.1, IntKind.wrap .i64 ((IntKind.wrap .i64 (k9 + 1)) + 1), x14.2.2.2.2.1.2.2), x14.2.2.2.2.2)
 let k16 : Int := IntKind.wrap .i64 ((IntKind.wrap .i64 ((IntKind.wrap .i64 (k9 + 1)) + 1)) + 1)
 idx u15 s2.2.2 fun _ =>
(u15[(s2.2.2 : Int).toNat]?).bind fun x17 =>
 let u18 : (List T_Effect.D) := u15.set (s2.2.2 : Int).toNat (x17.1, x17.2.1, x17.2.2.1, x17.2.2.2.1, (x17.2.2.2.2.1.1, x17.2.2.2.2.1.2.1, k16, x17.2.2.2.2.1.2.2.2), x17.2.2.2.2.2)
 idx u18 s2.2.2 fun _ =>
(u18[(s2.2.2 : Int).toNat]?).bind fun x19 =>
 let u20 : (List T_Effect.D) := u18.set (s2.2.2 : Int).toNat (x19.1, x19.2.1, x19.2.2.1, x19.2.2.2.1, (x19.2.2.2.2.1.1, x19.2.2.2.2.1.2.1, x19.2.2.2.2.1.2.2.1, IntKind.wrap .i64 (k16 + 1), x19.2.2.2.2.1.2.2.2.2), x19.2.2.2.2.2)
 idx u20 s2.2.2 fun _ =>
(u20[(s2.2.2 : Int).toNat]?).bind fun x21 =>
 let u22 : (List T_Effect.D) := u20.set (s2.2.2 : Int).toNat (x21.1, x21.2.1, x21.2.2.1, x21.2.2.2.1, (x21.2.2.2.2.1.1, x21.2.2.2.2.1.2.1, x21.2.2.2.2.1.2.2.1, x21.2.2.2.2.1.2.2.2.1, IntKind.wrap .i64 ((IntKind.wrap .i64 (k16 + 1)) + 1), x21.2.2.2.2.1.2.2.2.2.2), x21.2.2.2.2.2)
 let k23 : Int := IntKind.wrap .i64 ((IntKind.wrap .i64 ((IntKind.wrap .i64 (k16 + 1)) + 1)) + 1)
 idx u22 s2.2.2 fun _ =>
(u22[(s2.2.2 : Int).toNat]?).bind fun x24 =>
 let u25 : (List T_Effect.D) := u22.set (s2.2.2 : Int).toNat (x24.1, x24.2.1, x24.2.2.1, x24.2.2.2.1, (x24.2.2.2.2.1.1, x24.2.2.2.2.1.2.1, x24.2.2.2.2.1.2.2.1, x24.2.2.2.2.1.2.2.2.1, x24.2.2.2.2.1.2.2.2.2.1, k23, x24.2.2.2.2.1.2.2.2.2.2.2), x24.2.2.2.2.2)
 idx u25 s2.2.2 fun _ =>
(u25[(s2.2.2 : Int).toNat]?).bind fun x26 =>
 let u27 : (List T_Effect.D) := u25.set (s2.2.2 : Int).toNat (x26.1, x26.2.1, x26.2.2.1, x26.2.2.2.1, (x26.2.2.2.2.1.1, x26.2.2.2.2.1.2.1, x26.2.2.2.2.1.2.2.1, x26.2.2.2.2.1.2.2.2.1, x26.2.2.2.2.1.2.2.2.2.1, x26.2.2.2.2.1.2.2.2.2.2.1, IntKind.wrap .i64 (k23 + 1), ()), x26.2.2.2.2.2)
 idx u27 s2.2.2 fun _ =>
(u27[(s2.2.2 : Int).toNat]?).bind fun x28 =>
 let u29 : (List T_Effect.D) := u27.set (s2.2.2 : Int).toNat (x28.1, x28.2.1, x28.2.2.1, x28.2.2.2.1, x28.2.2.2.2.1, (IntKind.wrap .i64 ((IntKind.wrap .i64 (k23 + 1)) + 1), x28.2.2.2.2.2.1.2), x28.2.2.2.2.2.2)
 let k30 : Int := IntKind.wrap .i64 ((IntKind.wrap .i64 ((IntKind.wrap .i64 (k23 + 1)) + 1)) + 1)
 idx u29 s2.2.2 fun _ =>
(u29[(s2.2.2 : Int).toNat]?).bind fun x31 =>
 let u32 : (List T_Effect.D) := u29.set (s2.2.2 : Int).toNat (x31.1, x31.2.1, x31.2.2.1, x31.2.2.2.1, x31.2.2.2.2.1, (x31.2.2.2.2.2.1.1, k30, ()), x31.2.2.2.2.2.2)
 idx u32 s2.2.2 fun _ =>
(u32[(s2.2.2 : Int).toNat]?).bind fun x33 =>
 let u34 : (List T_Effect.D) := u32.set (s2.2.2 : Int).toNat (x33.1, x33.2.1, x33.2.2.1, x33.2.2.2.1, x33.2.2.2.2.1, x33.2.2.2.2.2.1, (IntKind.wrap .i64 (k30 + 1), x33.2.2.2.2.2.2.1.2), x33.2.2.2.2.2.2.2)
 idx u34 s2.2.2 fun _ =>
(u34[(s2.2.2 : Int).toNat]?).bind fun x35 =>
 let u36 : (List T_Effect.D) := u34.set (s2.2.2 : Int).toNat (x35.1, x35.2.1, x35.2.2.1, x35.2.2.2.1, x35.2.2.2.2.1, x35.2.2.2.2.2.1, (x35.2.2.2.2.2.2.1.1, IntKind.wrap .i64 ((IntKind.wrap .i64 (k30 + 1)) + 1), x35.2.2.2.2.2.2.1.2.2), x35.2.2.2.2.2.2.2)
 let k37 : Int := IntKind.wrap .i64 ((IntKind.wrap .i64 ((IntKind.wrap .i64 (k30 + 1)) + 1)) + 1)
 idx u36 s2.2.2 fun _ =>
(u36[(s2.2.2 : Int).toNat]?).bind fun x38 =>
 let u39 : (List T_Effect.D) := u36.set (s2.2.2 : Int).toNat (x38.1, x38.2.1, x38.2.2.1, x38.2.2.2.1, x38.2.2.2.2.1, x38.2.2.2.2.2.1, (x38.2.2.2.2.2.2.1.1, x38.2.2.2.2.2.2.1.2.1, k37, x38.2.2.2.2.2.2.1.2.2.2), x38.2.2.2.2.2.2.2)
 idx u39 s2.2.2 fun _ =>
(u39[(s2.2.2 : Int).toNat]?).bind fun x40 =>
 let u41 : (List T_Effect.D) := u39.set (s2.2.2 : Int).toNat (x40.1, x40.2.1, x40.2.2.1, x40.2.2.2.1, x40.2.2.2.2.1, x40.2.2.2.2.2.1, (x40.2.2.2.2.2.2.1.1, x40.2.2.2.2.2.2.1.2.1, x40.2.2.2.2.2.2.1.2.2.1, IntKind.wrap .i64 (k37 + 1), x40.2.2.2.2.2.2.1.2.2.2.2), x40.2.2.2.2.2.2.2)
 idx u41 s2.2.2 fun _ =>
(u41[(s2.2.2 : Int).toNat]?).bind fun x42 =>
 let u43 : (List T_Effect.D) := u41.set (s2.2.2 : Int).toNat (x42.1, x42.2.1, x42.2.2.1, x42.2.2.2.1, x42.2.2.2.2.1, x42.2.2.2.2.2.1, (x42.2.2.2.2.2.2.1.1, x42.2.2.2.2.2.2.1.2.1, x42.2.2.2.2.2.2.1.2.2.1, x42.2.2.2.2.2.2.1.2.2.2.1, IntKind.wrap .i64 ((IntKind.wrap .i64 (k37 + 1)) + 1), x42.2.2.2.2.2.2.1.2.2.2.2.2), x42.2.2.2.2.2.2.2)
 let k44 : Int := IntKind.wrap .i64 ((IntKind.wrap .i64 ((IntKind.wrap .i64 (k37 + 1)) + 1)) + 1)
 if 3 = 0 then none else (
 idx u43 s2.2.2 fun _ =>
(u43[(s2.2.2 : Int).toNat]?).bind fun x45 =>
 let u46 : (List T_Effect.D) := u43.set (s2.2.2 : Int).toNat (x45.1, x45.2.1, x45.2.2.1, x45.2.2.2.1, x45.2.2.2.2.1, x45.2.2.2.2.2.1, (x45.2.2.2.2.2.2.1.1, x45.2.2.2.2.2.2.1.2.1, x45.2.2.2.2.2.2.1.2.2.1, x45.2.2.2.2.2.2.1.2.2.2.1, x45.2.2.2.2.2.2.1.2.2.2.2.1, ((k44.tmod 3) == 0), x45.2.2.2.2.2.2.1.2.2.2.2.2.2), x45.2.2.2.2.2.2.2)
 idx u46 s2.2.2 fun _ =>
(u46[(s2.2.2 : Int).toNat]?).bind fun x47 =>
(laws_markEventS x47.2.2.2.2.2.2.1.2.2.2.2.2.2.1 (IntKind.wrap .i64 (k44 + 1))).bind fun y48 =>
 let u49 : (List T_Effect.D) := u46.set (s2.2.2 : Int).toNat (x47.1, x47.2.1, x47.2.2.1, x47.2.2.2.1, x47.2.2.2.2.1, x47.2.2.2.2.2.1, (x47.2.2.2.2.2.2.1.1, x47.2.2.2.2.2.2.1.2.1, x47.2.2.2.2.2.2.1.2.2.1, x47.2.2.2.2.2.2.1.2.2.2.1, x47.2.2.2.2.2.2.1.2.2.2.2.1, x47.2.2.2.2.2.2.1.2.2.2.2.2.1, y48.2), x47.2.2.2.2.2.2.2)
 idx u49 s2.2.2 fun _ =>
(u49[(s2.2.2 : Int).toNat]?).bind fun x50 =>
 let u51 : (List T_Effect.D) := u49.set (s2.2.2 : Int).toNat (x50.1, x50.2.1, x50.2.2.1, x50.2.2.2.1, x50.2.2.2.2.1, x50.2.2.2.2.2.1, x50.2.2.2.2.2.2.1, y48.1, x50.2.2.2.2.2.2.2.2)
 idx u51 s2.2.2 fun _ =>
(u51[(s2.2.2 : Int).toNat]?).bind fun x52 =>
 let u53 : (List T_Effect.D) := u51.set (s2.2.2 : Int).toNat (x52.1, x52.2.1, x52.2.2.1, x52.2.2.2.1, x52.2.2.2.2.1, x52.2.2.2.2.2.1, x52.2.2.2.2.2.2.1, x52.2.2.2.2.2.2.2.1, IntKind.wrap .i64 (y48.1 + 1), ())
 some (.inl (u53, IntKind.wrap .i64 ((IntKind.wrap .i64 (y48.1 + 1)) + 1), IntKind.wrap .i64 (s2.2.2 + 1)))))
 else (
 some (.inr s2))
def laws_markEffectS (a0 : (List T_Effect.D)) (a1 : Int) : Option (Int × ((List T_Effect.D) × Unit)) :=
(while_ (laws_markEffectS_l1) (a0, a1, 0)).bind fun o54 =>
 some (o54.2.1, (o54.1, ()))
def laws_markEffectS_h : Hints := (.node none none .none (.node none none (.node none none .none (.node none none (.node none (some ⟨[.tmpO 0 1 (.slice T_Effect), .tmp 1 (.int .i64), .tmp 5 (.int .i64)], [some 0], none, []⟩) (.node none none .none (.node none none (.node none none (.node none none .none (.node none none .none (.node none none .none (.node none none .none (.node none none .none (.node none none .none (.node none none .none (.node none none .none (.node none none .none (.node none none .none (.node none none .none (.node none none .none (.node none none .none (.node none none .none (.node none none .none (.node none none .none (.node none none .none (.node none none .none (.node none none .none (.node none none .none (.node none none .none (.node none none .none (.node none none .none (.node none none .none (.node none none .none (.node none none .none (.node none none .none (.node none none .none (.node none none .none (.node none none .none (.node none none .none (.node none none .none (.node none none .none (.node none none .none (.node none none .none (.node none none .none (.node none none .none (.node none none .none (.node none none (.node none (some ⟨[], [], none, [(5, 0)]⟩) .none .none) .none))))))))))))))))))))))))))))))))))))))) .none) .none)) .none) .none)) .none))
def laws_markEffectS_c : Ct := .mut [.lent, .rd] true true (.pair (.slice T_Effect) (.pair (.int .i64) .unit)) (.int .i64) (fun x => laws_markEffectS x.1 x.2.1)
theorem laws_markEffectS_ct : CtOk Tryz.prog 58 laws_markEffectS_c := mut_ct (E := { T := tab, G := [(67, laws_markEventS_c)] }) (EnvOk.cons laws_markEventS_ct (EnvOk.nil tabOk)) mixed (fn := Tryz.f58) _ _ _ _ _ _ laws_markEffectS_h Tryz.func58 (by kernel_rfl) (fun x => by kernel_rfl)
/-! loop.example/g00486/laws.markIntS -/
def laws_markIntS_l1 : ((List Int) × (Int × Int)) → Option (((List Int) × (Int × Int)) ⊕ ((List Int) × (Int × Int))) := fun s2 =>
 bif decide (s2.2.2 < (s2.1.length : Int)) then (
 idx s2.1 s2.2.2 fun _ =>
(s2.1[(s2.2.2 : Int).toNat]?).bind fun x3 =>
 let u4 : (List Int) := s2.1.set (s2.2.2 : Int).toNat s2.2.1
 some (.inl (u4, IntKind.wrap .i64 (s2.2.1 + 1), IntKind.wrap .i64 (s2.2.2 + 1))))
 else (
 some (.inr s2))
def laws_markIntS (a0 : (List Int)) (a1 : Int) : Option (Int × ((List Int) × Unit)) :=
(while_ (laws_markIntS_l1) (a0, a1, 0)).bind fun o5 =>
 some (o5.2.1, (o5.1, ()))
def laws_markIntS_h : Hints := (.node none none .none (.node none none (.node none none .none (.node none none (.node none (some ⟨[.tmpO 0 1 (.slice (.int .i64)), .tmp 1 (.int .i64), .tmp 5 (.int .i64)], [some 0], none, []⟩) .none .none) .none)) .none))
def laws_markIntS_c : Ct := .mut [.lent, .rd] true true (.pair (.slice (.int .i64)) (.pair (.int .i64) .unit)) (.int .i64) (fun x => laws_markIntS x.1 x.2.1)
theorem laws_markIntS_ct : CtOk Tryz.prog 59 laws_markIntS_c := mut_ct (E := { T := tab, G := [] }) (EnvOk.nil tabOk) mixed (fn := Tryz.f59) _ _ _ _ _ _ laws_markIntS_h Tryz.func59 (by kernel_rfl) (fun x => by kernel_rfl)
/-! loop.example/g00486/laws.markTurnS -/
def laws_markTurnS_l1 : ((List T_Turn.D) × (Int × Int)) → Option (((List T_Turn.D) × (Int × Int)) ⊕ ((List T_Turn.D) × (Int × Int))) := fun s2 =>
 bif decide (s2.2.2 < (s2.1.length : Int)) then (
 idx s2.1 s2.2.2 fun _ =>
(s2.1[(s2.2.2 : Int).toNat]?).bind fun x3 =>
 let u4 : (List T_Turn.D) := s2.1.set (s2.2.2 : Int).toNat (s2.2.1, x3.2)
 idx u4 s2.2.2 fun _ =>
(u4[(s2.2.2 : Int).toNat]?).bind fun x5 =>
 let u6 : (List T_Turn.D) := u4.set (s2.2.2 : Int).toNat (x5.1, IntKind.wrap .i64 (s2.2.1 + 1), x5.2.2)
 idx u6 s2.2.2 fun _ =>
(u6[(s2.2.2 : Int).toNat]?).bind fun x7 =>
 let u8 : (List T_Turn.D) := u6.set (s2.2.2 : Int).toNat (x7.1, x7.2.1, IntKind.wrap .i64 ((IntKind.wrap .i64 (s2.2.1 + 1)) + 1), x7.2.2.2)
 let k9 : Int := IntKind.wrap .i64 ((IntKind.wrap .i64 ((IntKind.wrap .i64 (s2.2.1 + 1)) + 1)) + 1)
 idx u8 s2.2.2 fun _ =>
(u8[(s2.2.2 : Int).toNat]?).bind fun x10 =>
 let u11 : (List T_Turn.D) := u8.set (s2.2.2 : Int).toNat (x10.1, x10.2.1, x10.2.2.1, k9, x10.2.2.2.2)
 idx u11 s2.2.2 fun _ =>
(u11[(s2.2.2 : Int).toNat]?).bind fun x12 =>
 let u13 : (List T_Turn.D) := u11.set (s2.2.2 : Int).toNat (x12.1, x12.2.1, x12.2.2.1, x12.2.2.2.1, (IntKind.wrap .i64 (k9 + 1), x12.2.2.2.2.1.2), x12.2.2.2.2.2)
 idx u13 s2.2.2 fun _ =>
(u13[(s2.2.2 : Int).toNat]?).bind fun x14 =>
 let u15 : (List T_Turn.D) := u13.set (s2.2.2 : Int).toNat (x14.1, x14.2.1, x14.2.2.1, x14.2.2.2.1, (x14.2.2.2.2.1.1, IntKind.wrap .i64 ((IntKind.wrap .i64 (k9 + 1)) + 1), x14.2.2.2.2.1.2.2), x14.2.2.2.2.2)
 let k16 : Int := IntKind.wrap .i64 ((IntKind.wrap .i64 ((IntKind.wrap .i64 (k9 + 1)) + 1)) + 1)
 idx u15 s2.2.2 fun _ =>
(u15[(s2.2.2 : Int).toNat]?).bind fun x17 =>
 let u18 : (List T_Turn.D) := u15.set (s2.2.2 : Int).toNat (x17.1, x17.2.1, x17.2.2.1, x17.2.2.2.1, (x17.2.2.2.2.1.1, x17.2.2.2.2.1.2.1, k16, x17.2.2.2.2.1.2.2.2), x17.2.2.2.2.2)
 idx u18 s2.2.2 fun _ =>
(u18[(s2.2.2 : Int).toNat]?).bind fun x19 =>
 let u20 : (List T_Turn.D) := u18.set (s2.2.2 : Int).toNat (x19.1, x19.2.1, x19.2.2.1, x19.2.2.2.1, (x19.2.2.2.2.1.1, x19.2.2.2.2.1.2.1, x19.2.2.2.2.1.2.2.1, IntKind.wrap .i64 (k16 + 1), x19.2.2.2.2.1.2.2.2.2), x19.2.2.2.2.2)
 idx u20 s2.2.2 fun _ =>
(u20[(s2.2.2 : Int).toNat]?).bind fun x21 =>
 let u22 : (List T_Turn.D) := u20.set (s2.2.2 : Int).toNat (x21.1, x21.2.1, x21.2.2.1, x21.2.2.2.1, (x21.2.2.2.2.1.1, x21.2.2.2.2.1.2.1, x21.2.2.2.2.1.2.2.1, x21.2.2.2.2.1.2.2.2.1, IntKind.wrap .i64 ((IntKind.wrap .i64 (k16 + 1)) + 1), x21.2.2.2.2.1.2.2.2.2.2), x21.2.2.2.2.2)
 let k23 : Int := IntKind.wrap .i64 ((IntKind.wrap .i64 ((IntKind.wrap .i64 (k16 + 1)) + 1)) + 1)
 idx u22 s2.2.2 fun _ =>
(u22[(s2.2.2 : Int).toNat]?).bind fun x24 =>
 let u25 : (List T_Turn.D) := u22.set (s2.2.2 : Int).toNat (x24.1, x24.2.1, x24.2.2.1, x24.2.2.2.1, (x24.2.2.2.2.1.1, x24.2.2.2.2.1.2.1, x24.2.2.2.2.1.2.2.1, x24.2.2.2.2.1.2.2.2.1, x24.2.2.2.2.1.2.2.2.2.1, k23, x24.2.2.2.2.1.2.2.2.2.2.2), x24.2.2.2.2.2)
 if 3 = 0 then none else (
 idx u25 s2.2.2 fun _ =>
(u25[(s2.2.2 : Int).toNat]?).bind fun x26 =>
 let u27 : (List T_Turn.D) := u25.set (s2.2.2 : Int).toNat (x26.1, x26.2.1, x26.2.2.1, x26.2.2.2.1, (x26.2.2.2.2.1.1, x26.2.2.2.2.1.2.1, x26.2.2.2.2.1.2.2.1, x26.2.2.2.2.1.2.2.2.1, x26.2.2.2.2.1.2.2.2.2.1, x26.2.2.2.2.1.2.2.2.2.2.1, (((IntKind.wrap .i64 (k23 + 1)).tmod 3) == 0), ()), x26.2.2.2.2.2)
 idx u27 s2.2.2 fun _ =>
(u27[(s2.2.2 : Int).toNat]?).bind fun x28 =>
(laws_markEventS x28.2.2.2.2.2.1 (IntKind.wrap .i64 ((IntKind.wrap .i64 (k23 + 1)) + 1))).bind fun y29 =>
 let u30 : (List T_Turn.D) := u27.set (s2.2.2 : Int).toNat (x28.1, x28.2.1, x28.2.2.1, x28.2.2.2.1, x28.2.2.2.2.1, y29.2.1, x28.2.2.2.2.2.2)
 idx u30 s2.2.2 fun _ =>
(u30[(s2.2.2 : Int).toNat]?).bind fun x31 =>
 let u32 : (List T_Turn.D) := u30.set (s2.2.2 : Int).toNat (x31.1, x31.2.1, x31.2.2.1, x31.2.2.2.1, x31.2.2.2.2.1, x31.2.2.2.2.2.1, y29.1, x31.2.2.2.2.2.2.2)
 idx u32 s2.2.2 fun _ =>
(u32[(s2.2.2 : Int).toNat]?).bind fun x33 =>
 let u34 : (List T_Turn.D) := u32.set (s2.2.2 : Int).toNat (x33.1, x33.2.1, x33.2.2.1, x33.2.2.2.1, x33.2.2.2.2.1, x33.2.2.2.2.2.1, x33.2.2.2.2.2.2.1, IntKind.wrap .i64 (y29.1 + 1), ())
 some (.inl (u34, IntKind.wrap .i64 ((IntKind.wrap .i64 (y29.1 + 1)) + 1), IntKind.wrap .i64 (s2.2.2 + 1)))))
 else (
 some (.inr s2))
def laws_markTurnS (a0 : (List T_Turn.D)) (a1 : Int) : Option (Int × ((List T_Turn.D) × Unit)) :=
(while_ (laws_markTurnS_l1) (a0, a1, 0)).bind fun o35 =>
 some (o35.2.1, (o35.1, ()))
def laws_markTurnS_h : Hints := (.node none none .none (.node none none (.node none none .none (.node none none (.node none (some ⟨[.tmpO 0 1 (.slice T_Turn), .tmp 1 (.int .i64), .tmp 5 (.int .i64)], [some 0], none, []⟩) (.node none none .none (.node none none (.node none none (.node none none .none (.node none none .none (.node none none .none (.node none none .none (.node none none .none (.node none none .none (.node none none .none (.node none none .none (.node none none .none (.node none none .none (.node none none .none (.node none none .none (.node none none .none (.node none none .none (.node none none .none (.node none none .none (.node none none .none (.node none none .none (.node none none .none (.node none none .none (.node none none .none (.node none none .none (.node none none (.node none (some ⟨[], [], none, [(4, 0)]⟩) .none .none) .none))))))))))))))))))))))) .none) .none)) .none) .none)) .none))
def laws_markTurnS_c : Ct := .mut [.lent, .rd] true true (.pair (.slice T_Turn) (.pair (.int .i64) .unit)) (.int .i64) (fun x => laws_markTurnS x.1 x.2.1)
theorem laws_markTurnS_ct : CtOk Tryz.prog 138 laws_markTurnS_c := mut_ct (E := { T := tab, G := [(67, laws_markEventS_c)] }) (EnvOk.cons laws_markEventS_ct (EnvOk.nil tabOk)) mixed (fn := Tryz.f138) _ _ _ _ _ _ laws_markTurnS_h Tryz.func138 (by kernel_rfl) (fun x => by kernel_rfl)
/-! loop.example/g00486/laws.markFate -/
def laws_markFate (a0 : T_Fate.D) (a1 : Int) : Option (Int × (T_Fate.D × Unit)) :=
(laws_markEventS a0.1 a1).bind fun y1 =>
(laws_markEffectS a0.2.1 y1.1).bind fun y2 =>
(laws_markIntS a0.2.2.1 y2.1).bind fun y3 =>
(laws_markTurnS a0.2.2.2.1 y3.1).bind fun y4 =>
 some (y4.1, ((y1.2.1, y2.2.1, y3.2.1, y4.2), ()))
def laws_markFate_c : Ct := .mut [.lent, .rd] true true (.pair T_Fate (.pair (.int .i64) .unit)) (.int .i64) (fun x => laws_markFate x.1 x.2.1)
theorem laws_markFate_ct : CtOk Tryz.prog 60 laws_markFate_c := mut_ct (E := { T := tab, G := [(58, laws_markEffectS_c), (59, laws_markIntS_c), (67, laws_markEventS_c), (138, laws_markTurnS_c)] }) (EnvOk.cons laws_markEffectS_ct (EnvOk.cons laws_markIntS_ct (EnvOk.cons laws_markEventS_ct (EnvOk.cons laws_markTurnS_ct (EnvOk.nil tabOk))))) mixed (fn := Tryz.f60) _ _ _ _ _ _ .none Tryz.func60 (by kernel_rfl) (fun x => by kernel_rfl)
/-! loop.example/g00486/laws.heldEventS -/
def laws_heldEventS_l1 (a0 : (List T_Event.D)) : (Int × Int) → Option ((Int × Int) ⊕ ((Int × Int) ⊕ Int)) := fun s1 =>
 bif decide (s1.2 < (a0.length : Int)) then (
 idx a0 s1.2 fun x2 =>
 bif (x2.1 != s1.1) then (
 some (.inr (.inr (-1))))
 else (
 idx a0 s1.2 fun x3 =>
 bif (x3.2.1 != (IntKind.wrap .i64 (s1.1 + 1))) then (
 some (.inr (.inr (-1))))
 else (
 idx a0 s1.2 fun x4 =>
 bif (x4.2.2.1 != (IntKind.wrap .i64 ((IntKind.wrap .i64 (s1.1 + 1)) + 1))) then (
 some (.inr (.inr (-1))))
 else (
 let k5 : Int := IntKind.wrap .i64 ((IntKind.wrap .i64 ((IntKind.wrap .i64 (s1.1 + 1)) + 1)) + 1)
 idx a0 s1.2 fun x6 =>
 bif (x6.2.2.2.1 != k5) then (
 some (.inr (.inr (-1))))
 else (
 idx a0 s1.2 fun x7 =>
 bif (x7.2.2.2.2.1 != (IntKind.wrap .i64 (k5 + 1))) then (
 some (.inr (.inr (-1))))
 else (
 idx a0 s1.2 fun x8 =>
 bif (x8.2.2.2.2.2.1 != (IntKind.wrap .i64 ((IntKind.wrap .i64 (k5 + 1)) + 1))) then (
 some (.inr (.inr (-1))))
 else (
 let k9 : Int := IntKind.wrap .i64 ((IntKind.wrap .i64 ((IntKind.wrap .i64 (k5 + 1)) + 1)) + 1)
 idx a0 s1.2 fun x10 =>
 if 3 = 0 then none else (
 bif (x10.2.2.2.2.2.2.1 != ((k9.tmod 3) == 0)) then (
 some (.inr (.inr (-1))))
 else (
 some (.inl (IntKind.wrap .i64 (k9 + 1), IntKind.wrap .i64 (s1.2 + 1))))))))))))
 else (
 some (.inr (.inl s1)))
def laws_heldEventS (a0 : (List T_Event.D)) (a1 : Int) : Option Int :=
(while_ (laws_heldEventS_l1 a0) (a1, 0)).bind fun o11 =>
 match o11 with
| .inl s12 => (
 some s12.1)
| .inr o13 => (
 some o13)
def laws_heldEventS_h : Hints := (.node none none .none (.node none none (.node none none .none (.node none none (.node none (some ⟨[.tmp 1 (.int .i64), .tmp 5 (.int .i64)], [some 0], some [.tmp 4 (.int .i64)], []⟩) .none .none) .none)) .none))
def laws_heldEventS_c : Ct := .pure true false (.pair (.slice T_Event) (.pair (.int .i64) .unit)) (.int .i64) (fun x => laws_heldEventS x.1 x.2.1)
theorem laws_heldEventS_ct : CtOk Tryz.prog 172 laws_heldEventS_c := pure_ct (E := { T := tab, G := [] }) (EnvOk.nil tabOk) mixed (fn := Tryz.f172) _ _ _ _ _ laws_heldEventS_h Tryz.func172 (by kernel_rfl) (fun x => by kernel_rfl)
/-! loop.example/g00486/laws.heldEffectS -/
def laws_heldEffectS_l1 (a0 : (List T_Effect.D)) : (Int × Int) → Option ((Int × Int) ⊕ ((Int × Int) ⊕ Int)) := fun s1 =>
 bif decide (s1.2 < (a0.length : Int)) then (
 idx a0 s1.2 fun x2 =>
 bif (x2.1 != s1.1) then (
 some (.inr (.inr (-1))))
 else (
 idx a0 s1.2 fun x3 =>
 bif (x3.2.1 != (IntKind.wrap .i64 (s1.1 + 1))) then (
 some (.inr (.inr (-1))))
 else (
 idx a0 s1.2 fun x4 =>
 bif (x4.2.2.1 != (IntKind.wrap .i64 ((IntKind.wrap .i64 (s1.1 + 1)) + 1))) then (
 some (.inr (.inr (-1))))
 else (
 let k5 : Int := IntKind.wrap .i64 ((IntKind.wrap .i64 ((IntKind.wrap .i64 (s1.1 + 1)) + 1)) + 1)
 idx a0 s1.2 fun x6 =>
 bif (x6.2.2.2.1 != k5) then (
 some (.inr (.inr (-1))))
 else (
 idx a0 s1.2 fun x7 =>
 bif (x7.2.2.2.2.1.1 != (IntKind.wrap .i64 (k5 + 1))) then (
 some (.inr (.inr (-1))))
 else (
 idx a0 s1.2 fun x8 =>
 bif (x8.2.2.2.2.1.2.1 != (IntKind.wrap .i64 ((IntKind.wrap .i64 (k5 + 1)) + 1))) then (
 some (.inr (.inr (-1))))
 else (
 let k9 : Int := IntKind.wrap .i64 ((IntKind.wrap .i64 ((IntKind.wrap .i64 (k5 + 1)) + 1)) + 1)
 idx a0 s1.2 fun x10 =>
 bif (x10.2.2.2.2.1.2.2.1 != k9) then (
 some (.inr (.inr (-1))))
 else (
 idx a0 s1.2 fun x11 =>
 bif (x11.2.2.2.2.1.2.2.2.1 != (IntKind.wrap .i64 (k9 + 1))) then (
 some (.inr (.inr (-1))))
 else (
 idx a0 s1.2 fun x12 =>
 bif (x12.2.2.2.2.1.2.2.2.2.1 != (IntKind.wrap .i64 ((IntKind.wrap .i64 (k9 + 1)) + 1))) then (
 some (.inr (.inr (-1))))
 else (
 let k13 : Int := IntKind.wrap .i64 ((IntKind.wrap .i64 ((IntKind.wrap .i64 (k9 + 1)) + 1)) + 1)
 idx a0 s1.2 fun x14 =>
 bif (x14.2.2.2.2.1.2.2.2.2.2.1 != k13) then (
 some (.inr (.inr (-1))))
 else (
 idx a0 s1.2 fun x15 =>
 bif (x15.2.2.2.2.1.2.2.2.2.2.2.1 != (IntKind.wrap .i64 (k13 + 1))) then (
 some (.inr (.inr (-1))))
 else (
 idx a0 s1.2 fun x16 =>
 bif (x16.2.2.2.2.2.1.1 != (IntKind.wrap .i64 ((IntKind.wrap .i64 (k13 + 1)) + 1))) then (
 some (.inr (.inr (-1))))
 else (
 let k17 : Int := IntKind.wrap .i64 ((IntKind.wrap .i64 ((IntKind.wrap .i64 (k13 + 1)) + 1)) + 1)
 idx a0 s1.2 fun x18 =>
 bif (x18.2.2.2.2.2.1.2.1 != k17) then (
 some (.inr (.inr (-1))))
 else (
 idx a0 s1.2 fun x19 =>
 bif (x19.2.2.2.2.2.2.1.1 != (IntKind.wrap .i64 (k17 + 1))) then (
 some (.inr (.inr (-1))))
 else (
 idx a0 s1.2 fun x20 =>
 bif (x20.2.2.2.2.2.2.1.2.1 != (IntKind.wrap .i64 ((IntKind.wrap .i64 (k17 + 1)) + 1))) then (
 some (.inr (.inr (-1))))
 else (
 let k21 : Int := IntKind.wrap .i64 ((IntKind.wrap .i64 ((IntKind.wrap .i64 (k17 + 1)) + 1)) + 1)
 idx a0 s1.2 fun x22 =>
 bif (x22.2.2.2.2.2.2.1.2.2.1 != k21) then (
 some (.inr (.inr (-1))))
 else (
 idx a0 s1.2 fun x23 =>
 bif (x23.2.2.2.2.2.2.1.2.2.2.1 != (IntKind.wrap .i64 (k21 + 1))) then (
 some (.inr (.inr (-1))))
 else (
 idx a0 s1.2 fun x24 =>
 bif (x24.2.2.2.2.2.2.1.2.2.2.2.1 != (IntKind.wrap .i64 ((IntKind.wrap .i64 (k21 + 1)) + 1))) then (
 some (.inr (.inr (-1))))
 else (
 let k25 : Int := IntKind.wrap .i64 ((IntKind.wrap .i64 ((IntKind.wrap .i64 (k21 + 1)) + 1)) + 1)
 idx a0 s1.2 fun x26 =>
 if 3 = 0 then none else (
 bif (x26.2.2.2.2.2.2.1.2.2.2.2.2.1 != ((k25.tmod 3) == 0)) then (
 some (.inr (.inr (-1))))
 else (
 idx a0 s1.2 fun x27 =>
(laws_heldEventS x27.2.2.2.2.2.2.1.2.2.2.2.2.2.1 (IntKind.wrap .i64 (k25 + 1))).bind fun y28 =>
 bif decide (y28 < 0) then (
 some (.inr (.inr (-1))))
 else (
 idx a0 s1.2 fun x29 =>
 bif (x29.2.2.2.2.2.2.2.1 != y28) then (
 some (.inr (.inr (-1))))
 else (
 idx a0 s1.2 fun x30 =>
 bif (x30.2.2.2.2.2.2.2.2.1 != (IntKind.wrap .i64 (y28 + 1))) then (
 some (.inr (.inr (-1))))
 else (
 some (.inl (IntKind.wrap .i64 ((IntKind.wrap .i64 (y28 + 1)) + 1), IntKind.wrap .i64 (s1.2 + 1)))))))))))))))))))))))))))
 else (
 some (.inr (.inl s1)))
def laws_heldEffectS (a0 : (List T_Effect.D)) (a1 : Int) : Option Int :=
(while_ (laws_heldEffectS_l1 a0) (a1, 0)).bind fun o31 =>
 match o31 with
| .inl s32 => (
 some s32.1)
| .inr o33 => (
 some o33)
def laws_heldEffectS_h : Hints := (.node none none .none (.node none none (.node none none .none (.node none none (.node none (some ⟨[.tmp 1 (.int .i64), .tmp 5 (.int .i64)], [some 0], some [.tmp 4 (.int .i64)], []⟩) .none .none) .none)) .none))
def laws_heldEffectS_c : Ct := .pure true false (.pair (.slice T_Effect) (.pair (.int .i64) .unit)) (.int .i64) (fun x => laws_heldEffectS x.1 x.2.1)
theorem laws_heldEffectS_ct : CtOk Tryz.prog 141 laws_heldEffectS_c := pure_ct (E := { T := tab, G := [(172, laws_heldEventS_c)] }) (EnvOk.cons laws_heldEventS_ct (EnvOk.nil tabOk)) mixed (fn := Tryz.f141) _ _ _ _ _ laws_heldEffectS_h Tryz.func141 (by kernel_rfl) (fun x => by kernel_rfl)
/-! loop.example/g00486/laws.heldIntS -/
def laws_heldIntS_l1 (a0 : (List Int)) : (Int × Int) → Option ((Int × Int) ⊕ ((Int × Int) ⊕ Int)) := fun s1 =>
 bif decide (s1.2 < (a0.length : Int)) then (
 idx a0 s1.2 fun x2 =>
 bif (x2 != s1.1) then (
 some (.inr (.inr (-1))))
 else (
 some (.inl (IntKind.wrap .i64 (s1.1 + 1), IntKind.wrap .i64 (s1.2 + 1)))))
 else (
 some (.inr (.inl s1)))
def laws_heldIntS (a0 : (List Int)) (a1 : Int) : Option Int :=
(while_ (laws_heldIntS_l1 a0) (a1, 0)).bind fun o3 =>
 match o3 with
| .inl s4 => (
 some s4.1)
| .inr o5 => (
 some o5)
def laws_heldIntS_h : Hints := (.node none none .none (.node none none (.node none none .none (.node none none (.node none (some ⟨[.tmp 1 (.int .i64), .tmp 5 (.int .i64)], [some 0], some [.tmp 4 (.int .i64)], []⟩) .none .none) .none)) .none))
def laws_heldIntS_c : Ct := .pure true false (.pair (.slice (.int .i64)) (.pair (.int .i64) .unit)) (.int .i64) (fun x => laws_heldIntS x.1 x.2.1)
theorem laws_heldIntS_ct : CtOk Tryz.prog 142 laws_heldIntS_c := pure_ct (E := { T := tab, G := [] }) (EnvOk.nil tabOk) mixed (fn := Tryz.f142) _ _ _ _ _ laws_heldIntS_h Tryz.func142 (by kernel_rfl) (fun x => by kernel_rfl)
/-! loop.example/g00486/laws.heldTurnS -/
def laws_heldTurnS_l1 (a0 : (List T_Turn.D)) : (Int × Int) → Option ((Int × Int) ⊕ ((Int × Int) ⊕ Int)) := fun s1 =>
 bif decide (s1.2 < (a0.length : Int)) then (
 idx a0 s1.2 fun x2 =>
 bif (x2.1 != s1.1) then (
 some (.inr (.inr (-1))))
 else (
 idx a0 s1.2 fun x3 =>
 bif (x3.2.1 != (IntKind.wrap .i64 (s1.1 + 1))) then (
 some (.inr (.inr (-1))))
 else (
 idx a0 s1.2 fun x4 =>
 bif (x4.2.2.1 != (IntKind.wrap .i64 ((IntKind.wrap .i64 (s1.1 + 1)) + 1))) then (
 some (.inr (.inr (-1))))
 else (
 let k5 : Int := IntKind.wrap .i64 ((IntKind.wrap .i64 ((IntKind.wrap .i64 (s1.1 + 1)) + 1)) + 1)
 idx a0 s1.2 fun x6 =>
 bif (x6.2.2.2.1 != k5) then (
 some (.inr (.inr (-1))))
 else (
 idx a0 s1.2 fun x7 =>
 bif (x7.2.2.2.2.1.1 != (IntKind.wrap .i64 (k5 + 1))) then (
 some (.inr (.inr (-1))))
 else (
 idx a0 s1.2 fun x8 =>
 bif (x8.2.2.2.2.1.2.1 != (IntKind.wrap .i64 ((IntKind.wrap .i64 (k5 + 1)) + 1))) then (
 some (.inr (.inr (-1))))
 else (
 let k9 : Int := IntKind.wrap .i64 ((IntKind.wrap .i64 ((IntKind.wrap .i64 (k5 + 1)) + 1)) + 1)
 idx a0 s1.2 fun x10 =>
 bif (x10.2.2.2.2.1.2.2.1 != k9) then (
 some (.inr (.inr (-1))))
 else (
 idx a0 s1.2 fun x11 =>
 bif (x11.2.2.2.2.1.2.2.2.1 != (IntKind.wrap .i64 (k9 + 1))) then (
 some (.inr (.inr (-1))))
 else (
 idx a0 s1.2 fun x12 =>
 bif (x12.2.2.2.2.1.2.2.2.2.1 != (IntKind.wrap .i64 ((IntKind.wrap .i64 (k9 + 1)) + 1))) then (
 some (.inr (.inr (-1))))
 else (
 let k13 : Int := IntKind.wrap .i64 ((IntKind.wrap .i64 ((IntKind.wrap .i64 (k9 + 1)) + 1)) + 1)
 idx a0 s1.2 fun x14 =>
 bif (x14.2.2.2.2.1.2.2.2.2.2.1 != k13) then (
 some (.inr (.inr (-1))))
 else (
 idx a0 s1.2 fun x15 =>
 if 3 = 0 then none else (
 bif (x15.2.2.2.2.1.2.2.2.2.2.2.1 != (((IntKind.wrap .i64 (k13 + 1)).tmod 3) == 0)) then (
 some (.inr (.inr (-1))))
 else (
 idx a0 s1.2 fun x16 =>
(laws_heldEventS x16.2.2.2.2.2.1 (IntKind.wrap .i64 ((IntKind.wrap .i64 (k13 + 1)) + 1))).bind fun y17 =>
 bif decide (y17 < 0) then (
 some (.inr (.inr (-1))))
 else (
 idx a0 s1.2 fun x18 =>
 bif (x18.2.2.2.2.2.2.1 != y17) then (
 some (.inr (.inr (-1))))
 else (
 idx a0 s1.2 fun x19 =>
 bif (x19.2.2.2.2.2.2.2.1 != (IntKind.wrap .i64 (y17 + 1))) then (
 some (.inr (.inr (-1))))
 else (
 some (.inl (IntKind.wrap .i64 ((IntKind.wrap .i64 (y17 + 1)) + 1), IntKind.wrap .i64 (s1.2 + 1)))))))))))))))))))
 else (
 some (.inr (.inl s1)))
def laws_heldTurnS (a0 : (List T_Turn.D)) (a1 : Int) : Option Int :=
(while_ (laws_heldTurnS_l1 a0) (a1, 0)).bind fun o20 =>
 match o20 with
| .inl s21 => (
 some s21.1)
| .inr o22 => (
 some o22)
def laws_heldTurnS_h : Hints := (.node none none .none (.node none none (.node none none .none (.node none none (.node none (some ⟨[.tmp 1 (.int .i64), .tmp 5 (.int .i64)], [some 0], some [.tmp 4 (.int .i64)], []⟩) .none .none) .none)) .none))
def laws_heldTurnS_c : Ct := .pure true false (.pair (.slice T_Turn) (.pair (.int .i64) .unit)) (.int .i64) (fun x => laws_heldTurnS x.1 x.2.1)
theorem laws_heldTurnS_ct : CtOk Tryz.prog 145 laws_heldTurnS_c := pure_ct (E := { T := tab, G := [(172, laws_heldEventS_c)] }) (EnvOk.cons laws_heldEventS_ct (EnvOk.nil tabOk)) mixed (fn := Tryz.f145) _ _ _ _ _ laws_heldTurnS_h Tryz.func145 (by kernel_rfl) (fun x => by kernel_rfl)
/-! loop.example/g00486/laws.heldFate -/
def laws_heldFate (a0 : T_Fate.D) (a1 : Int) : Option Int :=
(laws_heldEventS a0.1 a1).bind fun y1 =>
 bif decide (y1 < 0) then (
 some (-1))
 else (
(laws_heldEffectS a0.2.1 y1).bind fun y2 =>
 bif decide (y2 < 0) then (
 some (-1))
 else (
(laws_heldIntS a0.2.2.1 y2).bind fun y3 =>
 bif decide (y3 < 0) then (
 some (-1))
 else (
(laws_heldTurnS a0.2.2.2.1 y3).bind fun y4 =>
 bif decide (y4 < 0) then (
 some (-1))
 else (
 some y4))))
def laws_heldFate_c : Ct := .pure true false (.pair T_Fate (.pair (.int .i64) .unit)) (.int .i64) (fun x => laws_heldFate x.1 x.2.1)
theorem laws_heldFate_ct : CtOk Tryz.prog 61 laws_heldFate_c := pure_ct (E := { T := tab, G := [(141, laws_heldEffectS_c), (142, laws_heldIntS_c), (145, laws_heldTurnS_c), (172, laws_heldEventS_c)] }) (EnvOk.cons laws_heldEffectS_ct (EnvOk.cons laws_heldIntS_ct (EnvOk.cons laws_heldTurnS_ct (EnvOk.cons laws_heldEventS_ct (EnvOk.nil tabOk))))) mixed (fn := Tryz.f61) _ _ _ _ _ .none Tryz.func61 (by kernel_rfl) (fun x => by kernel_rfl)
/-! loop.example/g00486/laws.FnExactRewriteAll -/
def laws_FnExactRewriteAll (a0 : T_State.D) (a1 : (List T_Effect.D)) (a2 : (List T_Event.D)) (a3 : (List Int)) : Option Bool :=
 bif decide ((a3.length : Int) > 1048576) then (
 some true)
 else (
(laws_szState a0 1048576).bind fun y1 =>
 bif decide (y1 < 0) then (
 some true)
 else (
(laws_szEffectS a1 y1).bind fun y2 =>
 bif decide (y2 < 0) then (
 some true)
 else (
(laws_szEventS a2 y2).bind fun y3 =>
 bif decide (y3 < 0) then (
 some true)
 else (
(laws_toState a0).bind fun y4 =>
(laws_toEffectS a1).bind fun y5 =>
(laws_toEventS a2).bind fun y6 =>
(laws_toIntS a3).bind fun y7 =>
(spec_RewriteAll y4 y5 y6 y7).bind fun y8 =>
(laws_toState a0).bind fun y9 =>
(laws_toEffectS a1).bind fun y10 =>
(laws_toEventS a2).bind fun y11 =>
(laws_toIntS a3).bind fun y12 =>
(impl_RewriteAll y9 y10 y11 y12).bind fun y13 =>
(laws_eqFate y13 y8).bind fun y14 =>
 bif (!y14) then (
 some false)
 else (
(laws_toState a0).bind fun y15 =>
(laws_eqState y9 y15).bind fun y16 =>
 bif (!y16) then (
 some false)
 else (
(laws_toEffectS a1).bind fun y17 =>
(laws_eqEffectS y10 y17).bind fun y18 =>
 bif (!y18) then (
 some false)
 else (
(laws_toEventS a2).bind fun y19 =>
(laws_eqEventS y11 y19).bind fun y20 =>
 bif (!y20) then (
 some false)
 else (
(laws_toIntS a3).bind fun y21 =>
(laws_eqIntS y12 y21).bind fun y22 =>
 bif (!y22) then (
 some false)
 else (
(laws_markState y9 1).bind fun y23 =>
(laws_markEffectS y10 y23.1).bind fun y24 =>
(laws_markEventS y11 y24.1).bind fun y25 =>
(laws_markIntS y12 y25.1).bind fun y26 =>
((bif decide (y26.1 < 0) then (
 some true)
 else (
(laws_eqFate y13 y8).bind fun y27 =>
 some (!y27))) : Option Bool).bind fun o28 =>
 bif o28 then (
 some false)
 else (
(laws_markFate y13 1).bind fun y29 =>
(laws_heldFate y29.2.1 1).bind fun y30 =>
 bif decide (y30 < 0) then (
 some false)
 else (
 bif (y30 != y29.1) then (
 some false)
 else (
(laws_toState a0).bind fun y31 =>
(laws_toEffectS a1).bind fun y32 =>
(laws_toEventS a2).bind fun y33 =>
(laws_toIntS a3).bind fun y34 =>
(impl_RewriteAll y31 y32 y33 y34).bind fun y35 =>
(laws_eqFate y35 y8).bind fun y36 =>
 bif (!y36) then (
 some false)
 else (
(laws_heldFate y29.2.1 1).bind fun y37 =>
 bif decide (y37 < 0) then (
 some false)
 else (
 bif (y37 != y29.1) then (
 some false)
 else (
 some true)))))))))))))))
def laws_FnExactRewriteAll_h : Hints := (.node none none .none (.node none none .none (.node none none .none (.node none none .none (.node none none .none (.node none none .none (.node none none .none (.node none none .none (.node none none .none (.node none none .none (.node none none .none (.node none none .none (.node none none .none (.node none none .none (.node none none .none (.node none none .none (.node none none .none (.node none none .none (.node none none .none (.node none none .none (.node none none .none (.node none none .none (.node none none .none (.node none none .none (.node none none .none (.node none none (.node none none (.node (some ⟨[.tmp 103 .bool], [none], none, []⟩) none .none .none) .none) .none))))))))))))))))))))))))))
def laws_FnExactRewriteAll_c : Ct := .pure true false (.pair T_State (.pair (.slice T_Effect) (.pair (.slice T_Event) (.pair (.slice (.int .i64)) .unit)))) .bool (fun x => laws_FnExactRewriteAll x.1 x.2.1 x.2.2.1 x.2.2.2.1)
theorem laws_FnExactRewriteAll_ct : CtOk Tryz.prog 8 laws_FnExactRewriteAll_c := pure_ct (E := { T := tab, G := [(45, laws_szState_c), (46, laws_szEffectS_c), (48, laws_toState_fresh_c), (49, laws_toEffectS_fresh_c), (51, laws_toIntS_fresh_c), (53, laws_eqFate_c), (54, laws_eqState_c), (55, laws_eqEffectS_c), (56, laws_eqIntS_c), (57, laws_markState_c), (58, laws_markEffectS_c), (59, laws_markIntS_c), (60, laws_markFate_c), (61, laws_heldFate_c), (62, laws_szEventS_c), (63, spec_RewriteAll_fresh_c), (64, laws_toEventS_fresh_c), (65, impl_RewriteAll_fresh_c), (66, laws_eqEventS_c), (67, laws_markEventS_c)] }) (EnvOk.cons laws_szState_ct (EnvOk.cons laws_szEffectS_ct (EnvOk.cons laws_toState_fresh_ct (EnvOk.cons laws_toEffectS_fresh_ct (EnvOk.cons laws_toIntS_fresh_ct (EnvOk.cons laws_eqFate_ct (EnvOk.cons laws_eqState_ct (EnvOk.cons laws_eqEffectS_ct (EnvOk.cons laws_eqIntS_ct (EnvOk.cons laws_markState_ct (EnvOk.cons laws_markEffectS_ct (EnvOk.cons laws_markIntS_ct (EnvOk.cons laws_markFate_ct (EnvOk.cons laws_heldFate_ct (EnvOk.cons laws_szEventS_ct (EnvOk.cons spec_RewriteAll_fresh_ct (EnvOk.cons laws_toEventS_fresh_ct (EnvOk.cons impl_RewriteAll_fresh_ct (EnvOk.cons laws_eqEventS_ct (EnvOk.cons laws_markEventS_ct (EnvOk.nil tabOk))))))))))))))))))))) mixed (fn := Tryz.f8) _ _ _ _ _ laws_FnExactRewriteAll_h Tryz.func8 (by kernel_rfl) (fun x => by kernel_rfl)
end
end Go.Abs
