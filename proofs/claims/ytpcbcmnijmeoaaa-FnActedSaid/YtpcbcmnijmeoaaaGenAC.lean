import Derived.Test.YtpcbcmnijmeoaaaProg
import Derived.Test.YtpcbcmnijmeoaaaAbsTab
set_option linter.unusedVariables false
set_option linter.unusedSimpArgs false
namespace Go.Abs
open Go.Proofs
set_option maxRecDepth 100000
noncomputable section
@[reducible] def T_Pat : Ty := (.pair (.int .i64) (.pair (.int .i64) (.pair (.int .i64) (.pair (.int .i64) (.pair (.int .i64) (.pair (.int .i64) (.pair (.int .i64) .unit)))))))
@[reducible] def T_Guard : Ty := (.pair (.int .i64) (.pair (.int .i64) .unit))
@[reducible] def T_Event : Ty := (.pair (.int .i64) (.pair (.int .i64) (.pair (.int .i64) (.pair (.int .i64) (.pair (.int .i64) (.pair (.int .i64) (.pair .bool .unit)))))))
@[reducible] def T_Act : Ty := (.pair (.int .i64) (.pair (.int .i64) (.pair (.int .i64) (.pair (.int .i64) (.pair (.int .i64) (.pair .bool (.pair (.slice T_Event) .unit)))))))
@[reducible] def T_Effect : Ty := (.pair (.int .i64) (.pair (.int .i64) (.pair (.int .i64) (.pair (.int .i64) (.pair T_Pat (.pair T_Guard (.pair T_Act (.pair (.int .i64) (.pair (.int .i64) .unit)))))))))
@[reducible] def T_Piece : Ty := (.pair (.int .i64) (.pair (.int .i64) (.pair (.int .i64) (.pair (.int .i64) (.pair (.int .i64) (.pair (.int .i64) (.pair (.int .i64) (.pair (.int .i64) (.pair (.int .i64) (.pair (.int .i64) (.pair (.int .i64) (.pair .bool (.pair .bool .unit)))))))))))))
@[reducible] def T_Side : Ty := (.pair (.int .i64) (.pair (.int .i64) (.pair .bool .unit)))
@[reducible] def T_State : Ty := (.pair (.slice T_Piece) (.pair (.slice T_Side) (.pair (.int .i64) (.pair (.int .i64) .unit))))
@[reducible] def T_l1Cur : Ty := (.pair (.slice (.int .u8)) (.pair (.int .i64) (.pair (.int .i64) .unit)))
@[reducible] def T_S7 : Ty := (.pair (.int .i64) (.pair (.int .i64) (.pair .bool (.pair (.int .u8) .unit))))
def tab : Tab := [
  (3, ⟨.int .i64, 1, 0, (.int .i64), [.int .i64 0]⟩),
  (4, ⟨.bool, 1, 0, .bool, [.bool false]⟩),
  (5, ⟨.int .u8, 1, 0, (.int .u8), [.int .u8 0]⟩),
  (22, ⟨.slice 5, 1, 0, (.slice (.int .u8)), [.nil]⟩),
  (24, ⟨.struct [(0, 3), (1, 3), (2, 3), (3, 3), (4, 3), (5, 3), (6, 3)], 7, 0, T_Pat, [.int .i64 0, .int .i64 0, .int .i64 0, .int .i64 0, .int .i64 0, .int .i64 0, .int .i64 0]⟩),
  (25, ⟨.struct [(0, 3), (1, 3), (2, 3), (3, 3), (4, 3), (5, 3), (6, 3)], 7, 0, T_Pat, [.int .i64 0, .int .i64 0, .int .i64 0, .int .i64 0, .int .i64 0, .int .i64 0, .int .i64 0]⟩),
  (26, ⟨.struct [(0, 3), (1, 3)], 2, 0, T_Guard, [.int .i64 0, .int .i64 0]⟩),
  (27, ⟨.struct [(0, 3), (1, 3)], 2, 0, T_Guard, [.int .i64 0, .int .i64 0]⟩),
  (28, ⟨.slice 34, 1, 0, (.slice T_Event), [.nil]⟩),
  (29, ⟨.struct [(0, 3), (1, 3), (2, 3), (3, 3), (4, 3), (5, 4), (6, 28)], 7, 0, T_Act, [.int .i64 0, .int .i64 0, .int .i64 0, .int .i64 0, .int .i64 0, .bool false, .nil]⟩),
  (30, ⟨.struct [(0, 3), (1, 3), (2, 3), (3, 3), (4, 3), (5, 4), (6, 28)], 7, 0, T_Act, [.int .i64 0, .int .i64 0, .int .i64 0, .int .i64 0, .int .i64 0, .bool false, .nil]⟩),
  (31, ⟨.struct [(0, 3), (1, 3), (2, 3), (3, 3), (4, 25), (11, 27), (13, 30), (20, 3), (21, 3)], 22, 0, T_Effect, [.int .i64 0, .int .i64 0, .int .i64 0, .int .i64 0, .int .i64 0, .int .i64 0, .int .i64 0, .int .i64 0, .int .i64 0, .int .i64 0, .int .i64 0, .int .i64 0, .int .i64 0, .int .i64 0, .int .i64 0, .int .i64 0, .int .i64 0, .int .i64 0, .bool false, .nil, .int .i64 0, .int .i64 0]⟩),
  (32, ⟨.struct [(0, 3), (1, 3), (2, 3), (3, 3), (4, 25), (11, 27), (13, 30), (20, 3), (21, 3)], 22, 0, T_Effect, [.int .i64 0, .int .i64 0, .int .i64 0, .int .i64 0, .int .i64 0, .int .i64 0, .int .i64 0, .int .i64 0, .int .i64 0, .int .i64 0, .int .i64 0, .int .i64 0, .int .i64 0, .int .i64 0, .int .i64 0, .int .i64 0, .int .i64 0, .int .i64 0, .bool false, .nil, .int .i64 0, .int .i64 0]⟩),
  (33, ⟨.struct [(0, 3), (1, 3), (2, 3), (3, 3), (4, 3), (5, 3), (6, 4)], 7, 0, T_Event, [.int .i64 0, .int .i64 0, .int .i64 0, .int .i64 0, .int .i64 0, .int .i64 0, .bool false]⟩),
  (34, ⟨.struct [(0, 3), (1, 3), (2, 3), (3, 3), (4, 3), (5, 3), (6, 4)], 7, 0, T_Event, [.int .i64 0, .int .i64 0, .int .i64 0, .int .i64 0, .int .i64 0, .int .i64 0, .bool false]⟩),
  (42, ⟨.other, 1, 0, .unit, [.undef]⟩),
  (46, ⟨.other, 1, 0, .unit, [.undef]⟩),
  (48, ⟨.slice 79, 1, 0, (.slice T_Piece), [.nil]⟩),
  (49, ⟨.slice 77, 1, 0, (.slice T_Side), [.nil]⟩),
  (50, ⟨.struct [(0, 48), (1, 49), (2, 3), (3, 3)], 4, 0, T_State, [.nil, .nil, .int .i64 0, .int .i64 0]⟩),
  (51, ⟨.struct [(0, 48), (1, 49), (2, 3), (3, 3)], 4, 0, T_State, [.nil, .nil, .int .i64 0, .int .i64 0]⟩),
  (70, ⟨.struct [(0, 22), (1, 3), (2, 3)], 3, 0, T_l1Cur, [.nil, .int .i64 0, .int .i64 0]⟩),
  (71, ⟨.struct [(0, 22), (1, 3), (2, 3)], 3, 0, T_l1Cur, [.nil, .int .i64 0, .int .i64 0]⟩),
  (75, ⟨.slice 3, 1, 0, (.slice (.int .i64)), [.nil]⟩),
  (76, ⟨.struct [(0, 3), (1, 3), (2, 4)], 3, 0, T_Side, [.int .i64 0, .int .i64 0, .bool false]⟩),
  (77, ⟨.struct [(0, 3), (1, 3), (2, 4)], 3, 0, T_Side, [.int .i64 0, .int .i64 0, .bool false]⟩),
  (78, ⟨.struct [(0, 3), (1, 3), (2, 3), (3, 3), (4, 3), (5, 3), (6, 3), (7, 3), (8, 3), (9, 3), (10, 3), (11, 4), (12, 4)], 13, 0, T_Piece, [.int .i64 0, .int .i64 0, .int .i64 0, .int .i64 0, .int .i64 0, .int .i64 0, .int .i64 0, .int .i64 0, .int .i64 0, .int .i64 0, .int .i64 0, .bool false, .bool false]⟩),
  (79, ⟨.struct [(0, 3), (1, 3), (2, 3), (3, 3), (4, 3), (5, 3), (6, 3), (7, 3), (8, 3), (9, 3), (10, 3), (11, 4), (12, 4)], 13, 0, T_Piece, [.int .i64 0, .int .i64 0, .int .i64 0, .int .i64 0, .int .i64 0, .int .i64 0, .int .i64 0, .int .i64 0, .int .i64 0, .int .i64 0, .int .i64 0, .bool false, .bool false]⟩),
  (95, ⟨.int .u64, 1, 0, (.int .u64), [.int .u64 0]⟩)]
theorem tabOk : TabOk Try.prog tab := tabB_ok (by kernel_rfl)
theorem mixed : Try.prog.follows .mixedOrders = true := by kernel_rfl
/-! loop.example/g00486/laws.big -/
def laws_big (a0 : (List Int)) : Option Bool :=
 some (decide ((a0.length : Int) > 1048576))
def laws_big_c : Ct := .pure true false (.pair (.slice (.int .u8)) .unit) .bool (fun x => laws_big x.1)
theorem laws_big_ct : CtOk Try.prog 4 laws_big_c := pure_ct (E := { T := tab, G := [] }) (EnvOk.nil tabOk) mixed (fn := Try.f4) _ _ _ _ _ .none Try.func4 (by kernel_rfl) (fun x => by kernel_rfl)
/-! loop.example/g00486/spec.l1New -/
def spec_l1New_l1 (a0 : (List Int)) : (Int × Int) → Option ((Int × Int) ⊕ (Int × Int)) := fun s1 =>
((bif decide (s1.2 < (a0.length : Int)) then (
 some (decide (s1.2 < 4000)))
 else (
 some false)) : Option Bool).bind fun o2 =>
 bif o2 then (
 idx a0 s1.2 fun x3 =>
 let k4 : Int := IntKind.wrap .i64 ((IntKind.wrap .i64 (s1.1 * 137)) + (IntKind.wrap .i64 x3))
 let k5 : Int := IntKind.wrap .i64 (BitVec.ofInt (IntKind.bits .i64) (IntKind.wrap .i64 (k4 + 11)) &&& BitVec.ofInt (IntKind.bits .i64) 1073741823).toNat
 some (.inl (k5, IntKind.wrap .i64 (s1.2 + 1))))
 else (
 some (.inr s1))
def spec_l1New (a0 : (List Int)) : Option T_l1Cur.D :=
(while_ (spec_l1New_l1 a0) (IntKind.wrap .i64 (139871 + (a0.length : Int)), 0)).bind fun o6 =>
 some (a0, 0, o6.1, ())
def spec_l1New_h : Hints := (.node none none .none (.node none none .none (.node none none (.node none none .none (.node none none (.node none (some ⟨[.tmp 3 (.int .i64), .tmp 4 (.int .i64)], [some 0], none, []⟩) (.node none none (.node none none (.node (some ⟨[.tmp 15 .bool], [none], none, []⟩) none .none .none) .none) .none) .none) .none)) .none)))
def spec_l1New_c : Ct := .box (.pair (.slice (.int .u8)) .unit) T_l1Cur (fun x => spec_l1New x.1)
theorem spec_l1New_ct : CtOk Try.prog 17 spec_l1New_c := box_ct (E := { T := tab, G := [] }) (EnvOk.nil tabOk) mixed (fn := Try.f17) _ _ _ spec_l1New_h Try.func17 (by kernel_rfl) (fun x => by kernel_rfl)
/-! loop.example/g00486/spec.StateNew -/
def spec_StateNew (a0 : Int) : Option T_State.D :=
 bif (a0 == 3) then (
 if (([(20, 0, false, ()), (20, 0, false, ())] : List T_Side.D).length + ([(20, 0, false, ())] : List T_Side.D).length) * (24 * 3) ≤ room then (
 some ([], (([(20, 0, false, ()), (20, 0, false, ())] : List T_Side.D) ++ ([(20, 0, false, ())] : List T_Side.D)), 0, 0, ())) else none)
 else (
 some ([], ([(20, 0, false, ()), (20, 0, false, ())] : List T_Side.D), 0, 0, ()))
def spec_StateNew_c : Ct := .pure true false (.pair (.int .i64) .unit) T_State (fun x => spec_StateNew x.1)
theorem spec_StateNew_ct : CtOk Try.prog 49 spec_StateNew_c := pure_ct (E := { T := tab, G := [] }) (EnvOk.nil tabOk) mixed (fn := Try.f49) _ _ _ _ _ .none Try.func49 (by kernel_rfl) (fun x => by kernel_rfl)
def spec_StateNew_fresh_c : Ct := .pure true true (.pair (.int .i64) .unit) T_State (fun x => spec_StateNew x.1)
theorem spec_StateNew_fresh_ct : CtOk Try.prog 49 spec_StateNew_fresh_c := pure_ct (E := { T := tab, G := [] }) (EnvOk.nil tabOk) mixed (fn := Try.f49) _ _ _ _ _ .none Try.func49 (by kernel_rfl) (fun x => by kernel_rfl)
/-! loop.example/g00486/spec.l1Byte -/
def spec_l1Byte (a0 : T_l1Cur.D) : Option (Int × (T_l1Cur.D × Unit)) :=
 let k1 : Int := IntKind.wrap .i64 ((IntKind.wrap .i64 (a0.2.2.1 * 6364136223846793005)) + 1442695040888963407)
 if 0 ≤ 33 then (
 if 0 ≤ 47 then (
 let k2 : Int := IntKind.wrap .i64 (BitVec.ofInt (IntKind.bits .i64) (k1.fdiv (2 ^ min (33 : Int).toNat (IntKind.bits .i64))) ^^^ BitVec.ofInt (IntKind.bits .i64) (k1.fdiv (2 ^ min (47 : Int).toNat (IntKind.bits .i64)))).toNat
 let k3 : Int := IntKind.wrap .i64 (BitVec.ofInt (IntKind.bits .i64) k2 &&& BitVec.ofInt (IntKind.bits .i64) 255).toNat
 bif decide (a0.2.1 < (a0.1.length : Int)) then (
 idx a0.1 a0.2.1 fun x4 =>
 let k5 : Int := IntKind.wrap .i64 (BitVec.ofInt (IntKind.bits .i64) (IntKind.wrap .i64 (k3 + (IntKind.wrap .i64 x4))) &&& BitVec.ofInt (IntKind.bits .i64) 255).toNat
 some (k5, ((a0.1, IntKind.wrap .i64 (a0.2.1 + 1), k1, ()), ())))
 else (
 some (k3, ((a0.1, a0.2.1, k1, ()), ())))) else none) else none
def spec_l1Byte_c : Ct := .mut [.ptr] true true (.pair T_l1Cur .unit) (.int .i64) (fun x => spec_l1Byte x.1)
theorem spec_l1Byte_ct : CtOk Try.prog 79 spec_l1Byte_c := mut_ct (E := { T := tab, G := [] }) (EnvOk.nil tabOk) mixed (fn := Try.f79) _ _ _ _ _ _ .none Try.func79 (by kernel_rfl) (fun x => by kernel_rfl)
/-! loop.example/g00486/spec.l1Below -/
def spec_l1Below (a0 : T_l1Cur.D) (a1 : Int) : Option (Int × (T_l1Cur.D × Unit)) :=
 bif decide (a1 ≤ 0) then (
 some (0, (a0, ())))
 else (
 bif decide (a1 ≤ 256) then (
(spec_l1Byte a0).bind fun y1 =>
 if a1 = 0 then none else (
 some (y1.1.tmod a1, y1.2)))
 else (
(spec_l1Byte a0).bind fun y2 =>
(spec_l1Byte y2.2.1).bind fun y3 =>
(spec_l1Byte y3.2.1).bind fun y4 =>
 let k5 : Int := IntKind.wrap .i64 ((IntKind.wrap .i64 (y2.1 * 65536)) + (IntKind.wrap .i64 (y3.1 * 256)))
 if a1 = 0 then none else (
 some ((IntKind.wrap .i64 (k5 + y4.1)).tmod a1, y4.2))))
def spec_l1Below_c : Ct := .mut [.ptr, .rd] true true (.pair T_l1Cur (.pair (.int .i64) .unit)) (.int .i64) (fun x => spec_l1Below x.1 x.2.1)
theorem spec_l1Below_ct : CtOk Try.prog 50 spec_l1Below_c := mut_ct (E := { T := tab, G := [(79, spec_l1Byte_c)] }) (EnvOk.cons spec_l1Byte_ct (EnvOk.nil tabOk)) mixed (fn := Try.f50) _ _ _ _ _ _ .none Try.func50 (by kernel_rfl) (fun x => by kernel_rfl)
/-! loop.example/g00486/spec.l1Int -/
def spec_l1Int (a0 : T_l1Cur.D) (a1 : (List Int)) : Option (Int × (T_l1Cur.D × Unit)) :=
(spec_l1Below a0 (a1.length : Int)).bind fun y1 =>
 idx a1 y1.1 fun x2 =>
 some (x2, y1.2)
def spec_l1Int_c : Ct := .mut [.ptr, .rd] true true (.pair T_l1Cur (.pair (.slice (.int .i64)) .unit)) (.int .i64) (fun x => spec_l1Int x.1 x.2.1)
theorem spec_l1Int_ct : CtOk Try.prog 51 spec_l1Int_c := mut_ct (E := { T := tab, G := [(50, spec_l1Below_c)] }) (EnvOk.cons spec_l1Below_ct (EnvOk.nil tabOk)) mixed (fn := Try.f51) _ _ _ _ _ _ .none Try.func51 (by kernel_rfl) (fun x => by kernel_rfl)
/-! loop.example/g00486/spec.l1Once -/
def spec_l1Once (a0 : T_l1Cur.D) (a1 : Int) : Option (Bool × (T_l1Cur.D × Unit)) :=
(spec_l1Below a0 a1).bind fun y1 =>
 some ((y1.1 == 0), y1.2)
def spec_l1Once_c : Ct := .mut [.ptr, .rd] true true (.pair T_l1Cur (.pair (.int .i64) .unit)) .bool (fun x => spec_l1Once x.1 x.2.1)
theorem spec_l1Once_ct : CtOk Try.prog 59 spec_l1Once_c := mut_ct (E := { T := tab, G := [(50, spec_l1Below_c)] }) (EnvOk.cons spec_l1Below_ct (EnvOk.nil tabOk)) mixed (fn := Try.f59) _ _ _ _ _ _ .none Try.func59 (by kernel_rfl) (fun x => by kernel_rfl)
/-! loop.example/g00486/spec.l4Draw -/
def spec_l4Draw_l1 : (Int × (T_l1Cur.D × (Int × (Int × (Int × (Int × (Int × (Int × (Int × (Int × (Int × (Int × (Int × (Bool × (Bool × Unit))))))))))))))) → Option ((Int × (T_l1Cur.D × (Int × (Int × (Int × (Int × (Int × (Int × (Int × (Int × (Int × (Int × (Int × (Bool × (Bool × Unit))))))))))))))) ⊕ (Int × (T_l1Cur.D × (Int × (Int × (Int × (Int × (Int × (Int × (Int × (Int × (Int × (Int × (Int × (Bool × (Bool × Unit)))))))))))))))) := fun s8 =>
 bif decide (s8.1 < (([1, 2, 4, 8, 16, 32] : List Int).length : Int)) then (
 idx ([1, 2, 4, 8, 16, 32] : List Int) s8.1 fun _ =>
(([1, 2, 4, 8, 16, 32] : List Int)[(s8.1 : Int).toNat]?).bind fun x9 =>
(spec_l1Once s8.2.1 3).bind fun y10 =>
 bif y10.1 then (
 some (.inl (IntKind.wrap .i64 (s8.1 + 1), y10.2.1, s8.2.2.1, s8.2.2.2.1, s8.2.2.2.2.1, s8.2.2.2.2.2.1, s8.2.2.2.2.2.2.1, s8.2.2.2.2.2.2.2.1, s8.2.2.2.2.2.2.2.2.1, IntKind.wrap .i64 (s8.2.2.2.2.2.2.2.2.2.1 + x9), s8.2.2.2.2.2.2.2.2.2.2)))
 else (
 some (.inl (IntKind.wrap .i64 (s8.1 + 1), y10.2.1, s8.2.2))))
 else (
 some (.inr s8))
def spec_l4Draw (a0 : T_l1Cur.D) (a1 : Int) : Option (T_Piece.D × (T_l1Cur.D × Unit)) :=
(spec_l1Below a0 2).bind fun y1 =>
(spec_l1Int y1.2.1 ([2, 2, 2, 1, 3] : List Int)).bind fun y2 =>
(spec_l1Below y2.2.1 3).bind fun y3 =>
(spec_l1Below y3.2.1 5).bind fun y4 =>
(spec_l1Below y4.2.1 5).bind fun y5 =>
(while_ (spec_l4Draw_l1) (0, y5.2.1, a1, y1.1, y1.1, y2.1, y3.1, y4.1, IntKind.wrap .i64 (1 + y5.1), 0, 0, 0, 0, false, false, ())).bind fun o11 =>
 bif (o11.2.2.2.2.2.1 != 2) then (
 some (o11.2.2, (o11.2.1, ())))
 else (
(spec_l1Once o11.2.1 4).bind fun y12 =>
((bif y12.1 then (
 some (o11.2.2.1, o11.2.2.2.1, IntKind.wrap .i64 (1 - o11.2.2.2.1), o11.2.2.2.2.2))
 else (
 some o11.2.2)) : Option T_Piece.D).bind fun o13 =>
(spec_l1Int y12.2.1 ([0, 0, 1, 2] : List Int)).bind fun y14 =>
(spec_l1Int y14.2.1 ([0, 0, 0, 1] : List Int)).bind fun y15 =>
(spec_l1Int y15.2.1 ([0, 0, 1] : List Int)).bind fun y16 =>
(spec_l1Once y16.2.1 4).bind fun y17 =>
 some ((o13.1, o13.2.1, o13.2.2.1, o13.2.2.2.1, o13.2.2.2.2.1, o13.2.2.2.2.2.1, o13.2.2.2.2.2.2.1, o13.2.2.2.2.2.2.2.1, y14.1, y15.1, y16.1, o13.2.2.2.2.2.2.2.2.2.2.2.1, y17.1, ()), y17.2))
def spec_l4Draw_h : Hints := (.node none none .none (.node none none .none (.node none none .none (.node none none (.node none none .none (.node none none (.node none (some ⟨[.tmp 27 (.int .i64), .box 0 0 T_l1Cur, .box 5 0 T_Piece], [some 0], none, []⟩) .none .none) .none)) (.node none none .none (.node none none (.node none none .none (.node (some ⟨[.box 5 0 T_Piece], [none], none, [(5, 0)]⟩) none .none .none)) .none))))))
def spec_l4Draw_c : Ct := .mut [.ptr, .rd] true true (.pair T_l1Cur (.pair (.int .i64) .unit)) T_Piece (fun x => spec_l4Draw x.1 x.2.1)
theorem spec_l4Draw_ct : CtOk Try.prog 52 spec_l4Draw_c := mut_ct (E := { T := tab, G := [(50, spec_l1Below_c), (51, spec_l1Int_c), (59, spec_l1Once_c)], V := [12, 50, 54, 58] }) (EnvOk.views (EnvOk.cons spec_l1Below_ct (EnvOk.cons spec_l1Int_ct (EnvOk.cons spec_l1Once_ct (EnvOk.nil tabOk))))) mixed (fn := Try.f52) _ _ _ _ _ _ spec_l4Draw_h Try.func52 (by kernel_rfl) (fun x => by kernel_rfl)
/-! loop.example/g00486/spec.l5Draw -/
def spec_l5Draw_l1 : (Int × (T_l1Cur.D × ((List T_Piece.D) × ((List T_Side.D) × (Int × (Int × Unit)))))) → Option ((Int × (T_l1Cur.D × ((List T_Piece.D) × ((List T_Side.D) × (Int × (Int × Unit)))))) ⊕ (Int × (T_l1Cur.D × ((List T_Piece.D) × ((List T_Side.D) × (Int × (Int × Unit))))))) := fun s6 =>
 bif decide (s6.1 < 2) then (
(spec_l1Int s6.2.1 ([20, 20, 3, 1, 10] : List Int)).bind fun y7 =>
 idx s6.2.2.2.1 s6.1 fun _ =>
(s6.2.2.2.1[(s6.1 : Int).toNat]?).bind fun x8 =>
 let u9 : (List T_Side.D) := s6.2.2.2.1.set (s6.1 : Int).toNat (y7.1, x8.2)
(spec_l1Int y7.2.1 ([0, 0, 8, 1] : List Int)).bind fun y10 =>
 idx u9 s6.1 fun _ =>
(u9[(s6.1 : Int).toNat]?).bind fun x11 =>
 let u12 : (List T_Side.D) := u9.set (s6.1 : Int).toNat (x11.1, y10.1, x11.2.2)
 some (.inl (IntKind.wrap .i64 (s6.1 + 1), y10.2.1, s6.2.2.1, u12, s6.2.2.2.2)))
 else (
 some (.inr s6))
def spec_l5Draw_l2 : (Int × (Int × (T_l1Cur.D × ((List T_Piece.D) × ((List T_Side.D) × (Int × (Int × Unit))))))) → Option ((Int × (Int × (T_l1Cur.D × ((List T_Piece.D) × ((List T_Side.D) × (Int × (Int × Unit))))))) ⊕ (Int × (Int × (T_l1Cur.D × ((List T_Piece.D) × ((List T_Side.D) × (Int × (Int × Unit)))))))) := fun s17 =>
 bif decide (s17.2.1 > 0) then (
(spec_l1Below s17.2.2.1 2).bind fun y18 =>
(spec_l4Draw y18.2.1 (IntKind.wrap .i64 ((IntKind.wrap .i64 (s17.1 + 1)) + y18.1))).bind fun y19 =>
 if (s17.2.2.2.1.length + [y19.1].length) * (24 * 13) ≤ room then (
 some (.inl (IntKind.wrap .i64 ((IntKind.wrap .i64 (s17.1 + 1)) + y18.1), IntKind.wrap .i64 (s17.2.1 - 1), y19.2.1, (s17.2.2.2.1 ++ [y19.1]), s17.2.2.2.2))) else none)
 else (
 some (.inr s17))
def spec_l5Draw (a0 : T_l1Cur.D) : Option (T_State.D × (T_l1Cur.D × Unit)) :=
(spec_StateNew 2).bind fun y1 =>
(spec_l1Below a0 3).bind fun y2 =>
(spec_l1Below y2.2.1 2).bind fun y3 =>
(while_ (spec_l5Draw_l1) (0, y3.2.1, y1.1, y1.2.1, y3.1, IntKind.wrap .i64 (2 + y2.1), ())).bind fun o13 =>
(spec_l1Below o13.2.1 5).bind fun y14 =>
(while_ (spec_l5Draw_l2) (0, IntKind.wrap .i64 (1 + y14.1), y14.2.1, o13.2.2)).bind fun o20 =>
 some (o20.2.2.2, (o20.2.2.1, ()))
def spec_l5Draw_h : Hints := (.node none none .none (.node none none .none (.node none none .none (.node none none .none (.node none none (.node none none .none (.node none none (.node none (some ⟨[.tmp 4 (.int .i64), .box 0 0 T_l1Cur, .boxO 3 0 1 T_State], [some 0], none, []⟩) .none .none) .none)) (.node none none .none (.node none none (.node none none .none (.node none none (.node none (some ⟨[.tmp 5 (.int .i64), .tmp 6 (.int .i64), .box 0 0 T_l1Cur, .boxO 3 0 3 T_State], [some 2], none, []⟩) .none .none) .none)) .none)))))))
def spec_l5Draw_c : Ct := .mut [.ptr] true false (.pair T_l1Cur .unit) T_State (fun x => spec_l5Draw x.1)
theorem spec_l5Draw_ct : CtOk Try.prog 18 spec_l5Draw_c := mut_ct (E := { T := tab, G := [(49, spec_StateNew_fresh_c), (50, spec_l1Below_c), (51, spec_l1Int_c), (52, spec_l4Draw_c)], V := [24, 32] }) (EnvOk.views (EnvOk.cons spec_StateNew_fresh_ct (EnvOk.cons spec_l1Below_ct (EnvOk.cons spec_l1Int_ct (EnvOk.cons spec_l4Draw_ct (EnvOk.nil tabOk)))))) mixed (fn := Try.f18) _ _ _ _ _ _ spec_l5Draw_h Try.func18 (by kernel_rfl) (fun x => by kernel_rfl)
def spec_l5Draw_fresh_c : Ct := .mut [.ptr] true true (.pair T_l1Cur .unit) T_State (fun x => spec_l5Draw x.1)
theorem spec_l5Draw_fresh_ct : CtOk Try.prog 18 spec_l5Draw_fresh_c := mut_ct (E := { T := tab, G := [(49, spec_StateNew_fresh_c), (50, spec_l1Below_c), (51, spec_l1Int_c), (52, spec_l4Draw_c)], V := [24, 32] }) (EnvOk.views (EnvOk.cons spec_StateNew_fresh_ct (EnvOk.cons spec_l1Below_ct (EnvOk.cons spec_l1Int_ct (EnvOk.cons spec_l4Draw_ct (EnvOk.nil tabOk)))))) mixed (fn := Try.f18) _ _ _ _ _ _ spec_l5Draw_h Try.func18 (by kernel_rfl) (fun x => by kernel_rfl)
/-! loop.example/g00486/spec.l6Id -/
def spec_l6Id (a0 : T_l1Cur.D) (a1 : T_State.D) : Option (Int × (T_l1Cur.D × Unit)) :=
((bif ((a1.1.length : Int) == 0) then (
 some (true, a0))
 else (
(spec_l1Once a0 8).bind fun y1 =>
 some (y1.1, y1.2.1))) : Option (Bool × ((List Int) × (Int × (Int × Unit))))).bind fun o2 =>
 bif o2.1 then (
(spec_l1Below o2.2 9).bind fun y3 =>
 some (IntKind.wrap .i64 (1 + y3.1), y3.2))
 else (
(spec_l1Below o2.2 (a1.1.length : Int)).bind fun y4 =>
 idx a1.1 y4.1 fun x5 =>
 some (x5.1, y4.2))
def spec_l6Id_h : Hints := (.node none none .none (.node none none (.node none none (.node (some ⟨[.tmp 12 .bool, .box 0 0 T_l1Cur], [none], none, [(0, 0)]⟩) none .none .none) .none) .none))
def spec_l6Id_c : Ct := .mut [.ptr, .rd] true true (.pair T_l1Cur (.pair T_State .unit)) (.int .i64) (fun x => spec_l6Id x.1 x.2.1)
theorem spec_l6Id_ct : CtOk Try.prog 58 spec_l6Id_c := mut_ct (E := { T := tab, G := [(50, spec_l1Below_c), (59, spec_l1Once_c)] }) (EnvOk.cons spec_l1Below_ct (EnvOk.cons spec_l1Once_ct (EnvOk.nil tabOk))) mixed (fn := Try.f58) _ _ _ _ _ _ spec_l6Id_h Try.func58 (by kernel_rfl) (fun x => by kernel_rfl)
/-! loop.example/g00486/spec.l7Draw -/
def spec_l7Draw (a0 : T_l1Cur.D) (a1 : T_State.D) : Option (T_Pat.D × (T_l1Cur.D × Unit)) :=
(spec_l1Int a0 ([1, 1, 1, 1, 2, 2, 3, 4, 5, 6] : List Int)).bind fun y1 =>
(spec_l1Int y1.2.1 ([0, 0, 1, 2] : List Int)).bind fun y2 =>
(spec_l1Once y2.2.1 4).bind fun y3 =>
((bif y3.1 then (
(spec_l1Int y3.2.1 ([1, 2, 3] : List Int)).bind fun y4 =>
 some (y4.2.1, y1.1, y2.1, 0, 0, 0, y4.1, 0, ()))
 else (
 some (y3.2.1, y1.1, y2.1, 0, 0, 0, 0, 0, ()))) : Option (T_l1Cur.D × (Int × (Int × (Int × (Int × (Int × (Int × (Int × Unit))))))))).bind fun o5 =>
((bif (o5.2.1 == 1) then (
(spec_l1Once o5.1 5).bind fun y6 =>
((bif y6.1 then (
(spec_l6Id y6.2.1 a1).bind fun y7 =>
 some (y7.2.1, o5.2.1, o5.2.2.1, y7.1, o5.2.2.2.2))
 else (
 some (y6.2.1, o5.2))) : Option (T_l1Cur.D × (Int × (Int × (Int × (Int × (Int × (Int × (Int × Unit))))))))).bind fun o8 =>
(spec_l1Once o8.1 5).bind fun y9 =>
((bif y9.1 then (
(spec_l1Int y9.2.1 ([1, 2, 4, 3] : List Int)).bind fun y10 =>
 some (y10.2.1, o8.2.1, o8.2.2.1, o8.2.2.2.1, y10.1, o8.2.2.2.2.2))
 else (
 some (y9.2.1, o8.2))) : Option (T_l1Cur.D × (Int × (Int × (Int × (Int × (Int × (Int × (Int × Unit))))))))).bind fun o11 =>
 some o11)
 else (
((bif (o5.2.1 == 2) then (
(spec_l1Int o5.1 ([0, 3, 2] : List Int)).bind fun y12 =>
 some (y12.2.1, o5.2.1, o5.2.2.1, o5.2.2.2.1, o5.2.2.2.2.1, o5.2.2.2.2.2.1, 0, y12.1, ()))
 else (
 some o5)) : Option (T_l1Cur.D × (Int × (Int × (Int × (Int × (Int × (Int × (Int × Unit))))))))).bind fun o13 =>
 some o13)) : Option (T_l1Cur.D × (Int × (Int × (Int × (Int × (Int × (Int × (Int × Unit))))))))).bind fun o14 =>
((bif (o14.2.1 != 3) then (
 bif (o14.2.1 != 4) then (
(spec_l1Once o14.1 5).bind fun y15 =>
 some (y15.1, y15.2.1))
 else (
 some (false, o14.1)))
 else (
 some (false, o14.1))) : Option (Bool × ((List Int) × (Int × (Int × Unit))))).bind fun o16 =>
 bif o16.1 then (
(spec_l6Id o16.2 a1).bind fun y17 =>
 some ((o14.2.1, o14.2.2.1, o14.2.2.2.1, o14.2.2.2.2.1, y17.1, o14.2.2.2.2.2.2), y17.2))
 else (
 some (o14.2, (o16.2, ())))
def spec_l7Draw_h : Hints := (.node none none .none (.node none none .none (.node none none (.node none none .none (.node (some ⟨[.box 0 0 T_l1Cur, .box 5 0 T_Pat], [none], none, [(0, 0), (5, 0)]⟩) none .none .none)) (.node none none (.node none none .none (.node none none (.node none none .none (.node (some ⟨[.box 0 0 T_l1Cur, .box 5 0 T_Pat], [none], none, [(0, 0), (5, 0)]⟩) none (.node none none (.node none none .none (.node (some ⟨[.box 0 0 T_l1Cur, .box 5 0 T_Pat], [none], none, [(0, 0), (5, 0)]⟩) none .none .none)) (.node none none .none (.node (some ⟨[.box 0 0 T_l1Cur, .box 5 0 T_Pat], [none], none, [(0, 0), (5, 0)]⟩) none .none .none))) (.node none none .none (.node (some ⟨[.box 0 0 T_l1Cur, .box 5 0 T_Pat], [none], none, [(0, 0), (5, 0)]⟩) none .none .none)))) .none)) (.node none none (.node none none (.node (some ⟨[.tmp 53 .bool, .box 0 0 T_l1Cur], [none], none, [(0, 0)]⟩) none .none .none) .none) .none)))))
def spec_l7Draw_c : Ct := .mut [.ptr, .rd] true true (.pair T_l1Cur (.pair T_State .unit)) T_Pat (fun x => spec_l7Draw x.1 x.2.1)
theorem spec_l7Draw_ct : CtOk Try.prog 80 spec_l7Draw_c := mut_ct (E := { T := tab, G := [(51, spec_l1Int_c), (58, spec_l6Id_c), (59, spec_l1Once_c)], V := [7, 10, 16, 32, 38] }) (EnvOk.views (EnvOk.cons spec_l1Int_ct (EnvOk.cons spec_l6Id_ct (EnvOk.cons spec_l1Once_ct (EnvOk.nil tabOk))))) mixed (fn := Try.f80) _ _ _ _ _ _ spec_l7Draw_h Try.func80 (by kernel_rfl) (fun x => by kernel_rfl)
/-! loop.example/g00486/spec.l8Draw -/
def spec_l8Draw (a0 : T_l1Cur.D) : Option (T_Guard.D × (T_l1Cur.D × Unit)) :=
(spec_l1Once a0 3).bind fun y1 =>
 bif (!y1.1) then (
 some ((0, 0, ()), y1.2))
 else (
(spec_l1Below y1.2.1 4).bind fun y2 =>
 bif ((IntKind.wrap .i64 (1 + y2.1)) == 1) then (
(spec_l1Int y2.2.1 ([3, 10, 20, 1] : List Int)).bind fun y3 =>
 some ((IntKind.wrap .i64 (1 + y2.1), y3.1, ()), y3.2))
 else (
((bif ((IntKind.wrap .i64 (1 + y2.1)) == 2) then (
 some ((IntKind.wrap .i64 (1 + y2.1)) == 2))
 else (
 some ((IntKind.wrap .i64 (1 + y2.1)) == 4))) : Option Bool).bind fun o4 =>
 bif o4 then (
(spec_l1Int y2.2.1 ([0, 1, 2] : List Int)).bind fun y5 =>
 some ((IntKind.wrap .i64 (1 + y2.1), y5.1, ()), y5.2))
 else (
 some ((IntKind.wrap .i64 (1 + y2.1), 0, ()), y2.2))))
def spec_l8Draw_h : Hints := (.node none none .none (.node none none .none (.node none none .none (.node none none (.node none none .none (.node none none (.node none none .none (.node none none .none (.node none none (.node none none .none (.node (some ⟨[.tmp 20 .bool], [none], none, []⟩) none .none .none)) .none))) .none)) .none))))
def spec_l8Draw_c : Ct := .mut [.ptr] true true (.pair T_l1Cur .unit) T_Guard (fun x => spec_l8Draw x.1)
theorem spec_l8Draw_ct : CtOk Try.prog 81 spec_l8Draw_c := mut_ct (E := { T := tab, G := [(50, spec_l1Below_c), (51, spec_l1Int_c), (59, spec_l1Once_c)], V := [17, 24] }) (EnvOk.views (EnvOk.cons spec_l1Below_ct (EnvOk.cons spec_l1Int_ct (EnvOk.cons spec_l1Once_ct (EnvOk.nil tabOk))))) mixed (fn := Try.f81) _ _ _ _ _ _ spec_l8Draw_h Try.func81 (by kernel_rfl) (fun x => by kernel_rfl)
/-! loop.example/g00486/spec.l1In -/
def spec_l1In (a0 : Int) (a1 : Int) (a2 : Int) : Option Bool :=
 bif decide (a0 ≥ a1) then (
 some (decide (a0 ≤ a2)))
 else (
 some false)
def spec_l1In_c : Ct := .pure true false (.pair (.int .i64) (.pair (.int .i64) (.pair (.int .i64) .unit))) .bool (fun x => spec_l1In x.1 x.2.1 x.2.2.1)
theorem spec_l1In_ct : CtOk Try.prog 66 spec_l1In_c := pure_ct (E := { T := tab, G := [] }) (EnvOk.nil tabOk) mixed (fn := Try.f66) _ _ _ _ _ .none Try.func66 (by kernel_rfl) (fun x => by kernel_rfl)
/-! loop.example/g00486/spec.ActFits -/
def spec_ActFits (a0 : T_Act.D) (a1 : Int) : Option Bool :=
(spec_l1In a1 1 6).bind fun y1 =>
 bif (!y1) then (
 some false)
 else (
((bif (a0.1 == 2) then (
 some (a0.1 == 2))
 else (
 some (a0.1 == 6))) : Option Bool).bind fun o2 =>
 bif o2 then (
 some (a1 == 1))
 else (
((bif (a0.1 == 3) then (
 some (a0.1 == 3))
 else (
((bif (a0.1 == 4) then (
 some (a0.1 == 4))
 else (
 some (a0.1 == 5))) : Option Bool).bind fun o3 =>
 some o3)) : Option Bool).bind fun o4 =>
 bif o4 then (
 some (a1 != 2))
 else (
((bif (a0.1 == 7) then (
 some (a0.1 == 7))
 else (
 some (a0.1 == 8))) : Option Bool).bind fun o5 =>
 bif o5 then (
 some (a1 == 2))
 else (
 bif (a0.1 == 1) then (
 some true)
 else (
 some (a0.1 == 9))))))
def spec_ActFits_h : Hints := (.node none none .none (.node none none .none (.node none none (.node none none .none (.node none none (.node none none (.node none none .none (.node (some ⟨[.tmp 10 .bool], [none], none, []⟩) none .none .none)) (.node none none .none (.node none none (.node none none .none (.node (some ⟨[.tmp 15 .bool], [none], none, []⟩) none .none (.node none none .none (.node (some ⟨[.tmp 15 .bool], [none], none, []⟩) none .none .none)))) (.node none none .none (.node none none (.node none none .none (.node (some ⟨[.tmp 21 .bool], [none], none, []⟩) none .none .none)) .none))))) .none)) .none)))
def spec_ActFits_c : Ct := .pure true false (.pair T_Act (.pair (.int .i64) .unit)) .bool (fun x => spec_ActFits x.1 x.2.1)
theorem spec_ActFits_ct : CtOk Try.prog 29 spec_ActFits_c := pure_ct (E := { T := tab, G := [(66, spec_l1In_c)] }) (EnvOk.cons spec_l1In_ct (EnvOk.nil tabOk)) mixed (fn := Try.f29) _ _ _ _ _ spec_ActFits_h Try.func29 (by kernel_rfl) (fun x => by kernel_rfl)
/-! loop.example/g00486/spec.l6Draw -/
def spec_l6Draw (a0 : T_l1Cur.D) (a1 : T_State.D) : Option (T_Event.D × (T_l1Cur.D × Unit)) :=
(spec_l1Int a0 ([1, 1, 1, 2, 2, 3, 4, 5, 6] : List Int)).bind fun y1 =>
(spec_l1Int y1.2.1 ([1, 2, 3, 5, 0, 8, 2147483647] : List Int)).bind fun y2 =>
 bif (y1.1 == 1) then (
(spec_l6Id y2.2.1 a1).bind fun y3 =>
(spec_l1Once y3.2.1 2).bind fun y4 =>
 bif y4.1 then (
(spec_l1Below y4.2.1 2).bind fun y5 =>
 some ((y1.1, y3.1, 0, y5.1, y2.1, 0, false, ()), y5.2))
 else (
(spec_l6Id y4.2.1 a1).bind fun y6 =>
 some ((y1.1, y3.1, y6.1, (-1), y2.1, 0, false, ()), y6.2)))
 else (
 bif (y1.1 == 2) then (
(spec_l6Id y2.2.1 a1).bind fun y7 =>
(spec_l1Int y7.2.1 ([3, 3, 1, 2, 4] : List Int)).bind fun y8 =>
 bif (y8.1 == 2) then (
(spec_l1Int y8.2.1 ([0, 0, 1, 2] : List Int)).bind fun y9 =>
(spec_l1Once y9.2.1 3).bind fun y10 =>
 some ((y1.1, 0, y7.1, (-1), y9.1, y8.1, y10.1, ()), y10.2))
 else (
 some ((y1.1, 0, y7.1, (-1), 0, y8.1, false, ()), y8.2)))
 else (
((bif (y1.1 == 3) then (
 some (y1.1 == 3))
 else (
 some (y1.1 == 4))) : Option Bool).bind fun o11 =>
 bif o11 then (
(spec_l1Below y2.2.1 2).bind fun y12 =>
 some ((y1.1, 0, 0, y12.1, y2.1, 0, false, ()), y12.2))
 else (
(spec_l6Id y2.2.1 a1).bind fun y13 =>
 some ((y1.1, 0, y13.1, (-1), y2.1, 0, false, ()), y13.2))))
def spec_l6Draw_h : Hints := (.node none none .none (.node none none .none (.node none none .none (.node none none (.node none none .none (.node none none (.node none none .none (.node none none .none (.node none none .none (.node none none .none (.node none none (.node none none .none (.node (some ⟨[.tmp 56 .bool], [none], none, []⟩) none .none .none)) .none))))) .none)) .none))))
def spec_l6Draw_c : Ct := .mut [.ptr, .rd] true true (.pair T_l1Cur (.pair T_State .unit)) T_Event (fun x => spec_l6Draw x.1 x.2.1)
theorem spec_l6Draw_ct : CtOk Try.prog 21 spec_l6Draw_c := mut_ct (E := { T := tab, G := [(50, spec_l1Below_c), (51, spec_l1Int_c), (58, spec_l6Id_c), (59, spec_l1Once_c)], V := [7, 11, 43, 50] }) (EnvOk.views (EnvOk.cons spec_l1Below_ct (EnvOk.cons spec_l1Int_ct (EnvOk.cons spec_l6Id_ct (EnvOk.cons spec_l1Once_ct (EnvOk.nil tabOk)))))) mixed (fn := Try.f21) _ _ _ _ _ _ spec_l6Draw_h Try.func21 (by kernel_rfl) (fun x => by kernel_rfl)
/-! loop.example/g00486/spec.l9Draw -/
def spec_l9Draw_l1 (a2 : Int) : (Int × (T_l1Cur.D × (Int × (Int × (Int × (Int × (Int × (Bool × ((List T_Event.D) × Unit))))))))) → Option ((Int × (T_l1Cur.D × (Int × (Int × (Int × (Int × (Int × (Bool × ((List T_Event.D) × Unit))))))))) ⊕ (Int × (T_l1Cur.D × (Int × (Int × (Int × (Int × (Int × (Bool × ((List T_Event.D) × Unit)))))))))) := fun s4 =>
((bif decide (s4.1 < 6) then (
(spec_ActFits s4.2.2 a2).bind fun y5 =>
 some (!y5))
 else (
 some false)) : Option Bool).bind fun o6 =>
 bif o6 then (
(spec_l1Below s4.2.1 9).bind fun y7 =>
 some (.inl (IntKind.wrap .i64 (s4.1 + 1), y7.2.1, IntKind.wrap .i64 (1 + y7.1), s4.2.2.2)))
 else (
 some (.inr s4))
def spec_l9Draw_l2 (a1 : T_State.D) : (Int × (T_l1Cur.D × (Int × (Int × (Int × (Int × (Int × (Bool × ((List T_Event.D) × Unit))))))))) → Option ((Int × (T_l1Cur.D × (Int × (Int × (Int × (Int × (Int × (Bool × ((List T_Event.D) × Unit))))))))) ⊕ (Int × (T_l1Cur.D × (Int × (Int × (Int × (Int × (Int × (Bool × ((List T_Event.D) × Unit)))))))))) := fun s21 =>
 bif decide (s21.1 > 0) then (
(spec_l6Draw s21.2.1 a1).bind fun y22 =>
((bif (y22.1.1 != 2) then (
(spec_l1Once y22.2.1 2).bind fun y23 =>
 some (y23.1, y23.2.1))
 else (
 some (false, y22.2.1))) : Option (Bool × ((List Int) × (Int × (Int × Unit))))).bind fun o24 =>
((bif o24.1 then (
 some (y22.1.1, y22.1.2.1, y22.1.2.2.1, y22.1.2.2.2.1, (-1), y22.1.2.2.2.2.2))
 else (
 some y22.1)) : Option T_Event.D).bind fun o25 =>
 if (s21.2.2.2.2.2.2.2.2.1.length + [o25].length) * (24 * 7) ≤ room then (
 some (.inl (IntKind.wrap .i64 (s21.1 - 1), o24.2, s21.2.2.1, s21.2.2.2.1, s21.2.2.2.2.1, s21.2.2.2.2.2.1, s21.2.2.2.2.2.2.1, s21.2.2.2.2.2.2.2.1, (s21.2.2.2.2.2.2.2.2.1 ++ [o25]), ()))) else none)
 else (
 some (.inr s21))
def spec_l9Draw (a0 : T_l1Cur.D) (a1 : T_State.D) (a2 : Int) : Option (T_Act.D × (T_l1Cur.D × Unit)) :=
(spec_l1Int a0 ([1, 2, 2, 3, 3, 4, 5, 6, 6, 7, 8, 8, 9, 9] : List Int)).bind fun y1 =>
(while_ (spec_l9Draw_l1 a2) (0, y1.2.1, y1.1, 0, 0, (-1), 0, false, [], ())).bind fun o8 =>
(spec_ActFits o8.2.2 a2).bind fun y9 =>
((bif (!y9) then (
 some (1, o8.2.2.2))
 else (
 some o8.2.2)) : Option T_Act.D).bind fun o10 =>
 bif (o10.1 == 3) then (
(spec_l1Int o8.2.1 ([1, 2, 5, 2147483647] : List Int)).bind fun y11 =>
 some ((o10.1, y11.1, o10.2.2), y11.2))
 else (
 bif (o10.1 == 6) then (
(spec_l1Once o8.2.1 2).bind fun y12 =>
 bif y12.1 then (
(spec_l1Below y12.2.1 2).bind fun y13 =>
 some ((o10.1, o10.2.1, o10.2.2.1, y13.1, o10.2.2.2.2), y13.2))
 else (
(spec_l6Id y12.2.1 a1).bind fun y14 =>
 some ((o10.1, o10.2.1, y14.1, o10.2.2.2), y14.2)))
 else (
 bif (o10.1 == 7) then (
(spec_l1Int o8.2.1 ([1, 4, 3, 2] : List Int)).bind fun y15 =>
 some ((o10.1, o10.2.1, o10.2.2.1, o10.2.2.2.1, y15.1, o10.2.2.2.2.2), y15.2))
 else (
 bif (o10.1 == 8) then (
(spec_l1Below o8.2.1 3).bind fun y16 =>
(spec_l1Once y16.2.1 3).bind fun y17 =>
 some ((o10.1, y16.1, o10.2.2.1, o10.2.2.2.1, o10.2.2.2.2.1, y17.1, o10.2.2.2.2.2.2), y17.2))
 else (
 bif (o10.1 == 9) then (
(spec_l1Below o8.2.1 2).bind fun y18 =>
(while_ (spec_l9Draw_l2 a1) (IntKind.wrap .i64 (1 + y18.1), y18.2.1, o10)).bind fun o26 =>
 some (o26.2.2, (o26.2.1, ())))
 else (
 some (o10, (o8.2.1, ())))))))
def spec_l9Draw_h : Hints := (.node none none .none (.node none none .none (.node none none (.node none none .none (.node none none (.node none (some ⟨[.tmp 8 (.int .i64), .box 0 0 T_l1Cur, .boxO 7 0 1 T_Act], [some 0], none, []⟩) (.node none none (.node none none (.node (some ⟨[.tmp 22 .bool], [none], none, []⟩) none .none .none) .none) .none) .none) .none)) (.node none none (.node none none .none (.node (some ⟨[.boxO 7 0 2 T_Act], [none], none, [(7, 0), (7, 1)]⟩) none .none .none)) (.node none none (.node none none .none (.node none none (.node none none .none (.node none none .none (.node none none .none (.node none none .none (.node none none .none (.node none none .none (.node none none .none (.node none none .none (.node none none .none (.node none none (.node none none .none (.node none none (.node none (some ⟨[.tmp 9 (.int .i64), .box 0 0 T_l1Cur, .boxO 7 0 3 T_Act], [some 3], none, []⟩) (.node none none .none (.node none none (.node none none (.node none none .none (.node none none (.node none none (.node (some ⟨[.tmp 85 .bool, .box 0 0 T_l1Cur], [none], none, [(0, 0)]⟩) none .none .none) (.node (some ⟨[.box 10 0 T_Event], [none], none, [(10, 0)]⟩) none .none .none)) .none)) .none) .none)) .none) .none)) .none)))))))))) .none)) .none)))))
def spec_l9Draw_c : Ct := .mut [.ptr, .rd, .rd] true false (.pair T_l1Cur (.pair T_State (.pair (.int .i64) .unit))) T_Act (fun x => spec_l9Draw x.1 x.2.1 x.2.2.1)
theorem spec_l9Draw_ct : CtOk Try.prog 82 spec_l9Draw_c := mut_ct (E := { T := tab, G := [(21, spec_l6Draw_c), (29, spec_ActFits_c), (50, spec_l1Below_c), (51, spec_l1Int_c), (58, spec_l6Id_c), (59, spec_l1Once_c)], V := [12, 39, 56] }) (EnvOk.views (EnvOk.cons spec_l6Draw_ct (EnvOk.cons spec_ActFits_ct (EnvOk.cons spec_l1Below_ct (EnvOk.cons spec_l1Int_ct (EnvOk.cons spec_l6Id_ct (EnvOk.cons spec_l1Once_ct (EnvOk.nil tabOk)))))))) mixed (fn := Try.f82) _ _ _ _ _ _ spec_l9Draw_h Try.func82 (by kernel_rfl) (fun x => by kernel_rfl)
def spec_l9Draw_fresh_c : Ct := .mut [.ptr, .rd, .rd] true true (.pair T_l1Cur (.pair T_State (.pair (.int .i64) .unit))) T_Act (fun x => spec_l9Draw x.1 x.2.1 x.2.2.1)
theorem spec_l9Draw_fresh_ct : CtOk Try.prog 82 spec_l9Draw_fresh_c := mut_ct (E := { T := tab, G := [(21, spec_l6Draw_c), (29, spec_ActFits_c), (50, spec_l1Below_c), (51, spec_l1Int_c), (58, spec_l6Id_c), (59, spec_l1Once_c)], V := [12, 39, 56] }) (EnvOk.views (EnvOk.cons spec_l6Draw_ct (EnvOk.cons spec_ActFits_ct (EnvOk.cons spec_l1Below_ct (EnvOk.cons spec_l1Int_ct (EnvOk.cons spec_l6Id_ct (EnvOk.cons spec_l1Once_ct (EnvOk.nil tabOk)))))))) mixed (fn := Try.f82) _ _ _ _ _ _ spec_l9Draw_h Try.func82 (by kernel_rfl) (fun x => by kernel_rfl)
/-! loop.example/g00486/spec.l10Draw -/
def spec_l10Draw (a0 : T_l1Cur.D) (a1 : T_State.D) (a2 : Int) : Option (T_Effect.D × (T_l1Cur.D × Unit)) :=
(spec_l1Below a0 2).bind fun y1 =>
(spec_l1Int y1.2.1 ([4, 4, 4, 1, 2, 3, 0] : List Int)).bind fun y2 =>
((bif (y2.1 == 0) then (
 some (true, y2.2.1))
 else (
(spec_l1Once y2.2.1 3).bind fun y3 =>
 some (y3.1, y3.2.1))) : Option (Bool × ((List Int) × (Int × (Int × Unit))))).bind fun o4 =>
((bif o4.1 then (
(spec_l6Id o4.2 a1).bind fun y5 =>
 some (y5.2.1, a2, y1.1, y5.1, y2.1, (0, 0, 0, 0, 0, 0, 0, ()), (0, 0, ()), (0, 0, 0, 0, 0, false, [], ()), (-1), (-1), ()))
 else (
 some (o4.2, a2, y1.1, 0, y2.1, (0, 0, 0, 0, 0, 0, 0, ()), (0, 0, ()), (0, 0, 0, 0, 0, false, [], ()), (-1), (-1), ()))) : Option (T_l1Cur.D × (Int × (Int × (Int × (Int × (T_Pat.D × (T_Guard.D × (T_Act.D × (Int × (Int × Unit))))))))))).bind fun o6 =>
(spec_l7Draw o6.1 a1).bind fun y7 =>
(spec_l8Draw y7.2.1).bind fun y8 =>
(spec_l9Draw y8.2.1 a1 y7.1.1).bind fun y9 =>
(spec_l1Once y9.2.1 4).bind fun y10 =>
((bif y10.1 then (
(spec_l1Below y10.2.1 3).bind fun y11 =>
 let k12 : Int := IntKind.wrap .i64 ((IntKind.wrap .i64 (a1.2.2.2.1 + y11.1)) - 1)
 some (y11.2.1, o6.2.1, o6.2.2.1, o6.2.2.2.1, o6.2.2.2.2.1, y7.1, y8.1, y9.1, k12, o6.2.2.2.2.2.2.2.2.2))
 else (
 some (y10.2.1, o6.2.1, o6.2.2.1, o6.2.2.2.1, o6.2.2.2.2.1, y7.1, y8.1, y9.1, o6.2.2.2.2.2.2.2.2))) : Option (T_l1Cur.D × (Int × (Int × (Int × (Int × (T_Pat.D × (T_Guard.D × (T_Act.D × (Int × (Int × Unit))))))))))).bind fun o13 =>
 bif (o13.2.2.2.2.2.2.2.1.1 == 2) then (
(spec_l1Int o13.1 ([1, 2, 3, 5] : List Int)).bind fun y14 =>
 some ((o13.2.1, o13.2.2.1, o13.2.2.2.1, o13.2.2.2.2.1, o13.2.2.2.2.2.1, o13.2.2.2.2.2.2.1, o13.2.2.2.2.2.2.2.1, o13.2.2.2.2.2.2.2.2.1, y14.1, ()), y14.2))
 else (
(spec_l1Once o13.1 3).bind fun y15 =>
 bif y15.1 then (
(spec_l1Below y15.2.1 3).bind fun y16 =>
 some ((o13.2.1, o13.2.2.1, o13.2.2.2.1, o13.2.2.2.2.1, o13.2.2.2.2.2.1, o13.2.2.2.2.2.2.1, o13.2.2.2.2.2.2.2.1, o13.2.2.2.2.2.2.2.2.1, IntKind.wrap .i64 (1 + y16.1), ()), y16.2))
 else (
 some (o13.2, y15.2)))
def spec_l10Draw_h : Hints := (.node none none .none (.node none none .none (.node none none (.node none none (.node (some ⟨[.tmp 21 .bool, .box 0 0 T_l1Cur], [none], none, [(0, 0)]⟩) none .none .none) (.node (some ⟨[.box 0 0 T_l1Cur, .boxO 7 0 1 T_Effect], [none], none, [(0, 0), (7, 0)]⟩) none .none .none)) (.node none none .none (.node none none .none (.node none none .none (.node none none (.node none none .none (.node (some ⟨[.box 0 0 T_l1Cur, .boxO 7 0 2 T_Effect], [none], none, [(0, 0), (7, 0), (38, 0)]⟩) none .none .none)) .none)))))))
def spec_l10Draw_c : Ct := .mut [.ptr, .rd, .rd] true false (.pair T_l1Cur (.pair T_State (.pair (.int .i64) .unit))) T_Effect (fun x => spec_l10Draw x.1 x.2.1 x.2.2.1)
theorem spec_l10Draw_ct : CtOk Try.prog 53 spec_l10Draw_c := mut_ct (E := { T := tab, G := [(50, spec_l1Below_c), (51, spec_l1Int_c), (58, spec_l6Id_c), (59, spec_l1Once_c), (80, spec_l7Draw_c), (81, spec_l8Draw_c), (82, spec_l9Draw_fresh_c)], V := [12, 54] }) (EnvOk.views (EnvOk.cons spec_l1Below_ct (EnvOk.cons spec_l1Int_ct (EnvOk.cons spec_l6Id_ct (EnvOk.cons spec_l1Once_ct (EnvOk.cons spec_l7Draw_ct (EnvOk.cons spec_l8Draw_ct (EnvOk.cons spec_l9Draw_fresh_ct (EnvOk.nil tabOk))))))))) mixed (fn := Try.f53) _ _ _ _ _ _ spec_l10Draw_h Try.func53 (by kernel_rfl) (fun x => by kernel_rfl)
def spec_l10Draw_fresh_c : Ct := .mut [.ptr, .rd, .rd] true true (.pair T_l1Cur (.pair T_State (.pair (.int .i64) .unit))) T_Effect (fun x => spec_l10Draw x.1 x.2.1 x.2.2.1)
theorem spec_l10Draw_fresh_ct : CtOk Try.prog 53 spec_l10Draw_fresh_c := mut_ct (E := { T := tab, G := [(50, spec_l1Below_c), (51, spec_l1Int_c), (58, spec_l6Id_c), (59, spec_l1Once_c), (80, spec_l7Draw_c), (81, spec_l8Draw_c), (82, spec_l9Draw_fresh_c)], V := [12, 54] }) (EnvOk.views (EnvOk.cons spec_l1Below_ct (EnvOk.cons spec_l1Int_ct (EnvOk.cons spec_l6Id_ct (EnvOk.cons spec_l1Once_ct (EnvOk.cons spec_l7Draw_ct (EnvOk.cons spec_l8Draw_ct (EnvOk.cons spec_l9Draw_fresh_ct (EnvOk.nil tabOk))))))))) mixed (fn := Try.f53) _ _ _ _ _ _ spec_l10Draw_h Try.func53 (by kernel_rfl) (fun x => by kernel_rfl)
/-! loop.example/g00486/spec.l1Odd -/
def spec_l1Odd (a0 : T_l1Cur.D) : Option (Int × (T_l1Cur.D × Unit)) :=
(spec_l1Int a0 ([(-1), 0, 1, 2, 255, 256, 65535, 2147483647, 2147483648, 4294967295, 4294967296, (-2147483648), 9223372036854775807, (-9223372036854775808)] : List Int)).bind fun y1 =>
 some (y1.1, y1.2)
def spec_l1Odd_c : Ct := .mut [.ptr] true true (.pair T_l1Cur .unit) (.int .i64) (fun x => spec_l1Odd x.1)
theorem spec_l1Odd_ct : CtOk Try.prog 83 spec_l1Odd_c := mut_ct (E := { T := tab, G := [(51, spec_l1Int_c)], V := [4] }) (EnvOk.views (EnvOk.cons spec_l1Int_ct (EnvOk.nil tabOk))) mixed (fn := Try.f83) _ _ _ _ _ _ .none Try.func83 (by kernel_rfl) (fun x => by kernel_rfl)
/-! loop.example/g00486/spec.l1Raw -/
def spec_l1Raw (a0 : T_l1Cur.D) : Option (Int × (T_l1Cur.D × Unit)) :=
(spec_l1Once a0 2).bind fun y1 =>
 bif y1.1 then (
(spec_l1Odd y1.2.1).bind fun y2 =>
 some (y2.1, y2.2))
 else (
(spec_l1Int y1.2.1 ([(-2147483648), (-2147483647), (-3), (-1), 0, 1, 3, 7, 2147483647, 2147483648] : List Int)).bind fun y3 =>
 some (y3.1, y3.2))
def spec_l1Raw_c : Ct := .mut [.ptr] true true (.pair T_l1Cur .unit) (.int .i64) (fun x => spec_l1Raw x.1)
theorem spec_l1Raw_ct : CtOk Try.prog 57 spec_l1Raw_c := mut_ct (E := { T := tab, G := [(51, spec_l1Int_c), (59, spec_l1Once_c), (83, spec_l1Odd_c)], V := [8] }) (EnvOk.views (EnvOk.cons spec_l1Int_ct (EnvOk.cons spec_l1Once_ct (EnvOk.cons spec_l1Odd_ct (EnvOk.nil tabOk))))) mixed (fn := Try.f57) _ _ _ _ _ _ .none Try.func57 (by kernel_rfl) (fun x => by kernel_rfl)
/-! loop.example/g00486/spec.l7Any -/
def spec_l7Any (a0 : T_l1Cur.D) (a1 : T_State.D) : Option (T_Pat.D × (T_l1Cur.D × Unit)) :=
(spec_l7Draw a0 a1).bind fun y1 =>
(spec_l1Below y1.2.1 16).bind fun y2 =>
 bif (y2.1 == 0) then (
(spec_l1Int y2.2.1 ([0, 1, 2, 3, 7] : List Int)).bind fun y3 =>
 some ((y3.1, y1.1.2), y3.2))
 else (
 bif (y2.1 == 1) then (
(spec_l1Int y2.2.1 ([(-1), 3] : List Int)).bind fun y4 =>
 some ((y1.1.1, y4.1, y1.1.2.2), y4.2))
 else (
 bif (y2.1 == 2) then (
(spec_l1Int y2.2.1 ([(-1), 1, 99, 100] : List Int)).bind fun y5 =>
 some ((y1.1.1, y1.1.2.1, y5.1, y1.1.2.2.2), y5.2))
 else (
 bif (y2.1 == 3) then (
(spec_l1Int y2.2.1 ([(-1), 1, 63, 64] : List Int)).bind fun y6 =>
 some ((y1.1.1, y1.1.2.1, y1.1.2.2.1, y6.1, y1.1.2.2.2.2), y6.2))
 else (
 bif (y2.1 == 4) then (
(spec_l1Int y2.2.1 ([(-1), 1, 100] : List Int)).bind fun y7 =>
 some ((y1.1.1, y1.1.2.1, y1.1.2.2.1, y1.1.2.2.2.1, y7.1, y1.1.2.2.2.2.2), y7.2))
 else (
 bif (y2.1 == 5) then (
(spec_l1Raw y2.2.1).bind fun y8 =>
 some ((y1.1.1, y1.1.2.1, y1.1.2.2.1, y1.1.2.2.2.1, y1.1.2.2.2.2.1, y8.1, y1.1.2.2.2.2.2.2), y8.2))
 else (
 bif (y2.1 == 6) then (
(spec_l1Int y2.2.1 ([(-1), 2, 5] : List Int)).bind fun y9 =>
 some ((y1.1.1, y1.1.2.1, y1.1.2.2.1, y1.1.2.2.2.1, y1.1.2.2.2.2.1, y1.1.2.2.2.2.2.1, y9.1, ()), y9.2))
 else (
 some (y1.1, y2.2))))))))
def spec_l7Any_c : Ct := .mut [.ptr, .rd] true true (.pair T_l1Cur (.pair T_State .unit)) T_Pat (fun x => spec_l7Any x.1 x.2.1)
theorem spec_l7Any_ct : CtOk Try.prog 54 spec_l7Any_c := mut_ct (E := { T := tab, G := [(50, spec_l1Below_c), (51, spec_l1Int_c), (57, spec_l1Raw_c), (80, spec_l7Draw_c)], V := [14, 20, 26, 32, 38, 49] }) (EnvOk.views (EnvOk.cons spec_l1Below_ct (EnvOk.cons spec_l1Int_ct (EnvOk.cons spec_l1Raw_ct (EnvOk.cons spec_l7Draw_ct (EnvOk.nil tabOk)))))) mixed (fn := Try.f54) _ _ _ _ _ _ .none Try.func54 (by kernel_rfl) (fun x => by kernel_rfl)
/-! loop.example/g00486/spec.l8Any -/
def spec_l8Any (a0 : T_l1Cur.D) : Option (T_Guard.D × (T_l1Cur.D × Unit)) :=
(spec_l8Draw a0).bind fun y1 =>
(spec_l1Below y1.2.1 8).bind fun y2 =>
 bif (y2.1 == 0) then (
(spec_l1Int y2.2.1 ([(-1), 1, 2, 3, 4, 5] : List Int)).bind fun y3 =>
 some ((y3.1, y1.1.2), y3.2))
 else (
 bif (y2.1 == 1) then (
(spec_l1Raw y2.2.1).bind fun y4 =>
 some ((y1.1.1, y4.1, ()), y4.2))
 else (
 bif (y2.1 == 2) then (
(spec_l1Int y2.2.1 ([1, 8, 9, (-1)] : List Int)).bind fun y5 =>
 some ((y1.1.1, y5.1, ()), y5.2))
 else (
 some (y1.1, y2.2))))
def spec_l8Any_c : Ct := .mut [.ptr] true true (.pair T_l1Cur .unit) T_Guard (fun x => spec_l8Any x.1)
theorem spec_l8Any_ct : CtOk Try.prog 55 spec_l8Any_c := mut_ct (E := { T := tab, G := [(50, spec_l1Below_c), (51, spec_l1Int_c), (57, spec_l1Raw_c), (81, spec_l8Draw_c)], V := [11, 22] }) (EnvOk.views (EnvOk.cons spec_l1Below_ct (EnvOk.cons spec_l1Int_ct (EnvOk.cons spec_l1Raw_ct (EnvOk.cons spec_l8Draw_ct (EnvOk.nil tabOk)))))) mixed (fn := Try.f55) _ _ _ _ _ _ .none Try.func55 (by kernel_rfl) (fun x => by kernel_rfl)
/-! loop.example/g00486/spec.l6Any -/
def spec_l6Any (a0 : T_l1Cur.D) (a1 : T_State.D) : Option (T_Event.D × (T_l1Cur.D × Unit)) :=
(spec_l6Draw a0 a1).bind fun y1 =>
(spec_l1Below y1.2.1 16).bind fun y2 =>
 bif (y2.1 == 0) then (
(spec_l1Int y2.2.1 ([0, 1, 2, 3, 5, 7] : List Int)).bind fun y3 =>
 some ((y3.1, y1.1.2), y3.2))
 else (
 bif (y2.1 == 1) then (
(spec_l1Int y2.2.1 ([0, 1, 99, 100] : List Int)).bind fun y4 =>
 some ((y1.1.1, y4.1, y1.1.2.2), y4.2))
 else (
 bif (y2.1 == 2) then (
(spec_l1Int y2.2.1 ([0, 99, 100, (-1)] : List Int)).bind fun y5 =>
 some ((y1.1.1, y1.1.2.1, y5.1, y1.1.2.2.2), y5.2))
 else (
 bif (y2.1 == 3) then (
(spec_l1Int y2.2.1 ([(-2), (-1), 0, 2, 3] : List Int)).bind fun y6 =>
 some ((y1.1.1, y1.1.2.1, y1.1.2.2.1, y6.1, y1.1.2.2.2.2), y6.2))
 else (
 bif (y2.1 == 4) then (
(spec_l1Raw y2.2.1).bind fun y7 =>
 some ((y1.1.1, y1.1.2.1, y1.1.2.2.1, y1.1.2.2.2.1, y7.1, y1.1.2.2.2.2.2), y7.2))
 else (
 bif (y2.1 == 5) then (
(spec_l1Int y2.2.1 ([0, 2, 4, 5] : List Int)).bind fun y8 =>
 some ((y1.1.1, y1.1.2.1, y1.1.2.2.1, y1.1.2.2.2.1, y1.1.2.2.2.2.1, y8.1, y1.1.2.2.2.2.2.2), y8.2))
 else (
 bif (y2.1 == 6) then (
 some ((y1.1.1, y1.1.2.1, y1.1.2.2.1, y1.1.2.2.2.1, y1.1.2.2.2.2.1, y1.1.2.2.2.2.2.1, (!y1.1.2.2.2.2.2.2.1), ()), y2.2))
 else (
 some (y1.1, y2.2))))))))
def spec_l6Any_c : Ct := .mut [.ptr, .rd] true true (.pair T_l1Cur (.pair T_State .unit)) T_Event (fun x => spec_l6Any x.1 x.2.1)
theorem spec_l6Any_ct : CtOk Try.prog 20 spec_l6Any_c := mut_ct (E := { T := tab, G := [(21, spec_l6Draw_c), (50, spec_l1Below_c), (51, spec_l1Int_c), (57, spec_l1Raw_c)], V := [14, 20, 26, 32, 43] }) (EnvOk.views (EnvOk.cons spec_l6Draw_ct (EnvOk.cons spec_l1Below_ct (EnvOk.cons spec_l1Int_ct (EnvOk.cons spec_l1Raw_ct (EnvOk.nil tabOk)))))) mixed (fn := Try.f20) _ _ _ _ _ _ .none Try.func20 (by kernel_rfl) (fun x => by kernel_rfl)
/-! loop.example/g00486/spec.l9Any -/
def spec_l9Any (a0 : T_l1Cur.D) (a1 : T_State.D) : Option (T_Act.D × (T_l1Cur.D × Unit)) :=
(spec_l1Below a0 6).bind fun y1 =>
(spec_l9Draw y1.2.1 a1 (IntKind.wrap .i64 (1 + y1.1))).bind fun y2 =>
(spec_l1Below y2.2.1 18).bind fun y3 =>
 bif (y3.1 == 0) then (
(spec_l1Int y3.2.1 ([0, 1, 3, 6, 7, 8, 9, 10] : List Int)).bind fun y4 =>
 some ((y4.1, y2.1.2), y4.2))
 else (
 bif (y3.1 == 1) then (
(spec_l1Raw y3.2.1).bind fun y5 =>
 some ((y2.1.1, y5.1, y2.1.2.2), y5.2))
 else (
 bif (y3.1 == 2) then (
(spec_l1Int y3.2.1 ([0, 1, 99, 100] : List Int)).bind fun y6 =>
 some ((y2.1.1, y2.1.2.1, y6.1, y2.1.2.2.2), y6.2))
 else (
 bif (y3.1 == 3) then (
(spec_l1Int y3.2.1 ([(-2), 0, 2, 3] : List Int)).bind fun y7 =>
 some ((y2.1.1, y2.1.2.1, y2.1.2.2.1, y7.1, y2.1.2.2.2.2), y7.2))
 else (
 bif (y3.1 == 4) then (
(spec_l1Int y3.2.1 ([0, 4, 5] : List Int)).bind fun y8 =>
 some ((y2.1.1, y2.1.2.1, y2.1.2.2.1, y2.1.2.2.2.1, y8.1, y2.1.2.2.2.2.2), y8.2))
 else (
 bif (y3.1 == 5) then (
 some ((y2.1.1, y2.1.2.1, y2.1.2.2.1, y2.1.2.2.2.1, y2.1.2.2.2.2.1, (!y2.1.2.2.2.2.2.1), y2.1.2.2.2.2.2.2), y3.2))
 else (
 bif (y3.1 == 6) then (
(spec_l6Any y3.2.1 a1).bind fun y9 =>
 if (y2.1.2.2.2.2.2.2.1.length + [y9.1].length) * (24 * 7) ≤ room then (
 some ((y2.1.1, y2.1.2.1, y2.1.2.2.1, y2.1.2.2.2.1, y2.1.2.2.2.2.1, y2.1.2.2.2.2.2.1, (y2.1.2.2.2.2.2.2.1 ++ [y9.1]), ()), y9.2)) else none)
 else (
 bif (y3.1 == 7) then (
(spec_l6Draw y3.2.1 a1).bind fun y10 =>
(spec_l6Draw y10.2.1 a1).bind fun y11 =>
(spec_l6Draw y11.2.1 a1).bind fun y12 =>
 if (y2.1.2.2.2.2.2.2.1.length + [y10.1, y11.1, y12.1].length) * (24 * 7) ≤ room then (
 some ((y2.1.1, y2.1.2.1, y2.1.2.2.1, y2.1.2.2.2.1, y2.1.2.2.2.2.1, y2.1.2.2.2.2.2.1, (y2.1.2.2.2.2.2.2.1 ++ [y10.1, y11.1, y12.1]), ()), y12.2)) else none)
 else (
 some (y2.1, y3.2)))))))))
def spec_l9Any_c : Ct := .mut [.ptr, .rd] true false (.pair T_l1Cur (.pair T_State .unit)) T_Act (fun x => spec_l9Any x.1 x.2.1)
theorem spec_l9Any_ct : CtOk Try.prog 56 spec_l9Any_c := mut_ct (E := { T := tab, G := [(20, spec_l6Any_c), (21, spec_l6Draw_c), (50, spec_l1Below_c), (51, spec_l1Int_c), (57, spec_l1Raw_c), (82, spec_l9Draw_fresh_c)], V := [17, 28, 34, 40] }) (EnvOk.views (EnvOk.cons spec_l6Any_ct (EnvOk.cons spec_l6Draw_ct (EnvOk.cons spec_l1Below_ct (EnvOk.cons spec_l1Int_ct (EnvOk.cons spec_l1Raw_ct (EnvOk.cons spec_l9Draw_fresh_ct (EnvOk.nil tabOk)))))))) mixed (fn := Try.f56) _ _ _ _ _ _ .none Try.func56 (by kernel_rfl) (fun x => by kernel_rfl)
def spec_l9Any_fresh_c : Ct := .mut [.ptr, .rd] true true (.pair T_l1Cur (.pair T_State .unit)) T_Act (fun x => spec_l9Any x.1 x.2.1)
theorem spec_l9Any_fresh_ct : CtOk Try.prog 56 spec_l9Any_fresh_c := mut_ct (E := { T := tab, G := [(20, spec_l6Any_c), (21, spec_l6Draw_c), (50, spec_l1Below_c), (51, spec_l1Int_c), (57, spec_l1Raw_c), (82, spec_l9Draw_fresh_c)], V := [17, 28, 34, 40] }) (EnvOk.views (EnvOk.cons spec_l6Any_ct (EnvOk.cons spec_l6Draw_ct (EnvOk.cons spec_l1Below_ct (EnvOk.cons spec_l1Int_ct (EnvOk.cons spec_l1Raw_ct (EnvOk.cons spec_l9Draw_fresh_ct (EnvOk.nil tabOk)))))))) mixed (fn := Try.f56) _ _ _ _ _ _ .none Try.func56 (by kernel_rfl) (fun x => by kernel_rfl)
/-! loop.example/g00486/spec.l10Any -/
def spec_l10Any (a0 : T_l1Cur.D) (a1 : T_State.D) : Option (T_Effect.D × (T_l1Cur.D × Unit)) :=
(spec_l1Below a0 9).bind fun y1 =>
(spec_l10Draw y1.2.1 a1 (IntKind.wrap .i64 (1 + y1.1))).bind fun y2 =>
(spec_l1Below y2.2.1 20).bind fun y3 =>
 bif (y3.1 == 0) then (
(spec_l1Int y3.2.1 ([0, 99, 100] : List Int)).bind fun y4 =>
 some ((y4.1, y2.1.2), y4.2))
 else (
 bif (y3.1 == 1) then (
(spec_l1Int y3.2.1 ([(-1), 2, 3] : List Int)).bind fun y5 =>
 some ((y2.1.1, y5.1, y2.1.2.2), y5.2))
 else (
 bif (y3.1 == 2) then (
(spec_l1Int y3.2.1 ([(-1), 0, 99, 100] : List Int)).bind fun y6 =>
 some ((y2.1.1, y2.1.2.1, y6.1, y2.1.2.2.2), y6.2))
 else (
 bif (y3.1 == 3) then (
(spec_l1Int y3.2.1 ([(-1), 0, 5] : List Int)).bind fun y7 =>
 some ((y2.1.1, y2.1.2.1, y2.1.2.2.1, y7.1, y2.1.2.2.2.2), y7.2))
 else (
 bif (y3.1 == 4) then (
(spec_l7Any y3.2.1 a1).bind fun y8 =>
 some ((y2.1.1, y2.1.2.1, y2.1.2.2.1, y2.1.2.2.2.1, y8.1, y2.1.2.2.2.2.2), y8.2))
 else (
 bif (y3.1 == 5) then (
(spec_l8Any y3.2.1).bind fun y9 =>
 some ((y2.1.1, y2.1.2.1, y2.1.2.2.1, y2.1.2.2.2.1, y2.1.2.2.2.2.1, y9.1, y2.1.2.2.2.2.2.2), y9.2))
 else (
 bif (y3.1 == 6) then (
(spec_l9Any y3.2.1 a1).bind fun y10 =>
 some ((y2.1.1, y2.1.2.1, y2.1.2.2.1, y2.1.2.2.2.1, y2.1.2.2.2.2.1, y2.1.2.2.2.2.2.1, y10.1, y2.1.2.2.2.2.2.2.2), y10.2))
 else (
 bif (y3.1 == 7) then (
(spec_l1Int y3.2.1 ([(-2), 0, 9999, 10000] : List Int)).bind fun y11 =>
 some ((y2.1.1, y2.1.2.1, y2.1.2.2.1, y2.1.2.2.2.1, y2.1.2.2.2.2.1, y2.1.2.2.2.2.2.1, y2.1.2.2.2.2.2.2.1, y11.1, y2.1.2.2.2.2.2.2.2.2), y11.2))
 else (
 bif (y3.1 == 8) then (
(spec_l1Int y3.2.1 ([(-2), (-1), 0, 1, 2147483648] : List Int)).bind fun y12 =>
 some ((y2.1.1, y2.1.2.1, y2.1.2.2.1, y2.1.2.2.2.1, y2.1.2.2.2.2.1, y2.1.2.2.2.2.2.1, y2.1.2.2.2.2.2.2.1, y2.1.2.2.2.2.2.2.2.1, y12.1, ()), y12.2))
 else (
 some (y2.1, y3.2))))))))))
def spec_l10Any_c : Ct := .mut [.ptr, .rd] true false (.pair T_l1Cur (.pair T_State .unit)) T_Effect (fun x => spec_l10Any x.1 x.2.1)
theorem spec_l10Any_ct : CtOk Try.prog 19 spec_l10Any_c := mut_ct (E := { T := tab, G := [(50, spec_l1Below_c), (51, spec_l1Int_c), (53, spec_l10Draw_fresh_c), (54, spec_l7Any_c), (55, spec_l8Any_c), (56, spec_l9Any_fresh_c)], V := [17, 23, 29, 35, 58, 64] }) (EnvOk.views (EnvOk.cons spec_l1Below_ct (EnvOk.cons spec_l1Int_ct (EnvOk.cons spec_l10Draw_fresh_ct (EnvOk.cons spec_l7Any_ct (EnvOk.cons spec_l8Any_ct (EnvOk.cons spec_l9Any_fresh_ct (EnvOk.nil tabOk)))))))) mixed (fn := Try.f19) _ _ _ _ _ _ .none Try.func19 (by kernel_rfl) (fun x => by kernel_rfl)
def spec_l10Any_fresh_c : Ct := .mut [.ptr, .rd] true true (.pair T_l1Cur (.pair T_State .unit)) T_Effect (fun x => spec_l10Any x.1 x.2.1)
theorem spec_l10Any_fresh_ct : CtOk Try.prog 19 spec_l10Any_fresh_c := mut_ct (E := { T := tab, G := [(50, spec_l1Below_c), (51, spec_l1Int_c), (53, spec_l10Draw_fresh_c), (54, spec_l7Any_c), (55, spec_l8Any_c), (56, spec_l9Any_fresh_c)], V := [17, 23, 29, 35, 58, 64] }) (EnvOk.views (EnvOk.cons spec_l1Below_ct (EnvOk.cons spec_l1Int_ct (EnvOk.cons spec_l10Draw_fresh_ct (EnvOk.cons spec_l7Any_ct (EnvOk.cons spec_l8Any_ct (EnvOk.cons spec_l9Any_fresh_ct (EnvOk.nil tabOk)))))))) mixed (fn := Try.f19) _ _ _ _ _ _ .none Try.func19 (by kernel_rfl) (fun x => by kernel_rfl)
/-! loop.example/g00486/spec.DrawDoAct -/
def spec_DrawDoAct_l1 (y2 : (T_State.D × (T_l1Cur.D × Unit))) (y3 : (T_Effect.D × (T_l1Cur.D × Unit))) : (Int × (T_l1Cur.D × (Int × (Int × (Int × (Int × (Int × (Int × (Bool × Unit))))))))) → Option ((Int × (T_l1Cur.D × (Int × (Int × (Int × (Int × (Int × (Int × (Bool × Unit))))))))) ⊕ (Int × (T_l1Cur.D × (Int × (Int × (Int × (Int × (Int × (Int × (Bool × Unit)))))))))) := fun s7 =>
((bif decide (s7.1 < 5) then (
 some (s7.2.2.1 != y3.1.2.2.2.2.1.1))
 else (
 some false)) : Option Bool).bind fun o8 =>
 bif o8 then (
(spec_l6Draw s7.2.1 y2.1).bind fun y9 =>
 some (.inl (IntKind.wrap .i64 (s7.1 + 1), y9.2.1, y9.1)))
 else (
 some (.inr s7))
def spec_DrawDoAct (a0 : (List Int)) : Option (T_Effect.D × (T_Event.D × Unit)) :=
(spec_l1New a0).bind fun y1 =>
(spec_l5Draw y1).bind fun y2 =>
(spec_l10Any y2.2.1 y2.1).bind fun y3 =>
(spec_l6Any y3.2.1 y2.1).bind fun y4 =>
(while_ (spec_DrawDoAct_l1 y2 y3) (0, y4.2.1, y4.1)).bind fun o10 =>
 some (y3.1, o10.2.2, ())
def spec_DrawDoAct_h : Hints := (.node none none .none (.node none none .none (.node none none .none (.node none none .none (.node none none .none (.node none none (.node none none .none (.node none none (.node none (some ⟨[.tmp 8 (.int .i64), .box 10 0 T_l1Cur, .box 7 0 T_Event], [some 0], none, []⟩) (.node none none (.node none none (.node (some ⟨[.tmp 28 .bool], [none], none, []⟩) none .none .none) .none) .none) .none) .none)) .none))))))
def spec_DrawDoAct_c : Ct := .pure false false (.pair (.slice (.int .u8)) .unit) (.pair T_Effect (.pair T_Event .unit)) (fun x => spec_DrawDoAct x.1)
theorem spec_DrawDoAct_ct : CtOk Try.prog 5 spec_DrawDoAct_c := pure_ct (E := { T := tab, G := [(17, spec_l1New_c), (18, spec_l5Draw_c), (19, spec_l10Any_fresh_c), (20, spec_l6Any_c), (21, spec_l6Draw_c)] }) (EnvOk.cons spec_l1New_ct (EnvOk.cons spec_l5Draw_ct (EnvOk.cons spec_l10Any_fresh_ct (EnvOk.cons spec_l6Any_ct (EnvOk.cons spec_l6Draw_ct (EnvOk.nil tabOk)))))) mixed (fn := Try.f5) _ _ _ _ _ spec_DrawDoAct_h Try.func5 (by kernel_rfl) (fun x => by kernel_rfl)
def spec_DrawDoAct_fresh_c : Ct := .pure false true (.pair (.slice (.int .u8)) .unit) (.pair T_Effect (.pair T_Event .unit)) (fun x => spec_DrawDoAct x.1)
theorem spec_DrawDoAct_fresh_ct : CtOk Try.prog 5 spec_DrawDoAct_fresh_c := pure_ct (E := { T := tab, G := [(17, spec_l1New_c), (18, spec_l5Draw_c), (19, spec_l10Any_fresh_c), (20, spec_l6Any_c), (21, spec_l6Draw_c)] }) (EnvOk.cons spec_l1New_ct (EnvOk.cons spec_l5Draw_ct (EnvOk.cons spec_l10Any_fresh_ct (EnvOk.cons spec_l6Any_ct (EnvOk.cons spec_l6Draw_ct (EnvOk.nil tabOk)))))) mixed (fn := Try.f5) _ _ _ _ _ spec_DrawDoAct_h Try.func5 (by kernel_rfl) (fun x => by kernel_rfl)
/-! loop.example/g00486/impl.from -/
def impl_from (a0 : Int) (a1 : Int) (a2 : Int) : Option Bool :=
 bif decide (a0 ≥ a1) then (
 some (decide (a0 ≤ a2)))
 else (
 some false)
def impl_from_c : Ct := .pure true false (.pair (.int .i64) (.pair (.int .i64) (.pair (.int .i64) .unit))) .bool (fun x => impl_from x.1 x.2.1 x.2.2.1)
theorem impl_from_ct : CtOk Try.prog 39 impl_from_c := pure_ct (E := { T := tab, G := [] }) (EnvOk.nil tabOk) mixed (fn := Try.f39) _ _ _ _ _ .none Try.func39 (by kernel_rfl) (fun x => by kernel_rfl)
/-! loop.example/g00486/impl.isId -/
def impl_isId (a0 : Int) : Option Bool :=
(impl_from a0 1 99).bind fun y1 =>
 some y1
def impl_isId_c : Ct := .pure true false (.pair (.int .i64) .unit) .bool (fun x => impl_isId x.1)
theorem impl_isId_ct : CtOk Try.prog 37 impl_isId_c := pure_ct (E := { T := tab, G := [(39, impl_from_c)] }) (EnvOk.cons impl_from_ct (EnvOk.nil tabOk)) mixed (fn := Try.f37) _ _ _ _ _ .none Try.func37 (by kernel_rfl) (fun x => by kernel_rfl)
/-! loop.example/g00486/impl.isPlayer -/
def impl_isPlayer (a0 : Int) : Option Bool :=
(impl_from a0 0 2).bind fun y1 =>
 some y1
def impl_isPlayer_c : Ct := .pure true false (.pair (.int .i64) .unit) .bool (fun x => impl_isPlayer x.1)
theorem impl_isPlayer_ct : CtOk Try.prog 38 impl_isPlayer_c := pure_ct (E := { T := tab, G := [(39, impl_from_c)] }) (EnvOk.cons impl_from_ct (EnvOk.nil tabOk)) mixed (fn := Try.f38) _ _ _ _ _ .none Try.func38 (by kernel_rfl) (fun x => by kernel_rfl)
/-! loop.example/g00486/impl.isKind -/
def impl_isKind (a0 : Int) : Option Bool :=
(impl_from a0 1 6).bind fun y1 =>
 some y1
def impl_isKind_c : Ct := .pure true false (.pair (.int .i64) .unit) .bool (fun x => impl_isKind x.1)
theorem impl_isKind_ct : CtOk Try.prog 47 impl_isKind_c := pure_ct (E := { T := tab, G := [(39, impl_from_c)] }) (EnvOk.cons impl_from_ct (EnvOk.nil tabOk)) mixed (fn := Try.f47) _ _ _ _ _ .none Try.func47 (by kernel_rfl) (fun x => by kernel_rfl)
/-! loop.example/g00486/impl.isTraits -/
def impl_isTraits (a0 : Int) : Option Bool :=
(impl_from a0 0 63).bind fun y1 =>
 some y1
def impl_isTraits_c : Ct := .pure true false (.pair (.int .i64) .unit) .bool (fun x => impl_isTraits x.1)
theorem impl_isTraits_ct : CtOk Try.prog 74 impl_isTraits_c := pure_ct (E := { T := tab, G := [(39, impl_from_c)] }) (EnvOk.cons impl_from_ct (EnvOk.nil tabOk)) mixed (fn := Try.f74) _ _ _ _ _ .none Try.func74 (by kernel_rfl) (fun x => by kernel_rfl)
/-! loop.example/g00486/impl.isAmount -/
def impl_isAmount (a0 : Int) : Option Bool :=
(impl_from a0 0 2147483647).bind fun y1 =>
 some y1
def impl_isAmount_c : Ct := .pure true false (.pair (.int .i64) .unit) .bool (fun x => impl_isAmount x.1)
theorem impl_isAmount_ct : CtOk Try.prog 43 impl_isAmount_c := pure_ct (E := { T := tab, G := [(39, impl_from_c)] }) (EnvOk.cons impl_from_ct (EnvOk.nil tabOk)) mixed (fn := Try.f43) _ _ _ _ _ .none Try.func43 (by kernel_rfl) (fun x => by kernel_rfl)
/-! loop.example/g00486/impl.PatOk -/
def impl_PatOk (a0 : T_Pat.D) : Option Bool :=
(((impl_isKind a0.1).bind fun y1 =>
 bif (!y1) then (
 some true)
 else (
(impl_from a0.2.1 0 2).bind fun y2 =>
 bif (!y2) then (
 some true)
 else (
(impl_from a0.2.2.1 0 99).bind fun y3 =>
 bif (!y3) then (
 some true)
 else (
(impl_isTraits a0.2.2.2.1).bind fun y4 =>
 bif (!y4) then (
 some true)
 else (
(impl_from a0.2.2.2.2.1 0 99).bind fun y5 =>
 bif (!y5) then (
 some true)
 else (
(impl_isAmount a0.2.2.2.2.2.1).bind fun y6 =>
 bif (!y6) then (
 some true)
 else (
(impl_from a0.2.2.2.2.2.2.1 0 4).bind fun y7 =>
 some (!y7)))))))) : Option Bool).bind fun o8 =>
 bif o8 then (
 some false)
 else (
((bif (a0.1 != 1) then (
 bif (a0.2.2.1 != 0) then (
 some true)
 else (
 bif (a0.2.2.2.1 != 0) then (
 some true)
 else (
 bif (a0.1 != 2) then (
 some (a0.2.2.2.2.2.2.1 != 0))
 else (
 some false))))
 else (
 bif (a0.1 != 2) then (
 some (a0.2.2.2.2.2.2.1 != 0))
 else (
 some false))) : Option Bool).bind fun o9 =>
 bif o9 then (
 some false)
 else (
 bif (a0.2.2.2.2.1 == 0) then (
 some true)
 else (
 bif (a0.1 != 3) then (
 some (a0.1 != 4))
 else (
 some false))))
def impl_PatOk_h : Hints := (.node none none .none (.node none none (.node none none (.node (some ⟨[.tmp 42 .bool], [none], none, []⟩) none .none .none) .none) (.node none none (.node none none (.node (some ⟨[.tmp 65 .bool], [none], none, []⟩) none .none .none) .none) .none)))
def impl_PatOk_c : Ct := .pure true false (.pair T_Pat .unit) .bool (fun x => impl_PatOk x.1)
theorem impl_PatOk_ct : CtOk Try.prog 40 impl_PatOk_c := pure_ct (E := { T := tab, G := [(39, impl_from_c), (43, impl_isAmount_c), (47, impl_isKind_c), (74, impl_isTraits_c)] }) (EnvOk.cons impl_from_ct (EnvOk.cons impl_isAmount_ct (EnvOk.cons impl_isKind_ct (EnvOk.cons impl_isTraits_ct (EnvOk.nil tabOk))))) mixed (fn := Try.f40) _ _ _ _ _ impl_PatOk_h Try.func40 (by kernel_rfl) (fun x => by kernel_rfl)
/-! loop.example/g00486/impl.Bound -/
def impl_Bound (a0 : Int) : Option Int :=
 some (if (if 2147483647 < a0 then 2147483647 else a0) > (-2147483647) then (if 2147483647 < a0 then 2147483647 else a0) else (-2147483647))
def impl_Bound_c : Ct := .pure true false (.pair (.int .i64) .unit) (.int .i64) (fun x => impl_Bound x.1)
theorem impl_Bound_ct : CtOk Try.prog 75 impl_Bound_c := pure_ct (E := { T := tab, G := [] }) (EnvOk.nil tabOk) mixed (fn := Try.f75) _ _ _ _ _ .none Try.func75 (by kernel_rfl) (fun x => by kernel_rfl)
/-! loop.example/g00486/impl.GuardOk -/
def impl_GuardOk (a0 : T_Guard.D) : Option Bool :=
((bif (a0.1 == 0) then (
 some (a0.1 == 0))
 else (
 some (a0.1 == 3))) : Option Bool).bind fun o1 =>
 bif o1 then (
 some (a0.2.1 == 0))
 else (
 bif (a0.1 == 1) then (
(impl_Bound a0.2.1).bind fun y2 =>
 some (y2 == a0.2.1))
 else (
((bif (a0.1 == 2) then (
 some (a0.1 == 2))
 else (
 some (a0.1 == 4))) : Option Bool).bind fun o3 =>
 bif o3 then (
(impl_from a0.2.1 0 8).bind fun y4 =>
 some y4)
 else (
 some false)))
def impl_GuardOk_h : Hints := (.node none none .none (.node none none (.node none none .none (.node none none (.node none none (.node none none .none (.node (some ⟨[.tmp 5 .bool], [none], none, []⟩) none .none .none)) (.node none none .none (.node none none .none (.node none none .none (.node none none (.node none none .none (.node (some ⟨[.tmp 19 .bool], [none], none, []⟩) none .none .none)) .none))))) .none)) .none))
def impl_GuardOk_c : Ct := .pure true false (.pair T_Guard .unit) .bool (fun x => impl_GuardOk x.1)
theorem impl_GuardOk_ct : CtOk Try.prog 41 impl_GuardOk_c := pure_ct (E := { T := tab, G := [(39, impl_from_c), (75, impl_Bound_c)] }) (EnvOk.cons impl_from_ct (EnvOk.cons impl_Bound_ct (EnvOk.nil tabOk))) mixed (fn := Try.f41) _ _ _ _ _ impl_GuardOk_h Try.func41 (by kernel_rfl) (fun x => by kernel_rfl)
/-! loop.example/g00486/impl.isZone -/
def impl_isZone (a0 : Int) : Option Bool :=
(impl_from a0 1 4).bind fun y1 =>
 some y1
def impl_isZone_c : Ct := .pure true false (.pair (.int .i64) .unit) .bool (fun x => impl_isZone x.1)
theorem impl_isZone_ct : CtOk Try.prog 46 impl_isZone_c := pure_ct (E := { T := tab, G := [(39, impl_from_c)] }) (EnvOk.cons impl_from_ct (EnvOk.nil tabOk)) mixed (fn := Try.f46) _ _ _ _ _ .none Try.func46 (by kernel_rfl) (fun x => by kernel_rfl)
/-! slices.IndexFunc[[]loop.example/g00486/impl.Event,loop.example/g00486/impl.Event] -/
def slices_IndexFunc_impl_Event_l1 (a0 : (List T_Event.D)) (a1 : ((T_Event.D × Unit) → Option Bool)) : Int → Option (Int ⊕ (Int ⊕ Int)) := fun s1 =>
 bif decide (s1 < (a0.length : Int)) then (
 idx a0 s1 fun x2 =>
(a1 (x2, ())).bind fun y3 =>
 bif y3 then (
 some (.inr (.inr s1)))
 else (
 some (.inl (IntKind.wrap .i64 (s1 + 1)))))
 else (
 some (.inr (.inl s1)))
def slices_IndexFunc_impl_Event (a0 : (List T_Event.D)) (a1 : ((T_Event.D × Unit) → Option Bool)) : Option Int :=
(while_ (slices_IndexFunc_impl_Event_l1 a0 a1) 0).bind fun o4 =>
 match o4 with
| .inl s5 => (
 some (-1))
| .inr o6 => (
 some o6)
def slices_IndexFunc_impl_Event_h : Hints := (.node none none .none (.node none none (.node none none .none (.node none none (.node none (some ⟨[.tmp 8 (.int .i64)], [some 0], some [.tmp 4 (.int .i64)], []⟩) .none .none) .none)) .none))
def slices_IndexFunc_impl_Event_c : Ct := .pure true false (.pair (.slice T_Event) (.pair (.fn (.pair T_Event .unit) .bool) .unit)) (.int .i64) (fun x => slices_IndexFunc_impl_Event x.1 x.2.1)
theorem slices_IndexFunc_impl_Event_ct : CtOk Try.prog 64 slices_IndexFunc_impl_Event_c := pure_ct (E := { T := tab, G := [] }) (EnvOk.nil tabOk) mixed (fn := Try.f64) _ _ _ _ _ slices_IndexFunc_impl_Event_h Try.func64 (by kernel_rfl) (fun x => by kernel_rfl)
/-! slices.ContainsFunc[[]loop.example/g00486/impl.Event,loop.example/g00486/impl.Event] -/
def slices_ContainsFunc_impl_Event (a0 : (List T_Event.D)) (a1 : ((T_Event.D × Unit) → Option Bool)) : Option Bool :=
(slices_IndexFunc_impl_Event a0 a1).bind fun y1 =>
 some (decide (y1 ≥ 0))
def slices_ContainsFunc_impl_Event_c : Ct := .pure true false (.pair (.slice T_Event) (.pair (.fn (.pair T_Event .unit) .bool) .unit)) .bool (fun x => slices_ContainsFunc_impl_Event x.1 x.2.1)
theorem slices_ContainsFunc_impl_Event_ct : CtOk Try.prog 76 slices_ContainsFunc_impl_Event_c := pure_ct (E := { T := tab, G := [(64, slices_IndexFunc_impl_Event_c)] }) (EnvOk.cons slices_IndexFunc_impl_Event_ct (EnvOk.nil tabOk)) mixed (fn := Try.f76) _ _ _ _ _ .none Try.func76 (by kernel_rfl) (fun x => by kernel_rfl)
/-! loop.example/g00486/impl.onPiece -/
def impl_onPiece (a0 : T_Event.D) : Option Bool :=
(impl_isId a0.2.2.1).bind fun y1 =>
 bif y1 then (
 some (a0.2.2.2.1 == (-1)))
 else (
 some false)
def impl_onPiece_c : Ct := .pure true false (.pair T_Event .unit) .bool (fun x => impl_onPiece x.1)
theorem impl_onPiece_ct : CtOk Try.prog 44 impl_onPiece_c := pure_ct (E := { T := tab, G := [(37, impl_isId_c)] }) (EnvOk.cons impl_isId_ct (EnvOk.nil tabOk)) mixed (fn := Try.f44) _ _ _ _ _ .none Try.func44 (by kernel_rfl) (fun x => by kernel_rfl)
/-! loop.example/g00486/impl.onPlayer -/
def impl_onPlayer (a0 : T_Event.D) : Option Bool :=
 bif (a0.2.2.1 == 0) then (
(impl_isPlayer a0.2.2.2.1).bind fun y1 =>
 some y1)
 else (
 some false)
def impl_onPlayer_c : Ct := .pure true false (.pair T_Event .unit) .bool (fun x => impl_onPlayer x.1)
theorem impl_onPlayer_ct : CtOk Try.prog 45 impl_onPlayer_c := pure_ct (E := { T := tab, G := [(38, impl_isPlayer_c)] }) (EnvOk.cons impl_isPlayer_ct (EnvOk.nil tabOk)) mixed (fn := Try.f45) _ _ _ _ _ .none Try.func45 (by kernel_rfl) (fun x => by kernel_rfl)
/-! loop.example/g00486/impl.EventOk -/
def impl_EventOk (a0 : T_Event.D) : Option Bool :=
(((impl_isAmount a0.2.2.2.2.1).bind fun y1 =>
 bif (!y1) then (
 some true)
 else (
 bif (a0.1 != 1) then (
 bif (a0.2.1 != 0) then (
 some true)
 else (
 bif (a0.1 != 2) then (
 bif (a0.2.2.2.2.2.1 != 0) then (
 some true)
 else (
 some a0.2.2.2.2.2.2.1))
 else (
 some false)))
 else (
 bif (a0.1 != 2) then (
 bif (a0.2.2.2.2.2.1 != 0) then (
 some true)
 else (
 some a0.2.2.2.2.2.2.1))
 else (
 some false)))) : Option Bool).bind fun o2 =>
 bif o2 then (
 some false)
 else (
 bif (a0.1 == 1) then (
(impl_isId a0.2.1).bind fun y3 =>
 bif y3 then (
(impl_onPiece a0).bind fun y4 =>
 bif y4 then (
 some true)
 else (
(impl_onPlayer a0).bind fun y5 =>
 some y5))
 else (
 some false))
 else (
 bif (a0.1 == 2) then (
 bif (a0.2.2.2.2.2.1 == 2) then (
(((impl_onPiece a0).bind fun y6 =>
 bif y6 then (
 some (decide (a0.2.2.2.2.1 ≤ 99)))
 else (
 some false)) : Option Bool).bind fun o7 =>
 some o7)
 else (
(impl_onPiece a0).bind fun y8 =>
 bif y8 then (
(impl_isZone a0.2.2.2.2.2.1).bind fun y9 =>
 bif y9 then (
 bif (a0.2.2.2.2.1 == 0) then (
 some (!a0.2.2.2.2.2.2.1))
 else (
 some false))
 else (
 some false))
 else (
 some false)))
 else (
((bif (a0.1 == 3) then (
 some (a0.1 == 3))
 else (
 some (a0.1 == 4))) : Option Bool).bind fun o10 =>
 bif o10 then (
(impl_onPlayer a0).bind fun y11 =>
 some y11)
 else (
((bif (a0.1 == 5) then (
 some (a0.1 == 5))
 else (
 some (a0.1 == 6))) : Option Bool).bind fun o12 =>
 bif o12 then (
(impl_onPiece a0).bind fun y13 =>
 some y13)
 else (
 some false)))))
def impl_EventOk_h : Hints := (.node none none .none (.node none none (.node none none (.node (some ⟨[.tmp 30 .bool], [none], none, []⟩) none .none .none) .none) (.node none none (.node none none .none (.node none none (.node none none .none (.node none none .none (.node none none .none (.node none none (.node none none (.node none none .none (.node none none (.node none none (.node (some ⟨[.tmp 2 .bool], [none], none, []⟩) none .none .none) .none) .none)) .none) (.node none none (.node none none .none (.node (some ⟨[.tmp 75 .bool], [none], none, []⟩) none .none .none)) (.node none none .none (.node none none (.node none none .none (.node (some ⟨[.tmp 80 .bool], [none], none, []⟩) none .none .none)) .none))))))) .none)) .none)))
def impl_EventOk_c : Ct := .pure true false (.pair T_Event .unit) .bool (fun x => impl_EventOk x.1)
theorem impl_EventOk_ct : CtOk Try.prog 14 impl_EventOk_c := pure_ct (E := { T := tab, G := [(37, impl_isId_c), (43, impl_isAmount_c), (44, impl_onPiece_c), (45, impl_onPlayer_c), (46, impl_isZone_c)] }) (EnvOk.cons impl_isId_ct (EnvOk.cons impl_isAmount_ct (EnvOk.cons impl_onPiece_ct (EnvOk.cons impl_onPlayer_ct (EnvOk.cons impl_isZone_ct (EnvOk.nil tabOk)))))) mixed (fn := Try.f14) _ _ _ _ _ impl_EventOk_h Try.func14 (by kernel_rfl) (fun x => by kernel_rfl)
/-! loop.example/g00486/impl.partOk -/
def impl_partOk (a0 : T_Event.D) : Option Bool :=
(impl_EventOk a0).bind fun y1 =>
 bif y1 then (
 some true)
 else (
((bif (a0.1 != 2) then (
 some (a0.2.2.2.2.1 == (-1)))
 else (
 some false)) : Option Bool).bind fun o2 =>
 bif o2 then (
(impl_EventOk (a0.1, a0.2.1, a0.2.2.1, a0.2.2.2.1, 0, a0.2.2.2.2.2)).bind fun y3 =>
 some y3)
 else (
 some false))
def impl_partOk_h : Hints := (.node none none .none (.node none none .none (.node none none (.node (some ⟨[.tmp 3 .bool], [none], none, []⟩) none .none .none) .none)))
def impl_partOk_c : Ct := .pure true false (.pair T_Event .unit) .bool (fun x => impl_partOk x.1)
theorem impl_partOk_ct : CtOk Try.prog 78 impl_partOk_c := pure_ct (E := { T := tab, G := [(14, impl_EventOk_c)] }) (EnvOk.cons impl_EventOk_ct (EnvOk.nil tabOk)) mixed (fn := Try.f78) _ _ _ _ _ impl_partOk_h Try.func78 (by kernel_rfl) (fun x => by kernel_rfl)
/-! loop.example/g00486/impl.ActOk$1 -/
def impl_ActOk_1 (a0 : T_Event.D) : Option Bool :=
(impl_partOk a0).bind fun y1 =>
 some (!y1)
def impl_ActOk_1_c : Ct := .pure true false (.pair T_Event .unit) .bool (fun x => impl_ActOk_1 x.1)
theorem impl_ActOk_1_ct : CtOk Try.prog 77 impl_ActOk_1_c := pure_ct (E := { T := tab, G := [(78, impl_partOk_c)] }) (EnvOk.cons impl_partOk_ct (EnvOk.nil tabOk)) mixed (fn := Try.f77) _ _ _ _ _ .none Try.func77 (by kernel_rfl) (fun x => by kernel_rfl)
/-! loop.example/g00486/impl.ActOk -/
def impl_ActOk (a0 : T_Act.D) : Option Bool :=
((bif (a0.1 != 3) then (
 bif (a0.1 != 8) then (
 bif (a0.2.1 != 0) then (
 some true)
 else (
 bif (a0.1 != 6) then (
 bif (a0.2.2.1 != 0) then (
 some true)
 else (
 bif (a0.2.2.2.1 != (-1)) then (
 some true)
 else (
 bif (a0.1 != 7) then (
 bif (a0.2.2.2.2.1 != 0) then (
 some true)
 else (
 bif (a0.1 != 8) then (
 bif a0.2.2.2.2.2.1 then (
 some true)
 else (
 bif (a0.1 != 9) then (
 some (decide ((a0.2.2.2.2.2.2.1.length : Int) > 0)))
 else (
 some false)))
 else (
 bif (a0.1 != 9) then (
 some (decide ((a0.2.2.2.2.2.2.1.length : Int) > 0)))
 else (
 some false))))
 else (
 bif (a0.1 != 8) then (
 bif a0.2.2.2.2.2.1 then (
 some true)
 else (
 bif (a0.1 != 9) then (
 some (decide ((a0.2.2.2.2.2.2.1.length : Int) > 0)))
 else (
 some false)))
 else (
 bif (a0.1 != 9) then (
 some (decide ((a0.2.2.2.2.2.2.1.length : Int) > 0)))
 else (
 some false))))))
 else (
 bif (a0.1 != 7) then (
 bif (a0.2.2.2.2.1 != 0) then (
 some true)
 else (
 bif (a0.1 != 8) then (
 bif a0.2.2.2.2.2.1 then (
 some true)
 else (
 bif (a0.1 != 9) then (
 some (decide ((a0.2.2.2.2.2.2.1.length : Int) > 0)))
 else (
 some false)))
 else (
 bif (a0.1 != 9) then (
 some (decide ((a0.2.2.2.2.2.2.1.length : Int) > 0)))
 else (
 some false))))
 else (
 bif (a0.1 != 8) then (
 bif a0.2.2.2.2.2.1 then (
 some true)
 else (
 bif (a0.1 != 9) then (
 some (decide ((a0.2.2.2.2.2.2.1.length : Int) > 0)))
 else (
 some false)))
 else (
 bif (a0.1 != 9) then (
 some (decide ((a0.2.2.2.2.2.2.1.length : Int) > 0)))
 else (
 some false))))))
 else (
 bif (a0.1 != 6) then (
 bif (a0.2.2.1 != 0) then (
 some true)
 else (
 bif (a0.2.2.2.1 != (-1)) then (
 some true)
 else (
 bif (a0.1 != 7) then (
 bif (a0.2.2.2.2.1 != 0) then (
 some true)
 else (
 bif (a0.1 != 8) then (
 bif a0.2.2.2.2.2.1 then (
 some true)
 else (
 bif (a0.1 != 9) then (
 some (decide ((a0.2.2.2.2.2.2.1.length : Int) > 0)))
 else (
 some false)))
 else (
 bif (a0.1 != 9) then (
 some (decide ((a0.2.2.2.2.2.2.1.length : Int) > 0)))
 else (
 some false))))
 else (
 bif (a0.1 != 8) then (
 bif a0.2.2.2.2.2.1 then (
 some true)
 else (
 bif (a0.1 != 9) then (
 some (decide ((a0.2.2.2.2.2.2.1.length : Int) > 0)))
 else (
 some false)))
 else (
 bif (a0.1 != 9) then (
 some (decide ((a0.2.2.2.2.2.2.1.length : Int) > 0)))
 else (
 some false))))))
 else (
 bif (a0.1 != 7) then (
 bif (a0.2.2.2.2.1 != 0) then (
 some true)
 else (
 bif (a0.1 != 8) then (
 bif a0.2.2.2.2.2.1 then (
 some true)
 else (
 bif (a0.1 != 9) then (
 some (decide ((a0.2.2.2.2.2.2.1.length : Int) > 0)))
 else (
 some false)))
 else (
 bif (a0.1 != 9) then (
 some (decide ((a0.2.2.2.2.2.2.1.length : Int) > 0)))
 else (
 some false))))
 else (
 bif (a0.1 != 8) then (
 bif a0.2.2.2.2.2.1 then (
 some true)
 else (
 bif (a0.1 != 9) then (
 some (decide ((a0.2.2.2.2.2.2.1.length : Int) > 0)))
 else (
 some false)))
 else (
 bif (a0.1 != 9) then (
 some (decide ((a0.2.2.2.2.2.2.1.length : Int) > 0)))
 else (
 some false))))))
 else (
 bif (a0.1 != 6) then (
 bif (a0.2.2.1 != 0) then (
 some true)
 else (
 bif (a0.2.2.2.1 != (-1)) then (
 some true)
 else (
 bif (a0.1 != 7) then (
 bif (a0.2.2.2.2.1 != 0) then (
 some true)
 else (
 bif (a0.1 != 8) then (
 bif a0.2.2.2.2.2.1 then (
 some true)
 else (
 bif (a0.1 != 9) then (
 some (decide ((a0.2.2.2.2.2.2.1.length : Int) > 0)))
 else (
 some false)))
 else (
 bif (a0.1 != 9) then (
 some (decide ((a0.2.2.2.2.2.2.1.length : Int) > 0)))
 else (
 some false))))
 else (
 bif (a0.1 != 8) then (
 bif a0.2.2.2.2.2.1 then (
 some true)
 else (
 bif (a0.1 != 9) then (
 some (decide ((a0.2.2.2.2.2.2.1.length : Int) > 0)))
 else (
 some false)))
 else (
 bif (a0.1 != 9) then (
 some (decide ((a0.2.2.2.2.2.2.1.length : Int) > 0)))
 else (
 some false))))))
 else (
 bif (a0.1 != 7) then (
 bif (a0.2.2.2.2.1 != 0) then (
 some true)
 else (
 bif (a0.1 != 8) then (
 bif a0.2.2.2.2.2.1 then (
 some true)
 else (
 bif (a0.1 != 9) then (
 some (decide ((a0.2.2.2.2.2.2.1.length : Int) > 0)))
 else (
 some false)))
 else (
 bif (a0.1 != 9) then (
 some (decide ((a0.2.2.2.2.2.2.1.length : Int) > 0)))
 else (
 some false))))
 else (
 bif (a0.1 != 8) then (
 bif a0.2.2.2.2.2.1 then (
 some true)
 else (
 bif (a0.1 != 9) then (
 some (decide ((a0.2.2.2.2.2.2.1.length : Int) > 0)))
 else (
 some false)))
 else (
 bif (a0.1 != 9) then (
 some (decide ((a0.2.2.2.2.2.2.1.length : Int) > 0)))
 else (
 some false)))))) : Option Bool).bind fun o1 =>
 bif o1 then (
 some false)
 else (
((bif (a0.1 == 1) then (
 some (a0.1 == 1))
 else (
((bif (a0.1 == 2) then (
 some (a0.1 == 2))
 else (
((bif (a0.1 == 4) then (
 some (a0.1 == 4))
 else (
 some (a0.1 == 5))) : Option Bool).bind fun o2 =>
 some o2)) : Option Bool).bind fun o3 =>
 some o3)) : Option Bool).bind fun o4 =>
 bif o4 then (
 some true)
 else (
 bif (a0.1 == 3) then (
(impl_from a0.2.1 1 2147483647).bind fun y5 =>
 some y5)
 else (
 bif (a0.1 == 6) then (
(impl_isId a0.2.2.1).bind fun y6 =>
 bif y6 then (
 bif (a0.2.2.2.1 == (-1)) then (
 some true)
 else (
 bif (a0.2.2.1 == 0) then (
(impl_isPlayer a0.2.2.2.1).bind fun y7 =>
 some y7)
 else (
 some false)))
 else (
 bif (a0.2.2.1 == 0) then (
(impl_isPlayer a0.2.2.2.1).bind fun y8 =>
 some y8)
 else (
 some false)))
 else (
 bif (a0.1 == 7) then (
(impl_isZone a0.2.2.2.2.1).bind fun y9 =>
 some y9)
 else (
 bif (a0.1 == 8) then (
(impl_from a0.2.1 0 99).bind fun y10 =>
 some y10)
 else (
 bif (a0.1 == 9) then (
(impl_from (a0.2.2.2.2.2.2.1.length : Int) 1 3).bind fun y11 =>
 bif y11 then (
(slices_ContainsFunc_impl_Event a0.2.2.2.2.2.2.1 (fun q => impl_ActOk_1 q.1)).bind fun y12 =>
 some (!y12))
 else (
 some false))
 else (
 some false)))))))
def impl_ActOk_h : Hints := (.node none none .none (.node none none (.node none none (.node (some ⟨[.tmp 60 .bool], [none], none, []⟩) none .none .none) .none) (.node none none (.node none none .none (.node none none (.node none none (.node none none .none (.node (some ⟨[.tmp 63 .bool], [none], none, []⟩) none .none (.node none none .none (.node (some ⟨[.tmp 63 .bool], [none], none, []⟩) none .none (.node none none .none (.node (some ⟨[.tmp 63 .bool], [none], none, []⟩) none .none .none)))))) .none) .none)) .none)))
def impl_ActOk_c : Ct := .pure true false (.pair T_Act .unit) .bool (fun x => impl_ActOk x.1)
theorem impl_ActOk_ct : CtOk Try.prog 42 impl_ActOk_c := pure_ct (E := { T := tab, G := [(37, impl_isId_c), (38, impl_isPlayer_c), (39, impl_from_c), (46, impl_isZone_c), (76, slices_ContainsFunc_impl_Event_c), (77, impl_ActOk_1_c)] }) (EnvOk.cons impl_isId_ct (EnvOk.cons impl_isPlayer_ct (EnvOk.cons impl_from_ct (EnvOk.cons impl_isZone_ct (EnvOk.cons slices_ContainsFunc_impl_Event_ct (EnvOk.cons impl_ActOk_1_ct (EnvOk.nil tabOk))))))) mixed (fn := Try.f42) _ _ _ _ _ impl_ActOk_h Try.func42 (by kernel_rfl) (fun x => by kernel_rfl)
/-! loop.example/g00486/impl.ActFits -/
def impl_ActFits (a0 : T_Act.D) (a1 : Int) : Option Bool :=
(impl_isKind a1).bind fun y1 =>
 bif (!y1) then (
 some false)
 else (
((bif (a0.1 == 1) then (
 some (a0.1 == 1))
 else (
 some (a0.1 == 9))) : Option Bool).bind fun o2 =>
 bif o2 then (
 some true)
 else (
((bif (a0.1 == 2) then (
 some (a0.1 == 2))
 else (
 some (a0.1 == 6))) : Option Bool).bind fun o3 =>
 bif o3 then (
 some (a1 == 1))
 else (
((bif (a0.1 == 3) then (
 some (a0.1 == 3))
 else (
((bif (a0.1 == 4) then (
 some (a0.1 == 4))
 else (
 some (a0.1 == 5))) : Option Bool).bind fun o4 =>
 some o4)) : Option Bool).bind fun o5 =>
 bif o5 then (
 some (a1 != 2))
 else (
((bif (a0.1 == 7) then (
 some (a0.1 == 7))
 else (
 some (a0.1 == 8))) : Option Bool).bind fun o6 =>
 bif o6 then (
 some (a1 == 2))
 else (
 some false)))))
def impl_ActFits_h : Hints := (.node none none .none (.node none none .none (.node none none (.node none none .none (.node none none (.node none none (.node none none .none (.node (some ⟨[.tmp 10 .bool], [none], none, []⟩) none .none .none)) (.node none none .none (.node none none (.node none none .none (.node (some ⟨[.tmp 13 .bool], [none], none, []⟩) none .none .none)) (.node none none .none (.node none none (.node none none .none (.node (some ⟨[.tmp 18 .bool], [none], none, []⟩) none .none (.node none none .none (.node (some ⟨[.tmp 18 .bool], [none], none, []⟩) none .none .none)))) (.node none none .none (.node none none (.node none none .none (.node (some ⟨[.tmp 24 .bool], [none], none, []⟩) none .none .none)) .none))))))) .none)) .none)))
def impl_ActFits_c : Ct := .pure true false (.pair T_Act (.pair (.int .i64) .unit)) .bool (fun x => impl_ActFits x.1 x.2.1)
theorem impl_ActFits_ct : CtOk Try.prog 15 impl_ActFits_c := pure_ct (E := { T := tab, G := [(47, impl_isKind_c)] }) (EnvOk.cons impl_isKind_ct (EnvOk.nil tabOk)) mixed (fn := Try.f15) _ _ _ _ _ impl_ActFits_h Try.func15 (by kernel_rfl) (fun x => by kernel_rfl)
/-! loop.example/g00486/impl.EffectOk -/
def impl_EffectOk (a0 : T_Effect.D) : Option Bool :=
((bif (a0.2.2.2.2.2.2.1.1 == 2) then (
 some 0)
 else (
 some (-1))) : Option Int).bind fun o1 =>
(impl_isId a0.1).bind fun y2 =>
 bif y2 then (
(impl_isPlayer a0.2.1).bind fun y3 =>
 bif y3 then (
(impl_from a0.2.2.1 0 99).bind fun y4 =>
 bif y4 then (
(impl_from a0.2.2.2.1 0 4).bind fun y5 =>
 bif y5 then (
 bif (a0.2.2.2.1 != 0) then (
(impl_PatOk a0.2.2.2.2.1).bind fun y6 =>
 bif y6 then (
(impl_GuardOk a0.2.2.2.2.2.1).bind fun y7 =>
 bif y7 then (
(impl_ActOk a0.2.2.2.2.2.2.1).bind fun y8 =>
 bif y8 then (
(impl_ActFits a0.2.2.2.2.2.2.1 a0.2.2.2.2.1.1).bind fun y9 =>
 bif y9 then (
(impl_from a0.2.2.2.2.2.2.2.1 (-1) 9999).bind fun y10 =>
 bif y10 then (
(impl_from a0.2.2.2.2.2.2.2.2.1 o1 2147483647).bind fun y11 =>
 some y11)
 else (
 some false))
 else (
 some false))
 else (
 some false))
 else (
 some false))
 else (
 some false))
 else (
 bif (a0.2.2.1 != 0) then (
(impl_PatOk a0.2.2.2.2.1).bind fun y12 =>
 bif y12 then (
(impl_GuardOk a0.2.2.2.2.2.1).bind fun y13 =>
 bif y13 then (
(impl_ActOk a0.2.2.2.2.2.2.1).bind fun y14 =>
 bif y14 then (
(impl_ActFits a0.2.2.2.2.2.2.1 a0.2.2.2.2.1.1).bind fun y15 =>
 bif y15 then (
(impl_from a0.2.2.2.2.2.2.2.1 (-1) 9999).bind fun y16 =>
 bif y16 then (
(impl_from a0.2.2.2.2.2.2.2.2.1 o1 2147483647).bind fun y17 =>
 some y17)
 else (
 some false))
 else (
 some false))
 else (
 some false))
 else (
 some false))
 else (
 some false))
 else (
 some false)))
 else (
 some false))
 else (
 some false))
 else (
 some false))
 else (
 some false)
def impl_EffectOk_h : Hints := (.node none none .none (.node none none .none (.node none none (.node none none .none (.node (some ⟨[.tmp 3 (.int .i64)], [none], none, []⟩) none .none .none)) .none)))
def impl_EffectOk_c : Ct := .pure true false (.pair T_Effect .unit) .bool (fun x => impl_EffectOk x.1)
theorem impl_EffectOk_ct : CtOk Try.prog 13 impl_EffectOk_c := pure_ct (E := { T := tab, G := [(15, impl_ActFits_c), (37, impl_isId_c), (38, impl_isPlayer_c), (39, impl_from_c), (40, impl_PatOk_c), (41, impl_GuardOk_c), (42, impl_ActOk_c)] }) (EnvOk.cons impl_ActFits_ct (EnvOk.cons impl_isId_ct (EnvOk.cons impl_isPlayer_ct (EnvOk.cons impl_from_ct (EnvOk.cons impl_PatOk_ct (EnvOk.cons impl_GuardOk_ct (EnvOk.cons impl_ActOk_ct (EnvOk.nil tabOk)))))))) mixed (fn := Try.f13) _ _ _ _ _ impl_EffectOk_h Try.func13 (by kernel_rfl) (fun x => by kernel_rfl)
/-! slices.Clone[[]loop.example/g00486/impl.Event,loop.example/g00486/impl.Event] -/
def slices_Clone_impl_Event (a0 : (List T_Event.D)) : Option (List T_Event.D) :=
 if (([] : List T_Event.D).length + a0.length) * (24 * 7) ≤ room then (
 some ([] ++ a0)) else none
def slices_Clone_impl_Event_c : Ct := .pure true false (.pair (.slice T_Event) .unit) (.slice T_Event) (fun x => slices_Clone_impl_Event x.1)
theorem slices_Clone_impl_Event_ct : CtOk Try.prog 60 slices_Clone_impl_Event_c := nil_ct (E := { T := tab, G := [] }) (EnvOk.nil tabOk) mixed (fn := Try.f60) _ _ T_Event _ _ .none .none Try.func60 (by kernel_rfl) (by kernel_rfl) (fun x => by kernel_rfl)
def slices_Clone_impl_Event_fresh_c : Ct := .pure true true (.pair (.slice T_Event) .unit) (.slice T_Event) (fun x => slices_Clone_impl_Event x.1)
theorem slices_Clone_impl_Event_fresh_ct : CtOk Try.prog 60 slices_Clone_impl_Event_fresh_c := nil_ct (E := { T := tab, G := [] }) (EnvOk.nil tabOk) mixed (fn := Try.f60) _ _ T_Event _ _ .none .none Try.func60 (by kernel_rfl) (by kernel_rfl) (fun x => by kernel_rfl)
/-! loop.example/g00486/impl.copyEffect -/
def impl_copyEffect (a0 : T_Effect.D) : Option T_Effect.D :=
(slices_Clone_impl_Event a0.2.2.2.2.2.2.1.2.2.2.2.2.2.1).bind fun y1 =>
 some (a0.1, a0.2.1, a0.2.2.1, a0.2.2.2.1, a0.2.2.2.2.1, a0.2.2.2.2.2.1, (a0.2.2.2.2.2.2.1.1, a0.2.2.2.2.2.2.1.2.1, a0.2.2.2.2.2.2.1.2.2.1, a0.2.2.2.2.2.2.1.2.2.2.1, a0.2.2.2.2.2.2.1.2.2.2.2.1, a0.2.2.2.2.2.2.1.2.2.2.2.2.1, y1, ()), a0.2.2.2.2.2.2.2)
def impl_copyEffect_c : Ct := .pure true false (.pair T_Effect .unit) T_Effect (fun x => impl_copyEffect x.1)
theorem impl_copyEffect_ct : CtOk Try.prog 22 impl_copyEffect_c := pure_ct (E := { T := tab, G := [(60, slices_Clone_impl_Event_fresh_c)] }) (EnvOk.cons slices_Clone_impl_Event_fresh_ct (EnvOk.nil tabOk)) mixed (fn := Try.f22) _ _ _ _ _ .none Try.func22 (by kernel_rfl) (fun x => by kernel_rfl)
def impl_copyEffect_fresh_c : Ct := .pure true true (.pair T_Effect .unit) T_Effect (fun x => impl_copyEffect x.1)
theorem impl_copyEffect_fresh_ct : CtOk Try.prog 22 impl_copyEffect_fresh_c := pure_ct (E := { T := tab, G := [(60, slices_Clone_impl_Event_fresh_c)] }) (EnvOk.cons slices_Clone_impl_Event_fresh_ct (EnvOk.nil tabOk)) mixed (fn := Try.f22) _ _ _ _ _ .none Try.func22 (by kernel_rfl) (fun x => by kernel_rfl)
/-! loop.example/g00486/impl.Upto -/
def impl_Upto (a0 : Int) (a1 : Int) : Option Int :=
 some (if (if a1 < a0 then a1 else a0) > 0 then (if a1 < a0 then a1 else a0) else 0)
def impl_Upto_c : Ct := .pure true false T_Guard (.int .i64) (fun x => impl_Upto x.1 x.2.1)
theorem impl_Upto_ct : CtOk Try.prog 48 impl_Upto_c := pure_ct (E := { T := tab, G := [] }) (EnvOk.nil tabOk) mixed (fn := Try.f48) _ _ _ _ _ .none Try.func48 (by kernel_rfl) (fun x => by kernel_rfl)
/-! loop.example/g00486/impl.WithN -/
def impl_WithN (a0 : T_Event.D) (a1 : Int) : Option T_Event.D :=
(impl_Upto a1 2147483647).bind fun y1 =>
 some (a0.1, a0.2.1, a0.2.2.1, a0.2.2.2.1, y1, a0.2.2.2.2.2)
def impl_WithN_c : Ct := .pure true false (.pair T_Event (.pair (.int .i64) .unit)) T_Event (fun x => impl_WithN x.1 x.2.1)
theorem impl_WithN_ct : CtOk Try.prog 61 impl_WithN_c := pure_ct (E := { T := tab, G := [(48, impl_Upto_c)] }) (EnvOk.cons impl_Upto_ct (EnvOk.nil tabOk)) mixed (fn := Try.f61) _ _ _ _ _ .none Try.func61 (by kernel_rfl) (fun x => by kernel_rfl)
/-! loop.example/g00486/impl.Plus -/
def impl_Plus (a0 : Int) (a1 : Int) : Option Int :=
(impl_Bound a0).bind fun y1 =>
(impl_Bound a1).bind fun y2 =>
(impl_Bound (IntKind.wrap .i64 (y1 + y2))).bind fun y3 =>
 some y3
def impl_Plus_c : Ct := .pure true false T_Guard (.int .i64) (fun x => impl_Plus x.1 x.2.1)
theorem impl_Plus_ct : CtOk Try.prog 84 impl_Plus_c := pure_ct (E := { T := tab, G := [(75, impl_Bound_c)] }) (EnvOk.cons impl_Bound_ct (EnvOk.nil tabOk)) mixed (fn := Try.f84) _ _ _ _ _ .none Try.func84 (by kernel_rfl) (fun x => by kernel_rfl)
/-! loop.example/g00486/impl.Twice -/
def impl_Twice (a0 : Int) : Option Int :=
(impl_Bound a0).bind fun y1 =>
(impl_Bound (IntKind.wrap .i64 (2 * y1))).bind fun y2 =>
 some y2
def impl_Twice_c : Ct := .pure true false (.pair (.int .i64) .unit) (.int .i64) (fun x => impl_Twice x.1)
theorem impl_Twice_ct : CtOk Try.prog 85 impl_Twice_c := pure_ct (E := { T := tab, G := [(75, impl_Bound_c)] }) (EnvOk.cons impl_Bound_ct (EnvOk.nil tabOk)) mixed (fn := Try.f85) _ _ _ _ _ .none Try.func85 (by kernel_rfl) (fun x => by kernel_rfl)
/-! loop.example/g00486/impl.Half -/
def impl_Half (a0 : Int) : Option Int :=
(impl_Bound a0).bind fun y1 =>
 if 2 = 0 then none else (
 some (IntKind.wrap .i64 (y1.tdiv 2)))
def impl_Half_c : Ct := .pure true false (.pair (.int .i64) .unit) (.int .i64) (fun x => impl_Half x.1)
theorem impl_Half_ct : CtOk Try.prog 86 impl_Half_c := pure_ct (E := { T := tab, G := [(75, impl_Bound_c)] }) (EnvOk.cons impl_Bound_ct (EnvOk.nil tabOk)) mixed (fn := Try.f86) _ _ _ _ _ .none Try.func86 (by kernel_rfl) (fun x => by kernel_rfl)
/-! loop.example/g00486/impl.Amount -/
def impl_Amount (a0 : T_Act.D) (a1 : Int) : Option Int :=
(impl_Upto a1 2147483647).bind fun y1 =>
 bif (a0.1 == 1) then (
 some 0)
 else (
 bif (a0.1 == 3) then (
(impl_Plus y1 a0.2.1).bind fun y2 =>
 some y2)
 else (
 bif (a0.1 == 4) then (
(impl_Twice y1).bind fun y3 =>
 some y3)
 else (
 bif (a0.1 == 5) then (
(impl_Half y1).bind fun y4 =>
 some y4)
 else (
 some y1))))
def impl_Amount_c : Ct := .pure true false (.pair T_Act (.pair (.int .i64) .unit)) (.int .i64) (fun x => impl_Amount x.1 x.2.1)
theorem impl_Amount_ct : CtOk Try.prog 62 impl_Amount_c := pure_ct (E := { T := tab, G := [(48, impl_Upto_c), (84, impl_Plus_c), (85, impl_Twice_c), (86, impl_Half_c)] }) (EnvOk.cons impl_Upto_ct (EnvOk.cons impl_Plus_ct (EnvOk.cons impl_Twice_ct (EnvOk.cons impl_Half_ct (EnvOk.nil tabOk))))) mixed (fn := Try.f62) _ _ _ _ _ .none Try.func62 (by kernel_rfl) (fun x => by kernel_rfl)
/-! loop.example/g00486/impl.Parts -/
def impl_Parts_l1 (a0 : T_Act.D) (a1 : T_Event.D) : ((List T_Event.D) × Int) → Option (((List T_Event.D) × Int) ⊕ ((List T_Event.D) × Int)) := fun s1 =>
 bif decide (s1.2 < (a0.2.2.2.2.2.2.1.length : Int)) then (
 idx a0.2.2.2.2.2.2.1 s1.2 fun x2 =>
((bif (x2.2.2.2.2.1 == (-1)) then (
(impl_Upto a1.2.2.2.2.1 2147483647).bind fun y3 =>
 some (x2.1, x2.2.1, x2.2.2.1, x2.2.2.2.1, y3, x2.2.2.2.2.2))
 else (
 some x2)) : Option T_Event.D).bind fun o4 =>
 if (s1.1.length + [o4].length) * (24 * 7) ≤ room then (
 some (.inl ((s1.1 ++ [o4]), IntKind.wrap .i64 (s1.2 + 1)))) else none)
 else (
 some (.inr s1))
def impl_Parts (a0 : T_Act.D) (a1 : T_Event.D) : Option (List T_Event.D) :=
 bif (a0.1 != 9) then (
 some [])
 else (
(while_ (impl_Parts_l1 a0 a1) ([], 0)).bind fun o5 =>
 some o5.1)
def impl_Parts_h : Hints := (.node none none .none (.node none none .none (.node none none .none (.node none none (.node none none .none (.node none none (.node none (some ⟨[.tmpO 5 0 (.slice T_Event), .tmp 16 (.int .i64)], [some 0], none, []⟩) (.node none none .none (.node none none .none (.node none none (.node none none (.node none none .none (.node none none (.node none none .none (.node (some ⟨[.box 7 0 T_Event], [none], none, [(7, 0)]⟩) none .none .none)) .none)) .none) .none))) .none) .none)) .none))))
def impl_Parts_c : Ct := .pure true false (.pair T_Act (.pair T_Event .unit)) (.slice T_Event) (fun x => impl_Parts x.1 x.2.1)
theorem impl_Parts_ct : CtOk Try.prog 63 impl_Parts_c := pure_ct (E := { T := tab, G := [(48, impl_Upto_c)] }) (EnvOk.cons impl_Upto_ct (EnvOk.nil tabOk)) mixed (fn := Try.f63) _ _ _ _ _ impl_Parts_h Try.func63 (by kernel_rfl) (fun x => by kernel_rfl)
def impl_Parts_fresh_c : Ct := .pure true true (.pair T_Act (.pair T_Event .unit)) (.slice T_Event) (fun x => impl_Parts x.1 x.2.1)
theorem impl_Parts_fresh_ct : CtOk Try.prog 63 impl_Parts_fresh_c := pure_ct (E := { T := tab, G := [(48, impl_Upto_c)] }) (EnvOk.cons impl_Upto_ct (EnvOk.nil tabOk)) mixed (fn := Try.f63) _ _ _ _ _ impl_Parts_h Try.func63 (by kernel_rfl) (fun x => by kernel_rfl)
/-! loop.example/g00486/impl.acted -/
def impl_acted (a0 : T_Effect.D) (a1 : T_Event.D) : Option ((List T_Event.D) × (Int × Unit)) :=
 bif (a0.2.2.2.2.2.2.1.1 == 1) then (
 bif (a1.1 == 1) then (
 some ([], a1.2.2.2.2.1, ()))
 else (
 some ([], 0, ())))
 else (
 bif (a0.2.2.2.2.2.2.1.1 == 2) then (
(impl_Upto a1.2.2.2.2.1 a0.2.2.2.2.2.2.2.2.1).bind fun y1 =>
(impl_WithN a1 (IntKind.wrap .i64 (a1.2.2.2.2.1 - y1))).bind fun y2 =>
 some ([y2], y1, ()))
 else (
((bif (a0.2.2.2.2.2.2.1.1 == 3) then (
 some (a0.2.2.2.2.2.2.1.1 == 3))
 else (
((bif (a0.2.2.2.2.2.2.1.1 == 4) then (
 some (a0.2.2.2.2.2.2.1.1 == 4))
 else (
 some (a0.2.2.2.2.2.2.1.1 == 5))) : Option Bool).bind fun o3 =>
 some o3)) : Option Bool).bind fun o4 =>
 bif o4 then (
(impl_Amount a0.2.2.2.2.2.2.1 a1.2.2.2.2.1).bind fun y5 =>
(impl_WithN a1 y5).bind fun y6 =>
 some ([y6], 0, ()))
 else (
((bif (a0.2.2.2.2.2.2.1.1 == 6) then (
 some (.inl (a1.1, a1.2.1, a0.2.2.2.2.2.2.1.2.2.1, a0.2.2.2.2.2.2.1.2.2.2.1, a1.2.2.2.2)))
 else (
((bif (a0.2.2.2.2.2.2.1.1 == 7) then (
((bif (a0.2.2.2.2.2.2.1.2.2.2.2.1 != 2) then (
 some (a1.1, a1.2.1, a1.2.2.1, a1.2.2.2.1, 0, a0.2.2.2.2.2.2.1.2.2.2.2.1, false, ()))
 else (
 some (a1.1, a1.2.1, a1.2.2.1, a1.2.2.2.1, a1.2.2.2.2.1, a0.2.2.2.2.2.2.1.2.2.2.2.1, a1.2.2.2.2.2.2))) : Option T_Event.D).bind fun o7 =>
 some (.inl o7))
 else (
((bif (a0.2.2.2.2.2.2.1.1 == 8) then (
((bif (a1.2.2.2.2.2.1 == 2) then (
(impl_Upto (IntKind.wrap .i64 (a1.2.2.2.2.1 + a0.2.2.2.2.2.2.1.2.1)) 99).bind fun y8 =>
((bif a1.2.2.2.2.2.2.1 then (
 some (a1.1, a1.2.1, a1.2.2.1, a1.2.2.2.1, y8, a1.2.2.2.2.2.1, true, ()))
 else (
 some (a1.1, a1.2.1, a1.2.2.1, a1.2.2.2.1, y8, a1.2.2.2.2.2.1, a0.2.2.2.2.2.2.1.2.2.2.2.2.1, ()))) : Option T_Event.D).bind fun o9 =>
 some o9)
 else (
 some a1)) : Option T_Event.D).bind fun o10 =>
 some (.inl o10))
 else (
 bif (a0.2.2.2.2.2.2.1.1 == 9) then (
(impl_Parts a0.2.2.2.2.2.2.1 a1).bind fun y11 =>
 some (.inr ((y11, 0))))
 else (
 some (.inl a1)))) : Option (T_Event.D ⊕ ((List T_Event.D) × Int))).bind fun o12 =>
 match o12 with
| .inl s13 => (
 some (.inl s13))
| .inr o14 => (
 some (.inr o14)))) : Option (T_Event.D ⊕ ((List T_Event.D) × Int))).bind fun o15 =>
 match o15 with
| .inl s16 => (
 some (.inl s16))
| .inr o17 => (
 some (.inr o17)))) : Option (T_Event.D ⊕ ((List T_Event.D) × Int))).bind fun o18 =>
 match o18 with
| .inl s19 => (
 some ([s19], 0, ()))
| .inr o20 => (
 some (o20.1, o20.2, ())))))
def impl_acted_h : Hints := (.node none none .none (.node none none .none (.node none none (.node none none .none (.node none none (.node none none .none (.node none none .none (.node none none .none (.node none none .none (.node none none (.node none none .none (.node (some ⟨[.tmp 34 .bool], [none], none, []⟩) none .none (.node none none .none (.node (some ⟨[.tmp 34 .bool], [none], none, []⟩) none .none .none)))) (.node none none .none (.node none none .none (.node (some ⟨[.box 3 0 T_Event], [none], some [.tmpO 4 0 (.slice T_Event), .tmp 5 (.int .i64)], [(3, 0)]⟩) none .none (.node none none .none (.node (some ⟨[.box 3 0 T_Event], [none], some [.tmpO 4 0 (.slice T_Event), .tmp 5 (.int .i64)], [(3, 0)]⟩) none (.node none none .none (.node none none .none (.node (some ⟨[.box 3 0 T_Event], [none], none, [(3, 0)]⟩) none .none .none))) (.node none none .none (.node (some ⟨[.box 3 0 T_Event], [none], some [.tmpO 4 0 (.slice T_Event), .tmp 5 (.int .i64)], [(3, 0)]⟩) none (.node none none .none (.node (some ⟨[.box 3 0 T_Event], [none], none, [(3, 0)]⟩) none (.node none none .none (.node (some ⟨[.box 3 0 T_Event], [none], none, [(3, 0)]⟩) none .none .none)) .none)) .none)))))))))))) .none)) .none)))
def impl_acted_c : Ct := .pure false false (.pair T_Effect (.pair T_Event .unit)) (.pair (.slice T_Event) (.pair (.int .i64) .unit)) (fun x => impl_acted x.1 x.2.1)
theorem impl_acted_ct : CtOk Try.prog 23 impl_acted_c := pure_ct (E := { T := tab, G := [(48, impl_Upto_c), (61, impl_WithN_c), (62, impl_Amount_c), (63, impl_Parts_fresh_c)] }) (EnvOk.cons impl_Upto_ct (EnvOk.cons impl_WithN_ct (EnvOk.cons impl_Amount_ct (EnvOk.cons impl_Parts_fresh_ct (EnvOk.nil tabOk))))) mixed (fn := Try.f23) _ _ _ _ _ impl_acted_h Try.func23 (by kernel_rfl) (fun x => by kernel_rfl)
def impl_acted_fresh_c : Ct := .pure false true (.pair T_Effect (.pair T_Event .unit)) (.pair (.slice T_Event) (.pair (.int .i64) .unit)) (fun x => impl_acted x.1 x.2.1)
theorem impl_acted_fresh_ct : CtOk Try.prog 23 impl_acted_fresh_c := pure_ct (E := { T := tab, G := [(48, impl_Upto_c), (61, impl_WithN_c), (62, impl_Amount_c), (63, impl_Parts_fresh_c)] }) (EnvOk.cons impl_Upto_ct (EnvOk.cons impl_WithN_ct (EnvOk.cons impl_Amount_ct (EnvOk.cons impl_Parts_fresh_ct (EnvOk.nil tabOk))))) mixed (fn := Try.f23) _ _ _ _ _ impl_acted_h Try.func23 (by kernel_rfl) (fun x => by kernel_rfl)
/-! slices.DeleteFunc[[]loop.example/g00486/impl.Event,loop.example/g00486/impl.Event] -/
def slices_DeleteFunc_impl_Event_l1 (a1 : ((T_Event.D × Unit) → Option Bool)) : ((List T_Event.D) × (Int × Int)) → Option (((List T_Event.D) × (Int × Int)) ⊕ ((List T_Event.D) × (Int × Int))) := fun s3 =>
 bif decide (s3.2.2 < (s3.1.length : Int)) then (
 idx s3.1 s3.2.2 fun _ =>
(s3.1[(s3.2.2 : Int).toNat]?).bind fun x4 =>
(a1 (x4, ())).bind fun y5 =>
((bif (!y5) then (
 idx s3.1 s3.2.1 fun _ =>
(s3.1[(s3.2.1 : Int).toNat]?).bind fun x6 =>
 let u7 : (List T_Event.D) := s3.1.set (s3.2.1 : Int).toNat x4
 some (u7, IntKind.wrap .i64 (s3.2.1 + 1)))
 else (
 some (s3.1, s3.2.1))) : Option ((List T_Event.D) × Int)).bind fun o8 =>
 some (.inl (o8.1, o8.2, IntKind.wrap .i64 (s3.2.2 + 1))))
 else (
 some (.inr s3))
def slices_DeleteFunc_impl_Event (a0 : (List T_Event.D)) (a1 : ((T_Event.D × Unit) → Option Bool)) : Option ((List T_Event.D) × Unit) :=
(slices_IndexFunc_impl_Event a0 a1).bind fun y1 =>
 bif (y1 == (-1)) then (
 some (a0, ()))
 else (
(while_ (slices_DeleteFunc_impl_Event_l1 a1) (a0, y1, IntKind.wrap .i64 (y1 + 1))).bind fun o9 =>
 if 0 ≤ o9.2.1 then (if o9.2.1 ≤ (o9.1.length : Int) then (if (o9.1.length : Int) ≤ (o9.1.length : Int) then (
 if 0 ≤ (0 : Int) then (if (0 : Int) ≤ o9.2.1 then (if o9.2.1 ≤ ((o9.1.take (o9.2.1.toNat) ++ List.replicate ((o9.1.length : Int).toNat - o9.2.1.toNat) (0, 0, 0, 0, 0, 0, false, ()) ++ o9.1.drop ((o9.1.length : Int).toNat)).length : Int) then (
 some ((((o9.1.take (o9.2.1.toNat) ++ List.replicate ((o9.1.length : Int).toNat - o9.2.1.toNat) (0, 0, 0, 0, 0, 0, false, ()) ++ o9.1.drop ((o9.1.length : Int).toNat)).take (o9.2.1.toNat)).drop ((0 : Int).toNat)), ())) else none) else none) else none) else none) else none) else none)
def slices_DeleteFunc_impl_Event_h : Hints := (.node none none .none (.node none none .none (.node none none .none (.node none none (.node none none .none (.node none none (.node none (some ⟨[.tmpO 0 1 (.slice T_Event), .tmp 5 (.int .i64), .tmp 6 (.int .i64)], [some 0], none, []⟩) (.node none none .none (.node none none (.node none none (.node none none .none (.node none none .none (.node (some ⟨[.tmpO 0 2 (.slice T_Event), .tmp 5 (.int .i64)], [none], none, [(0, 1)]⟩) none .none .none))) .none) .none)) .none) .none)) .none))))
def slices_DeleteFunc_impl_Event_fresh_c : Ct := .mut [.tk, .rd] true true (.pair (.slice T_Event) (.pair (.fn (.pair T_Event .unit) .bool) .unit)) (.slice T_Event) (fun x => slices_DeleteFunc_impl_Event x.1 x.2.1)
theorem slices_DeleteFunc_impl_Event_fresh_ct : CtOk Try.prog 24 slices_DeleteFunc_impl_Event_fresh_c := mut_ct (E := { T := tab, G := [(64, slices_IndexFunc_impl_Event_c)] }) (EnvOk.cons slices_IndexFunc_impl_Event_ct (EnvOk.nil tabOk)) mixed (fn := Try.f24) _ _ _ _ _ _ slices_DeleteFunc_impl_Event_h Try.func24 (by kernel_rfl) (fun x => by kernel_rfl)
/-! loop.example/g00486/impl.Gone -/
def impl_Gone (a0 : T_Event.D) : Option Bool :=
 bif (a0.2.2.2.2.1 == 0) then (
 some (a0.1 != 2))
 else (
 some false)
def impl_Gone_c : Ct := .pure true false (.pair T_Event .unit) .bool (fun x => impl_Gone x.1)
theorem impl_Gone_ct : CtOk Try.prog 11 impl_Gone_c := pure_ct (E := { T := tab, G := [] }) (EnvOk.nil tabOk) mixed (fn := Try.f11) _ _ _ _ _ .none Try.func11 (by kernel_rfl) (fun x => by kernel_rfl)
/-! loop.example/g00486/impl.DoAct$1 -/
def impl_DoAct_1 (a0 : T_Event.D) : Option Bool :=
(impl_EventOk a0).bind fun y1 =>
 bif (!y1) then (
 some true)
 else (
(impl_Gone a0).bind fun y2 =>
 some y2)
def impl_DoAct_1_c : Ct := .pure true false (.pair T_Event .unit) .bool (fun x => impl_DoAct_1 x.1)
theorem impl_DoAct_1_ct : CtOk Try.prog 25 impl_DoAct_1_c := pure_ct (E := { T := tab, G := [(11, impl_Gone_c), (14, impl_EventOk_c)] }) (EnvOk.cons impl_Gone_ct (EnvOk.cons impl_EventOk_ct (EnvOk.nil tabOk))) mixed (fn := Try.f25) _ _ _ _ _ .none Try.func25 (by kernel_rfl) (fun x => by kernel_rfl)
/-! loop.example/g00486/impl.Less -/
def impl_Less (a0 : Int) (a1 : Int) : Option Int :=
(impl_Bound a0).bind fun y1 =>
(impl_Bound a1).bind fun y2 =>
(impl_Bound (IntKind.wrap .i64 (y1 - y2))).bind fun y3 =>
 some y3
def impl_Less_c : Ct := .pure true false T_Guard (.int .i64) (fun x => impl_Less x.1 x.2.1)
theorem impl_Less_ct : CtOk Try.prog 65 impl_Less_c := pure_ct (E := { T := tab, G := [(75, impl_Bound_c)] }) (EnvOk.cons impl_Bound_ct (EnvOk.nil tabOk)) mixed (fn := Try.f65) _ _ _ _ _ .none Try.func65 (by kernel_rfl) (fun x => by kernel_rfl)
/-! loop.example/g00486/impl.Spent -/
def impl_Spent (a0 : T_Effect.D) (a1 : Int) : Option T_Effect.D :=
(impl_copyEffect a0).bind fun y1 =>
 bif (y1.2.2.2.2.2.2.1.1 == 2) then (
(impl_Less y1.2.2.2.2.2.2.2.2.1 a1).bind fun y2 =>
(impl_Upto y2 2147483647).bind fun y3 =>
 some (y1.1, y1.2.1, y1.2.2.1, y1.2.2.2.1, y1.2.2.2.2.1, y1.2.2.2.2.2.1, y1.2.2.2.2.2.2.1, y1.2.2.2.2.2.2.2.1, y3, ()))
 else (
 bif decide (y1.2.2.2.2.2.2.2.2.1 > 0) then (
 some (y1.1, y1.2.1, y1.2.2.1, y1.2.2.2.1, y1.2.2.2.2.1, y1.2.2.2.2.2.1, y1.2.2.2.2.2.2.1, y1.2.2.2.2.2.2.2.1, IntKind.wrap .i64 (y1.2.2.2.2.2.2.2.2.1 - 1), ()))
 else (
 some y1))
def impl_Spent_c : Ct := .pure true false (.pair T_Effect (.pair (.int .i64) .unit)) T_Effect (fun x => impl_Spent x.1 x.2.1)
theorem impl_Spent_ct : CtOk Try.prog 26 impl_Spent_c := pure_ct (E := { T := tab, G := [(22, impl_copyEffect_fresh_c), (48, impl_Upto_c), (65, impl_Less_c)] }) (EnvOk.cons impl_copyEffect_fresh_ct (EnvOk.cons impl_Upto_ct (EnvOk.cons impl_Less_ct (EnvOk.nil tabOk)))) mixed (fn := Try.f26) _ _ _ _ _ .none Try.func26 (by kernel_rfl) (fun x => by kernel_rfl)
def impl_Spent_fresh_c : Ct := .pure true true (.pair T_Effect (.pair (.int .i64) .unit)) T_Effect (fun x => impl_Spent x.1 x.2.1)
theorem impl_Spent_fresh_ct : CtOk Try.prog 26 impl_Spent_fresh_c := pure_ct (E := { T := tab, G := [(22, impl_copyEffect_fresh_c), (48, impl_Upto_c), (65, impl_Less_c)] }) (EnvOk.cons impl_copyEffect_fresh_ct (EnvOk.cons impl_Upto_ct (EnvOk.cons impl_Less_ct (EnvOk.nil tabOk)))) mixed (fn := Try.f26) _ _ _ _ _ .none Try.func26 (by kernel_rfl) (fun x => by kernel_rfl)
/-! loop.example/g00486/impl.DoAct -/
def impl_DoAct (a0 : T_Effect.D) (a1 : T_Event.D) : Option ((List T_Event.D) × (Int × (T_Effect.D × Unit))) :=
(((impl_EffectOk a0).bind fun y1 =>
 bif (!y1) then (
 some true)
 else (
(impl_EventOk a1).bind fun y2 =>
 bif (!y2) then (
 some true)
 else (
(impl_ActFits a0.2.2.2.2.2.2.1 a1.1).bind fun y3 =>
 some (!y3)))) : Option Bool).bind fun o4 =>
 bif o4 then (
(impl_copyEffect a0).bind fun y5 =>
 some ([a1], 0, y5, ()))
 else (
(impl_acted a0 a1).bind fun y6 =>
(slices_DeleteFunc_impl_Event y6.1 (fun q => impl_DoAct_1 q.1)).bind fun y7 =>
(impl_Spent a0 y6.2.1).bind fun y8 =>
 some (y7.1, y6.2.1, y8, ()))
def impl_DoAct_h : Hints := (.node none none .none (.node none none (.node none none (.node (some ⟨[.tmp 24 .bool], [none], none, []⟩) none .none .none) .none) .none))
def impl_DoAct_c : Ct := .pure false false (.pair T_Effect (.pair T_Event .unit)) (.pair (.slice T_Event) (.pair (.int .i64) (.pair T_Effect .unit))) (fun x => impl_DoAct x.1 x.2.1)
theorem impl_DoAct_ct : CtOk Try.prog 6 impl_DoAct_c := pure_ct (E := { T := tab, G := [(13, impl_EffectOk_c), (14, impl_EventOk_c), (15, impl_ActFits_c), (22, impl_copyEffect_fresh_c), (23, impl_acted_fresh_c), (24, slices_DeleteFunc_impl_Event_fresh_c), (25, impl_DoAct_1_c), (26, impl_Spent_fresh_c)] }) (EnvOk.cons impl_EffectOk_ct (EnvOk.cons impl_EventOk_ct (EnvOk.cons impl_ActFits_ct (EnvOk.cons impl_copyEffect_fresh_ct (EnvOk.cons impl_acted_fresh_ct (EnvOk.cons slices_DeleteFunc_impl_Event_fresh_ct (EnvOk.cons impl_DoAct_1_ct (EnvOk.cons impl_Spent_fresh_ct (EnvOk.nil tabOk))))))))) mixed (fn := Try.f6) _ _ _ _ _ impl_DoAct_h Try.func6 (by kernel_rfl) (fun x => by kernel_rfl)
def impl_DoAct_fresh_c : Ct := .pure false true (.pair T_Effect (.pair T_Event .unit)) (.pair (.slice T_Event) (.pair (.int .i64) (.pair T_Effect .unit))) (fun x => impl_DoAct x.1 x.2.1)
theorem impl_DoAct_fresh_ct : CtOk Try.prog 6 impl_DoAct_fresh_c := pure_ct (E := { T := tab, G := [(13, impl_EffectOk_c), (14, impl_EventOk_c), (15, impl_ActFits_c), (22, impl_copyEffect_fresh_c), (23, impl_acted_fresh_c), (24, slices_DeleteFunc_impl_Event_fresh_c), (25, impl_DoAct_1_c), (26, impl_Spent_fresh_c)] }) (EnvOk.cons impl_EffectOk_ct (EnvOk.cons impl_EventOk_ct (EnvOk.cons impl_ActFits_ct (EnvOk.cons impl_copyEffect_fresh_ct (EnvOk.cons impl_acted_fresh_ct (EnvOk.cons slices_DeleteFunc_impl_Event_fresh_ct (EnvOk.cons impl_DoAct_1_ct (EnvOk.cons impl_Spent_fresh_ct (EnvOk.nil tabOk))))))))) mixed (fn := Try.f6) _ _ _ _ _ impl_DoAct_h Try.func6 (by kernel_rfl) (fun x => by kernel_rfl)
/-! loop.example/g00486/spec.PatOk -/
def spec_PatOk (a0 : T_Pat.D) : Option Bool :=
(((spec_l1In a0.1 1 6).bind fun y1 =>
 bif (!y1) then (
 some true)
 else (
(spec_l1In a0.2.1 0 2).bind fun y2 =>
 bif (!y2) then (
 some true)
 else (
(spec_l1In a0.2.2.2.2.1 0 99).bind fun y3 =>
 bif (!y3) then (
 some true)
 else (
(spec_l1In a0.2.2.2.2.2.1 0 2147483647).bind fun y4 =>
 bif (!y4) then (
 some true)
 else (
(spec_l1In a0.2.2.1 0 99).bind fun y5 =>
 bif (!y5) then (
 some true)
 else (
(spec_l1In a0.2.2.2.1 0 63).bind fun y6 =>
 bif (!y6) then (
 some true)
 else (
(spec_l1In a0.2.2.2.2.2.2.1 0 4).bind fun y7 =>
 some (!y7)))))))) : Option Bool).bind fun o8 =>
 bif o8 then (
 some false)
 else (
((bif (a0.1 != 1) then (
 bif (a0.2.2.1 != 0) then (
 some true)
 else (
 bif (a0.2.2.2.1 != 0) then (
 some true)
 else (
 bif (a0.1 != 2) then (
 some (a0.2.2.2.2.2.2.1 != 0))
 else (
 some false))))
 else (
 bif (a0.1 != 2) then (
 some (a0.2.2.2.2.2.2.1 != 0))
 else (
 some false))) : Option Bool).bind fun o9 =>
 bif o9 then (
 some false)
 else (
 bif (a0.1 != 3) then (
 bif (a0.1 != 4) then (
 some true)
 else (
 some (a0.2.2.2.2.1 == 0)))
 else (
 some (a0.2.2.2.2.1 == 0))))
def spec_PatOk_h : Hints := (.node none none .none (.node none none (.node none none (.node (some ⟨[.tmp 42 .bool], [none], none, []⟩) none .none .none) .none) (.node none none (.node none none (.node (some ⟨[.tmp 65 .bool], [none], none, []⟩) none .none .none) .none) .none)))
def spec_PatOk_c : Ct := .pure true false (.pair T_Pat .unit) .bool (fun x => spec_PatOk x.1)
theorem spec_PatOk_ct : CtOk Try.prog 67 spec_PatOk_c := pure_ct (E := { T := tab, G := [(66, spec_l1In_c)] }) (EnvOk.cons spec_l1In_ct (EnvOk.nil tabOk)) mixed (fn := Try.f67) _ _ _ _ _ spec_PatOk_h Try.func67 (by kernel_rfl) (fun x => by kernel_rfl)
/-! loop.example/g00486/spec.GuardOk -/
def spec_GuardOk (a0 : T_Guard.D) : Option Bool :=
((bif (a0.1 == 0) then (
 some (a0.1 == 0))
 else (
 some (a0.1 == 3))) : Option Bool).bind fun o1 =>
 bif o1 then (
 some (a0.2.1 == 0))
 else (
 bif (a0.1 == 1) then (
(spec_l1In a0.2.1 (-2147483647) 2147483647).bind fun y2 =>
 some y2)
 else (
 bif (a0.1 == 2) then (
(spec_l1In a0.2.1 0 8).bind fun y3 =>
 some y3)
 else (
 bif (a0.1 == 4) then (
(spec_l1In a0.2.1 0 8).bind fun y4 =>
 some y4)
 else (
 some false))))
def spec_GuardOk_h : Hints := (.node none none .none (.node none none (.node none none .none (.node none none (.node none none (.node none none .none (.node (some ⟨[.tmp 5 .bool], [none], none, []⟩) none .none .none)) .none) .none)) .none))
def spec_GuardOk_c : Ct := .pure true false (.pair T_Guard .unit) .bool (fun x => spec_GuardOk x.1)
theorem spec_GuardOk_ct : CtOk Try.prog 68 spec_GuardOk_c := pure_ct (E := { T := tab, G := [(66, spec_l1In_c)] }) (EnvOk.cons spec_l1In_ct (EnvOk.nil tabOk)) mixed (fn := Try.f68) _ _ _ _ _ spec_GuardOk_h Try.func68 (by kernel_rfl) (fun x => by kernel_rfl)
/-! loop.example/g00486/spec.l9Plain -/
def spec_l9Plain (a0 : T_Act.D) : Option Bool :=
 bif (a0.2.2.1 == 0) then (
 bif (a0.2.2.2.1 == (-1)) then (
 bif (a0.2.2.2.2.1 == 0) then (
 bif (!a0.2.2.2.2.2.1) then (
 some ((a0.2.2.2.2.2.2.1.length : Int) == 0))
 else (
 some false))
 else (
 some false))
 else (
 some false))
 else (
 some false)
def spec_l9Plain_c : Ct := .pure true false (.pair T_Act .unit) .bool (fun x => spec_l9Plain x.1)
theorem spec_l9Plain_ct : CtOk Try.prog 87 spec_l9Plain_c := pure_ct (E := { T := tab, G := [] }) (EnvOk.nil tabOk) mixed (fn := Try.f87) _ _ _ _ _ .none Try.func87 (by kernel_rfl) (fun x => by kernel_rfl)
/-! loop.example/g00486/spec.EventOk -/
def spec_EventOk (a0 : T_Event.D) : Option Bool :=
(((spec_l1In a0.2.2.1 1 99).bind fun y1 =>
 bif y1 then (
 some (a0.2.2.2.1 == (-1)))
 else (
 some false)) : Option Bool).bind fun o2 =>
((bif (a0.2.2.1 == 0) then (
(spec_l1In a0.2.2.2.1 0 2).bind fun y3 =>
 some y3)
 else (
 some false)) : Option Bool).bind fun o4 =>
(spec_l1In a0.2.2.2.2.1 0 2147483647).bind fun y5 =>
 bif (!y5) then (
 some false)
 else (
 bif (a0.1 == 1) then (
(spec_l1In a0.2.1 1 99).bind fun y6 =>
 bif y6 then (
 bif o2 then (
 bif (a0.2.2.2.2.2.1 == 0) then (
 some (!a0.2.2.2.2.2.2.1))
 else (
 some false))
 else (
 bif o4 then (
 bif (a0.2.2.2.2.2.1 == 0) then (
 some (!a0.2.2.2.2.2.2.1))
 else (
 some false))
 else (
 some false)))
 else (
 some false))
 else (
 bif (a0.1 == 2) then (
 bif (a0.2.1 == 0) then (
 bif o2 then (
(spec_l1In a0.2.2.2.2.2.1 1 4).bind fun y7 =>
 bif y7 then (
 bif decide (a0.2.2.2.2.1 ≤ 99) then (
 bif (a0.2.2.2.2.2.1 == 2) then (
 some true)
 else (
 bif (a0.2.2.2.2.1 == 0) then (
 some (!a0.2.2.2.2.2.2.1))
 else (
 some false)))
 else (
 some false))
 else (
 some false))
 else (
 some false))
 else (
 some false))
 else (
((bif (a0.1 == 3) then (
 some (a0.1 == 3))
 else (
 some (a0.1 == 4))) : Option Bool).bind fun o8 =>
 bif o8 then (
 bif (a0.2.1 == 0) then (
 bif o4 then (
 bif (a0.2.2.2.2.2.1 == 0) then (
 some (!a0.2.2.2.2.2.2.1))
 else (
 some false))
 else (
 some false))
 else (
 some false))
 else (
((bif (a0.1 == 5) then (
 some (a0.1 == 5))
 else (
 some (a0.1 == 6))) : Option Bool).bind fun o9 =>
 bif o9 then (
 bif (a0.2.1 == 0) then (
 bif o2 then (
 bif (a0.2.2.2.2.2.1 == 0) then (
 some (!a0.2.2.2.2.2.2.1))
 else (
 some false))
 else (
 some false))
 else (
 some false))
 else (
 some false)))))
def spec_EventOk_h : Hints := (.node none none .none (.node none none (.node (some ⟨[.tmp 3 .bool], [none], none, []⟩) none .none .none) (.node none none (.node (some ⟨[.tmp 4 .bool], [none], none, []⟩) none .none .none) (.node none none .none (.node none none (.node none none .none (.node none none (.node none none .none (.node none none .none (.node none none .none (.node none none .none (.node none none (.node none none .none (.node (some ⟨[.tmp 81 .bool], [none], none, []⟩) none .none .none)) (.node none none .none (.node none none (.node none none .none (.node (some ⟨[.tmp 100 .bool], [none], none, []⟩) none .none .none)) .none))))))) .none)) .none)))))
def spec_EventOk_c : Ct := .pure true false (.pair T_Event .unit) .bool (fun x => spec_EventOk x.1)
theorem spec_EventOk_ct : CtOk Try.prog 28 spec_EventOk_c := pure_ct (E := { T := tab, G := [(66, spec_l1In_c)] }) (EnvOk.cons spec_l1In_ct (EnvOk.nil tabOk)) mixed (fn := Try.f28) _ _ _ _ _ spec_EventOk_h Try.func28 (by kernel_rfl) (fun x => by kernel_rfl)
/-! loop.example/g00486/spec.l9Part -/
def spec_l9Part (a0 : T_Event.D) : Option Bool :=
((bif (a0.2.2.2.2.1 == (-1)) then (
 some (a0.1 != 2))
 else (
 some false)) : Option Bool).bind fun o1 =>
((bif o1 then (
 some (a0.1, a0.2.1, a0.2.2.1, a0.2.2.2.1, 0, a0.2.2.2.2.2))
 else (
 some a0)) : Option T_Event.D).bind fun o2 =>
(spec_EventOk o2).bind fun y3 =>
 some y3
def spec_l9Part_h : Hints := (.node none none .none (.node none none (.node none none (.node (some ⟨[.tmp 10 .bool], [none], none, []⟩) none .none .none) (.node (some ⟨[.box 1 0 T_Event], [none], none, [(1, 0)]⟩) none .none .none)) .none))
def spec_l9Part_c : Ct := .pure true false (.pair T_Event .unit) .bool (fun x => spec_l9Part x.1)
theorem spec_l9Part_ct : CtOk Try.prog 88 spec_l9Part_c := pure_ct (E := { T := tab, G := [(28, spec_EventOk_c)] }) (EnvOk.cons spec_EventOk_ct (EnvOk.nil tabOk)) mixed (fn := Try.f88) _ _ _ _ _ spec_l9Part_h Try.func88 (by kernel_rfl) (fun x => by kernel_rfl)
/-! loop.example/g00486/spec.ActOk -/
def spec_ActOk_l1 (a0 : T_Act.D) : Int → Option (Int ⊕ (Int ⊕ Bool)) := fun s12 =>
 bif decide (s12 < (a0.2.2.2.2.2.2.1.length : Int)) then (
 idx a0.2.2.2.2.2.2.1 s12 fun x13 =>
(spec_l9Part x13).bind fun y14 =>
 bif (!y14) then (
 some (.inr (.inr false)))
 else (
 some (.inl (IntKind.wrap .i64 (s12 + 1)))))
 else (
 some (.inr (.inl s12)))
def spec_ActOk (a0 : T_Act.D) : Option Bool :=
((bif (a0.1 == 1) then (
 some (a0.1 == 1))
 else (
((bif (a0.1 == 2) then (
 some (a0.1 == 2))
 else (
((bif (a0.1 == 4) then (
 some (a0.1 == 4))
 else (
 some (a0.1 == 5))) : Option Bool).bind fun o1 =>
 some o1)) : Option Bool).bind fun o2 =>
 some o2)) : Option Bool).bind fun o3 =>
 bif o3 then (
(spec_l9Plain a0).bind fun y4 =>
 bif y4 then (
 some (a0.2.1 == 0))
 else (
 some false))
 else (
 bif (a0.1 == 3) then (
(spec_l9Plain a0).bind fun y5 =>
 bif y5 then (
(spec_l1In a0.2.1 1 2147483647).bind fun y6 =>
 some y6)
 else (
 some false))
 else (
 bif (a0.1 == 6) then (
 bif (a0.2.1 == 0) then (
 bif (a0.2.2.2.2.1 == 0) then (
 bif (!a0.2.2.2.2.2.1) then (
 bif ((a0.2.2.2.2.2.2.1.length : Int) == 0) then (
(spec_l1In a0.2.2.1 1 99).bind fun y7 =>
 bif y7 then (
 bif (a0.2.2.2.1 == (-1)) then (
 some true)
 else (
 bif (a0.2.2.1 == 0) then (
(spec_l1In a0.2.2.2.1 0 2).bind fun y8 =>
 some y8)
 else (
 some false)))
 else (
 bif (a0.2.2.1 == 0) then (
(spec_l1In a0.2.2.2.1 0 2).bind fun y9 =>
 some y9)
 else (
 some false)))
 else (
 some false))
 else (
 some false))
 else (
 some false))
 else (
 some false))
 else (
 bif (a0.1 == 7) then (
 bif (a0.2.1 == 0) then (
 bif (a0.2.2.1 == 0) then (
 bif (a0.2.2.2.1 == (-1)) then (
 bif (!a0.2.2.2.2.2.1) then (
 bif ((a0.2.2.2.2.2.2.1.length : Int) == 0) then (
(spec_l1In a0.2.2.2.2.1 1 4).bind fun y10 =>
 some y10)
 else (
 some false))
 else (
 some false))
 else (
 some false))
 else (
 some false))
 else (
 some false))
 else (
 bif (a0.1 == 8) then (
(spec_l1In a0.2.1 0 99).bind fun y11 =>
 bif y11 then (
 bif (a0.2.2.1 == 0) then (
 bif (a0.2.2.2.1 == (-1)) then (
 bif (a0.2.2.2.2.1 == 0) then (
 some ((a0.2.2.2.2.2.2.1.length : Int) == 0))
 else (
 some false))
 else (
 some false))
 else (
 some false))
 else (
 some false))
 else (
 bif (a0.1 == 9) then (
(while_ (spec_ActOk_l1 a0) 0).bind fun o15 =>
 match o15 with
| .inl s16 => (
 bif (a0.2.1 == 0) then (
 bif (a0.2.2.1 == 0) then (
 bif (a0.2.2.2.1 == (-1)) then (
 bif (a0.2.2.2.2.1 == 0) then (
 bif (!a0.2.2.2.2.2.1) then (
(spec_l1In (a0.2.2.2.2.2.2.1.length : Int) 1 3).bind fun y18 =>
 some y18)
 else (
 some false))
 else (
 some false))
 else (
 some false))
 else (
 some false))
 else (
 some false))
| .inr o17 => (
 some o17))
 else (
 some false))))))
def spec_ActOk_h : Hints := (.node none none .none (.node none none (.node none none .none (.node none none (.node none none (.node none none .none (.node (some ⟨[.tmp 6 .bool], [none], none, []⟩) none .none (.node none none .none (.node (some ⟨[.tmp 6 .bool], [none], none, []⟩) none .none (.node none none .none (.node (some ⟨[.tmp 6 .bool], [none], none, []⟩) none .none .none)))))) (.node none none .none (.node none none .none (.node none none .none (.node none none .none (.node none none .none (.node none none .none (.node none none .none (.node none none .none (.node none none .none (.node none none .none (.node none none (.node none none (.node none none .none (.node none none (.node none (some ⟨[.tmp 3 (.int .i64)], [some 1], some [.tmp 2 .bool], []⟩) .none .none) .none)) .none) .none)))))))))))) .none)) .none))
def spec_ActOk_c : Ct := .pure true false (.pair T_Act .unit) .bool (fun x => spec_ActOk x.1)
theorem spec_ActOk_ct : CtOk Try.prog 69 spec_ActOk_c := pure_ct (E := { T := tab, G := [(66, spec_l1In_c), (87, spec_l9Plain_c), (88, spec_l9Part_c)] }) (EnvOk.cons spec_l1In_ct (EnvOk.cons spec_l9Plain_ct (EnvOk.cons spec_l9Part_ct (EnvOk.nil tabOk)))) mixed (fn := Try.f69) _ _ _ _ _ spec_ActOk_h Try.func69 (by kernel_rfl) (fun x => by kernel_rfl)
/-! loop.example/g00486/spec.EffectOk -/
def spec_EffectOk (a0 : T_Effect.D) : Option Bool :=
(((spec_l1In a0.1 1 99).bind fun y1 =>
 bif (!y1) then (
 some true)
 else (
(spec_l1In a0.2.1 0 2).bind fun y2 =>
 bif (!y2) then (
 some true)
 else (
(spec_l1In a0.2.2.1 0 99).bind fun y3 =>
 bif (!y3) then (
 some true)
 else (
(spec_l1In a0.2.2.2.1 0 4).bind fun y4 =>
 bif (!y4) then (
 some true)
 else (
(spec_l1In a0.2.2.2.2.2.2.2.1 (-1) 9999).bind fun y5 =>
 bif (!y5) then (
 some true)
 else (
(spec_l1In a0.2.2.2.2.2.2.2.2.1 (-1) 2147483647).bind fun y6 =>
 some (!y6))))))) : Option Bool).bind fun o7 =>
 bif o7 then (
 some false)
 else (
((bif (a0.2.2.2.1 == 0) then (
 bif (a0.2.2.1 == 0) then (
 some true)
 else (
 bif (a0.2.2.2.2.2.2.1.1 == 2) then (
 some (decide (a0.2.2.2.2.2.2.2.2.1 < 0)))
 else (
 some false)))
 else (
 bif (a0.2.2.2.2.2.2.1.1 == 2) then (
 some (decide (a0.2.2.2.2.2.2.2.2.1 < 0)))
 else (
 some false))) : Option Bool).bind fun o8 =>
 bif o8 then (
 some false)
 else (
(spec_PatOk a0.2.2.2.2.1).bind fun y9 =>
 bif y9 then (
(spec_GuardOk a0.2.2.2.2.2.1).bind fun y10 =>
 bif y10 then (
(spec_ActOk a0.2.2.2.2.2.2.1).bind fun y11 =>
 bif y11 then (
(spec_ActFits a0.2.2.2.2.2.2.1 a0.2.2.2.2.1.1).bind fun y12 =>
 some y12)
 else (
 some false))
 else (
 some false))
 else (
 some false)))
def spec_EffectOk_h : Hints := (.node none none .none (.node none none (.node none none (.node (some ⟨[.tmp 36 .bool], [none], none, []⟩) none .none .none) .none) (.node none none (.node none none (.node (some ⟨[.tmp 55 .bool], [none], none, []⟩) none .none .none) .none) .none)))
def spec_EffectOk_c : Ct := .pure true false (.pair T_Effect .unit) .bool (fun x => spec_EffectOk x.1)
theorem spec_EffectOk_ct : CtOk Try.prog 27 spec_EffectOk_c := pure_ct (E := { T := tab, G := [(29, spec_ActFits_c), (66, spec_l1In_c), (67, spec_PatOk_c), (68, spec_GuardOk_c), (69, spec_ActOk_c)] }) (EnvOk.cons spec_ActFits_ct (EnvOk.cons spec_l1In_ct (EnvOk.cons spec_PatOk_ct (EnvOk.cons spec_GuardOk_ct (EnvOk.cons spec_ActOk_ct (EnvOk.nil tabOk)))))) mixed (fn := Try.f27) _ _ _ _ _ spec_EffectOk_h Try.func27 (by kernel_rfl) (fun x => by kernel_rfl)
/-! loop.example/g00486/spec.l9Copy -/
def spec_l9Copy (a0 : T_Act.D) : Option T_Act.D :=
 if (([] : List T_Event.D).length + a0.2.2.2.2.2.2.1.length) * (24 * 7) ≤ room then (
 some (a0.1, a0.2.1, a0.2.2.1, a0.2.2.2.1, a0.2.2.2.2.1, a0.2.2.2.2.2.1, ([] ++ a0.2.2.2.2.2.2.1), ())) else none
def spec_l9Copy_c : Ct := .pure true false (.pair T_Act .unit) T_Act (fun x => spec_l9Copy x.1)
theorem spec_l9Copy_ct : CtOk Try.prog 70 spec_l9Copy_c := pure_ct (E := { T := tab, G := [] }) (EnvOk.nil tabOk) mixed (fn := Try.f70) _ _ _ _ _ .none Try.func70 (by kernel_rfl) (fun x => by kernel_rfl)
def spec_l9Copy_fresh_c : Ct := .pure true true (.pair T_Act .unit) T_Act (fun x => spec_l9Copy x.1)
theorem spec_l9Copy_fresh_ct : CtOk Try.prog 70 spec_l9Copy_fresh_c := pure_ct (E := { T := tab, G := [] }) (EnvOk.nil tabOk) mixed (fn := Try.f70) _ _ _ _ _ .none Try.func70 (by kernel_rfl) (fun x => by kernel_rfl)
/-! loop.example/g00486/spec.l10Copy -/
def spec_l10Copy (a0 : T_Effect.D) : Option T_Effect.D :=
(spec_l9Copy a0.2.2.2.2.2.2.1).bind fun y1 =>
 some (a0.1, a0.2.1, a0.2.2.1, a0.2.2.2.1, a0.2.2.2.2.1, a0.2.2.2.2.2.1, y1, a0.2.2.2.2.2.2.2)
def spec_l10Copy_c : Ct := .pure true false (.pair T_Effect .unit) T_Effect (fun x => spec_l10Copy x.1)
theorem spec_l10Copy_ct : CtOk Try.prog 30 spec_l10Copy_c := pure_ct (E := { T := tab, G := [(70, spec_l9Copy_fresh_c)] }) (EnvOk.cons spec_l9Copy_fresh_ct (EnvOk.nil tabOk)) mixed (fn := Try.f30) _ _ _ _ _ .none Try.func30 (by kernel_rfl) (fun x => by kernel_rfl)
def spec_l10Copy_fresh_c : Ct := .pure true true (.pair T_Effect .unit) T_Effect (fun x => spec_l10Copy x.1)
theorem spec_l10Copy_fresh_ct : CtOk Try.prog 30 spec_l10Copy_fresh_c := pure_ct (E := { T := tab, G := [(70, spec_l9Copy_fresh_c)] }) (EnvOk.cons spec_l9Copy_fresh_ct (EnvOk.nil tabOk)) mixed (fn := Try.f30) _ _ _ _ _ .none Try.func30 (by kernel_rfl) (fun x => by kernel_rfl)
/-! loop.example/g00486/spec.Upto -/
def spec_Upto (a0 : Int) (a1 : Int) : Option Int :=
((bif decide (a1 < a0) then (
 some a1)
 else (
 some a0)) : Option Int).bind fun o1 =>
 bif decide (o1 < 0) then (
 some 0)
 else (
 some o1)
def spec_Upto_h : Hints := (.node none none .none (.node none none .none (.node none none (.node none none .none (.node (some ⟨[.tmp 5 (.int .i64)], [none], none, []⟩) none .none .none)) .none)))
def spec_Upto_c : Ct := .pure true false T_Guard (.int .i64) (fun x => spec_Upto x.1 x.2.1)
theorem spec_Upto_ct : CtOk Try.prog 31 spec_Upto_c := pure_ct (E := { T := tab, G := [] }) (EnvOk.nil tabOk) mixed (fn := Try.f31) _ _ _ _ _ spec_Upto_h Try.func31 (by kernel_rfl) (fun x => by kernel_rfl)
/-! loop.example/g00486/spec.WithN -/
def spec_WithN (a0 : T_Event.D) (a1 : Int) : Option T_Event.D :=
(spec_Upto a1 2147483647).bind fun y1 =>
 some (a0.1, a0.2.1, a0.2.2.1, a0.2.2.2.1, y1, a0.2.2.2.2.2)
def spec_WithN_c : Ct := .pure true false (.pair T_Event (.pair (.int .i64) .unit)) T_Event (fun x => spec_WithN x.1 x.2.1)
theorem spec_WithN_ct : CtOk Try.prog 32 spec_WithN_c := pure_ct (E := { T := tab, G := [(31, spec_Upto_c)] }) (EnvOk.cons spec_Upto_ct (EnvOk.nil tabOk)) mixed (fn := Try.f32) _ _ _ _ _ .none Try.func32 (by kernel_rfl) (fun x => by kernel_rfl)
/-! loop.example/g00486/spec.Parts -/
def spec_Parts_l1 (a0 : T_Act.D) (a1 : T_Event.D) : ((List T_Event.D) × Int) → Option (((List T_Event.D) × Int) ⊕ ((List T_Event.D) × Int)) := fun s1 =>
((bif decide (s1.2 < (a0.2.2.2.2.2.2.1.length : Int)) then (
 some (a0.1 == 9))
 else (
 some false)) : Option Bool).bind fun o2 =>
 bif o2 then (
 idx a0.2.2.2.2.2.2.1 s1.2 fun x3 =>
((bif (x3.2.2.2.2.1 == (-1)) then (
(spec_Upto a1.2.2.2.2.1 2147483647).bind fun y4 =>
 some (x3.1, x3.2.1, x3.2.2.1, x3.2.2.2.1, y4, x3.2.2.2.2.2))
 else (
 some x3)) : Option T_Event.D).bind fun o5 =>
 if (s1.1.length + [o5].length) * (24 * 7) ≤ room then (
 some (.inl ((s1.1 ++ [o5]), IntKind.wrap .i64 (s1.2 + 1)))) else none)
 else (
 some (.inr s1))
def spec_Parts (a0 : T_Act.D) (a1 : T_Event.D) : Option (List T_Event.D) :=
(while_ (spec_Parts_l1 a0 a1) ([], 0)).bind fun o6 =>
 some o6.1
def spec_Parts_h : Hints := (.node none none .none (.node none none .none (.node none none (.node none none .none (.node none none (.node none (some ⟨[.tmpO 5 0 (.slice T_Event), .tmp 6 (.int .i64)], [some 0], none, []⟩) (.node none none (.node none none (.node (some ⟨[.tmp 18 .bool], [none], none, []⟩) none .none .none) .none) (.node none none (.node none none (.node none none .none (.node none none (.node none none .none (.node (some ⟨[.box 7 0 T_Event], [none], none, [(7, 0)]⟩) none .none .none)) .none)) .none) .none)) .none) .none)) .none)))
def spec_Parts_c : Ct := .pure true false (.pair T_Act (.pair T_Event .unit)) (.slice T_Event) (fun x => spec_Parts x.1 x.2.1)
theorem spec_Parts_ct : CtOk Try.prog 33 spec_Parts_c := pure_ct (E := { T := tab, G := [(31, spec_Upto_c)] }) (EnvOk.cons spec_Upto_ct (EnvOk.nil tabOk)) mixed (fn := Try.f33) _ _ _ _ _ spec_Parts_h Try.func33 (by kernel_rfl) (fun x => by kernel_rfl)
def spec_Parts_fresh_c : Ct := .pure true true (.pair T_Act (.pair T_Event .unit)) (.slice T_Event) (fun x => spec_Parts x.1 x.2.1)
theorem spec_Parts_fresh_ct : CtOk Try.prog 33 spec_Parts_fresh_c := pure_ct (E := { T := tab, G := [(31, spec_Upto_c)] }) (EnvOk.cons spec_Upto_ct (EnvOk.nil tabOk)) mixed (fn := Try.f33) _ _ _ _ _ spec_Parts_h Try.func33 (by kernel_rfl) (fun x => by kernel_rfl)
/-! loop.example/g00486/spec.Bound -/
def spec_Bound (a0 : Int) : Option Int :=
 bif decide (a0 > 2147483647) then (
 some 2147483647)
 else (
 bif decide (a0 < (-2147483647)) then (
 some (-2147483647))
 else (
 some a0))
def spec_Bound_c : Ct := .pure true false (.pair (.int .i64) .unit) (.int .i64) (fun x => spec_Bound x.1)
theorem spec_Bound_ct : CtOk Try.prog 92 spec_Bound_c := pure_ct (E := { T := tab, G := [] }) (EnvOk.nil tabOk) mixed (fn := Try.f92) _ _ _ _ _ .none Try.func92 (by kernel_rfl) (fun x => by kernel_rfl)
/-! loop.example/g00486/spec.Plus -/
def spec_Plus (a0 : Int) (a1 : Int) : Option Int :=
(spec_Bound a0).bind fun y1 =>
(spec_Bound a1).bind fun y2 =>
(spec_Bound (IntKind.wrap .i64 (y1 + y2))).bind fun y3 =>
 some y3
def spec_Plus_c : Ct := .pure true false T_Guard (.int .i64) (fun x => spec_Plus x.1 x.2.1)
theorem spec_Plus_ct : CtOk Try.prog 89 spec_Plus_c := pure_ct (E := { T := tab, G := [(92, spec_Bound_c)] }) (EnvOk.cons spec_Bound_ct (EnvOk.nil tabOk)) mixed (fn := Try.f89) _ _ _ _ _ .none Try.func89 (by kernel_rfl) (fun x => by kernel_rfl)
/-! loop.example/g00486/spec.Twice -/
def spec_Twice (a0 : Int) : Option Int :=
(spec_Bound a0).bind fun y1 =>
(spec_Bound (IntKind.wrap .i64 (2 * y1))).bind fun y2 =>
 some y2
def spec_Twice_c : Ct := .pure true false (.pair (.int .i64) .unit) (.int .i64) (fun x => spec_Twice x.1)
theorem spec_Twice_ct : CtOk Try.prog 90 spec_Twice_c := pure_ct (E := { T := tab, G := [(92, spec_Bound_c)] }) (EnvOk.cons spec_Bound_ct (EnvOk.nil tabOk)) mixed (fn := Try.f90) _ _ _ _ _ .none Try.func90 (by kernel_rfl) (fun x => by kernel_rfl)
/-! loop.example/g00486/spec.Half -/
def spec_Half (a0 : Int) : Option Int :=
(spec_Bound a0).bind fun y1 =>
 if 2 = 0 then none else (
 some (IntKind.wrap .i64 (y1.tdiv 2)))
def spec_Half_c : Ct := .pure true false (.pair (.int .i64) .unit) (.int .i64) (fun x => spec_Half x.1)
theorem spec_Half_ct : CtOk Try.prog 91 spec_Half_c := pure_ct (E := { T := tab, G := [(92, spec_Bound_c)] }) (EnvOk.cons spec_Bound_ct (EnvOk.nil tabOk)) mixed (fn := Try.f91) _ _ _ _ _ .none Try.func91 (by kernel_rfl) (fun x => by kernel_rfl)
/-! loop.example/g00486/spec.Amount -/
def spec_Amount (a0 : T_Act.D) (a1 : Int) : Option Int :=
(spec_Upto a1 2147483647).bind fun y1 =>
 bif (a0.1 == 1) then (
 some 0)
 else (
 bif (a0.1 == 3) then (
(spec_Plus y1 a0.2.1).bind fun y2 =>
 some y2)
 else (
 bif (a0.1 == 4) then (
(spec_Twice y1).bind fun y3 =>
 some y3)
 else (
 bif (a0.1 == 5) then (
(spec_Half y1).bind fun y4 =>
 some y4)
 else (
 some y1))))
def spec_Amount_c : Ct := .pure true false (.pair T_Act (.pair (.int .i64) .unit)) (.int .i64) (fun x => spec_Amount x.1 x.2.1)
theorem spec_Amount_ct : CtOk Try.prog 71 spec_Amount_c := pure_ct (E := { T := tab, G := [(31, spec_Upto_c), (89, spec_Plus_c), (90, spec_Twice_c), (91, spec_Half_c)] }) (EnvOk.cons spec_Upto_ct (EnvOk.cons spec_Plus_ct (EnvOk.cons spec_Twice_ct (EnvOk.cons spec_Half_ct (EnvOk.nil tabOk))))) mixed (fn := Try.f71) _ _ _ _ _ .none Try.func71 (by kernel_rfl) (fun x => by kernel_rfl)
/-! loop.example/g00486/spec.l13One -/
def spec_l13One (a0 : T_Act.D) (a1 : T_Event.D) : Option T_Event.D :=
((bif (a0.1 == 3) then (
 some (a0.1 == 3))
 else (
((bif (a0.1 == 4) then (
 some (a0.1 == 4))
 else (
 some (a0.1 == 5))) : Option Bool).bind fun o1 =>
 some o1)) : Option Bool).bind fun o2 =>
 bif o2 then (
(spec_Amount a0 a1.2.2.2.2.1).bind fun y3 =>
(spec_WithN a1 y3).bind fun y4 =>
 some y4)
 else (
 bif (a0.1 == 6) then (
 some (a1.1, a1.2.1, a0.2.2.1, a0.2.2.2.1, a1.2.2.2.2))
 else (
 bif (a0.1 == 7) then (
 bif (a0.2.2.2.2.1 != 2) then (
 some (a1.1, a1.2.1, a1.2.2.1, a1.2.2.2.1, 0, a0.2.2.2.2.1, false, ()))
 else (
 some (a1.1, a1.2.1, a1.2.2.1, a1.2.2.2.1, a1.2.2.2.2.1, a0.2.2.2.2.1, a1.2.2.2.2.2.2)))
 else (
 bif (a0.1 == 8) then (
 bif (a1.2.2.2.2.2.1 == 2) then (
(spec_Upto (IntKind.wrap .i64 (a1.2.2.2.2.1 + a0.2.1)) 99).bind fun y5 =>
 bif a1.2.2.2.2.2.2.1 then (
 some (a1.1, a1.2.1, a1.2.2.1, a1.2.2.2.1, y5, a1.2.2.2.2.2.1, true, ()))
 else (
 some (a1.1, a1.2.1, a1.2.2.1, a1.2.2.2.1, y5, a1.2.2.2.2.2.1, a0.2.2.2.2.2.1, ())))
 else (
 some a1))
 else (
 some a1))))
def spec_l13One_h : Hints := (.node none none .none (.node none none (.node none none .none (.node none none (.node none none (.node none none .none (.node (some ⟨[.tmp 7 .bool], [none], none, []⟩) none .none (.node none none .none (.node (some ⟨[.tmp 7 .bool], [none], none, []⟩) none .none .none)))) .none) .none)) .none))
def spec_l13One_c : Ct := .pure true false (.pair T_Act (.pair T_Event .unit)) T_Event (fun x => spec_l13One x.1 x.2.1)
theorem spec_l13One_ct : CtOk Try.prog 34 spec_l13One_c := pure_ct (E := { T := tab, G := [(31, spec_Upto_c), (32, spec_WithN_c), (71, spec_Amount_c)] }) (EnvOk.cons spec_Upto_ct (EnvOk.cons spec_WithN_ct (EnvOk.cons spec_Amount_ct (EnvOk.nil tabOk)))) mixed (fn := Try.f34) _ _ _ _ _ spec_l13One_h Try.func34 (by kernel_rfl) (fun x => by kernel_rfl)
/-! loop.example/g00486/spec.Gone -/
def spec_Gone (a0 : T_Event.D) : Option Bool :=
 bif (a0.2.2.2.2.1 == 0) then (
 some (a0.1 != 2))
 else (
 some false)
def spec_Gone_c : Ct := .pure true false (.pair T_Event .unit) .bool (fun x => spec_Gone x.1)
theorem spec_Gone_ct : CtOk Try.prog 12 spec_Gone_c := pure_ct (E := { T := tab, G := [] }) (EnvOk.nil tabOk) mixed (fn := Try.f12) _ _ _ _ _ .none Try.func12 (by kernel_rfl) (fun x => by kernel_rfl)
/-! loop.example/g00486/spec.Less -/
def spec_Less (a0 : Int) (a1 : Int) : Option Int :=
(spec_Bound a0).bind fun y1 =>
(spec_Bound a1).bind fun y2 =>
(spec_Bound (IntKind.wrap .i64 (y1 - y2))).bind fun y3 =>
 some y3
def spec_Less_c : Ct := .pure true false T_Guard (.int .i64) (fun x => spec_Less x.1 x.2.1)
theorem spec_Less_ct : CtOk Try.prog 72 spec_Less_c := pure_ct (E := { T := tab, G := [(92, spec_Bound_c)] }) (EnvOk.cons spec_Bound_ct (EnvOk.nil tabOk)) mixed (fn := Try.f72) _ _ _ _ _ .none Try.func72 (by kernel_rfl) (fun x => by kernel_rfl)
/-! loop.example/g00486/spec.Spent -/
def spec_Spent (a0 : T_Effect.D) (a1 : Int) : Option T_Effect.D :=
(spec_l10Copy a0).bind fun y1 =>
 bif (a0.2.2.2.2.2.2.1.1 == 2) then (
(spec_Less a0.2.2.2.2.2.2.2.2.1 a1).bind fun y2 =>
(spec_Upto y2 2147483647).bind fun y3 =>
 some (y1.1, y1.2.1, y1.2.2.1, y1.2.2.2.1, y1.2.2.2.2.1, y1.2.2.2.2.2.1, y1.2.2.2.2.2.2.1, y1.2.2.2.2.2.2.2.1, y3, ()))
 else (
 bif decide (a0.2.2.2.2.2.2.2.2.1 > 0) then (
 some (y1.1, y1.2.1, y1.2.2.1, y1.2.2.2.1, y1.2.2.2.2.1, y1.2.2.2.2.2.1, y1.2.2.2.2.2.2.1, y1.2.2.2.2.2.2.2.1, IntKind.wrap .i64 (a0.2.2.2.2.2.2.2.2.1 - 1), ()))
 else (
 some y1))
def spec_Spent_c : Ct := .pure true false (.pair T_Effect (.pair (.int .i64) .unit)) T_Effect (fun x => spec_Spent x.1 x.2.1)
theorem spec_Spent_ct : CtOk Try.prog 35 spec_Spent_c := pure_ct (E := { T := tab, G := [(30, spec_l10Copy_fresh_c), (31, spec_Upto_c), (72, spec_Less_c)] }) (EnvOk.cons spec_l10Copy_fresh_ct (EnvOk.cons spec_Upto_ct (EnvOk.cons spec_Less_ct (EnvOk.nil tabOk)))) mixed (fn := Try.f35) _ _ _ _ _ .none Try.func35 (by kernel_rfl) (fun x => by kernel_rfl)
def spec_Spent_fresh_c : Ct := .pure true true (.pair T_Effect (.pair (.int .i64) .unit)) T_Effect (fun x => spec_Spent x.1 x.2.1)
theorem spec_Spent_fresh_ct : CtOk Try.prog 35 spec_Spent_fresh_c := pure_ct (E := { T := tab, G := [(30, spec_l10Copy_fresh_c), (31, spec_Upto_c), (72, spec_Less_c)] }) (EnvOk.cons spec_l10Copy_fresh_ct (EnvOk.cons spec_Upto_ct (EnvOk.cons spec_Less_ct (EnvOk.nil tabOk)))) mixed (fn := Try.f35) _ _ _ _ _ .none Try.func35 (by kernel_rfl) (fun x => by kernel_rfl)
/-! loop.example/g00486/spec.DoAct -/
def spec_DoAct_l1 (o13 : ((List T_Event.D) × Int)) : ((List T_Event.D) × Int) → Option (((List T_Event.D) × Int) ⊕ ((List T_Event.D) × Int)) := fun s14 =>
 bif decide (s14.2 < (o13.1.length : Int)) then (
((idx o13.1 s14.2 fun _ =>
(o13.1[(s14.2 : Int).toNat]?).bind fun x15 =>
(spec_EventOk x15).bind fun y16 =>
 bif y16 then (
 idx o13.1 s14.2 fun _ =>
(o13.1[(s14.2 : Int).toNat]?).bind fun x17 =>
(spec_Gone x17).bind fun y18 =>
 some (!y18))
 else (
 some false)) : Option Bool).bind fun o19 =>
((bif o19 then (
 idx o13.1 s14.2 fun _ =>
(o13.1[(s14.2 : Int).toNat]?).bind fun x20 =>
 if (s14.1.length + [x20].length) * (24 * 7) ≤ room then (
 some (s14.1 ++ [x20])) else none)
 else (
 some s14.1)) : Option (List T_Event.D)).bind fun o21 =>
 some (.inl (o21, IntKind.wrap .i64 (s14.2 + 1))))
 else (
 some (.inr s14))
def spec_DoAct (a0 : T_Effect.D) (a1 : T_Event.D) : Option ((List T_Event.D) × (Int × (T_Effect.D × Unit))) :=
(((spec_EffectOk a0).bind fun y1 =>
 bif (!y1) then (
 some true)
 else (
(spec_EventOk a1).bind fun y2 =>
 bif (!y2) then (
 some true)
 else (
(spec_ActFits a0.2.2.2.2.2.2.1 a1.1).bind fun y3 =>
 some (!y3)))) : Option Bool).bind fun o4 =>
 bif o4 then (
(spec_l10Copy a0).bind fun y5 =>
 some ([a1], 0, y5, ()))
 else (
((bif (a0.2.2.2.2.2.2.1.1 == 1) then (
((bif (a1.1 == 1) then (
 some a1.2.2.2.2.1)
 else (
 some 0)) : Option Int).bind fun o6 =>
 some ([], o6))
 else (
((bif (a0.2.2.2.2.2.2.1.1 == 2) then (
(spec_Upto a1.2.2.2.2.1 a0.2.2.2.2.2.2.2.2.1).bind fun y7 =>
(spec_WithN a1 (IntKind.wrap .i64 (a1.2.2.2.2.1 - y7))).bind fun y8 =>
 if (([] : List T_Event.D).length + [y8].length) * (24 * 7) ≤ room then (
 some (([] ++ [y8]), y7)) else none)
 else (
((bif (a0.2.2.2.2.2.2.1.1 == 9) then (
(spec_Parts a0.2.2.2.2.2.2.1 a1).bind fun y9 =>
 some y9)
 else (
(spec_l13One a0.2.2.2.2.2.2.1 a1).bind fun y10 =>
 if (([] : List T_Event.D).length + [y10].length) * (24 * 7) ≤ room then (
 some ([] ++ [y10])) else none)) : Option (List T_Event.D)).bind fun o11 =>
 some (o11, 0))) : Option ((List T_Event.D) × Int)).bind fun o12 =>
 some o12)) : Option ((List T_Event.D) × Int)).bind fun o13 =>
(while_ (spec_DoAct_l1 o13) ([], 0)).bind fun o22 =>
(spec_Spent a0 o13.2).bind fun y23 =>
 some (o22.1, o13.2, y23, ()))
def spec_DoAct_h : Hints := (.node none none .none (.node none none (.node none none (.node (some ⟨[.tmp 26 .bool], [none], none, []⟩) none .none .none) .none) (.node none none .none (.node none none .none (.node none none (.node none none .none (.node none none (.node none none .none (.node (some ⟨[.tmpO 7 0 (.slice T_Event), .tmp 8 (.int .i64)], [none], none, [(31, 0)]⟩) none (.node none none .none (.node (some ⟨[.tmp 8 (.int .i64)], [none], none, []⟩) none .none .none)) (.node none none .none (.node (some ⟨[.tmpO 7 0 (.slice T_Event), .tmp 8 (.int .i64)], [none], none, [(31, 0)]⟩) none .none (.node none none .none (.node (some ⟨[.tmpO 7 0 (.slice T_Event)], [none], none, [(31, 0)]⟩) none .none .none)))))) .none)) (.node none none .none (.node none none (.node none none .none (.node none none (.node none (some ⟨[.tmpO 9 0 (.slice T_Event), .tmp 10 (.int .i64)], [some 1], none, []⟩) (.node none none .none (.node none none (.node none none (.node none none (.node (some ⟨[.tmp 90 .bool], [none], none, []⟩) none .none .none) (.node (some ⟨[.tmpO 9 1 (.slice T_Event)], [none], none, [(9, 0)]⟩) none .none .none)) .none) .none)) .none) .none)) .none)))))))
def spec_DoAct_c : Ct := .pure false false (.pair T_Effect (.pair T_Event .unit)) (.pair (.slice T_Event) (.pair (.int .i64) (.pair T_Effect .unit))) (fun x => spec_DoAct x.1 x.2.1)
theorem spec_DoAct_ct : CtOk Try.prog 7 spec_DoAct_c := pure_ct (E := { T := tab, G := [(12, spec_Gone_c), (27, spec_EffectOk_c), (28, spec_EventOk_c), (29, spec_ActFits_c), (30, spec_l10Copy_fresh_c), (31, spec_Upto_c), (32, spec_WithN_c), (33, spec_Parts_fresh_c), (34, spec_l13One_c), (35, spec_Spent_fresh_c)] }) (EnvOk.cons spec_Gone_ct (EnvOk.cons spec_EffectOk_ct (EnvOk.cons spec_EventOk_ct (EnvOk.cons spec_ActFits_ct (EnvOk.cons spec_l10Copy_fresh_ct (EnvOk.cons spec_Upto_ct (EnvOk.cons spec_WithN_ct (EnvOk.cons spec_Parts_fresh_ct (EnvOk.cons spec_l13One_ct (EnvOk.cons spec_Spent_fresh_ct (EnvOk.nil tabOk))))))))))) mixed (fn := Try.f7) _ _ _ _ _ spec_DoAct_h Try.func7 (by kernel_rfl) (fun x => by kernel_rfl)
def spec_DoAct_fresh_c : Ct := .pure false true (.pair T_Effect (.pair T_Event .unit)) (.pair (.slice T_Event) (.pair (.int .i64) (.pair T_Effect .unit))) (fun x => spec_DoAct x.1 x.2.1)
theorem spec_DoAct_fresh_ct : CtOk Try.prog 7 spec_DoAct_fresh_c := pure_ct (E := { T := tab, G := [(12, spec_Gone_c), (27, spec_EffectOk_c), (28, spec_EventOk_c), (29, spec_ActFits_c), (30, spec_l10Copy_fresh_c), (31, spec_Upto_c), (32, spec_WithN_c), (33, spec_Parts_fresh_c), (34, spec_l13One_c), (35, spec_Spent_fresh_c)] }) (EnvOk.cons spec_Gone_ct (EnvOk.cons spec_EffectOk_ct (EnvOk.cons spec_EventOk_ct (EnvOk.cons spec_ActFits_ct (EnvOk.cons spec_l10Copy_fresh_ct (EnvOk.cons spec_Upto_ct (EnvOk.cons spec_WithN_ct (EnvOk.cons spec_Parts_fresh_ct (EnvOk.cons spec_l13One_ct (EnvOk.cons spec_Spent_fresh_ct (EnvOk.nil tabOk))))))))))) mixed (fn := Try.f7) _ _ _ _ _ spec_DoAct_h Try.func7 (by kernel_rfl) (fun x => by kernel_rfl)
/-! loop.example/g00486/spec.DrawGone -/
def spec_DrawGone (a0 : (List Int)) : Option T_Event.D :=
(spec_l1New a0).bind fun y1 =>
(spec_l5Draw y1).bind fun y2 =>
(spec_l6Any y2.2.1 y2.1).bind fun y3 =>
 some y3.1
def spec_DrawGone_c : Ct := .pure true false (.pair (.slice (.int .u8)) .unit) T_Event (fun x => spec_DrawGone x.1)
theorem spec_DrawGone_ct : CtOk Try.prog 8 spec_DrawGone_c := pure_ct (E := { T := tab, G := [(17, spec_l1New_c), (18, spec_l5Draw_c), (20, spec_l6Any_c)] }) (EnvOk.cons spec_l1New_ct (EnvOk.cons spec_l5Draw_ct (EnvOk.cons spec_l6Any_ct (EnvOk.nil tabOk)))) mixed (fn := Try.f8) _ _ _ _ _ .none Try.func8 (by kernel_rfl) (fun x => by kernel_rfl)
/-! loop.example/g00486/laws.sameEvents -/
def laws_sameEvents_l1 (a0 : (List T_Event.D)) (a1 : (List T_Event.D)) : Int → Option (Int ⊕ (Int ⊕ Bool)) := fun s1 =>
 bif decide (s1 < (a0.length : Int)) then (
 idx a0 s1 fun x2 =>
 idx a1 s1 fun x3 =>
 bif (!((x2.1 == x3.1) && ((x2.2.1 == x3.2.1) && ((x2.2.2.1 == x3.2.2.1) && ((x2.2.2.2.1 == x3.2.2.2.1) && ((x2.2.2.2.2.1 == x3.2.2.2.2.1) && ((x2.2.2.2.2.2.1 == x3.2.2.2.2.2.1) && ((x2.2.2.2.2.2.2.1 == x3.2.2.2.2.2.2.1) && true)))))))) then (
 some (.inr (.inr false)))
 else (
 some (.inl (IntKind.wrap .i64 (s1 + 1)))))
 else (
 some (.inr (.inl s1)))
def laws_sameEvents (a0 : (List T_Event.D)) (a1 : (List T_Event.D)) : Option Bool :=
 bif ((a0.length : Int) != (a1.length : Int)) then (
 some false)
 else (
(while_ (laws_sameEvents_l1 a0 a1) 0).bind fun o4 =>
 match o4 with
| .inl s5 => (
 some true)
| .inr o6 => (
 some o6))
def laws_sameEvents_h : Hints := (.node none none .none (.node none none .none (.node none none (.node none none .none (.node none none (.node none (some ⟨[.tmp 5 (.int .i64)], [some 0], some [.tmp 4 .bool], []⟩) .none .none) .none)) .none)))
def laws_sameEvents_c : Ct := .pure true false (.pair (.slice T_Event) (.pair (.slice T_Event) .unit)) .bool (fun x => laws_sameEvents x.1 x.2.1)
theorem laws_sameEvents_ct : CtOk Try.prog 9 laws_sameEvents_c := pure_ct (E := { T := tab, G := [] }) (EnvOk.nil tabOk) mixed (fn := Try.f9) _ _ _ _ _ laws_sameEvents_h Try.func9 (by kernel_rfl) (fun x => by kernel_rfl)
/-! slices.Equal[[]loop.example/g00486/impl.Event,loop.example/g00486/impl.Event] -/
def slices_Equal_impl_Event_l1 (a0 : (List T_Event.D)) (a1 : (List T_Event.D)) : Int → Option (Int ⊕ (Int ⊕ Bool)) := fun s1 =>
 bif decide (s1 < (a0.length : Int)) then (
 idx a0 s1 fun x2 =>
 idx a1 s1 fun x3 =>
 bif (!((x2.1 == x3.1) && ((x2.2.1 == x3.2.1) && ((x2.2.2.1 == x3.2.2.1) && ((x2.2.2.2.1 == x3.2.2.2.1) && ((x2.2.2.2.2.1 == x3.2.2.2.2.1) && ((x2.2.2.2.2.2.1 == x3.2.2.2.2.2.1) && ((x2.2.2.2.2.2.2.1 == x3.2.2.2.2.2.2.1) && true)))))))) then (
 some (.inr (.inr false)))
 else (
 some (.inl (IntKind.wrap .i64 (s1 + 1)))))
 else (
 some (.inr (.inl s1)))
def slices_Equal_impl_Event (a0 : (List T_Event.D)) (a1 : (List T_Event.D)) : Option Bool :=
 bif ((a0.length : Int) != (a1.length : Int)) then (
 some false)
 else (
(while_ (slices_Equal_impl_Event_l1 a0 a1) 0).bind fun o4 =>
 match o4 with
| .inl s5 => (
 some true)
| .inr o6 => (
 some o6))
def slices_Equal_impl_Event_h : Hints := (.node none none .none (.node none none .none (.node none none (.node none none .none (.node none none (.node none (some ⟨[.tmp 13 (.int .i64)], [some 0], some [.tmp 4 .bool], []⟩) .none .none) .none)) .none)))
def slices_Equal_impl_Event_c : Ct := .pure true false (.pair (.slice T_Event) (.pair (.slice T_Event) .unit)) .bool (fun x => slices_Equal_impl_Event x.1 x.2.1)
theorem slices_Equal_impl_Event_ct : CtOk Try.prog 73 slices_Equal_impl_Event_c := pure_ct (E := { T := tab, G := [] }) (EnvOk.nil tabOk) mixed (fn := Try.f73) _ _ _ _ _ slices_Equal_impl_Event_h Try.func73 (by kernel_rfl) (fun x => by kernel_rfl)
/-! loop.example/g00486/impl.sameAct -/
def impl_sameAct (a0 : T_Act.D) (a1 : T_Act.D) : Option Bool :=
 bif (a0.1 == a1.1) then (
 bif (a0.2.1 == a1.2.1) then (
 bif (a0.2.2.1 == a1.2.2.1) then (
 bif (a0.2.2.2.1 == a1.2.2.2.1) then (
 bif (a0.2.2.2.2.1 == a1.2.2.2.2.1) then (
 bif (a0.2.2.2.2.2.1 == a1.2.2.2.2.2.1) then (
(slices_Equal_impl_Event a0.2.2.2.2.2.2.1 a1.2.2.2.2.2.2.1).bind fun y1 =>
 some y1)
 else (
 some false))
 else (
 some false))
 else (
 some false))
 else (
 some false))
 else (
 some false))
 else (
 some false)
def impl_sameAct_c : Ct := .pure true false (.pair T_Act (.pair T_Act .unit)) .bool (fun x => impl_sameAct x.1 x.2.1)
theorem impl_sameAct_ct : CtOk Try.prog 36 impl_sameAct_c := pure_ct (E := { T := tab, G := [(73, slices_Equal_impl_Event_c)] }) (EnvOk.cons slices_Equal_impl_Event_ct (EnvOk.nil tabOk)) mixed (fn := Try.f36) _ _ _ _ _ .none Try.func36 (by kernel_rfl) (fun x => by kernel_rfl)
/-! loop.example/g00486/impl.SameEffect -/
def impl_SameEffect (a0 : T_Effect.D) (a1 : T_Effect.D) : Option Bool :=
 bif (a0.1 == a1.1) then (
 bif (a0.2.1 == a1.2.1) then (
 bif (a0.2.2.1 == a1.2.2.1) then (
 bif (a0.2.2.2.1 == a1.2.2.2.1) then (
 bif ((a0.2.2.2.2.1.1 == a1.2.2.2.2.1.1) && ((a0.2.2.2.2.1.2.1 == a1.2.2.2.2.1.2.1) && ((a0.2.2.2.2.1.2.2.1 == a1.2.2.2.2.1.2.2.1) && ((a0.2.2.2.2.1.2.2.2.1 == a1.2.2.2.2.1.2.2.2.1) && ((a0.2.2.2.2.1.2.2.2.2.1 == a1.2.2.2.2.1.2.2.2.2.1) && ((a0.2.2.2.2.1.2.2.2.2.2.1 == a1.2.2.2.2.1.2.2.2.2.2.1) && ((a0.2.2.2.2.1.2.2.2.2.2.2.1 == a1.2.2.2.2.1.2.2.2.2.2.2.1) && true))))))) then (
 bif ((a0.2.2.2.2.2.1.1 == a1.2.2.2.2.2.1.1) && ((a0.2.2.2.2.2.1.2.1 == a1.2.2.2.2.2.1.2.1) && true)) then (
(impl_sameAct a0.2.2.2.2.2.2.1 a1.2.2.2.2.2.2.1).bind fun y1 =>
 bif y1 then (
 bif (a0.2.2.2.2.2.2.2.1 == a1.2.2.2.2.2.2.2.1) then (
 some (a0.2.2.2.2.2.2.2.2.1 == a1.2.2.2.2.2.2.2.2.1))
 else (
 some false))
 else (
 some false))
 else (
 some false))
 else (
 some false))
 else (
 some false))
 else (
 some false))
 else (
 some false))
 else (
 some false)
def impl_SameEffect_c : Ct := .pure true false (.pair T_Effect (.pair T_Effect .unit)) .bool (fun x => impl_SameEffect x.1 x.2.1)
theorem impl_SameEffect_ct : CtOk Try.prog 10 impl_SameEffect_c := pure_ct (E := { T := tab, G := [(36, impl_sameAct_c)] }) (EnvOk.cons impl_sameAct_ct (EnvOk.nil tabOk)) mixed (fn := Try.f10) _ _ _ _ _ .none Try.func10 (by kernel_rfl) (fun x => by kernel_rfl)
/-! loop.example/g00486/impl.Total -/
def impl_Total_l1 (a0 : (List T_Event.D)) : (Int × Int) → Option ((Int × Int) ⊕ (Int × Int)) := fun s1 =>
 bif decide (s1.2 < (a0.length : Int)) then (
 idx a0 s1.2 fun x2 =>
 bif (x2.1 == 1) then (
(impl_Upto x2.2.2.2.2.1 2147483647).bind fun y3 =>
 some (.inl (IntKind.wrap .i64 (s1.1 + y3), IntKind.wrap .i64 (s1.2 + 1))))
 else (
 some (.inl (s1.1, IntKind.wrap .i64 (s1.2 + 1)))))
 else (
 some (.inr s1))
def impl_Total (a0 : (List T_Event.D)) : Option Int :=
(while_ (impl_Total_l1 a0) (0, 0)).bind fun o4 =>
 some o4.1
def impl_Total_h : Hints := (.node none none .none (.node none none .none (.node none none (.node none none .none (.node none none (.node none (some ⟨[.tmp 3 (.int .i64), .tmp 8 (.int .i64)], [some 0], none, []⟩) .none .none) .none)) .none)))
def impl_Total_c : Ct := .pure true false (.pair (.slice T_Event) .unit) (.int .i64) (fun x => impl_Total x.1)
theorem impl_Total_ct : CtOk Try.prog 16 impl_Total_c := pure_ct (E := { T := tab, G := [(48, impl_Upto_c)] }) (EnvOk.cons impl_Upto_ct (EnvOk.nil tabOk)) mixed (fn := Try.f16) _ _ _ _ _ impl_Total_h Try.func16 (by kernel_rfl) (fun x => by kernel_rfl)
/-! loop.example/g00486/laws.FnActed -/
def laws_FnActed_l1 (y3 : ((List T_Event.D) × (Int × (T_Effect.D × Unit)))) : Int → Option (Int ⊕ (Int ⊕ Bool)) := fun s17 =>
 bif decide (s17 < (y3.1.length : Int)) then (
((idx y3.1 s17 fun _ =>
(y3.1[(s17 : Int).toNat]?).bind fun x18 =>
(impl_EventOk x18).bind fun y19 =>
 bif (!y19) then (
 some true)
 else (
 idx y3.1 s17 fun _ =>
(y3.1[(s17 : Int).toNat]?).bind fun x20 =>
(impl_Gone x20).bind fun y21 =>
 some y21)) : Option Bool).bind fun o22 =>
 bif o22 then (
 some (.inr (.inr false)))
 else (
 some (.inl (IntKind.wrap .i64 (s17 + 1)))))
 else (
 some (.inr (.inl s17)))
def laws_FnActed (a0 : (List Int)) : Option Bool :=
(laws_big a0).bind fun y1 =>
 bif y1 then (
 some true)
 else (
(spec_DrawDoAct a0).bind fun y2 =>
(impl_DoAct y2.1 y2.2.1).bind fun y3 =>
(spec_DoAct y2.1 y2.2.1).bind fun y4 =>
(spec_DrawGone a0).bind fun y5 =>
(((laws_sameEvents y3.1 y4.1).bind fun y6 =>
 bif (!y6) then (
 some true)
 else (
 bif (y3.2.1 != y4.2.1) then (
 some true)
 else (
(impl_SameEffect y3.2.2.1 y4.2.2.1).bind fun y7 =>
 bif (!y7) then (
 some true)
 else (
(impl_Gone y5).bind fun y8 =>
(spec_Gone y5).bind fun y9 =>
 some (y8 != y9))))) : Option Bool).bind fun o10 =>
 bif o10 then (
 some false)
 else (
(((impl_EffectOk y2.1).bind fun y11 =>
 bif (!y11) then (
 some true)
 else (
(impl_EventOk y2.2.1).bind fun y12 =>
 bif (!y12) then (
 some true)
 else (
(impl_ActFits y2.1.2.2.2.2.2.2.1 y2.2.1.1).bind fun y13 =>
 some (!y13)))) : Option Bool).bind fun o14 =>
 bif o14 then (
((bif ((y3.1.length : Int) == 1) then (
 idx y3.1 0 fun _ =>
(y3.1[(0 : Int).toNat]?).bind fun x15 =>
 bif ((x15.1 == y2.2.1.1) && ((x15.2.1 == y2.2.1.2.1) && ((x15.2.2.1 == y2.2.1.2.2.1) && ((x15.2.2.2.1 == y2.2.1.2.2.2.1) && ((x15.2.2.2.2.1 == y2.2.1.2.2.2.2.1) && ((x15.2.2.2.2.2.1 == y2.2.1.2.2.2.2.2.1) && ((x15.2.2.2.2.2.2.1 == y2.2.1.2.2.2.2.2.2.1) && true))))))) then (
 some (y3.2.1 == 0))
 else (
 some false))
 else (
 some false)) : Option Bool).bind fun o16 =>
 some o16)
 else (
(while_ (laws_FnActed_l1 y3) 0).bind fun o23 =>
 match o23 with
| .inl s24 => (
((bif (y2.1.2.2.2.2.2.2.1.1 == 2) then (
 bif (y3.2.2.1.2.2.2.2.2.2.2.2.1 != (IntKind.wrap .i64 (y2.1.2.2.2.2.2.2.2.2.1 - y3.2.1))) then (
 some true)
 else (
(impl_Total y3.1).bind fun y26 =>
 some (y26 != (IntKind.wrap .i64 (y2.2.1.2.2.2.2.1 - y3.2.1)))))
 else (
 some false)) : Option Bool).bind fun o27 =>
 bif o27 then (
 some false)
 else (
 bif decide ((y3.1.length : Int) ≤ 3) then (
 bif decide (y3.2.1 ≥ 0) then (
 bif decide (y3.2.1 ≤ y2.2.1.2.2.2.2.1) then (
 bif (y2.1.2.2.2.2.2.2.1.1 != 6) then (
 bif (y2.1.2.2.2.2.2.2.1.1 != 1) then (
 some true)
 else (
 some ((y3.1.length : Int) == 0)))
 else (
(impl_Total y3.1).bind fun y28 =>
 bif (y28 == y2.2.1.2.2.2.2.1) then (
 bif (y2.1.2.2.2.2.2.2.1.1 != 1) then (
 some true)
 else (
 some ((y3.1.length : Int) == 0)))
 else (
 some false)))
 else (
 some false))
 else (
 some false))
 else (
 some false)))
| .inr o25 => (
 some o25))))
def laws_FnActed_h : Hints := (.node none none .none (.node none none .none (.node none none .none (.node none none .none (.node none none .none (.node none none .none (.node none none (.node none none (.node (some ⟨[.tmp 57 .bool], [none], none, []⟩) none .none .none) .none) (.node none none (.node none none (.node (some ⟨[.tmp 73 .bool], [none], none, []⟩) none .none .none) (.node none none (.node none none (.node (some ⟨[.tmp 2 .bool], [none], none, []⟩) none .none .none) .none) .none)) (.node none none (.node none none .none (.node none none (.node none (some ⟨[.tmp 12 (.int .i64)], [some 0], some [.tmp 2 .bool], []⟩) (.node none none .none (.node none none (.node none none (.node none none (.node (some ⟨[.tmp 106 .bool], [none], none, []⟩) none .none .none) .none) .none) .none)) .none) .none)) (.node none none (.node none none (.node (some ⟨[.tmp 128 .bool], [none], none, []⟩) none .none .none) .none) .none))))))))))
def laws_FnActed_c : Ct := .pure true false (.pair (.slice (.int .u8)) .unit) .bool (fun x => laws_FnActed x.1)
theorem laws_FnActed_ct : CtOk Try.prog 3 laws_FnActed_c := pure_ct (E := { T := tab, G := [(4, laws_big_c), (5, spec_DrawDoAct_fresh_c), (6, impl_DoAct_fresh_c), (7, spec_DoAct_fresh_c), (8, spec_DrawGone_c), (9, laws_sameEvents_c), (10, impl_SameEffect_c), (11, impl_Gone_c), (12, spec_Gone_c), (13, impl_EffectOk_c), (14, impl_EventOk_c), (15, impl_ActFits_c), (16, impl_Total_c)] }) (EnvOk.cons laws_big_ct (EnvOk.cons spec_DrawDoAct_fresh_ct (EnvOk.cons impl_DoAct_fresh_ct (EnvOk.cons spec_DoAct_fresh_ct (EnvOk.cons spec_DrawGone_ct (EnvOk.cons laws_sameEvents_ct (EnvOk.cons impl_SameEffect_ct (EnvOk.cons impl_Gone_ct (EnvOk.cons spec_Gone_ct (EnvOk.cons impl_EffectOk_ct (EnvOk.cons impl_EventOk_ct (EnvOk.cons impl_ActFits_ct (EnvOk.cons impl_Total_ct (EnvOk.nil tabOk)))))))))))))) mixed (fn := Try.f3) _ _ _ _ _ laws_FnActed_h Try.func3 (by kernel_rfl) (fun x => by kernel_rfl)
end
end Go.Abs
