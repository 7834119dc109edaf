import Derived.Test.YtnihhlhcoacibaaGenLO
import Derived.Test.YtnihhlhcoacibaaAbsDeep
set_option linter.unusedVariables false
set_option linter.unusedSimpArgs false
namespace Go.Abs
theorem laws_toPat_eq (a : T_Pat.D) : laws_toPat a = some a := by
  first | rfl | (unfold laws_toPat; simp only [laws_toPiece_eq, laws_toEvent_eq, Option.bind_some]; rfl)
theorem laws_eqPat_eq (a b : T_Pat.D) : laws_eqPat a b = some (eqD T_Pat a b) := by
  unfold laws_eqPat
  first | (simp only [bneIf]; rfl) | (simp only [laws_eqEvent_eq, laws_eqPiece_eq, Option.bind_some, bneIf, notIf]; rfl)
theorem laws_toGuard_eq (a : T_Guard.D) : laws_toGuard a = some a := by
  first | rfl | (unfold laws_toGuard; simp only [laws_toPiece_eq, laws_toEvent_eq, Option.bind_some]; rfl)
theorem laws_eqGuard_eq (a b : T_Guard.D) : laws_eqGuard a b = some (eqD T_Guard a b) := by
  unfold laws_eqGuard
  first | (simp only [bneIf]; rfl) | (simp only [laws_eqEvent_eq, laws_eqPiece_eq, Option.bind_some, bneIf, notIf]; rfl)

theorem laws_szEventS_eq (a : List T_Event.D) (l : Int) (h0 : 0 ≤ l) (h1 : l ≤ 1048576) (hn : a.length ≤ maxLen) : laws_szEventS a l = some (if (a.length : Int) ≤ l then l - a.length else -1) := by
  unfold laws_szEventS; exact sz_list h0 h1 (by simpa [maxLen] using hn)
theorem laws_toEvent_eq (a : T_Event.D) : laws_toEvent a = some a := by
  first | rfl | (unfold laws_toEvent; simp only [laws_toPiece_eq, laws_toEvent_eq, Option.bind_some]; rfl)
theorem laws_toEventS_eq (a : List T_Event.D) (h : a.length ≤ 1048576) : laws_toEventS a = some a := by
  unfold laws_toEventS
  rw [if_pos (by omega), if_pos (by simp only [room]; omega), Int.toNat_natCast, copy_loop a _ (body := laws_toEventS_l1 a) laws_toEvent (fun x _ => laws_toEvent_eq x) (by omega) (fun _ => rfl)]
  rfl
theorem laws_eqEvent_eq (a b : T_Event.D) : laws_eqEvent a b = some (eqD T_Event a b) := by
  unfold laws_eqEvent
  first | (simp only [bneIf]; rfl) | (simp only [laws_eqEvent_eq, laws_eqPiece_eq, Option.bind_some, bneIf, notIf]; rfl)
theorem laws_eqEventS_eq (a b : List T_Event.D) (h : a.length ≤ 1048576) : laws_eqEventS a b = some (eqD (.slice T_Event) a b) := by
  unfold laws_eqEventS
  exact eq_lists (t := T_Event) rfl a b (e := eqD T_Event) (fun _ _ => rfl) (by omega) (fun i => by unfold laws_eqEventS_l1; simp only [laws_eqEvent_eq, Option.bind_some])

theorem laws_szPieceS_eq (a : List T_Piece.D) (l : Int) (h0 : 0 ≤ l) (h1 : l ≤ 1048576) (hn : a.length ≤ maxLen) : laws_szPieceS a l = some (if (a.length : Int) ≤ l then l - a.length else -1) := by
  unfold laws_szPieceS; exact sz_list h0 h1 (by simpa [maxLen] using hn)
theorem laws_toPiece_eq (a : T_Piece.D) : laws_toPiece a = some a := by
  first | rfl | (unfold laws_toPiece; simp only [laws_toPiece_eq, laws_toEvent_eq, Option.bind_some]; rfl)
theorem laws_toPieceS_eq (a : List T_Piece.D) (h : a.length ≤ 1048576) : laws_toPieceS a = some a := by
  unfold laws_toPieceS
  rw [if_pos (by omega), if_pos (by simp only [room]; omega), Int.toNat_natCast, copy_loop a _ (body := laws_toPieceS_l1 a) laws_toPiece (fun x _ => laws_toPiece_eq x) (by omega) (fun _ => rfl)]
  rfl
theorem laws_eqPiece_eq (a b : T_Piece.D) : laws_eqPiece a b = some (eqD T_Piece a b) := by
  unfold laws_eqPiece
  first | (simp only [bneIf]; rfl) | (simp only [laws_eqEvent_eq, laws_eqPiece_eq, Option.bind_some, bneIf, notIf]; rfl)
theorem laws_eqPieceS_eq (a b : List T_Piece.D) (h : a.length ≤ 1048576) : laws_eqPieceS a b = some (eqD (.slice T_Piece) a b) := by
  unfold laws_eqPieceS
  exact eq_lists (t := T_Piece) rfl a b (e := eqD T_Piece) (fun _ _ => rfl) (by omega) (fun i => by unfold laws_eqPieceS_l1; simp only [laws_eqPiece_eq, Option.bind_some])

theorem laws_szSideS_eq (a : List T_Side.D) (l : Int) (h0 : 0 ≤ l) (h1 : l ≤ 1048576) (hn : a.length ≤ maxLen) : laws_szSideS a l = some (if (a.length : Int) ≤ l then l - a.length else -1) := by
  unfold laws_szSideS; exact sz_list h0 h1 (by simpa [maxLen] using hn)
theorem laws_toSide_eq (a : T_Side.D) : laws_toSide a = some a := by
  first | rfl | (unfold laws_toSide; simp only [laws_toPiece_eq, laws_toEvent_eq, Option.bind_some]; rfl)
theorem laws_toSideS_eq (a : List T_Side.D) (h : a.length ≤ 1048576) : laws_toSideS a = some a := by
  unfold laws_toSideS
  rw [if_pos (by omega), if_pos (by simp only [room]; omega), Int.toNat_natCast, copy_loop a _ (body := laws_toSideS_l1 a) laws_toSide (fun x _ => laws_toSide_eq x) (by omega) (fun _ => rfl)]
  rfl
theorem laws_eqSide_eq (a b : T_Side.D) : laws_eqSide a b = some (eqD T_Side a b) := by
  unfold laws_eqSide
  first | (simp only [bneIf]; rfl) | (simp only [laws_eqEvent_eq, laws_eqPiece_eq, Option.bind_some, bneIf, notIf]; rfl)
theorem laws_eqSideS_eq (a b : List T_Side.D) (h : a.length ≤ 1048576) : laws_eqSideS a b = some (eqD (.slice T_Side) a b) := by
  unfold laws_eqSideS
  exact eq_lists (t := T_Side) rfl a b (e := eqD T_Side) (fun _ _ => rfl) (by omega) (fun i => by unfold laws_eqSideS_l1; simp only [laws_eqSide_eq, Option.bind_some])

theorem laws_eqTrigger_eq (a b : T_Trigger.D) : laws_eqTrigger a b = some (eqD T_Trigger a b) := by
  unfold laws_eqTrigger
  first | (simp only [bneIf]; rfl) | (simp only [laws_eqEvent_eq, laws_eqPiece_eq, Option.bind_some, bneIf, notIf]; rfl)
theorem laws_eqTriggerS_eq (a b : List T_Trigger.D) (h : a.length ≤ 1048576) : laws_eqTriggerS a b = some (eqD (.slice T_Trigger) a b) := by
  unfold laws_eqTriggerS
  exact eq_lists (t := T_Trigger) rfl a b (e := eqD T_Trigger) (fun _ _ => rfl) (by omega) (fun i => by unfold laws_eqTriggerS_l1; simp only [laws_eqTrigger_eq, Option.bind_some])

theorem laws_eqNote_eq (a b : T_Note.D) : laws_eqNote a b = some (eqD T_Note a b) := by
  unfold laws_eqNote
  first | (simp only [bneIf]; rfl) | (simp only [laws_eqEvent_eq, laws_eqPiece_eq, Option.bind_some, bneIf, notIf]; rfl)
theorem laws_eqNoteS_eq (a b : List T_Note.D) (h : a.length ≤ 1048576) : laws_eqNoteS a b = some (eqD (.slice T_Note) a b) := by
  unfold laws_eqNoteS
  exact eq_lists (t := T_Note) rfl a b (e := eqD T_Note) (fun _ _ => rfl) (by omega) (fun i => by unfold laws_eqNoteS_l1; simp only [laws_eqNote_eq, Option.bind_some])

theorem laws_toIntS_eq (a : List Int) (h : a.length ≤ 1048576) : laws_toIntS a = some a := by
  unfold laws_toIntS
  rw [if_pos (by omega), if_pos (by simp only [room]; omega), Int.toNat_natCast, copy_loop a _ (body := laws_toIntS_l1 a) some (fun x _ => rfl) (by omega) (fun _ => rfl)]
  rfl
theorem laws_eqIntS_eq (a b : List Int) (h : a.length ≤ 1048576) : laws_eqIntS a b = some (eqD (.slice (.int .i64)) a b) := by
  unfold laws_eqIntS
  exact eq_lists (t := .int .i64) rfl a b (e := fun (x y : Int) => x == y) (fun _ _ => rfl) (by omega) (fun i => rfl)

theorem laws_szState_eq (s : T_State.D) (l : Int) (h0 : 0 ≤ l) (h1 : l ≤ 1048576) (hp : s.1.length ≤ maxLen) (hs : s.2.1.length ≤ maxLen) : laws_szState s l = some (if (s.1.length : Int) + s.2.1.length ≤ l then l - s.1.length - s.2.1.length else -1) := by
  unfold laws_szState
  rw [laws_szPieceS_eq _ _ h0 h1 hp, Option.bind_some]
  by_cases g1 : (s.1.length : Int) ≤ l
  · rw [if_pos g1]
    have n1 : ¬ (l - (s.1.length : Int) < 0) := by omega
    simp only [n1, decide_false, cond_false]
    rw [laws_szSideS_eq _ _ (by omega) (by omega) hs, Option.bind_some]
    by_cases g2 : (s.2.1.length : Int) ≤ l - s.1.length
    · have n2 : ¬ (l - (s.1.length : Int) - s.2.1.length < 0) := by omega
      rw [if_pos g2, if_pos (by omega)]
      simp only [n2, decide_false, cond_false]
    · rw [if_neg g2, if_neg (by omega)]; rfl
  · rw [if_neg g1, if_neg (by omega)]; rfl
theorem laws_toState_eq (s : T_State.D) (hp : s.1.length ≤ 1048576) (hs : s.2.1.length ≤ 1048576) : laws_toState s = some s := by
  unfold laws_toState
  simp only [laws_toPieceS_eq _ hp, laws_toSideS_eq _ hs, Option.bind_some]
theorem laws_eqState_eq (a b : T_State.D) (hp : a.1.length ≤ 1048576) (hs : a.2.1.length ≤ 1048576) : laws_eqState a b = some (eqD T_State a b) := by
  unfold laws_eqState
  simp only [laws_eqPieceS_eq _ _ hp, laws_eqSideS_eq _ _ hs, Option.bind_some, bneIf, notIf]
  rfl
theorem laws_szEventS_ok (a : List T_Event.D) (l : Int) (h0 : 0 ≤ l) (h1 : l ≤ 1048576) (w : (Ty.slice T_Event).wf a) : SzR (laws_szEventS a l) l (okD (.slice T_Event) a) :=
  sz_flat (t := T_Event) rfl (laws_szEventS_eq a l h0 h1 w.1) h1
theorem laws_szPieceS_ok (a : List T_Piece.D) (l : Int) (h0 : 0 ≤ l) (h1 : l ≤ 1048576) (w : (Ty.slice T_Piece).wf a) : SzR (laws_szPieceS a l) l (okD (.slice T_Piece) a) :=
  sz_flat (t := T_Piece) rfl (laws_szPieceS_eq a l h0 h1 w.1) h1
theorem laws_szSideS_ok (a : List T_Side.D) (l : Int) (h0 : 0 ≤ l) (h1 : l ≤ 1048576) (w : (Ty.slice T_Side).wf a) : SzR (laws_szSideS a l) l (okD (.slice T_Side) a) :=
  sz_flat (t := T_Side) rfl (laws_szSideS_eq a l h0 h1 w.1) h1
theorem laws_szIntS_eq (a : List Int) (l : Int) (h0 : 0 ≤ l) (h1 : l ≤ 1048576) (hn : a.length ≤ maxLen) : laws_szIntS a l = some (if (a.length : Int) ≤ l then l - a.length else -1) := by
  unfold laws_szIntS; exact sz_list h0 h1 (by simpa [maxLen] using hn)
theorem laws_szIntS_ok (a : List Int) (l : Int) (h0 : 0 ≤ l) (h1 : l ≤ 1048576) (w : (Ty.slice (.int .i64)).wf a) : SzR (laws_szIntS a l) l (okD (.slice (.int .i64)) a) :=
  sz_flat (t := (.int .i64)) rfl (laws_szIntS_eq a l h0 h1 w.1) h1

theorem laws_szState_ok (a : T_State.D) (l : Int) (h0 : 0 ≤ l) (h1 : l ≤ 1048576) (w : T_State.wf a) : SzR (laws_szState a l) l (okD T_State a) := by
  unfold laws_szState
  exact SzR.imp (SzR.bind (laws_szPieceS_ok a.1 l h0 h1 w.1) fun m1 k1 j1 => SzR.bind (laws_szSideS_ok a.2.1 m1 k1 (by omega) w.2.1) fun m2 k2 j2 => SzR.done k2) (fun h => ⟨h.1, h.2.1, trivial, trivial, trivial⟩)

theorem laws_szAct_ok (a : T_Act.D) (l : Int) (h0 : 0 ≤ l) (h1 : l ≤ 1048576) (w : T_Act.wf a) : SzR (laws_szAct a l) l (okD T_Act a) := by
  unfold laws_szAct
  exact SzR.imp (SzR.bind (laws_szEventS_ok a.2.2.2.2.2.2.1 l h0 h1 w.2.2.2.2.2.2.1) fun m1 k1 j1 => SzR.done k1) (fun h => ⟨trivial, trivial, trivial, trivial, trivial, trivial, h.1, trivial⟩)
theorem laws_toAct_ok (a : T_Act.D) (h : okD T_Act a) : laws_toAct a = some a := by
  unfold laws_toAct
  simp only [laws_toEventS_eq a.2.2.2.2.2.2.1 h.2.2.2.2.2.2.1.1, Option.bind_some]
theorem laws_eqAct_ok (a b : T_Act.D) (h : okD T_Act a) : laws_eqAct a b = some (eqD T_Act a b) := by
  unfold laws_eqAct
  simp only [laws_eqEventS_eq a.2.2.2.2.2.2.1 b.2.2.2.2.2.2.1 h.2.2.2.2.2.2.1.1, Option.bind_some, bneIf, notIf]
  rfl

theorem laws_szEffect_ok (a : T_Effect.D) (l : Int) (h0 : 0 ≤ l) (h1 : l ≤ 1048576) (w : T_Effect.wf a) : SzR (laws_szEffect a l) l (okD T_Effect a) := by
  unfold laws_szEffect
  exact SzR.imp (SzR.bind (laws_szAct_ok a.2.2.2.2.2.2.1 l h0 h1 w.2.2.2.2.2.2.1) fun m1 k1 j1 => SzR.done k1) (fun h => ⟨trivial, trivial, trivial, trivial, okFlat T_Pat rfl _, okFlat T_Guard rfl _, h.1, trivial, trivial, trivial⟩)
theorem laws_toEffect_ok (a : T_Effect.D) (h : okD T_Effect a) : laws_toEffect a = some a := by
  unfold laws_toEffect
  simp only [laws_toPat_eq, laws_toGuard_eq, laws_toAct_ok a.2.2.2.2.2.2.1 h.2.2.2.2.2.2.1, Option.bind_some]
theorem laws_eqEffect_ok (a b : T_Effect.D) (h : okD T_Effect a) : laws_eqEffect a b = some (eqD T_Effect a b) := by
  unfold laws_eqEffect
  simp only [laws_eqPat_eq, laws_eqGuard_eq, laws_eqAct_ok a.2.2.2.2.2.2.1 b.2.2.2.2.2.2.1 h.2.2.2.2.2.2.1, Option.bind_some, bneIf, notIf]
  rfl
theorem laws_szEffectS_ok (a : List T_Effect.D) (l : Int) (h0 : 0 ≤ l) (h1 : l ≤ 1048576) (w : (Ty.slice T_Effect).wf a) : SzR (laws_szEffectS a l) l (okD (.slice T_Effect) a) := by
  unfold laws_szEffectS
  exact sz_loop (t := T_Effect) a laws_szEffect (body := laws_szEffectS_l1 a) w.1 (fun x hx l h0 h1 => laws_szEffect_ok x l h0 h1 (w.2 x hx)) (fun _ => rfl) h0 h1
theorem laws_toEffectS_ok (a : List T_Effect.D) (h : okD (.slice T_Effect) a) : laws_toEffectS a = some a := by
  have hl : a.length ≤ 1048576 := h.1
  unfold laws_toEffectS
  rw [if_pos (by omega), if_pos (by simp only [room]; omega), Int.toNat_natCast, copy_loop a _ (body := laws_toEffectS_l1 a) laws_toEffect (fun x hx => laws_toEffect_ok x (h.2 x hx)) (by omega) (fun _ => rfl)]
  rfl
theorem laws_eqEffectS_ok (a b : List T_Effect.D) (h : okD (.slice T_Effect) a) : laws_eqEffectS a b = some (eqD (.slice T_Effect) a b) := by
  have hl : a.length ≤ 1048576 := h.1
  unfold laws_eqEffectS
  exact eq_lists2 (t := T_Effect) rfl a b (e := laws_eqEffect) (fun x hx y => laws_eqEffect_ok x y (h.2 x hx)) (by omega) (fun _ => rfl)

theorem laws_szTurn_ok (a : T_Turn.D) (l : Int) (h0 : 0 ≤ l) (h1 : l ≤ 1048576) (w : T_Turn.wf a) : SzR (laws_szTurn a l) l (okD T_Turn a) := by
  unfold laws_szTurn
  exact SzR.imp (SzR.bind (laws_szEventS_ok a.2.2.2.2.2.1 l h0 h1 w.2.2.2.2.2.1) fun m1 k1 j1 => SzR.done k1) (fun h => ⟨trivial, trivial, trivial, trivial, okFlat T_Event rfl _, h.1, trivial, trivial, trivial⟩)
theorem laws_toTurn_ok (a : T_Turn.D) (h : okD T_Turn a) : laws_toTurn a = some a := by
  unfold laws_toTurn
  simp only [laws_toEvent_eq, laws_toEventS_eq a.2.2.2.2.2.1 h.2.2.2.2.2.1.1, Option.bind_some]
theorem laws_eqTurn_ok (a b : T_Turn.D) (h : okD T_Turn a) : laws_eqTurn a b = some (eqD T_Turn a b) := by
  unfold laws_eqTurn
  simp only [laws_eqEvent_eq, laws_eqEventS_eq a.2.2.2.2.2.1 b.2.2.2.2.2.1 h.2.2.2.2.2.1.1, Option.bind_some, bneIf, notIf]
  rfl
theorem laws_szTurnS_ok (a : List T_Turn.D) (l : Int) (h0 : 0 ≤ l) (h1 : l ≤ 1048576) (w : (Ty.slice T_Turn).wf a) : SzR (laws_szTurnS a l) l (okD (.slice T_Turn) a) := by
  unfold laws_szTurnS
  exact sz_loop (t := T_Turn) a laws_szTurn (body := laws_szTurnS_l1 a) w.1 (fun x hx l h0 h1 => laws_szTurn_ok x l h0 h1 (w.2 x hx)) (fun _ => rfl) h0 h1
theorem laws_toTurnS_ok (a : List T_Turn.D) (h : okD (.slice T_Turn) a) : laws_toTurnS a = some a := by
  have hl : a.length ≤ 1048576 := h.1
  unfold laws_toTurnS
  rw [if_pos (by omega), if_pos (by simp only [room]; omega), Int.toNat_natCast, copy_loop a _ (body := laws_toTurnS_l1 a) laws_toTurn (fun x hx => laws_toTurn_ok x (h.2 x hx)) (by omega) (fun _ => rfl)]
  rfl
theorem laws_eqTurnS_ok (a b : List T_Turn.D) (h : okD (.slice T_Turn) a) : laws_eqTurnS a b = some (eqD (.slice T_Turn) a b) := by
  have hl : a.length ≤ 1048576 := h.1
  unfold laws_eqTurnS
  exact eq_lists2 (t := T_Turn) rfl a b (e := laws_eqTurn) (fun x hx y => laws_eqTurn_ok x y (h.2 x hx)) (by omega) (fun _ => rfl)

theorem laws_szFate_ok (a : T_Fate.D) (l : Int) (h0 : 0 ≤ l) (h1 : l ≤ 1048576) (w : T_Fate.wf a) : SzR (laws_szFate a l) l (okD T_Fate a) := by
  unfold laws_szFate
  exact SzR.imp (SzR.bind (laws_szEventS_ok a.1 l h0 h1 w.1) fun m1 k1 j1 => SzR.bind (laws_szEffectS_ok a.2.1 m1 k1 (by omega) w.2.1) fun m2 k2 j2 => SzR.bind (laws_szIntS_ok a.2.2.1 m2 k2 (by omega) w.2.2.1) fun m3 k3 j3 => SzR.bind (laws_szTurnS_ok a.2.2.2.1 m3 k3 (by omega) w.2.2.2.1) fun m4 k4 j4 => SzR.done k4) (fun h => ⟨h.1, h.2.1, h.2.2.1, h.2.2.2.1, trivial⟩)
theorem laws_toFate_ok (a : T_Fate.D) (h : okD T_Fate a) : laws_toFate a = some a := by
  unfold laws_toFate
  simp only [laws_toEventS_eq a.1 h.1.1, laws_toEffectS_ok a.2.1 h.2.1, laws_toIntS_eq a.2.2.1 h.2.2.1.1, laws_toTurnS_ok a.2.2.2.1 h.2.2.2.1, Option.bind_some]
theorem laws_eqFate_ok (a b : T_Fate.D) (h : okD T_Fate a) : laws_eqFate a b = some (eqD T_Fate a b) := by
  unfold laws_eqFate
  simp only [laws_eqEventS_eq a.1 b.1 h.1.1, laws_eqEffectS_ok a.2.1 b.2.1 h.2.1, laws_eqIntS_eq a.2.2.1 b.2.2.1 h.2.2.1.1, laws_eqTurnS_ok a.2.2.2.1 b.2.2.2.1 h.2.2.2.1, Option.bind_some, bneIf, notIf]
  rfl

theorem laws_eqGame_ok (a b : T_Game.D) (h : okD T_Game a) : laws_eqGame a b = some (eqD T_Game a b) := by
  unfold laws_eqGame
  simp only [laws_eqState_eq a.1 b.1 h.1.1.1 h.1.2.1.1, laws_eqEffectS_ok a.2.1 b.2.1 h.2.1, laws_eqIntS_eq a.2.2.1 b.2.2.1 h.2.2.1.1, laws_eqTriggerS_eq a.2.2.2.1 b.2.2.2.1 h.2.2.2.1.1, laws_eqNoteS_eq a.2.2.2.2.1 b.2.2.2.2.1 h.2.2.2.2.1.1, laws_eqTurnS_ok a.2.2.2.2.2.1 b.2.2.2.2.2.1 h.2.2.2.2.2.1, Option.bind_some, bneIf, notIf]
  rfl

def fillEvent (k : Int) : T_Event.D := (k, k + 1, k + 1 + 1, k + 1 + 1 + 1, k + 1 + 1 + 1 + 1, k + 1 + 1 + 1 + 1 + 1, ((k + 1 + 1 + 1 + 1 + 1 + 1).tmod 3 == 0), ())
theorem laws_markEventS_step (ys : List T_Event.D) (k : Int) (i : Nat) (hlt : i < ys.length) (h0 : 0 ≤ k) (hk : k ≤ 4611686018427387904) (hi : (i : Int) ≤ 4611686018427387904) : laws_markEventS_l1 (ys, k, (i : Int)) = some (.inl (ys.set i (fillEvent k), k + (7 : Nat), (i : Int) + 1)) := by
  obtain ⟨x, hx⟩ : ∃ x, ys[i]? = some x := ⟨_, List.getElem?_eq_getElem hlt⟩
  have hil : ((i : Int) < (ys.length : Int)) := by omega
  have hc : k + ((7 : Nat) : Int) = k + 1 + 1 + 1 + 1 + 1 + 1 + 1 := by omega
  unfold laws_markEventS_l1 fillEvent
  simp (disch := omega) only [hil, decide_true, cond_true, Int.toNat_natCast, idx_at hx, hx, Option.bind_some, idx_set hlt, get_set hlt, List.set_set, wrap_id, hc]
  first | done | rfl
theorem laws_markEventS_eq (xs : List T_Event.D) (k : Int) (h0 : 0 ≤ k) (hk : k + (7 : Nat) * (xs.length : Int) ≤ 4611686018427387904) (hlen : (xs.length : Int) ≤ 4611686018427387904) : laws_markEventS xs k = some (k + (7 : Nat) * (xs.length : Int), (fillL fillEvent (7 : Nat) k xs.length, ())) := by
  unfold laws_markEventS
  rw [mark_loop fillEvent 7 laws_markEventS_step (fun ys k => by unfold laws_markEventS_l1; simp) xs k h0 hk hlen]
  rfl

def fillSide (k : Int) : T_Side.D := (k, k + 1, ((k + 1 + 1).tmod 3 == 0), ())
theorem laws_markSideS_step (ys : List T_Side.D) (k : Int) (i : Nat) (hlt : i < ys.length) (h0 : 0 ≤ k) (hk : k ≤ 4611686018427387904) (hi : (i : Int) ≤ 4611686018427387904) : laws_markSideS_l1 (ys, k, (i : Int)) = some (.inl (ys.set i (fillSide k), k + (3 : Nat), (i : Int) + 1)) := by
  obtain ⟨x, hx⟩ : ∃ x, ys[i]? = some x := ⟨_, List.getElem?_eq_getElem hlt⟩
  have hil : ((i : Int) < (ys.length : Int)) := by omega
  have hc : k + ((3 : Nat) : Int) = k + 1 + 1 + 1 := by omega
  unfold laws_markSideS_l1 fillSide
  simp (disch := omega) only [hil, decide_true, cond_true, Int.toNat_natCast, idx_at hx, hx, Option.bind_some, idx_set hlt, get_set hlt, List.set_set, wrap_id, hc]
  first | done | rfl
theorem laws_markSideS_eq (xs : List T_Side.D) (k : Int) (h0 : 0 ≤ k) (hk : k + (3 : Nat) * (xs.length : Int) ≤ 4611686018427387904) (hlen : (xs.length : Int) ≤ 4611686018427387904) : laws_markSideS xs k = some (k + (3 : Nat) * (xs.length : Int), (fillL fillSide (3 : Nat) k xs.length, ())) := by
  unfold laws_markSideS
  rw [mark_loop fillSide 3 laws_markSideS_step (fun ys k => by unfold laws_markSideS_l1; simp) xs k h0 hk hlen]
  rfl

def fillPiece (k : Int) : T_Piece.D := (k, k + 1, k + 1 + 1, k + 1 + 1 + 1, k + 1 + 1 + 1 + 1, k + 1 + 1 + 1 + 1 + 1, k + 1 + 1 + 1 + 1 + 1 + 1, k + 1 + 1 + 1 + 1 + 1 + 1 + 1, k + 1 + 1 + 1 + 1 + 1 + 1 + 1 + 1, k + 1 + 1 + 1 + 1 + 1 + 1 + 1 + 1 + 1, k + 1 + 1 + 1 + 1 + 1 + 1 + 1 + 1 + 1 + 1, ((k + 1 + 1 + 1 + 1 + 1 + 1 + 1 + 1 + 1 + 1 + 1).tmod 3 == 0), ((k + 1 + 1 + 1 + 1 + 1 + 1 + 1 + 1 + 1 + 1 + 1 + 1).tmod 3 == 0), ())
theorem laws_markPieceS_step (ys : List T_Piece.D) (k : Int) (i : Nat) (hlt : i < ys.length) (h0 : 0 ≤ k) (hk : k ≤ 4611686018427387904) (hi : (i : Int) ≤ 4611686018427387904) : laws_markPieceS_l1 (ys, k, (i : Int)) = some (.inl (ys.set i (fillPiece k), k + (13 : Nat), (i : Int) + 1)) := by
  obtain ⟨x, hx⟩ : ∃ x, ys[i]? = some x := ⟨_, List.getElem?_eq_getElem hlt⟩
  have hil : ((i : Int) < (ys.length : Int)) := by omega
  have hc : k + ((13 : Nat) : Int) = k + 1 + 1 + 1 + 1 + 1 + 1 + 1 + 1 + 1 + 1 + 1 + 1 + 1 := by omega
  unfold laws_markPieceS_l1 fillPiece
  simp (disch := omega) only [hil, decide_true, cond_true, Int.toNat_natCast, idx_at hx, hx, Option.bind_some, idx_set hlt, get_set hlt, List.set_set, wrap_id, hc]
  first | done | rfl
theorem laws_markPieceS_eq (xs : List T_Piece.D) (k : Int) (h0 : 0 ≤ k) (hk : k + (13 : Nat) * (xs.length : Int) ≤ 4611686018427387904) (hlen : (xs.length : Int) ≤ 4611686018427387904) : laws_markPieceS xs k = some (k + (13 : Nat) * (xs.length : Int), (fillL fillPiece (13 : Nat) k xs.length, ())) := by
  unfold laws_markPieceS
  rw [mark_loop fillPiece 13 laws_markPieceS_step (fun ys k => by unfold laws_markPieceS_l1; simp) xs k h0 hk hlen]
  rfl

def fillNote (k : Int) : T_Note.D := (k, (k + 1, k + 1 + 1, k + 1 + 1 + 1, k + 1 + 1 + 1 + 1, k + 1 + 1 + 1 + 1 + 1, k + 1 + 1 + 1 + 1 + 1 + 1, ((k + 1 + 1 + 1 + 1 + 1 + 1 + 1).tmod 3 == 0), ()), k + 1 + 1 + 1 + 1 + 1 + 1 + 1 + 1, k + 1 + 1 + 1 + 1 + 1 + 1 + 1 + 1 + 1, (k + 1 + 1 + 1 + 1 + 1 + 1 + 1 + 1 + 1 + 1, k + 1 + 1 + 1 + 1 + 1 + 1 + 1 + 1 + 1 + 1 + 1, k + 1 + 1 + 1 + 1 + 1 + 1 + 1 + 1 + 1 + 1 + 1 + 1, k + 1 + 1 + 1 + 1 + 1 + 1 + 1 + 1 + 1 + 1 + 1 + 1 + 1, k + 1 + 1 + 1 + 1 + 1 + 1 + 1 + 1 + 1 + 1 + 1 + 1 + 1 + 1, k + 1 + 1 + 1 + 1 + 1 + 1 + 1 + 1 + 1 + 1 + 1 + 1 + 1 + 1 + 1, k + 1 + 1 + 1 + 1 + 1 + 1 + 1 + 1 + 1 + 1 + 1 + 1 + 1 + 1 + 1 + 1, k + 1 + 1 + 1 + 1 + 1 + 1 + 1 + 1 + 1 + 1 + 1 + 1 + 1 + 1 + 1 + 1 + 1, k + 1 + 1 + 1 + 1 + 1 + 1 + 1 + 1 + 1 + 1 + 1 + 1 + 1 + 1 + 1 + 1 + 1 + 1, k + 1 + 1 + 1 + 1 + 1 + 1 + 1 + 1 + 1 + 1 + 1 + 1 + 1 + 1 + 1 + 1 + 1 + 1 + 1, k + 1 + 1 + 1 + 1 + 1 + 1 + 1 + 1 + 1 + 1 + 1 + 1 + 1 + 1 + 1 + 1 + 1 + 1 + 1 + 1, ((k + 1 + 1 + 1 + 1 + 1 + 1 + 1 + 1 + 1 + 1 + 1 + 1 + 1 + 1 + 1 + 1 + 1 + 1 + 1 + 1 + 1).tmod 3 == 0), ((k + 1 + 1 + 1 + 1 + 1 + 1 + 1 + 1 + 1 + 1 + 1 + 1 + 1 + 1 + 1 + 1 + 1 + 1 + 1 + 1 + 1 + 1).tmod 3 == 0), ()), ())
theorem laws_markNoteS_step (ys : List T_Note.D) (k : Int) (i : Nat) (hlt : i < ys.length) (h0 : 0 ≤ k) (hk : k ≤ 4611686018427387904) (hi : (i : Int) ≤ 4611686018427387904) : laws_markNoteS_l1 (ys, k, (i : Int)) = some (.inl (ys.set i (fillNote k), k + (23 : Nat), (i : Int) + 1)) := by
  obtain ⟨x, hx⟩ : ∃ x, ys[i]? = some x := ⟨_, List.getElem?_eq_getElem hlt⟩
  have hil : ((i : Int) < (ys.length : Int)) := by omega
  have hc : k + ((23 : Nat) : Int) = k + 1 + 1 + 1 + 1 + 1 + 1 + 1 + 1 + 1 + 1 + 1 + 1 + 1 + 1 + 1 + 1 + 1 + 1 + 1 + 1 + 1 + 1 + 1 := by omega
  unfold laws_markNoteS_l1 fillNote
  simp (disch := omega) only [hil, decide_true, cond_true, Int.toNat_natCast, idx_at hx, hx, Option.bind_some, idx_set hlt, get_set hlt, List.set_set, wrap_id, hc]
  first | done | rfl
theorem laws_markNoteS_eq (xs : List T_Note.D) (k : Int) (h0 : 0 ≤ k) (hk : k + (23 : Nat) * (xs.length : Int) ≤ 4611686018427387904) (hlen : (xs.length : Int) ≤ 4611686018427387904) : laws_markNoteS xs k = some (k + (23 : Nat) * (xs.length : Int), (fillL fillNote (23 : Nat) k xs.length, ())) := by
  unfold laws_markNoteS
  rw [mark_loop fillNote 23 laws_markNoteS_step (fun ys k => by unfold laws_markNoteS_l1; simp) xs k h0 hk hlen]
  rfl

def fillTrigger (k : Int) : T_Trigger.D := (k, k + 1, k + 1 + 1, (k + 1 + 1 + 1, k + 1 + 1 + 1 + 1, k + 1 + 1 + 1 + 1 + 1, k + 1 + 1 + 1 + 1 + 1 + 1, k + 1 + 1 + 1 + 1 + 1 + 1 + 1, k + 1 + 1 + 1 + 1 + 1 + 1 + 1 + 1, k + 1 + 1 + 1 + 1 + 1 + 1 + 1 + 1 + 1, k + 1 + 1 + 1 + 1 + 1 + 1 + 1 + 1 + 1 + 1, k + 1 + 1 + 1 + 1 + 1 + 1 + 1 + 1 + 1 + 1 + 1, k + 1 + 1 + 1 + 1 + 1 + 1 + 1 + 1 + 1 + 1 + 1 + 1, k + 1 + 1 + 1 + 1 + 1 + 1 + 1 + 1 + 1 + 1 + 1 + 1 + 1, ((k + 1 + 1 + 1 + 1 + 1 + 1 + 1 + 1 + 1 + 1 + 1 + 1 + 1 + 1).tmod 3 == 0), ((k + 1 + 1 + 1 + 1 + 1 + 1 + 1 + 1 + 1 + 1 + 1 + 1 + 1 + 1 + 1).tmod 3 == 0), ()), ())
theorem laws_markTriggerS_step (ys : List T_Trigger.D) (k : Int) (i : Nat) (hlt : i < ys.length) (h0 : 0 ≤ k) (hk : k ≤ 4611686018427387904) (hi : (i : Int) ≤ 4611686018427387904) : laws_markTriggerS_l1 (ys, k, (i : Int)) = some (.inl (ys.set i (fillTrigger k), k + (16 : Nat), (i : Int) + 1)) := by
  obtain ⟨x, hx⟩ : ∃ x, ys[i]? = some x := ⟨_, List.getElem?_eq_getElem hlt⟩
  have hil : ((i : Int) < (ys.length : Int)) := by omega
  have hc : k + ((16 : Nat) : Int) = k + 1 + 1 + 1 + 1 + 1 + 1 + 1 + 1 + 1 + 1 + 1 + 1 + 1 + 1 + 1 + 1 := by omega
  unfold laws_markTriggerS_l1 fillTrigger
  simp (disch := omega) only [hil, decide_true, cond_true, Int.toNat_natCast, idx_at hx, hx, Option.bind_some, idx_set hlt, get_set hlt, List.set_set, wrap_id, hc]
  first | done | rfl
theorem laws_markTriggerS_eq (xs : List T_Trigger.D) (k : Int) (h0 : 0 ≤ k) (hk : k + (16 : Nat) * (xs.length : Int) ≤ 4611686018427387904) (hlen : (xs.length : Int) ≤ 4611686018427387904) : laws_markTriggerS xs k = some (k + (16 : Nat) * (xs.length : Int), (fillL fillTrigger (16 : Nat) k xs.length, ())) := by
  unfold laws_markTriggerS
  rw [mark_loop fillTrigger 16 laws_markTriggerS_step (fun ys k => by unfold laws_markTriggerS_l1; simp) xs k h0 hk hlen]
  rfl

def fillInt (k : Int) : Int := k
theorem laws_markIntS_step (ys : List Int) (k : Int) (i : Nat) (hlt : i < ys.length) (h0 : 0 ≤ k) (hk : k ≤ 4611686018427387904) (hi : (i : Int) ≤ 4611686018427387904) : laws_markIntS_l1 (ys, k, (i : Int)) = some (.inl (ys.set i (fillInt k), k + (1 : Nat), (i : Int) + 1)) := by
  obtain ⟨x, hx⟩ : ∃ x, ys[i]? = some x := ⟨_, List.getElem?_eq_getElem hlt⟩
  have hil : ((i : Int) < (ys.length : Int)) := by omega
  have hc : k + ((1 : Nat) : Int) = k + 1 := by omega
  unfold laws_markIntS_l1 fillInt
  simp (disch := omega) only [hil, decide_true, cond_true, Int.toNat_natCast, idx_at hx, hx, Option.bind_some, idx_set hlt, get_set hlt, List.set_set, wrap_id, hc]
  first | done | rfl
theorem laws_markIntS_eq (xs : List Int) (k : Int) (h0 : 0 ≤ k) (hk : k + (1 : Nat) * (xs.length : Int) ≤ 4611686018427387904) (hlen : (xs.length : Int) ≤ 4611686018427387904) : laws_markIntS xs k = some (k + (1 : Nat) * (xs.length : Int), (fillL fillInt (1 : Nat) k xs.length, ())) := by
  unfold laws_markIntS
  rw [mark_loop fillInt 1 laws_markIntS_step (fun ys k => by unfold laws_markIntS_l1; simp) xs k h0 hk hlen]
  rfl

def markS (s : T_State.D) (k : Int) : T_State.D := (fillL fillPiece (13 : Nat) k s.1.length, fillL fillSide (3 : Nat) (k + (13 : Nat) * (s.1.length : Int)) s.2.1.length, s.2.2)
theorem laws_markState_eq (s : T_State.D) (k : Int) (h0 : 0 ≤ k) (h1 : k ≤ 4294967296) (hp : s.1.length ≤ 1048576) (hs : s.2.1.length ≤ 1048576) : laws_markState s k = some (k + (13 : Nat) * (s.1.length : Int) + (3 : Nat) * (s.2.1.length : Int), (markS s k, ())) := by
  unfold laws_markState
  rw [laws_markPieceS_eq _ k h0 (by omega) (by omega), Option.bind_some, laws_markSideS_eq _ _ (by omega) (by omega) (by omega)]
  rfl

theorem laws_heldEventS_eq (k0 : Int) (n : Nat) (h0 : 0 ≤ k0) (hk : k0 + (7 : Nat) * (n : Int) ≤ 4611686018427387904) (hlen : (n : Int) ≤ 4611686018427387904) : laws_heldEventS (fillL fillEvent (7 : Nat) k0 n) k0 = some (k0 + (7 : Nat) * (n : Int)) := by
  unfold laws_heldEventS
  rw [held_loop fillEvent 7 (fillL fillEvent (7 : Nat) k0 n) k0 n rfl (body := laws_heldEventS_l1 (fillL fillEvent (7 : Nat) k0 n)) ?_ ?_ h0 hk hlen]
  · rfl
  · intro k i hx h0 hk hi
    have hlt := (List.getElem?_eq_some_iff.1 hx).1
    have hil : ((i : Int) < ((fillL fillEvent (7 : Nat) k0 n).length : Int)) := by omega
    have hc : k + ((7 : Nat) : Int) = k + 1 + 1 + 1 + 1 + 1 + 1 + 1 := by omega
    unfold laws_heldEventS_l1
    simp (disch := omega) only [hil, decide_true, cond_true, idx_at hx, fillEvent, wrap_id, bne_self_eq_false, cond_false, hc]
    first | done | rfl
  · intro k
    unfold laws_heldEventS_l1
    simp

theorem laws_heldSideS_eq (k0 : Int) (n : Nat) (h0 : 0 ≤ k0) (hk : k0 + (3 : Nat) * (n : Int) ≤ 4611686018427387904) (hlen : (n : Int) ≤ 4611686018427387904) : laws_heldSideS (fillL fillSide (3 : Nat) k0 n) k0 = some (k0 + (3 : Nat) * (n : Int)) := by
  unfold laws_heldSideS
  rw [held_loop fillSide 3 (fillL fillSide (3 : Nat) k0 n) k0 n rfl (body := laws_heldSideS_l1 (fillL fillSide (3 : Nat) k0 n)) ?_ ?_ h0 hk hlen]
  · rfl
  · intro k i hx h0 hk hi
    have hlt := (List.getElem?_eq_some_iff.1 hx).1
    have hil : ((i : Int) < ((fillL fillSide (3 : Nat) k0 n).length : Int)) := by omega
    have hc : k + ((3 : Nat) : Int) = k + 1 + 1 + 1 := by omega
    unfold laws_heldSideS_l1
    simp (disch := omega) only [hil, decide_true, cond_true, idx_at hx, fillSide, wrap_id, bne_self_eq_false, cond_false, hc]
    first | done | rfl
  · intro k
    unfold laws_heldSideS_l1
    simp

theorem laws_heldPieceS_eq (k0 : Int) (n : Nat) (h0 : 0 ≤ k0) (hk : k0 + (13 : Nat) * (n : Int) ≤ 4611686018427387904) (hlen : (n : Int) ≤ 4611686018427387904) : laws_heldPieceS (fillL fillPiece (13 : Nat) k0 n) k0 = some (k0 + (13 : Nat) * (n : Int)) := by
  unfold laws_heldPieceS
  rw [held_loop fillPiece 13 (fillL fillPiece (13 : Nat) k0 n) k0 n rfl (body := laws_heldPieceS_l1 (fillL fillPiece (13 : Nat) k0 n)) ?_ ?_ h0 hk hlen]
  · rfl
  · intro k i hx h0 hk hi
    have hlt := (List.getElem?_eq_some_iff.1 hx).1
    have hil : ((i : Int) < ((fillL fillPiece (13 : Nat) k0 n).length : Int)) := by omega
    have hc : k + ((13 : Nat) : Int) = k + 1 + 1 + 1 + 1 + 1 + 1 + 1 + 1 + 1 + 1 + 1 + 1 + 1 := by omega
    unfold laws_heldPieceS_l1
    simp (disch := omega) only [hil, decide_true, cond_true, idx_at hx, fillPiece, wrap_id, bne_self_eq_false, cond_false, hc]
    first | done | rfl
  · intro k
    unfold laws_heldPieceS_l1
    simp

theorem laws_heldNoteS_eq (k0 : Int) (n : Nat) (h0 : 0 ≤ k0) (hk : k0 + (23 : Nat) * (n : Int) ≤ 4611686018427387904) (hlen : (n : Int) ≤ 4611686018427387904) : laws_heldNoteS (fillL fillNote (23 : Nat) k0 n) k0 = some (k0 + (23 : Nat) * (n : Int)) := by
  unfold laws_heldNoteS
  rw [held_loop fillNote 23 (fillL fillNote (23 : Nat) k0 n) k0 n rfl (body := laws_heldNoteS_l1 (fillL fillNote (23 : Nat) k0 n)) ?_ ?_ h0 hk hlen]
  · rfl
  · intro k i hx h0 hk hi
    have hlt := (List.getElem?_eq_some_iff.1 hx).1
    have hil : ((i : Int) < ((fillL fillNote (23 : Nat) k0 n).length : Int)) := by omega
    have hc : k + ((23 : Nat) : Int) = k + 1 + 1 + 1 + 1 + 1 + 1 + 1 + 1 + 1 + 1 + 1 + 1 + 1 + 1 + 1 + 1 + 1 + 1 + 1 + 1 + 1 + 1 + 1 := by omega
    unfold laws_heldNoteS_l1
    simp (disch := omega) only [hil, decide_true, cond_true, idx_at hx, fillNote, wrap_id, bne_self_eq_false, cond_false, hc]
    first | done | rfl
  · intro k
    unfold laws_heldNoteS_l1
    simp

theorem laws_heldTriggerS_eq (k0 : Int) (n : Nat) (h0 : 0 ≤ k0) (hk : k0 + (16 : Nat) * (n : Int) ≤ 4611686018427387904) (hlen : (n : Int) ≤ 4611686018427387904) : laws_heldTriggerS (fillL fillTrigger (16 : Nat) k0 n) k0 = some (k0 + (16 : Nat) * (n : Int)) := by
  unfold laws_heldTriggerS
  rw [held_loop fillTrigger 16 (fillL fillTrigger (16 : Nat) k0 n) k0 n rfl (body := laws_heldTriggerS_l1 (fillL fillTrigger (16 : Nat) k0 n)) ?_ ?_ h0 hk hlen]
  · rfl
  · intro k i hx h0 hk hi
    have hlt := (List.getElem?_eq_some_iff.1 hx).1
    have hil : ((i : Int) < ((fillL fillTrigger (16 : Nat) k0 n).length : Int)) := by omega
    have hc : k + ((16 : Nat) : Int) = k + 1 + 1 + 1 + 1 + 1 + 1 + 1 + 1 + 1 + 1 + 1 + 1 + 1 + 1 + 1 + 1 := by omega
    unfold laws_heldTriggerS_l1
    simp (disch := omega) only [hil, decide_true, cond_true, idx_at hx, fillTrigger, wrap_id, bne_self_eq_false, cond_false, hc]
    first | done | rfl
  · intro k
    unfold laws_heldTriggerS_l1
    simp

theorem laws_heldIntS_eq (k0 : Int) (n : Nat) (h0 : 0 ≤ k0) (hk : k0 + (1 : Nat) * (n : Int) ≤ 4611686018427387904) (hlen : (n : Int) ≤ 4611686018427387904) : laws_heldIntS (fillL fillInt (1 : Nat) k0 n) k0 = some (k0 + (1 : Nat) * (n : Int)) := by
  unfold laws_heldIntS
  rw [held_loop fillInt 1 (fillL fillInt (1 : Nat) k0 n) k0 n rfl (body := laws_heldIntS_l1 (fillL fillInt (1 : Nat) k0 n)) ?_ ?_ h0 hk hlen]
  · rfl
  · intro k i hx h0 hk hi
    have hlt := (List.getElem?_eq_some_iff.1 hx).1
    have hil : ((i : Int) < ((fillL fillInt (1 : Nat) k0 n).length : Int)) := by omega
    have hc : k + ((1 : Nat) : Int) = k + 1 := by omega
    unfold laws_heldIntS_l1
    simp (disch := omega) only [hil, decide_true, cond_true, idx_at hx, fillInt, wrap_id, bne_self_eq_false, cond_false, hc]
    first | done | rfl
  · intro k
    unfold laws_heldIntS_l1
    simp

theorem laws_heldState_eq (s : T_State.D) (k : Int) (h0 : 0 ≤ k) (h1 : k ≤ 4294967296) (hp : s.1.length ≤ 1048576) (hs : s.2.1.length ≤ 1048576) : laws_heldState (markS s k) k = some (k + (13 : Nat) * (s.1.length : Int) + (3 : Nat) * (s.2.1.length : Int)) := by
  unfold laws_heldState markS
  rw [laws_heldPieceS_eq k _ h0 (by omega) (by omega), Option.bind_some, dec_neg (by omega)]
  simp only [cond_false]
  rw [laws_heldSideS_eq _ _ (by omega) (by omega) (by omega), Option.bind_some, dec_neg (by omega)]
  rfl
theorem laws_heldState_eq' (s : T_State.D) (k : Int) (h0 : 0 ≤ k) (h1 : k ≤ 4294967296) (hp : s.1.length ≤ 1048576) (hs : s.2.1.length ≤ 1048576) : laws_heldState ((markS s k).1, (markS s k).2.1, s.2.2) k = some (k + (13 : Nat) * (s.1.length : Int) + (3 : Nat) * (s.2.1.length : Int)) :=
  laws_heldState_eq s k h0 h1 hp hs


/-! ### Marks in lists with lists inside -/
def fillX {α : Type} (fill : Int → Nat → α) (c : Nat) : Int → List Nat → List α
  | _, [] => []
  | k, n :: ns => fill k n :: fillX fill c (k + ((c + 7 * n : Nat) : Int)) ns
def cntX (c : Nat) : List Nat → Int
  | [] => 0
  | n :: ns => ((c + 7 * n : Nat) : Int) + cntX c ns
theorem cntX_nonneg (c : Nat) : ∀ ns : List Nat, 0 ≤ cntX c ns
  | [] => Int.le_refl _
  | n :: ns => by have := cntX_nonneg c ns; simp only [cntX]; omega
theorem cntX_le (c : Nat) (hc : c ≤ 30) : ∀ ns : List Nat, (∀ n ∈ ns, n ≤ 1048576) → cntX c ns ≤ 7340062 * (ns.length : Int)
  | [], _ => by simp [cntX]
  | n :: ns, h => by
    have h1 := cntX_le c hc ns (fun m hm => h m (List.mem_cons_of_mem _ hm))
    have h2 := h n (List.mem_cons_self ..)
    simp only [cntX, List.length_cons]
    omega
theorem fillX_len {α : Type} (fill : Int → Nat → α) (c : Nat) : ∀ (ns : List Nat) (k : Int), (fillX fill c k ns).length = ns.length
  | [], _ => rfl
  | n :: ns, k => by simp only [fillX, List.length_cons, fillX_len fill c ns]
theorem markX_loop {α : Type} (fill : Int → Nat → α) (c : Nat) (len : α → Nat) {body : (List α × (Int × Int)) → Option ((List α × (Int × Int)) ⊕ (List α × (Int × Int)))}
    (hb : ∀ (ys : List α) (k : Int) (i : Nat) (x : α), ys[i]? = some x → len x ≤ 1048576 → 0 ≤ k → k ≤ 2305843009213693952 → (i : Int) ≤ 2305843009213693952 → body (ys, k, (i : Int)) = some (.inl (ys.set i (fill k (len x)), k + ((c + 7 * len x : Nat) : Int), (i : Int) + 1)))
    (he : ∀ (ys : List α) (k : Int), body (ys, k, (ys.length : Int)) = some (.inr (ys, k, (ys.length : Int)))) (xs : List α) (k : Int) (h : ∀ x ∈ xs, len x ≤ 1048576) (h0 : 0 ≤ k) (hk : k + cntX c (xs.map len) ≤ 2305843009213693952) (hlen : (xs.length : Int) ≤ 2305843009213693952) :
    while_ body (xs, k, 0) = some (fillX fill c k (xs.map len), k + cntX c (xs.map len), (xs.length : Int)) := by
  have main : ∀ (r p : List α) (k : Int), (∀ x ∈ r, len x ≤ 1048576) → 0 ≤ k → k + cntX c (r.map len) ≤ 2305843009213693952 → ((p.length + r.length : Nat) : Int) ≤ 2305843009213693952 →
      while_ body (p ++ r, k, (p.length : Int)) = some (p ++ fillX fill c k (r.map len), k + cntX c (r.map len), ((p.length + r.length : Nat) : Int)) := by
    intro r
    induction r with
    | nil =>
      intro p k _ h0 hk hl
      refine while_done ?_
      have := he p k
      simpa [fillX, cntX] using this
    | cons x r ih =>
      intro p k hx h0 hk hl
      have hn := cntX_nonneg c (r.map len)
      simp only [List.map_cons, cntX] at hk
      simp only [List.length_cons] at hl
      refine while_step (hb (p ++ x :: r) k p.length x (by simp) (hx x (List.mem_cons_self ..)) h0 (by omega) (by omega)) ?_
      have := ih (p ++ [fill k (len x)]) (k + ((c + 7 * len x : Nat) : Int)) (fun y hy => hx y (List.mem_cons_of_mem _ hy)) (by omega) (by omega) (by simp; omega)
      have e1 : (p ++ x :: r).set p.length (fill k (len x)) = p ++ [fill k (len x)] ++ r := by simp
      rw [e1]
      have e2 : ((p ++ [fill k (len x)]).length : Int) = (p.length : Int) + 1 := by simp
      rw [e2] at this
      rw [this]
      simp only [fillX, cntX, List.map_cons, List.length_cons, List.append_assoc, List.singleton_append, Option.some.injEq, Prod.mk.injEq, true_and]
      refine ⟨by omega, ?_⟩
      simp; omega
  have := main xs [] k h h0 hk (by simpa using hlen)
  simpa using this
theorem heldX_loop {α : Type} (fill : Int → Nat → α) (c : Nat) (ys : List α) {β : Type} {body : (Int × Int) → Option ((Int × Int) ⊕ ((Int × Int) ⊕ β))} (k : Int) (ns : List Nat) (hy : ys = fillX fill c k ns)
    (hb : ∀ (k : Int) (n i : Nat), ys[i]? = some (fill k n) → n ≤ 1048576 → 0 ≤ k → k ≤ 2305843009213693952 → (i : Int) ≤ 2305843009213693952 → body (k, (i : Int)) = some (.inl (k + ((c + 7 * n : Nat) : Int), (i : Int) + 1)))
    (he : ∀ (k : Int), body (k, (ys.length : Int)) = some (.inr (.inl (k, (ys.length : Int))))) (h : ∀ n ∈ ns, n ≤ 1048576) (h0 : 0 ≤ k) (hk : k + cntX c ns ≤ 2305843009213693952) (hlen : (ns.length : Int) ≤ 2305843009213693952) :
    while_ body (k, 0) = some (.inl (k + cntX c ns, (ns.length : Int))) := by
  have hyl : ys.length = ns.length := by rw [hy, fillX_len]
  have main : ∀ (r : List Nat) (p : List α) (k : Int), ys = p ++ fillX fill c k r → p.length + r.length = ns.length → (∀ n ∈ r, n ≤ 1048576) → 0 ≤ k → k + cntX c r ≤ 2305843009213693952 → while_ body (k, (p.length : Int)) = some (.inl (k + cntX c r, (ns.length : Int))) := by
    intro r
    induction r with
    | nil =>
      intro p k e hl _ h0 hk
      refine while_done ?_
      have := he k
      rw [hyl] at this
      simp only [List.length_nil, Nat.add_zero] at hl
      rw [hl]
      simpa [cntX] using this
    | cons n r ih =>
      intro p k e hl hn h0 hk
      have hnn := cntX_nonneg c r
      simp only [cntX] at hk
      simp only [List.length_cons] at hl
      refine while_step (hb k n p.length (by rw [e]; simp [fillX]) (hn n (List.mem_cons_self ..)) h0 (by omega) (by omega)) ?_
      have := ih (p ++ [fill k n]) (k + ((c + 7 * n : Nat) : Int)) (by rw [e]; simp [fillX]) (by simp; omega) (fun m hm => hn m (List.mem_cons_of_mem _ hm)) (by omega) (by omega)
      rw [show ((p ++ [fill k n]).length : Int) = (p.length : Int) + 1 by simp] at this
      rw [this]
      simp only [cntX]
      congr 2
      rw [Int.add_assoc]
  have := main ns [] k hy (by simp) h h0 hk
  simpa using this
def fillEffect (k : Int) (n : Nat) : T_Effect.D := (k, k + 1, k + 1 + 1, k + 1 + 1 + 1, (k + 1 + 1 + 1 + 1, k + 1 + 1 + 1 + 1 + 1, k + 1 + 1 + 1 + 1 + 1 + 1, k + 1 + 1 + 1 + 1 + 1 + 1 + 1, k + 1 + 1 + 1 + 1 + 1 + 1 + 1 + 1, k + 1 + 1 + 1 + 1 + 1 + 1 + 1 + 1 + 1, k + 1 + 1 + 1 + 1 + 1 + 1 + 1 + 1 + 1 + 1, ()), (k + 1 + 1 + 1 + 1 + 1 + 1 + 1 + 1 + 1 + 1 + 1, k + 1 + 1 + 1 + 1 + 1 + 1 + 1 + 1 + 1 + 1 + 1 + 1, ()), (k + 1 + 1 + 1 + 1 + 1 + 1 + 1 + 1 + 1 + 1 + 1 + 1 + 1, k + 1 + 1 + 1 + 1 + 1 + 1 + 1 + 1 + 1 + 1 + 1 + 1 + 1 + 1, k + 1 + 1 + 1 + 1 + 1 + 1 + 1 + 1 + 1 + 1 + 1 + 1 + 1 + 1 + 1, k + 1 + 1 + 1 + 1 + 1 + 1 + 1 + 1 + 1 + 1 + 1 + 1 + 1 + 1 + 1 + 1, k + 1 + 1 + 1 + 1 + 1 + 1 + 1 + 1 + 1 + 1 + 1 + 1 + 1 + 1 + 1 + 1 + 1, ((k + 1 + 1 + 1 + 1 + 1 + 1 + 1 + 1 + 1 + 1 + 1 + 1 + 1 + 1 + 1 + 1 + 1 + 1).tmod 3 == 0), fillL fillEvent (7 : Nat) (k + 1 + 1 + 1 + 1 + 1 + 1 + 1 + 1 + 1 + 1 + 1 + 1 + 1 + 1 + 1 + 1 + 1 + 1 + 1) n, ()), k + 1 + 1 + 1 + 1 + 1 + 1 + 1 + 1 + 1 + 1 + 1 + 1 + 1 + 1 + 1 + 1 + 1 + 1 + 1 + (7 : Nat) * (n : Int), k + 1 + 1 + 1 + 1 + 1 + 1 + 1 + 1 + 1 + 1 + 1 + 1 + 1 + 1 + 1 + 1 + 1 + 1 + 1 + (7 : Nat) * (n : Int) + 1, ())
def lenEffect (x : T_Effect.D) : Nat := x.2.2.2.2.2.2.1.2.2.2.2.2.2.1.length
theorem laws_markEffectS_step (ys : List T_Effect.D) (k : Int) (i : Nat) (x : T_Effect.D) (hx : ys[i]? = some x) (hn : lenEffect x ≤ 1048576) (h0 : 0 ≤ k) (hk : k ≤ 2305843009213693952) (hi : (i : Int) ≤ 2305843009213693952) : laws_markEffectS_l1 (ys, k, (i : Int)) = some (.inl (ys.set i (fillEffect k (lenEffect x)), k + ((21 + 7 * lenEffect x : Nat) : Int), (i : Int) + 1)) := by
  have hlt := (List.getElem?_eq_some_iff.1 hx).1
  have hil : ((i : Int) < (ys.length : Int)) := by omega
  unfold lenEffect at hn ⊢
  generalize hL : x.2.2.2.2.2.2.1.2.2.2.2.2.2.1 = L at hn ⊢
  have hc : k + ((21 + 7 * L.length : Nat) : Int) = k + 1 + 1 + 1 + 1 + 1 + 1 + 1 + 1 + 1 + 1 + 1 + 1 + 1 + 1 + 1 + 1 + 1 + 1 + 1 + (7 : Nat) * (L.length : Int) + 1 + 1 := by omega
  have hm : ∀ q : Int, q = k + 1 + 1 + 1 + 1 + 1 + 1 + 1 + 1 + 1 + 1 + 1 + 1 + 1 + 1 + 1 + 1 + 1 + 1 + 1 → laws_markEventS L q = some (q + (7 : Nat) * (L.length : Int), (fillL fillEvent (7 : Nat) q L.length, ())) := fun q hq => laws_markEventS_eq L q (by omega) (by omega) (by omega)
  have h3 : ¬ ((3 : Int) = 0) := by decide
  unfold laws_markEffectS_l1 fillEffect
  simp (disch := omega) only [hil, decide_true, cond_true, Int.toNat_natCast, idx_at hx, hx, Option.bind_some, idx_set hlt, get_set hlt, List.set_set, wrap_id, hc, hL, hm, h3, if_false]
  first | done | rfl
theorem laws_markEffectS_ok (xs : List T_Effect.D) (k : Int) (h : okD (.slice T_Effect) xs) (h0 : 0 ≤ k) (hk : k ≤ 1152921504606846976) : laws_markEffectS xs k = some (k + cntX 21 (xs.map lenEffect), (fillX fillEffect 21 k (xs.map lenEffect), ())) ∧ 0 ≤ cntX 21 (xs.map lenEffect) ∧ cntX 21 (xs.map lenEffect) ≤ 7696615317504 := by
  have hl : xs.length ≤ 1048576 := h.1
  have hx : ∀ x ∈ xs, lenEffect x ≤ 1048576 := fun x hx => (h.2 x hx).2.2.2.2.2.2.1.2.2.2.2.2.2.1.1
  have hb := cntX_le 21 (by decide) (xs.map lenEffect) (fun m hm => by obtain ⟨x, hx', rfl⟩ := List.mem_map.1 hm; exact hx x hx')
  rw [List.length_map] at hb
  refine ⟨?_, cntX_nonneg _ _, by omega⟩
  unfold laws_markEffectS
  rw [markX_loop fillEffect 21 lenEffect laws_markEffectS_step (fun ys k => by unfold laws_markEffectS_l1; simp) xs k hx h0 (by omega) (by omega)]
  rfl
theorem laws_heldEffectS_ok (ns : List Nat) (k : Int) (h : ∀ n ∈ ns, n ≤ 1048576) (hl : ns.length ≤ 1048576) (h0 : 0 ≤ k) (hk : k ≤ 1152921504606846976) : laws_heldEffectS (fillX fillEffect 21 k ns) k = some (k + cntX 21 ns) := by
  have hb := cntX_le 21 (by decide) ns h
  unfold laws_heldEffectS
  rw [heldX_loop fillEffect 21 (fillX fillEffect 21 k ns) k ns rfl (body := laws_heldEffectS_l1 (fillX fillEffect 21 k ns)) ?_ ?_ h h0 (by omega) (by omega)]
  · rfl
  · intro k n i hx hn h0 hk hi
    have hlt := (List.getElem?_eq_some_iff.1 hx).1
    have hil : ((i : Int) < ((fillX fillEffect 21 _ ns).length : Int)) := Int.ofNat_lt.2 hlt
    have hc : k + ((21 + 7 * n : Nat) : Int) = k + 1 + 1 + 1 + 1 + 1 + 1 + 1 + 1 + 1 + 1 + 1 + 1 + 1 + 1 + 1 + 1 + 1 + 1 + 1 + (7 : Nat) * (n : Int) + 1 + 1 := by omega
    have hm : laws_heldEventS (fillL fillEvent (7 : Nat) (k + 1 + 1 + 1 + 1 + 1 + 1 + 1 + 1 + 1 + 1 + 1 + 1 + 1 + 1 + 1 + 1 + 1 + 1 + 1) n) (k + 1 + 1 + 1 + 1 + 1 + 1 + 1 + 1 + 1 + 1 + 1 + 1 + 1 + 1 + 1 + 1 + 1 + 1 + 1) = some (k + 1 + 1 + 1 + 1 + 1 + 1 + 1 + 1 + 1 + 1 + 1 + 1 + 1 + 1 + 1 + 1 + 1 + 1 + 1 + (7 : Nat) * (n : Int)) := laws_heldEventS_eq _ n (by omega) (by omega) (by omega)
    have h3 : ¬ ((3 : Int) = 0) := by decide
    unfold laws_heldEffectS_l1
    simp (disch := omega) only [hil, decide_true, cond_true, idx_at hx, fillEffect, wrap_id, bne_self_eq_false, cond_false, hc, hm, Option.bind_some, dec_neg, h3, if_false]
    first | done | rfl
  · intro k
    unfold laws_heldEffectS_l1
    simp
def fillTurn (k : Int) (n : Nat) : T_Turn.D := (k, k + 1, k + 1 + 1, k + 1 + 1 + 1, (k + 1 + 1 + 1 + 1, k + 1 + 1 + 1 + 1 + 1, k + 1 + 1 + 1 + 1 + 1 + 1, k + 1 + 1 + 1 + 1 + 1 + 1 + 1, k + 1 + 1 + 1 + 1 + 1 + 1 + 1 + 1, k + 1 + 1 + 1 + 1 + 1 + 1 + 1 + 1 + 1, ((k + 1 + 1 + 1 + 1 + 1 + 1 + 1 + 1 + 1 + 1).tmod 3 == 0), ()), fillL fillEvent (7 : Nat) (k + 1 + 1 + 1 + 1 + 1 + 1 + 1 + 1 + 1 + 1 + 1) n, k + 1 + 1 + 1 + 1 + 1 + 1 + 1 + 1 + 1 + 1 + 1 + (7 : Nat) * (n : Int), k + 1 + 1 + 1 + 1 + 1 + 1 + 1 + 1 + 1 + 1 + 1 + (7 : Nat) * (n : Int) + 1, ())
def lenTurn (x : T_Turn.D) : Nat := x.2.2.2.2.2.1.length
theorem laws_markTurnS_step (ys : List T_Turn.D) (k : Int) (i : Nat) (x : T_Turn.D) (hx : ys[i]? = some x) (hn : lenTurn x ≤ 1048576) (h0 : 0 ≤ k) (hk : k ≤ 2305843009213693952) (hi : (i : Int) ≤ 2305843009213693952) : laws_markTurnS_l1 (ys, k, (i : Int)) = some (.inl (ys.set i (fillTurn k (lenTurn x)), k + ((13 + 7 * lenTurn x : Nat) : Int), (i : Int) + 1)) := by
  have hlt := (List.getElem?_eq_some_iff.1 hx).1
  have hil : ((i : Int) < (ys.length : Int)) := by omega
  unfold lenTurn at hn ⊢
  generalize hL : x.2.2.2.2.2.1 = L at hn ⊢
  have hc : k + ((13 + 7 * L.length : Nat) : Int) = k + 1 + 1 + 1 + 1 + 1 + 1 + 1 + 1 + 1 + 1 + 1 + (7 : Nat) * (L.length : Int) + 1 + 1 := by omega
  have hm : ∀ q : Int, q = k + 1 + 1 + 1 + 1 + 1 + 1 + 1 + 1 + 1 + 1 + 1 → laws_markEventS L q = some (q + (7 : Nat) * (L.length : Int), (fillL fillEvent (7 : Nat) q L.length, ())) := fun q hq => laws_markEventS_eq L q (by omega) (by omega) (by omega)
  have h3 : ¬ ((3 : Int) = 0) := by decide
  unfold laws_markTurnS_l1 fillTurn
  simp (disch := omega) only [hil, decide_true, cond_true, Int.toNat_natCast, idx_at hx, hx, Option.bind_some, idx_set hlt, get_set hlt, List.set_set, wrap_id, hc, hL, hm, h3, if_false]
  first | done | rfl
theorem laws_markTurnS_ok (xs : List T_Turn.D) (k : Int) (h : okD (.slice T_Turn) xs) (h0 : 0 ≤ k) (hk : k ≤ 1152921504606846976) : laws_markTurnS xs k = some (k + cntX 13 (xs.map lenTurn), (fillX fillTurn 13 k (xs.map lenTurn), ())) ∧ 0 ≤ cntX 13 (xs.map lenTurn) ∧ cntX 13 (xs.map lenTurn) ≤ 7696615317504 := by
  have hl : xs.length ≤ 1048576 := h.1
  have hx : ∀ x ∈ xs, lenTurn x ≤ 1048576 := fun x hx => (h.2 x hx).2.2.2.2.2.1.1
  have hb := cntX_le 13 (by decide) (xs.map lenTurn) (fun m hm => by obtain ⟨x, hx', rfl⟩ := List.mem_map.1 hm; exact hx x hx')
  rw [List.length_map] at hb
  refine ⟨?_, cntX_nonneg _ _, by omega⟩
  unfold laws_markTurnS
  rw [markX_loop fillTurn 13 lenTurn laws_markTurnS_step (fun ys k => by unfold laws_markTurnS_l1; simp) xs k hx h0 (by omega) (by omega)]
  rfl
theorem laws_heldTurnS_ok (ns : List Nat) (k : Int) (h : ∀ n ∈ ns, n ≤ 1048576) (hl : ns.length ≤ 1048576) (h0 : 0 ≤ k) (hk : k ≤ 1152921504606846976) : laws_heldTurnS (fillX fillTurn 13 k ns) k = some (k + cntX 13 ns) := by
  have hb := cntX_le 13 (by decide) ns h
  unfold laws_heldTurnS
  rw [heldX_loop fillTurn 13 (fillX fillTurn 13 k ns) k ns rfl (body := laws_heldTurnS_l1 (fillX fillTurn 13 k ns)) ?_ ?_ h h0 (by omega) (by omega)]
  · rfl
  · intro k n i hx hn h0 hk hi
    have hlt := (List.getElem?_eq_some_iff.1 hx).1
    have hil : ((i : Int) < ((fillX fillTurn 13 _ ns).length : Int)) := Int.ofNat_lt.2 hlt
    have hc : k + ((13 + 7 * n : Nat) : Int) = k + 1 + 1 + 1 + 1 + 1 + 1 + 1 + 1 + 1 + 1 + 1 + (7 : Nat) * (n : Int) + 1 + 1 := by omega
    have hm : laws_heldEventS (fillL fillEvent (7 : Nat) (k + 1 + 1 + 1 + 1 + 1 + 1 + 1 + 1 + 1 + 1 + 1) n) (k + 1 + 1 + 1 + 1 + 1 + 1 + 1 + 1 + 1 + 1 + 1) = some (k + 1 + 1 + 1 + 1 + 1 + 1 + 1 + 1 + 1 + 1 + 1 + (7 : Nat) * (n : Int)) := laws_heldEventS_eq _ n (by omega) (by omega) (by omega)
    have h3 : ¬ ((3 : Int) = 0) := by decide
    unfold laws_heldTurnS_l1
    simp (disch := omega) only [hil, decide_true, cond_true, idx_at hx, fillTurn, wrap_id, bne_self_eq_false, cond_false, hc, hm, Option.bind_some, dec_neg, h3, if_false]
    first | done | rfl
  · intro k
    unfold laws_heldTurnS_l1
    simp

theorem index_Event (xs : List T_Event.D) (hl : xs.length ≤ 1048576) (p : T_Event.D → Bool) (q : (T_Event.D × Unit) → Option Bool) (hq : ∀ x, q (x, ()) = some (p x)) :
    slices_IndexFunc_impl_Event xs q = some (match findL p xs with | some k => (k : Int) | none => -1) := by
  unfold slices_IndexFunc_impl_Event
  rw [index_loop xs (body := slices_IndexFunc_impl_Event_l1 xs q) p (fun i => i) (by omega) (fun i x hx => ?_) ?_]
  · cases findL p xs <;> rfl
  · unfold slices_IndexFunc_impl_Event_l1
    simp
  · unfold slices_IndexFunc_impl_Event_l1
    have hlt := (List.getElem?_eq_some_iff.1 hx).1
    have : ((i : Int) < (xs.length : Int)) := by omega
    simp only [this, decide_true, cond_true, idx_at hx, hq, Option.bind_some]
theorem deleteFunc_Event (xs : List T_Event.D) (hl : xs.length ≤ 1048576) (p : T_Event.D → Bool) (q : (T_Event.D × Unit) → Option Bool) (hq : ∀ x, q (x, ()) = some (p x)) :
    slices_DeleteFunc_impl_Event xs q = some (xs.filter (fun x => !p x), ()) := by
  unfold slices_DeleteFunc_impl_Event
  rw [index_Event xs hl p q hq, Option.bind_some]
  obtain ⟨h1, h2⟩ := findL_spec p xs
  cases hf : findL p xs with
  | none =>
    have : xs.filter (fun x => !p x) = xs := by rw [List.filter_eq_self]; intro x hx; simp [h1 hf x hx]
    rw [this]; rfl
  | some k =>
    obtain ⟨x, g1, g2, g3⟩ := h2 k hf
    have hk := (List.getElem?_eq_some_iff.1 g1).1
    have n1 : ((k : Int) == -1) = false := by simp
    simp only [n1, cond_false]
    rw [wrap_id (by omega) (by omega)]
    obtain ⟨ys, m, e1, e2, e3, e4⟩ : ∃ (ys : List T_Event.D) (m : Nat), while_ (slices_DeleteFunc_impl_Event_l1 q) (xs, (k : Int), (k : Int) + 1) = some (ys, (m : Int), (xs.length : Int)) ∧ ys.length = xs.length ∧ m ≤ xs.length ∧ ys.take m = xs.filter (fun x => !p x) := by
      refine delete_loop xs (body := slices_DeleteFunc_impl_Event_l1 q) p (fun s => s) (by omega) (fun ys i j x hx hij hl' => ?_) (fun ys i hl' => ?_) k x g1 g2 g3
      · have hlt := (List.getElem?_eq_some_iff.1 hx).1
        have hil : ((j : Int) < (ys.length : Int)) := by omega
        obtain ⟨y, hy⟩ : ∃ y, ys[i]? = some y := ⟨_, List.getElem?_eq_getElem (by omega)⟩
        unfold slices_DeleteFunc_impl_Event_l1
        simp (disch := omega) only [hil, decide_true, cond_true, Int.toNat_natCast, idx_at hx, hx, hq, Option.bind_some, idx_at hy, hy, wrap_id]
        cases p x <;> rfl
      · unfold slices_DeleteFunc_impl_Event_l1
        have : ¬ ((xs.length : Int) < (ys.length : Int)) := by omega
        simp only [this, decide_false, cond_false]
    rw [e1, Option.bind_some]
    have t1 : 0 ≤ (m : Int) := by omega
    have t2 : (m : Int) ≤ (ys.length : Int) := by omega
    simp only [t1, t2, if_true, Int.le_refl, Int.toNat_natCast]
    have z1 : m ≤ ys.length := by omega
    rw [if_pos (by simp only [List.length_append, List.length_take, List.length_replicate, List.length_drop]; omega)]
    have : ∀ (zs : List T_Event.D), (ys.take m ++ zs).take m = ys.take m := fun zs => by rw [List.take_append_of_le_length (by simp; omega), List.take_take, Nat.min_self]
    rw [List.append_assoc, this, e4]
    simp

/-! ### Copies -/
theorem clonePiece_eq (xs : List T_Piece.D) (h : xs.length ≤ 1048576) : slices_Clone_impl_Piece xs = some xs := by
  unfold slices_Clone_impl_Piece
  rw [if_pos (by simp only [room, List.length_nil]; omega)]
  rfl
theorem cloneSide_eq (xs : List T_Side.D) (h : xs.length ≤ 1048576) : slices_Clone_impl_Side xs = some xs := by
  unfold slices_Clone_impl_Side
  rw [if_pos (by simp only [room, List.length_nil]; omega)]
  rfl
theorem impl_copy_eq (s : T_State.D) (hp : s.1.length ≤ 1048576) (hs : s.2.1.length ≤ 1048576) : impl_copyState s = some s := by
  unfold impl_copyState
  simp only [clonePiece_eq _ hp, cloneSide_eq _ hs, Option.bind_some]
theorem spec_copy_eq (s : T_State.D) (hp : s.1.length ≤ 1048576) (hs : s.2.1.length ≤ 1048576) : spec_l5Copy s = some s := by
  unfold spec_l5Copy
  rw [if_pos (by simp only [room, List.length_nil]; omega), if_pos (by simp only [room, List.length_nil]; omega)]
  rfl
/-- An element read to be written. -/
theorem ref_at {α R : Type} {xs : List α} {i : Nat} {x : α} {κ : α → Option R} (h : xs[i]? = some x) : (idx xs (i : Int) fun _ => (xs[((i : Int)).toNat]?).bind κ) = κ x := by
  rw [idx_at h, Int.toNat_natCast, h, Option.bind_some]
/-- Two states of the same size. -/
def sameSize (a b : T_State.D) : Prop := a.1.length = b.1.length ∧ a.2.1.length = b.2.1.length


/-! ### LeftOf, GameNew -/
theorem collect_map {α β : Type} (f : α → β) : ∀ (xs : List α) (i : Nat), collect (fun _ x => [f x]) i xs = xs.map f
  | [], _ => rfl
  | x :: xs, i => by simp only [collect, List.map_cons, collect_map f xs (i + 1)]; rfl
theorem markFate_some (f : T_Fate.D) (h : okD T_Fate f) : ∃ n g, laws_markFate f 1 = some (n, (g, ())) ∧ 0 ≤ n := by
  have l1 : f.1.length ≤ 1048576 := h.1.1
  have l3 : f.2.2.1.length ≤ 1048576 := h.2.2.1.1
  unfold laws_markFate
  rw [laws_markEventS_eq f.1 1 (by omega) (by omega) (by omega), Option.bind_some]
  obtain ⟨m2, b2, c2⟩ := laws_markEffectS_ok f.2.1 (1 + (7 : Nat) * (f.1.length : Int)) h.2.1 (by omega) (by omega)
  simp only
  rw [m2, Option.bind_some]
  simp only
  generalize cntX 21 (f.2.1.map lenEffect) = q2 at b2 c2
  rw [laws_markIntS_eq f.2.2.1 _ (by omega) (by omega) (by omega), Option.bind_some]
  obtain ⟨m4, b4, c4⟩ := laws_markTurnS_ok f.2.2.2.1 (1 + (7 : Nat) * (f.1.length : Int) + q2 + (1 : Nat) * (f.2.2.1.length : Int)) h.2.2.2.1 (by omega) (by omega)
  simp only
  rw [m4, Option.bind_some]
  exact ⟨_, _, rfl, by omega⟩
theorem law_LeftOf (f : T_Fate.D) (a : Int) (w : T_Fate.wf f) : laws_FnExactLeftOf f a = some true := by
  unfold laws_FnExactLeftOf
  obtain ⟨m, e, hh⟩ := laws_szFate_ok f 1048576 (by omega) (by omega) w
  rw [e, Option.bind_some]
  rcases hh with hh | ⟨g0, g1, ok⟩
  · rw [decide_eq_true hh]; rfl
  rw [dec_neg g0]; simp only [cond_false]
  have hl : f.1.length ≤ 1048576 := ok.1.1
  obtain ⟨r, hr, e1, e2⟩ : ∃ r, r.length ≤ 1048576 ∧ spec_LeftOf f a = some r ∧ impl_LeftOf f a = some r := by
    refine ⟨f.1.filter (fun x => x.1 == a), by have := List.length_filter_le (fun (x : T_Event.D) => x.1 == a) f.1; omega, ?_, ?_⟩
    · unfold spec_LeftOf
      rw [append_loop f.1 (fun _ x => if x.1 == a then [x] else []) (fun s => s) (fun _ x => by split <;> simp) (by omega) (fun t i x hI hx => ?_) (fun t => ?_)]
      · rw [Option.bind_some, collect_filter]
      · have hlt := (List.getElem?_eq_some_iff.1 hx).1
        have hil : ((i : Int) < (f.1.length : Int)) := by omega
        unfold spec_LeftOf_l1
        simp only [hil, decide_true, cond_true, idx_at hx]
        rw [if_pos (by simp only [room, List.length_cons, List.length_nil]; omega)]
        cases (x.1 == a) <;> simp
      · unfold spec_LeftOf_l1; simp
    · unfold impl_LeftOf slices_Clone_impl_Event
      rw [if_pos (by simp only [room, List.length_nil]; omega)]
      simp only [Option.bind_some, List.nil_append]
      rw [deleteFunc_Event f.1 hl (fun x => x.1 != a) _ (fun x => rfl)]
      simp [bne]
  obtain ⟨n, g, hm, hn⟩ := markFate_some f ok
  simp (disch := omega) only [laws_toFate_ok f ok, e1, e2, laws_eqFate_ok f f ok, eqD_refl (t := T_Fate) rfl, laws_eqEventS_eq r r hr, eqD_refl (t := .slice T_Event) rfl, hm, Option.bind_some, dec_neg hn, laws_markEventS_eq r 1, laws_heldEventS_eq 1 r.length, dec_neg, bne_self_eq_false, Bool.not_true, cond_false, cond_true]
theorem markGame_some (g : T_Game.D) (h : okD T_Game g) : ∃ n g', laws_markGame g 1 = some (n, (g', ())) ∧ 0 ≤ n ∧ laws_heldGame ((g'.1.1, g'.1.2.1, g.1.2.2), g'.2) 1 = some n := by
  have p1 : g.1.1.length ≤ 1048576 := h.1.1.1
  have p2 : g.1.2.1.length ≤ 1048576 := h.1.2.1.1
  have l3 : g.2.2.1.length ≤ 1048576 := h.2.2.1.1
  have l4 : g.2.2.2.1.length ≤ 1048576 := h.2.2.2.1.1
  have l5 : g.2.2.2.2.1.length ≤ 1048576 := h.2.2.2.2.1.1
  have n2 : ∀ n ∈ g.2.1.map lenEffect, n ≤ 1048576 := fun n hn => by obtain ⟨x, hx, rfl⟩ := List.mem_map.1 hn; exact (h.2.1.2 x hx).2.2.2.2.2.2.1.2.2.2.2.2.2.1.1
  have n6 : ∀ n ∈ g.2.2.2.2.2.1.map lenTurn, n ≤ 1048576 := fun n hn => by obtain ⟨x, hx, rfl⟩ := List.mem_map.1 hn; exact (h.2.2.2.2.2.1.2 x hx).2.2.2.2.2.1.1
  have s2 : (g.2.1.map lenEffect).length ≤ 1048576 := by rw [List.length_map]; exact h.2.1.1
  have s6 : (g.2.2.2.2.2.1.map lenTurn).length ≤ 1048576 := by rw [List.length_map]; exact h.2.2.2.2.2.1.1
  obtain ⟨K1, k1⟩ : ∃ K : Int, K = 1 + (13 : Nat) * (g.1.1.length : Int) + (3 : Nat) * (g.1.2.1.length : Int) := ⟨_, rfl⟩
  have a1 := laws_markState_eq g.1 1 (by omega) (by omega) p1 p2
  have b1 := laws_heldState_eq' g.1 1 (by omega) (by omega) p1 p2
  rw [← k1] at a1 b1
  obtain ⟨a2, q2, r2⟩ := laws_markEffectS_ok g.2.1 K1 h.2.1 (by omega) (by omega)
  have b2 := laws_heldEffectS_ok (g.2.1.map lenEffect) K1 n2 s2 (by omega) (by omega)
  obtain ⟨K2, k2⟩ : ∃ K : Int, K = K1 + cntX 21 (g.2.1.map lenEffect) := ⟨_, rfl⟩
  rw [← k2] at a2 b2
  have a3 := laws_markIntS_eq g.2.2.1 K2 (by omega) (by omega) (by omega)
  have b3 := laws_heldIntS_eq K2 g.2.2.1.length (by omega) (by omega) (by omega)
  obtain ⟨K3, k3⟩ : ∃ K : Int, K = K2 + (1 : Nat) * (g.2.2.1.length : Int) := ⟨_, rfl⟩
  rw [← k3] at a3 b3
  have a4 := laws_markTriggerS_eq g.2.2.2.1 K3 (by omega) (by omega) (by omega)
  have b4 := laws_heldTriggerS_eq K3 g.2.2.2.1.length (by omega) (by omega) (by omega)
  obtain ⟨K4, k4⟩ : ∃ K : Int, K = K3 + (16 : Nat) * (g.2.2.2.1.length : Int) := ⟨_, rfl⟩
  rw [← k4] at a4 b4
  have a5 := laws_markNoteS_eq g.2.2.2.2.1 K4 (by omega) (by omega) (by omega)
  have b5 := laws_heldNoteS_eq K4 g.2.2.2.2.1.length (by omega) (by omega) (by omega)
  obtain ⟨K5, k5⟩ : ∃ K : Int, K = K4 + (23 : Nat) * (g.2.2.2.2.1.length : Int) := ⟨_, rfl⟩
  rw [← k5] at a5 b5
  obtain ⟨a6, q6, r6⟩ := laws_markTurnS_ok g.2.2.2.2.2.1 K5 h.2.2.2.2.2.1 (by omega) (by omega)
  have b6 := laws_heldTurnS_ok (g.2.2.2.2.2.1.map lenTurn) K5 n6 s6 (by omega) (by omega)
  obtain ⟨K6, k6⟩ : ∃ K : Int, K = K5 + cntX 13 (g.2.2.2.2.2.1.map lenTurn) := ⟨_, rfl⟩
  rw [← k6] at a6 b6
  refine ⟨K6, (((markS g.1 1).1, (markS g.1 1).2.1, g.1.2.2), fillX fillEffect 21 K1 (g.2.1.map lenEffect), fillL fillInt (1 : Nat) K2 g.2.2.1.length, fillL fillTrigger (16 : Nat) K3 g.2.2.2.1.length, fillL fillNote (23 : Nat) K4 g.2.2.2.2.1.length, fillX fillTurn 13 K5 (g.2.2.2.2.2.1.map lenTurn), ()), ?_, by omega, ?_⟩
  · unfold laws_markGame
    simp only [a1, a2, a3, a4, a5, a6, Option.bind_some]
  · unfold laws_heldGame
    simp (disch := omega) only [b1, b2, b3, b4, b5, b6, Option.bind_some, dec_neg, cond_false]
theorem spec_table_copy (xs : List T_Effect.D) (h : okD (.slice T_Effect) xs) : spec_l11Copy xs = some xs := by
  have hl : xs.length ≤ 1048576 := h.1
  unfold spec_l11Copy
  rw [append_loop xs (fun _ x => [x]) (fun s => s) (fun _ _ => by simp) (by omega) (fun t i x hI hx => ?_) (fun t => ?_)]
  · rw [Option.bind_some, collect_map]; simp
  · have hlt := (List.getElem?_eq_some_iff.1 hx).1
    have hil : ((i : Int) < (xs.length : Int)) := by omega
    have hle := (h.2 x (List.mem_of_getElem? hx)).2.2.2.2.2.2.1.2.2.2.2.2.2.1.1
    unfold spec_l11Copy_l1 spec_l10Copy spec_l9Copy
    simp only [hil, decide_true, cond_true, idx_at hx, List.nil_append]
    rw [if_pos (by simp only [room, List.length_nil]; omega)]
    simp only [Option.bind_some]
    rw [if_pos (by simp only [room, List.length_cons, List.length_nil]; omega)]
  · unfold spec_l11Copy_l1; simp
theorem impl_table_copy (xs : List T_Effect.D) (h : okD (.slice T_Effect) xs) : impl_copyTable xs = some xs := by
  have hl : xs.length ≤ 1048576 := h.1
  unfold impl_copyTable
  rw [append_loop xs (fun _ x => [x]) (fun s => s) (fun _ _ => by simp) (by omega) (fun t i x hI hx => ?_) (fun t => ?_)]
  · rw [Option.bind_some, collect_map]; simp
  · have hlt := (List.getElem?_eq_some_iff.1 hx).1
    have hil : ((i : Int) < (xs.length : Int)) := by omega
    have hle := (h.2 x (List.mem_of_getElem? hx)).2.2.2.2.2.2.1.2.2.2.2.2.2.1.1
    unfold impl_copyTable_l1 impl_copyEffect slices_Clone_impl_Event
    simp only [hil, decide_true, cond_true, idx_at hx, List.nil_append]
    rw [if_pos (by simp only [room, List.length_nil]; omega)]
    simp only [Option.bind_some]
    rw [if_pos (by simp only [room, List.length_cons, List.length_nil]; omega)]
  · unfold impl_copyTable_l1; simp
theorem law_GameNew (s : T_State.D) (xs : List T_Effect.D) (l : List Int) (ws0 : s.1.length ≤ maxLen) (ws1 : s.2.1.length ≤ maxLen) (wx : (Ty.slice T_Effect).wf xs) : laws_FnExactGameNew s xs l = some true := by
  unfold laws_FnExactGameNew
  by_cases gl : (l.length : Int) > 1048576
  · rw [decide_eq_true gl]; rfl
  rw [decide_eq_false gl]; simp only [cond_false]
  rw [laws_szState_eq s _ (by omega) (by omega) ws0 ws1, Option.bind_some]
  by_cases gs : (s.1.length : Int) + s.2.1.length ≤ 1048576
  · rw [if_pos gs]
    simp (disch := omega) only [dec_neg, cond_false]
    obtain ⟨m, e, hh⟩ := laws_szEffectS_ok xs (1048576 - s.1.length - s.2.1.length) (by omega) (by omega) wx
    rw [e, Option.bind_some]
    rcases hh with hh | ⟨g0, g1, ok⟩
    · rw [decide_eq_true hh]; rfl
    rw [dec_neg g0]; simp only [cond_false]
    have hp : s.1.length ≤ 1048576 := by omega
    have hs : s.2.1.length ≤ 1048576 := by omega
    have hll : l.length ≤ 1048576 := by omega
    have e1 : spec_GameNew s xs l = some (s, xs, l, [], [], [], ()) := by
      unfold spec_GameNew
      simp only [spec_copy_eq s hp hs, spec_table_copy xs ok, Option.bind_some, List.nil_append]
      rw [if_pos (by simp only [room, List.length_nil]; omega)]
    have e2 : impl_GameNew s xs l = some (s, xs, l, [], [], [], ()) := by
      unfold impl_GameNew slices_Clone_int
      simp only [impl_copy_eq s hp hs, impl_table_copy xs ok, Option.bind_some, List.nil_append]
      rw [if_pos (by simp only [room, List.length_nil]; omega)]
      rfl
    have okg : okD T_Game (s, xs, l, [], [], [], ()) := ⟨⟨⟨hp, fun x _ => okFlat _ rfl x⟩, ⟨hs, fun x _ => okFlat _ rfl x⟩, okFlat _ rfl _⟩, ok, ⟨hll, fun x _ => okFlat _ rfl x⟩, ⟨by simp, fun x hx => by cases hx⟩, ⟨by simp, fun x hx => by cases hx⟩, ⟨by simp, fun x hx => by cases hx⟩, trivial⟩
    obtain ⟨n, g', hm, hn, hh⟩ := markGame_some _ okg
    obtain ⟨a2, q2, r2⟩ := laws_markEffectS_ok xs (1 + (13 : Nat) * (s.1.length : Int) + (3 : Nat) * (s.2.1.length : Int)) ok (by omega) (by omega)
    simp (disch := omega) only [laws_toState_eq s, laws_toEffectS_ok xs ok, laws_toIntS_eq l hll, e1, e2, laws_eqGame_ok _ _ okg, eqD_refl (t := T_Game) rfl, laws_eqState_eq s s, eqD_refl (t := T_State) rfl, laws_eqEffectS_ok xs xs ok, eqD_refl (t := .slice T_Effect) rfl, laws_eqIntS_eq l l hll, eqD_refl (t := .slice (.int .i64)) rfl, laws_markState_eq s 1, a2, laws_markIntS_eq l, Option.bind_some, dec_neg, hm, hh, bne_self_eq_false, Bool.not_true, cond_false, cond_true]
  · rw [if_neg gs]; rfl

end Go.Abs
