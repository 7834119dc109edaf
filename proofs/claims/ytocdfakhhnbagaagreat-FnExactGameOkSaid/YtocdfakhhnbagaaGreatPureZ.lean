import Derived.Test.YtocdfakhhnbagaaGreatGenZ
import Derived.Test.YtocdfakhhnbagaaGreatAbsDeep
set_option linter.unusedVariables false
set_option linter.unusedSimpArgs false
namespace Go.Abs
theorem laws_toPat_eq (a : T_Pat.D) : laws_toPat a = some a := by
  first | rfl | (unfold laws_toPat; simp only [laws_toPiece_eq, laws_toEvent_eq, Option.bind_some]; rfl)
theorem laws_eqPat_eq (a b : T_Pat.D) : laws_eqPat a b = some (eqD T_Pat a b) := by
  unfold laws_eqPat
  first | (simp only [bneIf]; rfl) | (simp only [laws_eqEvent_eq, laws_eqPiece_eq, Option.bind_some, bneIf, notIf]; rfl)
theorem laws_toGuard_eq (a : T_Guard.D) : laws_toGuard a = some a := by
  first | rfl | (unfold laws_toGuard; simp only [laws_toPiece_eq, laws_toEvent_eq, Option.bind_some]; rfl)
theorem laws_eqGuard_eq (a b : T_Guard.D) : laws_eqGuard a b = some (eqD T_Guard a b) := by
  unfold laws_eqGuard
  first | (simp only [bneIf]; rfl) | (simp only [laws_eqEvent_eq, laws_eqPiece_eq, Option.bind_some, bneIf, notIf]; rfl)

theorem laws_szEventS_eq (a : List T_Event.D) (l : Int) (h0 : 0 ≤ l) (h1 : l ≤ 1048576) (hn : a.length ≤ maxLen) : laws_szEventS a l = some (if (a.length : Int) ≤ l then l - a.length else -1) := by
  unfold laws_szEventS; exact sz_list h0 h1 (by simpa [maxLen] using hn)
theorem laws_toEvent_eq (a : T_Event.D) : laws_toEvent a = some a := by
  first | rfl | (unfold laws_toEvent; simp only [laws_toPiece_eq, laws_toEvent_eq, Option.bind_some]; rfl)
theorem laws_toEventS_eq (a : List T_Event.D) (h : a.length ≤ 1048576) : laws_toEventS a = some a := by
  unfold laws_toEventS
  rw [if_pos (by omega), if_pos (by simp only [room]; omega), Int.toNat_natCast, copy_loop a _ (body := laws_toEventS_l1 a) laws_toEvent (fun x _ => laws_toEvent_eq x) (by omega) (fun _ => rfl)]
  rfl
theorem laws_eqEvent_eq (a b : T_Event.D) : laws_eqEvent a b = some (eqD T_Event a b) := by
  unfold laws_eqEvent
  first | (simp only [bneIf]; rfl) | (simp only [laws_eqEvent_eq, laws_eqPiece_eq, Option.bind_some, bneIf, notIf]; rfl)
theorem laws_eqEventS_eq (a b : List T_Event.D) (h : a.length ≤ 1048576) : laws_eqEventS a b = some (eqD (.slice T_Event) a b) := by
  unfold laws_eqEventS
  exact eq_lists (t := T_Event) rfl a b (e := eqD T_Event) (fun _ _ => rfl) (by omega) (fun i => by unfold laws_eqEventS_l1; simp only [laws_eqEvent_eq, Option.bind_some])

theorem laws_szPieceS_eq (a : List T_Piece.D) (l : Int) (h0 : 0 ≤ l) (h1 : l ≤ 1048576) (hn : a.length ≤ maxLen) : laws_szPieceS a l = some (if (a.length : Int) ≤ l then l - a.length else -1) := by
  unfold laws_szPieceS; exact sz_list h0 h1 (by simpa [maxLen] using hn)
theorem laws_toPiece_eq (a : T_Piece.D) : laws_toPiece a = some a := by
  first | rfl | (unfold laws_toPiece; simp only [laws_toPiece_eq, laws_toEvent_eq, Option.bind_some]; rfl)
theorem laws_toPieceS_eq (a : List T_Piece.D) (h : a.length ≤ 1048576) : laws_toPieceS a = some a := by
  unfold laws_toPieceS
  rw [if_pos (by omega), if_pos (by simp only [room]; omega), Int.toNat_natCast, copy_loop a _ (body := laws_toPieceS_l1 a) laws_toPiece (fun x _ => laws_toPiece_eq x) (by omega) (fun _ => rfl)]
  rfl
theorem laws_eqPiece_eq (a b : T_Piece.D) : laws_eqPiece a b = some (eqD T_Piece a b) := by
  unfold laws_eqPiece
  first | (simp only [bneIf]; rfl) | (simp only [laws_eqEvent_eq, laws_eqPiece_eq, Option.bind_some, bneIf, notIf]; rfl)
theorem laws_eqPieceS_eq (a b : List T_Piece.D) (h : a.length ≤ 1048576) : laws_eqPieceS a b = some (eqD (.slice T_Piece) a b) := by
  unfold laws_eqPieceS
  exact eq_lists (t := T_Piece) rfl a b (e := eqD T_Piece) (fun _ _ => rfl) (by omega) (fun i => by unfold laws_eqPieceS_l1; simp only [laws_eqPiece_eq, Option.bind_some])

theorem laws_szSideS_eq (a : List T_Side.D) (l : Int) (h0 : 0 ≤ l) (h1 : l ≤ 1048576) (hn : a.length ≤ maxLen) : laws_szSideS a l = some (if (a.length : Int) ≤ l then l - a.length else -1) := by
  unfold laws_szSideS; exact sz_list h0 h1 (by simpa [maxLen] using hn)
theorem laws_toSide_eq (a : T_Side.D) : laws_toSide a = some a := by
  first | rfl | (unfold laws_toSide; simp only [laws_toPiece_eq, laws_toEvent_eq, Option.bind_some]; rfl)
theorem laws_toSideS_eq (a : List T_Side.D) (h : a.length ≤ 1048576) : laws_toSideS a = some a := by
  unfold laws_toSideS
  rw [if_pos (by omega), if_pos (by simp only [room]; omega), Int.toNat_natCast, copy_loop a _ (body := laws_toSideS_l1 a) laws_toSide (fun x _ => laws_toSide_eq x) (by omega) (fun _ => rfl)]
  rfl
theorem laws_eqSide_eq (a b : T_Side.D) : laws_eqSide a b = some (eqD T_Side a b) := by
  unfold laws_eqSide
  first | (simp only [bneIf]; rfl) | (simp only [laws_eqEvent_eq, laws_eqPiece_eq, Option.bind_some, bneIf, notIf]; rfl)
theorem laws_eqSideS_eq (a b : List T_Side.D) (h : a.length ≤ 1048576) : laws_eqSideS a b = some (eqD (.slice T_Side) a b) := by
  unfold laws_eqSideS
  exact eq_lists (t := T_Side) rfl a b (e := eqD T_Side) (fun _ _ => rfl) (by omega) (fun i => by unfold laws_eqSideS_l1; simp only [laws_eqSide_eq, Option.bind_some])

theorem laws_szTriggerS_eq (a : List T_Trigger.D) (l : Int) (h0 : 0 ≤ l) (h1 : l ≤ 1048576) (hn : a.length ≤ maxLen) : laws_szTriggerS a l = some (if (a.length : Int) ≤ l then l - a.length else -1) := by
  unfold laws_szTriggerS; exact sz_list h0 h1 (by simpa [maxLen] using hn)
theorem laws_toTrigger_eq (a : T_Trigger.D) : laws_toTrigger a = some a := by
  first | rfl | (unfold laws_toTrigger; simp only [laws_toPiece_eq, laws_toEvent_eq, Option.bind_some]; rfl)
theorem laws_toTriggerS_eq (a : List T_Trigger.D) (h : a.length ≤ 1048576) : laws_toTriggerS a = some a := by
  unfold laws_toTriggerS
  rw [if_pos (by omega), if_pos (by simp only [room]; omega), Int.toNat_natCast, copy_loop a _ (body := laws_toTriggerS_l1 a) laws_toTrigger (fun x _ => laws_toTrigger_eq x) (by omega) (fun _ => rfl)]
  rfl
theorem laws_eqTrigger_eq (a b : T_Trigger.D) : laws_eqTrigger a b = some (eqD T_Trigger a b) := by
  unfold laws_eqTrigger
  first | (simp only [bneIf]; rfl) | (simp only [laws_eqEvent_eq, laws_eqPiece_eq, Option.bind_some, bneIf, notIf]; rfl)
theorem laws_eqTriggerS_eq (a b : List T_Trigger.D) (h : a.length ≤ 1048576) : laws_eqTriggerS a b = some (eqD (.slice T_Trigger) a b) := by
  unfold laws_eqTriggerS
  exact eq_lists (t := T_Trigger) rfl a b (e := eqD T_Trigger) (fun _ _ => rfl) (by omega) (fun i => by unfold laws_eqTriggerS_l1; simp only [laws_eqTrigger_eq, Option.bind_some])

theorem laws_szNoteS_eq (a : List T_Note.D) (l : Int) (h0 : 0 ≤ l) (h1 : l ≤ 1048576) (hn : a.length ≤ maxLen) : laws_szNoteS a l = some (if (a.length : Int) ≤ l then l - a.length else -1) := by
  unfold laws_szNoteS; exact sz_list h0 h1 (by simpa [maxLen] using hn)
theorem laws_toNote_eq (a : T_Note.D) : laws_toNote a = some a := by
  first | rfl | (unfold laws_toNote; simp only [laws_toPiece_eq, laws_toEvent_eq, Option.bind_some]; rfl)
theorem laws_toNoteS_eq (a : List T_Note.D) (h : a.length ≤ 1048576) : laws_toNoteS a = some a := by
  unfold laws_toNoteS
  rw [if_pos (by omega), if_pos (by simp only [room]; omega), Int.toNat_natCast, copy_loop a _ (body := laws_toNoteS_l1 a) laws_toNote (fun x _ => laws_toNote_eq x) (by omega) (fun _ => rfl)]
  rfl
theorem laws_eqNote_eq (a b : T_Note.D) : laws_eqNote a b = some (eqD T_Note a b) := by
  unfold laws_eqNote
  first | (simp only [bneIf]; rfl) | (simp only [laws_eqEvent_eq, laws_eqPiece_eq, Option.bind_some, bneIf, notIf]; rfl)
theorem laws_eqNoteS_eq (a b : List T_Note.D) (h : a.length ≤ 1048576) : laws_eqNoteS a b = some (eqD (.slice T_Note) a b) := by
  unfold laws_eqNoteS
  exact eq_lists (t := T_Note) rfl a b (e := eqD T_Note) (fun _ _ => rfl) (by omega) (fun i => by unfold laws_eqNoteS_l1; simp only [laws_eqNote_eq, Option.bind_some])

theorem laws_toIntS_eq (a : List Int) (h : a.length ≤ 1048576) : laws_toIntS a = some a := by
  unfold laws_toIntS
  rw [if_pos (by omega), if_pos (by simp only [room]; omega), Int.toNat_natCast, copy_loop a _ (body := laws_toIntS_l1 a) some (fun x _ => rfl) (by omega) (fun _ => rfl)]
  rfl
theorem laws_eqIntS_eq (a b : List Int) (h : a.length ≤ 1048576) : laws_eqIntS a b = some (eqD (.slice (.int .i64)) a b) := by
  unfold laws_eqIntS
  exact eq_lists (t := .int .i64) rfl a b (e := fun (x y : Int) => x == y) (fun _ _ => rfl) (by omega) (fun i => rfl)

theorem laws_szState_eq (s : T_State.D) (l : Int) (h0 : 0 ≤ l) (h1 : l ≤ 1048576) (hp : s.1.length ≤ maxLen) (hs : s.2.1.length ≤ maxLen) : laws_szState s l = some (if (s.1.length : Int) + s.2.1.length ≤ l then l - s.1.length - s.2.1.length else -1) := by
  unfold laws_szState
  rw [laws_szPieceS_eq _ _ h0 h1 hp, Option.bind_some]
  by_cases g1 : (s.1.length : Int) ≤ l
  · rw [if_pos g1]
    have n1 : ¬ (l - (s.1.length : Int) < 0) := by omega
    simp only [n1, decide_false, cond_false]
    rw [laws_szSideS_eq _ _ (by omega) (by omega) hs, Option.bind_some]
    by_cases g2 : (s.2.1.length : Int) ≤ l - s.1.length
    · have n2 : ¬ (l - (s.1.length : Int) - s.2.1.length < 0) := by omega
      rw [if_pos g2, if_pos (by omega)]
      simp only [n2, decide_false, cond_false]
    · rw [if_neg g2, if_neg (by omega)]; rfl
  · rw [if_neg g1, if_neg (by omega)]; rfl
theorem laws_toState_eq (s : T_State.D) (hp : s.1.length ≤ 1048576) (hs : s.2.1.length ≤ 1048576) : laws_toState s = some s := by
  unfold laws_toState
  simp only [laws_toPieceS_eq _ hp, laws_toSideS_eq _ hs, Option.bind_some]
theorem laws_eqState_eq (a b : T_State.D) (hp : a.1.length ≤ 1048576) (hs : a.2.1.length ≤ 1048576) : laws_eqState a b = some (eqD T_State a b) := by
  unfold laws_eqState
  simp only [laws_eqPieceS_eq _ _ hp, laws_eqSideS_eq _ _ hs, Option.bind_some, bneIf, notIf]
  rfl
theorem laws_szEventS_ok (a : List T_Event.D) (l : Int) (h0 : 0 ≤ l) (h1 : l ≤ 1048576) (w : (Ty.slice T_Event).wf a) : SzR (laws_szEventS a l) l (okD (.slice T_Event) a) :=
  sz_flat (t := T_Event) rfl (laws_szEventS_eq a l h0 h1 w.1) h1
theorem laws_szPieceS_ok (a : List T_Piece.D) (l : Int) (h0 : 0 ≤ l) (h1 : l ≤ 1048576) (w : (Ty.slice T_Piece).wf a) : SzR (laws_szPieceS a l) l (okD (.slice T_Piece) a) :=
  sz_flat (t := T_Piece) rfl (laws_szPieceS_eq a l h0 h1 w.1) h1
theorem laws_szSideS_ok (a : List T_Side.D) (l : Int) (h0 : 0 ≤ l) (h1 : l ≤ 1048576) (w : (Ty.slice T_Side).wf a) : SzR (laws_szSideS a l) l (okD (.slice T_Side) a) :=
  sz_flat (t := T_Side) rfl (laws_szSideS_eq a l h0 h1 w.1) h1
theorem laws_szTriggerS_ok (a : List T_Trigger.D) (l : Int) (h0 : 0 ≤ l) (h1 : l ≤ 1048576) (w : (Ty.slice T_Trigger).wf a) : SzR (laws_szTriggerS a l) l (okD (.slice T_Trigger) a) :=
  sz_flat (t := T_Trigger) rfl (laws_szTriggerS_eq a l h0 h1 w.1) h1
theorem laws_szNoteS_ok (a : List T_Note.D) (l : Int) (h0 : 0 ≤ l) (h1 : l ≤ 1048576) (w : (Ty.slice T_Note).wf a) : SzR (laws_szNoteS a l) l (okD (.slice T_Note) a) :=
  sz_flat (t := T_Note) rfl (laws_szNoteS_eq a l h0 h1 w.1) h1

theorem laws_szIntS_eq (a : List Int) (l : Int) (h0 : 0 ≤ l) (h1 : l ≤ 1048576) (hn : a.length ≤ maxLen) : laws_szIntS a l = some (if (a.length : Int) ≤ l then l - a.length else -1) := by
  unfold laws_szIntS; exact sz_list h0 h1 (by simpa [maxLen] using hn)
theorem laws_szIntS_ok (a : List Int) (l : Int) (h0 : 0 ≤ l) (h1 : l ≤ 1048576) (w : (Ty.slice (.int .i64)).wf a) : SzR (laws_szIntS a l) l (okD (.slice (.int .i64)) a) :=
  sz_flat (t := (.int .i64)) rfl (laws_szIntS_eq a l h0 h1 w.1) h1

theorem laws_szState_ok (a : T_State.D) (l : Int) (h0 : 0 ≤ l) (h1 : l ≤ 1048576) (w : T_State.wf a) : SzR (laws_szState a l) l (okD T_State a) := by
  unfold laws_szState
  exact SzR.imp (SzR.bind (laws_szPieceS_ok a.1 l h0 h1 w.1) fun m1 k1 j1 => SzR.bind (laws_szSideS_ok a.2.1 m1 k1 (by omega) w.2.1) fun m2 k2 j2 => SzR.done k2) (fun h => ⟨h.1, h.2.1, trivial, trivial, trivial⟩)

theorem laws_szAct_ok (a : T_Act.D) (l : Int) (h0 : 0 ≤ l) (h1 : l ≤ 1048576) (w : T_Act.wf a) : SzR (laws_szAct a l) l (okD T_Act a) := by
  unfold laws_szAct
  exact SzR.imp (SzR.bind (laws_szEventS_ok a.2.2.2.2.2.2.1 l h0 h1 w.2.2.2.2.2.2.1) fun m1 k1 j1 => SzR.done k1) (fun h => ⟨trivial, trivial, trivial, trivial, trivial, trivial, h.1, trivial⟩)
theorem laws_toAct_ok (a : T_Act.D) (h : okD T_Act a) : laws_toAct a = some a := by
  unfold laws_toAct
  simp only [laws_toEventS_eq a.2.2.2.2.2.2.1 h.2.2.2.2.2.2.1.1, Option.bind_some]
theorem laws_eqAct_ok (a b : T_Act.D) (h : okD T_Act a) : laws_eqAct a b = some (eqD T_Act a b) := by
  unfold laws_eqAct
  simp only [laws_eqEventS_eq a.2.2.2.2.2.2.1 b.2.2.2.2.2.2.1 h.2.2.2.2.2.2.1.1, Option.bind_some, bneIf, notIf]
  rfl

theorem laws_szEffect_ok (a : T_Effect.D) (l : Int) (h0 : 0 ≤ l) (h1 : l ≤ 1048576) (w : T_Effect.wf a) : SzR (laws_szEffect a l) l (okD T_Effect a) := by
  unfold laws_szEffect
  exact SzR.imp (SzR.bind (laws_szAct_ok a.2.2.2.2.2.2.1 l h0 h1 w.2.2.2.2.2.2.1) fun m1 k1 j1 => SzR.done k1) (fun h => ⟨trivial, trivial, trivial, trivial, okFlat T_Pat rfl _, okFlat T_Guard rfl _, h.1, trivial, trivial, trivial⟩)
theorem laws_toEffect_ok (a : T_Effect.D) (h : okD T_Effect a) : laws_toEffect a = some a := by
  unfold laws_toEffect
  simp only [laws_toPat_eq, laws_toGuard_eq, laws_toAct_ok a.2.2.2.2.2.2.1 h.2.2.2.2.2.2.1, Option.bind_some]
theorem laws_eqEffect_ok (a b : T_Effect.D) (h : okD T_Effect a) : laws_eqEffect a b = some (eqD T_Effect a b) := by
  unfold laws_eqEffect
  simp only [laws_eqPat_eq, laws_eqGuard_eq, laws_eqAct_ok a.2.2.2.2.2.2.1 b.2.2.2.2.2.2.1 h.2.2.2.2.2.2.1, Option.bind_some, bneIf, notIf]
  rfl
theorem laws_szEffectS_ok (a : List T_Effect.D) (l : Int) (h0 : 0 ≤ l) (h1 : l ≤ 1048576) (w : (Ty.slice T_Effect).wf a) : SzR (laws_szEffectS a l) l (okD (.slice T_Effect) a) := by
  unfold laws_szEffectS
  exact sz_loop (t := T_Effect) a laws_szEffect (body := laws_szEffectS_l1 a) w.1 (fun x hx l h0 h1 => laws_szEffect_ok x l h0 h1 (w.2 x hx)) (fun _ => rfl) h0 h1
theorem laws_toEffectS_ok (a : List T_Effect.D) (h : okD (.slice T_Effect) a) : laws_toEffectS a = some a := by
  have hl : a.length ≤ 1048576 := h.1
  unfold laws_toEffectS
  rw [if_pos (by omega), if_pos (by simp only [room]; omega), Int.toNat_natCast, copy_loop a _ (body := laws_toEffectS_l1 a) laws_toEffect (fun x hx => laws_toEffect_ok x (h.2 x hx)) (by omega) (fun _ => rfl)]
  rfl
theorem laws_eqEffectS_ok (a b : List T_Effect.D) (h : okD (.slice T_Effect) a) : laws_eqEffectS a b = some (eqD (.slice T_Effect) a b) := by
  have hl : a.length ≤ 1048576 := h.1
  unfold laws_eqEffectS
  exact eq_lists2 (t := T_Effect) rfl a b (e := laws_eqEffect) (fun x hx y => laws_eqEffect_ok x y (h.2 x hx)) (by omega) (fun _ => rfl)

theorem laws_szTurn_ok (a : T_Turn.D) (l : Int) (h0 : 0 ≤ l) (h1 : l ≤ 1048576) (w : T_Turn.wf a) : SzR (laws_szTurn a l) l (okD T_Turn a) := by
  unfold laws_szTurn
  exact SzR.imp (SzR.bind (laws_szEventS_ok a.2.2.2.2.2.1 l h0 h1 w.2.2.2.2.2.1) fun m1 k1 j1 => SzR.done k1) (fun h => ⟨trivial, trivial, trivial, trivial, okFlat T_Event rfl _, h.1, trivial, trivial, trivial⟩)
theorem laws_toTurn_ok (a : T_Turn.D) (h : okD T_Turn a) : laws_toTurn a = some a := by
  unfold laws_toTurn
  simp only [laws_toEvent_eq, laws_toEventS_eq a.2.2.2.2.2.1 h.2.2.2.2.2.1.1, Option.bind_some]
theorem laws_eqTurn_ok (a b : T_Turn.D) (h : okD T_Turn a) : laws_eqTurn a b = some (eqD T_Turn a b) := by
  unfold laws_eqTurn
  simp only [laws_eqEvent_eq, laws_eqEventS_eq a.2.2.2.2.2.1 b.2.2.2.2.2.1 h.2.2.2.2.2.1.1, Option.bind_some, bneIf, notIf]
  rfl
theorem laws_szTurnS_ok (a : List T_Turn.D) (l : Int) (h0 : 0 ≤ l) (h1 : l ≤ 1048576) (w : (Ty.slice T_Turn).wf a) : SzR (laws_szTurnS a l) l (okD (.slice T_Turn) a) := by
  unfold laws_szTurnS
  exact sz_loop (t := T_Turn) a laws_szTurn (body := laws_szTurnS_l1 a) w.1 (fun x hx l h0 h1 => laws_szTurn_ok x l h0 h1 (w.2 x hx)) (fun _ => rfl) h0 h1
theorem laws_toTurnS_ok (a : List T_Turn.D) (h : okD (.slice T_Turn) a) : laws_toTurnS a = some a := by
  have hl : a.length ≤ 1048576 := h.1
  unfold laws_toTurnS
  rw [if_pos (by omega), if_pos (by simp only [room]; omega), Int.toNat_natCast, copy_loop a _ (body := laws_toTurnS_l1 a) laws_toTurn (fun x hx => laws_toTurn_ok x (h.2 x hx)) (by omega) (fun _ => rfl)]
  rfl
theorem laws_eqTurnS_ok (a b : List T_Turn.D) (h : okD (.slice T_Turn) a) : laws_eqTurnS a b = some (eqD (.slice T_Turn) a b) := by
  have hl : a.length ≤ 1048576 := h.1
  unfold laws_eqTurnS
  exact eq_lists2 (t := T_Turn) rfl a b (e := laws_eqTurn) (fun x hx y => laws_eqTurn_ok x y (h.2 x hx)) (by omega) (fun _ => rfl)

theorem laws_szGame_ok (a : T_Game.D) (l : Int) (h0 : 0 ≤ l) (h1 : l ≤ 1048576) (w : T_Game.wf a) : SzR (laws_szGame a l) l (okD T_Game a) := by
  unfold laws_szGame
  exact SzR.imp (SzR.bind (laws_szState_ok a.1 l h0 h1 w.1) fun m1 k1 j1 => SzR.bind (laws_szEffectS_ok a.2.1 m1 k1 (by omega) w.2.1) fun m2 k2 j2 => SzR.bind (laws_szIntS_ok a.2.2.1 m2 k2 (by omega) w.2.2.1) fun m3 k3 j3 => SzR.bind (laws_szTriggerS_ok a.2.2.2.1 m3 k3 (by omega) w.2.2.2.1) fun m4 k4 j4 => SzR.bind (laws_szNoteS_ok a.2.2.2.2.1 m4 k4 (by omega) w.2.2.2.2.1) fun m5 k5 j5 => SzR.bind (laws_szTurnS_ok a.2.2.2.2.2.1 m5 k5 (by omega) w.2.2.2.2.2.1) fun m6 k6 j6 => SzR.done k6) (fun h => ⟨h.1, h.2.1, h.2.2.1, h.2.2.2.1, h.2.2.2.2.1, h.2.2.2.2.2.1, trivial⟩)
theorem laws_toGame_ok (a : T_Game.D) (h : okD T_Game a) : laws_toGame a = some a := by
  unfold laws_toGame
  simp only [laws_toState_eq a.1 h.1.1.1 h.1.2.1.1, laws_toEffectS_ok a.2.1 h.2.1, laws_toIntS_eq a.2.2.1 h.2.2.1.1, laws_toTriggerS_eq a.2.2.2.1 h.2.2.2.1.1, laws_toNoteS_eq a.2.2.2.2.1 h.2.2.2.2.1.1, laws_toTurnS_ok a.2.2.2.2.2.1 h.2.2.2.2.2.1, Option.bind_some]
theorem laws_eqGame_ok (a b : T_Game.D) (h : okD T_Game a) : laws_eqGame a b = some (eqD T_Game a b) := by
  unfold laws_eqGame
  simp only [laws_eqState_eq a.1 b.1 h.1.1.1 h.1.2.1.1, laws_eqEffectS_ok a.2.1 b.2.1 h.2.1, laws_eqIntS_eq a.2.2.1 b.2.2.1 h.2.2.1.1, laws_eqTriggerS_eq a.2.2.2.1 b.2.2.2.1 h.2.2.2.1.1, laws_eqNoteS_eq a.2.2.2.2.1 b.2.2.2.2.1 h.2.2.2.2.1.1, laws_eqTurnS_ok a.2.2.2.2.2.1 b.2.2.2.2.2.1 h.2.2.2.2.2.1, Option.bind_some, bneIf, notIf]
  rfl


/-! ### Numbers -/
theorem l1In_eq (a b c : Int) : spec_l1In a b c = some (decide (b ≤ a) && decide (a ≤ c)) := by
  unfold spec_l1In
  have : decide (a ≥ b) = decide (b ≤ a) := rfl
  simp only [this]
  cases decide (b ≤ a) <;> rfl
theorem from_eq (a b c : Int) : impl_from a b c = some (decide (b ≤ a) && decide (a ≤ c)) := by
  unfold impl_from
  have : decide (a ≥ b) = decide (b ≤ a) := rfl
  simp only [this]
  cases decide (b ≤ a) <;> rfl
def boundV (n : Int) : Int := if n > 2147483647 then 2147483647 else if n < -2147483647 then -2147483647 else n
theorem impl_Bound_eq (n : Int) : impl_Bound n = some (boundV n) := by
  unfold impl_Bound boundV
  congr 1
  split <;> split <;> (try split) <;> (try split) <;> omega
def plusV (a b : Int) : Int := boundV (IntKind.wrap .i64 (boundV a + boundV b))
def lessV (a b : Int) : Int := boundV (IntKind.wrap .i64 (boundV a - boundV b))
theorem some_ite {c : Prop} [Decidable c] (a b : Bool) : (if c then some a else some b) = some (if c then a else b) := by split <;> rfl

/-! ### Pieces and states that are right -/
def pieceOkB (p : T_Piece.D) : Bool :=
  decide (1 ≤ p.1) && decide (p.1 ≤ 99) && decide (0 ≤ p.2.1) && decide (p.2.1 ≤ 2) && decide (0 ≤ p.2.2.1) && decide (p.2.2.1 ≤ 2) && decide (1 ≤ p.2.2.2.1) && decide (p.2.2.2.1 ≤ 4) && decide (0 ≤ p.2.2.2.2.1) && decide (p.2.2.2.2.1 ≤ 9999) &&
  decide (0 ≤ p.2.2.2.2.2.1) && decide (p.2.2.2.2.2.1 ≤ 999) && decide (0 ≤ p.2.2.2.2.2.2.1) && decide (p.2.2.2.2.2.2.1 ≤ 999) && decide (0 ≤ p.2.2.2.2.2.2.2.1) && decide (p.2.2.2.2.2.2.2.1 ≤ 63) && (
    if p.2.2.2.1 = 2 then decide (0 ≤ p.2.2.2.2.2.2.2.2.1) && decide (p.2.2.2.2.2.2.2.2.1 ≤ 2147483647) && decide (0 ≤ p.2.2.2.2.2.2.2.2.2.1) && decide (p.2.2.2.2.2.2.2.2.2.1 ≤ 2147483647) && decide (0 ≤ p.2.2.2.2.2.2.2.2.2.2.1) && decide (p.2.2.2.2.2.2.2.2.2.2.1 ≤ 2147483647)
    else (p.2.2.1 == p.2.1) && (p.2.2.2.2.2.2.2.2.1 == 0) && (p.2.2.2.2.2.2.2.2.2.1 == 0) && (p.2.2.2.2.2.2.2.2.2.2.1 == 0) && !p.2.2.2.2.2.2.2.2.2.2.2.1 && !p.2.2.2.2.2.2.2.2.2.2.2.2.1)
theorem spec_PieceOk_eq (p : T_Piece.D) : spec_PieceOk p = some (pieceOkB p) := by
  obtain ⟨i, o, sd, z, t, pw, tg, tr, pl, mi, mk, dl, bt, u⟩ := p
  unfold spec_PieceOk pieceOkB
  simp only [l1In_eq, Option.bind_some, cond_eq_ite, some_ite]
  congr 1
  rw [Bool.eq_iff_iff]
  by_cases h1 : z = 2
  · subst h1; simp; grind
  · simp [h1]; grind
theorem impl_PieceOk_eq (p : T_Piece.D) : impl_PieceOk p = some (pieceOkB p) := by
  obtain ⟨i, o, sd, z, t, pw, tg, tr, pl, mi, mk, dl, bt, u⟩ := p
  unfold impl_PieceOk pieceOkB impl_isId impl_isPlayer impl_isZone impl_isTime impl_isTraits impl_isAmount
  simp only [from_eq, Option.bind_some, cond_eq_ite, some_ite, bne]
  congr 1
  rw [Bool.eq_iff_iff]
  by_cases h1 : z = 2
  · subst h1; simp; grind
  · simp [h1]; grind
def sideOkB (x : T_Side.D) : Bool := decide (-2147483647 ≤ x.1) && decide (x.1 ≤ 2147483647) && (decide (0 ≤ x.2.1) && decide (x.2.1 ≤ 2147483647))
theorem spec_l5Side_eq (x : T_Side.D) : spec_l5Side x = some (sideOkB x) := by
  unfold spec_l5Side sideOkB
  simp only [l1In_eq, Option.bind_some]
  cases (decide (-2147483647 ≤ x.1) && decide (x.1 ≤ 2147483647)) <;> rfl
theorem impl_StateOk_1_eq (x : T_Side.D) : impl_StateOk_1 x = some (!sideOkB x) := by
  unfold impl_StateOk_1 sideOkB impl_isAmount
  simp only [impl_Bound_eq, from_eq, Option.bind_some]
  have : (boundV x.1 != x.1) = !(decide (-2147483647 ≤ x.1) && decide (x.1 ≤ 2147483647)) := by
    rw [Bool.eq_iff_iff]; unfold boundV; simp; grind
  rw [this]
  cases (decide (-2147483647 ≤ x.1) && decide (x.1 ≤ 2147483647)) <;> rfl

def anyI {α : Type} (p : Nat → α → Bool) : Nat → List α → Bool
  | _, [] => false
  | i, x :: r => p i x || anyI p (i + 1) r
theorem anyI_false {α : Type} (p : Nat → α → Bool) : ∀ (xs : List α) (k : Nat), anyI p k xs = false → ∀ (i : Nat) x, xs[i]? = some x → p (k + i) x = false
  | [], _, _, i, x, hx => by simp at hx
  | y :: xs, k, h, 0, x, hx => by
    simp only [anyI, Bool.or_eq_false_iff] at h
    simp at hx
    subst hx
    exact h.1
  | y :: xs, k, h, i + 1, x, hx => by
    simp only [anyI, Bool.or_eq_false_iff] at h
    have := anyI_false p xs (k + 1) h.2 i x (by simpa using hx)
    rwa [show k + (i + 1) = k + 1 + i by omega]
theorem any_loop {α β : Type} (xs : List α) {body : Int → Option (Int ⊕ (Int ⊕ β))} (p : Nat → α → Bool) (v : β) (hlen : xs.length ≤ 9223372036854775806)
    (hb : ∀ (i : Nat) x, xs[i]? = some x → body i = bif p i x then some (.inr (.inr v)) else some (.inl (IntKind.wrap .i64 ((i : Int) + 1))))
    (he : body xs.length = some (.inr (.inl xs.length))) :
    while_ body 0 = some (bif anyI p 0 xs then .inr v else .inl xs.length) := by
  have main : ∀ (r : List α) (k : Nat), xs.drop k = r → k ≤ xs.length → while_ body k = some (bif anyI p k r then .inr v else .inl xs.length) := by
    intro r
    induction r with
    | nil =>
      intro k h hk
      have : k = xs.length := by
        have := congrArg List.length h
        simp at this
        omega
      subst this
      exact while_done he
    | cons x r ih =>
      intro k h hk
      have hlt : k < xs.length := by
        have := congrArg List.length h
        simp at this
        omega
      have hx : xs[k]? = some x := by
        have := congrArg (fun l => l[0]?) h
        simpa using this
      have hr : xs.drop (k + 1) = r := by
        have := congrArg List.tail h
        simpa using this
      unfold anyI
      cases hp : p k x with
      | true =>
        refine while_done ?_
        rw [hb k x hx, hp]
        rfl
      | false =>
        refine while_step (s' := ((k + 1 : Nat) : Int)) ?_ (ih (k + 1) hr hlt)
        rw [hb k x hx, hp]
        simp only [cond_false]
        rw [wrap_id (by omega) (by omega)]
        rfl
  have := main xs 0 rfl (by omega)
  simpa using this

def badPiece (s : T_State.D) (i : Nat) (x : T_Piece.D) : Bool :=
  !pieceOkB x || decide (x.2.1 ≥ (s.2.1.length : Int)) || decide (x.2.2.1 ≥ (s.2.1.length : Int)) || decide (x.2.2.2.2.1 > s.2.2.2.1) || (decide (0 < i) && (s.1[i - 1]?).any (fun y => decide (y.1 ≥ x.1)))
def stateOkB (s : T_State.D) : Bool :=
  decide ((s.1.length : Int) ≤ 8) && (decide (2 ≤ (s.2.1.length : Int)) && decide ((s.2.1.length : Int) ≤ 3)) && (decide (0 ≤ s.2.2.1) && decide (s.2.2.1 ≤ (s.2.1.length : Int) - 1)) && (decide (0 ≤ s.2.2.2.1) && decide (s.2.2.2.1 ≤ 9999)) && !anyI (badPiece s) 0 s.1 && !s.2.1.any (fun x => !sideOkB x)
theorem prev_piece {s : T_State.D} {i : Nat} {x : T_Piece.D} (hx : s.1[i]? = some x) (hl : s.1.length ≤ 1048576) {R : Type} (κ : T_Piece.D → Option R) (h : 0 < i) : ∃ y, s.1[i - 1]? = some y ∧ idx s.1 (IntKind.wrap .i64 ((i : Int) - 1)) κ = κ y := by
  have hlt := (List.getElem?_eq_some_iff.1 hx).1
  have hy : s.1[i - 1]? = some (s.1[i - 1]'(by omega)) := List.getElem?_eq_getElem (by omega)
  refine ⟨_, hy, ?_⟩
  rw [wrap_id (by omega) (by omega), show ((i : Int) - 1) = ((i - 1 : Nat) : Int) by omega]
  exact idx_at hy
theorem any_any {α : Type} (p : α → Bool) : ∀ (xs : List α) (k : Nat), anyI (fun _ x => p x) k xs = xs.any p
  | [], _ => rfl
  | x :: xs, k => by simp [anyI, any_any p xs]
theorem pieceOk_sides {x : T_Piece.D} (h : pieceOkB x = true) : 0 ≤ x.2.1 ∧ 0 ≤ x.2.2.1 := by
  unfold pieceOkB at h
  simp only [Bool.and_eq_true, decide_eq_true_eq] at h
  exact ⟨h.1.1.1.1.1.1.1.1.1.1.1.1.1.1.2, h.1.1.1.1.1.1.1.1.1.1.1.1.2⟩
theorem in_side {a n : Int} (h : 0 ≤ a) : (decide (0 ≤ a) && decide (a ≤ n - 1)) = !decide (a ≥ n) := by
  by_cases hh : a ≥ n
  · rw [decide_eq_true hh, decide_eq_false (p := a ≤ n - 1) (by omega), Bool.and_false]; rfl
  · rw [decide_eq_false hh, decide_eq_true (p := a ≤ n - 1) (by omega), decide_eq_true h]; rfl
theorem index_side (xs : List T_Side.D) (hl : xs.length ≤ 1048576) (p : T_Side.D → Bool) (q : (T_Side.D × Unit) → Option Bool) (hq : ∀ x, q (x, ()) = some (p x)) :
    slices_IndexFunc_impl_Side xs q = some (match findL p xs with | some k => (k : Int) | none => -1) := by
  unfold slices_IndexFunc_impl_Side
  rw [index_loop xs (body := slices_IndexFunc_impl_Side_l1 xs q) p (fun i => i) (by omega) (fun i x hx => ?_) ?_]
  · cases findL p xs <;> rfl
  · unfold slices_IndexFunc_impl_Side_l1
    simp
  · unfold slices_IndexFunc_impl_Side_l1
    have hlt := (List.getElem?_eq_some_iff.1 hx).1
    have : ((i : Int) < (xs.length : Int)) := by omega
    simp only [this, decide_true, cond_true, idx_at hx, hq, Option.bind_some]
theorem findL_any {α : Type} (p : α → Bool) (xs : List α) : decide ((match findL p xs with | some k => (k : Int) | none => -1) ≥ 0) = xs.any p := by
  obtain ⟨h1, h2⟩ := findL_spec p xs
  cases hf : findL p xs with
  | none =>
    have : xs.any p = false := by rw [List.any_eq_false]; exact fun x hx => by simp [h1 hf x hx]
    rw [this]; rfl
  | some k =>
    obtain ⟨x, g1, g2, _⟩ := h2 k hf
    have : xs.any p = true := by rw [List.any_eq_true]; exact ⟨x, List.mem_of_getElem? g1, g2⟩
    rw [this]
    simp
theorem spec_StateOk_eq (s : T_State.D) (hp : s.1.length ≤ 1048576) (hs : s.2.1.length ≤ 1048576) : spec_StateOk s = some (stateOkB s) := by
  unfold spec_StateOk stateOkB
  simp only [l1In_eq, Option.bind_some]
  rw [wrap_id (by omega) (by omega)]
  have hd : decide ((s.1.length : Int) > 8) = !decide ((s.1.length : Int) ≤ 8) := by rw [Bool.eq_iff_iff]; simp
  rw [hd]
  cases decide ((s.1.length : Int) ≤ 8)
  · rfl
  cases (decide (2 ≤ (s.2.1.length : Int)) && decide ((s.2.1.length : Int) ≤ 3))
  · rfl
  cases (decide (0 ≤ s.2.2.1) && decide (s.2.2.1 ≤ (s.2.1.length : Int) - 1))
  · rfl
  cases (decide (0 ≤ s.2.2.2.1) && decide (s.2.2.2.1 ≤ 9999))
  · rfl
  simp only [Bool.not_true, cond_false, Option.bind_some, Bool.true_and]
  rw [any_loop s.1 (body := spec_StateOk_l1 s) (badPiece s) false (by omega) (fun i x hx => ?_) (by unfold spec_StateOk_l1; simp)]
  · rw [any_loop s.2.1 (body := spec_StateOk_l2 s) (fun _ x => !sideOkB x) false (by omega) (fun i x hx => ?_) (by unfold spec_StateOk_l2; simp), any_any]
    · cases anyI (badPiece s) 0 s.1 <;> cases s.2.1.any (fun x => !sideOkB x) <;> rfl
    · have hlt := (List.getElem?_eq_some_iff.1 hx).1
      have hil : ((i : Int) < (s.2.1.length : Int)) := by omega
      unfold spec_StateOk_l2
      simp only [hil, decide_true, cond_true, idx_at hx, spec_l5Side_eq, Option.bind_some]
  · have hlt := (List.getElem?_eq_some_iff.1 hx).1
    have hil : ((i : Int) < (s.1.length : Int)) := by omega
    unfold spec_StateOk_l1 badPiece
    simp only [hil, decide_true, cond_true, idx_at hx, spec_PieceOk_eq, Option.bind_some]
    by_cases hi : 0 < i
    · obtain ⟨y, hy, hk⟩ := prev_piece hx hp (fun x8 => bif decide (x8.1 ≥ x.1) then some true else bif decide (x.2.1 ≥ (s.2.1.length : Int)) then some true else bif decide (x.2.2.1 ≥ (s.2.1.length : Int)) then some true else some (decide (x.2.2.2.2.1 > s.2.2.2.1))) hi
      have h1 : decide ((i : Int) > 0) = true := by simp; omega
      have h2 : decide (0 < i) = true := by simpa using hi
      rw [h1, h2, hy]
      simp only [cond_true, hk, Option.any_some]
      cases pieceOkB x <;> cases decide (y.1 ≥ x.1) <;> cases decide (x.2.1 ≥ (s.2.1.length : Int)) <;> cases decide (x.2.2.1 ≥ (s.2.1.length : Int)) <;> cases decide (x.2.2.2.2.1 > s.2.2.2.1) <;> rfl
    · have h1 : decide ((i : Int) > 0) = false := by simp; omega
      have h2 : decide (0 < i) = false := by simpa using hi
      rw [h1, h2]
      simp only [cond_false]
      cases pieceOkB x <;> cases decide (x.2.1 ≥ (s.2.1.length : Int)) <;> cases decide (x.2.2.1 ≥ (s.2.1.length : Int)) <;> cases decide (x.2.2.2.2.1 > s.2.2.2.1) <;> rfl
theorem impl_StateOk_eq (s : T_State.D) (hp : s.1.length ≤ 1048576) (hs : s.2.1.length ≤ 1048576) : impl_StateOk s = some (stateOkB s) := by
  unfold impl_StateOk stateOkB impl_isSide impl_isTime
  simp only [from_eq, Option.bind_some]
  rw [wrap_id (by omega) (by omega)]
  have hd : decide ((s.1.length : Int) > 8) = !decide ((s.1.length : Int) ≤ 8) := by rw [Bool.eq_iff_iff]; simp
  rw [hd]
  cases decide ((s.1.length : Int) ≤ 8)
  · rfl
  cases (decide (2 ≤ (s.2.1.length : Int)) && decide ((s.2.1.length : Int) ≤ 3))
  · rfl
  cases (decide (0 ≤ s.2.2.1) && decide (s.2.2.1 ≤ (s.2.1.length : Int) - 1))
  · rfl
  cases (decide (0 ≤ s.2.2.2.1) && decide (s.2.2.2.1 ≤ 9999))
  · rfl
  simp only [Bool.not_true, cond_false, Option.bind_some, Bool.true_and]
  have hc : slices_ContainsFunc_impl_Side s.2.1 (fun q => impl_StateOk_1 q.1) = some (s.2.1.any (fun x => !sideOkB x)) := by
    unfold slices_ContainsFunc_impl_Side
    rw [index_side s.2.1 hs (fun x => !sideOkB x) _ (fun x => impl_StateOk_1_eq x), Option.bind_some, findL_any]
  rw [any_loop s.1 (body := impl_StateOk_l1 s) (badPiece s) false (by omega) (fun i x hx => ?_) (by unfold impl_StateOk_l1; simp)]
  · rw [hc]
    cases anyI (badPiece s) 0 s.1 <;> cases s.2.1.any (fun x => !sideOkB x) <;> rfl
  · have hlt := (List.getElem?_eq_some_iff.1 hx).1
    have hil : ((i : Int) < (s.1.length : Int)) := by omega
    unfold impl_StateOk_l1 badPiece impl_isSide
    simp only [hil, decide_true, cond_true, idx_at hx, impl_PieceOk_eq, from_eq, Option.bind_some]
    rw [wrap_id (n := (s.2.1.length : Int) - 1) (by omega) (by omega)]
    cases hok : pieceOkB x
    · rfl
    obtain ⟨g1, g2⟩ := pieceOk_sides hok
    have e1 : (decide (0 ≤ x.2.1) && decide (x.2.1 ≤ (s.2.1.length : Int) - 1)) = !decide (x.2.1 ≥ (s.2.1.length : Int)) := in_side g1
    have e2 : (decide (0 ≤ x.2.2.1) && decide (x.2.2.1 ≤ (s.2.1.length : Int) - 1)) = !decide (x.2.2.1 ≥ (s.2.1.length : Int)) := in_side g2
    rw [e1, e2]
    by_cases hi : 0 < i
    · obtain ⟨y, hy, hk⟩ := prev_piece hx hp (fun x10 => some (decide (x10.1 ≥ x.1))) hi
      have h1 : decide ((i : Int) > 0) = true := by simp; omega
      have h2 : decide (0 < i) = true := by simpa using hi
      rw [h1, h2, hy]
      simp only [cond_true, hk, Option.any_some]
      cases decide (y.1 ≥ x.1) <;> cases decide (x.2.1 ≥ (s.2.1.length : Int)) <;> cases decide (x.2.2.1 ≥ (s.2.1.length : Int)) <;> cases decide (x.2.2.2.2.1 > s.2.2.2.1) <;> rfl
    · have h1 : decide ((i : Int) > 0) = false := by simp; omega
      have h2 : decide (0 < i) = false := by simpa using hi
      rw [h1, h2]
      simp only [cond_false]
      cases decide (x.2.1 ≥ (s.2.1.length : Int)) <;> cases decide (x.2.2.1 ≥ (s.2.1.length : Int)) <;> cases decide (x.2.2.2.2.1 > s.2.2.2.1) <;> rfl

/-! ### Events that are right -/
def eventOkB (e : T_Event.D) : Bool :=
  let piece := decide (1 ≤ e.2.2.1) && decide (e.2.2.1 ≤ 99) && (e.2.2.2.1 == -1)
  let side := (e.2.2.1 == 0) && decide (0 ≤ e.2.2.2.1) && decide (e.2.2.2.1 ≤ 2)
  decide (0 ≤ e.2.2.2.2.1) && decide (e.2.2.2.2.1 ≤ 2147483647) && (
    if e.1 = 1 then decide (1 ≤ e.2.1) && decide (e.2.1 ≤ 99) && (piece || side) && (e.2.2.2.2.2.1 == 0) && !e.2.2.2.2.2.2.1
    else if e.1 = 2 then (e.2.1 == 0) && piece && decide (1 ≤ e.2.2.2.2.2.1) && decide (e.2.2.2.2.2.1 ≤ 4) && decide (e.2.2.2.2.1 ≤ 99) && ((e.2.2.2.2.2.1 == 2) || (e.2.2.2.2.1 == 0) && !e.2.2.2.2.2.2.1)
    else if e.1 = 3 ∨ e.1 = 4 then (e.2.1 == 0) && side && (e.2.2.2.2.2.1 == 0) && !e.2.2.2.2.2.2.1
    else if e.1 = 5 ∨ e.1 = 6 then (e.2.1 == 0) && piece && (e.2.2.2.2.2.1 == 0) && !e.2.2.2.2.2.2.1
    else false)

theorem spec_EventOk_eq (e : T_Event.D) : spec_EventOk e = some (eventOkB e) := by
  obtain ⟨k, s, p, d, n, z, bt, u⟩ := e
  unfold spec_EventOk eventOkB
  simp only [l1In_eq, Option.bind_some, cond_eq_ite, some_ite]
  congr 1
  rw [Bool.eq_iff_iff]
  by_cases h1 : k = 1
  · subst h1; simp; grind
  by_cases h2 : k = 2
  · subst h2; simp; grind
  by_cases h3 : k = 3
  · subst h3; simp; grind
  by_cases h4 : k = 4
  · subst h4; simp; grind
  by_cases h5 : k = 5
  · subst h5; simp; grind
  by_cases h6 : k = 6
  · subst h6; simp; grind
  simp [h1, h2, h3, h4, h5, h6]
theorem impl_EventOk_eq (e : T_Event.D) : impl_EventOk e = some (eventOkB e) := by
  obtain ⟨k, s, p, d, n, z, bt, u⟩ := e
  unfold impl_EventOk eventOkB impl_isAmount impl_onPiece impl_onPlayer impl_isId impl_isZone impl_isPlayer
  simp only [from_eq, Option.bind_some, cond_eq_ite, some_ite, bne]
  congr 1
  rw [Bool.eq_iff_iff]
  by_cases h1 : k = 1
  · subst h1; simp; grind
  by_cases h2 : k = 2
  · subst h2; simp; grind
  by_cases h3 : k = 3
  · subst h3; simp; grind
  by_cases h4 : k = 4
  · subst h4; simp; grind
  by_cases h5 : k = 5
  · subst h5; simp; grind
  by_cases h6 : k = 6
  · subst h6; simp; grind
  simp [h1, h2, h3, h4, h5, h6]

theorem eventOk_facts {k s p d n z : Int} {bt : Bool} {u : Unit} (h : eventOkB (k, s, p, d, n, z, bt, u) = true) :
    (k = 1 ∧ (1 ≤ p ∨ p = 0 ∧ 0 ≤ d)) ∨ (k = 2 ∧ 1 ≤ p) ∨ ((k = 3 ∨ k = 4) ∧ p = 0 ∧ 0 ≤ d) ∨ ((k = 5 ∨ k = 6) ∧ 1 ≤ p) := by
  unfold eventOkB at h
  by_cases h1 : k = 1
  · subst h1; simp at h; grind
  by_cases h2 : k = 2
  · subst h2; simp at h; grind
  by_cases h3 : k = 3
  · subst h3; simp at h; grind
  by_cases h4 : k = 4
  · subst h4; simp at h; grind
  by_cases h5 : k = 5
  · subst h5; simp at h; grind
  by_cases h6 : k = 6
  · subst h6; simp at h; grind
  simp [h1, h2, h3, h4, h5, h6] at h

theorem index_event (xs : List T_Event.D) (hl : xs.length ≤ 1048576) (p : T_Event.D → Bool) (q : (T_Event.D × Unit) → Option Bool) (hq : ∀ x, q (x, ()) = some (p x)) :
    slices_IndexFunc_impl_Event xs q = some (match findL p xs with | some k => (k : Int) | none => -1) := by
  unfold slices_IndexFunc_impl_Event
  rw [index_loop xs (body := slices_IndexFunc_impl_Event_l1 xs q) p (fun i => i) (by omega) (fun i x hx => ?_) ?_]
  · cases findL p xs <;> rfl
  · unfold slices_IndexFunc_impl_Event_l1
    simp
  · unfold slices_IndexFunc_impl_Event_l1
    have hlt := (List.getElem?_eq_some_iff.1 hx).1
    have : ((i : Int) < (xs.length : Int)) := by omega
    simp only [this, decide_true, cond_true, idx_at hx, hq, Option.bind_some]
theorem contains_event (xs : List T_Event.D) (hl : xs.length ≤ 1048576) (p : T_Event.D → Bool) (q : (T_Event.D × Unit) → Option Bool) (hq : ∀ x, q (x, ()) = some (p x)) :
    slices_ContainsFunc_impl_Event xs q = some (xs.any p) := by
  unfold slices_ContainsFunc_impl_Event
  rw [index_event xs hl p q hq, Option.bind_some]
  obtain ⟨h1, h2⟩ := findL_spec p xs
  cases hf : findL p xs with
  | none =>
    have : xs.any p = false := by rw [List.any_eq_false]; exact fun x hx => by simp [h1 hf x hx]
    rw [this]; rfl
  | some k =>
    obtain ⟨x, g1, g2, _⟩ := h2 k hf
    have : xs.any p = true := by rw [List.any_eq_true]; exact ⟨x, List.mem_of_getElem? g1, g2⟩
    rw [this]
    simp

/-! ### GameOk -/
theorem some_iteG {α : Type} {c : Prop} [Decidable c] (a b : α) : (if c then some a else some b) = some (if c then a else b) := by split <;> rfl
def partOkB (e : T_Event.D) : Bool := eventOkB e || ((e.1 != 2) && (e.2.2.2.2.1 == -1) && eventOkB (e.1, e.2.1, e.2.2.1, e.2.2.2.1, 0, e.2.2.2.2.2))
theorem impl_partOk_eq (e : T_Event.D) : impl_partOk e = some (partOkB e) := by
  unfold impl_partOk partOkB
  simp only [impl_EventOk_eq, Option.bind_some]
  cases eventOkB e <;> cases (e.1 != 2) <;> cases (e.2.2.2.2.1 == -1) <;> rfl
theorem spec_part_eq (e : T_Event.D) : spec_l9Part e = some (partOkB e) := by
  unfold spec_l9Part partOkB
  simp only [spec_EventOk_eq, Option.bind_some]
  cases h : (e.2.2.2.2.1 == -1)
  · simp
  · have : eventOkB e = false := by
      unfold eventOkB
      have h1 : e.2.2.2.2.1 = -1 := by simpa using h
      have : decide (0 ≤ e.2.2.2.2.1) = false := by rw [h1]; rfl
      rw [this]; rfl
    rw [this]
    cases hk : (e.1 != 2) <;> simp [this, spec_EventOk_eq]
theorem act_loop (a : T_Act.D) (hl : a.2.2.2.2.2.2.1.length ≤ 1048576) : while_ (spec_ActOk_l1 a) 0 = some (bif a.2.2.2.2.2.2.1.any (fun e => !partOkB e) then .inr false else .inl (a.2.2.2.2.2.2.1.length : Int)) := by
  rw [any_loop a.2.2.2.2.2.2.1 (body := spec_ActOk_l1 a) (fun _ e => !partOkB e) false (by omega) (fun i x hx => ?_) (by unfold spec_ActOk_l1; simp), any_any]
  have hlt := (List.getElem?_eq_some_iff.1 hx).1
  have hil : ((i : Int) < (a.2.2.2.2.2.2.1.length : Int)) := by omega
  unfold spec_ActOk_l1
  simp only [hil, decide_true, cond_true, idx_at hx, spec_part_eq, Option.bind_some]
theorem actOk_eq' (k n p s z : Int) (bt : Bool) (L : List T_Event.D) (u : Unit) (hl : L.length ≤ 1048576) : ∃ b, spec_ActOk (k, n, p, s, z, bt, L, u) = some b ∧ impl_ActOk (k, n, p, s, z, bt, L, u) = some b := by
  have hW := act_loop (k, n, p, s, z, bt, L, u) hl
  have hC : slices_ContainsFunc_impl_Event L (fun q => impl_ActOk_1 q.1) = some (L.any (fun e => !partOkB e)) := contains_event L hl (fun e => !partOkB e) _ (fun x => by simp only [impl_ActOk_1, impl_partOk_eq, Option.bind_some])
  simp only at hW
  unfold spec_ActOk impl_ActOk spec_l9Plain impl_isId impl_isPlayer impl_isZone
  simp only [hW, hC, l1In_eq, from_eq, Option.bind_some]
  have hz : ((L.length : Int) == 0) = !decide ((L.length : Int) > 0) := by
    by_cases h : (L.length : Int) > 0
    · rw [decide_eq_true h]; simp only [Bool.not_true]; rw [beq_eq_false_iff_ne]; omega
    · rw [decide_eq_false h]; simp only [Bool.not_false]; rw [beq_iff_eq]; omega
  simp only [hz, bne]
  clear hW hC hz
  generalize L.any (fun e => !partOkB e) = q
  generalize hM : (decide (1 ≤ (L.length : Int)) && decide ((L.length : Int) ≤ 3)) = m3
  generalize decide ((L.length : Int) > 0) = m0
  by_cases h1 : k = 1
  · subst h1
    simp only [Int.reduceBEq, beq_self_eq_true, cond_true, cond_false, Option.bind_some, Bool.not_true, Bool.not_false]
    cases (n == 0) <;> cases (p == 0) <;> cases (s == -1) <;> cases (z == 0) <;> cases bt <;> cases m0 <;> exact ⟨_, rfl, rfl⟩
  by_cases h2 : k = 2
  · subst h2
    simp only [Int.reduceBEq, beq_self_eq_true, cond_true, cond_false, Option.bind_some, Bool.not_true, Bool.not_false]
    cases (n == 0) <;> cases (p == 0) <;> cases (s == -1) <;> cases (z == 0) <;> cases bt <;> cases m0 <;> exact ⟨_, rfl, rfl⟩
  by_cases h3 : k = 3
  · subst h3
    simp only [Int.reduceBEq, beq_self_eq_true, cond_true, cond_false, Option.bind_some, Bool.not_true, Bool.not_false]
    cases (decide (1 ≤ n) && decide (n ≤ 2147483647)) <;> cases (p == 0) <;> cases (s == -1) <;> cases (z == 0) <;> cases bt <;> cases m0 <;> exact ⟨_, rfl, rfl⟩
  by_cases h4 : k = 4
  · subst h4
    simp only [Int.reduceBEq, beq_self_eq_true, cond_true, cond_false, Option.bind_some, Bool.not_true, Bool.not_false]
    cases (n == 0) <;> cases (p == 0) <;> cases (s == -1) <;> cases (z == 0) <;> cases bt <;> cases m0 <;> exact ⟨_, rfl, rfl⟩
  by_cases h5 : k = 5
  · subst h5
    simp only [Int.reduceBEq, beq_self_eq_true, cond_true, cond_false, Option.bind_some, Bool.not_true, Bool.not_false]
    cases (n == 0) <;> cases (p == 0) <;> cases (s == -1) <;> cases (z == 0) <;> cases bt <;> cases m0 <;> exact ⟨_, rfl, rfl⟩
  by_cases h6 : k = 6
  · subst h6
    simp only [Int.reduceBEq, beq_self_eq_true, cond_true, cond_false, Option.bind_some, Bool.not_true, Bool.not_false]
    cases (n == 0) <;> cases (p == 0) <;> cases (s == -1) <;> cases (z == 0) <;> cases bt <;> cases m0 <;> cases (decide (1 ≤ p) && decide (p ≤ 99)) <;> cases (decide (0 ≤ s) && decide (s ≤ 2)) <;> exact ⟨_, rfl, rfl⟩
  by_cases h7 : k = 7
  · subst h7
    simp only [Int.reduceBEq, beq_self_eq_true, cond_true, cond_false, Option.bind_some, Bool.not_true, Bool.not_false]
    cases (n == 0) <;> cases (p == 0) <;> cases (s == -1) <;> cases bt <;> cases m0 <;> cases (decide (1 ≤ z) && decide (z ≤ 4)) <;> exact ⟨_, rfl, rfl⟩
  by_cases h8 : k = 8
  · subst h8
    simp only [Int.reduceBEq, beq_self_eq_true, cond_true, cond_false, Option.bind_some, Bool.not_true, Bool.not_false]
    cases (decide (0 ≤ n) && decide (n ≤ 99)) <;> cases (p == 0) <;> cases (s == -1) <;> cases (z == 0) <;> cases m0 <;> exact ⟨_, rfl, rfl⟩
  by_cases h9 : k = 9
  · subst h9
    simp only [Int.reduceBEq, beq_self_eq_true, cond_true, cond_false, Option.bind_some, Bool.not_true, Bool.not_false]
    cases (n == 0) <;> cases (p == 0) <;> cases (s == -1) <;> cases (z == 0) <;> cases bt <;> cases m3 <;> cases q <;> exact ⟨_, rfl, rfl⟩
  have e1 : (k == 1) = false := by rw [beq_eq_false_iff_ne]; exact h1
  have e2 : (k == 2) = false := by rw [beq_eq_false_iff_ne]; exact h2
  have e3 : (k == 3) = false := by rw [beq_eq_false_iff_ne]; exact h3
  have e4 : (k == 4) = false := by rw [beq_eq_false_iff_ne]; exact h4
  have e5 : (k == 5) = false := by rw [beq_eq_false_iff_ne]; exact h5
  have e6 : (k == 6) = false := by rw [beq_eq_false_iff_ne]; exact h6
  have e7 : (k == 7) = false := by rw [beq_eq_false_iff_ne]; exact h7
  have e8 : (k == 8) = false := by rw [beq_eq_false_iff_ne]; exact h8
  have e9 : (k == 9) = false := by rw [beq_eq_false_iff_ne]; exact h9
  simp only [e1, e2, e3, e4, e5, e6, e7, e8, e9, cond_true, cond_false, Option.bind_some, Bool.not_true, Bool.not_false]
  cases (n == 0) <;> cases (p == 0) <;> cases (s == -1) <;> cases (z == 0) <;> cases bt <;> cases m0 <;> exact ⟨_, rfl, rfl⟩
theorem actOk_eq (a : T_Act.D) (hl : a.2.2.2.2.2.2.1.length ≤ 1048576) : ∃ b, spec_ActOk a = some b ∧ impl_ActOk a = some b :=
  actOk_eq' a.1 a.2.1 a.2.2.1 a.2.2.2.1 a.2.2.2.2.1 a.2.2.2.2.2.1 a.2.2.2.2.2.2.1 a.2.2.2.2.2.2.2 hl
theorem ne_beq {a b : Int} (h : ¬ a = b) : (a == b) = false := by rw [beq_eq_false_iff_ne]; exact h
theorem actFits_eq (a : T_Act.D) (k : Int) : ∃ b, spec_ActFits a k = some b ∧ impl_ActFits a k = some b := by
  unfold spec_ActFits impl_ActFits impl_isKind
  simp only [l1In_eq, from_eq, Option.bind_some]
  generalize (decide (1 ≤ k) && decide (k ≤ 6)) = m
  cases m
  · exact ⟨_, rfl, rfl⟩
  by_cases h1 : a.1 = 1
  · rw [h1]; exact ⟨_, rfl, rfl⟩
  by_cases h2 : a.1 = 2
  · rw [h2]; exact ⟨_, rfl, rfl⟩
  by_cases h3 : a.1 = 3
  · rw [h3]; exact ⟨_, rfl, rfl⟩
  by_cases h4 : a.1 = 4
  · rw [h4]; exact ⟨_, rfl, rfl⟩
  by_cases h5 : a.1 = 5
  · rw [h5]; exact ⟨_, rfl, rfl⟩
  by_cases h6 : a.1 = 6
  · rw [h6]; exact ⟨_, rfl, rfl⟩
  by_cases h7 : a.1 = 7
  · rw [h7]; exact ⟨_, rfl, rfl⟩
  by_cases h8 : a.1 = 8
  · rw [h8]; exact ⟨_, rfl, rfl⟩
  by_cases h9 : a.1 = 9
  · rw [h9]; exact ⟨_, rfl, rfl⟩
  refine ⟨false, ?_, ?_⟩ <;> simp only [ne_beq h1, ne_beq h2, ne_beq h3, ne_beq h4, ne_beq h5, ne_beq h6, ne_beq h7, ne_beq h8, ne_beq h9, cond_true, cond_false, Option.bind_some, Bool.not_true, Bool.not_false]
theorem patOk_eq' (k c so tr pc am z : Int) (u : Unit) : ∃ b, spec_PatOk (k, c, so, tr, pc, am, z, u) = some b ∧ impl_PatOk (k, c, so, tr, pc, am, z, u) = some b := by
  unfold spec_PatOk impl_PatOk impl_isKind impl_isTraits impl_isAmount
  simp only [l1In_eq, from_eq, Option.bind_some, cond_eq_ite, some_iteG]
  refine ⟨_, rfl, ?_⟩
  congr 1
  rw [Bool.eq_iff_iff]
  simp
  grind
theorem patOk_eq (p : T_Pat.D) : ∃ b, spec_PatOk p = some b ∧ impl_PatOk p = some b := patOk_eq' p.1 p.2.1 p.2.2.1 p.2.2.2.1 p.2.2.2.2.1 p.2.2.2.2.2.1 p.2.2.2.2.2.2.1 p.2.2.2.2.2.2.2
theorem guardOk_eq' (k n : Int) (u : Unit) : ∃ b, spec_GuardOk (k, n, u) = some b ∧ impl_GuardOk (k, n, u) = some b := by
  unfold spec_GuardOk impl_GuardOk
  simp only [l1In_eq, from_eq, impl_Bound_eq, Option.bind_some, cond_eq_ite, some_iteG]
  refine ⟨_, rfl, ?_⟩
  congr 1
  rw [Bool.eq_iff_iff]
  unfold boundV
  simp
  grind
theorem guardOk_eq (p : T_Guard.D) : ∃ b, spec_GuardOk p = some b ∧ impl_GuardOk p = some b := guardOk_eq' p.1 p.2.1 p.2.2
theorem effectOk_eq (x : T_Effect.D) (hl : x.2.2.2.2.2.2.1.2.2.2.2.2.2.1.length ≤ 1048576) : ∃ b, spec_EffectOk x = some b ∧ impl_EffectOk x = some b := by
  obtain ⟨b1, p1, q1⟩ := patOk_eq x.2.2.2.2.1
  obtain ⟨b2, p2, q2⟩ := guardOk_eq x.2.2.2.2.2.1
  obtain ⟨b3, p3, q3⟩ := actOk_eq x.2.2.2.2.2.2.1 hl
  obtain ⟨b4, p4, q4⟩ := actFits_eq x.2.2.2.2.2.2.1 x.2.2.2.2.1.1
  unfold spec_EffectOk impl_EffectOk impl_isId impl_isPlayer
  simp only [p1, p2, p3, p4, q1, q2, q3, q4, l1In_eq, from_eq, Option.bind_some]
  simp only [cond_eq_ite, some_iteG, Option.bind_some]
  refine ⟨_, rfl, ?_⟩
  congr 1
  rw [Bool.eq_iff_iff]
  generalize x.2.2.2.2.2.2.1.1 = ak
  generalize x.1 = i
  generalize x.2.1 = ow
  generalize x.2.2.1 = so
  generalize x.2.2.2.1 = du
  generalize x.2.2.2.2.2.2.2.1 = co
  generalize x.2.2.2.2.2.2.2.2.1 = on
  clear p1 p2 p3 p4 q1 q2 q3 q4 hl
  simp
  grind
noncomputable def effectOkB (x : T_Effect.D) : Bool := (impl_EffectOk x).getD false
theorem impl_EffectOk_eq (x : T_Effect.D) (hl : x.2.2.2.2.2.2.1.2.2.2.2.2.2.1.length ≤ 1048576) : impl_EffectOk x = some (effectOkB x) := by
  obtain ⟨b, _, h⟩ := effectOk_eq x hl
  unfold effectOkB; rw [h]; rfl
theorem spec_EffectOk_eq (x : T_Effect.D) (hl : x.2.2.2.2.2.2.1.2.2.2.2.2.2.1.length ≤ 1048576) : spec_EffectOk x = some (effectOkB x) := by
  obtain ⟨b, h1, h⟩ := effectOk_eq x hl
  unfold effectOkB; rw [h, h1]; rfl

/-! ### Tables, turns, games -/
noncomputable def badEffect (xs : List T_Effect.D) (i : Nat) (x : T_Effect.D) : Bool := !effectOkB x || (decide (0 < i) && (xs[i - 1]?).any (fun y => decide (y.1 ≥ x.1)))
theorem prev_at {α R : Type} {xs : List α} {i : Nat} {x : α} (hx : xs[i]? = some x) (hl : xs.length ≤ 1048576) (κ : α → Option R) (h : 0 < i) : ∃ y, xs[i - 1]? = some y ∧ idx xs (IntKind.wrap .i64 ((i : Int) - 1)) κ = κ y := by
  have hlt := (List.getElem?_eq_some_iff.1 hx).1
  have hy : xs[i - 1]? = some (xs[i - 1]'(by omega)) := List.getElem?_eq_getElem (by omega)
  refine ⟨_, hy, ?_⟩
  rw [wrap_id (by omega) (by omega), show ((i : Int) - 1) = ((i - 1 : Nat) : Int) by omega]
  exact idx_at hy
theorem spec_TableOk_eq (xs : List T_Effect.D) (h : okD (.slice T_Effect) xs) : spec_TableOk xs = some (!anyI (badEffect xs) 0 xs && decide ((xs.length : Int) ≤ 5)) := by
  have hl : xs.length ≤ 1048576 := h.1
  unfold spec_TableOk
  rw [any_loop xs (body := spec_TableOk_l1 xs) (badEffect xs) false (by omega) (fun i x hx => ?_) (by unfold spec_TableOk_l1; simp)]
  · cases anyI (badEffect xs) 0 xs <;> rfl
  · have hlt := (List.getElem?_eq_some_iff.1 hx).1
    have hil : ((i : Int) < (xs.length : Int)) := by omega
    have hok := (h.2 x (List.mem_of_getElem? hx)).2.2.2.2.2.2.1.2.2.2.2.2.2.1.1
    unfold spec_TableOk_l1 badEffect
    simp only [hil, decide_true, cond_true, idx_at hx, spec_EffectOk_eq x hok, Option.bind_some]
    by_cases hi : 0 < i
    · obtain ⟨y, hy, hk⟩ := prev_at hx hl (fun x4 => some (decide (x4.1 ≥ x.1))) hi
      rw [decide_eq_true (p := (i : Int) > 0) (by omega), decide_eq_true hi, hy]
      simp only [cond_true, hk, Option.any_some]
      cases effectOkB x <;> cases decide (y.1 ≥ x.1) <;> rfl
    · rw [decide_eq_false (p := (i : Int) > 0) (by omega), decide_eq_false hi]
      cases effectOkB x <;> rfl
theorem impl_TableOk_eq (xs : List T_Effect.D) (h : okD (.slice T_Effect) xs) : impl_TableOk xs = some (!anyI (badEffect xs) 0 xs && decide ((xs.length : Int) ≤ 5)) := by
  have hl : xs.length ≤ 1048576 := h.1
  unfold impl_TableOk
  rw [any_loop xs (body := impl_TableOk_l1 xs) (badEffect xs) false (by omega) (fun i x hx => ?_) (by unfold impl_TableOk_l1; simp)]
  · cases anyI (badEffect xs) 0 xs <;> rfl
  · have hlt := (List.getElem?_eq_some_iff.1 hx).1
    have hil : ((i : Int) < (xs.length : Int)) := by omega
    have hok := (h.2 x (List.mem_of_getElem? hx)).2.2.2.2.2.2.1.2.2.2.2.2.2.1.1
    unfold impl_TableOk_l1 badEffect
    simp only [hil, decide_true, cond_true, idx_at hx, impl_EffectOk_eq x hok, Option.bind_some]
    by_cases hi : 0 < i
    · obtain ⟨y, hy, hk⟩ := prev_at hx hl (fun x4 => some (decide (x4.1 ≥ x.1))) hi
      rw [decide_eq_true (p := (i : Int) > 0) (by omega), decide_eq_true hi, hy]
      simp only [cond_true, hk, Option.any_some]
      cases effectOkB x <;> cases decide (y.1 ≥ x.1) <;> rfl
    · rw [decide_eq_false (p := (i : Int) > 0) (by omega), decide_eq_false hi]
      cases effectOkB x <;> rfl
theorem turn_loop (x : T_Turn.D) (hl : x.2.2.2.2.2.1.length ≤ 1048576) : while_ (spec_TurnOk_l1 x) 0 = some (bif x.2.2.2.2.2.1.any (fun e => !eventOkB e) then .inr false else .inl (x.2.2.2.2.2.1.length : Int)) := by
  rw [any_loop x.2.2.2.2.2.1 (body := spec_TurnOk_l1 x) (fun _ e => !eventOkB e) false (by omega) (fun i y hx => ?_) (by unfold spec_TurnOk_l1; simp), any_any]
  have hlt := (List.getElem?_eq_some_iff.1 hx).1
  have hil : ((i : Int) < (x.2.2.2.2.2.1.length : Int)) := by omega
  unfold spec_TurnOk_l1
  simp only [hil, decide_true, cond_true, idx_at hx, spec_EventOk_eq, Option.bind_some]
theorem turnOk_eq (x : T_Turn.D) (hl : x.2.2.2.2.2.1.length ≤ 1048576) : ∃ b, spec_TurnOk x = some b ∧ impl_TurnOk x = some b := by
  have hW := turn_loop x hl
  have hC : slices_ContainsFunc_impl_Event x.2.2.2.2.2.1 (fun q => impl_TurnOk_1 q.1) = some (x.2.2.2.2.2.1.any (fun e => !eventOkB e)) := contains_event x.2.2.2.2.2.1 hl (fun e => !eventOkB e) _ (fun x => by simp only [impl_TurnOk_1, impl_EventOk_eq, Option.bind_some])
  unfold spec_TurnOk impl_TurnOk impl_isId impl_isPlayer impl_isAmount
  simp only [hW, hC, l1In_eq, from_eq, spec_EventOk_eq, impl_EventOk_eq, Option.bind_some]
  have hd : decide ((x.2.2.2.2.2.1.length : Int) > 3) = !decide ((x.2.2.2.2.2.1.length : Int) ≤ 3) := by
    by_cases h : (x.2.2.2.2.2.1.length : Int) ≤ 3
    · rw [decide_eq_true h, decide_eq_false (by omega)]; rfl
    · rw [decide_eq_false h, decide_eq_true (by omega)]; rfl
  rw [hd]
  clear hW hC hd
  generalize (decide (1 ≤ x.1) && decide (x.1 ≤ 99)) = c1
  generalize (decide (0 ≤ x.2.1) && decide (x.2.1 ≤ 2)) = c2
  generalize (decide (1 ≤ x.2.2.2.1) && decide (x.2.2.2.1 ≤ 5)) = c3
  generalize (decide (0 ≤ x.2.2.1) && decide (x.2.2.1 ≤ IntKind.wrap .i64 (x.2.2.2.1 - 1))) = c4
  generalize eventOkB x.2.2.2.2.1 = c5
  generalize decide ((x.2.2.2.2.2.1.length : Int) ≤ 3) = c6
  generalize (decide (0 ≤ x.2.2.2.2.2.2.1) && decide (x.2.2.2.2.2.2.1 ≤ 2147483647)) = c7
  generalize (decide (0 ≤ x.2.2.2.2.2.2.2.1) && decide (x.2.2.2.2.2.2.2.1 ≤ 4)) = c8
  generalize x.2.2.2.2.2.1.any (fun e => !eventOkB e) = c9
  cases c1 <;> cases c2 <;> cases c3 <;> cases c4 <;> cases c5 <;> cases c6 <;> cases c7 <;> cases c8 <;> cases c9 <;> exact ⟨_, rfl, rfl⟩
noncomputable def turnOkB (x : T_Turn.D) : Bool := (impl_TurnOk x).getD false
theorem impl_TurnOk_eq (x : T_Turn.D) (hl : x.2.2.2.2.2.1.length ≤ 1048576) : impl_TurnOk x = some (turnOkB x) := by
  obtain ⟨b, _, h⟩ := turnOk_eq x hl
  unfold turnOkB; rw [h]; rfl
theorem spec_TurnOk_eq (x : T_Turn.D) (hl : x.2.2.2.2.2.1.length ≤ 1048576) : spec_TurnOk x = some (turnOkB x) := by
  obtain ⟨b, h1, h⟩ := turnOk_eq x hl
  unfold turnOkB; rw [h, h1]; rfl
theorem index_turn (xs : List T_Turn.D) (hl : xs.length ≤ 1048576) (p : T_Turn.D → Bool) (q : (T_Turn.D × Unit) → Option Bool) (hq : ∀ x ∈ xs, q (x, ()) = some (p x)) :
    slices_IndexFunc_impl_Turn xs q = some (match findL p xs with | some k => (k : Int) | none => -1) := by
  unfold slices_IndexFunc_impl_Turn
  rw [index_loop xs (body := slices_IndexFunc_impl_Turn_l1 xs q) p (fun i => i) (by omega) (fun i x hx => ?_) ?_]
  · cases findL p xs <;> rfl
  · unfold slices_IndexFunc_impl_Turn_l1
    simp
  · unfold slices_IndexFunc_impl_Turn_l1
    have hlt := (List.getElem?_eq_some_iff.1 hx).1
    have : ((i : Int) < (xs.length : Int)) := by omega
    simp only [this, decide_true, cond_true, idx_at hx, hq x (List.mem_of_getElem? hx), Option.bind_some]
theorem gameOk_eq (g : T_Game.D) (h : okD T_Game g) : ∃ b, spec_GameOk g = some b ∧ impl_GameOk g = some b := by
  have hl : g.2.2.2.2.2.1.length ≤ 1048576 := h.2.2.2.2.2.1.1
  have hT : ∀ x ∈ g.2.2.2.2.2.1, x.2.2.2.2.2.1.length ≤ 1048576 := fun x hx => (h.2.2.2.2.2.1.2 x hx).2.2.2.2.2.1.1
  have hW : while_ (spec_GameOk_l1 g) 0 = some (bif g.2.2.2.2.2.1.any (fun e => !turnOkB e) then .inr false else .inl (g.2.2.2.2.2.1.length : Int)) := by
    rw [any_loop g.2.2.2.2.2.1 (body := spec_GameOk_l1 g) (fun _ e => !turnOkB e) false (by omega) (fun i y hx => ?_) (by unfold spec_GameOk_l1; simp), any_any]
    have hlt := (List.getElem?_eq_some_iff.1 hx).1
    have hil : ((i : Int) < (g.2.2.2.2.2.1.length : Int)) := by omega
    unfold spec_GameOk_l1
    simp only [hil, decide_true, cond_true, idx_at hx, spec_TurnOk_eq y (hT y (List.mem_of_getElem? hx)), Option.bind_some]
  have hC : slices_ContainsFunc_impl_Turn g.2.2.2.2.2.1 (fun q => impl_GameOk_1 q.1) = some (g.2.2.2.2.2.1.any (fun e => !turnOkB e)) := by
    unfold slices_ContainsFunc_impl_Turn
    rw [index_turn g.2.2.2.2.2.1 hl (fun e => !turnOkB e) _ (fun x hx => by simp only [impl_GameOk_1, impl_TurnOk_eq x (hT x hx), Option.bind_some]), Option.bind_some, findL_any]
  unfold spec_GameOk impl_GameOk
  simp only [hW, hC, spec_StateOk_eq g.1 h.1.1.1 h.1.2.1.1, impl_StateOk_eq g.1 h.1.1.1 h.1.2.1.1, spec_TableOk_eq _ h.2.1, impl_TableOk_eq _ h.2.1, Option.bind_some]
  generalize g.2.2.2.2.2.1.any (fun e => !turnOkB e) = c1
  generalize stateOkB g.1 = c2
  generalize (!anyI (badEffect g.2.1) 0 g.2.1 && decide ((g.2.1.length : Int) ≤ 5)) = c3
  cases c1 <;> cases c2 <;> cases c3 <;> exact ⟨_, rfl, rfl⟩
theorem law_GameOk (g : T_Game.D) (wg : T_Game.wf g) : laws_FnExactGameOk g = some true := by
  unfold laws_FnExactGameOk
  obtain ⟨mg, eg, hhg⟩ := laws_szGame_ok g (1048576) (by omega) (by omega) wg
  rw [eg, Option.bind_some]
  rcases hhg with hhg | ⟨g0g, g1g, okg⟩
  · rw [decide_eq_true hhg]; rfl
  rw [dec_neg g0g]; simp only [cond_false]
  obtain ⟨m, e1, e2⟩ := gameOk_eq g okg
  simp (disch := omega) only [laws_toGame_ok g okg, laws_eqGame_ok g g okg, eqD_refl (t := T_Game) rfl, e1, e2, Option.bind_some, bne_self_eq_false, Bool.not_true, cond_false, cond_true, dec_neg]


end Go.Abs
