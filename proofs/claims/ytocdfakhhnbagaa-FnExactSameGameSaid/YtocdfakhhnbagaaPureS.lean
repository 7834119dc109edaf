import Derived.Test.YtocdfakhhnbagaaGenS
import Derived.Test.YtocdfakhhnbagaaAbsDeep
set_option linter.unusedVariables false
set_option linter.unusedSimpArgs false
namespace Go.Abs
theorem laws_toPat_eq (a : T_Pat.D) : laws_toPat a = some a := by
  first | rfl | (unfold laws_toPat; simp only [laws_toPiece_eq, laws_toEvent_eq, Option.bind_some]; rfl)
theorem laws_eqPat_eq (a b : T_Pat.D) : laws_eqPat a b = some (eqD T_Pat a b) := by
  unfold laws_eqPat
  first | (simp only [bneIf]; rfl) | (simp only [laws_eqEvent_eq, laws_eqPiece_eq, Option.bind_some, bneIf, notIf]; rfl)
theorem laws_toGuard_eq (a : T_Guard.D) : laws_toGuard a = some a := by
  first | rfl | (unfold laws_toGuard; simp only [laws_toPiece_eq, laws_toEvent_eq, Option.bind_some]; rfl)
theorem laws_eqGuard_eq (a b : T_Guard.D) : laws_eqGuard a b = some (eqD T_Guard a b) := by
  unfold laws_eqGuard
  first | (simp only [bneIf]; rfl) | (simp only [laws_eqEvent_eq, laws_eqPiece_eq, Option.bind_some, bneIf, notIf]; rfl)

theorem laws_szEventS_eq (a : List T_Event.D) (l : Int) (h0 : 0 ≤ l) (h1 : l ≤ 1048576) (hn : a.length ≤ maxLen) : laws_szEventS a l = some (if (a.length : Int) ≤ l then l - a.length else -1) := by
  unfold laws_szEventS; exact sz_list h0 h1 (by simpa [maxLen] using hn)
theorem laws_toEvent_eq (a : T_Event.D) : laws_toEvent a = some a := by
  first | rfl | (unfold laws_toEvent; simp only [laws_toPiece_eq, laws_toEvent_eq, Option.bind_some]; rfl)
theorem laws_toEventS_eq (a : List T_Event.D) (h : a.length ≤ 1048576) : laws_toEventS a = some a := by
  unfold laws_toEventS
  rw [if_pos (by omega), if_pos (by simp only [room]; omega), Int.toNat_natCast, copy_loop a _ (body := laws_toEventS_l1 a) laws_toEvent (fun x _ => laws_toEvent_eq x) (by omega) (fun _ => rfl)]
  rfl
theorem laws_eqEvent_eq (a b : T_Event.D) : laws_eqEvent a b = some (eqD T_Event a b) := by
  unfold laws_eqEvent
  first | (simp only [bneIf]; rfl) | (simp only [laws_eqEvent_eq, laws_eqPiece_eq, Option.bind_some, bneIf, notIf]; rfl)
theorem laws_eqEventS_eq (a b : List T_Event.D) (h : a.length ≤ 1048576) : laws_eqEventS a b = some (eqD (.slice T_Event) a b) := by
  unfold laws_eqEventS
  exact eq_lists (t := T_Event) rfl a b (e := eqD T_Event) (fun _ _ => rfl) (by omega) (fun i => by unfold laws_eqEventS_l1; simp only [laws_eqEvent_eq, Option.bind_some])

theorem laws_szPieceS_eq (a : List T_Piece.D) (l : Int) (h0 : 0 ≤ l) (h1 : l ≤ 1048576) (hn : a.length ≤ maxLen) : laws_szPieceS a l = some (if (a.length : Int) ≤ l then l - a.length else -1) := by
  unfold laws_szPieceS; exact sz_list h0 h1 (by simpa [maxLen] using hn)
theorem laws_toPiece_eq (a : T_Piece.D) : laws_toPiece a = some a := by
  first | rfl | (unfold laws_toPiece; simp only [laws_toPiece_eq, laws_toEvent_eq, Option.bind_some]; rfl)
theorem laws_toPieceS_eq (a : List T_Piece.D) (h : a.length ≤ 1048576) : laws_toPieceS a = some a := by
  unfold laws_toPieceS
  rw [if_pos (by omega), if_pos (by simp only [room]; omega), Int.toNat_natCast, copy_loop a _ (body := laws_toPieceS_l1 a) laws_toPiece (fun x _ => laws_toPiece_eq x) (by omega) (fun _ => rfl)]
  rfl
theorem laws_eqPiece_eq (a b : T_Piece.D) : laws_eqPiece a b = some (eqD T_Piece a b) := by
  unfold laws_eqPiece
  first | (simp only [bneIf]; rfl) | (simp only [laws_eqEvent_eq, laws_eqPiece_eq, Option.bind_some, bneIf, notIf]; rfl)
theorem laws_eqPieceS_eq (a b : List T_Piece.D) (h : a.length ≤ 1048576) : laws_eqPieceS a b = some (eqD (.slice T_Piece) a b) := by
  unfold laws_eqPieceS
  exact eq_lists (t := T_Piece) rfl a b (e := eqD T_Piece) (fun _ _ => rfl) (by omega) (fun i => by unfold laws_eqPieceS_l1; simp only [laws_eqPiece_eq, Option.bind_some])

theorem laws_szSideS_eq (a : List T_Side.D) (l : Int) (h0 : 0 ≤ l) (h1 : l ≤ 1048576) (hn : a.length ≤ maxLen) : laws_szSideS a l = some (if (a.length : Int) ≤ l then l - a.length else -1) := by
  unfold laws_szSideS; exact sz_list h0 h1 (by simpa [maxLen] using hn)
theorem laws_toSide_eq (a : T_Side.D) : laws_toSide a = some a := by
  first | rfl | (unfold laws_toSide; simp only [laws_toPiece_eq, laws_toEvent_eq, Option.bind_some]; rfl)
theorem laws_toSideS_eq (a : List T_Side.D) (h : a.length ≤ 1048576) : laws_toSideS a = some a := by
  unfold laws_toSideS
  rw [if_pos (by omega), if_pos (by simp only [room]; omega), Int.toNat_natCast, copy_loop a _ (body := laws_toSideS_l1 a) laws_toSide (fun x _ => laws_toSide_eq x) (by omega) (fun _ => rfl)]
  rfl
theorem laws_eqSide_eq (a b : T_Side.D) : laws_eqSide a b = some (eqD T_Side a b) := by
  unfold laws_eqSide
  first | (simp only [bneIf]; rfl) | (simp only [laws_eqEvent_eq, laws_eqPiece_eq, Option.bind_some, bneIf, notIf]; rfl)
theorem laws_eqSideS_eq (a b : List T_Side.D) (h : a.length ≤ 1048576) : laws_eqSideS a b = some (eqD (.slice T_Side) a b) := by
  unfold laws_eqSideS
  exact eq_lists (t := T_Side) rfl a b (e := eqD T_Side) (fun _ _ => rfl) (by omega) (fun i => by unfold laws_eqSideS_l1; simp only [laws_eqSide_eq, Option.bind_some])

theorem laws_szTriggerS_eq (a : List T_Trigger.D) (l : Int) (h0 : 0 ≤ l) (h1 : l ≤ 1048576) (hn : a.length ≤ maxLen) : laws_szTriggerS a l = some (if (a.length : Int) ≤ l then l - a.length else -1) := by
  unfold laws_szTriggerS; exact sz_list h0 h1 (by simpa [maxLen] using hn)
theorem laws_toTrigger_eq (a : T_Trigger.D) : laws_toTrigger a = some a := by
  first | rfl | (unfold laws_toTrigger; simp only [laws_toPiece_eq, laws_toEvent_eq, Option.bind_some]; rfl)
theorem laws_toTriggerS_eq (a : List T_Trigger.D) (h : a.length ≤ 1048576) : laws_toTriggerS a = some a := by
  unfold laws_toTriggerS
  rw [if_pos (by omega), if_pos (by simp only [room]; omega), Int.toNat_natCast, copy_loop a _ (body := laws_toTriggerS_l1 a) laws_toTrigger (fun x _ => laws_toTrigger_eq x) (by omega) (fun _ => rfl)]
  rfl
theorem laws_eqTrigger_eq (a b : T_Trigger.D) : laws_eqTrigger a b = some (eqD T_Trigger a b) := by
  unfold laws_eqTrigger
  first | (simp only [bneIf]; rfl) | (simp only [laws_eqEvent_eq, laws_eqPiece_eq, Option.bind_some, bneIf, notIf]; rfl)
theorem laws_eqTriggerS_eq (a b : List T_Trigger.D) (h : a.length ≤ 1048576) : laws_eqTriggerS a b = some (eqD (.slice T_Trigger) a b) := by
  unfold laws_eqTriggerS
  exact eq_lists (t := T_Trigger) rfl a b (e := eqD T_Trigger) (fun _ _ => rfl) (by omega) (fun i => by unfold laws_eqTriggerS_l1; simp only [laws_eqTrigger_eq, Option.bind_some])

theorem laws_szNoteS_eq (a : List T_Note.D) (l : Int) (h0 : 0 ≤ l) (h1 : l ≤ 1048576) (hn : a.length ≤ maxLen) : laws_szNoteS a l = some (if (a.length : Int) ≤ l then l - a.length else -1) := by
  unfold laws_szNoteS; exact sz_list h0 h1 (by simpa [maxLen] using hn)
theorem laws_toNote_eq (a : T_Note.D) : laws_toNote a = some a := by
  first | rfl | (unfold laws_toNote; simp only [laws_toPiece_eq, laws_toEvent_eq, Option.bind_some]; rfl)
theorem laws_toNoteS_eq (a : List T_Note.D) (h : a.length ≤ 1048576) : laws_toNoteS a = some a := by
  unfold laws_toNoteS
  rw [if_pos (by omega), if_pos (by simp only [room]; omega), Int.toNat_natCast, copy_loop a _ (body := laws_toNoteS_l1 a) laws_toNote (fun x _ => laws_toNote_eq x) (by omega) (fun _ => rfl)]
  rfl
theorem laws_eqNote_eq (a b : T_Note.D) : laws_eqNote a b = some (eqD T_Note a b) := by
  unfold laws_eqNote
  first | (simp only [bneIf]; rfl) | (simp only [laws_eqEvent_eq, laws_eqPiece_eq, Option.bind_some, bneIf, notIf]; rfl)
theorem laws_eqNoteS_eq (a b : List T_Note.D) (h : a.length ≤ 1048576) : laws_eqNoteS a b = some (eqD (.slice T_Note) a b) := by
  unfold laws_eqNoteS
  exact eq_lists (t := T_Note) rfl a b (e := eqD T_Note) (fun _ _ => rfl) (by omega) (fun i => by unfold laws_eqNoteS_l1; simp only [laws_eqNote_eq, Option.bind_some])

theorem laws_toIntS_eq (a : List Int) (h : a.length ≤ 1048576) : laws_toIntS a = some a := by
  unfold laws_toIntS
  rw [if_pos (by omega), if_pos (by simp only [room]; omega), Int.toNat_natCast, copy_loop a _ (body := laws_toIntS_l1 a) some (fun x _ => rfl) (by omega) (fun _ => rfl)]
  rfl
theorem laws_eqIntS_eq (a b : List Int) (h : a.length ≤ 1048576) : laws_eqIntS a b = some (eqD (.slice (.int .i64)) a b) := by
  unfold laws_eqIntS
  exact eq_lists (t := .int .i64) rfl a b (e := fun (x y : Int) => x == y) (fun _ _ => rfl) (by omega) (fun i => rfl)

theorem laws_szState_eq (s : T_State.D) (l : Int) (h0 : 0 ≤ l) (h1 : l ≤ 1048576) (hp : s.1.length ≤ maxLen) (hs : s.2.1.length ≤ maxLen) : laws_szState s l = some (if (s.1.length : Int) + s.2.1.length ≤ l then l - s.1.length - s.2.1.length else -1) := by
  unfold laws_szState
  rw [laws_szPieceS_eq _ _ h0 h1 hp, Option.bind_some]
  by_cases g1 : (s.1.length : Int) ≤ l
  · rw [if_pos g1]
    have n1 : ¬ (l - (s.1.length : Int) < 0) := by omega
    simp only [n1, decide_false, cond_false]
    rw [laws_szSideS_eq _ _ (by omega) (by omega) hs, Option.bind_some]
    by_cases g2 : (s.2.1.length : Int) ≤ l - s.1.length
    · have n2 : ¬ (l - (s.1.length : Int) - s.2.1.length < 0) := by omega
      rw [if_pos g2, if_pos (by omega)]
      simp only [n2, decide_false, cond_false]
    · rw [if_neg g2, if_neg (by omega)]; rfl
  · rw [if_neg g1, if_neg (by omega)]; rfl
theorem laws_toState_eq (s : T_State.D) (hp : s.1.length ≤ 1048576) (hs : s.2.1.length ≤ 1048576) : laws_toState s = some s := by
  unfold laws_toState
  simp only [laws_toPieceS_eq _ hp, laws_toSideS_eq _ hs, Option.bind_some]
theorem laws_eqState_eq (a b : T_State.D) (hp : a.1.length ≤ 1048576) (hs : a.2.1.length ≤ 1048576) : laws_eqState a b = some (eqD T_State a b) := by
  unfold laws_eqState
  simp only [laws_eqPieceS_eq _ _ hp, laws_eqSideS_eq _ _ hs, Option.bind_some, bneIf, notIf]
  rfl
theorem laws_szEventS_ok (a : List T_Event.D) (l : Int) (h0 : 0 ≤ l) (h1 : l ≤ 1048576) (w : (Ty.slice T_Event).wf a) : SzR (laws_szEventS a l) l (okD (.slice T_Event) a) :=
  sz_flat (t := T_Event) rfl (laws_szEventS_eq a l h0 h1 w.1) h1
theorem laws_szPieceS_ok (a : List T_Piece.D) (l : Int) (h0 : 0 ≤ l) (h1 : l ≤ 1048576) (w : (Ty.slice T_Piece).wf a) : SzR (laws_szPieceS a l) l (okD (.slice T_Piece) a) :=
  sz_flat (t := T_Piece) rfl (laws_szPieceS_eq a l h0 h1 w.1) h1
theorem laws_szSideS_ok (a : List T_Side.D) (l : Int) (h0 : 0 ≤ l) (h1 : l ≤ 1048576) (w : (Ty.slice T_Side).wf a) : SzR (laws_szSideS a l) l (okD (.slice T_Side) a) :=
  sz_flat (t := T_Side) rfl (laws_szSideS_eq a l h0 h1 w.1) h1
theorem laws_szTriggerS_ok (a : List T_Trigger.D) (l : Int) (h0 : 0 ≤ l) (h1 : l ≤ 1048576) (w : (Ty.slice T_Trigger).wf a) : SzR (laws_szTriggerS a l) l (okD (.slice T_Trigger) a) :=
  sz_flat (t := T_Trigger) rfl (laws_szTriggerS_eq a l h0 h1 w.1) h1
theorem laws_szNoteS_ok (a : List T_Note.D) (l : Int) (h0 : 0 ≤ l) (h1 : l ≤ 1048576) (w : (Ty.slice T_Note).wf a) : SzR (laws_szNoteS a l) l (okD (.slice T_Note) a) :=
  sz_flat (t := T_Note) rfl (laws_szNoteS_eq a l h0 h1 w.1) h1

theorem laws_szIntS_eq (a : List Int) (l : Int) (h0 : 0 ≤ l) (h1 : l ≤ 1048576) (hn : a.length ≤ maxLen) : laws_szIntS a l = some (if (a.length : Int) ≤ l then l - a.length else -1) := by
  unfold laws_szIntS; exact sz_list h0 h1 (by simpa [maxLen] using hn)
theorem laws_szIntS_ok (a : List Int) (l : Int) (h0 : 0 ≤ l) (h1 : l ≤ 1048576) (w : (Ty.slice (.int .i64)).wf a) : SzR (laws_szIntS a l) l (okD (.slice (.int .i64)) a) :=
  sz_flat (t := (.int .i64)) rfl (laws_szIntS_eq a l h0 h1 w.1) h1

theorem laws_szState_ok (a : T_State.D) (l : Int) (h0 : 0 ≤ l) (h1 : l ≤ 1048576) (w : T_State.wf a) : SzR (laws_szState a l) l (okD T_State a) := by
  unfold laws_szState
  exact SzR.imp (SzR.bind (laws_szPieceS_ok a.1 l h0 h1 w.1) fun m1 k1 j1 => SzR.bind (laws_szSideS_ok a.2.1 m1 k1 (by omega) w.2.1) fun m2 k2 j2 => SzR.done k2) (fun h => ⟨h.1, h.2.1, trivial, trivial, trivial⟩)

theorem laws_szAct_ok (a : T_Act.D) (l : Int) (h0 : 0 ≤ l) (h1 : l ≤ 1048576) (w : T_Act.wf a) : SzR (laws_szAct a l) l (okD T_Act a) := by
  unfold laws_szAct
  exact SzR.imp (SzR.bind (laws_szEventS_ok a.2.2.2.2.2.2.1 l h0 h1 w.2.2.2.2.2.2.1) fun m1 k1 j1 => SzR.done k1) (fun h => ⟨trivial, trivial, trivial, trivial, trivial, trivial, h.1, trivial⟩)
theorem laws_toAct_ok (a : T_Act.D) (h : okD T_Act a) : laws_toAct a = some a := by
  unfold laws_toAct
  simp only [laws_toEventS_eq a.2.2.2.2.2.2.1 h.2.2.2.2.2.2.1.1, Option.bind_some]
theorem laws_eqAct_ok (a b : T_Act.D) (h : okD T_Act a) : laws_eqAct a b = some (eqD T_Act a b) := by
  unfold laws_eqAct
  simp only [laws_eqEventS_eq a.2.2.2.2.2.2.1 b.2.2.2.2.2.2.1 h.2.2.2.2.2.2.1.1, Option.bind_some, bneIf, notIf]
  rfl

theorem laws_szEffect_ok (a : T_Effect.D) (l : Int) (h0 : 0 ≤ l) (h1 : l ≤ 1048576) (w : T_Effect.wf a) : SzR (laws_szEffect a l) l (okD T_Effect a) := by
  unfold laws_szEffect
  exact SzR.imp (SzR.bind (laws_szAct_ok a.2.2.2.2.2.2.1 l h0 h1 w.2.2.2.2.2.2.1) fun m1 k1 j1 => SzR.done k1) (fun h => ⟨trivial, trivial, trivial, trivial, okFlat T_Pat rfl _, okFlat T_Guard rfl _, h.1, trivial, trivial, trivial⟩)
theorem laws_toEffect_ok (a : T_Effect.D) (h : okD T_Effect a) : laws_toEffect a = some a := by
  unfold laws_toEffect
  simp only [laws_toPat_eq, laws_toGuard_eq, laws_toAct_ok a.2.2.2.2.2.2.1 h.2.2.2.2.2.2.1, Option.bind_some]
theorem laws_eqEffect_ok (a b : T_Effect.D) (h : okD T_Effect a) : laws_eqEffect a b = some (eqD T_Effect a b) := by
  unfold laws_eqEffect
  simp only [laws_eqPat_eq, laws_eqGuard_eq, laws_eqAct_ok a.2.2.2.2.2.2.1 b.2.2.2.2.2.2.1 h.2.2.2.2.2.2.1, Option.bind_some, bneIf, notIf]
  rfl
theorem laws_szEffectS_ok (a : List T_Effect.D) (l : Int) (h0 : 0 ≤ l) (h1 : l ≤ 1048576) (w : (Ty.slice T_Effect).wf a) : SzR (laws_szEffectS a l) l (okD (.slice T_Effect) a) := by
  unfold laws_szEffectS
  exact sz_loop (t := T_Effect) a laws_szEffect (body := laws_szEffectS_l1 a) w.1 (fun x hx l h0 h1 => laws_szEffect_ok x l h0 h1 (w.2 x hx)) (fun _ => rfl) h0 h1
theorem laws_toEffectS_ok (a : List T_Effect.D) (h : okD (.slice T_Effect) a) : laws_toEffectS a = some a := by
  have hl : a.length ≤ 1048576 := h.1
  unfold laws_toEffectS
  rw [if_pos (by omega), if_pos (by simp only [room]; omega), Int.toNat_natCast, copy_loop a _ (body := laws_toEffectS_l1 a) laws_toEffect (fun x hx => laws_toEffect_ok x (h.2 x hx)) (by omega) (fun _ => rfl)]
  rfl
theorem laws_eqEffectS_ok (a b : List T_Effect.D) (h : okD (.slice T_Effect) a) : laws_eqEffectS a b = some (eqD (.slice T_Effect) a b) := by
  have hl : a.length ≤ 1048576 := h.1
  unfold laws_eqEffectS
  exact eq_lists2 (t := T_Effect) rfl a b (e := laws_eqEffect) (fun x hx y => laws_eqEffect_ok x y (h.2 x hx)) (by omega) (fun _ => rfl)

theorem laws_szTurn_ok (a : T_Turn.D) (l : Int) (h0 : 0 ≤ l) (h1 : l ≤ 1048576) (w : T_Turn.wf a) : SzR (laws_szTurn a l) l (okD T_Turn a) := by
  unfold laws_szTurn
  exact SzR.imp (SzR.bind (laws_szEventS_ok a.2.2.2.2.2.1 l h0 h1 w.2.2.2.2.2.1) fun m1 k1 j1 => SzR.done k1) (fun h => ⟨trivial, trivial, trivial, trivial, okFlat T_Event rfl _, h.1, trivial, trivial, trivial⟩)
theorem laws_toTurn_ok (a : T_Turn.D) (h : okD T_Turn a) : laws_toTurn a = some a := by
  unfold laws_toTurn
  simp only [laws_toEvent_eq, laws_toEventS_eq a.2.2.2.2.2.1 h.2.2.2.2.2.1.1, Option.bind_some]
theorem laws_eqTurn_ok (a b : T_Turn.D) (h : okD T_Turn a) : laws_eqTurn a b = some (eqD T_Turn a b) := by
  unfold laws_eqTurn
  simp only [laws_eqEvent_eq, laws_eqEventS_eq a.2.2.2.2.2.1 b.2.2.2.2.2.1 h.2.2.2.2.2.1.1, Option.bind_some, bneIf, notIf]
  rfl
theorem laws_szTurnS_ok (a : List T_Turn.D) (l : Int) (h0 : 0 ≤ l) (h1 : l ≤ 1048576) (w : (Ty.slice T_Turn).wf a) : SzR (laws_szTurnS a l) l (okD (.slice T_Turn) a) := by
  unfold laws_szTurnS
  exact sz_loop (t := T_Turn) a laws_szTurn (body := laws_szTurnS_l1 a) w.1 (fun x hx l h0 h1 => laws_szTurn_ok x l h0 h1 (w.2 x hx)) (fun _ => rfl) h0 h1
theorem laws_toTurnS_ok (a : List T_Turn.D) (h : okD (.slice T_Turn) a) : laws_toTurnS a = some a := by
  have hl : a.length ≤ 1048576 := h.1
  unfold laws_toTurnS
  rw [if_pos (by omega), if_pos (by simp only [room]; omega), Int.toNat_natCast, copy_loop a _ (body := laws_toTurnS_l1 a) laws_toTurn (fun x hx => laws_toTurn_ok x (h.2 x hx)) (by omega) (fun _ => rfl)]
  rfl
theorem laws_eqTurnS_ok (a b : List T_Turn.D) (h : okD (.slice T_Turn) a) : laws_eqTurnS a b = some (eqD (.slice T_Turn) a b) := by
  have hl : a.length ≤ 1048576 := h.1
  unfold laws_eqTurnS
  exact eq_lists2 (t := T_Turn) rfl a b (e := laws_eqTurn) (fun x hx y => laws_eqTurn_ok x y (h.2 x hx)) (by omega) (fun _ => rfl)

theorem laws_szFate_ok (a : T_Fate.D) (l : Int) (h0 : 0 ≤ l) (h1 : l ≤ 1048576) (w : T_Fate.wf a) : SzR (laws_szFate a l) l (okD T_Fate a) := by
  unfold laws_szFate
  exact SzR.imp (SzR.bind (laws_szEventS_ok a.1 l h0 h1 w.1) fun m1 k1 j1 => SzR.bind (laws_szEffectS_ok a.2.1 m1 k1 (by omega) w.2.1) fun m2 k2 j2 => SzR.bind (laws_szIntS_ok a.2.2.1 m2 k2 (by omega) w.2.2.1) fun m3 k3 j3 => SzR.bind (laws_szTurnS_ok a.2.2.2.1 m3 k3 (by omega) w.2.2.2.1) fun m4 k4 j4 => SzR.done k4) (fun h => ⟨h.1, h.2.1, h.2.2.1, h.2.2.2.1, trivial⟩)
theorem laws_toFate_ok (a : T_Fate.D) (h : okD T_Fate a) : laws_toFate a = some a := by
  unfold laws_toFate
  simp only [laws_toEventS_eq a.1 h.1.1, laws_toEffectS_ok a.2.1 h.2.1, laws_toIntS_eq a.2.2.1 h.2.2.1.1, laws_toTurnS_ok a.2.2.2.1 h.2.2.2.1, Option.bind_some]
theorem laws_eqFate_ok (a b : T_Fate.D) (h : okD T_Fate a) : laws_eqFate a b = some (eqD T_Fate a b) := by
  unfold laws_eqFate
  simp only [laws_eqEventS_eq a.1 b.1 h.1.1, laws_eqEffectS_ok a.2.1 b.2.1 h.2.1, laws_eqIntS_eq a.2.2.1 b.2.2.1 h.2.2.1.1, laws_eqTurnS_ok a.2.2.2.1 b.2.2.2.1 h.2.2.2.1, Option.bind_some, bneIf, notIf]
  rfl

theorem laws_szGame_ok (a : T_Game.D) (l : Int) (h0 : 0 ≤ l) (h1 : l ≤ 1048576) (w : T_Game.wf a) : SzR (laws_szGame a l) l (okD T_Game a) := by
  unfold laws_szGame
  exact SzR.imp (SzR.bind (laws_szState_ok a.1 l h0 h1 w.1) fun m1 k1 j1 => SzR.bind (laws_szEffectS_ok a.2.1 m1 k1 (by omega) w.2.1) fun m2 k2 j2 => SzR.bind (laws_szIntS_ok a.2.2.1 m2 k2 (by omega) w.2.2.1) fun m3 k3 j3 => SzR.bind (laws_szTriggerS_ok a.2.2.2.1 m3 k3 (by omega) w.2.2.2.1) fun m4 k4 j4 => SzR.bind (laws_szNoteS_ok a.2.2.2.2.1 m4 k4 (by omega) w.2.2.2.2.1) fun m5 k5 j5 => SzR.bind (laws_szTurnS_ok a.2.2.2.2.2.1 m5 k5 (by omega) w.2.2.2.2.2.1) fun m6 k6 j6 => SzR.done k6) (fun h => ⟨h.1, h.2.1, h.2.2.1, h.2.2.2.1, h.2.2.2.2.1, h.2.2.2.2.2.1, trivial⟩)
theorem laws_toGame_ok (a : T_Game.D) (h : okD T_Game a) : laws_toGame a = some a := by
  unfold laws_toGame
  simp only [laws_toState_eq a.1 h.1.1.1 h.1.2.1.1, laws_toEffectS_ok a.2.1 h.2.1, laws_toIntS_eq a.2.2.1 h.2.2.1.1, laws_toTriggerS_eq a.2.2.2.1 h.2.2.2.1.1, laws_toNoteS_eq a.2.2.2.2.1 h.2.2.2.2.1.1, laws_toTurnS_ok a.2.2.2.2.2.1 h.2.2.2.2.2.1, Option.bind_some]
theorem laws_eqGame_ok (a b : T_Game.D) (h : okD T_Game a) : laws_eqGame a b = some (eqD T_Game a b) := by
  unfold laws_eqGame
  simp only [laws_eqState_eq a.1 b.1 h.1.1.1 h.1.2.1.1, laws_eqEffectS_ok a.2.1 b.2.1 h.2.1, laws_eqIntS_eq a.2.2.1 b.2.2.1 h.2.2.1.1, laws_eqTriggerS_eq a.2.2.2.1 b.2.2.2.1 h.2.2.2.1.1, laws_eqNoteS_eq a.2.2.2.2.1 b.2.2.2.2.1 h.2.2.2.2.1.1, laws_eqTurnS_ok a.2.2.2.2.2.1 b.2.2.2.2.2.1 h.2.2.2.2.2.1, Option.bind_some, bneIf, notIf]
  rfl


theorem spec_SameEffect_ok (a b : T_Effect.D) (h : okD T_Effect a) : spec_SameEffect a b = some (eqD T_Effect a b) := by
  have hl : a.2.2.2.2.2.2.1.2.2.2.2.2.2.1.length ≤ 1048576 := h.2.2.2.2.2.2.1.2.2.2.2.2.2.1.1
  have hE : eqD T_Effect a b = ((a.1 == b.1) && ((a.2.1 == b.2.1) && ((a.2.2.1 == b.2.2.1) && ((a.2.2.2.1 == b.2.2.2.1) && (((a.2.2.2.2.1.1 == b.2.2.2.2.1.1) && ((a.2.2.2.2.1.2.1 == b.2.2.2.2.1.2.1) && ((a.2.2.2.2.1.2.2.1 == b.2.2.2.2.1.2.2.1) && ((a.2.2.2.2.1.2.2.2.1 == b.2.2.2.2.1.2.2.2.1) && ((a.2.2.2.2.1.2.2.2.2.1 == b.2.2.2.2.1.2.2.2.2.1) && ((a.2.2.2.2.1.2.2.2.2.2.1 == b.2.2.2.2.1.2.2.2.2.2.1) && ((a.2.2.2.2.1.2.2.2.2.2.2.1 == b.2.2.2.2.1.2.2.2.2.2.2.1) && (true)))))))) && (((a.2.2.2.2.2.1.1 == b.2.2.2.2.2.1.1) && ((a.2.2.2.2.2.1.2.1 == b.2.2.2.2.2.1.2.1) && (true))) && (((a.2.2.2.2.2.2.1.1 == b.2.2.2.2.2.2.1.1) && ((a.2.2.2.2.2.2.1.2.1 == b.2.2.2.2.2.2.1.2.1) && ((a.2.2.2.2.2.2.1.2.2.1 == b.2.2.2.2.2.2.1.2.2.1) && ((a.2.2.2.2.2.2.1.2.2.2.1 == b.2.2.2.2.2.2.1.2.2.2.1) && ((a.2.2.2.2.2.2.1.2.2.2.2.1 == b.2.2.2.2.2.2.1.2.2.2.2.1) && ((a.2.2.2.2.2.2.1.2.2.2.2.2.1 == b.2.2.2.2.2.2.1.2.2.2.2.2.1) && (eqD (.slice T_Event) a.2.2.2.2.2.2.1.2.2.2.2.2.2.1 b.2.2.2.2.2.2.1.2.2.2.2.2.2.1 && (true)))))))) && ((a.2.2.2.2.2.2.2.1 == b.2.2.2.2.2.2.2.1) && ((a.2.2.2.2.2.2.2.2.1 == b.2.2.2.2.2.2.2.2.1) && (true)))))))))) := rfl
  unfold spec_SameEffect
  rw [hE]
  rcases eq_while (t := T_Event) rfl a.2.2.2.2.2.2.1.2.2.2.2.2.2.1 b.2.2.2.2.2.2.1.2.2.2.2.2.2.1 (e := eqD T_Event) (fun _ _ => rfl) (by omega) (body := spec_SameEffect_l1 a b) (fun i => rfl) with ⟨e1, e2⟩ | ⟨e1, ⟨i, e2, e3⟩ | ⟨e2, e3⟩⟩
  · simp only [e1, e2]
    simp only [bne]
    cases (a.1 == b.1)
    · first | rfl | simp
    cases (a.2.1 == b.2.1)
    · first | rfl | simp
    cases (a.2.2.1 == b.2.2.1)
    · first | rfl | simp
    cases (a.2.2.2.1 == b.2.2.2.1)
    · first | rfl | simp
    cases (a.2.2.2.2.1.1 == b.2.2.2.2.1.1)
    · first | rfl | simp
    cases (a.2.2.2.2.1.2.1 == b.2.2.2.2.1.2.1)
    · first | rfl | simp
    cases (a.2.2.2.2.1.2.2.1 == b.2.2.2.2.1.2.2.1)
    · first | rfl | simp
    cases (a.2.2.2.2.1.2.2.2.1 == b.2.2.2.2.1.2.2.2.1)
    · first | rfl | simp
    cases (a.2.2.2.2.1.2.2.2.2.1 == b.2.2.2.2.1.2.2.2.2.1)
    · first | rfl | simp
    cases (a.2.2.2.2.1.2.2.2.2.2.1 == b.2.2.2.2.1.2.2.2.2.2.1)
    · first | rfl | simp
    cases (a.2.2.2.2.1.2.2.2.2.2.2.1 == b.2.2.2.2.1.2.2.2.2.2.2.1)
    · first | rfl | simp
    cases (a.2.2.2.2.2.1.1 == b.2.2.2.2.2.1.1)
    · first | rfl | simp
    cases (a.2.2.2.2.2.1.2.1 == b.2.2.2.2.2.1.2.1)
    · first | rfl | simp
    cases (a.2.2.2.2.2.2.2.1 == b.2.2.2.2.2.2.2.1)
    · first | rfl | simp
    cases (a.2.2.2.2.2.2.2.2.1 == b.2.2.2.2.2.2.2.2.1)
    · first | rfl | simp
    cases (a.2.2.2.2.2.2.1.1 == b.2.2.2.2.2.2.1.1)
    · first | rfl | simp
    cases (a.2.2.2.2.2.2.1.2.1 == b.2.2.2.2.2.2.1.2.1)
    · first | rfl | simp
    cases (a.2.2.2.2.2.2.1.2.2.1 == b.2.2.2.2.2.2.1.2.2.1)
    · first | rfl | simp
    cases (a.2.2.2.2.2.2.1.2.2.2.1 == b.2.2.2.2.2.2.1.2.2.2.1)
    · first | rfl | simp
    cases (a.2.2.2.2.2.2.1.2.2.2.2.1 == b.2.2.2.2.2.2.1.2.2.2.2.1)
    · first | rfl | simp
    cases (a.2.2.2.2.2.2.1.2.2.2.2.2.1 == b.2.2.2.2.2.2.1.2.2.2.2.2.1)
    · first | rfl | simp
    first | rfl | simp
  · simp only [e1, e2, e3]
    simp only [bne, Option.bind_some]
    cases (a.1 == b.1)
    · first | rfl | simp
    cases (a.2.1 == b.2.1)
    · first | rfl | simp
    cases (a.2.2.1 == b.2.2.1)
    · first | rfl | simp
    cases (a.2.2.2.1 == b.2.2.2.1)
    · first | rfl | simp
    cases (a.2.2.2.2.1.1 == b.2.2.2.2.1.1)
    · first | rfl | simp
    cases (a.2.2.2.2.1.2.1 == b.2.2.2.2.1.2.1)
    · first | rfl | simp
    cases (a.2.2.2.2.1.2.2.1 == b.2.2.2.2.1.2.2.1)
    · first | rfl | simp
    cases (a.2.2.2.2.1.2.2.2.1 == b.2.2.2.2.1.2.2.2.1)
    · first | rfl | simp
    cases (a.2.2.2.2.1.2.2.2.2.1 == b.2.2.2.2.1.2.2.2.2.1)
    · first | rfl | simp
    cases (a.2.2.2.2.1.2.2.2.2.2.1 == b.2.2.2.2.1.2.2.2.2.2.1)
    · first | rfl | simp
    cases (a.2.2.2.2.1.2.2.2.2.2.2.1 == b.2.2.2.2.1.2.2.2.2.2.2.1)
    · first | rfl | simp
    cases (a.2.2.2.2.2.1.1 == b.2.2.2.2.2.1.1)
    · first | rfl | simp
    cases (a.2.2.2.2.2.1.2.1 == b.2.2.2.2.2.1.2.1)
    · first | rfl | simp
    cases (a.2.2.2.2.2.2.2.1 == b.2.2.2.2.2.2.2.1)
    · first | rfl | simp
    cases (a.2.2.2.2.2.2.2.2.1 == b.2.2.2.2.2.2.2.2.1)
    · first | rfl | simp
    cases (a.2.2.2.2.2.2.1.1 == b.2.2.2.2.2.2.1.1)
    · first | rfl | simp
    cases (a.2.2.2.2.2.2.1.2.1 == b.2.2.2.2.2.2.1.2.1)
    · first | rfl | simp
    cases (a.2.2.2.2.2.2.1.2.2.1 == b.2.2.2.2.2.2.1.2.2.1)
    · first | rfl | simp
    cases (a.2.2.2.2.2.2.1.2.2.2.1 == b.2.2.2.2.2.2.1.2.2.2.1)
    · first | rfl | simp
    cases (a.2.2.2.2.2.2.1.2.2.2.2.1 == b.2.2.2.2.2.2.1.2.2.2.2.1)
    · first | rfl | simp
    cases (a.2.2.2.2.2.2.1.2.2.2.2.2.1 == b.2.2.2.2.2.2.1.2.2.2.2.2.1)
    · first | rfl | simp
    first | rfl | simp
  · simp only [e1, e2, e3]
    simp only [bne, Option.bind_some]
    cases (a.1 == b.1)
    · first | rfl | simp
    cases (a.2.1 == b.2.1)
    · first | rfl | simp
    cases (a.2.2.1 == b.2.2.1)
    · first | rfl | simp
    cases (a.2.2.2.1 == b.2.2.2.1)
    · first | rfl | simp
    cases (a.2.2.2.2.1.1 == b.2.2.2.2.1.1)
    · first | rfl | simp
    cases (a.2.2.2.2.1.2.1 == b.2.2.2.2.1.2.1)
    · first | rfl | simp
    cases (a.2.2.2.2.1.2.2.1 == b.2.2.2.2.1.2.2.1)
    · first | rfl | simp
    cases (a.2.2.2.2.1.2.2.2.1 == b.2.2.2.2.1.2.2.2.1)
    · first | rfl | simp
    cases (a.2.2.2.2.1.2.2.2.2.1 == b.2.2.2.2.1.2.2.2.2.1)
    · first | rfl | simp
    cases (a.2.2.2.2.1.2.2.2.2.2.1 == b.2.2.2.2.1.2.2.2.2.2.1)
    · first | rfl | simp
    cases (a.2.2.2.2.1.2.2.2.2.2.2.1 == b.2.2.2.2.1.2.2.2.2.2.2.1)
    · first | rfl | simp
    cases (a.2.2.2.2.2.1.1 == b.2.2.2.2.2.1.1)
    · first | rfl | simp
    cases (a.2.2.2.2.2.1.2.1 == b.2.2.2.2.2.1.2.1)
    · first | rfl | simp
    cases (a.2.2.2.2.2.2.2.1 == b.2.2.2.2.2.2.2.1)
    · first | rfl | simp
    cases (a.2.2.2.2.2.2.2.2.1 == b.2.2.2.2.2.2.2.2.1)
    · first | rfl | simp
    cases (a.2.2.2.2.2.2.1.1 == b.2.2.2.2.2.2.1.1)
    · first | rfl | simp
    cases (a.2.2.2.2.2.2.1.2.1 == b.2.2.2.2.2.2.1.2.1)
    · first | rfl | simp
    cases (a.2.2.2.2.2.2.1.2.2.1 == b.2.2.2.2.2.2.1.2.2.1)
    · first | rfl | simp
    cases (a.2.2.2.2.2.2.1.2.2.2.1 == b.2.2.2.2.2.2.1.2.2.2.1)
    · first | rfl | simp
    cases (a.2.2.2.2.2.2.1.2.2.2.2.1 == b.2.2.2.2.2.2.1.2.2.2.2.1)
    · first | rfl | simp
    cases (a.2.2.2.2.2.2.1.2.2.2.2.2.1 == b.2.2.2.2.2.2.1.2.2.2.2.2.1)
    · first | rfl | simp
    first | rfl | simp

theorem spec_SameTurn_ok (a b : T_Turn.D) (h : okD T_Turn a) : spec_SameTurn a b = some (eqD T_Turn a b) := by
  have hl : a.2.2.2.2.2.1.length ≤ 1048576 := h.2.2.2.2.2.1.1
  have hE : eqD T_Turn a b = ((a.1 == b.1) && ((a.2.1 == b.2.1) && ((a.2.2.1 == b.2.2.1) && ((a.2.2.2.1 == b.2.2.2.1) && (((a.2.2.2.2.1.1 == b.2.2.2.2.1.1) && ((a.2.2.2.2.1.2.1 == b.2.2.2.2.1.2.1) && ((a.2.2.2.2.1.2.2.1 == b.2.2.2.2.1.2.2.1) && ((a.2.2.2.2.1.2.2.2.1 == b.2.2.2.2.1.2.2.2.1) && ((a.2.2.2.2.1.2.2.2.2.1 == b.2.2.2.2.1.2.2.2.2.1) && ((a.2.2.2.2.1.2.2.2.2.2.1 == b.2.2.2.2.1.2.2.2.2.2.1) && ((a.2.2.2.2.1.2.2.2.2.2.2.1 == b.2.2.2.2.1.2.2.2.2.2.2.1) && (true)))))))) && (eqD (.slice T_Event) a.2.2.2.2.2.1 b.2.2.2.2.2.1 && ((a.2.2.2.2.2.2.1 == b.2.2.2.2.2.2.1) && ((a.2.2.2.2.2.2.2.1 == b.2.2.2.2.2.2.2.1) && (true))))))))) := rfl
  unfold spec_SameTurn
  rw [hE]
  rcases eq_while (t := T_Event) rfl a.2.2.2.2.2.1 b.2.2.2.2.2.1 (e := eqD T_Event) (fun _ _ => rfl) (by omega) (body := spec_SameTurn_l1 a b) (fun i => rfl) with ⟨e1, e2⟩ | ⟨e1, ⟨i, e2, e3⟩ | ⟨e2, e3⟩⟩
  · simp only [e1, e2]
    simp only [bne]
    cases (a.1 == b.1)
    · first | rfl | simp
    cases (a.2.1 == b.2.1)
    · first | rfl | simp
    cases (a.2.2.1 == b.2.2.1)
    · first | rfl | simp
    cases (a.2.2.2.1 == b.2.2.2.1)
    · first | rfl | simp
    cases (a.2.2.2.2.1.1 == b.2.2.2.2.1.1)
    · first | rfl | simp
    cases (a.2.2.2.2.1.2.1 == b.2.2.2.2.1.2.1)
    · first | rfl | simp
    cases (a.2.2.2.2.1.2.2.1 == b.2.2.2.2.1.2.2.1)
    · first | rfl | simp
    cases (a.2.2.2.2.1.2.2.2.1 == b.2.2.2.2.1.2.2.2.1)
    · first | rfl | simp
    cases (a.2.2.2.2.1.2.2.2.2.1 == b.2.2.2.2.1.2.2.2.2.1)
    · first | rfl | simp
    cases (a.2.2.2.2.1.2.2.2.2.2.1 == b.2.2.2.2.1.2.2.2.2.2.1)
    · first | rfl | simp
    cases (a.2.2.2.2.1.2.2.2.2.2.2.1 == b.2.2.2.2.1.2.2.2.2.2.2.1)
    · first | rfl | simp
    cases (a.2.2.2.2.2.2.1 == b.2.2.2.2.2.2.1)
    · first | rfl | simp
    cases (a.2.2.2.2.2.2.2.1 == b.2.2.2.2.2.2.2.1)
    · first | rfl | simp
    first | rfl | simp
  · simp only [e1, e2, e3]
    simp only [bne, Option.bind_some]
    cases (a.1 == b.1)
    · first | rfl | simp
    cases (a.2.1 == b.2.1)
    · first | rfl | simp
    cases (a.2.2.1 == b.2.2.1)
    · first | rfl | simp
    cases (a.2.2.2.1 == b.2.2.2.1)
    · first | rfl | simp
    cases (a.2.2.2.2.1.1 == b.2.2.2.2.1.1)
    · first | rfl | simp
    cases (a.2.2.2.2.1.2.1 == b.2.2.2.2.1.2.1)
    · first | rfl | simp
    cases (a.2.2.2.2.1.2.2.1 == b.2.2.2.2.1.2.2.1)
    · first | rfl | simp
    cases (a.2.2.2.2.1.2.2.2.1 == b.2.2.2.2.1.2.2.2.1)
    · first | rfl | simp
    cases (a.2.2.2.2.1.2.2.2.2.1 == b.2.2.2.2.1.2.2.2.2.1)
    · first | rfl | simp
    cases (a.2.2.2.2.1.2.2.2.2.2.1 == b.2.2.2.2.1.2.2.2.2.2.1)
    · first | rfl | simp
    cases (a.2.2.2.2.1.2.2.2.2.2.2.1 == b.2.2.2.2.1.2.2.2.2.2.2.1)
    · first | rfl | simp
    cases (a.2.2.2.2.2.2.1 == b.2.2.2.2.2.2.1)
    · first | rfl | simp
    cases (a.2.2.2.2.2.2.2.1 == b.2.2.2.2.2.2.2.1)
    · first | rfl | simp
    first | rfl | simp
  · simp only [e1, e2, e3]
    simp only [bne, Option.bind_some]
    cases (a.1 == b.1)
    · first | rfl | simp
    cases (a.2.1 == b.2.1)
    · first | rfl | simp
    cases (a.2.2.1 == b.2.2.1)
    · first | rfl | simp
    cases (a.2.2.2.1 == b.2.2.2.1)
    · first | rfl | simp
    cases (a.2.2.2.2.1.1 == b.2.2.2.2.1.1)
    · first | rfl | simp
    cases (a.2.2.2.2.1.2.1 == b.2.2.2.2.1.2.1)
    · first | rfl | simp
    cases (a.2.2.2.2.1.2.2.1 == b.2.2.2.2.1.2.2.1)
    · first | rfl | simp
    cases (a.2.2.2.2.1.2.2.2.1 == b.2.2.2.2.1.2.2.2.1)
    · first | rfl | simp
    cases (a.2.2.2.2.1.2.2.2.2.1 == b.2.2.2.2.1.2.2.2.2.1)
    · first | rfl | simp
    cases (a.2.2.2.2.1.2.2.2.2.2.1 == b.2.2.2.2.1.2.2.2.2.2.1)
    · first | rfl | simp
    cases (a.2.2.2.2.1.2.2.2.2.2.2.1 == b.2.2.2.2.1.2.2.2.2.2.2.1)
    · first | rfl | simp
    cases (a.2.2.2.2.2.2.1 == b.2.2.2.2.2.2.1)
    · first | rfl | simp
    cases (a.2.2.2.2.2.2.2.1 == b.2.2.2.2.2.2.2.1)
    · first | rfl | simp
    first | rfl | simp

theorem spec_SameEvents_eq (a b : List T_Event.D) (h : a.length ≤ 1048576) : spec_SameEvents a b = some (eqD (.slice T_Event) a b) := by
  unfold spec_SameEvents
  exact eq_lists (t := T_Event) rfl a b (e := eqD T_Event) (fun _ _ => rfl) (by omega) (fun i => rfl)
theorem equal_Event (a b : List T_Event.D) (h : a.length ≤ 1048576) : slices_Equal_impl_Event a b = some (eqD (.slice T_Event) a b) :=
  eq_lists (t := T_Event) rfl a b (e := eqD T_Event) (fun _ _ => rfl) (by omega) (fun i => rfl)
theorem impl_SameEvents_eq (a b : List T_Event.D) (h : a.length ≤ 1048576) : impl_SameEvents a b = some (eqD (.slice T_Event) a b) := by
  unfold impl_SameEvents
  rw [equal_Event a b h]
  rfl
theorem impl_SameEffect_ok (a b : T_Effect.D) (h : okD T_Effect a) : impl_SameEffect a b = some (eqD T_Effect a b) := by
  have hl : a.2.2.2.2.2.2.1.2.2.2.2.2.2.1.length ≤ 1048576 := h.2.2.2.2.2.2.1.2.2.2.2.2.2.1.1
  have hE : eqD T_Effect a b = ((a.1 == b.1) && ((a.2.1 == b.2.1) && ((a.2.2.1 == b.2.2.1) && ((a.2.2.2.1 == b.2.2.2.1) && (((a.2.2.2.2.1.1 == b.2.2.2.2.1.1) && ((a.2.2.2.2.1.2.1 == b.2.2.2.2.1.2.1) && ((a.2.2.2.2.1.2.2.1 == b.2.2.2.2.1.2.2.1) && ((a.2.2.2.2.1.2.2.2.1 == b.2.2.2.2.1.2.2.2.1) && ((a.2.2.2.2.1.2.2.2.2.1 == b.2.2.2.2.1.2.2.2.2.1) && ((a.2.2.2.2.1.2.2.2.2.2.1 == b.2.2.2.2.1.2.2.2.2.2.1) && ((a.2.2.2.2.1.2.2.2.2.2.2.1 == b.2.2.2.2.1.2.2.2.2.2.2.1) && (true)))))))) && (((a.2.2.2.2.2.1.1 == b.2.2.2.2.2.1.1) && ((a.2.2.2.2.2.1.2.1 == b.2.2.2.2.2.1.2.1) && (true))) && (((a.2.2.2.2.2.2.1.1 == b.2.2.2.2.2.2.1.1) && ((a.2.2.2.2.2.2.1.2.1 == b.2.2.2.2.2.2.1.2.1) && ((a.2.2.2.2.2.2.1.2.2.1 == b.2.2.2.2.2.2.1.2.2.1) && ((a.2.2.2.2.2.2.1.2.2.2.1 == b.2.2.2.2.2.2.1.2.2.2.1) && ((a.2.2.2.2.2.2.1.2.2.2.2.1 == b.2.2.2.2.2.2.1.2.2.2.2.1) && ((a.2.2.2.2.2.2.1.2.2.2.2.2.1 == b.2.2.2.2.2.2.1.2.2.2.2.2.1) && (eqD (.slice T_Event) a.2.2.2.2.2.2.1.2.2.2.2.2.2.1 b.2.2.2.2.2.2.1.2.2.2.2.2.2.1 && (true)))))))) && ((a.2.2.2.2.2.2.2.1 == b.2.2.2.2.2.2.2.1) && ((a.2.2.2.2.2.2.2.2.1 == b.2.2.2.2.2.2.2.2.1) && (true)))))))))) := rfl
  unfold impl_SameEffect
  rw [hE]
  unfold impl_sameAct
  simp only [equal_Event _ _ hl, Option.bind_some]
  cases (a.1 == b.1)
  · first | rfl | simp
  cases (a.2.1 == b.2.1)
  · first | rfl | simp
  cases (a.2.2.1 == b.2.2.1)
  · first | rfl | simp
  cases (a.2.2.2.1 == b.2.2.2.1)
  · first | rfl | simp
  cases (a.2.2.2.2.1.1 == b.2.2.2.2.1.1)
  · first | rfl | simp
  cases (a.2.2.2.2.1.2.1 == b.2.2.2.2.1.2.1)
  · first | rfl | simp
  cases (a.2.2.2.2.1.2.2.1 == b.2.2.2.2.1.2.2.1)
  · first | rfl | simp
  cases (a.2.2.2.2.1.2.2.2.1 == b.2.2.2.2.1.2.2.2.1)
  · first | rfl | simp
  cases (a.2.2.2.2.1.2.2.2.2.1 == b.2.2.2.2.1.2.2.2.2.1)
  · first | rfl | simp
  cases (a.2.2.2.2.1.2.2.2.2.2.1 == b.2.2.2.2.1.2.2.2.2.2.1)
  · first | rfl | simp
  cases (a.2.2.2.2.1.2.2.2.2.2.2.1 == b.2.2.2.2.1.2.2.2.2.2.2.1)
  · first | rfl | simp
  cases (a.2.2.2.2.2.1.1 == b.2.2.2.2.2.1.1)
  · first | rfl | simp
  cases (a.2.2.2.2.2.1.2.1 == b.2.2.2.2.2.1.2.1)
  · first | rfl | simp
  cases (a.2.2.2.2.2.2.1.1 == b.2.2.2.2.2.2.1.1)
  · first | rfl | simp
  cases (a.2.2.2.2.2.2.1.2.1 == b.2.2.2.2.2.2.1.2.1)
  · first | rfl | simp
  cases (a.2.2.2.2.2.2.1.2.2.1 == b.2.2.2.2.2.2.1.2.2.1)
  · first | rfl | simp
  cases (a.2.2.2.2.2.2.1.2.2.2.1 == b.2.2.2.2.2.2.1.2.2.2.1)
  · first | rfl | simp
  cases (a.2.2.2.2.2.2.1.2.2.2.2.1 == b.2.2.2.2.2.2.1.2.2.2.2.1)
  · first | rfl | simp
  cases (a.2.2.2.2.2.2.1.2.2.2.2.2.1 == b.2.2.2.2.2.2.1.2.2.2.2.2.1)
  · first | rfl | simp
  cases eqD (.slice T_Event) a.2.2.2.2.2.2.1.2.2.2.2.2.2.1 b.2.2.2.2.2.2.1.2.2.2.2.2.2.1
  · first | rfl | simp
  cases (a.2.2.2.2.2.2.2.1 == b.2.2.2.2.2.2.2.1)
  · first | rfl | simp
  cases (a.2.2.2.2.2.2.2.2.1 == b.2.2.2.2.2.2.2.2.1)
  · first | rfl | simp
  rfl

theorem impl_SameTurn_ok (a b : T_Turn.D) (h : okD T_Turn a) : impl_SameTurn a b = some (eqD T_Turn a b) := by
  have hl : a.2.2.2.2.2.1.length ≤ 1048576 := h.2.2.2.2.2.1.1
  have hE : eqD T_Turn a b = ((a.1 == b.1) && ((a.2.1 == b.2.1) && ((a.2.2.1 == b.2.2.1) && ((a.2.2.2.1 == b.2.2.2.1) && (((a.2.2.2.2.1.1 == b.2.2.2.2.1.1) && ((a.2.2.2.2.1.2.1 == b.2.2.2.2.1.2.1) && ((a.2.2.2.2.1.2.2.1 == b.2.2.2.2.1.2.2.1) && ((a.2.2.2.2.1.2.2.2.1 == b.2.2.2.2.1.2.2.2.1) && ((a.2.2.2.2.1.2.2.2.2.1 == b.2.2.2.2.1.2.2.2.2.1) && ((a.2.2.2.2.1.2.2.2.2.2.1 == b.2.2.2.2.1.2.2.2.2.2.1) && ((a.2.2.2.2.1.2.2.2.2.2.2.1 == b.2.2.2.2.1.2.2.2.2.2.2.1) && (true)))))))) && (eqD (.slice T_Event) a.2.2.2.2.2.1 b.2.2.2.2.2.1 && ((a.2.2.2.2.2.2.1 == b.2.2.2.2.2.2.1) && ((a.2.2.2.2.2.2.2.1 == b.2.2.2.2.2.2.2.1) && (true))))))))) := rfl
  unfold impl_SameTurn
  rw [hE]
  simp only [equal_Event _ _ hl, Option.bind_some]
  cases (a.1 == b.1)
  · first | rfl | simp
  cases (a.2.1 == b.2.1)
  · first | rfl | simp
  cases (a.2.2.1 == b.2.2.1)
  · first | rfl | simp
  cases (a.2.2.2.1 == b.2.2.2.1)
  · first | rfl | simp
  cases (a.2.2.2.2.1.1 == b.2.2.2.2.1.1)
  · first | rfl | simp
  cases (a.2.2.2.2.1.2.1 == b.2.2.2.2.1.2.1)
  · first | rfl | simp
  cases (a.2.2.2.2.1.2.2.1 == b.2.2.2.2.1.2.2.1)
  · first | rfl | simp
  cases (a.2.2.2.2.1.2.2.2.1 == b.2.2.2.2.1.2.2.2.1)
  · first | rfl | simp
  cases (a.2.2.2.2.1.2.2.2.2.1 == b.2.2.2.2.1.2.2.2.2.1)
  · first | rfl | simp
  cases (a.2.2.2.2.1.2.2.2.2.2.1 == b.2.2.2.2.1.2.2.2.2.2.1)
  · first | rfl | simp
  cases (a.2.2.2.2.1.2.2.2.2.2.2.1 == b.2.2.2.2.1.2.2.2.2.2.2.1)
  · first | rfl | simp
  cases eqD (.slice T_Event) a.2.2.2.2.2.1 b.2.2.2.2.2.1
  · first | rfl | simp
  cases (a.2.2.2.2.2.2.1 == b.2.2.2.2.2.2.1)
  · first | rfl | simp
  cases (a.2.2.2.2.2.2.2.1 == b.2.2.2.2.2.2.2.1)
  · first | rfl | simp
  rfl

theorem spec_SameTable_ok (a b : List T_Effect.D) (h : okD (.slice T_Effect) a) : spec_SameTable a b = some (eqD (.slice T_Effect) a b) := by
  have hl : a.length ≤ 1048576 := h.1
  unfold spec_SameTable
  exact eq_lists2 (t := T_Effect) rfl a b (e := spec_SameEffect) (fun x hx y => spec_SameEffect_ok x y (h.2 x hx)) (by omega) (fun _ => rfl)
theorem impl_SameTable_ok (a b : List T_Effect.D) (h : okD (.slice T_Effect) a) : impl_SameTable a b = some (eqD (.slice T_Effect) a b) := by
  have hl : a.length ≤ 1048576 := h.1
  unfold impl_SameTable
  rw [show slices_EqualFunc_impl_Effect a b (fun q => impl_SameEffect q.1 q.2.1) = some (eqD (.slice T_Effect) a b) from
    eq_lists2 (t := T_Effect) rfl a b (e := impl_SameEffect) (fun x hx y => impl_SameEffect_ok x y (h.2 x hx)) (by omega) (fun _ => rfl)]
  rfl
theorem spec_SameTurns_ok (a b : List T_Turn.D) (h : okD (.slice T_Turn) a) : spec_l15SameTurns a b = some (eqD (.slice T_Turn) a b) := by
  have hl : a.length ≤ 1048576 := h.1
  unfold spec_l15SameTurns
  exact eq_lists2 (t := T_Turn) rfl a b (e := spec_SameTurn) (fun x hx y => spec_SameTurn_ok x y (h.2 x hx)) (by omega) (fun _ => rfl)
theorem impl_SameTurns_ok (a b : List T_Turn.D) (h : okD (.slice T_Turn) a) : slices_EqualFunc_impl_Turn a b (fun q => impl_SameTurn q.1 q.2.1) = some (eqD (.slice T_Turn) a b) := by
  have hl : a.length ≤ 1048576 := h.1
  exact eq_lists2 (t := T_Turn) rfl a b (e := impl_SameTurn) (fun x hx y => impl_SameTurn_ok x y (h.2 x hx)) (by omega) (fun _ => rfl)
theorem spec_SameInts_eq (a b : List Int) (h : a.length ≤ 1048576) : spec_l15SameInts a b = some (eqD (.slice (.int .i64)) a b) := by
  unfold spec_l15SameInts
  exact eq_lists (t := .int .i64) rfl a b (e := fun (x y : Int) => x == y) (fun _ _ => rfl) (by omega) (fun i => rfl)
theorem equal_int (a b : List Int) (h : a.length ≤ 1048576) : slices_Equal_int a b = some (eqD (.slice (.int .i64)) a b) :=
  eq_lists (t := .int .i64) rfl a b (e := fun (x y : Int) => x == y) (fun _ _ => rfl) (by omega) (fun i => rfl)
theorem spec_SameTriggers_eq (a b : List T_Trigger.D) (h : a.length ≤ 1048576) : spec_SameTriggers a b = some (eqD (.slice T_Trigger) a b) := by
  unfold spec_SameTriggers
  exact eq_lists (t := T_Trigger) rfl a b (e := eqD T_Trigger) (fun _ _ => rfl) (by omega) (fun i => rfl)
theorem impl_SameTriggers_eq (a b : List T_Trigger.D) (h : a.length ≤ 1048576) : impl_SameTriggers a b = some (eqD (.slice T_Trigger) a b) := by
  unfold impl_SameTriggers
  rw [show slices_Equal_impl_Trigger a b = some (eqD (.slice T_Trigger) a b) from eq_lists (t := T_Trigger) rfl a b (e := eqD T_Trigger) (fun _ _ => rfl) (by omega) (fun i => rfl)]
  rfl
theorem spec_SameNotes_eq (a b : List T_Note.D) (h : a.length ≤ 1048576) : spec_SameNotes a b = some (eqD (.slice T_Note) a b) := by
  unfold spec_SameNotes
  exact eq_lists (t := T_Note) rfl a b (e := eqD T_Note) (fun _ _ => rfl) (by omega) (fun i => rfl)
theorem impl_SameNotes_eq (a b : List T_Note.D) (h : a.length ≤ 1048576) : impl_SameNotes a b = some (eqD (.slice T_Note) a b) := by
  unfold impl_SameNotes
  rw [show slices_Equal_impl_Note a b = some (eqD (.slice T_Note) a b) from eq_lists (t := T_Note) rfl a b (e := eqD T_Note) (fun _ _ => rfl) (by omega) (fun i => rfl)]
  rfl
theorem bif_and (b c : Bool) : (bif b then some c else some false) = some (b && c) := by cases b <;> rfl
theorem impl_SameState_eq (a b : T_State.D) (hp : a.1.length ≤ 1048576) (hs : a.2.1.length ≤ 1048576) : impl_SameState a b = some (eqD T_State a b) := by
  have hE : eqD T_State a b = (eqD (.slice T_Piece) a.1 b.1 && (eqD (.slice T_Side) a.2.1 b.2.1 && ((a.2.2.1 == b.2.2.1) && ((a.2.2.2.1 == b.2.2.2.1) && true)))) := rfl
  unfold impl_SameState
  rw [hE, show slices_Equal_impl_Piece a.1 b.1 = some (eqD (.slice T_Piece) a.1 b.1) from eq_lists (t := T_Piece) rfl a.1 b.1 (e := eqD T_Piece) (fun _ _ => rfl) (by omega) (fun i => rfl),
    show slices_Equal_impl_Side a.2.1 b.2.1 = some (eqD (.slice T_Side) a.2.1 b.2.1) from eq_lists (t := T_Side) rfl a.2.1 b.2.1 (e := eqD T_Side) (fun _ _ => rfl) (by omega) (fun i => rfl)]
  simp only [Option.bind_some, bif_and]
  cases eqD (.slice T_Piece) a.1 b.1 <;> cases eqD (.slice T_Side) a.2.1 b.2.1 <;> cases (a.2.2.1 == b.2.2.1) <;> cases (a.2.2.2.1 == b.2.2.2.1) <;> rfl
theorem spec_SameState_eq (a b : T_State.D) (hp : a.1.length ≤ 1048576) (hs : a.2.1.length ≤ 1048576) : spec_SameState a b = some (eqD T_State a b) := by
  have hE : eqD T_State a b = (eqD (.slice T_Piece) a.1 b.1 && (eqD (.slice T_Side) a.2.1 b.2.1 && ((a.2.2.1 == b.2.2.1) && ((a.2.2.2.1 == b.2.2.2.1) && true)))) := rfl
  unfold spec_SameState
  rw [hE]
  rcases eq_while (t := T_Piece) rfl a.1 b.1 (e := eqD T_Piece) (fun _ _ => rfl) (by omega) (body := spec_SameState_l1 a b) (fun i => rfl) with ⟨e1, e2⟩ | ⟨e1, ⟨i, e2, e3⟩ | ⟨e2, e3⟩⟩ <;>
  rcases eq_while (t := T_Side) rfl a.2.1 b.2.1 (e := eqD T_Side) (fun _ _ => rfl) (by omega) (body := spec_SameState_l2 a b) (fun i => rfl) with ⟨f1, f2⟩ | ⟨f1, ⟨j, f2, f3⟩ | ⟨f2, f3⟩⟩ <;>
  simp only [*] <;> simp only [bne, Option.bind_some] <;>
  cases (a.2.2.1 == b.2.2.1) <;> cases (a.2.2.2.1 == b.2.2.2.1) <;> first | rfl | simp
theorem spec_SameFate_ok (a b : T_Fate.D) (h : okD T_Fate a) : spec_SameFate a b = some (eqD T_Fate a b) := by
  have hE : eqD T_Fate a b = (eqD (.slice T_Event) a.1 b.1 && (eqD (.slice T_Effect) a.2.1 b.2.1 && (eqD (.slice (.int .i64)) a.2.2.1 b.2.2.1 && (eqD (.slice T_Turn) a.2.2.2.1 b.2.2.2.1 && true)))) := rfl
  unfold spec_SameFate
  rw [hE]
  simp only [spec_SameEvents_eq _ _ h.1.1, spec_SameTable_ok _ _ h.2.1, spec_SameInts_eq _ _ h.2.2.1.1, spec_SameTurns_ok _ _ h.2.2.2.1, Option.bind_some, bif_and, Bool.and_true]
theorem impl_SameFate_ok (a b : T_Fate.D) (h : okD T_Fate a) : impl_SameFate a b = some (eqD T_Fate a b) := by
  have hE : eqD T_Fate a b = (eqD (.slice T_Event) a.1 b.1 && (eqD (.slice T_Effect) a.2.1 b.2.1 && (eqD (.slice (.int .i64)) a.2.2.1 b.2.2.1 && (eqD (.slice T_Turn) a.2.2.2.1 b.2.2.2.1 && true)))) := rfl
  unfold impl_SameFate
  rw [hE]
  simp only [impl_SameEvents_eq _ _ h.1.1, impl_SameTable_ok _ _ h.2.1, equal_int _ _ h.2.2.1.1, impl_SameTurns_ok _ _ h.2.2.2.1, Option.bind_some, bif_and, Bool.and_true]
theorem spec_SameGame_ok (a b : T_Game.D) (h : okD T_Game a) : spec_SameGame a b = some (eqD T_Game a b) := by
  have hE : eqD T_Game a b = (eqD T_State a.1 b.1 && (eqD (.slice T_Effect) a.2.1 b.2.1 && (eqD (.slice (.int .i64)) a.2.2.1 b.2.2.1 && (eqD (.slice T_Trigger) a.2.2.2.1 b.2.2.2.1 && (eqD (.slice T_Note) a.2.2.2.2.1 b.2.2.2.2.1 && (eqD (.slice T_Turn) a.2.2.2.2.2.1 b.2.2.2.2.2.1 && true)))))) := rfl
  unfold spec_SameGame
  rw [hE]
  simp only [spec_SameState_eq _ _ h.1.1.1 h.1.2.1.1, spec_SameTable_ok _ _ h.2.1, spec_SameInts_eq _ _ h.2.2.1.1, spec_SameTriggers_eq _ _ h.2.2.2.1.1, spec_SameNotes_eq _ _ h.2.2.2.2.1.1, spec_SameTurns_ok _ _ h.2.2.2.2.2.1, Option.bind_some, bif_and, Bool.and_true]
theorem impl_SameGame_ok (a b : T_Game.D) (h : okD T_Game a) : impl_SameGame a b = some (eqD T_Game a b) := by
  have hE : eqD T_Game a b = (eqD T_State a.1 b.1 && (eqD (.slice T_Effect) a.2.1 b.2.1 && (eqD (.slice (.int .i64)) a.2.2.1 b.2.2.1 && (eqD (.slice T_Trigger) a.2.2.2.1 b.2.2.2.1 && (eqD (.slice T_Note) a.2.2.2.2.1 b.2.2.2.2.1 && (eqD (.slice T_Turn) a.2.2.2.2.2.1 b.2.2.2.2.2.1 && true)))))) := rfl
  unfold impl_SameGame
  rw [hE]
  simp only [impl_SameState_eq _ _ h.1.1.1 h.1.2.1.1, impl_SameTable_ok _ _ h.2.1, equal_int _ _ h.2.2.1.1, impl_SameTriggers_eq _ _ h.2.2.2.1.1, impl_SameNotes_eq _ _ h.2.2.2.2.1.1, impl_SameTurns_ok _ _ h.2.2.2.2.2.1, Option.bind_some, bif_and, Bool.and_true]
/-! ### Chain -/
def chainStep (s : Int) (_ : Nat) (x : T_Turn.D) : Int := if (IntKind.wrap .i64 (x.2.2.2.2.2.2.2.1 + 1)) > s then (IntKind.wrap .i64 (x.2.2.2.2.2.2.2.1 + 1)) else s
theorem lit_range {n : Int} (h : (Lit.int .i64 n).wf = true) : -9223372036854775808 ≤ n ∧ n ≤ 9223372036854775807 := by
  have e1 : IntKind.min .i64 = -9223372036854775808 := by decide
  have e2 : IntKind.max .i64 = 9223372036854775807 := by decide
  unfold Lit.wf at h
  rw [Bool.and_eq_true, decide_eq_true_eq, decide_eq_true_eq, e1, e2] at h
  exact h
theorem wrap_max : IntKind.wrap .i64 (9223372036854775807 + 1) = -9223372036854775808 := by decide
theorem chain_step (s d : Int) (hI : 0 ≤ s) (h1 : -9223372036854775808 ≤ d) (h2 : d ≤ 9223372036854775807) :
    (decide (d ≥ s) && decide (IntKind.wrap .i64 (d + 1) > 0)) = decide (IntKind.wrap .i64 (d + 1) > s) ∧ 0 ≤ (if IntKind.wrap .i64 (d + 1) > s then IntKind.wrap .i64 (d + 1) else s) := by
  by_cases hd : d = 9223372036854775807
  · subst hd
    rw [wrap_max]
    rw [if_neg (by omega), decide_eq_false (p := (-9223372036854775808 : Int) > 0) (by decide), decide_eq_false (p := (-9223372036854775808 : Int) > s) (by omega), Bool.and_false]
    exact ⟨rfl, hI⟩
  · rw [wrap_id (n := d + 1) (by omega) (by omega)]
    by_cases hs : d ≥ s
    · rw [if_pos (by omega), decide_eq_true hs, decide_eq_true (p := d + 1 > 0) (by omega), decide_eq_true (p := d + 1 > s) (by omega)]
      exact ⟨rfl, by omega⟩
    · rw [if_neg (by omega), decide_eq_false hs, decide_eq_false (p := d + 1 > s) (by omega)]
      exact ⟨rfl, hI⟩
theorem chain_eq (f : T_Fate.D) (h : f.2.2.2.1.length ≤ 1048576) (w : ∀ x ∈ f.2.2.2.1, T_Turn.wf x) : ∃ m, spec_Chain f = some m ∧ impl_Chain f = some m := by
  refine ⟨foldIx chainStep 0 f.2.2.2.1 0, ?_, ?_⟩
  · unfold spec_Chain
    rw [(fold_loop f.2.2.2.1 chainStep (fun _ s => 0 ≤ s) (fun s => s) 0 (Int.le_refl _) (by omega) (fun s i x hI hx => ?_) (fun s _ => ?_)).1]
    · rfl
    · have hlt := (List.getElem?_eq_some_iff.1 hx).1
      have hil : ((i : Int) < (f.2.2.2.1.length : Int)) := by omega
      have hr := lit_range (w x (List.mem_of_getElem? hx)).2.2.2.2.2.2.2.1
      obtain ⟨c1, c2⟩ := chain_step s x.2.2.2.2.2.2.2.1 hI hr.1 hr.2
      refine ⟨?_, c2⟩
      unfold spec_Chain_l1 chainStep
      simp only [hil, decide_true, cond_true, idx_at hx]
      by_cases hs : (IntKind.wrap .i64 (x.2.2.2.2.2.2.2.1 + 1)) > s
      · rw [decide_eq_true hs, Bool.and_eq_true] at c1
        rw [if_pos hs, c1.1, c1.2]; rfl
      · rw [decide_eq_false hs] at c1
        rw [if_neg hs]
        cases h1 : decide (x.2.2.2.2.2.2.2.1 ≥ s)
        · rfl
        · rw [h1, Bool.true_and] at c1
          rw [c1]; rfl
    · unfold spec_Chain_l1; simp
  · unfold impl_Chain
    rw [(fold_loop f.2.2.2.1 chainStep (fun _ _ => True) (fun s => s) 0 trivial (by omega) (fun s i x _ hx => ⟨?_, trivial⟩) (fun s _ => ?_)).1]
    · rfl
    · have hlt := (List.getElem?_eq_some_iff.1 hx).1
      have hil : ((i : Int) < (f.2.2.2.1.length : Int)) := by omega
      unfold impl_Chain_l1 chainStep
      simp only [hil, decide_true, cond_true, idx_at hx]
    · unfold impl_Chain_l1; simp
theorem law_Chain (f : T_Fate.D) (wf : T_Fate.wf f) : laws_FnExactChain f = some true := by
  unfold laws_FnExactChain
  obtain ⟨mf, ef, hhf⟩ := laws_szFate_ok f (1048576) (by omega) (by omega) wf
  rw [ef, Option.bind_some]
  rcases hhf with hhf | ⟨g0f, g1f, okf⟩
  · rw [decide_eq_true hhf]; rfl
  rw [dec_neg g0f]; simp only [cond_false]
  obtain ⟨m, e1, e2⟩ := chain_eq f okf.2.2.2.1.1 wf.2.2.2.1.2
  simp (disch := omega) only [laws_toFate_ok f okf, laws_eqFate_ok f f okf, eqD_refl (t := T_Fate) rfl, e1, e2, Option.bind_some, bne_self_eq_false, Bool.not_true, cond_false, cond_true, dec_neg]

theorem law_SameFate (a : T_Fate.D) (b : T_Fate.D) (wa : T_Fate.wf a) (wb : T_Fate.wf b) : laws_FnExactSameFate a b = some true := by
  unfold laws_FnExactSameFate
  obtain ⟨ma, ea, hha⟩ := laws_szFate_ok a (1048576) (by omega) (by omega) wa
  rw [ea, Option.bind_some]
  rcases hha with hha | ⟨g0a, g1a, oka⟩
  · rw [decide_eq_true hha]; rfl
  rw [dec_neg g0a]; simp only [cond_false]
  obtain ⟨mb, eb, hhb⟩ := laws_szFate_ok b (ma) (by omega) (by omega) wb
  rw [eb, Option.bind_some]
  rcases hhb with hhb | ⟨g0b, g1b, okb⟩
  · rw [decide_eq_true hhb]; rfl
  rw [dec_neg g0b]; simp only [cond_false]
  have e1 := spec_SameFate_ok a b oka
  have e2 := impl_SameFate_ok a b oka
  simp (disch := omega) only [laws_toFate_ok a oka, laws_eqFate_ok a a oka, eqD_refl (t := T_Fate) rfl, laws_toFate_ok b okb, laws_eqFate_ok b b okb, e1, e2, Option.bind_some, bne_self_eq_false, Bool.not_true, cond_false, cond_true, dec_neg]

theorem law_SameGame (a : T_Game.D) (b : T_Game.D) (wa : T_Game.wf a) (wb : T_Game.wf b) : laws_FnExactSameGame a b = some true := by
  unfold laws_FnExactSameGame
  obtain ⟨ma, ea, hha⟩ := laws_szGame_ok a (1048576) (by omega) (by omega) wa
  rw [ea, Option.bind_some]
  rcases hha with hha | ⟨g0a, g1a, oka⟩
  · rw [decide_eq_true hha]; rfl
  rw [dec_neg g0a]; simp only [cond_false]
  obtain ⟨mb, eb, hhb⟩ := laws_szGame_ok b (ma) (by omega) (by omega) wb
  rw [eb, Option.bind_some]
  rcases hhb with hhb | ⟨g0b, g1b, okb⟩
  · rw [decide_eq_true hhb]; rfl
  rw [dec_neg g0b]; simp only [cond_false]
  have e1 := spec_SameGame_ok a b oka
  have e2 := impl_SameGame_ok a b oka
  simp (disch := omega) only [laws_toGame_ok a oka, laws_eqGame_ok a a oka, eqD_refl (t := T_Game) rfl, laws_toGame_ok b okb, laws_eqGame_ok b b okb, e1, e2, Option.bind_some, bne_self_eq_false, Bool.not_true, cond_false, cond_true, dec_neg]


end Go.Abs
