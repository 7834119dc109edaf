import Derived.Test.YtenadnbpibhmiaaGreatGenRW
import Derived.Test.YtenadnbpibhmiaaGreatAbsDeep
set_option linter.unusedVariables false
set_option linter.unusedSimpArgs false
namespace Go.Abs
theorem laws_toPat_eq (a : T_Pat.D) : laws_toPat a = some a := by
  first | rfl | (unfold laws_toPat; simp only [laws_toPiece_eq, laws_toEvent_eq, Option.bind_some]; rfl)
theorem laws_eqPat_eq (a b : T_Pat.D) : laws_eqPat a b = some (eqD T_Pat a b) := by
  unfold laws_eqPat
  first | (simp only [bneIf]; rfl) | (simp only [laws_eqEvent_eq, laws_eqPiece_eq, Option.bind_some, bneIf, notIf]; rfl)
theorem laws_toGuard_eq (a : T_Guard.D) : laws_toGuard a = some a := by
  first | rfl | (unfold laws_toGuard; simp only [laws_toPiece_eq, laws_toEvent_eq, Option.bind_some]; rfl)
theorem laws_eqGuard_eq (a b : T_Guard.D) : laws_eqGuard a b = some (eqD T_Guard a b) := by
  unfold laws_eqGuard
  first | (simp only [bneIf]; rfl) | (simp only [laws_eqEvent_eq, laws_eqPiece_eq, Option.bind_some, bneIf, notIf]; rfl)

theorem laws_szEventS_eq (a : List T_Event.D) (l : Int) (h0 : 0 ≤ l) (h1 : l ≤ 1048576) (hn : a.length ≤ maxLen) : laws_szEventS a l = some (if (a.length : Int) ≤ l then l - a.length else -1) := by
  unfold laws_szEventS; exact sz_list h0 h1 (by simpa [maxLen] using hn)
theorem laws_toEvent_eq (a : T_Event.D) : laws_toEvent a = some a := by
  first | rfl | (unfold laws_toEvent; simp only [laws_toPiece_eq, laws_toEvent_eq, Option.bind_some]; rfl)
theorem laws_toEventS_eq (a : List T_Event.D) (h : a.length ≤ 1048576) : laws_toEventS a = some a := by
  unfold laws_toEventS
  rw [if_pos (by omega), if_pos (by simp only [room]; omega), Int.toNat_natCast, copy_loop a _ (body := laws_toEventS_l1 a) laws_toEvent (fun x _ => laws_toEvent_eq x) (by omega) (fun _ => rfl)]
  rfl
theorem laws_eqEvent_eq (a b : T_Event.D) : laws_eqEvent a b = some (eqD T_Event a b) := by
  unfold laws_eqEvent
  first | (simp only [bneIf]; rfl) | (simp only [laws_eqEvent_eq, laws_eqPiece_eq, Option.bind_some, bneIf, notIf]; rfl)
theorem laws_eqEventS_eq (a b : List T_Event.D) (h : a.length ≤ 1048576) : laws_eqEventS a b = some (eqD (.slice T_Event) a b) := by
  unfold laws_eqEventS
  exact eq_lists (t := T_Event) rfl a b (e := eqD T_Event) (fun _ _ => rfl) (by omega) (fun i => by unfold laws_eqEventS_l1; simp only [laws_eqEvent_eq, Option.bind_some])

theorem laws_szPieceS_eq (a : List T_Piece.D) (l : Int) (h0 : 0 ≤ l) (h1 : l ≤ 1048576) (hn : a.length ≤ maxLen) : laws_szPieceS a l = some (if (a.length : Int) ≤ l then l - a.length else -1) := by
  unfold laws_szPieceS; exact sz_list h0 h1 (by simpa [maxLen] using hn)
theorem laws_toPiece_eq (a : T_Piece.D) : laws_toPiece a = some a := by
  first | rfl | (unfold laws_toPiece; simp only [laws_toPiece_eq, laws_toEvent_eq, Option.bind_some]; rfl)
theorem laws_toPieceS_eq (a : List T_Piece.D) (h : a.length ≤ 1048576) : laws_toPieceS a = some a := by
  unfold laws_toPieceS
  rw [if_pos (by omega), if_pos (by simp only [room]; omega), Int.toNat_natCast, copy_loop a _ (body := laws_toPieceS_l1 a) laws_toPiece (fun x _ => laws_toPiece_eq x) (by omega) (fun _ => rfl)]
  rfl
theorem laws_eqPiece_eq (a b : T_Piece.D) : laws_eqPiece a b = some (eqD T_Piece a b) := by
  unfold laws_eqPiece
  first | (simp only [bneIf]; rfl) | (simp only [laws_eqEvent_eq, laws_eqPiece_eq, Option.bind_some, bneIf, notIf]; rfl)
theorem laws_eqPieceS_eq (a b : List T_Piece.D) (h : a.length ≤ 1048576) : laws_eqPieceS a b = some (eqD (.slice T_Piece) a b) := by
  unfold laws_eqPieceS
  exact eq_lists (t := T_Piece) rfl a b (e := eqD T_Piece) (fun _ _ => rfl) (by omega) (fun i => by unfold laws_eqPieceS_l1; simp only [laws_eqPiece_eq, Option.bind_some])

theorem laws_szSideS_eq (a : List T_Side.D) (l : Int) (h0 : 0 ≤ l) (h1 : l ≤ 1048576) (hn : a.length ≤ maxLen) : laws_szSideS a l = some (if (a.length : Int) ≤ l then l - a.length else -1) := by
  unfold laws_szSideS; exact sz_list h0 h1 (by simpa [maxLen] using hn)
theorem laws_toSide_eq (a : T_Side.D) : laws_toSide a = some a := by
  first | rfl | (unfold laws_toSide; simp only [laws_toPiece_eq, laws_toEvent_eq, Option.bind_some]; rfl)
theorem laws_toSideS_eq (a : List T_Side.D) (h : a.length ≤ 1048576) : laws_toSideS a = some a := by
  unfold laws_toSideS
  rw [if_pos (by omega), if_pos (by simp only [room]; omega), Int.toNat_natCast, copy_loop a _ (body := laws_toSideS_l1 a) laws_toSide (fun x _ => laws_toSide_eq x) (by omega) (fun _ => rfl)]
  rfl
theorem laws_eqSide_eq (a b : T_Side.D) : laws_eqSide a b = some (eqD T_Side a b) := by
  unfold laws_eqSide
  first | (simp only [bneIf]; rfl) | (simp only [laws_eqEvent_eq, laws_eqPiece_eq, Option.bind_some, bneIf, notIf]; rfl)
theorem laws_eqSideS_eq (a b : List T_Side.D) (h : a.length ≤ 1048576) : laws_eqSideS a b = some (eqD (.slice T_Side) a b) := by
  unfold laws_eqSideS
  exact eq_lists (t := T_Side) rfl a b (e := eqD T_Side) (fun _ _ => rfl) (by omega) (fun i => by unfold laws_eqSideS_l1; simp only [laws_eqSide_eq, Option.bind_some])

theorem laws_toIntS_eq (a : List Int) (h : a.length ≤ 1048576) : laws_toIntS a = some a := by
  unfold laws_toIntS
  rw [if_pos (by omega), if_pos (by simp only [room]; omega), Int.toNat_natCast, copy_loop a _ (body := laws_toIntS_l1 a) some (fun x _ => rfl) (by omega) (fun _ => rfl)]
  rfl
theorem laws_eqIntS_eq (a b : List Int) (h : a.length ≤ 1048576) : laws_eqIntS a b = some (eqD (.slice (.int .i64)) a b) := by
  unfold laws_eqIntS
  exact eq_lists (t := .int .i64) rfl a b (e := fun (x y : Int) => x == y) (fun _ _ => rfl) (by omega) (fun i => rfl)

theorem laws_szState_eq (s : T_State.D) (l : Int) (h0 : 0 ≤ l) (h1 : l ≤ 1048576) (hp : s.1.length ≤ maxLen) (hs : s.2.1.length ≤ maxLen) : laws_szState s l = some (if (s.1.length : Int) + s.2.1.length ≤ l then l - s.1.length - s.2.1.length else -1) := by
  unfold laws_szState
  rw [laws_szPieceS_eq _ _ h0 h1 hp, Option.bind_some]
  by_cases g1 : (s.1.length : Int) ≤ l
  · rw [if_pos g1]
    have n1 : ¬ (l - (s.1.length : Int) < 0) := by omega
    simp only [n1, decide_false, cond_false]
    rw [laws_szSideS_eq _ _ (by omega) (by omega) hs, Option.bind_some]
    by_cases g2 : (s.2.1.length : Int) ≤ l - s.1.length
    · have n2 : ¬ (l - (s.1.length : Int) - s.2.1.length < 0) := by omega
      rw [if_pos g2, if_pos (by omega)]
      simp only [n2, decide_false, cond_false]
    · rw [if_neg g2, if_neg (by omega)]; rfl
  · rw [if_neg g1, if_neg (by omega)]; rfl
theorem laws_toState_eq (s : T_State.D) (hp : s.1.length ≤ 1048576) (hs : s.2.1.length ≤ 1048576) : laws_toState s = some s := by
  unfold laws_toState
  simp only [laws_toPieceS_eq _ hp, laws_toSideS_eq _ hs, Option.bind_some]
theorem laws_eqState_eq (a b : T_State.D) (hp : a.1.length ≤ 1048576) (hs : a.2.1.length ≤ 1048576) : laws_eqState a b = some (eqD T_State a b) := by
  unfold laws_eqState
  simp only [laws_eqPieceS_eq _ _ hp, laws_eqSideS_eq _ _ hs, Option.bind_some, bneIf, notIf]
  rfl
theorem laws_szEventS_ok (a : List T_Event.D) (l : Int) (h0 : 0 ≤ l) (h1 : l ≤ 1048576) (w : (Ty.slice T_Event).wf a) : SzR (laws_szEventS a l) l (okD (.slice T_Event) a) :=
  sz_flat (t := T_Event) rfl (laws_szEventS_eq a l h0 h1 w.1) h1
theorem laws_szPieceS_ok (a : List T_Piece.D) (l : Int) (h0 : 0 ≤ l) (h1 : l ≤ 1048576) (w : (Ty.slice T_Piece).wf a) : SzR (laws_szPieceS a l) l (okD (.slice T_Piece) a) :=
  sz_flat (t := T_Piece) rfl (laws_szPieceS_eq a l h0 h1 w.1) h1
theorem laws_szSideS_ok (a : List T_Side.D) (l : Int) (h0 : 0 ≤ l) (h1 : l ≤ 1048576) (w : (Ty.slice T_Side).wf a) : SzR (laws_szSideS a l) l (okD (.slice T_Side) a) :=
  sz_flat (t := T_Side) rfl (laws_szSideS_eq a l h0 h1 w.1) h1

theorem laws_szState_ok (a : T_State.D) (l : Int) (h0 : 0 ≤ l) (h1 : l ≤ 1048576) (w : T_State.wf a) : SzR (laws_szState a l) l (okD T_State a) := by
  unfold laws_szState
  exact SzR.imp (SzR.bind (laws_szPieceS_ok a.1 l h0 h1 w.1) fun m1 k1 j1 => SzR.bind (laws_szSideS_ok a.2.1 m1 k1 (by omega) w.2.1) fun m2 k2 j2 => SzR.done k2) (fun h => ⟨h.1, h.2.1, trivial, trivial, trivial⟩)

theorem laws_szAct_ok (a : T_Act.D) (l : Int) (h0 : 0 ≤ l) (h1 : l ≤ 1048576) (w : T_Act.wf a) : SzR (laws_szAct a l) l (okD T_Act a) := by
  unfold laws_szAct
  exact SzR.imp (SzR.bind (laws_szEventS_ok a.2.2.2.2.2.2.1 l h0 h1 w.2.2.2.2.2.2.1) fun m1 k1 j1 => SzR.done k1) (fun h => ⟨trivial, trivial, trivial, trivial, trivial, trivial, h.1, trivial⟩)
theorem laws_toAct_ok (a : T_Act.D) (h : okD T_Act a) : laws_toAct a = some a := by
  unfold laws_toAct
  simp only [laws_toEventS_eq a.2.2.2.2.2.2.1 h.2.2.2.2.2.2.1.1, Option.bind_some]
theorem laws_eqAct_ok (a b : T_Act.D) (h : okD T_Act a) : laws_eqAct a b = some (eqD T_Act a b) := by
  unfold laws_eqAct
  simp only [laws_eqEventS_eq a.2.2.2.2.2.2.1 b.2.2.2.2.2.2.1 h.2.2.2.2.2.2.1.1, Option.bind_some, bneIf, notIf]
  rfl

theorem laws_szEffect_ok (a : T_Effect.D) (l : Int) (h0 : 0 ≤ l) (h1 : l ≤ 1048576) (w : T_Effect.wf a) : SzR (laws_szEffect a l) l (okD T_Effect a) := by
  unfold laws_szEffect
  exact SzR.imp (SzR.bind (laws_szAct_ok a.2.2.2.2.2.2.1 l h0 h1 w.2.2.2.2.2.2.1) fun m1 k1 j1 => SzR.done k1) (fun h => ⟨trivial, trivial, trivial, trivial, okFlat T_Pat rfl _, okFlat T_Guard rfl _, h.1, trivial, trivial, trivial⟩)
theorem laws_toEffect_ok (a : T_Effect.D) (h : okD T_Effect a) : laws_toEffect a = some a := by
  unfold laws_toEffect
  simp only [laws_toPat_eq, laws_toGuard_eq, laws_toAct_ok a.2.2.2.2.2.2.1 h.2.2.2.2.2.2.1, Option.bind_some]
theorem laws_eqEffect_ok (a b : T_Effect.D) (h : okD T_Effect a) : laws_eqEffect a b = some (eqD T_Effect a b) := by
  unfold laws_eqEffect
  simp only [laws_eqPat_eq, laws_eqGuard_eq, laws_eqAct_ok a.2.2.2.2.2.2.1 b.2.2.2.2.2.2.1 h.2.2.2.2.2.2.1, Option.bind_some, bneIf, notIf]
  rfl
theorem laws_szEffectS_ok (a : List T_Effect.D) (l : Int) (h0 : 0 ≤ l) (h1 : l ≤ 1048576) (w : (Ty.slice T_Effect).wf a) : SzR (laws_szEffectS a l) l (okD (.slice T_Effect) a) := by
  unfold laws_szEffectS
  exact sz_loop (t := T_Effect) a laws_szEffect (body := laws_szEffectS_l1 a) w.1 (fun x hx l h0 h1 => laws_szEffect_ok x l h0 h1 (w.2 x hx)) (fun _ => rfl) h0 h1
theorem laws_toEffectS_ok (a : List T_Effect.D) (h : okD (.slice T_Effect) a) : laws_toEffectS a = some a := by
  have hl : a.length ≤ 1048576 := h.1
  unfold laws_toEffectS
  rw [if_pos (by omega), if_pos (by simp only [room]; omega), Int.toNat_natCast, copy_loop a _ (body := laws_toEffectS_l1 a) laws_toEffect (fun x hx => laws_toEffect_ok x (h.2 x hx)) (by omega) (fun _ => rfl)]
  rfl
theorem laws_eqEffectS_ok (a b : List T_Effect.D) (h : okD (.slice T_Effect) a) : laws_eqEffectS a b = some (eqD (.slice T_Effect) a b) := by
  have hl : a.length ≤ 1048576 := h.1
  unfold laws_eqEffectS
  exact eq_lists2 (t := T_Effect) rfl a b (e := laws_eqEffect) (fun x hx y => laws_eqEffect_ok x y (h.2 x hx)) (by omega) (fun _ => rfl)

theorem laws_eqTurn_ok (a b : T_Turn.D) (h : okD T_Turn a) : laws_eqTurn a b = some (eqD T_Turn a b) := by
  unfold laws_eqTurn
  simp only [laws_eqEvent_eq, laws_eqEventS_eq a.2.2.2.2.2.1 b.2.2.2.2.2.1 h.2.2.2.2.2.1.1, Option.bind_some, bneIf, notIf]
  rfl
theorem laws_eqTurnS_ok (a b : List T_Turn.D) (h : okD (.slice T_Turn) a) : laws_eqTurnS a b = some (eqD (.slice T_Turn) a b) := by
  have hl : a.length ≤ 1048576 := h.1
  unfold laws_eqTurnS
  exact eq_lists2 (t := T_Turn) rfl a b (e := laws_eqTurn) (fun x hx y => laws_eqTurn_ok x y (h.2 x hx)) (by omega) (fun _ => rfl)

theorem laws_eqFate_ok (a b : T_Fate.D) (h : okD T_Fate a) : laws_eqFate a b = some (eqD T_Fate a b) := by
  unfold laws_eqFate
  simp only [laws_eqEventS_eq a.1 b.1 h.1.1, laws_eqEffectS_ok a.2.1 b.2.1 h.2.1, laws_eqIntS_eq a.2.2.1 b.2.2.1 h.2.2.1.1, laws_eqTurnS_ok a.2.2.2.1 b.2.2.2.1 h.2.2.2.1, Option.bind_some, bneIf, notIf]
  rfl

def fillEvent (k : Int) : T_Event.D := (k, k + 1, k + 1 + 1, k + 1 + 1 + 1, k + 1 + 1 + 1 + 1, k + 1 + 1 + 1 + 1 + 1, ((k + 1 + 1 + 1 + 1 + 1 + 1).tmod 3 == 0), ())
theorem laws_markEventS_step (ys : List T_Event.D) (k : Int) (i : Nat) (hlt : i < ys.length) (h0 : 0 ≤ k) (hk : k ≤ 4611686018427387904) (hi : (i : Int) ≤ 4611686018427387904) : laws_markEventS_l1 (ys, k, (i : Int)) = some (.inl (ys.set i (fillEvent k), k + (7 : Nat), (i : Int) + 1)) := by
  obtain ⟨x, hx⟩ : ∃ x, ys[i]? = some x := ⟨_, List.getElem?_eq_getElem hlt⟩
  have hil : ((i : Int) < (ys.length : Int)) := by omega
  have hc : k + ((7 : Nat) : Int) = k + 1 + 1 + 1 + 1 + 1 + 1 + 1 := by omega
  unfold laws_markEventS_l1 fillEvent
  simp (disch := omega) only [hil, decide_true, cond_true, Int.toNat_natCast, idx_at hx, hx, Option.bind_some, idx_set hlt, get_set hlt, List.set_set, wrap_id, hc]
  first | done | rfl
theorem laws_markEventS_eq (xs : List T_Event.D) (k : Int) (h0 : 0 ≤ k) (hk : k + (7 : Nat) * (xs.length : Int) ≤ 4611686018427387904) (hlen : (xs.length : Int) ≤ 4611686018427387904) : laws_markEventS xs k = some (k + (7 : Nat) * (xs.length : Int), (fillL fillEvent (7 : Nat) k xs.length, ())) := by
  unfold laws_markEventS
  rw [mark_loop fillEvent 7 laws_markEventS_step (fun ys k => by unfold laws_markEventS_l1; simp) xs k h0 hk hlen]
  rfl

def fillSide (k : Int) : T_Side.D := (k, k + 1, ((k + 1 + 1).tmod 3 == 0), ())
theorem laws_markSideS_step (ys : List T_Side.D) (k : Int) (i : Nat) (hlt : i < ys.length) (h0 : 0 ≤ k) (hk : k ≤ 4611686018427387904) (hi : (i : Int) ≤ 4611686018427387904) : laws_markSideS_l1 (ys, k, (i : Int)) = some (.inl (ys.set i (fillSide k), k + (3 : Nat), (i : Int) + 1)) := by
  obtain ⟨x, hx⟩ : ∃ x, ys[i]? = some x := ⟨_, List.getElem?_eq_getElem hlt⟩
  have hil : ((i : Int) < (ys.length : Int)) := by omega
  have hc : k + ((3 : Nat) : Int) = k + 1 + 1 + 1 := by omega
  unfold laws_markSideS_l1 fillSide
  simp (disch := omega) only [hil, decide_true, cond_true, Int.toNat_natCast, idx_at hx, hx, Option.bind_some, idx_set hlt, get_set hlt, List.set_set, wrap_id, hc]
  first | done | rfl
theorem laws_markSideS_eq (xs : List T_Side.D) (k : Int) (h0 : 0 ≤ k) (hk : k + (3 : Nat) * (xs.length : Int) ≤ 4611686018427387904) (hlen : (xs.length : Int) ≤ 4611686018427387904) : laws_markSideS xs k = some (k + (3 : Nat) * (xs.length : Int), (fillL fillSide (3 : Nat) k xs.length, ())) := by
  unfold laws_markSideS
  rw [mark_loop fillSide 3 laws_markSideS_step (fun ys k => by unfold laws_markSideS_l1; simp) xs k h0 hk hlen]
  rfl

def fillPiece (k : Int) : T_Piece.D := (k, k + 1, k + 1 + 1, k + 1 + 1 + 1, k + 1 + 1 + 1 + 1, k + 1 + 1 + 1 + 1 + 1, k + 1 + 1 + 1 + 1 + 1 + 1, k + 1 + 1 + 1 + 1 + 1 + 1 + 1, k + 1 + 1 + 1 + 1 + 1 + 1 + 1 + 1, k + 1 + 1 + 1 + 1 + 1 + 1 + 1 + 1 + 1, k + 1 + 1 + 1 + 1 + 1 + 1 + 1 + 1 + 1 + 1, ((k + 1 + 1 + 1 + 1 + 1 + 1 + 1 + 1 + 1 + 1 + 1).tmod 3 == 0), ((k + 1 + 1 + 1 + 1 + 1 + 1 + 1 + 1 + 1 + 1 + 1 + 1).tmod 3 == 0), ())
theorem laws_markPieceS_step (ys : List T_Piece.D) (k : Int) (i : Nat) (hlt : i < ys.length) (h0 : 0 ≤ k) (hk : k ≤ 4611686018427387904) (hi : (i : Int) ≤ 4611686018427387904) : laws_markPieceS_l1 (ys, k, (i : Int)) = some (.inl (ys.set i (fillPiece k), k + (13 : Nat), (i : Int) + 1)) := by
  obtain ⟨x, hx⟩ : ∃ x, ys[i]? = some x := ⟨_, List.getElem?_eq_getElem hlt⟩
  have hil : ((i : Int) < (ys.length : Int)) := by omega
  have hc : k + ((13 : Nat) : Int) = k + 1 + 1 + 1 + 1 + 1 + 1 + 1 + 1 + 1 + 1 + 1 + 1 + 1 := by omega
  unfold laws_markPieceS_l1 fillPiece
  simp (disch := omega) only [hil, decide_true, cond_true, Int.toNat_natCast, idx_at hx, hx, Option.bind_some, idx_set hlt, get_set hlt, List.set_set, wrap_id, hc]
  first | done | rfl
theorem laws_markPieceS_eq (xs : List T_Piece.D) (k : Int) (h0 : 0 ≤ k) (hk : k + (13 : Nat) * (xs.length : Int) ≤ 4611686018427387904) (hlen : (xs.length : Int) ≤ 4611686018427387904) : laws_markPieceS xs k = some (k + (13 : Nat) * (xs.length : Int), (fillL fillPiece (13 : Nat) k xs.length, ())) := by
  unfold laws_markPieceS
  rw [mark_loop fillPiece 13 laws_markPieceS_step (fun ys k => by unfold laws_markPieceS_l1; simp) xs k h0 hk hlen]
  rfl

def fillInt (k : Int) : Int := k
theorem laws_markIntS_step (ys : List Int) (k : Int) (i : Nat) (hlt : i < ys.length) (h0 : 0 ≤ k) (hk : k ≤ 4611686018427387904) (hi : (i : Int) ≤ 4611686018427387904) : laws_markIntS_l1 (ys, k, (i : Int)) = some (.inl (ys.set i (fillInt k), k + (1 : Nat), (i : Int) + 1)) := by
  obtain ⟨x, hx⟩ : ∃ x, ys[i]? = some x := ⟨_, List.getElem?_eq_getElem hlt⟩
  have hil : ((i : Int) < (ys.length : Int)) := by omega
  have hc : k + ((1 : Nat) : Int) = k + 1 := by omega
  unfold laws_markIntS_l1 fillInt
  simp (disch := omega) only [hil, decide_true, cond_true, Int.toNat_natCast, idx_at hx, hx, Option.bind_some, idx_set hlt, get_set hlt, List.set_set, wrap_id, hc]
  first | done | rfl
theorem laws_markIntS_eq (xs : List Int) (k : Int) (h0 : 0 ≤ k) (hk : k + (1 : Nat) * (xs.length : Int) ≤ 4611686018427387904) (hlen : (xs.length : Int) ≤ 4611686018427387904) : laws_markIntS xs k = some (k + (1 : Nat) * (xs.length : Int), (fillL fillInt (1 : Nat) k xs.length, ())) := by
  unfold laws_markIntS
  rw [mark_loop fillInt 1 laws_markIntS_step (fun ys k => by unfold laws_markIntS_l1; simp) xs k h0 hk hlen]
  rfl

def markS (s : T_State.D) (k : Int) : T_State.D := (fillL fillPiece (13 : Nat) k s.1.length, fillL fillSide (3 : Nat) (k + (13 : Nat) * (s.1.length : Int)) s.2.1.length, s.2.2)
theorem laws_markState_eq (s : T_State.D) (k : Int) (h0 : 0 ≤ k) (h1 : k ≤ 4294967296) (hp : s.1.length ≤ 1048576) (hs : s.2.1.length ≤ 1048576) : laws_markState s k = some (k + (13 : Nat) * (s.1.length : Int) + (3 : Nat) * (s.2.1.length : Int), (markS s k, ())) := by
  unfold laws_markState
  rw [laws_markPieceS_eq _ k h0 (by omega) (by omega), Option.bind_some, laws_markSideS_eq _ _ (by omega) (by omega) (by omega)]
  rfl

theorem laws_heldEventS_eq (k0 : Int) (n : Nat) (h0 : 0 ≤ k0) (hk : k0 + (7 : Nat) * (n : Int) ≤ 4611686018427387904) (hlen : (n : Int) ≤ 4611686018427387904) : laws_heldEventS (fillL fillEvent (7 : Nat) k0 n) k0 = some (k0 + (7 : Nat) * (n : Int)) := by
  unfold laws_heldEventS
  rw [held_loop fillEvent 7 (fillL fillEvent (7 : Nat) k0 n) k0 n rfl (body := laws_heldEventS_l1 (fillL fillEvent (7 : Nat) k0 n)) ?_ ?_ h0 hk hlen]
  · rfl
  · intro k i hx h0 hk hi
    have hlt := (List.getElem?_eq_some_iff.1 hx).1
    have hil : ((i : Int) < ((fillL fillEvent (7 : Nat) k0 n).length : Int)) := by omega
    have hc : k + ((7 : Nat) : Int) = k + 1 + 1 + 1 + 1 + 1 + 1 + 1 := by omega
    unfold laws_heldEventS_l1
    simp (disch := omega) only [hil, decide_true, cond_true, idx_at hx, fillEvent, wrap_id, bne_self_eq_false, cond_false, hc]
    first | done | rfl
  · intro k
    unfold laws_heldEventS_l1
    simp

theorem laws_heldIntS_eq (k0 : Int) (n : Nat) (h0 : 0 ≤ k0) (hk : k0 + (1 : Nat) * (n : Int) ≤ 4611686018427387904) (hlen : (n : Int) ≤ 4611686018427387904) : laws_heldIntS (fillL fillInt (1 : Nat) k0 n) k0 = some (k0 + (1 : Nat) * (n : Int)) := by
  unfold laws_heldIntS
  rw [held_loop fillInt 1 (fillL fillInt (1 : Nat) k0 n) k0 n rfl (body := laws_heldIntS_l1 (fillL fillInt (1 : Nat) k0 n)) ?_ ?_ h0 hk hlen]
  · rfl
  · intro k i hx h0 hk hi
    have hlt := (List.getElem?_eq_some_iff.1 hx).1
    have hil : ((i : Int) < ((fillL fillInt (1 : Nat) k0 n).length : Int)) := by omega
    have hc : k + ((1 : Nat) : Int) = k + 1 := by omega
    unfold laws_heldIntS_l1
    simp (disch := omega) only [hil, decide_true, cond_true, idx_at hx, fillInt, wrap_id, bne_self_eq_false, cond_false, hc]
    first | done | rfl
  · intro k
    unfold laws_heldIntS_l1
    simp


/-! ### Marks in lists with lists inside -/
def fillX {α : Type} (fill : Int → Nat → α) (c : Nat) : Int → List Nat → List α
  | _, [] => []
  | k, n :: ns => fill k n :: fillX fill c (k + ((c + 7 * n : Nat) : Int)) ns
def cntX (c : Nat) : List Nat → Int
  | [] => 0
  | n :: ns => ((c + 7 * n : Nat) : Int) + cntX c ns
theorem cntX_nonneg (c : Nat) : ∀ ns : List Nat, 0 ≤ cntX c ns
  | [] => Int.le_refl _
  | n :: ns => by have := cntX_nonneg c ns; simp only [cntX]; omega
theorem cntX_le (c : Nat) (hc : c ≤ 30) : ∀ ns : List Nat, (∀ n ∈ ns, n ≤ 1048576) → cntX c ns ≤ 7340062 * (ns.length : Int)
  | [], _ => by simp [cntX]
  | n :: ns, h => by
    have h1 := cntX_le c hc ns (fun m hm => h m (List.mem_cons_of_mem _ hm))
    have h2 := h n (List.mem_cons_self ..)
    simp only [cntX, List.length_cons]
    omega
theorem fillX_len {α : Type} (fill : Int → Nat → α) (c : Nat) : ∀ (ns : List Nat) (k : Int), (fillX fill c k ns).length = ns.length
  | [], _ => rfl
  | n :: ns, k => by simp only [fillX, List.length_cons, fillX_len fill c ns]
theorem markX_loop {α : Type} (fill : Int → Nat → α) (c : Nat) (len : α → Nat) {body : (List α × (Int × Int)) → Option ((List α × (Int × Int)) ⊕ (List α × (Int × Int)))}
    (hb : ∀ (ys : List α) (k : Int) (i : Nat) (x : α), ys[i]? = some x → len x ≤ 1048576 → 0 ≤ k → k ≤ 2305843009213693952 → (i : Int) ≤ 2305843009213693952 → body (ys, k, (i : Int)) = some (.inl (ys.set i (fill k (len x)), k + ((c + 7 * len x : Nat) : Int), (i : Int) + 1)))
    (he : ∀ (ys : List α) (k : Int), body (ys, k, (ys.length : Int)) = some (.inr (ys, k, (ys.length : Int)))) (xs : List α) (k : Int) (h : ∀ x ∈ xs, len x ≤ 1048576) (h0 : 0 ≤ k) (hk : k + cntX c (xs.map len) ≤ 2305843009213693952) (hlen : (xs.length : Int) ≤ 2305843009213693952) :
    while_ body (xs, k, 0) = some (fillX fill c k (xs.map len), k + cntX c (xs.map len), (xs.length : Int)) := by
  have main : ∀ (r p : List α) (k : Int), (∀ x ∈ r, len x ≤ 1048576) → 0 ≤ k → k + cntX c (r.map len) ≤ 2305843009213693952 → ((p.length + r.length : Nat) : Int) ≤ 2305843009213693952 →
      while_ body (p ++ r, k, (p.length : Int)) = some (p ++ fillX fill c k (r.map len), k + cntX c (r.map len), ((p.length + r.length : Nat) : Int)) := by
    intro r
    induction r with
    | nil =>
      intro p k _ h0 hk hl
      refine while_done ?_
      have := he p k
      simpa [fillX, cntX] using this
    | cons x r ih =>
      intro p k hx h0 hk hl
      have hn := cntX_nonneg c (r.map len)
      simp only [List.map_cons, cntX] at hk
      simp only [List.length_cons] at hl
      refine while_step (hb (p ++ x :: r) k p.length x (by simp) (hx x (List.mem_cons_self ..)) h0 (by omega) (by omega)) ?_
      have := ih (p ++ [fill k (len x)]) (k + ((c + 7 * len x : Nat) : Int)) (fun y hy => hx y (List.mem_cons_of_mem _ hy)) (by omega) (by omega) (by simp; omega)
      have e1 : (p ++ x :: r).set p.length (fill k (len x)) = p ++ [fill k (len x)] ++ r := by simp
      rw [e1]
      have e2 : ((p ++ [fill k (len x)]).length : Int) = (p.length : Int) + 1 := by simp
      rw [e2] at this
      rw [this]
      simp only [fillX, cntX, List.map_cons, List.length_cons, List.append_assoc, List.singleton_append, Option.some.injEq, Prod.mk.injEq, true_and]
      refine ⟨by omega, ?_⟩
      simp; omega
  have := main xs [] k h h0 hk (by simpa using hlen)
  simpa using this
theorem heldX_loop {α : Type} (fill : Int → Nat → α) (c : Nat) (ys : List α) {β : Type} {body : (Int × Int) → Option ((Int × Int) ⊕ ((Int × Int) ⊕ β))} (k : Int) (ns : List Nat) (hy : ys = fillX fill c k ns)
    (hb : ∀ (k : Int) (n i : Nat), ys[i]? = some (fill k n) → n ≤ 1048576 → 0 ≤ k → k ≤ 2305843009213693952 → (i : Int) ≤ 2305843009213693952 → body (k, (i : Int)) = some (.inl (k + ((c + 7 * n : Nat) : Int), (i : Int) + 1)))
    (he : ∀ (k : Int), body (k, (ys.length : Int)) = some (.inr (.inl (k, (ys.length : Int))))) (h : ∀ n ∈ ns, n ≤ 1048576) (h0 : 0 ≤ k) (hk : k + cntX c ns ≤ 2305843009213693952) (hlen : (ns.length : Int) ≤ 2305843009213693952) :
    while_ body (k, 0) = some (.inl (k + cntX c ns, (ns.length : Int))) := by
  have hyl : ys.length = ns.length := by rw [hy, fillX_len]
  have main : ∀ (r : List Nat) (p : List α) (k : Int), ys = p ++ fillX fill c k r → p.length + r.length = ns.length → (∀ n ∈ r, n ≤ 1048576) → 0 ≤ k → k + cntX c r ≤ 2305843009213693952 → while_ body (k, (p.length : Int)) = some (.inl (k + cntX c r, (ns.length : Int))) := by
    intro r
    induction r with
    | nil =>
      intro p k e hl _ h0 hk
      refine while_done ?_
      have := he k
      rw [hyl] at this
      simp only [List.length_nil, Nat.add_zero] at hl
      rw [hl]
      simpa [cntX] using this
    | cons n r ih =>
      intro p k e hl hn h0 hk
      have hnn := cntX_nonneg c r
      simp only [cntX] at hk
      simp only [List.length_cons] at hl
      refine while_step (hb k n p.length (by rw [e]; simp [fillX]) (hn n (List.mem_cons_self ..)) h0 (by omega) (by omega)) ?_
      have := ih (p ++ [fill k n]) (k + ((c + 7 * n : Nat) : Int)) (by rw [e]; simp [fillX]) (by simp; omega) (fun m hm => hn m (List.mem_cons_of_mem _ hm)) (by omega) (by omega)
      rw [show ((p ++ [fill k n]).length : Int) = (p.length : Int) + 1 by simp] at this
      rw [this]
      simp only [cntX]
      congr 2
      rw [Int.add_assoc]
  have := main ns [] k hy (by simp) h h0 hk
  simpa using this
def fillEffect (k : Int) (n : Nat) : T_Effect.D := (k, k + 1, k + 1 + 1, k + 1 + 1 + 1, (k + 1 + 1 + 1 + 1, k + 1 + 1 + 1 + 1 + 1, k + 1 + 1 + 1 + 1 + 1 + 1, k + 1 + 1 + 1 + 1 + 1 + 1 + 1, k + 1 + 1 + 1 + 1 + 1 + 1 + 1 + 1, k + 1 + 1 + 1 + 1 + 1 + 1 + 1 + 1 + 1, k + 1 + 1 + 1 + 1 + 1 + 1 + 1 + 1 + 1 + 1, ()), (k + 1 + 1 + 1 + 1 + 1 + 1 + 1 + 1 + 1 + 1 + 1, k + 1 + 1 + 1 + 1 + 1 + 1 + 1 + 1 + 1 + 1 + 1 + 1, ()), (k + 1 + 1 + 1 + 1 + 1 + 1 + 1 + 1 + 1 + 1 + 1 + 1 + 1, k + 1 + 1 + 1 + 1 + 1 + 1 + 1 + 1 + 1 + 1 + 1 + 1 + 1 + 1, k + 1 + 1 + 1 + 1 + 1 + 1 + 1 + 1 + 1 + 1 + 1 + 1 + 1 + 1 + 1, k + 1 + 1 + 1 + 1 + 1 + 1 + 1 + 1 + 1 + 1 + 1 + 1 + 1 + 1 + 1 + 1, k + 1 + 1 + 1 + 1 + 1 + 1 + 1 + 1 + 1 + 1 + 1 + 1 + 1 + 1 + 1 + 1 + 1, ((k + 1 + 1 + 1 + 1 + 1 + 1 + 1 + 1 + 1 + 1 + 1 + 1 + 1 + 1 + 1 + 1 + 1 + 1).tmod 3 == 0), fillL fillEvent (7 : Nat) (k + 1 + 1 + 1 + 1 + 1 + 1 + 1 + 1 + 1 + 1 + 1 + 1 + 1 + 1 + 1 + 1 + 1 + 1 + 1) n, ()), k + 1 + 1 + 1 + 1 + 1 + 1 + 1 + 1 + 1 + 1 + 1 + 1 + 1 + 1 + 1 + 1 + 1 + 1 + 1 + (7 : Nat) * (n : Int), k + 1 + 1 + 1 + 1 + 1 + 1 + 1 + 1 + 1 + 1 + 1 + 1 + 1 + 1 + 1 + 1 + 1 + 1 + 1 + (7 : Nat) * (n : Int) + 1, ())
def lenEffect (x : T_Effect.D) : Nat := x.2.2.2.2.2.2.1.2.2.2.2.2.2.1.length
theorem laws_markEffectS_step (ys : List T_Effect.D) (k : Int) (i : Nat) (x : T_Effect.D) (hx : ys[i]? = some x) (hn : lenEffect x ≤ 1048576) (h0 : 0 ≤ k) (hk : k ≤ 2305843009213693952) (hi : (i : Int) ≤ 2305843009213693952) : laws_markEffectS_l1 (ys, k, (i : Int)) = some (.inl (ys.set i (fillEffect k (lenEffect x)), k + ((21 + 7 * lenEffect x : Nat) : Int), (i : Int) + 1)) := by
  have hlt := (List.getElem?_eq_some_iff.1 hx).1
  have hil : ((i : Int) < (ys.length : Int)) := by omega
  unfold lenEffect at hn ⊢
  generalize hL : x.2.2.2.2.2.2.1.2.2.2.2.2.2.1 = L at hn ⊢
  have hc : k + ((21 + 7 * L.length : Nat) : Int) = k + 1 + 1 + 1 + 1 + 1 + 1 + 1 + 1 + 1 + 1 + 1 + 1 + 1 + 1 + 1 + 1 + 1 + 1 + 1 + (7 : Nat) * (L.length : Int) + 1 + 1 := by omega
  have hm : ∀ q : Int, q = k + 1 + 1 + 1 + 1 + 1 + 1 + 1 + 1 + 1 + 1 + 1 + 1 + 1 + 1 + 1 + 1 + 1 + 1 + 1 → laws_markEventS L q = some (q + (7 : Nat) * (L.length : Int), (fillL fillEvent (7 : Nat) q L.length, ())) := fun q hq => laws_markEventS_eq L q (by omega) (by omega) (by omega)
  have h3 : ¬ ((3 : Int) = 0) := by decide
  unfold laws_markEffectS_l1 fillEffect
  simp (disch := omega) only [hil, decide_true, cond_true, Int.toNat_natCast, idx_at hx, hx, Option.bind_some, idx_set hlt, get_set hlt, List.set_set, wrap_id, hc, hL, hm, h3, if_false]
  first | done | rfl
theorem laws_markEffectS_ok (xs : List T_Effect.D) (k : Int) (h : okD (.slice T_Effect) xs) (h0 : 0 ≤ k) (hk : k ≤ 1152921504606846976) : laws_markEffectS xs k = some (k + cntX 21 (xs.map lenEffect), (fillX fillEffect 21 k (xs.map lenEffect), ())) ∧ 0 ≤ cntX 21 (xs.map lenEffect) ∧ cntX 21 (xs.map lenEffect) ≤ 7696615317504 := by
  have hl : xs.length ≤ 1048576 := h.1
  have hx : ∀ x ∈ xs, lenEffect x ≤ 1048576 := fun x hx => (h.2 x hx).2.2.2.2.2.2.1.2.2.2.2.2.2.1.1
  have hb := cntX_le 21 (by decide) (xs.map lenEffect) (fun m hm => by obtain ⟨x, hx', rfl⟩ := List.mem_map.1 hm; exact hx x hx')
  rw [List.length_map] at hb
  refine ⟨?_, cntX_nonneg _ _, by omega⟩
  unfold laws_markEffectS
  rw [markX_loop fillEffect 21 lenEffect laws_markEffectS_step (fun ys k => by unfold laws_markEffectS_l1; simp) xs k hx h0 (by omega) (by omega)]
  rfl
theorem laws_heldEffectS_ok (ns : List Nat) (k : Int) (h : ∀ n ∈ ns, n ≤ 1048576) (hl : ns.length ≤ 1048576) (h0 : 0 ≤ k) (hk : k ≤ 1152921504606846976) : laws_heldEffectS (fillX fillEffect 21 k ns) k = some (k + cntX 21 ns) := by
  have hb := cntX_le 21 (by decide) ns h
  unfold laws_heldEffectS
  rw [heldX_loop fillEffect 21 (fillX fillEffect 21 k ns) k ns rfl (body := laws_heldEffectS_l1 (fillX fillEffect 21 k ns)) ?_ ?_ h h0 (by omega) (by omega)]
  · rfl
  · intro k n i hx hn h0 hk hi
    have hlt := (List.getElem?_eq_some_iff.1 hx).1
    have hil : ((i : Int) < ((fillX fillEffect 21 _ ns).length : Int)) := Int.ofNat_lt.2 hlt
    have hc : k + ((21 + 7 * n : Nat) : Int) = k + 1 + 1 + 1 + 1 + 1 + 1 + 1 + 1 + 1 + 1 + 1 + 1 + 1 + 1 + 1 + 1 + 1 + 1 + 1 + (7 : Nat) * (n : Int) + 1 + 1 := by omega
    have hm : laws_heldEventS (fillL fillEvent (7 : Nat) (k + 1 + 1 + 1 + 1 + 1 + 1 + 1 + 1 + 1 + 1 + 1 + 1 + 1 + 1 + 1 + 1 + 1 + 1 + 1) n) (k + 1 + 1 + 1 + 1 + 1 + 1 + 1 + 1 + 1 + 1 + 1 + 1 + 1 + 1 + 1 + 1 + 1 + 1 + 1) = some (k + 1 + 1 + 1 + 1 + 1 + 1 + 1 + 1 + 1 + 1 + 1 + 1 + 1 + 1 + 1 + 1 + 1 + 1 + 1 + (7 : Nat) * (n : Int)) := laws_heldEventS_eq _ n (by omega) (by omega) (by omega)
    have h3 : ¬ ((3 : Int) = 0) := by decide
    unfold laws_heldEffectS_l1
    simp (disch := omega) only [hil, decide_true, cond_true, idx_at hx, fillEffect, wrap_id, bne_self_eq_false, cond_false, hc, hm, Option.bind_some, dec_neg, h3, if_false]
    first | done | rfl
  · intro k
    unfold laws_heldEffectS_l1
    simp
def fillTurn (k : Int) (n : Nat) : T_Turn.D := (k, k + 1, k + 1 + 1, k + 1 + 1 + 1, (k + 1 + 1 + 1 + 1, k + 1 + 1 + 1 + 1 + 1, k + 1 + 1 + 1 + 1 + 1 + 1, k + 1 + 1 + 1 + 1 + 1 + 1 + 1, k + 1 + 1 + 1 + 1 + 1 + 1 + 1 + 1, k + 1 + 1 + 1 + 1 + 1 + 1 + 1 + 1 + 1, ((k + 1 + 1 + 1 + 1 + 1 + 1 + 1 + 1 + 1 + 1).tmod 3 == 0), ()), fillL fillEvent (7 : Nat) (k + 1 + 1 + 1 + 1 + 1 + 1 + 1 + 1 + 1 + 1 + 1) n, k + 1 + 1 + 1 + 1 + 1 + 1 + 1 + 1 + 1 + 1 + 1 + (7 : Nat) * (n : Int), k + 1 + 1 + 1 + 1 + 1 + 1 + 1 + 1 + 1 + 1 + 1 + (7 : Nat) * (n : Int) + 1, ())
def lenTurn (x : T_Turn.D) : Nat := x.2.2.2.2.2.1.length
theorem laws_markTurnS_step (ys : List T_Turn.D) (k : Int) (i : Nat) (x : T_Turn.D) (hx : ys[i]? = some x) (hn : lenTurn x ≤ 1048576) (h0 : 0 ≤ k) (hk : k ≤ 2305843009213693952) (hi : (i : Int) ≤ 2305843009213693952) : laws_markTurnS_l1 (ys, k, (i : Int)) = some (.inl (ys.set i (fillTurn k (lenTurn x)), k + ((13 + 7 * lenTurn x : Nat) : Int), (i : Int) + 1)) := by
  have hlt := (List.getElem?_eq_some_iff.1 hx).1
  have hil : ((i : Int) < (ys.length : Int)) := by omega
  unfold lenTurn at hn ⊢
  generalize hL : x.2.2.2.2.2.1 = L at hn ⊢
  have hc : k + ((13 + 7 * L.length : Nat) : Int) = k + 1 + 1 + 1 + 1 + 1 + 1 + 1 + 1 + 1 + 1 + 1 + (7 : Nat) * (L.length : Int) + 1 + 1 := by omega
  have hm : ∀ q : Int, q = k + 1 + 1 + 1 + 1 + 1 + 1 + 1 + 1 + 1 + 1 + 1 → laws_markEventS L q = some (q + (7 : Nat) * (L.length : Int), (fillL fillEvent (7 : Nat) q L.length, ())) := fun q hq => laws_markEventS_eq L q (by omega) (by omega) (by omega)
  have h3 : ¬ ((3 : Int) = 0) := by decide
  unfold laws_markTurnS_l1 fillTurn
  simp (disch := omega) only [hil, decide_true, cond_true, Int.toNat_natCast, idx_at hx, hx, Option.bind_some, idx_set hlt, get_set hlt, List.set_set, wrap_id, hc, hL, hm, h3, if_false]
  first | done | rfl
theorem laws_markTurnS_ok (xs : List T_Turn.D) (k : Int) (h : okD (.slice T_Turn) xs) (h0 : 0 ≤ k) (hk : k ≤ 1152921504606846976) : laws_markTurnS xs k = some (k + cntX 13 (xs.map lenTurn), (fillX fillTurn 13 k (xs.map lenTurn), ())) ∧ 0 ≤ cntX 13 (xs.map lenTurn) ∧ cntX 13 (xs.map lenTurn) ≤ 7696615317504 := by
  have hl : xs.length ≤ 1048576 := h.1
  have hx : ∀ x ∈ xs, lenTurn x ≤ 1048576 := fun x hx => (h.2 x hx).2.2.2.2.2.1.1
  have hb := cntX_le 13 (by decide) (xs.map lenTurn) (fun m hm => by obtain ⟨x, hx', rfl⟩ := List.mem_map.1 hm; exact hx x hx')
  rw [List.length_map] at hb
  refine ⟨?_, cntX_nonneg _ _, by omega⟩
  unfold laws_markTurnS
  rw [markX_loop fillTurn 13 lenTurn laws_markTurnS_step (fun ys k => by unfold laws_markTurnS_l1; simp) xs k hx h0 (by omega) (by omega)]
  rfl
theorem laws_heldTurnS_ok (ns : List Nat) (k : Int) (h : ∀ n ∈ ns, n ≤ 1048576) (hl : ns.length ≤ 1048576) (h0 : 0 ≤ k) (hk : k ≤ 1152921504606846976) : laws_heldTurnS (fillX fillTurn 13 k ns) k = some (k + cntX 13 ns) := by
  have hb := cntX_le 13 (by decide) ns h
  unfold laws_heldTurnS
  rw [heldX_loop fillTurn 13 (fillX fillTurn 13 k ns) k ns rfl (body := laws_heldTurnS_l1 (fillX fillTurn 13 k ns)) ?_ ?_ h h0 (by omega) (by omega)]
  · rfl
  · intro k n i hx hn h0 hk hi
    have hlt := (List.getElem?_eq_some_iff.1 hx).1
    have hil : ((i : Int) < ((fillX fillTurn 13 _ ns).length : Int)) := Int.ofNat_lt.2 hlt
    have hc : k + ((13 + 7 * n : Nat) : Int) = k + 1 + 1 + 1 + 1 + 1 + 1 + 1 + 1 + 1 + 1 + 1 + (7 : Nat) * (n : Int) + 1 + 1 := by omega
    have hm : laws_heldEventS (fillL fillEvent (7 : Nat) (k + 1 + 1 + 1 + 1 + 1 + 1 + 1 + 1 + 1 + 1 + 1) n) (k + 1 + 1 + 1 + 1 + 1 + 1 + 1 + 1 + 1 + 1 + 1) = some (k + 1 + 1 + 1 + 1 + 1 + 1 + 1 + 1 + 1 + 1 + 1 + (7 : Nat) * (n : Int)) := laws_heldEventS_eq _ n (by omega) (by omega) (by omega)
    have h3 : ¬ ((3 : Int) = 0) := by decide
    unfold laws_heldTurnS_l1
    simp (disch := omega) only [hil, decide_true, cond_true, idx_at hx, fillTurn, wrap_id, bne_self_eq_false, cond_false, hc, hm, Option.bind_some, dec_neg, h3, if_false]
    first | done | rfl
  · intro k
    unfold laws_heldTurnS_l1
    simp

/-! ### Numbers -/
theorem l1In_eq (a b c : Int) : spec_l1In a b c = some (decide (b ≤ a) && decide (a ≤ c)) := by
  unfold spec_l1In
  have : decide (a ≥ b) = decide (b ≤ a) := rfl
  simp only [this]
  cases decide (b ≤ a) <;> rfl
theorem from_eq (a b c : Int) : impl_from a b c = some (decide (b ≤ a) && decide (a ≤ c)) := by
  unfold impl_from
  have : decide (a ≥ b) = decide (b ≤ a) := rfl
  simp only [this]
  cases decide (b ≤ a) <;> rfl
def boundV (n : Int) : Int := if n > 2147483647 then 2147483647 else if n < -2147483647 then -2147483647 else n
theorem spec_Bound_eq (n : Int) : spec_Bound n = some (boundV n) := by
  unfold spec_Bound boundV
  simp only [cond_eq_ite, decide_eq_true_eq]
  split <;> (try split) <;> rfl
theorem impl_Bound_eq (n : Int) : impl_Bound n = some (boundV n) := by
  unfold impl_Bound boundV
  congr 1
  split <;> split <;> (try split) <;> (try split) <;> omega
def plusV (a b : Int) : Int := boundV (IntKind.wrap .i64 (boundV a + boundV b))
def lessV (a b : Int) : Int := boundV (IntKind.wrap .i64 (boundV a - boundV b))
theorem some_ite {c : Prop} [Decidable c] (a b : Bool) : (if c then some a else some b) = some (if c then a else b) := by split <;> rfl


/-! ### Pieces and states that are right -/
def pieceOkB (p : T_Piece.D) : Bool :=
  decide (1 ≤ p.1) && decide (p.1 ≤ 99) && decide (0 ≤ p.2.1) && decide (p.2.1 ≤ 2) && decide (0 ≤ p.2.2.1) && decide (p.2.2.1 ≤ 2) && decide (1 ≤ p.2.2.2.1) && decide (p.2.2.2.1 ≤ 4) && decide (0 ≤ p.2.2.2.2.1) && decide (p.2.2.2.2.1 ≤ 9999) &&
  decide (0 ≤ p.2.2.2.2.2.1) && decide (p.2.2.2.2.2.1 ≤ 999) && decide (0 ≤ p.2.2.2.2.2.2.1) && decide (p.2.2.2.2.2.2.1 ≤ 999) && decide (0 ≤ p.2.2.2.2.2.2.2.1) && decide (p.2.2.2.2.2.2.2.1 ≤ 63) && (
    if p.2.2.2.1 = 2 then decide (0 ≤ p.2.2.2.2.2.2.2.2.1) && decide (p.2.2.2.2.2.2.2.2.1 ≤ 2147483647) && decide (0 ≤ p.2.2.2.2.2.2.2.2.2.1) && decide (p.2.2.2.2.2.2.2.2.2.1 ≤ 2147483647) && decide (0 ≤ p.2.2.2.2.2.2.2.2.2.2.1) && decide (p.2.2.2.2.2.2.2.2.2.2.1 ≤ 2147483647)
    else (p.2.2.1 == p.2.1) && (p.2.2.2.2.2.2.2.2.1 == 0) && (p.2.2.2.2.2.2.2.2.2.1 == 0) && (p.2.2.2.2.2.2.2.2.2.2.1 == 0) && !p.2.2.2.2.2.2.2.2.2.2.2.1 && !p.2.2.2.2.2.2.2.2.2.2.2.2.1)
theorem spec_PieceOk_eq (p : T_Piece.D) : spec_PieceOk p = some (pieceOkB p) := by
  obtain ⟨i, o, sd, z, t, pw, tg, tr, pl, mi, mk, dl, bt, u⟩ := p
  unfold spec_PieceOk pieceOkB
  simp only [l1In_eq, Option.bind_some, cond_eq_ite, some_ite]
  congr 1
  rw [Bool.eq_iff_iff]
  by_cases h1 : z = 2
  · subst h1; simp; grind
  · simp [h1]; grind
theorem impl_PieceOk_eq (p : T_Piece.D) : impl_PieceOk p = some (pieceOkB p) := by
  obtain ⟨i, o, sd, z, t, pw, tg, tr, pl, mi, mk, dl, bt, u⟩ := p
  unfold impl_PieceOk pieceOkB impl_isId impl_isPlayer impl_isZone impl_isTime impl_isTraits impl_isAmount
  simp only [from_eq, Option.bind_some, cond_eq_ite, some_ite, bne]
  congr 1
  rw [Bool.eq_iff_iff]
  by_cases h1 : z = 2
  · subst h1; simp; grind
  · simp [h1]; grind
def sideOkB (x : T_Side.D) : Bool := decide (-2147483647 ≤ x.1) && decide (x.1 ≤ 2147483647) && (decide (0 ≤ x.2.1) && decide (x.2.1 ≤ 2147483647))
theorem spec_l5Side_eq (x : T_Side.D) : spec_l5Side x = some (sideOkB x) := by
  unfold spec_l5Side sideOkB
  simp only [l1In_eq, Option.bind_some]
  cases (decide (-2147483647 ≤ x.1) && decide (x.1 ≤ 2147483647)) <;> rfl
theorem impl_StateOk_1_eq (x : T_Side.D) : impl_StateOk_1 x = some (!sideOkB x) := by
  unfold impl_StateOk_1 sideOkB impl_isAmount
  simp only [impl_Bound_eq, from_eq, Option.bind_some]
  have : (boundV x.1 != x.1) = !(decide (-2147483647 ≤ x.1) && decide (x.1 ≤ 2147483647)) := by
    rw [Bool.eq_iff_iff]; unfold boundV; simp; grind
  rw [this]
  cases (decide (-2147483647 ≤ x.1) && decide (x.1 ≤ 2147483647)) <;> rfl

def anyI {α : Type} (p : Nat → α → Bool) : Nat → List α → Bool
  | _, [] => false
  | i, x :: r => p i x || anyI p (i + 1) r
theorem anyI_false {α : Type} (p : Nat → α → Bool) : ∀ (xs : List α) (k : Nat), anyI p k xs = false → ∀ (i : Nat) x, xs[i]? = some x → p (k + i) x = false
  | [], _, _, i, x, hx => by simp at hx
  | y :: xs, k, h, 0, x, hx => by
    simp only [anyI, Bool.or_eq_false_iff] at h
    simp at hx
    subst hx
    exact h.1
  | y :: xs, k, h, i + 1, x, hx => by
    simp only [anyI, Bool.or_eq_false_iff] at h
    have := anyI_false p xs (k + 1) h.2 i x (by simpa using hx)
    rwa [show k + (i + 1) = k + 1 + i by omega]
theorem any_loop {α β : Type} (xs : List α) {body : Int → Option (Int ⊕ (Int ⊕ β))} (p : Nat → α → Bool) (v : β) (hlen : xs.length ≤ 9223372036854775806)
    (hb : ∀ (i : Nat) x, xs[i]? = some x → body i = bif p i x then some (.inr (.inr v)) else some (.inl (IntKind.wrap .i64 ((i : Int) + 1))))
    (he : body xs.length = some (.inr (.inl xs.length))) :
    while_ body 0 = some (bif anyI p 0 xs then .inr v else .inl xs.length) := by
  have main : ∀ (r : List α) (k : Nat), xs.drop k = r → k ≤ xs.length → while_ body k = some (bif anyI p k r then .inr v else .inl xs.length) := by
    intro r
    induction r with
    | nil =>
      intro k h hk
      have : k = xs.length := by
        have := congrArg List.length h
        simp at this
        omega
      subst this
      exact while_done he
    | cons x r ih =>
      intro k h hk
      have hlt : k < xs.length := by
        have := congrArg List.length h
        simp at this
        omega
      have hx : xs[k]? = some x := by
        have := congrArg (fun l => l[0]?) h
        simpa using this
      have hr : xs.drop (k + 1) = r := by
        have := congrArg List.tail h
        simpa using this
      unfold anyI
      cases hp : p k x with
      | true =>
        refine while_done ?_
        rw [hb k x hx, hp]
        rfl
      | false =>
        refine while_step (s' := ((k + 1 : Nat) : Int)) ?_ (ih (k + 1) hr hlt)
        rw [hb k x hx, hp]
        simp only [cond_false]
        rw [wrap_id (by omega) (by omega)]
        rfl
  have := main xs 0 rfl (by omega)
  simpa using this

theorem any_any {α : Type} (p : α → Bool) : ∀ (xs : List α) (k : Nat), anyI (fun _ x => p x) k xs = xs.any p
  | [], _ => rfl
  | x :: xs, k => by simp [anyI, any_any p xs]
theorem findL_any {α : Type} (p : α → Bool) (xs : List α) : decide ((match findL p xs with | some k => (k : Int) | none => -1) ≥ 0) = xs.any p := by
  obtain ⟨h1, h2⟩ := findL_spec p xs
  cases hf : findL p xs with
  | none =>
    have : xs.any p = false := by rw [List.any_eq_false]; exact fun x hx => by simp [h1 hf x hx]
    rw [this]; rfl
  | some k =>
    obtain ⟨x, g1, g2, _⟩ := h2 k hf
    have : xs.any p = true := by rw [List.any_eq_true]; exact ⟨x, List.mem_of_getElem? g1, g2⟩
    rw [this]
    simp

def badPiece (s : T_State.D) (i : Nat) (x : T_Piece.D) : Bool :=
  !pieceOkB x || decide (x.2.1 ≥ (s.2.1.length : Int)) || decide (x.2.2.1 ≥ (s.2.1.length : Int)) || decide (x.2.2.2.2.1 > s.2.2.2.1) || (decide (0 < i) && (s.1[i - 1]?).any (fun y => decide (y.1 ≥ x.1)))
def stateOkB (s : T_State.D) : Bool :=
  decide ((s.1.length : Int) ≤ 8) && (decide (2 ≤ (s.2.1.length : Int)) && decide ((s.2.1.length : Int) ≤ 3)) && (decide (0 ≤ s.2.2.1) && decide (s.2.2.1 ≤ (s.2.1.length : Int) - 1)) && (decide (0 ≤ s.2.2.2.1) && decide (s.2.2.2.1 ≤ 9999)) && !anyI (badPiece s) 0 s.1 && !s.2.1.any (fun x => !sideOkB x)
theorem prev_piece {s : T_State.D} {i : Nat} {x : T_Piece.D} (hx : s.1[i]? = some x) (hl : s.1.length ≤ 1048576) {R : Type} (κ : T_Piece.D → Option R) (h : 0 < i) : ∃ y, s.1[i - 1]? = some y ∧ idx s.1 (IntKind.wrap .i64 ((i : Int) - 1)) κ = κ y := by
  have hlt := (List.getElem?_eq_some_iff.1 hx).1
  have hy : s.1[i - 1]? = some (s.1[i - 1]'(by omega)) := List.getElem?_eq_getElem (by omega)
  refine ⟨_, hy, ?_⟩
  rw [wrap_id (by omega) (by omega), show ((i : Int) - 1) = ((i - 1 : Nat) : Int) by omega]
  exact idx_at hy
theorem pieceOk_sides {x : T_Piece.D} (h : pieceOkB x = true) : 0 ≤ x.2.1 ∧ 0 ≤ x.2.2.1 := by
  unfold pieceOkB at h
  simp only [Bool.and_eq_true, decide_eq_true_eq] at h
  exact ⟨h.1.1.1.1.1.1.1.1.1.1.1.1.1.1.2, h.1.1.1.1.1.1.1.1.1.1.1.1.2⟩
theorem in_side {a n : Int} (h : 0 ≤ a) : (decide (0 ≤ a) && decide (a ≤ n - 1)) = !decide (a ≥ n) := by
  by_cases hh : a ≥ n
  · rw [decide_eq_true hh, decide_eq_false (p := a ≤ n - 1) (by omega), Bool.and_false]; rfl
  · rw [decide_eq_false hh, decide_eq_true (p := a ≤ n - 1) (by omega), decide_eq_true h]; rfl
theorem index_side (xs : List T_Side.D) (hl : xs.length ≤ 1048576) (p : T_Side.D → Bool) (q : (T_Side.D × Unit) → Option Bool) (hq : ∀ x, q (x, ()) = some (p x)) :
    slices_IndexFunc_impl_Side xs q = some (match findL p xs with | some k => (k : Int) | none => -1) := by
  unfold slices_IndexFunc_impl_Side
  rw [index_loop xs (body := slices_IndexFunc_impl_Side_l1 xs q) p (fun i => i) (by omega) (fun i x hx => ?_) ?_]
  · cases findL p xs <;> rfl
  · unfold slices_IndexFunc_impl_Side_l1
    simp
  · unfold slices_IndexFunc_impl_Side_l1
    have hlt := (List.getElem?_eq_some_iff.1 hx).1
    have : ((i : Int) < (xs.length : Int)) := by omega
    simp only [this, decide_true, cond_true, idx_at hx, hq, Option.bind_some]
theorem spec_StateOk_eq (s : T_State.D) (hp : s.1.length ≤ 1048576) (hs : s.2.1.length ≤ 1048576) : spec_StateOk s = some (stateOkB s) := by
  unfold spec_StateOk stateOkB
  simp only [l1In_eq, Option.bind_some]
  rw [wrap_id (by omega) (by omega)]
  have hd : decide ((s.1.length : Int) > 8) = !decide ((s.1.length : Int) ≤ 8) := by rw [Bool.eq_iff_iff]; simp
  rw [hd]
  cases decide ((s.1.length : Int) ≤ 8)
  · rfl
  cases (decide (2 ≤ (s.2.1.length : Int)) && decide ((s.2.1.length : Int) ≤ 3))
  · rfl
  cases (decide (0 ≤ s.2.2.1) && decide (s.2.2.1 ≤ (s.2.1.length : Int) - 1))
  · rfl
  cases (decide (0 ≤ s.2.2.2.1) && decide (s.2.2.2.1 ≤ 9999))
  · rfl
  simp only [Bool.not_true, cond_false, Option.bind_some, Bool.true_and]
  rw [any_loop s.1 (body := spec_StateOk_l1 s) (badPiece s) false (by omega) (fun i x hx => ?_) (by unfold spec_StateOk_l1; simp)]
  · rw [any_loop s.2.1 (body := spec_StateOk_l2 s) (fun _ x => !sideOkB x) false (by omega) (fun i x hx => ?_) (by unfold spec_StateOk_l2; simp), any_any]
    · cases anyI (badPiece s) 0 s.1 <;> cases s.2.1.any (fun x => !sideOkB x) <;> rfl
    · have hlt := (List.getElem?_eq_some_iff.1 hx).1
      have hil : ((i : Int) < (s.2.1.length : Int)) := by omega
      unfold spec_StateOk_l2
      simp only [hil, decide_true, cond_true, idx_at hx, spec_l5Side_eq, Option.bind_some]
  · have hlt := (List.getElem?_eq_some_iff.1 hx).1
    have hil : ((i : Int) < (s.1.length : Int)) := by omega
    unfold spec_StateOk_l1 badPiece
    simp only [hil, decide_true, cond_true, idx_at hx, spec_PieceOk_eq, Option.bind_some]
    by_cases hi : 0 < i
    · obtain ⟨y, hy, hk⟩ := prev_piece hx hp (fun x8 => bif decide (x8.1 ≥ x.1) then some true else bif decide (x.2.1 ≥ (s.2.1.length : Int)) then some true else bif decide (x.2.2.1 ≥ (s.2.1.length : Int)) then some true else some (decide (x.2.2.2.2.1 > s.2.2.2.1))) hi
      have h1 : decide ((i : Int) > 0) = true := by simp; omega
      have h2 : decide (0 < i) = true := by simpa using hi
      rw [h1, h2, hy]
      simp only [cond_true, hk, Option.any_some]
      cases pieceOkB x <;> cases decide (y.1 ≥ x.1) <;> cases decide (x.2.1 ≥ (s.2.1.length : Int)) <;> cases decide (x.2.2.1 ≥ (s.2.1.length : Int)) <;> cases decide (x.2.2.2.2.1 > s.2.2.2.1) <;> rfl
    · have h1 : decide ((i : Int) > 0) = false := by simp; omega
      have h2 : decide (0 < i) = false := by simpa using hi
      rw [h1, h2]
      simp only [cond_false]
      cases pieceOkB x <;> cases decide (x.2.1 ≥ (s.2.1.length : Int)) <;> cases decide (x.2.2.1 ≥ (s.2.1.length : Int)) <;> cases decide (x.2.2.2.2.1 > s.2.2.2.1) <;> rfl
theorem impl_StateOk_eq (s : T_State.D) (hp : s.1.length ≤ 1048576) (hs : s.2.1.length ≤ 1048576) : impl_StateOk s = some (stateOkB s) := by
  unfold impl_StateOk stateOkB impl_isSide impl_isTime
  simp only [from_eq, Option.bind_some]
  rw [wrap_id (by omega) (by omega)]
  have hd : decide ((s.1.length : Int) > 8) = !decide ((s.1.length : Int) ≤ 8) := by rw [Bool.eq_iff_iff]; simp
  rw [hd]
  cases decide ((s.1.length : Int) ≤ 8)
  · rfl
  cases (decide (2 ≤ (s.2.1.length : Int)) && decide ((s.2.1.length : Int) ≤ 3))
  · rfl
  cases (decide (0 ≤ s.2.2.1) && decide (s.2.2.1 ≤ (s.2.1.length : Int) - 1))
  · rfl
  cases (decide (0 ≤ s.2.2.2.1) && decide (s.2.2.2.1 ≤ 9999))
  · rfl
  simp only [Bool.not_true, cond_false, Option.bind_some, Bool.true_and]
  have hc : slices_ContainsFunc_impl_Side s.2.1 (fun q => impl_StateOk_1 q.1) = some (s.2.1.any (fun x => !sideOkB x)) := by
    unfold slices_ContainsFunc_impl_Side
    rw [index_side s.2.1 hs (fun x => !sideOkB x) _ (fun x => impl_StateOk_1_eq x), Option.bind_some, findL_any]
  rw [any_loop s.1 (body := impl_StateOk_l1 s) (badPiece s) false (by omega) (fun i x hx => ?_) (by unfold impl_StateOk_l1; simp)]
  · rw [hc]
    cases anyI (badPiece s) 0 s.1 <;> cases s.2.1.any (fun x => !sideOkB x) <;> rfl
  · have hlt := (List.getElem?_eq_some_iff.1 hx).1
    have hil : ((i : Int) < (s.1.length : Int)) := by omega
    unfold impl_StateOk_l1 badPiece impl_isSide
    simp only [hil, decide_true, cond_true, idx_at hx, impl_PieceOk_eq, from_eq, Option.bind_some]
    rw [wrap_id (n := (s.2.1.length : Int) - 1) (by omega) (by omega)]
    cases hok : pieceOkB x
    · rfl
    obtain ⟨g1, g2⟩ := pieceOk_sides hok
    have e1 : (decide (0 ≤ x.2.1) && decide (x.2.1 ≤ (s.2.1.length : Int) - 1)) = !decide (x.2.1 ≥ (s.2.1.length : Int)) := in_side g1
    have e2 : (decide (0 ≤ x.2.2.1) && decide (x.2.2.1 ≤ (s.2.1.length : Int) - 1)) = !decide (x.2.2.1 ≥ (s.2.1.length : Int)) := in_side g2
    rw [e1, e2]
    by_cases hi : 0 < i
    · obtain ⟨y, hy, hk⟩ := prev_piece hx hp (fun x10 => some (decide (x10.1 ≥ x.1))) hi
      have h1 : decide ((i : Int) > 0) = true := by simp; omega
      have h2 : decide (0 < i) = true := by simpa using hi
      rw [h1, h2, hy]
      simp only [cond_true, hk, Option.any_some]
      cases decide (y.1 ≥ x.1) <;> cases decide (x.2.1 ≥ (s.2.1.length : Int)) <;> cases decide (x.2.2.1 ≥ (s.2.1.length : Int)) <;> cases decide (x.2.2.2.2.1 > s.2.2.2.1) <;> rfl
    · have h1 : decide ((i : Int) > 0) = false := by simp; omega
      have h2 : decide (0 < i) = false := by simpa using hi
      rw [h1, h2]
      simp only [cond_false]
      cases decide (x.2.1 ≥ (s.2.1.length : Int)) <;> cases decide (x.2.2.1 ≥ (s.2.1.length : Int)) <;> cases decide (x.2.2.2.2.1 > s.2.2.2.1) <;> rfl

/-! ### Events that are right -/
def eventOkB (e : T_Event.D) : Bool :=
  let piece := decide (1 ≤ e.2.2.1) && decide (e.2.2.1 ≤ 99) && (e.2.2.2.1 == -1)
  let side := (e.2.2.1 == 0) && decide (0 ≤ e.2.2.2.1) && decide (e.2.2.2.1 ≤ 2)
  decide (0 ≤ e.2.2.2.2.1) && decide (e.2.2.2.2.1 ≤ 2147483647) && (
    if e.1 = 1 then decide (1 ≤ e.2.1) && decide (e.2.1 ≤ 99) && (piece || side) && (e.2.2.2.2.2.1 == 0) && !e.2.2.2.2.2.2.1
    else if e.1 = 2 then (e.2.1 == 0) && piece && decide (1 ≤ e.2.2.2.2.2.1) && decide (e.2.2.2.2.2.1 ≤ 4) && decide (e.2.2.2.2.1 ≤ 99) && ((e.2.2.2.2.2.1 == 2) || (e.2.2.2.2.1 == 0) && !e.2.2.2.2.2.2.1)
    else if e.1 = 3 ∨ e.1 = 4 then (e.2.1 == 0) && side && (e.2.2.2.2.2.1 == 0) && !e.2.2.2.2.2.2.1
    else if e.1 = 5 ∨ e.1 = 6 then (e.2.1 == 0) && piece && (e.2.2.2.2.2.1 == 0) && !e.2.2.2.2.2.2.1
    else false)

theorem spec_EventOk_eq (e : T_Event.D) : spec_EventOk e = some (eventOkB e) := by
  obtain ⟨k, s, p, d, n, z, bt, u⟩ := e
  unfold spec_EventOk eventOkB
  simp only [l1In_eq, Option.bind_some, cond_eq_ite, some_ite]
  congr 1
  rw [Bool.eq_iff_iff]
  by_cases h1 : k = 1
  · subst h1; simp; grind
  by_cases h2 : k = 2
  · subst h2; simp; grind
  by_cases h3 : k = 3
  · subst h3; simp; grind
  by_cases h4 : k = 4
  · subst h4; simp; grind
  by_cases h5 : k = 5
  · subst h5; simp; grind
  by_cases h6 : k = 6
  · subst h6; simp; grind
  simp [h1, h2, h3, h4, h5, h6]
theorem impl_EventOk_eq (e : T_Event.D) : impl_EventOk e = some (eventOkB e) := by
  obtain ⟨k, s, p, d, n, z, bt, u⟩ := e
  unfold impl_EventOk eventOkB impl_isAmount impl_onPiece impl_onPlayer impl_isId impl_isZone impl_isPlayer
  simp only [from_eq, Option.bind_some, cond_eq_ite, some_ite, bne]
  congr 1
  rw [Bool.eq_iff_iff]
  by_cases h1 : k = 1
  · subst h1; simp; grind
  by_cases h2 : k = 2
  · subst h2; simp; grind
  by_cases h3 : k = 3
  · subst h3; simp; grind
  by_cases h4 : k = 4
  · subst h4; simp; grind
  by_cases h5 : k = 5
  · subst h5; simp; grind
  by_cases h6 : k = 6
  · subst h6; simp; grind
  simp [h1, h2, h3, h4, h5, h6]

theorem eventOk_facts {k s p d n z : Int} {bt : Bool} {u : Unit} (h : eventOkB (k, s, p, d, n, z, bt, u) = true) :
    (k = 1 ∧ (1 ≤ p ∨ p = 0 ∧ 0 ≤ d)) ∨ (k = 2 ∧ 1 ≤ p) ∨ ((k = 3 ∨ k = 4) ∧ p = 0 ∧ 0 ≤ d) ∨ ((k = 5 ∨ k = 6) ∧ 1 ≤ p) := by
  unfold eventOkB at h
  by_cases h1 : k = 1
  · subst h1; simp at h; grind
  by_cases h2 : k = 2
  · subst h2; simp at h; grind
  by_cases h3 : k = 3
  · subst h3; simp at h; grind
  by_cases h4 : k = 4
  · subst h4; simp at h; grind
  by_cases h5 : k = 5
  · subst h5; simp at h; grind
  by_cases h6 : k = 6
  · subst h6; simp at h; grind
  simp [h1, h2, h3, h4, h5, h6] at h

theorem index_event (xs : List T_Event.D) (hl : xs.length ≤ 1048576) (p : T_Event.D → Bool) (q : (T_Event.D × Unit) → Option Bool) (hq : ∀ x, q (x, ()) = some (p x)) :
    slices_IndexFunc_impl_Event xs q = some (match findL p xs with | some k => (k : Int) | none => -1) := by
  unfold slices_IndexFunc_impl_Event
  rw [index_loop xs (body := slices_IndexFunc_impl_Event_l1 xs q) p (fun i => i) (by omega) (fun i x hx => ?_) ?_]
  · cases findL p xs <;> rfl
  · unfold slices_IndexFunc_impl_Event_l1
    simp
  · unfold slices_IndexFunc_impl_Event_l1
    have hlt := (List.getElem?_eq_some_iff.1 hx).1
    have : ((i : Int) < (xs.length : Int)) := by omega
    simp only [this, decide_true, cond_true, idx_at hx, hq, Option.bind_some]
theorem contains_event (xs : List T_Event.D) (hl : xs.length ≤ 1048576) (p : T_Event.D → Bool) (q : (T_Event.D × Unit) → Option Bool) (hq : ∀ x, q (x, ()) = some (p x)) :
    slices_ContainsFunc_impl_Event xs q = some (xs.any p) := by
  unfold slices_ContainsFunc_impl_Event
  rw [index_event xs hl p q hq, Option.bind_some]
  obtain ⟨h1, h2⟩ := findL_spec p xs
  cases hf : findL p xs with
  | none =>
    have : xs.any p = false := by rw [List.any_eq_false]; exact fun x hx => by simp [h1 hf x hx]
    rw [this]; rfl
  | some k =>
    obtain ⟨x, g1, g2, _⟩ := h2 k hf
    have : xs.any p = true := by rw [List.any_eq_true]; exact ⟨x, List.mem_of_getElem? g1, g2⟩
    rw [this]
    simp

/-! ### GameOk -/
theorem some_iteG {α : Type} {c : Prop} [Decidable c] (a b : α) : (if c then some a else some b) = some (if c then a else b) := by split <;> rfl
def partOkB (e : T_Event.D) : Bool := eventOkB e || ((e.1 != 2) && (e.2.2.2.2.1 == -1) && eventOkB (e.1, e.2.1, e.2.2.1, e.2.2.2.1, 0, e.2.2.2.2.2))
theorem impl_partOk_eq (e : T_Event.D) : impl_partOk e = some (partOkB e) := by
  unfold impl_partOk partOkB
  simp only [impl_EventOk_eq, Option.bind_some]
  cases eventOkB e <;> cases (e.1 != 2) <;> cases (e.2.2.2.2.1 == -1) <;> rfl
theorem spec_part_eq (e : T_Event.D) : spec_l9Part e = some (partOkB e) := by
  unfold spec_l9Part partOkB
  simp only [spec_EventOk_eq, Option.bind_some]
  cases h : (e.2.2.2.2.1 == -1)
  · simp
  · have : eventOkB e = false := by
      unfold eventOkB
      have h1 : e.2.2.2.2.1 = -1 := by simpa using h
      have : decide (0 ≤ e.2.2.2.2.1) = false := by rw [h1]; rfl
      rw [this]; rfl
    rw [this]
    cases hk : (e.1 != 2) <;> simp [this, spec_EventOk_eq]
theorem act_loop (a : T_Act.D) (hl : a.2.2.2.2.2.2.1.length ≤ 1048576) : while_ (spec_ActOk_l1 a) 0 = some (bif a.2.2.2.2.2.2.1.any (fun e => !partOkB e) then .inr false else .inl (a.2.2.2.2.2.2.1.length : Int)) := by
  rw [any_loop a.2.2.2.2.2.2.1 (body := spec_ActOk_l1 a) (fun _ e => !partOkB e) false (by omega) (fun i x hx => ?_) (by unfold spec_ActOk_l1; simp), any_any]
  have hlt := (List.getElem?_eq_some_iff.1 hx).1
  have hil : ((i : Int) < (a.2.2.2.2.2.2.1.length : Int)) := by omega
  unfold spec_ActOk_l1
  simp only [hil, decide_true, cond_true, idx_at hx, spec_part_eq, Option.bind_some]
theorem actOk_eq' (k n p s z : Int) (bt : Bool) (L : List T_Event.D) (u : Unit) (hl : L.length ≤ 1048576) : ∃ b, spec_ActOk (k, n, p, s, z, bt, L, u) = some b ∧ impl_ActOk (k, n, p, s, z, bt, L, u) = some b := by
  have hW := act_loop (k, n, p, s, z, bt, L, u) hl
  have hC : slices_ContainsFunc_impl_Event L (fun q => impl_ActOk_1 q.1) = some (L.any (fun e => !partOkB e)) := contains_event L hl (fun e => !partOkB e) _ (fun x => by simp only [impl_ActOk_1, impl_partOk_eq, Option.bind_some])
  simp only at hW
  unfold spec_ActOk impl_ActOk spec_l9Plain impl_isId impl_isPlayer impl_isZone
  simp only [hW, hC, l1In_eq, from_eq, Option.bind_some]
  have hz : ((L.length : Int) == 0) = !decide ((L.length : Int) > 0) := by
    by_cases h : (L.length : Int) > 0
    · rw [decide_eq_true h]; simp only [Bool.not_true]; rw [beq_eq_false_iff_ne]; omega
    · rw [decide_eq_false h]; simp only [Bool.not_false]; rw [beq_iff_eq]; omega
  simp only [hz, bne]
  clear hW hC hz
  generalize L.any (fun e => !partOkB e) = q
  generalize hM : (decide (1 ≤ (L.length : Int)) && decide ((L.length : Int) ≤ 3)) = m3
  generalize decide ((L.length : Int) > 0) = m0
  by_cases h1 : k = 1
  · subst h1
    simp only [Int.reduceBEq, beq_self_eq_true, cond_true, cond_false, Option.bind_some, Bool.not_true, Bool.not_false]
    cases (n == 0) <;> cases (p == 0) <;> cases (s == -1) <;> cases (z == 0) <;> cases bt <;> cases m0 <;> exact ⟨_, rfl, rfl⟩
  by_cases h2 : k = 2
  · subst h2
    simp only [Int.reduceBEq, beq_self_eq_true, cond_true, cond_false, Option.bind_some, Bool.not_true, Bool.not_false]
    cases (n == 0) <;> cases (p == 0) <;> cases (s == -1) <;> cases (z == 0) <;> cases bt <;> cases m0 <;> exact ⟨_, rfl, rfl⟩
  by_cases h3 : k = 3
  · subst h3
    simp only [Int.reduceBEq, beq_self_eq_true, cond_true, cond_false, Option.bind_some, Bool.not_true, Bool.not_false]
    cases (decide (1 ≤ n) && decide (n ≤ 2147483647)) <;> cases (p == 0) <;> cases (s == -1) <;> cases (z == 0) <;> cases bt <;> cases m0 <;> exact ⟨_, rfl, rfl⟩
  by_cases h4 : k = 4
  · subst h4
    simp only [Int.reduceBEq, beq_self_eq_true, cond_true, cond_false, Option.bind_some, Bool.not_true, Bool.not_false]
    cases (n == 0) <;> cases (p == 0) <;> cases (s == -1) <;> cases (z == 0) <;> cases bt <;> cases m0 <;> exact ⟨_, rfl, rfl⟩
  by_cases h5 : k = 5
  · subst h5
    simp only [Int.reduceBEq, beq_self_eq_true, cond_true, cond_false, Option.bind_some, Bool.not_true, Bool.not_false]
    cases (n == 0) <;> cases (p == 0) <;> cases (s == -1) <;> cases (z == 0) <;> cases bt <;> cases m0 <;> exact ⟨_, rfl, rfl⟩
  by_cases h6 : k = 6
  · subst h6
    simp only [Int.reduceBEq, beq_self_eq_true, cond_true, cond_false, Option.bind_some, Bool.not_true, Bool.not_false]
    cases (n == 0) <;> cases (p == 0) <;> cases (s == -1) <;> cases (z == 0) <;> cases bt <;> cases m0 <;> cases (decide (1 ≤ p) && decide (p ≤ 99)) <;> cases (decide (0 ≤ s) && decide (s ≤ 2)) <;> exact ⟨_, rfl, rfl⟩
  by_cases h7 : k = 7
  · subst h7
    simp only [Int.reduceBEq, beq_self_eq_true, cond_true, cond_false, Option.bind_some, Bool.not_true, Bool.not_false]
    cases (n == 0) <;> cases (p == 0) <;> cases (s == -1) <;> cases bt <;> cases m0 <;> cases (decide (1 ≤ z) && decide (z ≤ 4)) <;> exact ⟨_, rfl, rfl⟩
  by_cases h8 : k = 8
  · subst h8
    simp only [Int.reduceBEq, beq_self_eq_true, cond_true, cond_false, Option.bind_some, Bool.not_true, Bool.not_false]
    cases (decide (0 ≤ n) && decide (n ≤ 99)) <;> cases (p == 0) <;> cases (s == -1) <;> cases (z == 0) <;> cases m0 <;> exact ⟨_, rfl, rfl⟩
  by_cases h9 : k = 9
  · subst h9
    simp only [Int.reduceBEq, beq_self_eq_true, cond_true, cond_false, Option.bind_some, Bool.not_true, Bool.not_false]
    cases (n == 0) <;> cases (p == 0) <;> cases (s == -1) <;> cases (z == 0) <;> cases bt <;> cases m3 <;> cases q <;> exact ⟨_, rfl, rfl⟩
  have e1 : (k == 1) = false := by rw [beq_eq_false_iff_ne]; exact h1
  have e2 : (k == 2) = false := by rw [beq_eq_false_iff_ne]; exact h2
  have e3 : (k == 3) = false := by rw [beq_eq_false_iff_ne]; exact h3
  have e4 : (k == 4) = false := by rw [beq_eq_false_iff_ne]; exact h4
  have e5 : (k == 5) = false := by rw [beq_eq_false_iff_ne]; exact h5
  have e6 : (k == 6) = false := by rw [beq_eq_false_iff_ne]; exact h6
  have e7 : (k == 7) = false := by rw [beq_eq_false_iff_ne]; exact h7
  have e8 : (k == 8) = false := by rw [beq_eq_false_iff_ne]; exact h8
  have e9 : (k == 9) = false := by rw [beq_eq_false_iff_ne]; exact h9
  simp only [e1, e2, e3, e4, e5, e6, e7, e8, e9, cond_true, cond_false, Option.bind_some, Bool.not_true, Bool.not_false]
  cases (n == 0) <;> cases (p == 0) <;> cases (s == -1) <;> cases (z == 0) <;> cases bt <;> cases m0 <;> exact ⟨_, rfl, rfl⟩
theorem actOk_eq (a : T_Act.D) (hl : a.2.2.2.2.2.2.1.length ≤ 1048576) : ∃ b, spec_ActOk a = some b ∧ impl_ActOk a = some b :=
  actOk_eq' a.1 a.2.1 a.2.2.1 a.2.2.2.1 a.2.2.2.2.1 a.2.2.2.2.2.1 a.2.2.2.2.2.2.1 a.2.2.2.2.2.2.2 hl
theorem ne_beq {a b : Int} (h : ¬ a = b) : (a == b) = false := by rw [beq_eq_false_iff_ne]; exact h
theorem actFits_eq (a : T_Act.D) (k : Int) : ∃ b, spec_ActFits a k = some b ∧ impl_ActFits a k = some b := by
  unfold spec_ActFits impl_ActFits impl_isKind
  simp only [l1In_eq, from_eq, Option.bind_some]
  generalize (decide (1 ≤ k) && decide (k ≤ 6)) = m
  cases m
  · exact ⟨_, rfl, rfl⟩
  by_cases h1 : a.1 = 1
  · rw [h1]; exact ⟨_, rfl, rfl⟩
  by_cases h2 : a.1 = 2
  · rw [h2]; exact ⟨_, rfl, rfl⟩
  by_cases h3 : a.1 = 3
  · rw [h3]; exact ⟨_, rfl, rfl⟩
  by_cases h4 : a.1 = 4
  · rw [h4]; exact ⟨_, rfl, rfl⟩
  by_cases h5 : a.1 = 5
  · rw [h5]; exact ⟨_, rfl, rfl⟩
  by_cases h6 : a.1 = 6
  · rw [h6]; exact ⟨_, rfl, rfl⟩
  by_cases h7 : a.1 = 7
  · rw [h7]; exact ⟨_, rfl, rfl⟩
  by_cases h8 : a.1 = 8
  · rw [h8]; exact ⟨_, rfl, rfl⟩
  by_cases h9 : a.1 = 9
  · rw [h9]; exact ⟨_, rfl, rfl⟩
  refine ⟨false, ?_, ?_⟩ <;> simp only [ne_beq h1, ne_beq h2, ne_beq h3, ne_beq h4, ne_beq h5, ne_beq h6, ne_beq h7, ne_beq h8, ne_beq h9, cond_true, cond_false, Option.bind_some, Bool.not_true, Bool.not_false]
theorem patOk_eq' (k c so tr pc am z : Int) (u : Unit) : ∃ b, spec_PatOk (k, c, so, tr, pc, am, z, u) = some b ∧ impl_PatOk (k, c, so, tr, pc, am, z, u) = some b := by
  unfold spec_PatOk impl_PatOk impl_isKind impl_isTraits impl_isAmount
  simp only [l1In_eq, from_eq, Option.bind_some, cond_eq_ite, some_iteG]
  refine ⟨_, rfl, ?_⟩
  congr 1
  rw [Bool.eq_iff_iff]
  simp
  grind
theorem patOk_eq (p : T_Pat.D) : ∃ b, spec_PatOk p = some b ∧ impl_PatOk p = some b := patOk_eq' p.1 p.2.1 p.2.2.1 p.2.2.2.1 p.2.2.2.2.1 p.2.2.2.2.2.1 p.2.2.2.2.2.2.1 p.2.2.2.2.2.2.2
theorem guardOk_eq' (k n : Int) (u : Unit) : ∃ b, spec_GuardOk (k, n, u) = some b ∧ impl_GuardOk (k, n, u) = some b := by
  unfold spec_GuardOk impl_GuardOk
  simp only [l1In_eq, from_eq, impl_Bound_eq, Option.bind_some, cond_eq_ite, some_iteG]
  refine ⟨_, rfl, ?_⟩
  congr 1
  rw [Bool.eq_iff_iff]
  unfold boundV
  simp
  grind
theorem guardOk_eq (p : T_Guard.D) : ∃ b, spec_GuardOk p = some b ∧ impl_GuardOk p = some b := guardOk_eq' p.1 p.2.1 p.2.2
theorem effectOk_eq (x : T_Effect.D) (hl : x.2.2.2.2.2.2.1.2.2.2.2.2.2.1.length ≤ 1048576) : ∃ b, spec_EffectOk x = some b ∧ impl_EffectOk x = some b := by
  obtain ⟨b1, p1, q1⟩ := patOk_eq x.2.2.2.2.1
  obtain ⟨b2, p2, q2⟩ := guardOk_eq x.2.2.2.2.2.1
  obtain ⟨b3, p3, q3⟩ := actOk_eq x.2.2.2.2.2.2.1 hl
  obtain ⟨b4, p4, q4⟩ := actFits_eq x.2.2.2.2.2.2.1 x.2.2.2.2.1.1
  unfold spec_EffectOk impl_EffectOk impl_isId impl_isPlayer
  simp only [p1, p2, p3, p4, q1, q2, q3, q4, l1In_eq, from_eq, Option.bind_some]
  simp only [cond_eq_ite, some_iteG, Option.bind_some]
  refine ⟨_, rfl, ?_⟩
  congr 1
  rw [Bool.eq_iff_iff]
  generalize x.2.2.2.2.2.2.1.1 = ak
  generalize x.1 = i
  generalize x.2.1 = ow
  generalize x.2.2.1 = so
  generalize x.2.2.2.1 = du
  generalize x.2.2.2.2.2.2.2.1 = co
  generalize x.2.2.2.2.2.2.2.2.1 = on
  clear p1 p2 p3 p4 q1 q2 q3 q4 hl
  simp
  grind
noncomputable def effectOkB (x : T_Effect.D) : Bool := (impl_EffectOk x).getD false
theorem impl_EffectOk_eq (x : T_Effect.D) (hl : x.2.2.2.2.2.2.1.2.2.2.2.2.2.1.length ≤ 1048576) : impl_EffectOk x = some (effectOkB x) := by
  obtain ⟨b, _, h⟩ := effectOk_eq x hl
  unfold effectOkB; rw [h]; rfl
theorem spec_EffectOk_eq (x : T_Effect.D) (hl : x.2.2.2.2.2.2.1.2.2.2.2.2.2.1.length ≤ 1048576) : spec_EffectOk x = some (effectOkB x) := by
  obtain ⟨b, h1, h⟩ := effectOk_eq x hl
  unfold effectOkB; rw [h, h1]; rfl


/-! ### Tables, turns, games -/
noncomputable def badEffect (xs : List T_Effect.D) (i : Nat) (x : T_Effect.D) : Bool := !effectOkB x || (decide (0 < i) && (xs[i - 1]?).any (fun y => decide (y.1 ≥ x.1)))
theorem prev_at {α R : Type} {xs : List α} {i : Nat} {x : α} (hx : xs[i]? = some x) (hl : xs.length ≤ 1048576) (κ : α → Option R) (h : 0 < i) : ∃ y, xs[i - 1]? = some y ∧ idx xs (IntKind.wrap .i64 ((i : Int) - 1)) κ = κ y := by
  have hlt := (List.getElem?_eq_some_iff.1 hx).1
  have hy : xs[i - 1]? = some (xs[i - 1]'(by omega)) := List.getElem?_eq_getElem (by omega)
  refine ⟨_, hy, ?_⟩
  rw [wrap_id (by omega) (by omega), show ((i : Int) - 1) = ((i - 1 : Nat) : Int) by omega]
  exact idx_at hy
theorem spec_TableOk_eq (xs : List T_Effect.D) (h : okD (.slice T_Effect) xs) : spec_TableOk xs = some (!anyI (badEffect xs) 0 xs && decide ((xs.length : Int) ≤ 5)) := by
  have hl : xs.length ≤ 1048576 := h.1
  unfold spec_TableOk
  rw [any_loop xs (body := spec_TableOk_l1 xs) (badEffect xs) false (by omega) (fun i x hx => ?_) (by unfold spec_TableOk_l1; simp)]
  · cases anyI (badEffect xs) 0 xs <;> rfl
  · have hlt := (List.getElem?_eq_some_iff.1 hx).1
    have hil : ((i : Int) < (xs.length : Int)) := by omega
    have hok := (h.2 x (List.mem_of_getElem? hx)).2.2.2.2.2.2.1.2.2.2.2.2.2.1.1
    unfold spec_TableOk_l1 badEffect
    simp only [hil, decide_true, cond_true, idx_at hx, spec_EffectOk_eq x hok, Option.bind_some]
    by_cases hi : 0 < i
    · obtain ⟨y, hy, hk⟩ := prev_at hx hl (fun x4 => some (decide (x4.1 ≥ x.1))) hi
      rw [decide_eq_true (p := (i : Int) > 0) (by omega), decide_eq_true hi, hy]
      simp only [cond_true, hk, Option.any_some]
      cases effectOkB x <;> cases decide (y.1 ≥ x.1) <;> rfl
    · rw [decide_eq_false (p := (i : Int) > 0) (by omega), decide_eq_false hi]
      cases effectOkB x <;> rfl
theorem impl_TableOk_eq (xs : List T_Effect.D) (h : okD (.slice T_Effect) xs) : impl_TableOk xs = some (!anyI (badEffect xs) 0 xs && decide ((xs.length : Int) ≤ 5)) := by
  have hl : xs.length ≤ 1048576 := h.1
  unfold impl_TableOk
  rw [any_loop xs (body := impl_TableOk_l1 xs) (badEffect xs) false (by omega) (fun i x hx => ?_) (by unfold impl_TableOk_l1; simp)]
  · cases anyI (badEffect xs) 0 xs <;> rfl
  · have hlt := (List.getElem?_eq_some_iff.1 hx).1
    have hil : ((i : Int) < (xs.length : Int)) := by omega
    have hok := (h.2 x (List.mem_of_getElem? hx)).2.2.2.2.2.2.1.2.2.2.2.2.2.1.1
    unfold impl_TableOk_l1 badEffect
    simp only [hil, decide_true, cond_true, idx_at hx, impl_EffectOk_eq x hok, Option.bind_some]
    by_cases hi : 0 < i
    · obtain ⟨y, hy, hk⟩ := prev_at hx hl (fun x4 => some (decide (x4.1 ≥ x.1))) hi
      rw [decide_eq_true (p := (i : Int) > 0) (by omega), decide_eq_true hi, hy]
      simp only [cond_true, hk, Option.any_some]
      cases effectOkB x <;> cases decide (y.1 ≥ x.1) <;> rfl
    · rw [decide_eq_false (p := (i : Int) > 0) (by omega), decide_eq_false hi]
      cases effectOkB x <;> rfl

/-! ### Pieces found -/
def pieceAt (s : T_State.D) (a : Int) : Int := match findL (fun (x : T_Piece.D) => x.1 == a) s.1 with | some k => (k : Int) | none => -1
theorem pieceAt_cases (s : T_State.D) (a : Int) : pieceAt s a = -1 ∨ ∃ (k : Nat) (x : T_Piece.D), pieceAt s a = k ∧ s.1[k]? = some x ∧ x.1 = a := by
  unfold pieceAt
  obtain ⟨h1, h2⟩ := findL_spec (fun (x : T_Piece.D) => x.1 == a) s.1
  cases hf : findL (fun (x : T_Piece.D) => x.1 == a) s.1 with
  | none => exact .inl rfl
  | some k =>
    obtain ⟨x, g1, g2, _⟩ := h2 k hf
    exact .inr ⟨k, x, rfl, g1, by simpa using g2⟩
theorem spec_PieceAt_eq (s : T_State.D) (a : Int) (h : s.1.length ≤ 1048576) : spec_PieceAt s a = some (pieceAt s a) := by
  unfold spec_PieceAt pieceAt
  rw [index_loop s.1 (body := spec_PieceAt_l1 s a) (fun (x : T_Piece.D) => x.1 == a) (fun i => i) (by omega) (fun i x hx => ?_) ?_]
  · cases findL (fun (x : T_Piece.D) => x.1 == a) s.1 <;> rfl
  · unfold spec_PieceAt_l1
    simp
  · unfold spec_PieceAt_l1
    have hlt := (List.getElem?_eq_some_iff.1 hx).1
    have : ((i : Int) < (s.1.length : Int)) := by omega
    simp only [this, decide_true, cond_true, idx_at hx]
theorem index_piece (xs : List T_Piece.D) (hl : xs.length ≤ 1048576) (p : T_Piece.D → Bool) (q : (T_Piece.D × Unit) → Option Bool) (hq : ∀ x, q (x, ()) = some (p x)) :
    slices_IndexFunc_impl_Piece xs q = some (match findL p xs with | some k => (k : Int) | none => -1) := by
  unfold slices_IndexFunc_impl_Piece
  rw [index_loop xs (body := slices_IndexFunc_impl_Piece_l1 xs q) p (fun i => i) (by omega) (fun i x hx => ?_) ?_]
  · cases findL p xs <;> rfl
  · unfold slices_IndexFunc_impl_Piece_l1
    simp
  · unfold slices_IndexFunc_impl_Piece_l1
    have hlt := (List.getElem?_eq_some_iff.1 hx).1
    have : ((i : Int) < (xs.length : Int)) := by omega
    simp only [this, decide_true, cond_true, idx_at hx, hq, Option.bind_some]
theorem impl_PieceAt_eq (s : T_State.D) (a : Int) (h : s.1.length ≤ 1048576) : impl_PieceAt s a = some (pieceAt s a) := by
  unfold impl_PieceAt pieceAt
  rw [index_piece s.1 h (fun (x : T_Piece.D) => x.1 == a) _ (fun x => rfl)]
  rfl


theorem source_eq (s : T_State.D) (e : T_Event.D) (h : s.1.length ≤ 1048576) : ∃ p, spec_Source s e = some p ∧ impl_Source s e = some p := by
  unfold spec_Source impl_Source
  simp only [spec_PieceAt_eq s _ h, impl_PieceAt_eq s _ h, Option.bind_some]
  rcases pieceAt_cases s e.2.1 with h | ⟨k, x, h1, h2, _⟩
  · rw [h]
    cases (e.1 != 1) <;> exact ⟨_, rfl, rfl⟩
  · rw [h1, dec_neg (by omega)]
    cases (e.1 != 1)
    · simp only [cond_false, Option.bind_some, idx_at h2]; exact ⟨_, rfl, rfl⟩
    · exact ⟨_, rfl, rfl⟩
noncomputable def sourceV (s : T_State.D) (e : T_Event.D) : T_Piece.D := (impl_Source s e).getD (0, 0, 0, 0, 0, 0, 0, 0, 0, 0, 0, false, false, ())
theorem impl_Source_eq (s : T_State.D) (e : T_Event.D) (h : s.1.length ≤ 1048576) : impl_Source s e = some (sourceV s e) := by
  obtain ⟨p, _, h2⟩ := source_eq s e h
  unfold sourceV; rw [h2]; rfl
theorem spec_Source_eq (s : T_State.D) (e : T_Event.D) (h : s.1.length ≤ 1048576) : spec_Source s e = some (sourceV s e) := by
  obtain ⟨p, h1, h2⟩ := source_eq s e h
  unfold sourceV; rw [h2, h1]; rfl

/-! ### OnField -/
def fieldG (a : Int) (_ : Nat) (x : T_Piece.D) : List Int := bif (x.2.2.2.1 == 2) && ((a == -1) || (x.2.2.1 == a)) then [x.1] else []
theorem fieldG_len (a : Int) (i : Nat) (x : T_Piece.D) : (fieldG a i x).length ≤ 1 := by unfold fieldG; cases ((x.2.2.2.1 == 2) && ((a == -1) || (x.2.2.1 == a))) <;> simp
theorem impl_OnField_eq (s : T_State.D) (a : Int) (h : s.1.length ≤ 1048576) : impl_OnField s a = some (collect (fieldG a) 0 s.1) := by
  unfold impl_OnField
  rw [append_loop s.1 (fieldG a) (fun s => s) (fieldG_len a) (by omega) (fun t i x hI hx => ?_) (fun t => ?_)]
  · rfl
  · have hlt := (List.getElem?_eq_some_iff.1 hx).1
    have hil : ((i : Int) < (s.1.length : Int)) := by omega
    unfold impl_OnField_l1 fieldG
    simp only [hil, decide_true, cond_true, idx_at hx]
    rw [if_pos (by simp only [room, List.length_cons, List.length_nil]; omega)]
    cases (x.2.2.2.1 == 2) <;> cases (a == -1) <;> cases (x.2.2.1 == a) <;> simp
  · unfold impl_OnField_l1; simp

theorem spec_Plus_eq (a b : Int) : spec_Plus a b = some (plusV a b) := by unfold spec_Plus; simp only [spec_Bound_eq, Option.bind_some]; rfl
theorem impl_Plus_eq (a b : Int) : impl_Plus a b = some (plusV a b) := by unfold impl_Plus; simp only [impl_Bound_eq, Option.bind_some]; rfl
theorem spec_Less_eq (a b : Int) : spec_Less a b = some (lessV a b) := by unfold spec_Less; simp only [spec_Bound_eq, Option.bind_some]; rfl
theorem impl_Less_eq (a b : Int) : impl_Less a b = some (lessV a b) := by unfold impl_Less; simp only [impl_Bound_eq, Option.bind_some]; rfl

theorem boundV_in (n : Int) : -2147483647 ≤ boundV n ∧ boundV n ≤ 2147483647 := by unfold boundV; split <;> (try split) <;> omega
theorem boundV_id {n : Int} (h1 : -2147483647 ≤ n) (h2 : n ≤ 2147483647) : boundV n = n := by unfold boundV; split <;> (try split) <;> omega
theorem plusV_in (a b : Int) : -2147483647 ≤ plusV a b ∧ plusV a b ≤ 2147483647 := boundV_in _
theorem lessV_in (a b : Int) : -2147483647 ≤ lessV a b ∧ lessV a b ≤ 2147483647 := boundV_in _
theorem plusV_nonneg {a b : Int} (ha : 0 ≤ a) (hb : 0 ≤ b) : 0 ≤ plusV a b := by
  unfold plusV
  have h1 := boundV_in a
  have h2 := boundV_in b
  have h3 : 0 ≤ boundV a := by unfold boundV; split <;> (try split) <;> omega
  have h4 : 0 ≤ boundV b := by unfold boundV; split <;> (try split) <;> omega
  rw [wrap_id (by omega) (by omega)]
  unfold boundV
  split <;> (try split) <;> omega

def up (a b : Int) : Int := if (if b < a then b else a) > 0 then (if b < a then b else a) else 0
theorem impl_Upto_eq (a b : Int) : impl_Upto a b = some (up a b) := rfl
theorem spec_Upto_eq (a b : Int) (hb : 0 ≤ b) : spec_Upto a b = some (up a b) := by
  unfold spec_Upto up
  simp only [cond_eq_ite, decide_eq_true_eq]
  split <;> simp only [Option.bind_some] <;> (try split) <;> (try split) <;> (try split) <;> first | rfl | (congr 1; omega) | omega

theorem up_in' (a : Int) : 0 ≤ up a 2147483647 ∧ up a 2147483647 ≤ 2147483647 := by unfold up; split <;> (try split) <;> omega
theorem up_self {a : Int} (h0 : 0 ≤ a) (h1 : a ≤ 2147483647) : up a 2147483647 = a := by unfold up; split <;> (try split) <;> omega
theorem eventOk_most' {v : T_Event.D} (h : eventOkB v = true) : 0 ≤ v.2.2.2.2.1 ∧ v.2.2.2.2.1 ≤ 2147483647 := by
  unfold eventOkB at h
  rw [Bool.and_eq_true, Bool.and_eq_true] at h
  exact ⟨of_decide_eq_true h.1.1, of_decide_eq_true h.1.2⟩
def totC (v : T_Event.D) : Int := if v.1 = 1 then up v.2.2.2.2.1 2147483647 else 0
theorem totC_in (v : T_Event.D) : 0 ≤ totC v ∧ totC v ≤ 2147483647 := by
  unfold totC
  split
  · exact up_in' _
  · omega
theorem sum_in : ∀ (l : List T_Event.D), 0 ≤ (l.map totC).sum ∧ (l.map totC).sum ≤ 2147483647 * (l.length : Int)
  | [] => by simp
  | a :: l => by
    have h1 := sum_in l
    have h2 := totC_in a
    simp only [List.map_cons, List.sum_cons, List.length_cons]
    omega
theorem sum_take_succ {α : Type} (f : α → Int) (l : List α) (i : Nat) (x : α) (h : l[i]? = some x) : ((l.take (i + 1)).map f).sum = ((l.take i).map f).sum + f x := by
  rw [List.take_add_one, h]
  simp [List.sum_append]

theorem index_Event (xs : List T_Event.D) (hl : xs.length ≤ 1048576) (p : T_Event.D → Bool) (q : (T_Event.D × Unit) → Option Bool) (hq : ∀ x, q (x, ()) = some (p x)) :
    slices_IndexFunc_impl_Event xs q = some (match findL p xs with | some k => (k : Int) | none => -1) := by
  unfold slices_IndexFunc_impl_Event
  rw [index_loop xs (body := slices_IndexFunc_impl_Event_l1 xs q) p (fun i => i) (by omega) (fun i x hx => ?_) ?_]
  · cases findL p xs <;> rfl
  · unfold slices_IndexFunc_impl_Event_l1
    simp
  · unfold slices_IndexFunc_impl_Event_l1
    have hlt := (List.getElem?_eq_some_iff.1 hx).1
    have : ((i : Int) < (xs.length : Int)) := by omega
    simp only [this, decide_true, cond_true, idx_at hx, hq, Option.bind_some]
theorem deleteFunc_Event (xs : List T_Event.D) (hl : xs.length ≤ 1048576) (p : T_Event.D → Bool) (q : (T_Event.D × Unit) → Option Bool) (hq : ∀ x, q (x, ()) = some (p x)) :
    slices_DeleteFunc_impl_Event xs q = some (xs.filter (fun x => !p x), ()) := by
  unfold slices_DeleteFunc_impl_Event
  rw [index_Event xs hl p q hq, Option.bind_some]
  obtain ⟨h1, h2⟩ := findL_spec p xs
  cases hf : findL p xs with
  | none =>
    have : xs.filter (fun x => !p x) = xs := by rw [List.filter_eq_self]; intro x hx; simp [h1 hf x hx]
    rw [this]; rfl
  | some k =>
    obtain ⟨x, g1, g2, g3⟩ := h2 k hf
    have hk := (List.getElem?_eq_some_iff.1 g1).1
    have n1 : ((k : Int) == -1) = false := by simp
    simp only [n1, cond_false]
    rw [wrap_id (by omega) (by omega)]
    obtain ⟨ys, m, e1, e2, e3, e4⟩ : ∃ (ys : List T_Event.D) (m : Nat), while_ (slices_DeleteFunc_impl_Event_l1 q) (xs, (k : Int), (k : Int) + 1) = some (ys, (m : Int), (xs.length : Int)) ∧ ys.length = xs.length ∧ m ≤ xs.length ∧ ys.take m = xs.filter (fun x => !p x) := by
      refine delete_loop xs (body := slices_DeleteFunc_impl_Event_l1 q) p (fun s => s) (by omega) (fun ys i j x hx hij hl' => ?_) (fun ys i hl' => ?_) k x g1 g2 g3
      · have hlt := (List.getElem?_eq_some_iff.1 hx).1
        have hil : ((j : Int) < (ys.length : Int)) := by omega
        obtain ⟨y, hy⟩ : ∃ y, ys[i]? = some y := ⟨_, List.getElem?_eq_getElem (by omega)⟩
        unfold slices_DeleteFunc_impl_Event_l1
        simp (disch := omega) only [hil, decide_true, cond_true, Int.toNat_natCast, idx_at hx, hx, hq, Option.bind_some, idx_at hy, hy, wrap_id]
        cases p x <;> rfl
      · unfold slices_DeleteFunc_impl_Event_l1
        have : ¬ ((xs.length : Int) < (ys.length : Int)) := by omega
        simp only [this, decide_false, cond_false]
    rw [e1, Option.bind_some]
    have t1 : 0 ≤ (m : Int) := by omega
    have t2 : (m : Int) ≤ (ys.length : Int) := by omega
    simp only [t1, t2, if_true, Int.le_refl, Int.toNat_natCast]
    have z1 : m ≤ ys.length := by omega
    rw [if_pos (by simp only [List.length_append, List.length_take, List.length_replicate, List.length_drop]; omega)]
    have : ∀ (zs : List T_Event.D), (ys.take m ++ zs).take m = ys.take m := fun zs => by rw [List.take_append_of_le_length (by simp; omega), List.take_take, Nat.min_self]
    rw [List.append_assoc, this, e4]
    simp

theorem collect_map {α β : Type} (f : α → β) : ∀ (xs : List α) (i : Nat), collect (fun _ x => [f x]) i xs = xs.map f
  | [], _ => rfl
  | x :: xs, i => by simp only [collect, List.map_cons, collect_map f xs (i + 1)]; rfl

theorem spec_table_copy (xs : List T_Effect.D) (h : okD (.slice T_Effect) xs) : spec_l11Copy xs = some xs := by
  have hl : xs.length ≤ 1048576 := h.1
  unfold spec_l11Copy
  rw [append_loop xs (fun _ x => [x]) (fun s => s) (fun _ _ => by simp) (by omega) (fun t i x hI hx => ?_) (fun t => ?_)]
  · rw [Option.bind_some, collect_map]; simp
  · have hlt := (List.getElem?_eq_some_iff.1 hx).1
    have hil : ((i : Int) < (xs.length : Int)) := by omega
    have hle := (h.2 x (List.mem_of_getElem? hx)).2.2.2.2.2.2.1.2.2.2.2.2.2.1.1
    unfold spec_l11Copy_l1 spec_l10Copy spec_l9Copy
    simp only [hil, decide_true, cond_true, idx_at hx, List.nil_append]
    rw [if_pos (by simp only [room, List.length_nil]; omega)]
    simp only [Option.bind_some]
    rw [if_pos (by simp only [room, List.length_cons, List.length_nil]; omega)]
  · unfold spec_l11Copy_l1; simp
theorem impl_table_copy (xs : List T_Effect.D) (h : okD (.slice T_Effect) xs) : impl_copyTable xs = some xs := by
  have hl : xs.length ≤ 1048576 := h.1
  unfold impl_copyTable
  rw [append_loop xs (fun _ x => [x]) (fun s => s) (fun _ _ => by simp) (by omega) (fun t i x hI hx => ?_) (fun t => ?_)]
  · rw [Option.bind_some, collect_map]; simp
  · have hlt := (List.getElem?_eq_some_iff.1 hx).1
    have hil : ((i : Int) < (xs.length : Int)) := by omega
    have hle := (h.2 x (List.mem_of_getElem? hx)).2.2.2.2.2.2.1.2.2.2.2.2.2.1.1
    unfold impl_copyTable_l1 impl_copyEffect slices_Clone_impl_Event
    simp only [hil, decide_true, cond_true, idx_at hx, List.nil_append]
    rw [if_pos (by simp only [room, List.length_nil]; omega)]
    simp only [Option.bind_some]
    rw [if_pos (by simp only [room, List.length_cons, List.length_nil]; omega)]
  · unfold impl_copyTable_l1; simp

def partV (n : Int) (x : T_Event.D) : T_Event.D := bif (x.2.2.2.2.1 == (-1)) then (x.1, x.2.1, x.2.2.1, x.2.2.2.1, up n 2147483647, x.2.2.2.2.2) else x
theorem impl_Parts_eq (a : T_Act.D) (e : T_Event.D) (hk : a.1 = 9) (hl : a.2.2.2.2.2.2.1.length ≤ 1048576) : impl_Parts a e = some (a.2.2.2.2.2.2.1.map (partV e.2.2.2.2.1)) := by
  unfold impl_Parts
  have : (a.1 != 9) = false := by rw [hk]; rfl
  rw [this, cond_false]
  rw [append_loop a.2.2.2.2.2.2.1 (fun _ x => [partV e.2.2.2.2.1 x]) (fun s => s) (fun _ _ => by simp) (by omega) (fun t i x hI hx => ?_) (fun t => ?_)]
  · rw [collect_map]; rfl
  · have hlt := (List.getElem?_eq_some_iff.1 hx).1
    have hil : ((i : Int) < (a.2.2.2.2.2.2.1.length : Int)) := by omega
    unfold impl_Parts_l1 partV
    simp only [hil, decide_true, cond_true, idx_at hx, impl_Upto_eq, Option.bind_some]
    cases (x.2.2.2.2.1 == -1)
    · simp only [cond_false, Option.bind_some]
      rw [if_pos (by simp only [room, List.length_cons, List.length_nil]; omega)]
    · simp only [cond_true, Option.bind_some]
      rw [if_pos (by simp only [room, List.length_cons, List.length_nil]; omega)]
  · unfold impl_Parts_l1; simp
theorem spec_Parts_eq (a : T_Act.D) (e : T_Event.D) (hk : a.1 = 9) (hl : a.2.2.2.2.2.2.1.length ≤ 1048576) : spec_Parts a e = some (a.2.2.2.2.2.2.1.map (partV e.2.2.2.2.1)) := by
  unfold spec_Parts
  rw [append_loop a.2.2.2.2.2.2.1 (fun _ x => [partV e.2.2.2.2.1 x]) (fun s => s) (fun _ _ => by simp) (by omega) (fun t i x hI hx => ?_) (fun t => ?_)]
  · rw [collect_map]; rfl
  · have hlt := (List.getElem?_eq_some_iff.1 hx).1
    have hil : ((i : Int) < (a.2.2.2.2.2.2.1.length : Int)) := by omega
    have h9 : (a.1 == 9) = true := by rw [hk]; rfl
    unfold spec_Parts_l1 partV
    simp only [hil, decide_true, cond_true, h9, idx_at hx, spec_Upto_eq _ 2147483647 (by decide), Option.bind_some]
    cases (x.2.2.2.2.1 == -1)
    · simp only [cond_false, Option.bind_some]
      rw [if_pos (by simp only [room, List.length_cons, List.length_nil]; omega)]
    · simp only [cond_true, Option.bind_some]
      rw [if_pos (by simp only [room, List.length_cons, List.length_nil]; omega)]
  · unfold spec_Parts_l1; simp
def goneB (e : T_Event.D) : Bool := (e.2.2.2.2.1 == 0) && (e.1 != 2)
theorem impl_Gone_eq (e : T_Event.D) : impl_Gone e = some (goneB e) := by unfold impl_Gone goneB; cases (e.2.2.2.2.1 == 0) <;> rfl
theorem spec_Gone_eq (e : T_Event.D) : spec_Gone e = some (goneB e) := by unfold spec_Gone goneB; cases (e.2.2.2.2.1 == 0) <;> rfl
def keptB (e : T_Event.D) : Bool := eventOkB e && !goneB e
theorem act_drop (L : List T_Event.D) (hl : L.length ≤ 1048576) : slices_DeleteFunc_impl_Event L (fun q => impl_DoAct_1 q.1) = some (L.filter keptB, ()) := by
  rw [deleteFunc_Event L hl (fun e => !keptB e) _ (fun x => by
    unfold impl_DoAct_1 keptB
    simp only [impl_EventOk_eq, impl_Gone_eq, Option.bind_some]
    cases eventOkB x <;> cases goneB x <;> rfl)]
  simp only [Bool.not_not]
theorem act_keep (o : (List T_Event.D) × Int) (hl : o.1.length ≤ 1048576) : while_ (spec_DoAct_l1 o) ([], 0) = some (o.1.filter keptB, (o.1.length : Int)) := by
  rw [append_loop o.1 (fun _ x => if keptB x then [x] else []) (fun s => s) (fun _ x => by split <;> simp) (by omega) (fun t i x hI hx => ?_) (fun t => ?_)]
  · rw [collect_filter]
  · have hlt := (List.getElem?_eq_some_iff.1 hx).1
    have hil : ((i : Int) < (o.1.length : Int)) := by omega
    unfold spec_DoAct_l1 keptB
    simp only [hil, decide_true, cond_true, idx_at hx, Int.toNat_natCast, hx, spec_EventOk_eq, spec_Gone_eq, Option.bind_some]
    cases eventOkB x <;> cases goneB x <;> simp only [cond_true, cond_false, Option.bind_some, Bool.not_true, Bool.not_false, Bool.and_true, Bool.and_false, Bool.false_and, Bool.true_and, if_true, if_false, List.append_nil, Bool.false_eq_true]
    rw [if_pos (by simp only [room, List.length_cons, List.length_nil]; omega)]
    rfl
  · unfold spec_DoAct_l1; simp
theorem impl_copyEffect_eq (x : T_Effect.D) (hl : x.2.2.2.2.2.2.1.2.2.2.2.2.2.1.length ≤ 1048576) : impl_copyEffect x = some x := by
  unfold impl_copyEffect slices_Clone_impl_Event
  rw [if_pos (by simp only [room, List.length_nil]; omega)]
  rfl
theorem spec_copyEffect_eq (x : T_Effect.D) (hl : x.2.2.2.2.2.2.1.2.2.2.2.2.2.1.length ≤ 1048576) : spec_l10Copy x = some x := by
  unfold spec_l10Copy spec_l9Copy
  rw [if_pos (by simp only [room, List.length_nil]; omega)]
  rfl
theorem impl_WithN_eq (e : T_Event.D) (n : Int) : impl_WithN e n = some (e.1, e.2.1, e.2.2.1, e.2.2.2.1, up n 2147483647, e.2.2.2.2.2) := rfl
theorem spec_WithN_eq (e : T_Event.D) (n : Int) : spec_WithN e n = some (e.1, e.2.1, e.2.2.1, e.2.2.2.1, up n 2147483647, e.2.2.2.2.2) := by
  unfold spec_WithN; rw [spec_Upto_eq _ _ (by decide)]; rfl
theorem amount_eq (a : T_Act.D) (n : Int) : ∃ m, spec_Amount a n = some m ∧ impl_Amount a n = some m := by
  unfold spec_Amount impl_Amount spec_Twice impl_Twice spec_Half impl_Half
  simp only [spec_Upto_eq _ 2147483647 (by decide), impl_Upto_eq, spec_Plus_eq, impl_Plus_eq, spec_Bound_eq, impl_Bound_eq, Option.bind_some]
  cases (a.1 == 1) <;> cases (a.1 == 3) <;> cases (a.1 == 4) <;> cases (a.1 == 5) <;> exact ⟨_, rfl, rfl⟩
def spentV (x : T_Effect.D) (n : Int) : T_Effect.D :=
  bif x.2.2.2.2.2.2.1.1 == 2 then (x.1, x.2.1, x.2.2.1, x.2.2.2.1, x.2.2.2.2.1, x.2.2.2.2.2.1, x.2.2.2.2.2.2.1, x.2.2.2.2.2.2.2.1, up (lessV x.2.2.2.2.2.2.2.2.1 n) 2147483647, ())
  else bif decide (x.2.2.2.2.2.2.2.2.1 > 0) then (x.1, x.2.1, x.2.2.1, x.2.2.2.1, x.2.2.2.2.1, x.2.2.2.2.2.1, x.2.2.2.2.2.2.1, x.2.2.2.2.2.2.2.1, IntKind.wrap .i64 (x.2.2.2.2.2.2.2.2.1 - 1), ())
  else x
theorem impl_Spent_eq (x : T_Effect.D) (n : Int) (hl : x.2.2.2.2.2.2.1.2.2.2.2.2.2.1.length ≤ 1048576) : impl_Spent x n = some (spentV x n) := by
  unfold impl_Spent spentV
  rw [impl_copyEffect_eq x hl]
  simp only [impl_Less_eq, impl_Upto_eq, Option.bind_some]
  cases (x.2.2.2.2.2.2.1.1 == 2) <;> cases decide (x.2.2.2.2.2.2.2.2.1 > 0) <;> rfl
theorem spec_Spent_eq (x : T_Effect.D) (n : Int) (hl : x.2.2.2.2.2.2.1.2.2.2.2.2.2.1.length ≤ 1048576) : spec_Spent x n = some (spentV x n) := by
  unfold spec_Spent spentV
  rw [spec_copyEffect_eq x hl]
  simp only [spec_Less_eq, spec_Upto_eq _ 2147483647 (by decide), Option.bind_some]
  cases (x.2.2.2.2.2.2.1.1 == 2) <;> cases decide (x.2.2.2.2.2.2.2.2.1 > 0) <;> rfl
theorem effect_facts (x : T_Effect.D) (hl : x.2.2.2.2.2.2.1.2.2.2.2.2.2.1.length ≤ 1048576) (h : effectOkB x = true) :
    impl_ActOk x.2.2.2.2.2.2.1 = some true ∧ (x.2.2.2.2.2.2.1.1 = 2 → 0 ≤ x.2.2.2.2.2.2.2.2.1) ∧ x.2.2.2.2.2.2.2.2.1 ≤ 2147483647 := by
  have h' := impl_EffectOk_eq x hl
  rw [h] at h'
  obtain ⟨b1, p1, q1⟩ := patOk_eq x.2.2.2.2.1
  obtain ⟨b2, p2, q2⟩ := guardOk_eq x.2.2.2.2.2.1
  obtain ⟨b3, p3, q3⟩ := actOk_eq x.2.2.2.2.2.2.1 hl
  obtain ⟨b4, p4, q4⟩ := actFits_eq x.2.2.2.2.2.2.1 x.2.2.2.2.1.1
  unfold impl_EffectOk impl_isId impl_isPlayer at h'
  simp only [q1, q2, q3, q4, from_eq, Option.bind_some] at h'
  simp only [cond_eq_ite, some_iteG, Option.bind_some] at h'
  have h' := Option.some.inj h'
  rw [q3]
  clear p1 p2 p3 p4 q1 q2 q3 q4 hl h
  generalize x.2.2.2.2.2.2.1.1 = ak at *
  generalize x.1 = i at *
  generalize x.2.1 = ow at *
  generalize x.2.2.1 = so at *
  generalize x.2.2.2.1 = du at *
  generalize x.2.2.2.2.2.2.2.1 = co at *
  generalize x.2.2.2.2.2.2.2.2.1 = on at *
  simp at h'
  grind
theorem act6 (n p s z : Int) (bt : Bool) (L : List T_Event.D) (u : Unit) (h : impl_ActOk (6, n, p, s, z, bt, L, u) = some true) : (1 ≤ p ∧ p ≤ 99 ∧ s = -1) ∨ (p = 0 ∧ 0 ≤ s ∧ s ≤ 2) := by
  unfold impl_ActOk impl_isId impl_isPlayer at h
  simp only [from_eq, Option.bind_some, bne] at h
  simp only [Int.reduceBEq, beq_self_eq_true, cond_true, cond_false, Option.bind_some, Bool.not_true, Bool.not_false] at h
  have key : ((decide (1 ≤ p) && decide (p ≤ 99)) && (s == -1) || (p == 0) && (decide (0 ≤ s) && decide (s ≤ 2))) = true := by
    revert h
    generalize (decide (1 ≤ p) && decide (p ≤ 99)) = c1
    generalize (s == -1) = c2
    generalize (p == 0) = c3
    generalize (decide (0 ≤ s) && decide (s ≤ 2)) = c4
    generalize (n == 0) = c5
    generalize (z == 0) = c6
    generalize decide ((L.length : Int) > 0) = c7
    cases c1 <;> cases c2 <;> cases c3 <;> cases c4 <;> cases c5 <;> cases c6 <;> cases c7 <;> cases bt <;> decide
  simp at key
  omega
theorem act9 (n p s z : Int) (bt : Bool) (L : List T_Event.D) (u : Unit) (hl : L.length ≤ 1048576) (h : impl_ActOk (9, n, p, s, z, bt, L, u) = some true) : L.length ≤ 3 := by
  have hC : slices_ContainsFunc_impl_Event L (fun q => impl_ActOk_1 q.1) = some (L.any (fun e => !partOkB e)) := contains_event L hl (fun e => !partOkB e) _ (fun x => by simp only [impl_ActOk_1, impl_partOk_eq, Option.bind_some])
  unfold impl_ActOk at h
  simp only [hC, from_eq, Option.bind_some, bne] at h
  simp only [Int.reduceBEq, beq_self_eq_true, cond_true, cond_false, Option.bind_some, Bool.not_true, Bool.not_false] at h
  have key : (decide (1 ≤ (L.length : Int)) && decide ((L.length : Int) ≤ 3)) = true := by
    revert h
    generalize (decide (1 ≤ (L.length : Int)) && decide ((L.length : Int) ≤ 3)) = c1
    generalize (s == -1) = c2
    generalize (p == 0) = c3
    generalize L.any (fun e => !partOkB e) = c4
    generalize (n == 0) = c5
    generalize (z == 0) = c6
    generalize decide ((L.length : Int) > 0) = c7
    cases c1 <;> cases c2 <;> cases c3 <;> cases c4 <;> cases c5 <;> cases c6 <;> cases c7 <;> cases bt <;> decide
  simp at key
  omega
theorem fits1 (a : T_Act.D) (k : Int) (hk : a.1 = 2 ∨ a.1 = 6) (h : impl_ActFits a k = some true) : k = 1 := by
  unfold impl_ActFits impl_isKind at h
  simp only [from_eq, Option.bind_some] at h
  rcases hk with hk | hk <;> rw [hk] at h <;> revert h <;> generalize (decide (1 ≤ k) && decide (k ≤ 6)) = m <;> cases m <;> simp
theorem tot_one (e : T_Event.D) (hk : e.1 = 1) (he : eventOkB e = true) : (([e].filter keptB).map totC).sum = e.2.2.2.2.1 := by
  have hn := eventOk_most' he
  have hk2 : (e.1 != 2) = true := by rw [hk]; rfl
  unfold keptB goneB
  by_cases h0 : e.2.2.2.2.1 = 0
  · simp [List.filter, he, h0, hk2]
  · have : (e.2.2.2.2.1 == 0) = false := by rw [beq_eq_false_iff_ne]; exact h0
    simp only [List.filter, he, this, Bool.false_and, Bool.not_false, Bool.and_self, List.map_cons, List.map_nil, List.sum_cons, List.sum_nil]
    unfold totC
    rw [if_pos hk, up_self hn.1 hn.2]
    omega
theorem up_min {a b : Int} (h0 : 0 ≤ a) (h1 : 0 ≤ b) : 0 ≤ up a b ∧ up a b ≤ a ∧ up a b ≤ b := by unfold up; split <;> (try split) <;> omega
noncomputable def specActed (x : T_Effect.D) (e : T_Event.D) : Option ((List T_Event.D) × Int) := ((bif (x.2.2.2.2.2.2.1.1 == 1) then (
((bif (e.1 == 1) then (
 some e.2.2.2.2.1)
 else (
 some 0)) : Option Int).bind fun o6 =>
 some ([], o6))
 else (
((bif (x.2.2.2.2.2.2.1.1 == 2) then (
(spec_Upto e.2.2.2.2.1 x.2.2.2.2.2.2.2.2.1).bind fun y7 =>
(spec_WithN e (IntKind.wrap .i64 (e.2.2.2.2.1 - y7))).bind fun y8 =>
 if (([] : List T_Event.D).length + [y8].length) * (24 * 7) ≤ room then (
 some (([] ++ [y8]), y7)) else none)
 else (
((bif (x.2.2.2.2.2.2.1.1 == 9) then (
(spec_Parts x.2.2.2.2.2.2.1 e).bind fun y9 =>
 some y9)
 else (
(spec_l13One x.2.2.2.2.2.2.1 e).bind fun y10 =>
 if (([] : List T_Event.D).length + [y10].length) * (24 * 7) ≤ room then (
 some ([] ++ [y10])) else none)) : Option (List T_Event.D)).bind fun o11 =>
 some (o11, 0))) : Option ((List T_Event.D) × Int)).bind fun o12 =>
 some o12)) : Option ((List T_Event.D) × Int))
/-- What an act does to an event. -/
theorem acted_eq' (i ow so du : Int) (pat : T_Pat.D) (gd : T_Guard.D) (k an ap asd az : Int) (ab : Bool) (aL : List T_Event.D) (u1 : Unit) (co lf : Int) (u2 : Unit) (ek es ep ed en ez : Int) (eb : Bool) (eu : Unit) (hl : aL.length ≤ 1048576) (hok : effectOkB (i, ow, so, du, pat, gd, (k, an, ap, asd, az, ab, aL, u1), co, lf, u2) = true) (hev : eventOkB (ek, es, ep, ed, en, ez, eb, eu) = true) (hft : impl_ActFits (k, an, ap, asd, az, ab, aL, u1) ek = some true) :
    ∃ L n, impl_acted (i, ow, so, du, pat, gd, (k, an, ap, asd, az, ab, aL, u1), co, lf, u2) (ek, es, ep, ed, en, ez, eb, eu) = some (L, n, ()) ∧ specActed (i, ow, so, du, pat, gd, (k, an, ap, asd, az, ab, aL, u1), co, lf, u2) (ek, es, ep, ed, en, ez, eb, eu) = some (L, n) ∧ L.length ≤ 3 ∧ 0 ≤ n ∧ n ≤ en ∧
      (k = 1 → L = []) ∧ (k = 2 → n ≤ lf ∧ ((L.filter keptB).map totC).sum = en - n) ∧ (k = 6 → ((L.filter keptB).map totC).sum = en) := by
  obtain ⟨f1, f2, f3⟩ := effect_facts (i, ow, so, du, pat, gd, (k, an, ap, asd, az, ab, aL, u1), co, lf, u2) hl hok
  have f2 : k = 2 → 0 ≤ lf := f2
  have f3 : lf ≤ 2147483647 := f3
  have hn : 0 ≤ en ∧ en ≤ 2147483647 := eventOk_most' hev
  have rm : (([] : List T_Event.D).length + 1) * (24 * 7) ≤ room := by simp only [room, List.length_nil]; omega
  unfold impl_acted specActed
  by_cases h1 : k = 1
  · subst h1
    by_cases he : ek = 1
    · subst he
      exact ⟨[], en, rfl, rfl, by simp, hn.1, Int.le_refl _, fun _ => rfl, fun h => absurd h (by decide), fun h => absurd h (by decide)⟩
    · have he' : (ek == 1) = false := by rw [beq_eq_false_iff_ne]; exact he
      refine ⟨[], 0, by simp only [he']; rfl, by simp only [he']; rfl, by simp, Int.le_refl _, hn.1, fun _ => rfl, fun h => absurd h (by decide), fun h => absurd h (by decide)⟩
  by_cases h2 : k = 2
  · subst h2
    have hk := fits1 _ ek (.inl rfl) hft
    subst hk
    have f2 := f2 rfl
    obtain ⟨v1, v2, v3⟩ := up_min hn.1 f2
    have hw : IntKind.wrap .i64 (en - up en lf) = en - up en lf := wrap_id (by omega) (by omega)
    have hup : up (en - up en lf) 2147483647 = en - up en lf := up_self (by omega) (by omega)
    refine ⟨[(1, es, ep, ed, en - up en lf, ez, eb, eu)], up en lf, ?_, ?_, by simp, v1, v2, fun h => absurd h (by decide), fun _ => ⟨v3, ?_⟩, fun h => absurd h (by decide)⟩
    · simp only [impl_Upto_eq, impl_WithN_eq, Option.bind_some, hw, hup]; rfl
    · simp only [spec_Upto_eq _ _ f2, spec_WithN_eq, Option.bind_some, hw, hup]
      rw [if_pos (by simp only [room, List.length_cons, List.length_nil]; omega)]
      rfl
    · rw [tot_one _ rfl]
      unfold eventOkB at hev ⊢
      simp at hev ⊢
      grind
  have hend : ∀ L n, (∃ y, L = [y] ∧ n = (0 : Int) ∧ (k = 6 → (([y].filter keptB).map totC).sum = en)) → L.length ≤ 3 ∧ 0 ≤ n ∧ n ≤ en ∧ (k = 1 → L = []) ∧ (k = 2 → n ≤ lf ∧ ((L.filter keptB).map totC).sum = en - n) ∧ (k = 6 → ((L.filter keptB).map totC).sum = en) := by
    rintro L n ⟨y, rfl, rfl, hy⟩
    exact ⟨by simp, Int.le_refl _, hn.1, fun h => absurd h h1, fun h => absurd h h2, hy⟩
  by_cases h9 : k = 9
  · subst h9
    have hL := act9 an ap asd az ab aL u1 hl f1
    refine ⟨aL.map (partV en), 0, ?_, ?_, by rw [List.length_map]; exact hL, Int.le_refl _, hn.1, fun h => absurd h (by decide), fun h => absurd h (by decide), fun h => absurd h (by decide)⟩
    · rw [impl_Parts_eq _ _ rfl hl]; rfl
    · rw [spec_Parts_eq _ _ rfl hl]; rfl
  unfold spec_l13One
  have e1 := ne_beq h1
  have e2 := ne_beq h2
  have e9 := ne_beq h9
  have rm1 : ∀ y : T_Event.D, (([] : List T_Event.D).length + [y].length) * (24 * 7) ≤ room := fun y => by simp only [room, List.length_cons, List.length_nil]; omega
  simp only [e1, e2, e9, cond_false, rm1, if_true]
  by_cases h345 : k = 3 ∨ k = 4 ∨ k = 5
  · obtain ⟨m, m1, m2⟩ := amount_eq (k, an, ap, asd, az, ab, aL, u1) en
    have hd := hend [(ek, es, ep, ed, up m 2147483647, ez, eb, eu)] 0 ⟨_, rfl, rfl, fun h => by omega⟩
    refine ⟨[(ek, es, ep, ed, up m 2147483647, ez, eb, eu)], 0, ?_, ?_, hd⟩
    · rcases h345 with rfl | rfl | rfl <;> (simp only [m2, impl_WithN_eq, Option.bind_some]; rfl)
    · rcases h345 with rfl | rfl | rfl <;> (simp only [m1, spec_WithN_eq, Option.bind_some]; rfl)
  have e3 := ne_beq (show ¬ k = 3 by omega)
  have e4 := ne_beq (show ¬ k = 4 by omega)
  have e5 := ne_beq (show ¬ k = 5 by omega)
  simp only [e3, e4, e5, cond_false, Option.bind_some]
  by_cases h6 : k = 6
  · subst h6
    have hk := fits1 _ ek (.inr rfl) hft
    subst hk
    have ha := act6 an ap asd az ab aL u1 f1
    have hd := hend [(1, es, ap, asd, en, ez, eb, eu)] 0 ⟨_, rfl, rfl, fun _ => by
      rw [tot_one _ rfl]
      unfold eventOkB at hev ⊢
      simp at hev ⊢
      grind⟩
    exact ⟨_, _, rfl, rfl, hd⟩
  have e6 := ne_beq h6
  simp only [e6, cond_false]
  have hd : ∀ y : T_Event.D, _ := fun y => hend [y] 0 ⟨y, rfl, rfl, fun h => absurd h h6⟩
  cases e7 : (k == 7) with
  | true =>
    cases e72 : (az != 2) with
    | true => exact ⟨_, _, rfl, rfl, hd _⟩
    | false => exact ⟨_, _, rfl, rfl, hd _⟩
  | false =>
    simp only [cond_false]
    cases e8 : (k == 8) with
    | true =>
      simp only [spec_Upto_eq _ 99 (by decide), impl_Upto_eq, Option.bind_some]
      cases (ez == 2) with
      | true =>
        cases eb with
        | true => exact ⟨_, _, rfl, rfl, hd _⟩
        | false => exact ⟨_, _, rfl, rfl, hd _⟩
      | false => exact ⟨_, _, rfl, rfl, hd _⟩
    | false => exact ⟨_, _, rfl, rfl, hd _⟩
theorem acted_eq (x : T_Effect.D) (e : T_Event.D) (hl : x.2.2.2.2.2.2.1.2.2.2.2.2.2.1.length ≤ 1048576) (hok : effectOkB x = true) (hev : eventOkB e = true) (hft : impl_ActFits x.2.2.2.2.2.2.1 e.1 = some true) :
    ∃ L n, impl_acted x e = some (L, n, ()) ∧ specActed x e = some (L, n) ∧ L.length ≤ 3 ∧ 0 ≤ n ∧ n ≤ (e.2.2.2.2.1 : Int) ∧
      ((x.2.2.2.2.2.2.1.1 : Int) = 1 → L = []) ∧ ((x.2.2.2.2.2.2.1.1 : Int) = 2 → n ≤ (x.2.2.2.2.2.2.2.2.1 : Int) ∧ ((L.filter keptB).map totC).sum = (e.2.2.2.2.1 : Int) - n) ∧ ((x.2.2.2.2.2.2.1.1 : Int) = 6 → ((L.filter keptB).map totC).sum = (e.2.2.2.2.1 : Int)) :=
  acted_eq' x.1 x.2.1 x.2.2.1 x.2.2.2.1 x.2.2.2.2.1 x.2.2.2.2.2.1 x.2.2.2.2.2.2.1.1 x.2.2.2.2.2.2.1.2.1 x.2.2.2.2.2.2.1.2.2.1 x.2.2.2.2.2.2.1.2.2.2.1 x.2.2.2.2.2.2.1.2.2.2.2.1 x.2.2.2.2.2.2.1.2.2.2.2.2.1 x.2.2.2.2.2.2.1.2.2.2.2.2.2.1 x.2.2.2.2.2.2.1.2.2.2.2.2.2.2 x.2.2.2.2.2.2.2.1 x.2.2.2.2.2.2.2.2.1 x.2.2.2.2.2.2.2.2.2 e.1 e.2.1 e.2.2.1 e.2.2.2.1 e.2.2.2.2.1 e.2.2.2.2.2.1 e.2.2.2.2.2.2.1 e.2.2.2.2.2.2.2 hl hok hev hft
theorem doAct_eq (x : T_Effect.D) (e : T_Event.D) (hl : x.2.2.2.2.2.2.1.2.2.2.2.2.2.1.length ≤ 1048576) :
    ∃ L n y, impl_DoAct x e = some (L, n, y, ()) ∧ spec_DoAct x e = some (L, n, y, ()) ∧ (y.2.2.2.2.2.2.1.2.2.2.2.2.2.1.length ≤ 1048576 ∧ L.length ≤ 3 ∧ y.1 = x.1) ∧ ∃ b, impl_ActFits x.2.2.2.2.2.2.1 e.1 = some b ∧
      (((!effectOkB x || !eventOkB e) || !b) = true → L = [e] ∧ n = 0) ∧ (((!effectOkB x || !eventOkB e) || !b) = false →
        (∀ v ∈ L, keptB v = true) ∧ 0 ≤ n ∧ n ≤ e.2.2.2.2.1 ∧ (x.2.2.2.2.2.2.1.1 = 1 → L = []) ∧ (x.2.2.2.2.2.2.1.1 = 2 → y.2.2.2.2.2.2.2.2.1 = x.2.2.2.2.2.2.2.2.1 - n ∧ (-2147483647 ≤ x.2.2.2.2.2.2.2.2.1 - n ∧ x.2.2.2.2.2.2.2.2.1 - n ≤ 2147483647) ∧ (L.map totC).sum = e.2.2.2.2.1 - n) ∧ (x.2.2.2.2.2.2.1.1 = 6 → (L.map totC).sum = e.2.2.2.2.1) ∧ e.2.2.2.2.1 ≤ 2147483647) := by
  obtain ⟨b, p4, q4⟩ := actFits_eq x.2.2.2.2.2.2.1 e.1
  unfold impl_DoAct spec_DoAct
  simp only [impl_EffectOk_eq x hl, spec_EffectOk_eq x hl, impl_EventOk_eq, spec_EventOk_eq, p4, q4, Option.bind_some]
  by_cases hb : ((!effectOkB x || !eventOkB e) || !b) = true
  · refine ⟨[e], 0, x, ?_, ?_, ⟨hl, by simp, rfl⟩, b, rfl, fun _ => ⟨rfl, rfl⟩, fun h => ?_⟩
    · revert hb; cases effectOkB x <;> cases eventOkB e <;> cases b <;> intro hb <;> first | (simp at hb; done) | (simp only [impl_copyEffect_eq x hl, cond_true, cond_false, Option.bind_some, Bool.not_true, Bool.not_false])
    · revert hb; cases effectOkB x <;> cases eventOkB e <;> cases b <;> intro hb <;> first | (simp at hb; done) | (simp only [spec_copyEffect_eq x hl, cond_true, cond_false, Option.bind_some, Bool.not_true, Bool.not_false])
    · rw [hb] at h; cases h
  · have hb' : ((!effectOkB x || !eventOkB e) || !b) = false := by simpa using hb
    rw [Bool.or_eq_false_iff, Bool.or_eq_false_iff] at hb'
    obtain ⟨⟨g1, g2⟩, g3⟩ := hb'
    have g1 : effectOkB x = true := by simpa using g1
    have g2 : eventOkB e = true := by simpa using g2
    have g3 : b = true := by simpa using g3
    subst g3
    obtain ⟨f1, f2, f3⟩ := effect_facts x hl g1
    obtain ⟨L, n, a1, a2, a3, a4, a5, a6, a7, a8⟩ := acted_eq x e hl g1 g2 q4
    have hn := eventOk_most' g2
    have hL : L.length ≤ 1048576 := by omega
    refine ⟨L.filter keptB, n, spentV x n, ?_, ?_, ⟨?_, Nat.le_trans (List.length_filter_le _ _) a3, by unfold spentV; cases (x.2.2.2.2.2.2.1.1 == 2) <;> cases decide (x.2.2.2.2.2.2.2.2.1 > 0) <;> rfl⟩, true, rfl, fun h => absurd h hb, fun _ => ⟨fun v hv => (List.mem_filter.1 hv).2, a4, a5, fun h => by rw [a6 h]; rfl, fun h => ?_, a8, hn.2⟩⟩
    · simp only [g1, g2, a1, act_drop L hL, impl_Spent_eq x n hl, cond_true, cond_false, Option.bind_some, Bool.not_true]
    · simp only [g1, g2, cond_true, cond_false, Option.bind_some, Bool.not_true]
      have a2' := a2
      unfold specActed at a2'
      rw [a2', Option.bind_some, act_keep (L, n) hL, Option.bind_some, spec_Spent_eq x n hl]
      rfl
    · unfold spentV
      cases (x.2.2.2.2.2.2.1.1 == 2) <;> cases decide (x.2.2.2.2.2.2.2.2.1 > 0) <;> exact hl
    · obtain ⟨a7, a9⟩ := a7 h
      obtain ⟨lf, hlf⟩ : ∃ lf : Int, lf = x.2.2.2.2.2.2.2.2.1 := ⟨_, rfl⟩
      have f2 : 0 ≤ lf := by rw [hlf]; exact f2 h
      have f3 : lf ≤ 2147483647 := by rw [hlf]; exact f3
      have a7 : n ≤ lf := by rw [hlf]; exact a7
      rw [← hlf]
      have h2 : (x.2.2.2.2.2.2.1.1 == 2) = true := by rw [h]; rfl
      refine ⟨?_, ⟨(by show (-2147483647 : Int) ≤ lf - n; omega), (by show lf - n ≤ (2147483647 : Int); omega)⟩, a9⟩
      unfold spentV
      rw [h2]
      simp only [cond_true]
      have : lessV lf n = lf - n := by
        unfold lessV
        rw [boundV_id (n := n) (by omega) (by omega), boundV_id (n := lf) (by omega) (by omega), wrap_id (by omega) (by omega), boundV_id (by omega) (by omega)]
      rw [← hlf, this, up_self (by omega) (by omega)]

def pickK (cs : List Int) (n : Int) : Int := match cs with
  | [] => 0
  | c :: _ => if n < 2 then 0 else if c.tmod n < 0 then c.tmod n + n else c.tmod n
def pickR (cs : List Int) (n : Int) : List Int := match cs with
  | [] => []
  | c :: r => if n < 2 then c :: r else r
theorem pickK_in (cs : List Int) {n : Int} (h : 1 ≤ n) : 0 ≤ pickK cs n ∧ pickK cs n < n := by
  unfold pickK
  split
  · omega
  · rename_i c r
    split
    · omega
    · have h1 := Int.tmod_lt_of_pos c (show 0 < n by omega)
      have h2 : -n < c.tmod n := by
        have := Int.tmod_lt_of_pos (-c) (show 0 < n by omega)
        rw [Int.neg_tmod] at this
        omega
      split <;> omega
theorem pickR_suffix (cs : List Int) (n : Int) : pickR cs n <:+ cs := by
  unfold pickR
  split
  · exact List.suffix_refl _
  · split
    · exact List.suffix_refl _
    · exact List.suffix_cons _ _
theorem clone_int_eq (a : List Int) (h : a.length ≤ 1048576) : slices_Clone_int a = some a := by
  unfold slices_Clone_int
  rw [if_pos (by simp only [room, List.length_nil]; omega), List.nil_append]
theorem impl_Pick_eq (cs : List Int) (n : Int) (h : cs.length ≤ 1048576) (hn : n ≤ 1048576) : impl_Pick cs n = some (pickK cs n, pickR cs n, ()) := by
  unfold impl_Pick
  by_cases h2 : n < 2
  · rw [decide_eq_true h2]
    simp only [cond_true, Option.bind_some, clone_int_eq cs h]
    unfold pickK pickR
    cases cs <;> simp [h2]
  · rw [decide_eq_false h2]
    cases cs with
    | nil => simp [pickK, pickR, clone_int_eq]
    | cons c r =>
      have h1 := Int.tmod_lt_of_pos c (show 0 < n by omega)
      have h3 : -n < c.tmod n := by
        have := Int.tmod_lt_of_pos (-c) (show 0 < n by omega)
        rw [Int.neg_tmod] at this
        omega
      have hl : ((c :: r).length : Int) = (r.length : Int) + 1 := by simp
      have e0 : (((c :: r).length : Int) == 0) = false := by rw [hl, beq_eq_false_iff_ne]; omega
      have ei : ∀ {R : Type} (κ : Int → Option R), idx (c :: r) 0 κ = κ c := fun κ => idx_at (i := 0) rfl
      simp only [cond_false, e0, Option.bind_some, ei]
      rw [if_neg (by omega)]
      simp only [List.length_cons] at h
      simp only [pickK, pickR, if_neg h2]
      by_cases hneg : c.tmod n < 0
      · rw [decide_eq_true hneg, if_pos hneg]
        simp only [cond_true, Option.bind_some]
        rw [wrap_id (by omega) (by omega), if_pos (by omega), if_pos (by omega), if_pos (by omega)]
        have : (((c :: r).take ((c :: r).length : Int).toNat).drop (1 : Int).toNat) = r := by simp
        rw [this, clone_int_eq r (by omega)]
        rfl
      · rw [decide_eq_false hneg, if_neg hneg]
        simp only [cond_false, Option.bind_some]
        rw [if_pos (by omega), if_pos (by omega), if_pos (by omega)]
        have : (((c :: r).take ((c :: r).length : Int).toNat).drop (1 : Int).toNat) = r := by simp
        rw [this, clone_int_eq r (by omega)]
        rfl
theorem spec_Pick_eq (cs : List Int) (n : Int) (h : cs.length ≤ 1048576) (hn : n ≤ 1048576) : spec_Pick cs n = some (pickK cs n, pickR cs n, ()) := by
  unfold spec_Pick
  by_cases h2 : n < 2
  · rw [decide_eq_true h2]
    simp only [cond_true, Option.bind_some]
    rw [if_pos (by simp only [room, List.length_nil]; omega)]
    unfold pickK pickR
    cases cs <;> simp [h2]
  · rw [decide_eq_false h2]
    cases cs with
    | nil => simp [pickK, pickR, room]
    | cons c r =>
      have h1 := Int.tmod_lt_of_pos c (show 0 < n by omega)
      have h3 : -n < c.tmod n := by
        have := Int.tmod_lt_of_pos (-c) (show 0 < n by omega)
        rw [Int.neg_tmod] at this
        omega
      have hl : ((c :: r).length : Int) = (r.length : Int) + 1 := by simp
      have e0 : (((c :: r).length : Int) == 0) = false := by rw [hl, beq_eq_false_iff_ne]; omega
      have ei : ∀ {R : Type} (κ : Int → Option R), idx (c :: r) 0 κ = κ c := fun κ => idx_at (i := 0) rfl
      simp only [cond_false, e0, Option.bind_some, ei]
      rw [if_neg (by omega)]
      simp only [List.length_cons] at h
      simp only [pickK, pickR, if_neg h2]
      have hd : (((c :: r).take ((c :: r).length : Int).toNat).drop (1 : Int).toNat) = r := by simp
      by_cases hneg : c.tmod n < 0
      · rw [decide_eq_true hneg, if_pos hneg]
        simp only [cond_true, Option.bind_some]
        rw [wrap_id (by omega) (by omega), if_pos (by omega), if_pos (by omega), if_pos (by omega), hd, if_pos (by simp only [room, List.length_nil]; omega)]
        rfl
      · rw [decide_eq_false hneg, if_neg hneg]
        simp only [cond_false, Option.bind_some]
        rw [if_pos (by omega), if_pos (by omega), if_pos (by omega), hd, if_pos (by simp only [room, List.length_nil]; omega)]
        rfl

theorem impl_Has_eq (l : List Int) (a : Int) (h : l.length ≤ 1048576) : impl_Has l a = some (l.any (fun x => a == x)) := by
  unfold impl_Has slices_Contains_int slices_Index_int
  rw [index_loop l (body := slices_Index_int_l1 l a) (fun x => a == x) (fun i => i) (by omega) (fun i x hx => ?_) ?_]
  · rw [← findL_any]
    cases findL (fun x => a == x) l <;> rfl
  · unfold slices_Index_int_l1
    simp
  · unfold slices_Index_int_l1
    have hlt := (List.getElem?_eq_some_iff.1 hx).1
    have : ((i : Int) < (l.length : Int)) := by omega
    simp only [this, decide_true, cond_true, idx_at hx]

theorem spec_Has_eq (l : List Int) (a : Int) (h : l.length ≤ 1048576) : spec_Has l a = some (l.any (fun x => x == a)) := by
  unfold spec_Has
  rw [index_loop l (body := spec_Has_l1 l a) (fun x => x == a) (fun _ => true) (by omega) (fun i x hx => ?_) ?_]
  · obtain ⟨h1, h2⟩ := findL_spec (fun x => x == a) l
    cases hf : findL (fun x => x == a) l with
    | none =>
      have : l.any (fun x => x == a) = false := by rw [List.any_eq_false]; exact fun x hx => by simpa using h1 hf x hx
      rw [this]; rfl
    | some k =>
      obtain ⟨x, g1, g2, _⟩ := h2 k hf
      have : l.any (fun x => x == a) = true := by rw [List.any_eq_true]; exact ⟨x, List.mem_of_getElem? g1, g2⟩
      rw [this]; rfl
  · unfold spec_Has_l1
    simp
  · unfold spec_Has_l1
    have hlt := (List.getElem?_eq_some_iff.1 hx).1
    have : ((i : Int) < (l.length : Int)) := by omega
    simp only [this, decide_true, cond_true, idx_at hx]

theorem impl_turns_copy (xs : List T_Turn.D) (h : okD (.slice T_Turn) xs) : impl_copyTurns xs = some xs := by
  have hl : xs.length ≤ 1048576 := h.1
  unfold impl_copyTurns
  rw [append_loop xs (fun _ x => [x]) (fun s => s) (fun _ _ => by simp) (by omega) (fun t i x hI hx => ?_) (fun t => ?_)]
  · rw [Option.bind_some, collect_map]; simp
  · have hlt := (List.getElem?_eq_some_iff.1 hx).1
    have hil : ((i : Int) < (xs.length : Int)) := by omega
    have hle := (h.2 x (List.mem_of_getElem? hx)).2.2.2.2.2.1.1
    unfold impl_copyTurns_l1 slices_Clone_impl_Event
    simp only [hil, decide_true, cond_true, idx_at hx, List.nil_append]
    rw [if_pos (by simp only [room, List.length_nil]; omega)]
    simp only [Option.bind_some]
    rw [if_pos (by simp only [room, List.length_cons, List.length_nil]; omega)]
  · unfold impl_copyTurns_l1; simp

theorem markFate_held (g : T_Fate.D) (h : okD T_Fate g) (k : Int) (h0 : 0 ≤ k) (hk : k ≤ 1125899906842624) : ∃ n g', laws_markFate g k = some (n, (g', ())) ∧ 0 ≤ n ∧ n ≤ k + 17592186044416 ∧ laws_heldFate g' k = some n := by
  have l1 : g.1.length ≤ 1048576 := h.1.1
  have l3 : g.2.2.1.length ≤ 1048576 := h.2.2.1.1
  have n2 : ∀ n ∈ g.2.1.map lenEffect, n ≤ 1048576 := fun n hn => by obtain ⟨x, hx, rfl⟩ := List.mem_map.1 hn; exact (h.2.1.2 x hx).2.2.2.2.2.2.1.2.2.2.2.2.2.1.1
  have n6 : ∀ n ∈ g.2.2.2.1.map lenTurn, n ≤ 1048576 := fun n hn => by obtain ⟨x, hx, rfl⟩ := List.mem_map.1 hn; exact (h.2.2.2.1.2 x hx).2.2.2.2.2.1.1
  have s2 : (g.2.1.map lenEffect).length ≤ 1048576 := by rw [List.length_map]; exact h.2.1.1
  have s6 : (g.2.2.2.1.map lenTurn).length ≤ 1048576 := by rw [List.length_map]; exact h.2.2.2.1.1
  have a1 := laws_markEventS_eq g.1 k (by omega) (by omega) (by omega)
  have b1 := laws_heldEventS_eq k g.1.length (by omega) (by omega) (by omega)
  obtain ⟨K1, k1⟩ : ∃ K : Int, K = k + (7 : Nat) * (g.1.length : Int) := ⟨_, rfl⟩
  rw [← k1] at a1 b1
  obtain ⟨a2, q2, r2⟩ := laws_markEffectS_ok g.2.1 K1 h.2.1 (by omega) (by omega)
  have b2 := laws_heldEffectS_ok (g.2.1.map lenEffect) K1 n2 s2 (by omega) (by omega)
  obtain ⟨K2, k2⟩ : ∃ K : Int, K = K1 + cntX 21 (g.2.1.map lenEffect) := ⟨_, rfl⟩
  rw [← k2] at a2 b2
  have a3 := laws_markIntS_eq g.2.2.1 K2 (by omega) (by omega) (by omega)
  have b3 := laws_heldIntS_eq K2 g.2.2.1.length (by omega) (by omega) (by omega)
  obtain ⟨K3, k3⟩ : ∃ K : Int, K = K2 + (1 : Nat) * (g.2.2.1.length : Int) := ⟨_, rfl⟩
  rw [← k3] at a3 b3
  obtain ⟨a6, q6, r6⟩ := laws_markTurnS_ok g.2.2.2.1 K3 h.2.2.2.1 (by omega) (by omega)
  have b6 := laws_heldTurnS_ok (g.2.2.2.1.map lenTurn) K3 n6 s6 (by omega) (by omega)
  obtain ⟨K6, k6⟩ : ∃ K : Int, K = K3 + cntX 13 (g.2.2.2.1.map lenTurn) := ⟨_, rfl⟩
  rw [← k6] at a6 b6
  refine ⟨K6, (fillL fillEvent (7 : Nat) k g.1.length, fillX fillEffect 21 K1 (g.2.1.map lenEffect), fillL fillInt (1 : Nat) K2 g.2.2.1.length, fillX fillTurn 13 K3 (g.2.2.2.1.map lenTurn), ()), ?_, by omega, by omega, ?_⟩
  · unfold laws_markFate
    simp only [a1, a2, a3, a6, Option.bind_some]
  · unfold laws_heldFate
    simp (disch := omega) only [b1, b2, b3, b6, Option.bind_some, dec_neg, cond_false]

/-! ### Sets of numbers, told by what they hold -/
theorem nodup_sub_len : ∀ (xs ys : List Int), xs.Nodup → (∀ x ∈ xs, x ∈ ys) → xs.length ≤ ys.length
  | [], _, _, _ => Nat.zero_le _
  | x :: xs, ys, h, hs => by
    have hx : x ∈ ys := hs x (List.mem_cons_self ..)
    obtain ⟨h1, h2⟩ := List.nodup_cons.1 h
    have := nodup_sub_len xs (ys.erase x) h2 (fun y hy => by
      refine (List.mem_erase_of_ne ?_).2 (hs y (List.mem_cons_of_mem _ hy))
      intro e; subst e; exact h1 hy)
    rw [List.length_erase_of_mem hx] at this
    have : 0 < ys.length := List.length_pos_of_mem hx
    simp only [List.length_cons]
    omega
theorem insert_perm (out : List Int) (k : Nat) (x : Int) : (out.take k ++ [x] ++ out.drop k).Perm (out ++ [x]) := by
  have h : (out.take k ++ ([x] ++ out.drop k)).Perm (out.take k ++ (out.drop k ++ [x])) := List.Perm.append_left _ List.perm_append_comm
  have e : out.take k ++ (out.drop k ++ [x]) = out ++ [x] := by rw [← List.append_assoc, List.take_append_drop]
  rw [e] at h
  rw [List.append_assoc]
  exact h
theorem any_eq_mem (l : List Int) (a : Int) : l.any (fun x => x == a) = decide (a ∈ l) := by
  by_cases h : a ∈ l
  · rw [decide_eq_true h, List.any_eq_true]; exact ⟨a, h, by simp⟩
  · rw [decide_eq_false h, List.any_eq_false]
    intro x hx e
    have : x = a := by simpa using e
    subst this; exact h hx
theorem any_eq_mem' (l : List Int) (a : Int) : l.any (fun x => a == x) = decide (a ∈ l) := by
  rw [← any_eq_mem]
  congr 1
  funext x
  exact Bool.beq_comm

/-! ### What fits -/
theorem target_eq (s : T_State.D) (e : T_Event.D) (h : s.1.length ≤ 1048576) : ∃ t, spec_Target s e = some t ∧ impl_Target s e = some t := by
  unfold spec_Target impl_Target impl_isSide
  simp only [l1In_eq, from_eq, spec_PieceAt_eq s _ h, impl_PieceAt_eq s _ h, Option.bind_some]
  cases (e.2.2.1 == 0)
  · simp only [cond_false]
    rcases pieceAt_cases s e.2.2.1 with h | ⟨k, x, h1, h2, _⟩
    · rw [h]; exact ⟨-1, rfl, rfl⟩
    · rw [h1, dec_neg (by omega)]
      simp only [cond_false, idx_at h2]
      exact ⟨_, rfl, rfl⟩
  · generalize (decide (0 ≤ e.2.2.2.1) && decide (e.2.2.2.1 ≤ IntKind.wrap .i64 ((s.2.1.length : Int) - 1))) = b
    cases b <;> exact ⟨_, rfl, rfl⟩
theorem chooser_eq (s : T_State.D) (e : T_Event.D) (h : s.1.length ≤ 1048576) : ∃ t, spec_Chooser s e = some t ∧ impl_Chooser s e = some t := by
  obtain ⟨t, h1, h2⟩ := target_eq s e h
  unfold spec_Chooser impl_Chooser
  rw [h1, h2]
  simp only [Option.bind_some, bne]
  cases (t == -1) <;> exact ⟨_, rfl, rfl⟩
def cntB {α : Type} (p : α → Bool) (n : Int) (_ : Nat) (x : α) : Int := if p x then n + 1 else n
theorem cnt_filter {α : Type} (p : α → Bool) : ∀ (xs : List α) (i : Nat) (n : Int), foldIx (cntB p) i xs n = n + ((xs.filter p).length : Int)
  | [], _, n => by simp [foldIx]
  | x :: xs, i, n => by
    unfold foldIx
    rw [cnt_filter p xs]
    unfold cntB
    by_cases h : p x = true
    · rw [if_pos h, List.filter_cons_of_pos h, List.length_cons]; omega
    · rw [if_neg h, List.filter_cons_of_neg h]
theorem cnt_loop {α : Type} (xs : List α) (hl : xs.length ≤ 1048576) (p : α → Bool) {body : (Int × Int) → Option ((Int × Int) ⊕ (Int × Int))}
    (hb : ∀ (n : Int) (i : Nat) x, 0 ≤ n → n ≤ i → xs[i]? = some x → body (n, (i : Int)) = some (.inl (cntB p n i x, IntKind.wrap .i64 ((i : Int) + 1))))
    (he : ∀ n, body (n, (xs.length : Int)) = some (.inr (n, (xs.length : Int)))) :
    while_ body (0, 0) = some (((xs.filter p).length : Int), (xs.length : Int)) := by
  have := (fold_loop xs (body := body) (cntB p) (fun i n => 0 ≤ n ∧ n ≤ i) (fun s => s) 0 (by simp) (by omega) (fun n i x hI hx => ⟨hb n i x hI.1 hI.2 hx, by
    unfold cntB; split <;> omega⟩) (fun n _ => he n)).1
  rw [this, cnt_filter]
  simp
def bentP (a : Int) (x : T_Piece.D) : Bool := (x.2.2.2.1 == 2) && (x.2.2.1 == a) && x.2.2.2.2.2.2.2.2.2.2.2.2.1
def manyP (a : Int) (x : T_Piece.D) : Bool := (x.2.2.2.1 == 2) && (x.2.2.1 == a)
theorem impl_BentOf_eq (s : T_State.D) (a : Int) (h : s.1.length ≤ 1048576) : impl_BentOf s a = some ((s.1.filter (bentP a)).length : Int) := by
  unfold impl_BentOf
  rw [cnt_loop s.1 h (bentP a) (fun n i x h0 h1 hx => ?_) (fun n => by unfold impl_BentOf_l1; simp)]
  · rfl
  · have hlt := (List.getElem?_eq_some_iff.1 hx).1
    have hil : ((i : Int) < (s.1.length : Int)) := by omega
    have hw : IntKind.wrap .i64 (n + 1) = n + 1 := wrap_id (by omega) (by omega)
    unfold impl_BentOf_l1 cntB bentP
    simp only [hil, decide_true, cond_true, idx_at hx, hw]
    cases (x.2.2.2.1 == 2) <;> cases (x.2.2.1 == a) <;> cases x.2.2.2.2.2.2.2.2.2.2.2.2.1 <;> rfl
theorem spec_BentOf_eq (s : T_State.D) (a : Int) (h : s.1.length ≤ 1048576) : spec_BentOf s a = some ((s.1.filter (bentP a)).length : Int) := by
  unfold spec_BentOf
  rw [cnt_loop s.1 h (bentP a) (fun n i x h0 h1 hx => ?_) (fun n => by unfold spec_BentOf_l1; simp)]
  · rfl
  · have hlt := (List.getElem?_eq_some_iff.1 hx).1
    have hil : ((i : Int) < (s.1.length : Int)) := by omega
    have hw : IntKind.wrap .i64 (n + 1) = n + 1 := wrap_id (by omega) (by omega)
    unfold spec_BentOf_l1 cntB bentP
    simp only [hil, decide_true, cond_true, idx_at hx, hw]
    cases (x.2.2.2.1 == 2) <;> cases (x.2.2.1 == a) <;> cases x.2.2.2.2.2.2.2.2.2.2.2.2.1 <;> rfl
theorem spec_Many_eq (s : T_State.D) (a : Int) (h : s.1.length ≤ 1048576) : spec_l8Many s a = some ((s.1.filter (manyP a)).length : Int) := by
  unfold spec_l8Many
  rw [cnt_loop s.1 h (manyP a) (fun n i x h0 h1 hx => ?_) (fun n => by unfold spec_l8Many_l1; simp)]
  · rfl
  · have hlt := (List.getElem?_eq_some_iff.1 hx).1
    have hil : ((i : Int) < (s.1.length : Int)) := by omega
    have hw : IntKind.wrap .i64 (n + 1) = n + 1 := wrap_id (by omega) (by omega)
    unfold spec_l8Many_l1 cntB manyP
    simp only [hil, decide_true, cond_true, idx_at hx, hw]
    cases (x.2.2.2.1 == 2) <;> cases (x.2.2.1 == a) <;> rfl
theorem field_many (a : Int) (ha : 0 ≤ a) : ∀ (xs : List T_Piece.D) (i : Nat), (collect (fieldG a) i xs).length = (xs.filter (manyP a)).length
  | [], _ => rfl
  | x :: xs, i => by
    unfold collect
    have h1 : (a == -1) = false := by rw [beq_eq_false_iff_ne]; omega
    rw [List.length_append, field_many a ha xs]
    unfold fieldG
    by_cases h : manyP a x = true
    · rw [List.filter_cons_of_pos h]
      unfold manyP at h
      rw [h1, Bool.false_or, h]
      simp only [cond_true, List.length_cons, List.length_nil]; omega
    · rw [List.filter_cons_of_neg h]
      have h : manyP a x = false := by simpa using h
      unfold manyP at h
      rw [h1, Bool.false_or, h]
      simp
theorem holds_eq (s : T_State.D) (a : Int) (g : T_Guard.D) (h1 : s.1.length ≤ 1048576) (h2 : s.2.1.length ≤ 1048576) : ∃ b, spec_Holds s a g = some b ∧ impl_Holds s a g = some b := by
  obtain ⟨b, q1, q2⟩ := guardOk_eq g
  unfold spec_Holds impl_Holds impl_isSide
  simp only [q1, q2, l1In_eq, from_eq, Option.bind_some]
  cases b
  · exact ⟨_, rfl, rfl⟩
  · simp only [Bool.not_true, cond_false, Option.bind_some]
    rw [wrap_id (by omega) (by omega)]
    by_cases hs : 0 ≤ a ∧ a ≤ (s.2.1.length : Int) - 1
    · rw [decide_eq_true hs.1, decide_eq_true hs.2]
      obtain ⟨k, rfl⟩ := Int.eq_ofNat_of_zero_le hs.1
      have hx : s.2.1[k]? = some (s.2.1[k]'(by omega)) := List.getElem?_eq_getElem (by omega)
      simp only [Bool.and_self, Bool.not_true, cond_false, idx_at hx, spec_Many_eq s _ h1, impl_OnField_eq s _ h1, impl_BentOf_eq s _ h1, spec_BentOf_eq s _ h1, Option.bind_some, field_many _ hs.1]
      cases (g.1 == 1) <;> cases (g.1 == 2) <;> cases (g.1 == 3) <;> cases (g.1 == 4) <;> exact ⟨_, rfl, rfl⟩
    · have : (decide (0 ≤ a) && decide (a ≤ (s.2.1.length : Int) - 1)) = false := by
        rw [Bool.and_eq_false_iff]
        rcases Int.lt_or_le a 0 with h | h
        · exact .inl (decide_eq_false (by omega))
        · exact .inr (decide_eq_false (by omega))
      rw [this]
      exact ⟨_, rfl, rfl⟩
theorem targetFits_eq (s : T_State.D) (a : Int) (p : T_Pat.D) (e : T_Event.D) (h : s.1.length ≤ 1048576) : ∃ b, spec_TargetFits s a p e = some b ∧ impl_TargetFits s a p e = some b := by
  obtain ⟨t, h1, h2⟩ := target_eq s e h
  unfold spec_TargetFits impl_TargetFits
  rw [h1, h2]
  simp only [Option.bind_some, bne]
  cases (t == -1) <;> cases (p.2.1 == 1) <;> cases (t == a) <;> cases (p.2.1 == 2) <;> cases (p.2.2.2.2.1 == 0) <;> exact ⟨_, rfl, rfl⟩
theorem sourceFits_eq (s : T_State.D) (p : T_Pat.D) (e : T_Event.D) (h : s.1.length ≤ 1048576) : ∃ b, spec_SourceFits s p e = some b ∧ impl_SourceFits s p e = some b := by
  unfold spec_SourceFits impl_SourceFits
  simp only [impl_Source_eq s e h, spec_Source_eq s e h, Option.bind_some]
  cases (p.2.2.1 == 0) <;> cases (p.2.2.1 == e.2.1) <;> exact ⟨_, rfl, rfl⟩
theorem patFits_eq (s : T_State.D) (a : Int) (p : T_Pat.D) (e : T_Event.D) (h : s.1.length ≤ 1048576) : ∃ b, spec_PatFits s a p e = some b ∧ impl_PatFits s a p e = some b := by
  obtain ⟨b1, p1, q1⟩ := patOk_eq p
  obtain ⟨b2, p2, q2⟩ := targetFits_eq s a p e h
  obtain ⟨b3, p3, q3⟩ := sourceFits_eq s p e h
  unfold spec_PatFits impl_PatFits
  simp only [p1, q1, p2, q2, p3, q3, impl_EventOk_eq, spec_EventOk_eq, Option.bind_some]
  cases b1 <;> cases eventOkB e <;> cases (p.1 == e.1) <;> cases b2 <;> cases b3 <;> cases decide ((e.2.2.2.2.1 : Int) ≥ p.2.2.2.2.2.1) <;> cases (p.2.2.2.2.2.2.1 == 0) <;> exact ⟨_, rfl, rfl⟩
theorem fits_eq (s : T_State.D) (x : T_Effect.D) (e : T_Event.D) (h1 : s.1.length ≤ 1048576) (h2 : s.2.1.length ≤ 1048576) (hl : x.2.2.2.2.2.2.1.2.2.2.2.2.2.1.length ≤ 1048576) :
    ∃ b, spec_Fits s x e = some b ∧ impl_Fits s x e = some b ∧ (b = true → effectOkB x = true) := by
  obtain ⟨b1, p1, q1⟩ := holds_eq s x.2.1 x.2.2.2.2.2.1 h1 h2
  obtain ⟨b2, p2, q2⟩ := patFits_eq s x.2.1 x.2.2.2.2.1 e h1
  unfold spec_Fits impl_Fits spec_Lives impl_Lives spec_Near impl_Near
  simp only [p1, q1, p2, q2, impl_EffectOk_eq x hl, spec_EffectOk_eq x hl, Option.bind_some]
  cases effectOkB x
  · exact ⟨false, rfl, rfl, fun h => by cases h⟩
  · cases ((x.2.2.2.2.2.2.2.2.1 : Int) != 0) <;> cases ((x.2.2.2.2.2.2.2.1 : Int) == -1) <;> cases decide ((x.2.2.2.2.2.2.2.1 : Int) ≥ s.2.2.2.1) <;> cases ((x.2.2.2.1 : Int) != 0) <;> cases ((x.2.2.1 : Int) == e.2.1) <;> cases ((x.2.2.1 : Int) == e.2.2.1) <;> cases b1 <;> exact ⟨_, rfl, rfl, fun _ => rfl⟩
noncomputable def fitsB (s : T_State.D) (e : T_Event.D) (x : T_Effect.D) : Bool := (impl_Fits s x e).getD false
theorem impl_Fits_eq (s : T_State.D) (x : T_Effect.D) (e : T_Event.D) (h1 : s.1.length ≤ 1048576) (h2 : s.2.1.length ≤ 1048576) (hl : x.2.2.2.2.2.2.1.2.2.2.2.2.2.1.length ≤ 1048576) : impl_Fits s x e = some (fitsB s e x) := by
  obtain ⟨b, _, h, _⟩ := fits_eq s x e h1 h2 hl
  unfold fitsB; rw [h]; rfl
theorem spec_Fits_eq (s : T_State.D) (x : T_Effect.D) (e : T_Event.D) (h1 : s.1.length ≤ 1048576) (h2 : s.2.1.length ≤ 1048576) (hl : x.2.2.2.2.2.2.1.2.2.2.2.2.2.1.length ≤ 1048576) : spec_Fits s x e = some (fitsB s e x) := by
  obtain ⟨b, h', h, _⟩ := fits_eq s x e h1 h2 hl
  unfold fitsB; rw [h, h']; rfl
theorem fits_class (s : T_State.D) (x : T_Effect.D) (e : T_Event.D) (h1 : s.1.length ≤ 1048576) (h2 : s.2.1.length ≤ 1048576) (hl : x.2.2.2.2.2.2.1.2.2.2.2.2.2.1.length ≤ 1048576) (h : fitsB s e x = true) : 0 ≤ x.2.2.2.1 ∧ x.2.2.2.1 ≤ 4 := by
  obtain ⟨b, _, hb, ho⟩ := fits_eq s x e h1 h2 hl
  unfold fitsB at h
  rw [hb] at h
  have h' := impl_EffectOk_eq x hl
  rw [ho h] at h'
  obtain ⟨b1, p1, q1⟩ := patOk_eq x.2.2.2.2.1
  obtain ⟨b2, p2, q2⟩ := guardOk_eq x.2.2.2.2.2.1
  obtain ⟨b3, p3, q3⟩ := actOk_eq x.2.2.2.2.2.2.1 hl
  obtain ⟨b4, p4, q4⟩ := actFits_eq x.2.2.2.2.2.2.1 x.2.2.2.2.1.1
  unfold impl_EffectOk impl_isId impl_isPlayer at h'
  simp only [q1, q2, q3, q4, from_eq, Option.bind_some] at h'
  simp only [cond_eq_ite, some_iteG, Option.bind_some] at h'
  have h' := Option.some.inj h'
  clear p1 p2 p3 p4 q1 q2 q3 q4 hl h hb ho
  generalize x.2.2.2.2.2.2.1.1 = ak at *
  generalize x.1 = i at *
  generalize x.2.1 = ow at *
  generalize x.2.2.1 = so at *
  generalize x.2.2.2.1 = du at *
  generalize x.2.2.2.2.2.2.2.1 = co at *
  generalize x.2.2.2.2.2.2.2.2.1 = on at *
  simp at h'
  grind

/-! ### Options -/
/-- A loop through a list whose state is laid otherwise. -/
theorem fold_loopG {α σ S R : Type} (xs : List α) {body : S → Option (S ⊕ R)} (mk : σ → Int → S) (step : σ → Nat → α → σ) (I : Nat → σ → Prop) (r : σ → R) (s0 : σ) (h0 : I 0 s0) (hlen : xs.length ≤ 9223372036854775806)
    (hb : ∀ s (i : Nat) x, I i s → xs[i]? = some x → body (mk s (i : Int)) = some (.inl (mk (step s i x) (IntKind.wrap .i64 ((i : Int) + 1)))) ∧ I (i + 1) (step s i x))
    (he : ∀ s, I xs.length s → body (mk s (xs.length : Int)) = some (.inr (r s))) :
    while_ body (mk s0 0) = some (r (foldIx step 0 xs s0)) ∧ I xs.length (foldIx step 0 xs s0) := by
  have main : ∀ (l : List α) (k : Nat) (s : σ), xs.drop k = l → k ≤ xs.length → I k s → while_ body (mk s (k : Int)) = some (r (foldIx step k l s)) ∧ I xs.length (foldIx step k l s) := by
    intro l
    induction l with
    | nil =>
      intro k s h hk hI
      have : k = xs.length := by
        have := congrArg List.length h
        simp at this
        omega
      subst this
      exact ⟨while_done (he s hI), hI⟩
    | cons x l ih =>
      intro k s h hk hI
      have hlt : k < xs.length := by
        have := congrArg List.length h
        simp at this
        omega
      have hx : xs[k]? = some x := by
        have := congrArg (fun l => l[0]?) h
        simpa using this
      have hr : xs.drop (k + 1) = l := by
        have := congrArg List.tail h
        simpa using this
      obtain ⟨h1, h2⟩ := hb s k x hI hx
      rw [wrap_id (by omega) (by omega)] at h1
      obtain ⟨h3, h4⟩ := ih (k + 1) (step s k x) hr hlt h2
      exact ⟨while_step h1 h3, h4⟩
  have := main xs 0 s0 rfl (by omega) h0
  simpa using this
theorem foldIx_mono {α σ : Type} (step : σ → Nat → α → σ) (P : σ → Prop) : ∀ (xs : List α) (i : Nat) (s : σ), P s → (∀ s i x, x ∈ xs → P s → P (step s i x)) → P (foldIx step i xs s)
  | [], _, _, h, _ => h
  | x :: xs, i, s, h, hs => foldIx_mono step P xs (i + 1) _ (hs s i x (List.mem_cons_self ..) h) (fun s i y hy => hs s i y (List.mem_cons_of_mem _ hy))
theorem foldIx_rel {α σ τ : Type} (f : σ → Nat → α → σ) (g : τ → Nat → α → τ) (Q : σ → τ → Prop) : ∀ (xs : List α) (i : Nat) (s : σ) (t : τ), Q s t → (∀ s t i x, x ∈ xs → Q s t → Q (f s i x) (g t i x)) → Q (foldIx f i xs s) (foldIx g i xs t)
  | [], _, _, _, h, _ => h
  | x :: xs, i, s, t, h, hs => foldIx_rel f g Q xs (i + 1) _ _ (hs s t i x (List.mem_cons_self ..) h) (fun s t i y hy => hs s t i y (List.mem_cons_of_mem _ hy))
def optS1 (b : Bool) (id c : Int) (s : List Int × Int) : List Int × Int :=
  if b = true then (if c > s.2 then s else if c < s.2 then ([id], c) else (s.1 ++ [id], s.2)) else s
def optI1 (b : Bool) (id c : Int) (s : List Int × Int) : List Int × Int :=
  if b = true then (if s.1.length = 0 ∨ c < s.2 then ([id], c) else if c = s.2 then (s.1 ++ [id], s.2) else s) else s
theorem opt_rel (p : Bool) (id c : Int) (h0 : p = true → 0 ≤ c ∧ c ≤ 4) (a b : List Int × Int) (h : a.1 = b.1 ∧ (a.1.length = 0 → a.2 = 5) ∧ (a.1.length ≠ 0 → a.2 = b.2)) :
    (optS1 p id c a).1 = (optI1 p id c b).1 ∧ ((optS1 p id c a).1.length = 0 → (optS1 p id c a).2 = 5) ∧ ((optS1 p id c a).1.length ≠ 0 → (optS1 p id c a).2 = (optI1 p id c b).2) := by
  obtain ⟨a1, a2, a3⟩ := h
  unfold optS1 optI1
  by_cases hp : p = true
  · obtain ⟨c1, c2⟩ := h0 hp
    rw [if_pos hp, if_pos hp, ← a1]
    by_cases h0 : a.1.length = 0
    · have := a2 h0
      rw [if_neg (by omega), if_pos (by omega), if_pos (.inl h0)]
      exact ⟨rfl, fun h => by simp at h, fun _ => rfl⟩
    · have := a3 h0
      by_cases h3 : c < b.2
      · rw [if_neg (by omega), if_pos (by omega), if_pos (.inr h3)]
        exact ⟨rfl, fun h => by simp at h, fun _ => rfl⟩
      · rw [if_neg (c := a.1.length = 0 ∨ c < b.2) (by omega)]
        by_cases h4 : c = b.2
        · rw [if_neg (by omega), if_neg (by omega), if_pos h4]
          exact ⟨by rfl, fun h => by simp at h, fun _ => this⟩
        · rw [if_pos (by omega), if_neg h4]
          exact ⟨a1, a2, a3⟩
  · rw [if_neg hp, if_neg hp]
    exact ⟨a1, a2, a3⟩
def optS (p : T_Effect.D → Bool) (s : List Int × Int) (_ : Nat) (x : T_Effect.D) : List Int × Int := optS1 (p x) x.1 x.2.2.2.1 s
def optI (p : T_Effect.D → Bool) (s : List Int × Int) (_ : Nat) (x : T_Effect.D) : List Int × Int := optI1 (p x) x.1 x.2.2.2.1 s
noncomputable def openB (s : T_State.D) (e : T_Event.D) (u : List Int) (x : T_Effect.D) : Bool := !decide (x.1 ∈ u) && fitsB s e x
noncomputable def optV (s : T_State.D) (xs : List T_Effect.D) (e : T_Event.D) (u : List Int) : List Int := (foldIx (optI (openB s e u)) 0 xs ([], 0)).1
theorem impl_Options_eq (s : T_State.D) (xs : List T_Effect.D) (e : T_Event.D) (u : List Int) (h1 : s.1.length ≤ 1048576) (h2 : s.2.1.length ≤ 1048576) (hx : okD (.slice T_Effect) xs) (hu : u.length ≤ 1048576) :
    impl_Options s xs e u = some (optV s xs e u) := by
  have hl : xs.length ≤ 1048576 := hx.1
  have := (fold_loopG xs (body := impl_Options_l1 s xs e u) (fun (t : List Int × Int) i => (t.1, t.2, i)) (optI (openB s e u)) (fun i t => t.1.length ≤ i) (fun t => (t.1, t.2, (xs.length : Int))) ([], 0) (by simp) (by omega) (fun t i x hI hi => ⟨?_, ?_⟩) (fun t hI => ?_)).1
  · unfold impl_Options
    rw [this]
    rfl
  · have hlt := (List.getElem?_eq_some_iff.1 hi).1
    have hil : ((i : Int) < (xs.length : Int)) := by omega
    have hok := (hx.2 x (List.mem_of_getElem? hi)).2.2.2.2.2.2.1.2.2.2.2.2.2.1.1
    unfold impl_Options_l1 optI optI1 openB
    simp only [hil, decide_true, cond_true, idx_at hi, impl_Has_eq u _ hu, any_eq_mem', impl_Fits_eq s x e h1 h2 hok, Option.bind_some]
    by_cases hm : x.1 ∈ u
    · simp only [hm, decide_true, cond_true, Option.bind_some, Bool.not_true, Bool.false_and, Bool.false_eq_true, if_false]
    · cases hf : fitsB s e x
      · simp only [hm, decide_false, cond_true, cond_false, Option.bind_some, Bool.not_false, Bool.and_false, Bool.false_eq_true, if_false]
      · simp only [hm, decide_false, cond_false, Option.bind_some, Bool.not_false, Bool.not_true, Bool.and_self, if_true]
        have r1 : ∀ (l : List Int), l.length ≤ i → (l.length + [x.1].length) * (24 * 1) ≤ room := fun l h => by simp only [room, List.length_cons, List.length_nil]; omega
        by_cases h0 : t.1.length = 0
        · have : ((t.1.length : Int) == 0) = true := by rw [h0]; rfl
          rw [if_pos (Or.inl h0)]
          simp only [this, cond_true, Option.bind_some, Int.le_refl, if_true, Int.natCast_nonneg, beq_self_eq_true]
          rw [if_pos (r1 _ (by simp))]
          simp
        · have : ((t.1.length : Int) == 0) = false := by rw [beq_eq_false_iff_ne]; omega
          simp only [this, cond_false, Option.bind_some]
          by_cases h3 : x.2.2.2.1 < t.2
          · simp only [h3, decide_true, cond_true, Int.le_refl, if_true, or_true]
            rw [if_pos (by omega)]
            simp only [Option.bind_some, beq_self_eq_true, cond_true]
            rw [if_pos (r1 _ (by simp))]
            simp
          · simp only [h3, decide_false, cond_false, Option.bind_some, h0, or_self, if_false]
            by_cases h4 : x.2.2.2.1 = t.2
            · have : ((x.2.2.2.1 : Int) == t.2) = true := by rw [h4]; simp
              simp only [this, cond_true]
              rw [if_pos h4, if_pos (r1 _ hI)]
            · have : ((x.2.2.2.1 : Int) == t.2) = false := by rw [beq_eq_false_iff_ne]; exact h4
              simp only [this, cond_false, h4, if_false]
  · unfold optI optI1
    split
    · split
      · simp
      · split
        · simp only [List.length_append, List.length_cons, List.length_nil]; omega
        · omega
    · omega
  · unfold impl_Options_l1
    simp
theorem spec_Options_eq (s : T_State.D) (xs : List T_Effect.D) (e : T_Event.D) (u v : List Int) (h1 : s.1.length ≤ 1048576) (h2 : s.2.1.length ≤ 1048576) (hx : okD (.slice T_Effect) xs) (hu : u.length ≤ 1048576) (huv : ∀ a, a ∈ u ↔ a ∈ v) :
    spec_Options s xs e u = some (optV s xs e v) := by
  have hl : xs.length ≤ 1048576 := hx.1
  have hop : openB s e u = openB s e v := by
    funext x
    unfold openB
    rw [show decide (x.1 ∈ u) = decide (x.1 ∈ v) from decide_eq_decide.2 (huv _)]
  have := (fold_loopG xs (body := spec_Options_l1 s xs e u) (fun (t : List Int × Int) i => (t.1, t.2, i)) (optS (openB s e u)) (fun i t => t.1.length ≤ i) (fun t => (t.1, t.2, (xs.length : Int))) ([], 5) (by simp) (by omega) (fun t i x hI hi => ⟨?_, ?_⟩) (fun t hI => ?_)).1
  · unfold spec_Options
    rw [this, Option.bind_some]
    have hr := foldIx_rel (optS (openB s e u)) (optI (openB s e u)) (fun (a b : List Int × Int) => a.1 = b.1 ∧ (a.1.length = 0 → a.2 = 5) ∧ (a.1.length ≠ 0 → a.2 = b.2)) xs 0 ([], 5) ([], 0) ⟨rfl, fun _ => rfl, fun h => absurd rfl h⟩ (fun a b i x hm hab => ?_)
    · unfold optV
      rw [← hop]
      simp only
      rw [hr.1]
    · have hok := (hx.2 x hm).2.2.2.2.2.2.1.2.2.2.2.2.2.1.1
      exact opt_rel (openB s e u x) x.1 x.2.2.2.1 (fun hp => fits_class s x e h1 h2 hok (by unfold openB at hp; simp at hp; exact hp.2)) a b hab
  · have hlt := (List.getElem?_eq_some_iff.1 hi).1
    have hil : ((i : Int) < (xs.length : Int)) := by omega
    have hok := (hx.2 x (List.mem_of_getElem? hi)).2.2.2.2.2.2.1.2.2.2.2.2.2.1.1
    unfold spec_Options_l1 optS optS1 openB
    simp only [hil, decide_true, cond_true, idx_at hi, spec_Has_eq u _ hu, any_eq_mem, spec_Fits_eq s x e h1 h2 hok, Option.bind_some]
    have r1 : ∀ (l : List Int), l.length ≤ i → (l.length + [x.1].length) * (24 * 1) ≤ room := fun l h => by simp only [room, List.length_cons, List.length_nil]; omega
    by_cases hm : x.1 ∈ u
    · simp only [hm, decide_true, cond_true, Option.bind_some, Bool.not_true, Bool.false_and, Bool.false_eq_true, if_false]
    · cases hf : fitsB s e x
      · simp only [hm, decide_false, cond_true, cond_false, Option.bind_some, Bool.not_false, Bool.and_false, Bool.false_eq_true, if_false]
      · simp only [hm, decide_false, cond_false, Option.bind_some, Bool.not_false, Bool.not_true, Bool.and_self, if_true]
        by_cases h3 : x.2.2.2.1 > t.2
        · simp only [h3, decide_true, cond_true, Option.bind_some, if_true]
        · simp only [h3, decide_false, cond_false, Option.bind_some, if_false]
          by_cases h4 : x.2.2.2.1 < t.2
          · simp only [h4, decide_true, cond_true, Option.bind_some, if_true]
            rw [if_pos (r1 _ (by simp))]
            rfl
          · simp only [h4, decide_false, cond_false, Option.bind_some, if_false]
            rw [if_pos (r1 _ hI)]
            rfl
  · unfold optS optS1
    split
    · split
      · omega
      · split
        · simp
        · simp only [List.length_append, List.length_cons, List.length_nil]; omega
    · omega
  · unfold spec_Options_l1
    simp
theorem optV_mem (s : T_State.D) (xs : List T_Effect.D) (e : T_Event.D) (u : List Int) : ∀ a ∈ optV s xs e u, a ∈ xs.map (fun (x : T_Effect.D) => x.1) ∧ a ∉ u := by
  unfold optV
  refine foldIx_mono (optI (openB s e u)) (fun t => ∀ a ∈ t.1, a ∈ xs.map (fun (x : T_Effect.D) => x.1) ∧ a ∉ u) xs 0 ([], 0) (fun a h => by cases h) (fun t i x hm ht => ?_)
  unfold optI optI1
  split
  · rename_i hp
    have hx : x.1 ∈ xs.map (fun (x : T_Effect.D) => x.1) ∧ x.1 ∉ u := ⟨List.mem_map.2 ⟨x, hm, rfl⟩, by unfold openB at hp; simp at hp; exact hp.1⟩
    split
    · intro a ha
      simp only [List.mem_singleton] at ha
      subst ha; exact hx
    · split
      · intro a ha
        rcases List.mem_append.1 ha with h | h
        · exact ht a h
        · simp only [List.mem_singleton] at h
          subst h; exact hx
      · exact ht
  · exact ht
theorem optV_len (s : T_State.D) (xs : List T_Effect.D) (e : T_Event.D) (u : List Int) (h1 : s.1.length ≤ 1048576) (h2 : s.2.1.length ≤ 1048576) (hx : okD (.slice T_Effect) xs) : (optV s xs e u).length ≤ xs.length := by
  have : ∀ (l : List T_Effect.D) (i : Nat) (t : List Int × Int), (foldIx (optI (openB s e u)) i l t).1.length ≤ t.1.length + l.length := by
    intro l
    induction l with
    | nil => intro i t; simp [foldIx]
    | cons x l ih =>
      intro i t
      unfold foldIx
      have := ih (i + 1) (optI (openB s e u) t i x)
      have h2 : (optI (openB s e u) t i x).1.length ≤ t.1.length + 1 := by
        unfold optI optI1
        split
        · split
          · simp
          · split
            · simp
            · omega
        · omega
      simp only [List.length_cons]
      omega
  have := this xs 0 ([], 0)
  unfold optV
  simpa using this

/-! ### Effects found, turned; sets -/
def effAt (xs : List T_Effect.D) (a : Int) : Int := match findL (fun (x : T_Effect.D) => x.1 == a) xs with | some k => (k : Int) | none => -1
theorem index_Effect (xs : List T_Effect.D) (hl : xs.length ≤ 1048576) (p : T_Effect.D → Bool) (q : (T_Effect.D × Unit) → Option Bool) (hq : ∀ x ∈ xs, q (x, ()) = some (p x)) :
    slices_IndexFunc_impl_Effect xs q = some (match findL p xs with | some k => (k : Int) | none => -1) := by
  unfold slices_IndexFunc_impl_Effect
  rw [index_loop xs (body := slices_IndexFunc_impl_Effect_l1 xs q) p (fun i => i) (by omega) (fun i x hx => ?_) ?_]
  · cases findL p xs <;> rfl
  · unfold slices_IndexFunc_impl_Effect_l1
    simp
  · unfold slices_IndexFunc_impl_Effect_l1
    have hlt := (List.getElem?_eq_some_iff.1 hx).1
    have : ((i : Int) < (xs.length : Int)) := by omega
    simp only [this, decide_true, cond_true, idx_at hx, hq x (List.mem_of_getElem? hx), Option.bind_some]
theorem impl_EffectAt_eq (xs : List T_Effect.D) (a : Int) (hl : xs.length ≤ 1048576) : impl_EffectAt xs a = some (effAt xs a) := by
  unfold impl_EffectAt effAt
  rw [index_Effect xs hl (fun (x : T_Effect.D) => x.1 == a) _ (fun x _ => rfl)]
  rfl
theorem spec_EffectAt_eq (xs : List T_Effect.D) (a : Int) (hl : xs.length ≤ 1048576) : spec_EffectAt xs a = some (effAt xs a) := by
  unfold spec_EffectAt effAt
  rw [index_loop xs (body := spec_EffectAt_l1 xs a) (fun (x : T_Effect.D) => x.1 == a) (fun i => i) (by omega) (fun i x hx => ?_) ?_]
  · cases findL (fun (x : T_Effect.D) => x.1 == a) xs <;> rfl
  · unfold spec_EffectAt_l1
    simp
  · unfold spec_EffectAt_l1
    have hlt := (List.getElem?_eq_some_iff.1 hx).1
    have : ((i : Int) < (xs.length : Int)) := by omega
    simp only [this, decide_true, cond_true, idx_at hx]
theorem effAt_mem (xs : List T_Effect.D) (a : Int) (h : a ∈ xs.map (fun (x : T_Effect.D) => x.1)) : ∃ (k : Nat) (x : T_Effect.D), effAt xs a = k ∧ xs[k]? = some x ∧ x.1 = a := by
  unfold effAt
  obtain ⟨h1, h2⟩ := findL_spec (fun (x : T_Effect.D) => x.1 == a) xs
  cases hf : findL (fun (x : T_Effect.D) => x.1 == a) xs with
  | none =>
    obtain ⟨x, hx, rfl⟩ := List.mem_map.1 h
    have := h1 hf x hx
    simp at this
  | some k =>
    obtain ⟨x, g1, g2, _⟩ := h2 k hf
    exact ⟨k, x, rfl, g1, by simpa using g2⟩
theorem okEffect (y : T_Effect.D) (h : y.2.2.2.2.2.2.1.2.2.2.2.2.2.1.length ≤ 1048576) : okD T_Effect y :=
  ⟨trivial, trivial, trivial, trivial, okFlat _ rfl _, okFlat _ rfl _, ⟨trivial, trivial, trivial, trivial, trivial, trivial, ⟨h, fun x _ => okFlat _ rfl x⟩, trivial⟩, trivial, trivial, trivial⟩
theorem update_eq (xs : List T_Effect.D) (y x : T_Effect.D) (k : Nat) (hx : okD (.slice T_Effect) xs) (hy : y.2.2.2.2.2.2.1.2.2.2.2.2.2.1.length ≤ 1048576) (h1 : effAt xs y.1 = k) (h2 : xs[k]? = some x) (h3 : x.1 = y.1) :
    spec_Update xs y = some (xs.set k y) ∧ impl_Update xs y = some (xs.set k y) ∧ okD (.slice T_Effect) (xs.set k y) ∧ (xs.set k y).map (fun (x : T_Effect.D) => x.1) = xs.map (fun (x : T_Effect.D) => x.1) := by
  have hl : xs.length ≤ 1048576 := hx.1
  refine ⟨?_, ?_, ⟨by rw [List.length_set]; exact hl, fun z hz => ?_⟩, ?_⟩
  · unfold spec_Update
    rw [spec_table_copy xs hx, Option.bind_some, spec_EffectAt_eq xs _ hl, Option.bind_some, h1, decide_eq_true (by omega)]
    simp only [cond_true, spec_copyEffect_eq y hy, Option.bind_some, idx_at h2, Int.toNat_natCast, h2]
  · unfold impl_Update
    rw [impl_table_copy xs hx, Option.bind_some, impl_EffectAt_eq xs _ hl, Option.bind_some, h1, decide_eq_true (by omega)]
    simp only [cond_true, impl_copyEffect_eq y hy, Option.bind_some, idx_at h2, Int.toNat_natCast, h2]
  · rcases List.mem_or_eq_of_mem_set hz with h | rfl
    · exact hx.2 z h
    · exact okEffect _ hy
  · rw [List.map_set]
    refine List.ext_getElem? fun i => ?_
    rw [List.getElem?_set]
    split
    · rename_i he
      subst he
      have hk := (List.getElem?_eq_some_iff.1 h2).1
      rw [if_pos (by rw [List.length_map]; exact hk), List.getElem?_map, h2, ← h3]
      rfl
    · rfl
theorem nodup_prefix {l : List Int} (h : l.Nodup) {k : Nat} {x : Int} (hx : l[k]? = some x) : x ∉ l.take k ∧ (l.take k ++ [x]) = l.take (k + 1) := by
  have hk := (List.getElem?_eq_some_iff.1 hx).1
  have he := (List.getElem?_eq_some_iff.1 hx).2
  have h2 : l.take (k + 1) = l.take k ++ [x] := by rw [← he, List.take_succ_eq_append_getElem hk]
  refine ⟨fun hm => ?_, h2.symm⟩
  have hn : (l.take k ++ [x]).Nodup := by rw [← h2]; exact List.Sublist.nodup (List.take_sublist _ _) h
  rw [List.nodup_append] at hn
  exact hn.2.2 x hm x (by simp) rfl
theorem spec_SetOf_ok (l : List Int) (hl : l.length ≤ 1000) (hn : l.Nodup) : ∃ r, spec_SetOf l = some r ∧ r.Perm l := by
  obtain ⟨q, h1, h2⟩ := while_inv (body := spec_SetOf_l2 l) (fun s => l.length - s.2.toNat) (fun s => ∃ k : Nat, s.2 = k ∧ k ≤ l.length ∧ s.1.Perm (l.take k)) (fun s => s.1.Perm l) (by
    rintro ⟨out, i⟩ ⟨k, rfl, hk, hp⟩
    simp only at hp ⊢
    have hol : out.length ≤ 1000 := by rw [hp.length_eq, List.length_take]; omega
    unfold spec_SetOf_l2
    by_cases hlt : ((k : Int) < (l.length : Int))
    · have hkl : k < l.length := by omega
      obtain ⟨x, hx⟩ : ∃ x, l[k]? = some x := ⟨_, List.getElem?_eq_getElem hkl⟩
      obtain ⟨n1, n2⟩ := nodup_prefix hn hx
      have hno : x ∉ out := fun h => n1 (hp.mem_iff.1 h)
      obtain ⟨o, w1, w2⟩ := while_inv (body := spec_SetOf_l1 l (out, (k : Int))) (fun s => s.toNat) (fun s => 0 ≤ s ∧ s ≤ out.length) (fun s => 0 ≤ s ∧ s ≤ out.length) (by
        rintro j ⟨j0, j1⟩
        unfold spec_SetOf_l1
        by_cases hj : j > 0
        · obtain ⟨m, rfl⟩ : ∃ m : Nat, j = (m : Int) + 1 := ⟨(j - 1).toNat, by omega⟩
          have hm : m < out.length := by omega
          obtain ⟨y, hy⟩ : ∃ y, out[m]? = some y := ⟨_, List.getElem?_eq_getElem hm⟩
          have hw : IntKind.wrap .i64 ((m : Int) + 1 - 1) = (m : Int) := by rw [wrap_id (by omega) (by omega)]; omega
          simp only [hj, decide_true, cond_true, hw, idx_at hy, Int.toNat_natCast, hy, Option.bind_some, idx_at hx]
          by_cases hyx : y > x
          · left
            simp only [hyx, decide_true, cond_true]
            exact ⟨_, rfl, ⟨by omega, by omega⟩, by omega⟩
          · right
            simp only [hyx, decide_false, cond_false]
            exact ⟨_, rfl, j0, j1⟩
        · right
          simp only [hj, decide_false, cond_false, Option.bind_some]
          exact ⟨_, rfl, j0, j1⟩) (out.length : Int) ⟨by omega, by omega⟩
      obtain ⟨m, rfl⟩ := Int.eq_ofNat_of_zero_le w2.1
      have hm : m ≤ out.length := by omega
      left
      have hh : out.any (fun y => y == x) = false := by rw [any_eq_mem, decide_eq_false hno]
      simp only [hlt, decide_true, cond_true, idx_at hx, spec_Has_eq out x (by omega), hh, Option.bind_some, cond_false, w1, Int.le_refl, if_true, w2.1, w2.2]
      rw [if_pos (by simp only [room, List.length_append, List.length_take, List.length_drop, List.length_nil]; omega), if_pos (by simp only [room, List.length_append, List.length_take, List.length_drop, List.length_nil, List.length_cons]; omega), if_pos (by simp only [room, List.length_append, List.length_take, List.length_drop, List.length_nil, List.length_cons]; omega)]
      refine ⟨_, rfl, ⟨k + 1, by simp only; rw [wrap_id (by omega) (by omega)]; omega, by omega, ?_⟩, ?_⟩
      · simp only [Int.toNat_natCast, List.nil_append]
        have e1 : (List.drop (0 : Int).toNat (List.take m out)) = out.take m := rfl
        have e2 : List.take out.length out = out := List.take_length
        rw [e1, e2]
        refine (insert_perm out m x).trans ?_
        rw [← n2]
        exact List.Perm.append_right _ hp
      · simp only
        rw [wrap_id (by omega) (by omega)]
        omega
    · right
      simp only [hlt, decide_false, cond_false]
      have : k = l.length := by omega
      subst this
      rw [List.take_length] at hp
      exact ⟨_, rfl, hp⟩) ([], 0) ⟨0, rfl, Nat.zero_le _, by simp⟩
  unfold spec_SetOf
  rw [h1]
  exact ⟨_, rfl, h2⟩
theorem spec_With_ok (u : List Int) (a : Int) (hl : u.length ≤ 900) (hn : (u ++ [a]).Nodup) : ∃ r, spec_With u a = some r ∧ r.Perm (u ++ [a]) := by
  obtain ⟨r, h1, h2⟩ := spec_SetOf_ok (u ++ [a]) (by simp; omega) hn
  unfold spec_With
  rw [if_pos (by simp only [room, List.length_nil]; omega), if_pos (by simp only [room, List.nil_append, List.length_cons, List.length_nil]; omega), List.nil_append, h1]
  exact ⟨r, rfl, h2⟩

/-! ### Rewrite -/
/-- What a rewriting leaves behind: the effects keep their numbers, the choices get no more, what is left and the turns grow by q at most. -/
def Kept (tb tb' : List T_Effect.D) (cs cs' : List Int) (lf lf' : List T_Event.D) (tn tn' : List T_Turn.D) (q : Nat) : Prop :=
  okD (.slice T_Effect) tb' ∧ tb'.map (fun (x : T_Effect.D) => x.1) = tb.map (fun (x : T_Effect.D) => x.1) ∧ cs'.length ≤ cs.length ∧ lf'.length ≤ lf.length + q ∧ tn'.length ≤ tn.length + q ∧ ∀ t ∈ tn', okD T_Turn t
theorem okTurn (y : T_Turn.D) (h : y.2.2.2.2.2.1.length ≤ 1048576) : okD T_Turn y :=
  ⟨trivial, trivial, trivial, trivial, okFlat _ rfl _, ⟨h, fun x _ => okFlat _ rfl x⟩, trivial, trivial, trivial⟩
def GoWrite (n : Nat) : Prop := ∀ (s : T_State.D) (tb : List T_Effect.D) (cs : List Int) (lf : List T_Event.D) (tn : List T_Turn.D) (e : T_Event.D) (uS uI : List Int),
  s.1.length ≤ 1048576 → s.2.1.length ≤ 1048576 → okD (.slice T_Effect) tb → cs.length ≤ 1048576 → uS.Perm uI → uS.Nodup → (∀ a ∈ uS, a ∈ tb.map (fun (x : T_Effect.D) => x.1)) → tb.length ≤ 5 → tb.length < n + uS.length →
  lf.length + 4 ^ n ≤ 1048576 → tn.length + 4 ^ n ≤ 1048576 → (∀ t ∈ tn, okD T_Turn t) →
  ∃ tb' cs' lf' tn', spec_l14Go n (s, tb, cs, lf, tn, ()) e uS = some ((), (s, tb', cs', lf', tn', ())) ∧ impl_writer_write n (s, (lf, tb, cs, tn, ()), ()) e uI = some (true, (s, (lf', tb', cs', tn', ()), ())) ∧ Kept tb tb' cs cs' lf lf' tn tn' (4 ^ n)
theorem go_loop (n : Nat) (IH : GoWrite n) (s : T_State.D) (L : List T_Event.D) (m1 : Int) (y1 : T_Effect.D) (m2 : Int) (y2 : T_Effect.D) (wS v : List Int) (a : Int) (h1 : s.1.length ≤ 1048576) (h2 : s.2.1.length ≤ 1048576) (hw : wS.Perm (v ++ [a])) (hn : wS.Nodup) (hL : L.length ≤ 3) :
    ∀ (m k : Nat) (tb : List T_Effect.D) (cs : List Int) (lf : List T_Event.D) (tn : List T_Turn.D), k + m = L.length → okD (.slice T_Effect) tb → cs.length ≤ 1048576 → (∀ a ∈ wS, a ∈ tb.map (fun (x : T_Effect.D) => x.1)) → tb.length ≤ 5 → tb.length < n + wS.length →
    lf.length + m * 4 ^ n ≤ 1048576 → tn.length + m * 4 ^ n ≤ 1048576 → (∀ t ∈ tn, okD T_Turn t) →
    ∃ tb' cs' lf' tn', while_ (spec_l14Go_l1 (spec_l14Go n) (L, m1, y1, ()) wS) ((k : Int), s, tb, cs, lf, tn, ()) = some ((L.length : Int), s, tb', cs', lf', tn', ()) ∧
      while_ (impl_writer_write_l1 (impl_writer_write n) a (L, m2, y2, ()) v) ((k : Int), s, (lf, tb, cs, tn, ()), ()) = some (.inl ((L.length : Int), s, (lf', tb', cs', tn', ()), ())) ∧ Kept tb tb' cs cs' lf lf' tn tn' (m * 4 ^ n)
  | 0, k, tb, cs, lf, tn, hk, h3, h4, h5, h6, h7, h8, h9, h10 => by
    have : k = L.length := by omega
    subst this
    refine ⟨tb, cs, lf, tn, while_done ?_, while_done ?_, h3, rfl, Nat.le_refl _, by omega, by omega, h10⟩
    · unfold spec_l14Go_l1
      simp only [Int.lt_irrefl, decide_false, cond_false]
    · unfold impl_writer_write_l1
      simp only [Int.lt_irrefl, decide_false, cond_false]
  | m + 1, k, tb, cs, lf, tn, hk, h3, h4, h5, h6, h7, h8, h9, h10 => by
    rw [Nat.succ_mul] at h8 h9
    obtain ⟨x, hx⟩ : ∃ x, L[k]? = some x := ⟨_, List.getElem?_eq_getElem (by omega)⟩
    have hil : ((k : Int) < (L.length : Int)) := by omega
    obtain ⟨tb1, cs1, lf1, tn1, e1, e2, k1, k2, k3, k4, k5, k6⟩ := IH s tb cs lf tn x wS (v ++ [a]) h1 h2 h3 h4 hw hn h5 h6 h7 (by omega) (by omega) h10
    have hlen : tb1.length = tb.length := by have := congrArg List.length k2; simpa using this
    obtain ⟨tb2, cs2, lf2, tn2, w1, w2, g1, g2, g3, g4, g5, g6⟩ := go_loop n IH s L m1 y1 m2 y2 wS v a h1 h2 hw hn hL m (k + 1) tb1 cs1 lf1 tn1 (by omega) k1 (by omega) (by rw [k2]; exact h5) (by omega) (by omega) (by omega) (by omega) k6
    have hwr : IntKind.wrap .i64 ((k : Int) + 1) = ((k + 1 : Nat) : Int) := by rw [wrap_id (by omega) (by omega)]; rfl
    refine ⟨tb2, cs2, lf2, tn2, while_step ?_ w1, while_step ?_ w2, g1, by rw [g2, k2], by omega, by rw [Nat.succ_mul]; omega, by rw [Nat.succ_mul]; omega, g6⟩
    · unfold spec_l14Go_l1
      simp only [hil, decide_true, cond_true, idx_at hx, Int.toNat_natCast, hx, Option.bind_some, e1, hwr]
    · unfold impl_writer_write_l1
      simp only [hil, decide_true, cond_true, idx_at hx, Int.toNat_natCast, hx, Option.bind_some, e2, hwr, Bool.not_true, cond_false]
theorem go_write : ∀ n, GoWrite n
  | 0, s, tb, cs, lf, tn, e, uS, uI, _, _, _, _, _, hn, hs, _, h7, _, _, _ => by
    have := nodup_sub_len uS _ hn hs
    rw [List.length_map] at this
    omega
  | n + 1, s, tb, cs, lf, tn, e, uS, uI, h1, h2, h3, h4, hp, hn, hs, h6, h7, h8, h9, h10 => by
    have hq : 1 ≤ 4 ^ n := Nat.one_le_iff_ne_zero.2 (by exact Nat.pos_iff_ne_zero.1 (Nat.pow_pos (by omega)))
    rw [Nat.pow_succ] at h8 h9
    have hul := nodup_sub_len uS _ hn hs
    rw [List.length_map] at hul
    have hui := hp.length_eq
    have hl : tb.length ≤ 1048576 := h3.1
    have o1 := spec_Options_eq s tb e uS uI h1 h2 h3 (by omega) (fun a => hp.mem_iff)
    have o2 := impl_Options_eq s tb e uI h1 h2 h3 (by omega)
    have o3 := optV_mem s tb e uI
    have o4 := optV_len s tb e uI h1 h2 h3
    show ∃ tb' cs' lf' tn', spec_l14Go_step (spec_l14Go n) (s, tb, cs, lf, tn, ()) e uS = _ ∧ impl_writer_write_step (impl_writer_write n) (s, (lf, tb, cs, tn, ()), ()) e uI = _ ∧ _
    unfold spec_l14Go_step impl_writer_write_step
    simp only [o1, o2, Option.bind_some]
    generalize optV s tb e uI = os at o3 o4
    by_cases h0 : os.length = 0
    · have : ((os.length : Int) == 0) = true := by rw [h0]; rfl
      simp only [this, cond_true, spec_Gone_eq, impl_Gone_eq, Option.bind_some]
      cases goneB e
      · simp only [Bool.not_false, cond_true]
        rw [if_pos (by simp only [room, List.length_cons, List.length_nil]; omega), if_pos (by simp only [room, List.length_cons, List.length_nil]; omega)]
        refine ⟨tb, cs, lf ++ [e], tn, rfl, rfl, h3, rfl, Nat.le_refl _, ?_, ?_, h10⟩
        · rw [Nat.pow_succ, List.length_append, List.length_cons, List.length_nil]; omega
        · omega
      · simp only [Bool.not_true, cond_false]
        exact ⟨tb, cs, lf, tn, rfl, rfl, h3, rfl, Nat.le_refl _, by omega, by omega, h10⟩
    · have : ((os.length : Int) == 0) = false := by rw [beq_eq_false_iff_ne]; omega
      obtain ⟨p1, p2⟩ := pickK_in cs (n := (os.length : Int)) (by omega)
      have p3 := (pickR_suffix cs (os.length : Int)).length_le
      obtain ⟨k, hk⟩ := Int.eq_ofNat_of_zero_le p1
      have hko : k < os.length := by omega
      obtain ⟨a, ha⟩ : ∃ a, os[k]? = some a := ⟨_, List.getElem?_eq_getElem hko⟩
      obtain ⟨ha1, ha2⟩ := o3 a (List.mem_of_getElem? ha)
      obtain ⟨j, x, f1, f2, f3⟩ := effAt_mem tb a ha1
      have hok := (h3.2 x (List.mem_of_getElem? f2)).2.2.2.2.2.2.1.2.2.2.2.2.2.1.1
      obtain ⟨L, sn, y, d1, d2, ⟨d3, d4, d5⟩, _⟩ := doAct_eq x e hok
      obtain ⟨u1, u2, u3, u4⟩ := update_eq tb y x j h3 d3 (by rw [d5, f3]; exact f1) f2 d5.symm
      obtain ⟨ch, c1, c2⟩ := chooser_eq s e h1
      have hnu : (uS ++ [a]).Nodup := by
        rw [List.nodup_append]
        refine ⟨hn, by simp, fun b hb c hc => ?_⟩
        simp only [List.mem_singleton] at hc
        subst hc
        intro he; subst he
        exact ha2 (hp.mem_iff.1 hb)
      obtain ⟨wS, w1, w2⟩ := spec_With_ok uS a (by omega) hnu
      have hsub : ∀ b ∈ wS, b ∈ tb.map (fun (x : T_Effect.D) => x.1) := fun b hb => by
        rcases List.mem_append.1 (w2.mem_iff.1 hb) with h | h
        · exact hs b h
        · simp only [List.mem_singleton] at h; subst h; exact ha1
      have hwl : wS.length = uS.length + 1 := by rw [w2.length_eq, List.length_append]; rfl
      have hut : (tb.set j y).length = tb.length := List.length_set ..
      have tl : ∀ t ∈ tn ++ [((x.1, ch, (k : Int), (os.length : Int), e, L, sn, (uS.length : Int), ()) : T_Turn.D)], okD T_Turn t := fun t ht => by
        rcases List.mem_append.1 ht with h | h
        · exact h10 t h
        · simp only [List.mem_singleton] at h
          subst h
          exact okTurn _ (by show L.length ≤ 1048576; omega)
      have hmq : L.length * 4 ^ n ≤ 3 * 4 ^ n := Nat.mul_le_mul_right _ d4
      obtain ⟨tb', cs', lf', tn', g1, g2, g3, g4, g5, g6, g7, g8⟩ := go_loop n (go_write n) s L sn y sn y wS uI a h1 h2 (w2.trans (List.Perm.append_right _ hp)) (w2.nodup_iff.2 hnu) d4 L.length 0 (tb.set j y) (pickR cs (os.length : Int)) lf (tn ++ [(x.1, ch, (k : Int), (os.length : Int), e, L, sn, (uS.length : Int), ())]) (by omega) u3 (by omega) (by rw [u4]; exact hsub) (by omega) (by omega) (by omega) (by simp only [List.length_append, List.length_cons, List.length_nil]; omega) tl
      refine ⟨tb', cs', lf', tn', ?_, ?_, g3, by rw [g4, u4], by omega, by rw [Nat.pow_succ]; omega, by rw [Nat.pow_succ]; simp only [List.length_append, List.length_cons, List.length_nil] at g7; omega, g8⟩
      · simp only [this, cond_false, spec_Pick_eq cs (os.length : Int) (by omega) (by omega), Option.bind_some, hk, idx_at ha, Int.toNat_natCast, ha, spec_EffectAt_eq tb a hl, f1, idx_at f2, d2, u1, c1]
        rw [if_pos (by simp only [room, List.length_nil]; omega), if_pos (by simp only [room, List.length_cons, List.length_nil]; omega), f3, w1, Option.bind_some]
        rw [f3] at g1
        simp only [List.nil_append]
        rw [show ((0 : Int)) = ((0 : Nat) : Int) from rfl, g1]
        rfl
      · have hc : slices_Clone_int uI = some uI := clone_int_eq uI (by omega)
        simp only [this, cond_false, impl_Rewrite_1, impl_Rewrite_2, impl_Pick_eq cs (os.length : Int) (by omega) (by omega), Option.bind_some, hk, idx_at ha, Int.toNat_natCast, ha, impl_EffectAt_eq tb a hl, f1, idx_at f2, d1, u2, c2, Bool.not_true, hc]
        rw [if_pos (by simp only [room, List.length_cons, List.length_nil]; omega), if_pos (by simp only [room, List.length_cons, List.length_nil]; omega)]
        rw [f3, hui] at g2
        rw [show ((0 : Int)) = ((0 : Nat) : Int) from rfl, g2]
        rfl
/-- What a rewriting answers. -/
theorem rewrite_eq (s : T_State.D) (tb : List T_Effect.D) (e : T_Event.D) (cs : List Int) (h1 : s.1.length ≤ 1048576) (h2 : s.2.1.length ≤ 1048576) (h3 : okD (.slice T_Effect) tb) (h4 : cs.length ≤ 1048576) :
    ∃ r : T_Fate.D, spec_Rewrite s tb e cs = some r ∧ impl_Rewrite s tb e cs = some r ∧ okD T_Fate r ∧ r.1.length ≤ 65536 ∧ r.2.2.1.length ≤ cs.length ∧ r.2.2.2.1.length ≤ 65536 := by
  have hl : tb.length ≤ 1048576 := h3.1
  have triv : okD T_Fate ([], tb, cs, [], ()) := ⟨⟨by simp, fun x hx => by cases hx⟩, h3, ⟨h4, fun x _ => okFlat _ rfl x⟩, ⟨by simp, fun x hx => by cases hx⟩, trivial⟩
  obtain ⟨b3, hb3⟩ : ∃ b3, b3 = (!anyI (badEffect tb) 0 tb && decide ((tb.length : Int) ≤ 5)) := ⟨_, rfl⟩
  have g1 := spec_TableOk_eq tb h3
  have g2 := impl_TableOk_eq tb h3
  rw [← hb3] at g1 g2
  unfold spec_Rewrite impl_Rewrite
  simp only [spec_table_copy tb h3, impl_table_copy tb h3, clone_int_eq cs h4, spec_StateOk_eq s h1 h2, impl_StateOk_eq s h1 h2, g1, g2, spec_EventOk_eq, impl_EventOk_eq, Option.bind_some, List.nil_append]
  rw [if_pos (by simp only [room, List.length_nil]; omega)]
  cases stateOkB s
  · exact ⟨_, rfl, rfl, triv, by simp, Nat.le_refl _, by simp⟩
  cases b3
  · cases eventOkB e <;> exact ⟨_, rfl, rfl, triv, by simp, Nat.le_refl _, by simp⟩
  cases eventOkB e
  · exact ⟨_, rfl, rfl, triv, by simp, Nat.le_refl _, by simp⟩
  have h5 : tb.length ≤ 5 := by
    have := hb3.symm
    rw [Bool.and_eq_true] at this
    have := of_decide_eq_true this.2
    omega
  obtain ⟨tb', cs', lf', tn', e1, e2, k1, k2, k3, k4, k5, k6⟩ := go_write 8 s tb cs [] [] e [] [] h1 h2 h3 h4 (List.Perm.refl _) List.nodup_nil (fun a h => by cases h) h5 (by simp; omega) (by simp) (by simp) (fun t h => by cases h)
  simp only [List.length_nil, Nat.zero_add] at k4 k5
  have q : 4 ^ 8 = 65536 := by decide
  rw [q] at k4 k5
  have q1 : lf'.length ≤ 1048576 := by omega
  have q2 : cs'.length ≤ 1048576 := by omega
  have q3 : tn'.length ≤ 1048576 := by omega
  have ok : okD T_Fate (lf', tb', cs', tn', ()) := ⟨⟨q1, fun x _ => okFlat _ rfl x⟩, k1, ⟨q2, fun x _ => okFlat _ rfl x⟩, ⟨q3, k6⟩, trivial⟩
  simp only [e1, e2, cond_true, cond_false, Bool.not_true, Option.bind_some]
  rw [impl_turns_copy tn' ⟨by omega, k6⟩]
  exact ⟨_, rfl, rfl, ok, by simp only; omega, by simp only; omega, by simp only; omega⟩
theorem law_Rewrite (s : T_State.D) (tb : List T_Effect.D) (e : T_Event.D) (cs : List Int) (ws0 : s.1.length ≤ maxLen) (ws1 : s.2.1.length ≤ maxLen) (wx : (Ty.slice T_Effect).wf tb) : laws_FnExactRewrite s tb e cs = some true := by
  unfold laws_FnExactRewrite
  by_cases gl : (cs.length : Int) > 1048576
  · rw [decide_eq_true gl]; rfl
  rw [decide_eq_false gl]; simp only [cond_false]
  rw [laws_szState_eq s _ (by omega) (by omega) ws0 ws1, Option.bind_some]
  by_cases gs : (s.1.length : Int) + s.2.1.length ≤ 1048576
  · rw [if_pos gs]
    simp (disch := omega) only [dec_neg, cond_false]
    obtain ⟨m, z, hh⟩ := laws_szEffectS_ok tb (1048576 - s.1.length - s.2.1.length) (by omega) (by omega) wx
    rw [z, Option.bind_some]
    rcases hh with hh | ⟨g0, g1, ok⟩
    · rw [decide_eq_true hh]; rfl
    rw [dec_neg g0]; simp only [cond_false]
    have hp : s.1.length ≤ 1048576 := by omega
    have hs : s.2.1.length ≤ 1048576 := by omega
    have hc : cs.length ≤ 1048576 := by omega
    obtain ⟨r, e1, e2, okr, _⟩ := rewrite_eq s tb e cs hp hs ok hc
    obtain ⟨a2, q2, r2⟩ := laws_markEffectS_ok tb (1 + (13 : Nat) * (s.1.length : Int) + (3 : Nat) * (s.2.1.length : Int)) ok (by omega) (by omega)
    obtain ⟨n2, g', hm2, hn2, hb2, hh2⟩ := markFate_held r okr 1 (by omega) (by omega)
    simp (disch := omega) only [laws_toState_eq s, laws_toEffectS_ok tb ok, laws_toIntS_eq cs hc, laws_toEvent_eq, e1, e2, laws_eqFate_ok r r okr, eqD_refl (t := T_Fate) rfl, laws_eqState_eq s s, eqD_refl (t := T_State) rfl, laws_eqEffectS_ok tb tb ok, eqD_refl (t := .slice T_Effect) rfl, laws_eqIntS_eq cs cs hc, eqD_refl (t := .slice (.int .i64)) rfl, laws_markState_eq s 1, a2, laws_markIntS_eq cs, Option.bind_some, dec_neg, hm2, hh2, bne_self_eq_false, Bool.not_true, cond_false, cond_true]
  · rw [if_neg gs]; rfl

end Go.Abs
