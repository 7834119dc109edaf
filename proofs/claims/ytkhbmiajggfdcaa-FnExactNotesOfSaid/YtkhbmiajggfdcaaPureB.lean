import Derived.Test.YtkhbmiajggfdcaaGen
import Derived.Test.YtkhbmiajggfdcaaAbsPure
set_option linter.unusedVariables false
set_option linter.unusedSimpArgs false
namespace Go.Abs

theorem laws_szEventS_eq (a : List T_Event.D) (l : Int) (h0 : 0 ≤ l) (h1 : l ≤ 1048576) (hn : a.length ≤ maxLen) : laws_szEventS a l = some (if (a.length : Int) ≤ l then l - a.length else -1) := by
  unfold laws_szEventS; exact sz_list h0 h1 (by simpa [maxLen] using hn)
theorem laws_toEvent_eq (a : T_Event.D) : laws_toEvent a = some a := by
  first | rfl | (unfold laws_toEvent; simp only [laws_toPiece_eq, laws_toEvent_eq, Option.bind_some]; rfl)
theorem laws_toEventS_eq (a : List T_Event.D) (h : a.length ≤ 1048576) : laws_toEventS a = some a := by
  unfold laws_toEventS
  rw [if_pos (by omega), if_pos (by simp only [room]; omega), Int.toNat_natCast, copy_loop a _ (body := laws_toEventS_l1 a) laws_toEvent (fun x _ => laws_toEvent_eq x) (by omega) (fun _ => rfl)]
  rfl
theorem laws_eqEvent_eq (a b : T_Event.D) : laws_eqEvent a b = some (eqD T_Event a b) := by
  unfold laws_eqEvent
  first | (simp only [bneIf]; rfl) | (simp only [laws_eqEvent_eq, laws_eqPiece_eq, Option.bind_some, bneIf, notIf]; rfl)
theorem laws_eqEventS_eq (a b : List T_Event.D) (h : a.length ≤ 1048576) : laws_eqEventS a b = some (eqD (.slice T_Event) a b) := by
  unfold laws_eqEventS
  exact eq_lists (t := T_Event) rfl a b (e := eqD T_Event) (fun _ _ => rfl) (by omega) (fun i => by unfold laws_eqEventS_l1; simp only [laws_eqEvent_eq, Option.bind_some])

theorem laws_szPieceS_eq (a : List T_Piece.D) (l : Int) (h0 : 0 ≤ l) (h1 : l ≤ 1048576) (hn : a.length ≤ maxLen) : laws_szPieceS a l = some (if (a.length : Int) ≤ l then l - a.length else -1) := by
  unfold laws_szPieceS; exact sz_list h0 h1 (by simpa [maxLen] using hn)
theorem laws_toPiece_eq (a : T_Piece.D) : laws_toPiece a = some a := by
  first | rfl | (unfold laws_toPiece; simp only [laws_toPiece_eq, laws_toEvent_eq, Option.bind_some]; rfl)
theorem laws_toPieceS_eq (a : List T_Piece.D) (h : a.length ≤ 1048576) : laws_toPieceS a = some a := by
  unfold laws_toPieceS
  rw [if_pos (by omega), if_pos (by simp only [room]; omega), Int.toNat_natCast, copy_loop a _ (body := laws_toPieceS_l1 a) laws_toPiece (fun x _ => laws_toPiece_eq x) (by omega) (fun _ => rfl)]
  rfl
theorem laws_eqPiece_eq (a b : T_Piece.D) : laws_eqPiece a b = some (eqD T_Piece a b) := by
  unfold laws_eqPiece
  first | (simp only [bneIf]; rfl) | (simp only [laws_eqEvent_eq, laws_eqPiece_eq, Option.bind_some, bneIf, notIf]; rfl)
theorem laws_eqPieceS_eq (a b : List T_Piece.D) (h : a.length ≤ 1048576) : laws_eqPieceS a b = some (eqD (.slice T_Piece) a b) := by
  unfold laws_eqPieceS
  exact eq_lists (t := T_Piece) rfl a b (e := eqD T_Piece) (fun _ _ => rfl) (by omega) (fun i => by unfold laws_eqPieceS_l1; simp only [laws_eqPiece_eq, Option.bind_some])

theorem laws_szSideS_eq (a : List T_Side.D) (l : Int) (h0 : 0 ≤ l) (h1 : l ≤ 1048576) (hn : a.length ≤ maxLen) : laws_szSideS a l = some (if (a.length : Int) ≤ l then l - a.length else -1) := by
  unfold laws_szSideS; exact sz_list h0 h1 (by simpa [maxLen] using hn)
theorem laws_toSide_eq (a : T_Side.D) : laws_toSide a = some a := by
  first | rfl | (unfold laws_toSide; simp only [laws_toPiece_eq, laws_toEvent_eq, Option.bind_some]; rfl)
theorem laws_toSideS_eq (a : List T_Side.D) (h : a.length ≤ 1048576) : laws_toSideS a = some a := by
  unfold laws_toSideS
  rw [if_pos (by omega), if_pos (by simp only [room]; omega), Int.toNat_natCast, copy_loop a _ (body := laws_toSideS_l1 a) laws_toSide (fun x _ => laws_toSide_eq x) (by omega) (fun _ => rfl)]
  rfl
theorem laws_eqSide_eq (a b : T_Side.D) : laws_eqSide a b = some (eqD T_Side a b) := by
  unfold laws_eqSide
  first | (simp only [bneIf]; rfl) | (simp only [laws_eqEvent_eq, laws_eqPiece_eq, Option.bind_some, bneIf, notIf]; rfl)
theorem laws_eqSideS_eq (a b : List T_Side.D) (h : a.length ≤ 1048576) : laws_eqSideS a b = some (eqD (.slice T_Side) a b) := by
  unfold laws_eqSideS
  exact eq_lists (t := T_Side) rfl a b (e := eqD T_Side) (fun _ _ => rfl) (by omega) (fun i => by unfold laws_eqSideS_l1; simp only [laws_eqSide_eq, Option.bind_some])

theorem laws_toIntS_eq (a : List Int) (h : a.length ≤ 1048576) : laws_toIntS a = some a := by
  unfold laws_toIntS
  rw [if_pos (by omega), if_pos (by simp only [room]; omega), Int.toNat_natCast, copy_loop a _ (body := laws_toIntS_l1 a) some (fun x _ => rfl) (by omega) (fun _ => rfl)]
  rfl
theorem laws_eqIntS_eq (a b : List Int) (h : a.length ≤ 1048576) : laws_eqIntS a b = some (eqD (.slice (.int .i64)) a b) := by
  unfold laws_eqIntS
  exact eq_lists (t := .int .i64) rfl a b (e := fun (x y : Int) => x == y) (fun _ _ => rfl) (by omega) (fun i => rfl)

theorem laws_szTriggerS_eq (a : List T_Trigger.D) (l : Int) (h0 : 0 ≤ l) (h1 : l ≤ 1048576) (hn : a.length ≤ maxLen) : laws_szTriggerS a l = some (if (a.length : Int) ≤ l then l - a.length else -1) := by
  unfold laws_szTriggerS; exact sz_list h0 h1 (by simpa [maxLen] using hn)
theorem laws_toTrigger_eq (a : T_Trigger.D) : laws_toTrigger a = some a := by
  first | rfl | (unfold laws_toTrigger; simp only [laws_toPiece_eq, laws_toEvent_eq, Option.bind_some]; rfl)
theorem laws_toTriggerS_eq (a : List T_Trigger.D) (h : a.length ≤ 1048576) : laws_toTriggerS a = some a := by
  unfold laws_toTriggerS
  rw [if_pos (by omega), if_pos (by simp only [room]; omega), Int.toNat_natCast, copy_loop a _ (body := laws_toTriggerS_l1 a) laws_toTrigger (fun x _ => laws_toTrigger_eq x) (by omega) (fun _ => rfl)]
  rfl
theorem laws_eqTrigger_eq (a b : T_Trigger.D) : laws_eqTrigger a b = some (eqD T_Trigger a b) := by
  unfold laws_eqTrigger
  first | (simp only [bneIf]; rfl) | (simp only [laws_eqEvent_eq, laws_eqPiece_eq, Option.bind_some, bneIf, notIf]; rfl)
theorem laws_eqTriggerS_eq (a b : List T_Trigger.D) (h : a.length ≤ 1048576) : laws_eqTriggerS a b = some (eqD (.slice T_Trigger) a b) := by
  unfold laws_eqTriggerS
  exact eq_lists (t := T_Trigger) rfl a b (e := eqD T_Trigger) (fun _ _ => rfl) (by omega) (fun i => by unfold laws_eqTriggerS_l1; simp only [laws_eqTrigger_eq, Option.bind_some])

theorem laws_szNoteS_eq (a : List T_Note.D) (l : Int) (h0 : 0 ≤ l) (h1 : l ≤ 1048576) (hn : a.length ≤ maxLen) : laws_szNoteS a l = some (if (a.length : Int) ≤ l then l - a.length else -1) := by
  unfold laws_szNoteS; exact sz_list h0 h1 (by simpa [maxLen] using hn)
theorem laws_toNote_eq (a : T_Note.D) : laws_toNote a = some a := by
  first | rfl | (unfold laws_toNote; simp only [laws_toPiece_eq, laws_toEvent_eq, Option.bind_some]; rfl)
theorem laws_toNoteS_eq (a : List T_Note.D) (h : a.length ≤ 1048576) : laws_toNoteS a = some a := by
  unfold laws_toNoteS
  rw [if_pos (by omega), if_pos (by simp only [room]; omega), Int.toNat_natCast, copy_loop a _ (body := laws_toNoteS_l1 a) laws_toNote (fun x _ => laws_toNote_eq x) (by omega) (fun _ => rfl)]
  rfl
theorem laws_eqNote_eq (a b : T_Note.D) : laws_eqNote a b = some (eqD T_Note a b) := by
  unfold laws_eqNote
  first | (simp only [bneIf]; rfl) | (simp only [laws_eqEvent_eq, laws_eqPiece_eq, Option.bind_some, bneIf, notIf]; rfl)
theorem laws_eqNoteS_eq (a b : List T_Note.D) (h : a.length ≤ 1048576) : laws_eqNoteS a b = some (eqD (.slice T_Note) a b) := by
  unfold laws_eqNoteS
  exact eq_lists (t := T_Note) rfl a b (e := eqD T_Note) (fun _ _ => rfl) (by omega) (fun i => by unfold laws_eqNoteS_l1; simp only [laws_eqNote_eq, Option.bind_some])

theorem laws_szState_eq (s : T_State.D) (l : Int) (h0 : 0 ≤ l) (h1 : l ≤ 1048576) (hp : s.1.length ≤ maxLen) (hs : s.2.1.length ≤ maxLen) : laws_szState s l = some (if (s.1.length : Int) + s.2.1.length ≤ l then l - s.1.length - s.2.1.length else -1) := by
  unfold laws_szState
  rw [laws_szPieceS_eq _ _ h0 h1 hp, Option.bind_some]
  by_cases g1 : (s.1.length : Int) ≤ l
  · rw [if_pos g1]
    have n1 : ¬ (l - (s.1.length : Int) < 0) := by omega
    simp only [n1, decide_false, cond_false]
    rw [laws_szSideS_eq _ _ (by omega) (by omega) hs, Option.bind_some]
    by_cases g2 : (s.2.1.length : Int) ≤ l - s.1.length
    · have n2 : ¬ (l - (s.1.length : Int) - s.2.1.length < 0) := by omega
      rw [if_pos g2, if_pos (by omega)]
      simp only [n2, decide_false, cond_false]
    · rw [if_neg g2, if_neg (by omega)]; rfl
  · rw [if_neg g1, if_neg (by omega)]; rfl
theorem laws_toState_eq (s : T_State.D) (hp : s.1.length ≤ 1048576) (hs : s.2.1.length ≤ 1048576) : laws_toState s = some s := by
  unfold laws_toState
  simp only [laws_toPieceS_eq _ hp, laws_toSideS_eq _ hs, Option.bind_some]
theorem laws_eqState_eq (a b : T_State.D) (hp : a.1.length ≤ 1048576) (hs : a.2.1.length ≤ 1048576) : laws_eqState a b = some (eqD T_State a b) := by
  unfold laws_eqState
  simp only [laws_eqPieceS_eq _ _ hp, laws_eqSideS_eq _ _ hs, Option.bind_some, bneIf, notIf]
  rfl

def fillInt (k : Int) : Int := k
theorem laws_markIntS_step (ys : List Int) (k : Int) (i : Nat) (hlt : i < ys.length) (h0 : 0 ≤ k) (hk : k ≤ 4611686018427387904) (hi : (i : Int) ≤ 4611686018427387904) : laws_markIntS_l1 (ys, k, (i : Int)) = some (.inl (ys.set i (fillInt k), k + (1 : Nat), (i : Int) + 1)) := by
  obtain ⟨x, hx⟩ : ∃ x, ys[i]? = some x := ⟨_, List.getElem?_eq_getElem hlt⟩
  have hil : ((i : Int) < (ys.length : Int)) := by omega
  have hc : k + ((1 : Nat) : Int) = k + 1 := by omega
  unfold laws_markIntS_l1 fillInt
  simp (disch := omega) only [hil, decide_true, cond_true, Int.toNat_natCast, idx_at hx, hx, Option.bind_some, idx_set hlt, get_set hlt, List.set_set, wrap_id, hc]
  first | done | rfl
theorem laws_markIntS_eq (xs : List Int) (k : Int) (h0 : 0 ≤ k) (hk : k + (1 : Nat) * (xs.length : Int) ≤ 4611686018427387904) (hlen : (xs.length : Int) ≤ 4611686018427387904) : laws_markIntS xs k = some (k + (1 : Nat) * (xs.length : Int), (fillL fillInt (1 : Nat) k xs.length, ())) := by
  unfold laws_markIntS
  rw [mark_loop fillInt 1 laws_markIntS_step (fun ys k => by unfold laws_markIntS_l1; simp) xs k h0 hk hlen]
  rfl

def fillSide (k : Int) : T_Side.D := (k, k + 1, ((k + 1 + 1).tmod 3 == 0), ())
theorem laws_markSideS_step (ys : List T_Side.D) (k : Int) (i : Nat) (hlt : i < ys.length) (h0 : 0 ≤ k) (hk : k ≤ 4611686018427387904) (hi : (i : Int) ≤ 4611686018427387904) : laws_markSideS_l1 (ys, k, (i : Int)) = some (.inl (ys.set i (fillSide k), k + (3 : Nat), (i : Int) + 1)) := by
  obtain ⟨x, hx⟩ : ∃ x, ys[i]? = some x := ⟨_, List.getElem?_eq_getElem hlt⟩
  have hil : ((i : Int) < (ys.length : Int)) := by omega
  have hc : k + ((3 : Nat) : Int) = k + 1 + 1 + 1 := by omega
  unfold laws_markSideS_l1 fillSide
  simp (disch := omega) only [hil, decide_true, cond_true, Int.toNat_natCast, idx_at hx, hx, Option.bind_some, idx_set hlt, get_set hlt, List.set_set, wrap_id, hc]
  first | done | rfl
theorem laws_markSideS_eq (xs : List T_Side.D) (k : Int) (h0 : 0 ≤ k) (hk : k + (3 : Nat) * (xs.length : Int) ≤ 4611686018427387904) (hlen : (xs.length : Int) ≤ 4611686018427387904) : laws_markSideS xs k = some (k + (3 : Nat) * (xs.length : Int), (fillL fillSide (3 : Nat) k xs.length, ())) := by
  unfold laws_markSideS
  rw [mark_loop fillSide 3 laws_markSideS_step (fun ys k => by unfold laws_markSideS_l1; simp) xs k h0 hk hlen]
  rfl

def fillPiece (k : Int) : T_Piece.D := (k, k + 1, k + 1 + 1, k + 1 + 1 + 1, k + 1 + 1 + 1 + 1, k + 1 + 1 + 1 + 1 + 1, k + 1 + 1 + 1 + 1 + 1 + 1, k + 1 + 1 + 1 + 1 + 1 + 1 + 1, k + 1 + 1 + 1 + 1 + 1 + 1 + 1 + 1, k + 1 + 1 + 1 + 1 + 1 + 1 + 1 + 1 + 1, k + 1 + 1 + 1 + 1 + 1 + 1 + 1 + 1 + 1 + 1, ((k + 1 + 1 + 1 + 1 + 1 + 1 + 1 + 1 + 1 + 1 + 1).tmod 3 == 0), ((k + 1 + 1 + 1 + 1 + 1 + 1 + 1 + 1 + 1 + 1 + 1 + 1).tmod 3 == 0), ())
theorem laws_markPieceS_step (ys : List T_Piece.D) (k : Int) (i : Nat) (hlt : i < ys.length) (h0 : 0 ≤ k) (hk : k ≤ 4611686018427387904) (hi : (i : Int) ≤ 4611686018427387904) : laws_markPieceS_l1 (ys, k, (i : Int)) = some (.inl (ys.set i (fillPiece k), k + (13 : Nat), (i : Int) + 1)) := by
  obtain ⟨x, hx⟩ : ∃ x, ys[i]? = some x := ⟨_, List.getElem?_eq_getElem hlt⟩
  have hil : ((i : Int) < (ys.length : Int)) := by omega
  have hc : k + ((13 : Nat) : Int) = k + 1 + 1 + 1 + 1 + 1 + 1 + 1 + 1 + 1 + 1 + 1 + 1 + 1 := by omega
  unfold laws_markPieceS_l1 fillPiece
  simp (disch := omega) only [hil, decide_true, cond_true, Int.toNat_natCast, idx_at hx, hx, Option.bind_some, idx_set hlt, get_set hlt, List.set_set, wrap_id, hc]
  first | done | rfl
theorem laws_markPieceS_eq (xs : List T_Piece.D) (k : Int) (h0 : 0 ≤ k) (hk : k + (13 : Nat) * (xs.length : Int) ≤ 4611686018427387904) (hlen : (xs.length : Int) ≤ 4611686018427387904) : laws_markPieceS xs k = some (k + (13 : Nat) * (xs.length : Int), (fillL fillPiece (13 : Nat) k xs.length, ())) := by
  unfold laws_markPieceS
  rw [mark_loop fillPiece 13 laws_markPieceS_step (fun ys k => by unfold laws_markPieceS_l1; simp) xs k h0 hk hlen]
  rfl

def fillTrigger (k : Int) : T_Trigger.D := (k, k + 1, k + 1 + 1, (k + 1 + 1 + 1, k + 1 + 1 + 1 + 1, k + 1 + 1 + 1 + 1 + 1, k + 1 + 1 + 1 + 1 + 1 + 1, k + 1 + 1 + 1 + 1 + 1 + 1 + 1, k + 1 + 1 + 1 + 1 + 1 + 1 + 1 + 1, k + 1 + 1 + 1 + 1 + 1 + 1 + 1 + 1 + 1, k + 1 + 1 + 1 + 1 + 1 + 1 + 1 + 1 + 1 + 1, k + 1 + 1 + 1 + 1 + 1 + 1 + 1 + 1 + 1 + 1 + 1, k + 1 + 1 + 1 + 1 + 1 + 1 + 1 + 1 + 1 + 1 + 1 + 1, k + 1 + 1 + 1 + 1 + 1 + 1 + 1 + 1 + 1 + 1 + 1 + 1 + 1, ((k + 1 + 1 + 1 + 1 + 1 + 1 + 1 + 1 + 1 + 1 + 1 + 1 + 1 + 1).tmod 3 == 0), ((k + 1 + 1 + 1 + 1 + 1 + 1 + 1 + 1 + 1 + 1 + 1 + 1 + 1 + 1 + 1).tmod 3 == 0), ()), ())
theorem laws_markTriggerS_step (ys : List T_Trigger.D) (k : Int) (i : Nat) (hlt : i < ys.length) (h0 : 0 ≤ k) (hk : k ≤ 4611686018427387904) (hi : (i : Int) ≤ 4611686018427387904) : laws_markTriggerS_l1 (ys, k, (i : Int)) = some (.inl (ys.set i (fillTrigger k), k + (16 : Nat), (i : Int) + 1)) := by
  obtain ⟨x, hx⟩ : ∃ x, ys[i]? = some x := ⟨_, List.getElem?_eq_getElem hlt⟩
  have hil : ((i : Int) < (ys.length : Int)) := by omega
  have hc : k + ((16 : Nat) : Int) = k + 1 + 1 + 1 + 1 + 1 + 1 + 1 + 1 + 1 + 1 + 1 + 1 + 1 + 1 + 1 + 1 := by omega
  unfold laws_markTriggerS_l1 fillTrigger
  simp (disch := omega) only [hil, decide_true, cond_true, Int.toNat_natCast, idx_at hx, hx, Option.bind_some, idx_set hlt, get_set hlt, List.set_set, wrap_id, hc]
  first | done | rfl
theorem laws_markTriggerS_eq (xs : List T_Trigger.D) (k : Int) (h0 : 0 ≤ k) (hk : k + (16 : Nat) * (xs.length : Int) ≤ 4611686018427387904) (hlen : (xs.length : Int) ≤ 4611686018427387904) : laws_markTriggerS xs k = some (k + (16 : Nat) * (xs.length : Int), (fillL fillTrigger (16 : Nat) k xs.length, ())) := by
  unfold laws_markTriggerS
  rw [mark_loop fillTrigger 16 laws_markTriggerS_step (fun ys k => by unfold laws_markTriggerS_l1; simp) xs k h0 hk hlen]
  rfl

def fillNote (k : Int) : T_Note.D := (k, (k + 1, k + 1 + 1, k + 1 + 1 + 1, k + 1 + 1 + 1 + 1, k + 1 + 1 + 1 + 1 + 1, k + 1 + 1 + 1 + 1 + 1 + 1, ((k + 1 + 1 + 1 + 1 + 1 + 1 + 1).tmod 3 == 0), ()), k + 1 + 1 + 1 + 1 + 1 + 1 + 1 + 1, k + 1 + 1 + 1 + 1 + 1 + 1 + 1 + 1 + 1, (k + 1 + 1 + 1 + 1 + 1 + 1 + 1 + 1 + 1 + 1, k + 1 + 1 + 1 + 1 + 1 + 1 + 1 + 1 + 1 + 1 + 1, k + 1 + 1 + 1 + 1 + 1 + 1 + 1 + 1 + 1 + 1 + 1 + 1, k + 1 + 1 + 1 + 1 + 1 + 1 + 1 + 1 + 1 + 1 + 1 + 1 + 1, k + 1 + 1 + 1 + 1 + 1 + 1 + 1 + 1 + 1 + 1 + 1 + 1 + 1 + 1, k + 1 + 1 + 1 + 1 + 1 + 1 + 1 + 1 + 1 + 1 + 1 + 1 + 1 + 1 + 1, k + 1 + 1 + 1 + 1 + 1 + 1 + 1 + 1 + 1 + 1 + 1 + 1 + 1 + 1 + 1 + 1, k + 1 + 1 + 1 + 1 + 1 + 1 + 1 + 1 + 1 + 1 + 1 + 1 + 1 + 1 + 1 + 1 + 1, k + 1 + 1 + 1 + 1 + 1 + 1 + 1 + 1 + 1 + 1 + 1 + 1 + 1 + 1 + 1 + 1 + 1 + 1, k + 1 + 1 + 1 + 1 + 1 + 1 + 1 + 1 + 1 + 1 + 1 + 1 + 1 + 1 + 1 + 1 + 1 + 1 + 1, k + 1 + 1 + 1 + 1 + 1 + 1 + 1 + 1 + 1 + 1 + 1 + 1 + 1 + 1 + 1 + 1 + 1 + 1 + 1 + 1, ((k + 1 + 1 + 1 + 1 + 1 + 1 + 1 + 1 + 1 + 1 + 1 + 1 + 1 + 1 + 1 + 1 + 1 + 1 + 1 + 1 + 1).tmod 3 == 0), ((k + 1 + 1 + 1 + 1 + 1 + 1 + 1 + 1 + 1 + 1 + 1 + 1 + 1 + 1 + 1 + 1 + 1 + 1 + 1 + 1 + 1 + 1).tmod 3 == 0), ()), ())
theorem laws_markNoteS_step (ys : List T_Note.D) (k : Int) (i : Nat) (hlt : i < ys.length) (h0 : 0 ≤ k) (hk : k ≤ 4611686018427387904) (hi : (i : Int) ≤ 4611686018427387904) : laws_markNoteS_l1 (ys, k, (i : Int)) = some (.inl (ys.set i (fillNote k), k + (23 : Nat), (i : Int) + 1)) := by
  obtain ⟨x, hx⟩ : ∃ x, ys[i]? = some x := ⟨_, List.getElem?_eq_getElem hlt⟩
  have hil : ((i : Int) < (ys.length : Int)) := by omega
  have hc : k + ((23 : Nat) : Int) = k + 1 + 1 + 1 + 1 + 1 + 1 + 1 + 1 + 1 + 1 + 1 + 1 + 1 + 1 + 1 + 1 + 1 + 1 + 1 + 1 + 1 + 1 + 1 := by omega
  unfold laws_markNoteS_l1 fillNote
  simp (disch := omega) only [hil, decide_true, cond_true, Int.toNat_natCast, idx_at hx, hx, Option.bind_some, idx_set hlt, get_set hlt, List.set_set, wrap_id, hc]
  first | done | rfl
theorem laws_markNoteS_eq (xs : List T_Note.D) (k : Int) (h0 : 0 ≤ k) (hk : k + (23 : Nat) * (xs.length : Int) ≤ 4611686018427387904) (hlen : (xs.length : Int) ≤ 4611686018427387904) : laws_markNoteS xs k = some (k + (23 : Nat) * (xs.length : Int), (fillL fillNote (23 : Nat) k xs.length, ())) := by
  unfold laws_markNoteS
  rw [mark_loop fillNote 23 laws_markNoteS_step (fun ys k => by unfold laws_markNoteS_l1; simp) xs k h0 hk hlen]
  rfl

def markS (s : T_State.D) (k : Int) : T_State.D := (fillL fillPiece (13 : Nat) k s.1.length, fillL fillSide (3 : Nat) (k + (13 : Nat) * (s.1.length : Int)) s.2.1.length, s.2.2)
theorem laws_markState_eq (s : T_State.D) (k : Int) (h0 : 0 ≤ k) (h1 : k ≤ 4294967296) (hp : s.1.length ≤ 1048576) (hs : s.2.1.length ≤ 1048576) : laws_markState s k = some (k + (13 : Nat) * (s.1.length : Int) + (3 : Nat) * (s.2.1.length : Int), (markS s k, ())) := by
  unfold laws_markState
  rw [laws_markPieceS_eq _ k h0 (by omega) (by omega), Option.bind_some, laws_markSideS_eq _ _ (by omega) (by omega) (by omega)]
  rfl

theorem laws_heldIntS_eq (k0 : Int) (n : Nat) (h0 : 0 ≤ k0) (hk : k0 + (1 : Nat) * (n : Int) ≤ 4611686018427387904) (hlen : (n : Int) ≤ 4611686018427387904) : laws_heldIntS (fillL fillInt (1 : Nat) k0 n) k0 = some (k0 + (1 : Nat) * (n : Int)) := by
  unfold laws_heldIntS
  rw [held_loop fillInt 1 (fillL fillInt (1 : Nat) k0 n) k0 n rfl (body := laws_heldIntS_l1 (fillL fillInt (1 : Nat) k0 n)) ?_ ?_ h0 hk hlen]
  · rfl
  · intro k i hx h0 hk hi
    have hlt := (List.getElem?_eq_some_iff.1 hx).1
    have hil : ((i : Int) < ((fillL fillInt (1 : Nat) k0 n).length : Int)) := by omega
    have hc : k + ((1 : Nat) : Int) = k + 1 := by omega
    unfold laws_heldIntS_l1
    simp (disch := omega) only [hil, decide_true, cond_true, idx_at hx, fillInt, wrap_id, bne_self_eq_false, cond_false, hc]
    first | done | rfl
  · intro k
    unfold laws_heldIntS_l1
    simp

theorem laws_heldPieceS_eq (k0 : Int) (n : Nat) (h0 : 0 ≤ k0) (hk : k0 + (13 : Nat) * (n : Int) ≤ 4611686018427387904) (hlen : (n : Int) ≤ 4611686018427387904) : laws_heldPieceS (fillL fillPiece (13 : Nat) k0 n) k0 = some (k0 + (13 : Nat) * (n : Int)) := by
  unfold laws_heldPieceS
  rw [held_loop fillPiece 13 (fillL fillPiece (13 : Nat) k0 n) k0 n rfl (body := laws_heldPieceS_l1 (fillL fillPiece (13 : Nat) k0 n)) ?_ ?_ h0 hk hlen]
  · rfl
  · intro k i hx h0 hk hi
    have hlt := (List.getElem?_eq_some_iff.1 hx).1
    have hil : ((i : Int) < ((fillL fillPiece (13 : Nat) k0 n).length : Int)) := by omega
    have hc : k + ((13 : Nat) : Int) = k + 1 + 1 + 1 + 1 + 1 + 1 + 1 + 1 + 1 + 1 + 1 + 1 + 1 := by omega
    unfold laws_heldPieceS_l1
    simp (disch := omega) only [hil, decide_true, cond_true, idx_at hx, fillPiece, wrap_id, bne_self_eq_false, cond_false, hc]
    first | done | rfl
  · intro k
    unfold laws_heldPieceS_l1
    simp

theorem laws_heldTriggerS_eq (k0 : Int) (n : Nat) (h0 : 0 ≤ k0) (hk : k0 + (16 : Nat) * (n : Int) ≤ 4611686018427387904) (hlen : (n : Int) ≤ 4611686018427387904) : laws_heldTriggerS (fillL fillTrigger (16 : Nat) k0 n) k0 = some (k0 + (16 : Nat) * (n : Int)) := by
  unfold laws_heldTriggerS
  rw [held_loop fillTrigger 16 (fillL fillTrigger (16 : Nat) k0 n) k0 n rfl (body := laws_heldTriggerS_l1 (fillL fillTrigger (16 : Nat) k0 n)) ?_ ?_ h0 hk hlen]
  · rfl
  · intro k i hx h0 hk hi
    have hlt := (List.getElem?_eq_some_iff.1 hx).1
    have hil : ((i : Int) < ((fillL fillTrigger (16 : Nat) k0 n).length : Int)) := by omega
    have hc : k + ((16 : Nat) : Int) = k + 1 + 1 + 1 + 1 + 1 + 1 + 1 + 1 + 1 + 1 + 1 + 1 + 1 + 1 + 1 + 1 := by omega
    unfold laws_heldTriggerS_l1
    simp (disch := omega) only [hil, decide_true, cond_true, idx_at hx, fillTrigger, wrap_id, bne_self_eq_false, cond_false, hc]
    first | done | rfl
  · intro k
    unfold laws_heldTriggerS_l1
    simp

theorem laws_heldNoteS_eq (k0 : Int) (n : Nat) (h0 : 0 ≤ k0) (hk : k0 + (23 : Nat) * (n : Int) ≤ 4611686018427387904) (hlen : (n : Int) ≤ 4611686018427387904) : laws_heldNoteS (fillL fillNote (23 : Nat) k0 n) k0 = some (k0 + (23 : Nat) * (n : Int)) := by
  unfold laws_heldNoteS
  rw [held_loop fillNote 23 (fillL fillNote (23 : Nat) k0 n) k0 n rfl (body := laws_heldNoteS_l1 (fillL fillNote (23 : Nat) k0 n)) ?_ ?_ h0 hk hlen]
  · rfl
  · intro k i hx h0 hk hi
    have hlt := (List.getElem?_eq_some_iff.1 hx).1
    have hil : ((i : Int) < ((fillL fillNote (23 : Nat) k0 n).length : Int)) := by omega
    have hc : k + ((23 : Nat) : Int) = k + 1 + 1 + 1 + 1 + 1 + 1 + 1 + 1 + 1 + 1 + 1 + 1 + 1 + 1 + 1 + 1 + 1 + 1 + 1 + 1 + 1 + 1 + 1 := by omega
    unfold laws_heldNoteS_l1
    simp (disch := omega) only [hil, decide_true, cond_true, idx_at hx, fillNote, wrap_id, bne_self_eq_false, cond_false, hc]
    first | done | rfl
  · intro k
    unfold laws_heldNoteS_l1
    simp



/-! ### Pieces found -/
def pieceAt (s : T_State.D) (a : Int) : Int := match findL (fun (x : T_Piece.D) => x.1 == a) s.1 with | some k => (k : Int) | none => -1
theorem pieceAt_cases (s : T_State.D) (a : Int) : pieceAt s a = -1 ∨ ∃ (k : Nat) (x : T_Piece.D), pieceAt s a = k ∧ s.1[k]? = some x ∧ x.1 = a := by
  unfold pieceAt
  obtain ⟨h1, h2⟩ := findL_spec (fun (x : T_Piece.D) => x.1 == a) s.1
  cases hf : findL (fun (x : T_Piece.D) => x.1 == a) s.1 with
  | none => exact .inl rfl
  | some k =>
    obtain ⟨x, g1, g2, _⟩ := h2 k hf
    exact .inr ⟨k, x, rfl, g1, by simpa using g2⟩
theorem spec_PieceAt_eq (s : T_State.D) (a : Int) (h : s.1.length ≤ 1048576) : spec_PieceAt s a = some (pieceAt s a) := by
  unfold spec_PieceAt pieceAt
  rw [index_loop s.1 (body := spec_PieceAt_l1 s a) (fun (x : T_Piece.D) => x.1 == a) (fun i => i) (by omega) (fun i x hx => ?_) ?_]
  · cases findL (fun (x : T_Piece.D) => x.1 == a) s.1 <;> rfl
  · unfold spec_PieceAt_l1
    simp
  · unfold spec_PieceAt_l1
    have hlt := (List.getElem?_eq_some_iff.1 hx).1
    have : ((i : Int) < (s.1.length : Int)) := by omega
    simp only [this, decide_true, cond_true, idx_at hx]
theorem index_piece (xs : List T_Piece.D) (hl : xs.length ≤ 1048576) (p : T_Piece.D → Bool) (q : (T_Piece.D × Unit) → Option Bool) (hq : ∀ x, q (x, ()) = some (p x)) :
    slices_IndexFunc_impl_Piece xs q = some (match findL p xs with | some k => (k : Int) | none => -1) := by
  unfold slices_IndexFunc_impl_Piece
  rw [index_loop xs (body := slices_IndexFunc_impl_Piece_l1 xs q) p (fun i => i) (by omega) (fun i x hx => ?_) ?_]
  · cases findL p xs <;> rfl
  · unfold slices_IndexFunc_impl_Piece_l1
    simp
  · unfold slices_IndexFunc_impl_Piece_l1
    have hlt := (List.getElem?_eq_some_iff.1 hx).1
    have : ((i : Int) < (xs.length : Int)) := by omega
    simp only [this, decide_true, cond_true, idx_at hx, hq, Option.bind_some]
theorem impl_PieceAt_eq (s : T_State.D) (a : Int) (h : s.1.length ≤ 1048576) : impl_PieceAt s a = some (pieceAt s a) := by
  unfold impl_PieceAt pieceAt
  rw [index_piece s.1 h (fun (x : T_Piece.D) => x.1 == a) _ (fun x => rfl)]
  rfl


/-! ### SameNotes -/
theorem spec_SameNotes_eq (a b : List T_Note.D) (h : a.length ≤ 1048576) : spec_SameNotes a b = some (eqD (.slice T_Note) a b) := by
  unfold spec_SameNotes
  exact eq_lists (t := T_Note) rfl a b (e := eqD T_Note) (fun _ _ => rfl) (by omega) (fun i => rfl)
theorem impl_SameNotes_eq (a b : List T_Note.D) (h : a.length ≤ 1048576) : impl_SameNotes a b = some (eqD (.slice T_Note) a b) := by
  unfold impl_SameNotes
  rw [show slices_Equal_impl_Note a b = some (eqD (.slice T_Note) a b) from eq_lists (t := T_Note) rfl a b (e := eqD T_Note) (fun _ _ => rfl) (by omega) (fun i => rfl)]
  rfl
theorem law_SameNotes (a : List T_Note.D) (b : List T_Note.D) (wa0 : a.length ≤ maxLen) (wb0 : b.length ≤ maxLen) : laws_FnExactSameNotes a b = some true := by
  unfold laws_FnExactSameNotes
  rw [laws_szNoteS_eq a _ (by omega) (by omega) wa0, Option.bind_some]
  by_cases ga : (a.length : Int) ≤ 1048576
  · rw [if_pos ga]
    simp (disch := omega) only [dec_neg, cond_false]
    rw [laws_szNoteS_eq b _ (by omega) (by omega) wb0, Option.bind_some]
    by_cases gb : (b.length : Int) ≤ 1048576 - a.length
    · rw [if_pos gb]
      simp (disch := omega) only [dec_neg, cond_false]
      have e1 := spec_SameNotes_eq a b (by omega)
      have e2 := impl_SameNotes_eq a b (by omega)
      simp (disch := omega) only [laws_toNoteS_eq a (by omega), laws_eqNoteS_eq a a (by omega), eqD_refl (t := (.slice T_Note)) rfl, laws_toNoteS_eq b (by omega), laws_eqNoteS_eq b b (by omega), e1, e2, Option.bind_some, bne_self_eq_false, Bool.not_true, cond_false, cond_true, dec_neg]
    · rw [if_neg gb]; rfl
  · rw [if_neg ga]; rfl


/-! ### Dealt -/
def up (a b : Int) : Int := if (if b < a then b else a) > 0 then (if b < a then b else a) else 0
theorem impl_Upto_eq (a b : Int) : impl_Upto a b = some (up a b) := rfl
theorem spec_Upto_eq (a b : Int) (hb : 0 ≤ b) : spec_Upto a b = some (up a b) := by
  unfold spec_Upto up
  simp only [cond_eq_ite, decide_eq_true_eq]
  split <;> simp only [Option.bind_some] <;> (try split) <;> (try split) <;> (try split) <;> first | rfl | (congr 1; omega) | omega
def dealtStep (a1 : Int) (s : Int) (_ : Nat) (x : T_Note.D) : Int := bif (x.1 == 1) && (x.2.1.2.1 == a1) then IntKind.wrap .i64 (s + up x.2.2.1 2147483647) else s
theorem dealt_eq (xs : List T_Note.D) (a : Int) (hl : xs.length ≤ 1048576) : ∃ m, spec_Dealt xs a = some m ∧ impl_Dealt xs a = some m := by
  refine ⟨foldIx (dealtStep a) 0 xs 0, ?_, ?_⟩
  · unfold spec_Dealt
    rw [(fold_loop xs (dealtStep a) (fun _ _ => True) (fun s => s) 0 trivial (by omega) (fun s i x _ hx => ⟨?_, trivial⟩) (fun s _ => ?_)).1]
    · rfl
    · have hlt := (List.getElem?_eq_some_iff.1 hx).1
      have hil : ((i : Int) < (xs.length : Int)) := by omega
      unfold spec_Dealt_l1 dealtStep
      simp only [hil, decide_true, cond_true, idx_at hx, spec_Upto_eq _ 2147483647 (by decide), Option.bind_some]
      cases (x.1 == 1) <;> cases (x.2.1.2.1 == a) <;> rfl
    · unfold spec_Dealt_l1; simp
  · unfold impl_Dealt
    rw [(fold_loop xs (dealtStep a) (fun _ _ => True) (fun s => s) 0 trivial (by omega) (fun s i x _ hx => ⟨?_, trivial⟩) (fun s _ => ?_)).1]
    · rfl
    · have hlt := (List.getElem?_eq_some_iff.1 hx).1
      have hil : ((i : Int) < (xs.length : Int)) := by omega
      unfold impl_Dealt_l1 dealtStep
      simp only [hil, decide_true, cond_true, idx_at hx, impl_Upto_eq, Option.bind_some]
      cases (x.1 == 1) <;> cases (x.2.1.2.1 == a) <;> rfl
    · unfold impl_Dealt_l1; simp
theorem law_Dealt (a : List T_Note.D) (n : Int) (wa0 : a.length ≤ maxLen) : laws_FnExactDealt a n = some true := by
  unfold laws_FnExactDealt
  rw [laws_szNoteS_eq a _ (by omega) (by omega) wa0, Option.bind_some]
  by_cases ga : (a.length : Int) ≤ 1048576
  · rw [if_pos ga]
    simp (disch := omega) only [dec_neg, cond_false]
    obtain ⟨m, e1, e2⟩ := dealt_eq a n (by omega)
    simp (disch := omega) only [laws_toNoteS_eq a (by omega), laws_eqNoteS_eq a a (by omega), eqD_refl (t := (.slice T_Note)) rfl, e1, e2, Option.bind_some, bne_self_eq_false, Bool.not_true, cond_false, cond_true, dec_neg]
  · rw [if_neg ga]; rfl


/-! ### HurtOf -/
theorem hurt_eq (s : T_State.D) (a : Int) (h : s.1.length ≤ 1048576) : ∃ m, spec_HurtOf s a = some m ∧ impl_HurtOf s a = some m := by
  unfold spec_HurtOf impl_HurtOf
  simp only [spec_PieceAt_eq s a h, impl_PieceAt_eq s a h, Option.bind_some]
  rcases pieceAt_cases s a with h | ⟨k, x, h1, h2, _⟩
  · rw [h]; exact ⟨0, rfl, rfl⟩
  · rw [h1, dec_neg (by omega)]
    simp only [cond_false, idx_at h2]
    exact ⟨_, rfl, rfl⟩
theorem law_HurtOf (s : T_State.D) (n : Int) (ws0 : s.1.length ≤ maxLen) (ws1 : s.2.1.length ≤ maxLen) : laws_FnExactHurtOf s n = some true := by
  unfold laws_FnExactHurtOf
  rw [laws_szState_eq s _ (by omega) (by omega) ws0 ws1, Option.bind_some]
  by_cases gs : (s.1.length : Int) + s.2.1.length ≤ 1048576
  · rw [if_pos gs]
    simp (disch := omega) only [dec_neg, cond_false]
    obtain ⟨m, e1, e2⟩ := hurt_eq s n (by omega)
    simp (disch := omega) only [laws_toState_eq s (by omega) (by omega), laws_eqState_eq s s (by omega) (by omega), eqD_refl (t := T_State) rfl, e1, e2, Option.bind_some, bne_self_eq_false, Bool.not_true, cond_false, cond_true, dec_neg]
  · rw [if_neg gs]; rfl


/-! ### Leaves -/
theorem leaves_eq (s : T_State.D) (e : T_Event.D) (h : s.1.length ≤ 1048576) : ∃ m, spec_Leaves s e = some m ∧ impl_Leaves s e = some m := by
  unfold spec_Leaves impl_Leaves impl_fieldAt
  simp only [spec_PieceAt_eq s _ h, impl_PieceAt_eq s _ h, Option.bind_some]
  rcases pieceAt_cases s e.2.2.1 with h | ⟨k, x, h1, h2, _⟩
  · rw [h]
    cases (e.1 == 2) <;> cases (e.2.2.2.2.2.1 != 2) <;> exact ⟨_, rfl, rfl⟩
  · have : decide ((k : Int) ≥ 0) = true := by simp
    rw [h1, dec_neg (by omega), this]
    simp only [cond_false, cond_true, idx_at h2, Option.bind_some]
    unfold bne
    cases (e.1 == 2) <;> cases (e.2.2.2.2.2.1 == 2) <;> cases (x.2.2.2.1 == 2) <;> simp [this]
theorem law_Leaves (s : T_State.D) (e : T_Event.D) (ws0 : s.1.length ≤ maxLen) (ws1 : s.2.1.length ≤ maxLen) : laws_FnExactLeaves s e = some true := by
  unfold laws_FnExactLeaves
  rw [laws_szState_eq s _ (by omega) (by omega) ws0 ws1, Option.bind_some]
  by_cases gs : (s.1.length : Int) + s.2.1.length ≤ 1048576
  · rw [if_pos gs]
    simp (disch := omega) only [dec_neg, cond_false]
    obtain ⟨m, e1, e2⟩ := leaves_eq s e (by omega)
    simp (disch := omega) only [laws_toState_eq s (by omega) (by omega), laws_eqState_eq s s (by omega) (by omega), eqD_refl (t := T_State) rfl, laws_toEvent_eq e, laws_eqEvent_eq e e, eqD_refl (t := T_Event) rfl, e1, e2, Option.bind_some, bne_self_eq_false, Bool.not_true, cond_false, cond_true, dec_neg]
  · rw [if_neg gs]; rfl


/-! ### LostOf -/
def lostG (i : Nat) (x : T_Side.D) : List Int := bif x.2.2.1 then [(i : Int)] else []
theorem lostG_len (i : Nat) (x : T_Side.D) : (lostG i x).length ≤ 1 := by unfold lostG; cases x.2.2.1 <;> simp
theorem spec_LostOf_eq (s : T_State.D) (h : s.2.1.length ≤ 1048576) : spec_LostOf s = some (collect lostG 0 s.2.1) := by
  unfold spec_LostOf
  rw [append_loop s.2.1 lostG (fun s => s) lostG_len (by omega) (fun t i x hI hx => ?_) (fun t => ?_)]
  · rfl
  · have hlt := (List.getElem?_eq_some_iff.1 hx).1
    have hil : ((i : Int) < (s.2.1.length : Int)) := by omega
    unfold spec_LostOf_l1 lostG
    simp only [hil, decide_true, cond_true, idx_at hx]
    rw [if_pos (by simp only [room, List.length_cons, List.length_nil]; omega)]
    cases x.2.2.1 <;> simp
  · unfold spec_LostOf_l1; simp
theorem impl_LostOf_eq (s : T_State.D) (h : s.2.1.length ≤ 1048576) : impl_LostOf s = some (collect lostG 0 s.2.1) := by
  unfold impl_LostOf
  rw [append_loop s.2.1 lostG (fun s => s) lostG_len (by omega) (fun t i x hI hx => ?_) (fun t => ?_)]
  · rfl
  · have hlt := (List.getElem?_eq_some_iff.1 hx).1
    have hil : ((i : Int) < (s.2.1.length : Int)) := by omega
    unfold impl_LostOf_l1 lostG
    simp only [hil, decide_true, cond_true, idx_at hx]
    rw [if_pos (by simp only [room, List.length_cons, List.length_nil]; omega)]
    cases x.2.2.1 <;> simp
  · unfold impl_LostOf_l1; simp
theorem law_LostOf (s : T_State.D) (ws0 : s.1.length ≤ maxLen) (ws1 : s.2.1.length ≤ maxLen) : laws_FnExactLostOf s = some true := by
  unfold laws_FnExactLostOf
  rw [laws_szState_eq s _ (by omega) (by omega) ws0 ws1, Option.bind_some]
  by_cases gs : (s.1.length : Int) + s.2.1.length ≤ 1048576
  · rw [if_pos gs]
    simp (disch := omega) only [dec_neg, cond_false]
    obtain ⟨r, hr, e1, e2⟩ : ∃ r, r.length ≤ 1048576 ∧ spec_LostOf s = some r ∧ impl_LostOf s = some r := ⟨_, by have := collect_len lostG lostG_len s.2.1 0; omega, spec_LostOf_eq s (by omega), impl_LostOf_eq s (by omega)⟩
    simp (disch := omega) only [laws_toState_eq s (by omega) (by omega), laws_eqState_eq s s (by omega) (by omega), eqD_refl (t := T_State) rfl, laws_eqIntS_eq r r (by omega), eqD_refl (t := (.slice (.int .i64))) rfl, laws_markState_eq s, laws_markIntS_eq r, laws_heldIntS_eq (1) r.length, e1, e2, Option.bind_some, bne_self_eq_false, Bool.not_true, cond_false, cond_true, dec_neg]
  · rw [if_neg gs]; rfl


/-! ### Zoned -/
def zonedG (a : Int) (_ : Nat) (x : T_Piece.D) : List Int := bif (x.2.2.2.1 == a) then [x.1] else []
theorem zonedG_len (a : Int) (i : Nat) (x : T_Piece.D) : (zonedG a i x).length ≤ 1 := by unfold zonedG; cases (x.2.2.2.1 == a) <;> simp
theorem spec_Zoned_eq (s : T_State.D) (a : Int) (h : s.1.length ≤ 1048576) : spec_Zoned s a = some (collect (zonedG a) 0 s.1) := by
  unfold spec_Zoned
  rw [append_loop s.1 (zonedG a) (fun s => s) (zonedG_len a) (by omega) (fun t i x hI hx => ?_) (fun t => ?_)]
  · rfl
  · have hlt := (List.getElem?_eq_some_iff.1 hx).1
    have hil : ((i : Int) < (s.1.length : Int)) := by omega
    unfold spec_Zoned_l1 zonedG
    simp only [hil, decide_true, cond_true, idx_at hx]
    rw [if_pos (by simp only [room, List.length_cons, List.length_nil]; omega)]
    cases (x.2.2.2.1 == a) <;> simp
  · unfold spec_Zoned_l1; simp
theorem impl_Zoned_eq (s : T_State.D) (a : Int) (h : s.1.length ≤ 1048576) : impl_Zoned s a = some (collect (zonedG a) 0 s.1) := by
  unfold impl_Zoned
  rw [append_loop s.1 (zonedG a) (fun s => s) (zonedG_len a) (by omega) (fun t i x hI hx => ?_) (fun t => ?_)]
  · rfl
  · have hlt := (List.getElem?_eq_some_iff.1 hx).1
    have hil : ((i : Int) < (s.1.length : Int)) := by omega
    unfold impl_Zoned_l1 zonedG
    simp only [hil, decide_true, cond_true, idx_at hx]
    rw [if_pos (by simp only [room, List.length_cons, List.length_nil]; omega)]
    cases (x.2.2.2.1 == a) <;> simp
  · unfold impl_Zoned_l1; simp
theorem law_Zoned (s : T_State.D) (a : Int) (ws0 : s.1.length ≤ maxLen) (ws1 : s.2.1.length ≤ maxLen) : laws_FnExactZoned s a = some true := by
  unfold laws_FnExactZoned
  rw [laws_szState_eq s _ (by omega) (by omega) ws0 ws1, Option.bind_some]
  by_cases gs : (s.1.length : Int) + s.2.1.length ≤ 1048576
  · rw [if_pos gs]
    simp (disch := omega) only [dec_neg, cond_false]
    obtain ⟨r, hr, e1, e2⟩ : ∃ r, r.length ≤ 1048576 ∧ spec_Zoned s a = some r ∧ impl_Zoned s a = some r := ⟨_, by have := collect_len (zonedG a) (zonedG_len a) s.1 0; omega, spec_Zoned_eq s a (by omega), impl_Zoned_eq s a (by omega)⟩
    simp (disch := omega) only [laws_toState_eq s (by omega) (by omega), laws_eqState_eq s s (by omega) (by omega), eqD_refl (t := T_State) rfl, laws_eqIntS_eq r r (by omega), eqD_refl (t := (.slice (.int .i64))) rfl, laws_markState_eq s, laws_markIntS_eq r, laws_heldIntS_eq (1) r.length, e1, e2, Option.bind_some, bne_self_eq_false, Bool.not_true, cond_false, cond_true, dec_neg]
  · rw [if_neg gs]; rfl


/-! ### TurnOrder -/
theorem l1In_eq (a b c : Int) : spec_l1In a b c = some (decide (b ≤ a) && decide (a ≤ c)) := by
  unfold spec_l1In
  have : decide (a ≥ b) = decide (b ≤ a) := rfl
  simp only [this]
  cases decide (b ≤ a) <;> rfl
theorem from_eq (a b c : Int) : impl_from a b c = some (decide (b ≤ a) && decide (a ≤ c)) := by
  unfold impl_from
  have : decide (a ≥ b) = decide (b ≤ a) := rfl
  simp only [this]
  cases decide (b ≤ a) <;> rfl
def turnG (a n : Int) (i : Nat) (_ : T_Side.D) : List Int := [(IntKind.wrap .i64 (a + (i : Int))).tmod n]
theorem turnG_len (a n : Int) (i : Nat) (x : T_Side.D) : (turnG a n i x).length ≤ 1 := by simp [turnG]
theorem order_eq (s : T_State.D) (h : s.2.1.length ≤ 1048576) : ∃ r, r.length ≤ 1048576 ∧ spec_TurnOrder s = some r ∧ impl_TurnOrder s = some r := by
  by_cases hin : (decide (0 ≤ s.2.2.1) && decide (s.2.2.1 ≤ IntKind.wrap .i64 ((s.2.1.length : Int) - 1))) = true
  · refine ⟨collect (turnG s.2.2.1 s.2.1.length) 0 s.2.1, by have := collect_len (turnG s.2.2.1 s.2.1.length) (turnG_len _ _) s.2.1 0; omega, ?_, ?_⟩
    · unfold spec_TurnOrder
      rw [append_loop s.2.1 (turnG s.2.2.1 s.2.1.length) (fun s => s) (turnG_len _ _) (by omega) (fun t i x hI hx => ?_) (fun t => ?_)]
      · rfl
      · have hlt := (List.getElem?_eq_some_iff.1 hx).1
        have hil : ((i : Int) < (s.2.1.length : Int)) := by omega
        unfold spec_TurnOrder_l1 turnG
        simp only [hil, decide_true, cond_true, l1In_eq, hin, Option.bind_some]
        rw [if_neg (by omega), if_pos (by simp only [room, List.length_cons, List.length_nil]; omega)]
      · unfold spec_TurnOrder_l1; simp
    · unfold impl_TurnOrder impl_isSide
      simp only [from_eq, hin, Option.bind_some, Bool.not_true, cond_false]
      rw [append_loop s.2.1 (turnG s.2.2.1 s.2.1.length) (fun s => s) (turnG_len _ _) (by omega) (fun t i x hI hx => ?_) (fun t => ?_)]
      · rfl
      · have hlt := (List.getElem?_eq_some_iff.1 hx).1
        have hil : ((i : Int) < (s.2.1.length : Int)) := by omega
        unfold impl_TurnOrder_l1 turnG
        simp only [hil, decide_true, cond_true]
        rw [if_neg (by omega), if_pos (by simp only [room, List.length_cons, List.length_nil]; omega)]
      · unfold impl_TurnOrder_l1; simp
  · have hin : (decide (0 ≤ s.2.2.1) && decide (s.2.2.1 ≤ IntKind.wrap .i64 ((s.2.1.length : Int) - 1))) = false := by simpa using hin
    refine ⟨[], by simp, ?_, ?_⟩
    · unfold spec_TurnOrder
      rw [while_done (r := ([], 0)) (by unfold spec_TurnOrder_l1; simp only [l1In_eq, hin, Option.bind_some]; cases decide ((0 : Int) < (s.2.1.length : Int)) <;> rfl)]
      rfl
    · unfold impl_TurnOrder impl_isSide
      simp only [from_eq, hin, Option.bind_some, Bool.not_false, cond_true]
theorem law_TurnOrder (s : T_State.D) (ws0 : s.1.length ≤ maxLen) (ws1 : s.2.1.length ≤ maxLen) : laws_FnExactTurnOrder s = some true := by
  unfold laws_FnExactTurnOrder
  rw [laws_szState_eq s _ (by omega) (by omega) ws0 ws1, Option.bind_some]
  by_cases gs : (s.1.length : Int) + s.2.1.length ≤ 1048576
  · rw [if_pos gs]
    simp (disch := omega) only [dec_neg, cond_false]
    obtain ⟨r, hr, e1, e2⟩ := order_eq s (by omega)
    simp (disch := omega) only [laws_toState_eq s (by omega) (by omega), laws_eqState_eq s s (by omega) (by omega), eqD_refl (t := T_State) rfl, laws_eqIntS_eq r r (by omega), eqD_refl (t := (.slice (.int .i64))) rfl, laws_markState_eq s, laws_markIntS_eq r, laws_heldIntS_eq (1) r.length, e1, e2, Option.bind_some, bne_self_eq_false, Bool.not_true, cond_false, cond_true, dec_neg]
  · rw [if_neg gs]; rfl


/-! ### LastKnown -/
theorem left_eq (x : T_Note.D) : spec_l18Left x = impl_left x := rfl
def leftB (x : T_Note.D) : Bool := (x.1 == 6) || ((x.1 == 3) && ((x.2.2.2.2.1.2.2.2.1 == 2) && (x.2.1.2.2.2.2.2.1 != 2)))
theorem impl_left_eq (x : T_Note.D) : impl_left x = some (leftB x) := by
  unfold impl_left leftB
  cases (x.1 == 6) <;> cases (x.1 == 3) <;> cases (x.2.2.2.2.1.2.2.2.1 == 2) <;> rfl
def knownG (_ : Nat) (x : T_Note.D) : List T_Piece.D := bif leftB x then [x.2.2.2.2.1] else []
theorem knownG_len (i : Nat) (x : T_Note.D) : (knownG i x).length ≤ 1 := by unfold knownG; cases leftB x <;> simp
theorem spec_LastKnown_eq (xs : List T_Note.D) (h : xs.length ≤ 1048576) : spec_LastKnown xs = some (collect knownG 0 xs) := by
  unfold spec_LastKnown
  rw [append_loop xs knownG (fun s => s) knownG_len (by omega) (fun t i x hI hx => ?_) (fun t => ?_)]
  · rfl
  · have hlt := (List.getElem?_eq_some_iff.1 hx).1
    have hil : ((i : Int) < (xs.length : Int)) := by omega
    unfold spec_LastKnown_l1 knownG
    simp only [hil, decide_true, cond_true, idx_at hx, left_eq, impl_left_eq, Option.bind_some]
    rw [if_pos (by simp only [room, List.length_cons, List.length_nil]; omega)]
    cases leftB x <;> simp
  · unfold spec_LastKnown_l1; simp
theorem impl_LastKnown_eq (xs : List T_Note.D) (h : xs.length ≤ 1048576) : impl_LastKnown xs = some (collect knownG 0 xs) := by
  unfold impl_LastKnown
  rw [append_loop xs knownG (fun s => s) knownG_len (by omega) (fun t i x hI hx => ?_) (fun t => ?_)]
  · rfl
  · have hlt := (List.getElem?_eq_some_iff.1 hx).1
    have hil : ((i : Int) < (xs.length : Int)) := by omega
    unfold impl_LastKnown_l1 knownG
    simp only [hil, decide_true, cond_true, idx_at hx, impl_left_eq, Option.bind_some]
    rw [if_pos (by simp only [room, List.length_cons, List.length_nil]; omega)]
    cases leftB x <;> simp
  · unfold impl_LastKnown_l1; simp
theorem law_LastKnown (a : List T_Note.D) (wa0 : a.length ≤ maxLen) : laws_FnExactLastKnown a = some true := by
  unfold laws_FnExactLastKnown
  rw [laws_szNoteS_eq a _ (by omega) (by omega) wa0, Option.bind_some]
  by_cases ga : (a.length : Int) ≤ 1048576
  · rw [if_pos ga]
    simp (disch := omega) only [dec_neg, cond_false]
    obtain ⟨r, hr, e1, e2⟩ : ∃ r, r.length ≤ 1048576 ∧ spec_LastKnown a = some r ∧ impl_LastKnown a = some r := ⟨_, by have := collect_len knownG knownG_len a 0; omega, spec_LastKnown_eq a (by omega), impl_LastKnown_eq a (by omega)⟩
    simp (disch := omega) only [laws_toNoteS_eq a (by omega), laws_eqNoteS_eq a a (by omega), eqD_refl (t := (.slice T_Note)) rfl, laws_eqPieceS_eq r r (by omega), eqD_refl (t := (.slice T_Piece)) rfl, laws_markNoteS_eq a, laws_markPieceS_eq r, laws_heldPieceS_eq (1) r.length, e1, e2, Option.bind_some, bne_self_eq_false, Bool.not_true, cond_false, cond_true, dec_neg]
  · rw [if_neg ga]; rfl


/-! ### Snaps -/
def snapG (s : T_State.D) (_ : Nat) (a : Int) : List T_Piece.D := match findL (fun (x : T_Piece.D) => x.1 == a) s.1 with | some k => (s.1[k]?).toList | none => []
theorem snapG_len (s : T_State.D) (i : Nat) (a : Int) : (snapG s i a).length ≤ 1 := by
  unfold snapG
  cases findL (fun (x : T_Piece.D) => x.1 == a) s.1 with
  | none => simp
  | some k => cases hk : s.1[k]? <;> simp [hk]
theorem snapG_cases (s : T_State.D) (i : Nat) (a : Int) : (pieceAt s a = -1 ∧ snapG s i a = []) ∨ ∃ (k : Nat) (x : T_Piece.D), pieceAt s a = k ∧ s.1[k]? = some x ∧ snapG s i a = [x] := by
  unfold pieceAt snapG
  obtain ⟨h1, h2⟩ := findL_spec (fun (x : T_Piece.D) => x.1 == a) s.1
  cases hf : findL (fun (x : T_Piece.D) => x.1 == a) s.1 with
  | none => exact .inl ⟨rfl, rfl⟩
  | some k =>
    obtain ⟨x, g1, g2, _⟩ := h2 k hf
    exact .inr ⟨k, x, rfl, g1, by simp [g1]⟩
theorem spec_Snaps_eq (s : T_State.D) (xs : List Int) (hs : s.1.length ≤ 1048576) (h : xs.length ≤ 1048576) : spec_Snaps s xs = some (collect (snapG s) 0 xs) := by
  unfold spec_Snaps
  rw [append_loop xs (snapG s) (fun s => s) (snapG_len s) (by omega) (fun t i x hI hx => ?_) (fun t => ?_)]
  · rfl
  · have hlt := (List.getElem?_eq_some_iff.1 hx).1
    have hil : ((i : Int) < (xs.length : Int)) := by omega
    unfold spec_Snaps_l1
    simp only [hil, decide_true, cond_true, idx_at hx, spec_PieceAt_eq s _ hs, Option.bind_some]
    rcases snapG_cases s i x with ⟨h1, h2⟩ | ⟨k, y, h1, h2, h3⟩
    · rw [h1, h2]; simp
    · have : decide ((k : Int) ≥ 0) = true := by simp
      rw [h1, h3, this]
      simp only [cond_true, idx_at h2]
      rw [if_pos (by simp only [room, List.length_cons, List.length_nil]; omega)]
      rfl
  · unfold spec_Snaps_l1; simp
theorem impl_Snaps_eq (s : T_State.D) (xs : List Int) (hs : s.1.length ≤ 1048576) (h : xs.length ≤ 1048576) : impl_Snaps s xs = some (collect (snapG s) 0 xs) := by
  unfold impl_Snaps
  rw [append_loop xs (snapG s) (fun s => s) (snapG_len s) (by omega) (fun t i x hI hx => ?_) (fun t => ?_)]
  · rfl
  · have hlt := (List.getElem?_eq_some_iff.1 hx).1
    have hil : ((i : Int) < (xs.length : Int)) := by omega
    unfold impl_Snaps_l1
    simp only [hil, decide_true, cond_true, idx_at hx, impl_PieceAt_eq s _ hs, Option.bind_some]
    rcases snapG_cases s i x with ⟨h1, h2⟩ | ⟨k, y, h1, h2, h3⟩
    · rw [h1, h2]; simp
    · have : decide ((k : Int) ≥ 0) = true := by simp
      rw [h1, h3, this]
      simp only [cond_true, idx_at h2]
      rw [if_pos (by simp only [room, List.length_cons, List.length_nil]; omega)]
  · unfold impl_Snaps_l1; simp
theorem law_Snaps (s : T_State.D) (a : List Int) (ws0 : s.1.length ≤ maxLen) (ws1 : s.2.1.length ≤ maxLen) (wa0 : a.length ≤ maxLen) : laws_FnExactSnaps s a = some true := by
  unfold laws_FnExactSnaps
  by_cases ga : (a.length : Int) > 1048576
  · rw [decide_eq_true ga]; rfl
  rw [decide_eq_false ga]; simp only [cond_false]
  rw [laws_szState_eq s _ (by omega) (by omega) ws0 ws1, Option.bind_some]
  by_cases gs : (s.1.length : Int) + s.2.1.length ≤ 1048576
  · rw [if_pos gs]
    simp (disch := omega) only [dec_neg, cond_false]
    obtain ⟨r, hr, e1, e2⟩ : ∃ r, r.length ≤ 1048576 ∧ spec_Snaps s a = some r ∧ impl_Snaps s a = some r := ⟨_, by have := collect_len (snapG s) (snapG_len s) a 0; omega, spec_Snaps_eq s a (by omega) (by omega), impl_Snaps_eq s a (by omega) (by omega)⟩
    simp (disch := omega) only [laws_toState_eq s (by omega) (by omega), laws_eqState_eq s s (by omega) (by omega), eqD_refl (t := T_State) rfl, laws_toIntS_eq a (by omega), laws_eqIntS_eq a a (by omega), eqD_refl (t := (.slice (.int .i64))) rfl, laws_eqPieceS_eq r r (by omega), eqD_refl (t := (.slice T_Piece)) rfl, laws_markState_eq s, laws_markIntS_eq a, laws_markPieceS_eq r, laws_heldPieceS_eq (1) r.length, e1, e2, Option.bind_some, bne_self_eq_false, Bool.not_true, cond_false, cond_true, dec_neg]
  · rw [if_neg gs]; rfl


/-! ### TriggersOf, NotesOf -/
theorem index_Trigger (xs : List T_Trigger.D) (hl : xs.length ≤ 1048576) (p : T_Trigger.D → Bool) (q : (T_Trigger.D × Unit) → Option Bool) (hq : ∀ x, q (x, ()) = some (p x)) :
    slices_IndexFunc_impl_Trigger xs q = some (match findL p xs with | some k => (k : Int) | none => -1) := by
  unfold slices_IndexFunc_impl_Trigger
  rw [index_loop xs (body := slices_IndexFunc_impl_Trigger_l1 xs q) p (fun i => i) (by omega) (fun i x hx => ?_) ?_]
  · cases findL p xs <;> rfl
  · unfold slices_IndexFunc_impl_Trigger_l1
    simp
  · unfold slices_IndexFunc_impl_Trigger_l1
    have hlt := (List.getElem?_eq_some_iff.1 hx).1
    have : ((i : Int) < (xs.length : Int)) := by omega
    simp only [this, decide_true, cond_true, idx_at hx, hq, Option.bind_some]
theorem deleteFunc_Trigger (xs : List T_Trigger.D) (hl : xs.length ≤ 1048576) (p : T_Trigger.D → Bool) (q : (T_Trigger.D × Unit) → Option Bool) (hq : ∀ x, q (x, ()) = some (p x)) :
    slices_DeleteFunc_impl_Trigger xs q = some (xs.filter (fun x => !p x), ()) := by
  unfold slices_DeleteFunc_impl_Trigger
  rw [index_Trigger xs hl p q hq, Option.bind_some]
  obtain ⟨h1, h2⟩ := findL_spec p xs
  cases hf : findL p xs with
  | none =>
    have : xs.filter (fun x => !p x) = xs := by rw [List.filter_eq_self]; intro x hx; simp [h1 hf x hx]
    rw [this]; rfl
  | some k =>
    obtain ⟨x, g1, g2, g3⟩ := h2 k hf
    have hk := (List.getElem?_eq_some_iff.1 g1).1
    have n1 : ((k : Int) == -1) = false := by simp
    simp only [n1, cond_false]
    rw [wrap_id (by omega) (by omega)]
    obtain ⟨ys, m, e1, e2, e3, e4⟩ : ∃ (ys : List T_Trigger.D) (m : Nat), while_ (slices_DeleteFunc_impl_Trigger_l1 q) (xs, (k : Int), (k : Int) + 1) = some (ys, (m : Int), (xs.length : Int)) ∧ ys.length = xs.length ∧ m ≤ xs.length ∧ ys.take m = xs.filter (fun x => !p x) := by
      refine delete_loop xs (body := slices_DeleteFunc_impl_Trigger_l1 q) p (fun s => s) (by omega) (fun ys i j x hx hij hl' => ?_) (fun ys i hl' => ?_) k x g1 g2 g3
      · have hlt := (List.getElem?_eq_some_iff.1 hx).1
        have hil : ((j : Int) < (ys.length : Int)) := by omega
        obtain ⟨y, hy⟩ : ∃ y, ys[i]? = some y := ⟨_, List.getElem?_eq_getElem (by omega)⟩
        unfold slices_DeleteFunc_impl_Trigger_l1
        simp (disch := omega) only [hil, decide_true, cond_true, Int.toNat_natCast, idx_at hx, hx, hq, Option.bind_some, idx_at hy, hy, wrap_id]
        cases p x <;> rfl
      · unfold slices_DeleteFunc_impl_Trigger_l1
        have : ¬ ((xs.length : Int) < (ys.length : Int)) := by omega
        simp only [this, decide_false, cond_false]
    rw [e1, Option.bind_some]
    have t1 : 0 ≤ (m : Int) := by omega
    have t2 : (m : Int) ≤ (ys.length : Int) := by omega
    simp only [t1, t2, if_true, Int.le_refl, Int.toNat_natCast]
    have z1 : m ≤ ys.length := by omega
    rw [if_pos (by simp only [List.length_append, List.length_take, List.length_replicate, List.length_drop]; omega)]
    have : ∀ (zs : List T_Trigger.D), (ys.take m ++ zs).take m = ys.take m := fun zs => by rw [List.take_append_of_le_length (by simp; omega), List.take_take, Nat.min_self]
    rw [List.append_assoc, this, e4]
    simp
theorem spec_TriggersOf_eq (xs : List T_Trigger.D) (a : Int) (h : xs.length ≤ 1048576) : spec_TriggersOf xs a = some (xs.filter fun x => x.2.1 == a) := by
  unfold spec_TriggersOf
  rw [append_loop xs (fun _ x => if x.2.1 == a then [x] else []) (fun s => s) (fun _ x => by split <;> simp) (by omega) (fun t i x hI hx => ?_) (fun t => ?_)]
  · rw [Option.bind_some, collect_filter]
  · have hlt := (List.getElem?_eq_some_iff.1 hx).1
    have hil : ((i : Int) < (xs.length : Int)) := by omega
    unfold spec_TriggersOf_l1
    simp only [hil, decide_true, cond_true, idx_at hx]
    rw [if_pos (by simp only [room, List.length_cons, List.length_nil]; omega)]
    cases (x.2.1 == a) <;> simp
  · unfold spec_TriggersOf_l1; simp
theorem impl_TriggersOf_eq (xs : List T_Trigger.D) (a : Int) (h : xs.length ≤ 1048576) : impl_TriggersOf xs a = some (xs.filter fun x => x.2.1 == a) := by
  unfold impl_TriggersOf slices_Clone_impl_Trigger
  rw [if_pos (by simp only [room, List.length_nil]; omega)]
  simp only [Option.bind_some, List.nil_append]
  rw [deleteFunc_Trigger xs h (fun x => x.2.1 != a) _ (fun x => rfl)]
  simp [bne]
theorem law_TriggersOf (a : List T_Trigger.D) (n : Int) (wa0 : a.length ≤ maxLen) : laws_FnExactTriggersOf a n = some true := by
  unfold laws_FnExactTriggersOf
  rw [laws_szTriggerS_eq a _ (by omega) (by omega) wa0, Option.bind_some]
  by_cases ga : (a.length : Int) ≤ 1048576
  · rw [if_pos ga]
    simp (disch := omega) only [dec_neg, cond_false]
    obtain ⟨r, hr, e1, e2⟩ : ∃ r, r.length ≤ 1048576 ∧ spec_TriggersOf a n = some r ∧ impl_TriggersOf a n = some r := ⟨_, by have := List.length_filter_le (fun x => x.2.1 == n) a; omega, spec_TriggersOf_eq a n (by omega), impl_TriggersOf_eq a n (by omega)⟩
    simp (disch := omega) only [laws_toTriggerS_eq a (by omega), laws_eqTriggerS_eq a a (by omega), eqD_refl (t := (.slice T_Trigger)) rfl, laws_eqTriggerS_eq r r (by omega), laws_markTriggerS_eq a, laws_markTriggerS_eq r, laws_heldTriggerS_eq (1) r.length, e1, e2, Option.bind_some, bne_self_eq_false, Bool.not_true, cond_false, cond_true, dec_neg]
  · rw [if_neg ga]; rfl

theorem index_Note (xs : List T_Note.D) (hl : xs.length ≤ 1048576) (p : T_Note.D → Bool) (q : (T_Note.D × Unit) → Option Bool) (hq : ∀ x, q (x, ()) = some (p x)) :
    slices_IndexFunc_impl_Note xs q = some (match findL p xs with | some k => (k : Int) | none => -1) := by
  unfold slices_IndexFunc_impl_Note
  rw [index_loop xs (body := slices_IndexFunc_impl_Note_l1 xs q) p (fun i => i) (by omega) (fun i x hx => ?_) ?_]
  · cases findL p xs <;> rfl
  · unfold slices_IndexFunc_impl_Note_l1
    simp
  · unfold slices_IndexFunc_impl_Note_l1
    have hlt := (List.getElem?_eq_some_iff.1 hx).1
    have : ((i : Int) < (xs.length : Int)) := by omega
    simp only [this, decide_true, cond_true, idx_at hx, hq, Option.bind_some]
theorem deleteFunc_Note (xs : List T_Note.D) (hl : xs.length ≤ 1048576) (p : T_Note.D → Bool) (q : (T_Note.D × Unit) → Option Bool) (hq : ∀ x, q (x, ()) = some (p x)) :
    slices_DeleteFunc_impl_Note xs q = some (xs.filter (fun x => !p x), ()) := by
  unfold slices_DeleteFunc_impl_Note
  rw [index_Note xs hl p q hq, Option.bind_some]
  obtain ⟨h1, h2⟩ := findL_spec p xs
  cases hf : findL p xs with
  | none =>
    have : xs.filter (fun x => !p x) = xs := by rw [List.filter_eq_self]; intro x hx; simp [h1 hf x hx]
    rw [this]; rfl
  | some k =>
    obtain ⟨x, g1, g2, g3⟩ := h2 k hf
    have hk := (List.getElem?_eq_some_iff.1 g1).1
    have n1 : ((k : Int) == -1) = false := by simp
    simp only [n1, cond_false]
    rw [wrap_id (by omega) (by omega)]
    obtain ⟨ys, m, e1, e2, e3, e4⟩ : ∃ (ys : List T_Note.D) (m : Nat), while_ (slices_DeleteFunc_impl_Note_l1 q) (xs, (k : Int), (k : Int) + 1) = some (ys, (m : Int), (xs.length : Int)) ∧ ys.length = xs.length ∧ m ≤ xs.length ∧ ys.take m = xs.filter (fun x => !p x) := by
      refine delete_loop xs (body := slices_DeleteFunc_impl_Note_l1 q) p (fun s => s) (by omega) (fun ys i j x hx hij hl' => ?_) (fun ys i hl' => ?_) k x g1 g2 g3
      · have hlt := (List.getElem?_eq_some_iff.1 hx).1
        have hil : ((j : Int) < (ys.length : Int)) := by omega
        obtain ⟨y, hy⟩ : ∃ y, ys[i]? = some y := ⟨_, List.getElem?_eq_getElem (by omega)⟩
        unfold slices_DeleteFunc_impl_Note_l1
        simp (disch := omega) only [hil, decide_true, cond_true, Int.toNat_natCast, idx_at hx, hx, hq, Option.bind_some, idx_at hy, hy, wrap_id]
        cases p x <;> rfl
      · unfold slices_DeleteFunc_impl_Note_l1
        have : ¬ ((xs.length : Int) < (ys.length : Int)) := by omega
        simp only [this, decide_false, cond_false]
    rw [e1, Option.bind_some]
    have t1 : 0 ≤ (m : Int) := by omega
    have t2 : (m : Int) ≤ (ys.length : Int) := by omega
    simp only [t1, t2, if_true, Int.le_refl, Int.toNat_natCast]
    have z1 : m ≤ ys.length := by omega
    rw [if_pos (by simp only [List.length_append, List.length_take, List.length_replicate, List.length_drop]; omega)]
    have : ∀ (zs : List T_Note.D), (ys.take m ++ zs).take m = ys.take m := fun zs => by rw [List.take_append_of_le_length (by simp; omega), List.take_take, Nat.min_self]
    rw [List.append_assoc, this, e4]
    simp
theorem spec_NotesOf_eq (xs : List T_Note.D) (a : Int) (h : xs.length ≤ 1048576) : spec_NotesOf xs a = some (xs.filter fun x => x.1 == a) := by
  unfold spec_NotesOf
  rw [append_loop xs (fun _ x => if x.1 == a then [x] else []) (fun s => s) (fun _ x => by split <;> simp) (by omega) (fun t i x hI hx => ?_) (fun t => ?_)]
  · rw [Option.bind_some, collect_filter]
  · have hlt := (List.getElem?_eq_some_iff.1 hx).1
    have hil : ((i : Int) < (xs.length : Int)) := by omega
    unfold spec_NotesOf_l1
    simp only [hil, decide_true, cond_true, idx_at hx]
    rw [if_pos (by simp only [room, List.length_cons, List.length_nil]; omega)]
    cases (x.1 == a) <;> simp
  · unfold spec_NotesOf_l1; simp
theorem impl_NotesOf_eq (xs : List T_Note.D) (a : Int) (h : xs.length ≤ 1048576) : impl_NotesOf xs a = some (xs.filter fun x => x.1 == a) := by
  unfold impl_NotesOf slices_Clone_impl_Note
  rw [if_pos (by simp only [room, List.length_nil]; omega)]
  simp only [Option.bind_some, List.nil_append]
  rw [deleteFunc_Note xs h (fun x => x.1 != a) _ (fun x => rfl)]
  simp [bne]
theorem law_NotesOf (a : List T_Note.D) (n : Int) (wa0 : a.length ≤ maxLen) : laws_FnExactNotesOf a n = some true := by
  unfold laws_FnExactNotesOf
  rw [laws_szNoteS_eq a _ (by omega) (by omega) wa0, Option.bind_some]
  by_cases ga : (a.length : Int) ≤ 1048576
  · rw [if_pos ga]
    simp (disch := omega) only [dec_neg, cond_false]
    obtain ⟨r, hr, e1, e2⟩ : ∃ r, r.length ≤ 1048576 ∧ spec_NotesOf a n = some r ∧ impl_NotesOf a n = some r := ⟨_, by have := List.length_filter_le (fun x => x.1 == n) a; omega, spec_NotesOf_eq a n (by omega), impl_NotesOf_eq a n (by omega)⟩
    simp (disch := omega) only [laws_toNoteS_eq a (by omega), laws_eqNoteS_eq a a (by omega), eqD_refl (t := (.slice T_Note)) rfl, laws_eqNoteS_eq r r (by omega), laws_markNoteS_eq a, laws_markNoteS_eq r, laws_heldNoteS_eq (1) r.length, e1, e2, Option.bind_some, bne_self_eq_false, Bool.not_true, cond_false, cond_true, dec_neg]
  · rw [if_neg ga]; rfl

end Go.Abs
