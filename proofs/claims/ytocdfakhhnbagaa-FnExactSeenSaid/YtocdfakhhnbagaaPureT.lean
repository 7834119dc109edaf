import Derived.Test.YtocdfakhhnbagaaGenT
import Derived.Test.YtocdfakhhnbagaaAbsPure
set_option linter.unusedVariables false
set_option linter.unusedSimpArgs false
namespace Go.Abs
theorem laws_toEvent_eq (a : T_Event.D) : laws_toEvent a = some a := by
  first | rfl | (unfold laws_toEvent; simp only [laws_toPiece_eq, laws_toEvent_eq, Option.bind_some]; rfl)
theorem laws_eqEvent_eq (a b : T_Event.D) : laws_eqEvent a b = some (eqD T_Event a b) := by
  unfold laws_eqEvent
  first | (simp only [bneIf]; rfl) | (simp only [laws_eqEvent_eq, laws_eqPiece_eq, Option.bind_some, bneIf, notIf]; rfl)

theorem laws_szPieceS_eq (a : List T_Piece.D) (l : Int) (h0 : 0 ≤ l) (h1 : l ≤ 1048576) (hn : a.length ≤ maxLen) : laws_szPieceS a l = some (if (a.length : Int) ≤ l then l - a.length else -1) := by
  unfold laws_szPieceS; exact sz_list h0 h1 (by simpa [maxLen] using hn)
theorem laws_toPiece_eq (a : T_Piece.D) : laws_toPiece a = some a := by
  first | rfl | (unfold laws_toPiece; simp only [laws_toPiece_eq, laws_toEvent_eq, Option.bind_some]; rfl)
theorem laws_toPieceS_eq (a : List T_Piece.D) (h : a.length ≤ 1048576) : laws_toPieceS a = some a := by
  unfold laws_toPieceS
  rw [if_pos (by omega), if_pos (by simp only [room]; omega), Int.toNat_natCast, copy_loop a _ (body := laws_toPieceS_l1 a) laws_toPiece (fun x _ => laws_toPiece_eq x) (by omega) (fun _ => rfl)]
  rfl
theorem laws_eqPiece_eq (a b : T_Piece.D) : laws_eqPiece a b = some (eqD T_Piece a b) := by
  unfold laws_eqPiece
  first | (simp only [bneIf]; rfl) | (simp only [laws_eqEvent_eq, laws_eqPiece_eq, Option.bind_some, bneIf, notIf]; rfl)
theorem laws_eqPieceS_eq (a b : List T_Piece.D) (h : a.length ≤ 1048576) : laws_eqPieceS a b = some (eqD (.slice T_Piece) a b) := by
  unfold laws_eqPieceS
  exact eq_lists (t := T_Piece) rfl a b (e := eqD T_Piece) (fun _ _ => rfl) (by omega) (fun i => by unfold laws_eqPieceS_l1; simp only [laws_eqPiece_eq, Option.bind_some])

theorem laws_szSideS_eq (a : List T_Side.D) (l : Int) (h0 : 0 ≤ l) (h1 : l ≤ 1048576) (hn : a.length ≤ maxLen) : laws_szSideS a l = some (if (a.length : Int) ≤ l then l - a.length else -1) := by
  unfold laws_szSideS; exact sz_list h0 h1 (by simpa [maxLen] using hn)
theorem laws_toSide_eq (a : T_Side.D) : laws_toSide a = some a := by
  first | rfl | (unfold laws_toSide; simp only [laws_toPiece_eq, laws_toEvent_eq, Option.bind_some]; rfl)
theorem laws_toSideS_eq (a : List T_Side.D) (h : a.length ≤ 1048576) : laws_toSideS a = some a := by
  unfold laws_toSideS
  rw [if_pos (by omega), if_pos (by simp only [room]; omega), Int.toNat_natCast, copy_loop a _ (body := laws_toSideS_l1 a) laws_toSide (fun x _ => laws_toSide_eq x) (by omega) (fun _ => rfl)]
  rfl
theorem laws_eqSide_eq (a b : T_Side.D) : laws_eqSide a b = some (eqD T_Side a b) := by
  unfold laws_eqSide
  first | (simp only [bneIf]; rfl) | (simp only [laws_eqEvent_eq, laws_eqPiece_eq, Option.bind_some, bneIf, notIf]; rfl)
theorem laws_eqSideS_eq (a b : List T_Side.D) (h : a.length ≤ 1048576) : laws_eqSideS a b = some (eqD (.slice T_Side) a b) := by
  unfold laws_eqSideS
  exact eq_lists (t := T_Side) rfl a b (e := eqD T_Side) (fun _ _ => rfl) (by omega) (fun i => by unfold laws_eqSideS_l1; simp only [laws_eqSide_eq, Option.bind_some])

theorem laws_toIntS_eq (a : List Int) (h : a.length ≤ 1048576) : laws_toIntS a = some a := by
  unfold laws_toIntS
  rw [if_pos (by omega), if_pos (by simp only [room]; omega), Int.toNat_natCast, copy_loop a _ (body := laws_toIntS_l1 a) some (fun x _ => rfl) (by omega) (fun _ => rfl)]
  rfl
theorem laws_eqIntS_eq (a b : List Int) (h : a.length ≤ 1048576) : laws_eqIntS a b = some (eqD (.slice (.int .i64)) a b) := by
  unfold laws_eqIntS
  exact eq_lists (t := .int .i64) rfl a b (e := fun (x y : Int) => x == y) (fun _ _ => rfl) (by omega) (fun i => rfl)

theorem laws_szTriggerS_eq (a : List T_Trigger.D) (l : Int) (h0 : 0 ≤ l) (h1 : l ≤ 1048576) (hn : a.length ≤ maxLen) : laws_szTriggerS a l = some (if (a.length : Int) ≤ l then l - a.length else -1) := by
  unfold laws_szTriggerS; exact sz_list h0 h1 (by simpa [maxLen] using hn)
theorem laws_toTrigger_eq (a : T_Trigger.D) : laws_toTrigger a = some a := by
  first | rfl | (unfold laws_toTrigger; simp only [laws_toPiece_eq, laws_toEvent_eq, Option.bind_some]; rfl)
theorem laws_toTriggerS_eq (a : List T_Trigger.D) (h : a.length ≤ 1048576) : laws_toTriggerS a = some a := by
  unfold laws_toTriggerS
  rw [if_pos (by omega), if_pos (by simp only [room]; omega), Int.toNat_natCast, copy_loop a _ (body := laws_toTriggerS_l1 a) laws_toTrigger (fun x _ => laws_toTrigger_eq x) (by omega) (fun _ => rfl)]
  rfl
theorem laws_eqTrigger_eq (a b : T_Trigger.D) : laws_eqTrigger a b = some (eqD T_Trigger a b) := by
  unfold laws_eqTrigger
  first | (simp only [bneIf]; rfl) | (simp only [laws_eqEvent_eq, laws_eqPiece_eq, Option.bind_some, bneIf, notIf]; rfl)
theorem laws_eqTriggerS_eq (a b : List T_Trigger.D) (h : a.length ≤ 1048576) : laws_eqTriggerS a b = some (eqD (.slice T_Trigger) a b) := by
  unfold laws_eqTriggerS
  exact eq_lists (t := T_Trigger) rfl a b (e := eqD T_Trigger) (fun _ _ => rfl) (by omega) (fun i => by unfold laws_eqTriggerS_l1; simp only [laws_eqTrigger_eq, Option.bind_some])

theorem laws_szNoteS_eq (a : List T_Note.D) (l : Int) (h0 : 0 ≤ l) (h1 : l ≤ 1048576) (hn : a.length ≤ maxLen) : laws_szNoteS a l = some (if (a.length : Int) ≤ l then l - a.length else -1) := by
  unfold laws_szNoteS; exact sz_list h0 h1 (by simpa [maxLen] using hn)
theorem laws_toNote_eq (a : T_Note.D) : laws_toNote a = some a := by
  first | rfl | (unfold laws_toNote; simp only [laws_toPiece_eq, laws_toEvent_eq, Option.bind_some]; rfl)
theorem laws_toNoteS_eq (a : List T_Note.D) (h : a.length ≤ 1048576) : laws_toNoteS a = some a := by
  unfold laws_toNoteS
  rw [if_pos (by omega), if_pos (by simp only [room]; omega), Int.toNat_natCast, copy_loop a _ (body := laws_toNoteS_l1 a) laws_toNote (fun x _ => laws_toNote_eq x) (by omega) (fun _ => rfl)]
  rfl
theorem laws_eqNote_eq (a b : T_Note.D) : laws_eqNote a b = some (eqD T_Note a b) := by
  unfold laws_eqNote
  first | (simp only [bneIf]; rfl) | (simp only [laws_eqEvent_eq, laws_eqPiece_eq, Option.bind_some, bneIf, notIf]; rfl)
theorem laws_eqNoteS_eq (a b : List T_Note.D) (h : a.length ≤ 1048576) : laws_eqNoteS a b = some (eqD (.slice T_Note) a b) := by
  unfold laws_eqNoteS
  exact eq_lists (t := T_Note) rfl a b (e := eqD T_Note) (fun _ _ => rfl) (by omega) (fun i => by unfold laws_eqNoteS_l1; simp only [laws_eqNote_eq, Option.bind_some])

theorem laws_szState_eq (s : T_State.D) (l : Int) (h0 : 0 ≤ l) (h1 : l ≤ 1048576) (hp : s.1.length ≤ maxLen) (hs : s.2.1.length ≤ maxLen) : laws_szState s l = some (if (s.1.length : Int) + s.2.1.length ≤ l then l - s.1.length - s.2.1.length else -1) := by
  unfold laws_szState
  rw [laws_szPieceS_eq _ _ h0 h1 hp, Option.bind_some]
  by_cases g1 : (s.1.length : Int) ≤ l
  · rw [if_pos g1]
    have n1 : ¬ (l - (s.1.length : Int) < 0) := by omega
    simp only [n1, decide_false, cond_false]
    rw [laws_szSideS_eq _ _ (by omega) (by omega) hs, Option.bind_some]
    by_cases g2 : (s.2.1.length : Int) ≤ l - s.1.length
    · have n2 : ¬ (l - (s.1.length : Int) - s.2.1.length < 0) := by omega
      rw [if_pos g2, if_pos (by omega)]
      simp only [n2, decide_false, cond_false]
    · rw [if_neg g2, if_neg (by omega)]; rfl
  · rw [if_neg g1, if_neg (by omega)]; rfl
theorem laws_toState_eq (s : T_State.D) (hp : s.1.length ≤ 1048576) (hs : s.2.1.length ≤ 1048576) : laws_toState s = some s := by
  unfold laws_toState
  simp only [laws_toPieceS_eq _ hp, laws_toSideS_eq _ hs, Option.bind_some]
theorem laws_eqState_eq (a b : T_State.D) (hp : a.1.length ≤ 1048576) (hs : a.2.1.length ≤ 1048576) : laws_eqState a b = some (eqD T_State a b) := by
  unfold laws_eqState
  simp only [laws_eqPieceS_eq _ _ hp, laws_eqSideS_eq _ _ hs, Option.bind_some, bneIf, notIf]
  rfl

def fillInt (k : Int) : Int := k
theorem laws_markIntS_step (ys : List Int) (k : Int) (i : Nat) (hlt : i < ys.length) (h0 : 0 ≤ k) (hk : k ≤ 4611686018427387904) (hi : (i : Int) ≤ 4611686018427387904) : laws_markIntS_l1 (ys, k, (i : Int)) = some (.inl (ys.set i (fillInt k), k + (1 : Nat), (i : Int) + 1)) := by
  obtain ⟨x, hx⟩ : ∃ x, ys[i]? = some x := ⟨_, List.getElem?_eq_getElem hlt⟩
  have hil : ((i : Int) < (ys.length : Int)) := by omega
  have hc : k + ((1 : Nat) : Int) = k + 1 := by omega
  unfold laws_markIntS_l1 fillInt
  simp (disch := omega) only [hil, decide_true, cond_true, Int.toNat_natCast, idx_at hx, hx, Option.bind_some, idx_set hlt, get_set hlt, List.set_set, wrap_id, hc]
  first | done | rfl
theorem laws_markIntS_eq (xs : List Int) (k : Int) (h0 : 0 ≤ k) (hk : k + (1 : Nat) * (xs.length : Int) ≤ 4611686018427387904) (hlen : (xs.length : Int) ≤ 4611686018427387904) : laws_markIntS xs k = some (k + (1 : Nat) * (xs.length : Int), (fillL fillInt (1 : Nat) k xs.length, ())) := by
  unfold laws_markIntS
  rw [mark_loop fillInt 1 laws_markIntS_step (fun ys k => by unfold laws_markIntS_l1; simp) xs k h0 hk hlen]
  rfl

def fillSide (k : Int) : T_Side.D := (k, k + 1, ((k + 1 + 1).tmod 3 == 0), ())
theorem laws_markSideS_step (ys : List T_Side.D) (k : Int) (i : Nat) (hlt : i < ys.length) (h0 : 0 ≤ k) (hk : k ≤ 4611686018427387904) (hi : (i : Int) ≤ 4611686018427387904) : laws_markSideS_l1 (ys, k, (i : Int)) = some (.inl (ys.set i (fillSide k), k + (3 : Nat), (i : Int) + 1)) := by
  obtain ⟨x, hx⟩ : ∃ x, ys[i]? = some x := ⟨_, List.getElem?_eq_getElem hlt⟩
  have hil : ((i : Int) < (ys.length : Int)) := by omega
  have hc : k + ((3 : Nat) : Int) = k + 1 + 1 + 1 := by omega
  unfold laws_markSideS_l1 fillSide
  simp (disch := omega) only [hil, decide_true, cond_true, Int.toNat_natCast, idx_at hx, hx, Option.bind_some, idx_set hlt, get_set hlt, List.set_set, wrap_id, hc]
  first | done | rfl
theorem laws_markSideS_eq (xs : List T_Side.D) (k : Int) (h0 : 0 ≤ k) (hk : k + (3 : Nat) * (xs.length : Int) ≤ 4611686018427387904) (hlen : (xs.length : Int) ≤ 4611686018427387904) : laws_markSideS xs k = some (k + (3 : Nat) * (xs.length : Int), (fillL fillSide (3 : Nat) k xs.length, ())) := by
  unfold laws_markSideS
  rw [mark_loop fillSide 3 laws_markSideS_step (fun ys k => by unfold laws_markSideS_l1; simp) xs k h0 hk hlen]
  rfl

def fillPiece (k : Int) : T_Piece.D := (k, k + 1, k + 1 + 1, k + 1 + 1 + 1, k + 1 + 1 + 1 + 1, k + 1 + 1 + 1 + 1 + 1, k + 1 + 1 + 1 + 1 + 1 + 1, k + 1 + 1 + 1 + 1 + 1 + 1 + 1, k + 1 + 1 + 1 + 1 + 1 + 1 + 1 + 1, k + 1 + 1 + 1 + 1 + 1 + 1 + 1 + 1 + 1, k + 1 + 1 + 1 + 1 + 1 + 1 + 1 + 1 + 1 + 1, ((k + 1 + 1 + 1 + 1 + 1 + 1 + 1 + 1 + 1 + 1 + 1).tmod 3 == 0), ((k + 1 + 1 + 1 + 1 + 1 + 1 + 1 + 1 + 1 + 1 + 1 + 1).tmod 3 == 0), ())
theorem laws_markPieceS_step (ys : List T_Piece.D) (k : Int) (i : Nat) (hlt : i < ys.length) (h0 : 0 ≤ k) (hk : k ≤ 4611686018427387904) (hi : (i : Int) ≤ 4611686018427387904) : laws_markPieceS_l1 (ys, k, (i : Int)) = some (.inl (ys.set i (fillPiece k), k + (13 : Nat), (i : Int) + 1)) := by
  obtain ⟨x, hx⟩ : ∃ x, ys[i]? = some x := ⟨_, List.getElem?_eq_getElem hlt⟩
  have hil : ((i : Int) < (ys.length : Int)) := by omega
  have hc : k + ((13 : Nat) : Int) = k + 1 + 1 + 1 + 1 + 1 + 1 + 1 + 1 + 1 + 1 + 1 + 1 + 1 := by omega
  unfold laws_markPieceS_l1 fillPiece
  simp (disch := omega) only [hil, decide_true, cond_true, Int.toNat_natCast, idx_at hx, hx, Option.bind_some, idx_set hlt, get_set hlt, List.set_set, wrap_id, hc]
  first | done | rfl
theorem laws_markPieceS_eq (xs : List T_Piece.D) (k : Int) (h0 : 0 ≤ k) (hk : k + (13 : Nat) * (xs.length : Int) ≤ 4611686018427387904) (hlen : (xs.length : Int) ≤ 4611686018427387904) : laws_markPieceS xs k = some (k + (13 : Nat) * (xs.length : Int), (fillL fillPiece (13 : Nat) k xs.length, ())) := by
  unfold laws_markPieceS
  rw [mark_loop fillPiece 13 laws_markPieceS_step (fun ys k => by unfold laws_markPieceS_l1; simp) xs k h0 hk hlen]
  rfl

def fillTrigger (k : Int) : T_Trigger.D := (k, k + 1, k + 1 + 1, (k + 1 + 1 + 1, k + 1 + 1 + 1 + 1, k + 1 + 1 + 1 + 1 + 1, k + 1 + 1 + 1 + 1 + 1 + 1, k + 1 + 1 + 1 + 1 + 1 + 1 + 1, k + 1 + 1 + 1 + 1 + 1 + 1 + 1 + 1, k + 1 + 1 + 1 + 1 + 1 + 1 + 1 + 1 + 1, k + 1 + 1 + 1 + 1 + 1 + 1 + 1 + 1 + 1 + 1, k + 1 + 1 + 1 + 1 + 1 + 1 + 1 + 1 + 1 + 1 + 1, k + 1 + 1 + 1 + 1 + 1 + 1 + 1 + 1 + 1 + 1 + 1 + 1, k + 1 + 1 + 1 + 1 + 1 + 1 + 1 + 1 + 1 + 1 + 1 + 1 + 1, ((k + 1 + 1 + 1 + 1 + 1 + 1 + 1 + 1 + 1 + 1 + 1 + 1 + 1 + 1).tmod 3 == 0), ((k + 1 + 1 + 1 + 1 + 1 + 1 + 1 + 1 + 1 + 1 + 1 + 1 + 1 + 1 + 1).tmod 3 == 0), ()), ())
theorem laws_markTriggerS_step (ys : List T_Trigger.D) (k : Int) (i : Nat) (hlt : i < ys.length) (h0 : 0 ≤ k) (hk : k ≤ 4611686018427387904) (hi : (i : Int) ≤ 4611686018427387904) : laws_markTriggerS_l1 (ys, k, (i : Int)) = some (.inl (ys.set i (fillTrigger k), k + (16 : Nat), (i : Int) + 1)) := by
  obtain ⟨x, hx⟩ : ∃ x, ys[i]? = some x := ⟨_, List.getElem?_eq_getElem hlt⟩
  have hil : ((i : Int) < (ys.length : Int)) := by omega
  have hc : k + ((16 : Nat) : Int) = k + 1 + 1 + 1 + 1 + 1 + 1 + 1 + 1 + 1 + 1 + 1 + 1 + 1 + 1 + 1 + 1 := by omega
  unfold laws_markTriggerS_l1 fillTrigger
  simp (disch := omega) only [hil, decide_true, cond_true, Int.toNat_natCast, idx_at hx, hx, Option.bind_some, idx_set hlt, get_set hlt, List.set_set, wrap_id, hc]
  first | done | rfl
theorem laws_markTriggerS_eq (xs : List T_Trigger.D) (k : Int) (h0 : 0 ≤ k) (hk : k + (16 : Nat) * (xs.length : Int) ≤ 4611686018427387904) (hlen : (xs.length : Int) ≤ 4611686018427387904) : laws_markTriggerS xs k = some (k + (16 : Nat) * (xs.length : Int), (fillL fillTrigger (16 : Nat) k xs.length, ())) := by
  unfold laws_markTriggerS
  rw [mark_loop fillTrigger 16 laws_markTriggerS_step (fun ys k => by unfold laws_markTriggerS_l1; simp) xs k h0 hk hlen]
  rfl

def fillNote (k : Int) : T_Note.D := (k, (k + 1, k + 1 + 1, k + 1 + 1 + 1, k + 1 + 1 + 1 + 1, k + 1 + 1 + 1 + 1 + 1, k + 1 + 1 + 1 + 1 + 1 + 1, ((k + 1 + 1 + 1 + 1 + 1 + 1 + 1).tmod 3 == 0), ()), k + 1 + 1 + 1 + 1 + 1 + 1 + 1 + 1, k + 1 + 1 + 1 + 1 + 1 + 1 + 1 + 1 + 1, (k + 1 + 1 + 1 + 1 + 1 + 1 + 1 + 1 + 1 + 1, k + 1 + 1 + 1 + 1 + 1 + 1 + 1 + 1 + 1 + 1 + 1, k + 1 + 1 + 1 + 1 + 1 + 1 + 1 + 1 + 1 + 1 + 1 + 1, k + 1 + 1 + 1 + 1 + 1 + 1 + 1 + 1 + 1 + 1 + 1 + 1 + 1, k + 1 + 1 + 1 + 1 + 1 + 1 + 1 + 1 + 1 + 1 + 1 + 1 + 1 + 1, k + 1 + 1 + 1 + 1 + 1 + 1 + 1 + 1 + 1 + 1 + 1 + 1 + 1 + 1 + 1, k + 1 + 1 + 1 + 1 + 1 + 1 + 1 + 1 + 1 + 1 + 1 + 1 + 1 + 1 + 1 + 1, k + 1 + 1 + 1 + 1 + 1 + 1 + 1 + 1 + 1 + 1 + 1 + 1 + 1 + 1 + 1 + 1 + 1, k + 1 + 1 + 1 + 1 + 1 + 1 + 1 + 1 + 1 + 1 + 1 + 1 + 1 + 1 + 1 + 1 + 1 + 1, k + 1 + 1 + 1 + 1 + 1 + 1 + 1 + 1 + 1 + 1 + 1 + 1 + 1 + 1 + 1 + 1 + 1 + 1 + 1, k + 1 + 1 + 1 + 1 + 1 + 1 + 1 + 1 + 1 + 1 + 1 + 1 + 1 + 1 + 1 + 1 + 1 + 1 + 1 + 1, ((k + 1 + 1 + 1 + 1 + 1 + 1 + 1 + 1 + 1 + 1 + 1 + 1 + 1 + 1 + 1 + 1 + 1 + 1 + 1 + 1 + 1).tmod 3 == 0), ((k + 1 + 1 + 1 + 1 + 1 + 1 + 1 + 1 + 1 + 1 + 1 + 1 + 1 + 1 + 1 + 1 + 1 + 1 + 1 + 1 + 1 + 1).tmod 3 == 0), ()), ())
theorem laws_markNoteS_step (ys : List T_Note.D) (k : Int) (i : Nat) (hlt : i < ys.length) (h0 : 0 ≤ k) (hk : k ≤ 4611686018427387904) (hi : (i : Int) ≤ 4611686018427387904) : laws_markNoteS_l1 (ys, k, (i : Int)) = some (.inl (ys.set i (fillNote k), k + (23 : Nat), (i : Int) + 1)) := by
  obtain ⟨x, hx⟩ : ∃ x, ys[i]? = some x := ⟨_, List.getElem?_eq_getElem hlt⟩
  have hil : ((i : Int) < (ys.length : Int)) := by omega
  have hc : k + ((23 : Nat) : Int) = k + 1 + 1 + 1 + 1 + 1 + 1 + 1 + 1 + 1 + 1 + 1 + 1 + 1 + 1 + 1 + 1 + 1 + 1 + 1 + 1 + 1 + 1 + 1 := by omega
  unfold laws_markNoteS_l1 fillNote
  simp (disch := omega) only [hil, decide_true, cond_true, Int.toNat_natCast, idx_at hx, hx, Option.bind_some, idx_set hlt, get_set hlt, List.set_set, wrap_id, hc]
  first | done | rfl
theorem laws_markNoteS_eq (xs : List T_Note.D) (k : Int) (h0 : 0 ≤ k) (hk : k + (23 : Nat) * (xs.length : Int) ≤ 4611686018427387904) (hlen : (xs.length : Int) ≤ 4611686018427387904) : laws_markNoteS xs k = some (k + (23 : Nat) * (xs.length : Int), (fillL fillNote (23 : Nat) k xs.length, ())) := by
  unfold laws_markNoteS
  rw [mark_loop fillNote 23 laws_markNoteS_step (fun ys k => by unfold laws_markNoteS_l1; simp) xs k h0 hk hlen]
  rfl

def markS (s : T_State.D) (k : Int) : T_State.D := (fillL fillPiece (13 : Nat) k s.1.length, fillL fillSide (3 : Nat) (k + (13 : Nat) * (s.1.length : Int)) s.2.1.length, s.2.2)
theorem laws_markState_eq (s : T_State.D) (k : Int) (h0 : 0 ≤ k) (h1 : k ≤ 4294967296) (hp : s.1.length ≤ 1048576) (hs : s.2.1.length ≤ 1048576) : laws_markState s k = some (k + (13 : Nat) * (s.1.length : Int) + (3 : Nat) * (s.2.1.length : Int), (markS s k, ())) := by
  unfold laws_markState
  rw [laws_markPieceS_eq _ k h0 (by omega) (by omega), Option.bind_some, laws_markSideS_eq _ _ (by omega) (by omega) (by omega)]
  rfl

theorem laws_heldIntS_eq (k0 : Int) (n : Nat) (h0 : 0 ≤ k0) (hk : k0 + (1 : Nat) * (n : Int) ≤ 4611686018427387904) (hlen : (n : Int) ≤ 4611686018427387904) : laws_heldIntS (fillL fillInt (1 : Nat) k0 n) k0 = some (k0 + (1 : Nat) * (n : Int)) := by
  unfold laws_heldIntS
  rw [held_loop fillInt 1 (fillL fillInt (1 : Nat) k0 n) k0 n rfl (body := laws_heldIntS_l1 (fillL fillInt (1 : Nat) k0 n)) ?_ ?_ h0 hk hlen]
  · rfl
  · intro k i hx h0 hk hi
    have hlt := (List.getElem?_eq_some_iff.1 hx).1
    have hil : ((i : Int) < ((fillL fillInt (1 : Nat) k0 n).length : Int)) := by omega
    have hc : k + ((1 : Nat) : Int) = k + 1 := by omega
    unfold laws_heldIntS_l1
    simp (disch := omega) only [hil, decide_true, cond_true, idx_at hx, fillInt, wrap_id, bne_self_eq_false, cond_false, hc]
    first | done | rfl
  · intro k
    unfold laws_heldIntS_l1
    simp

theorem laws_heldTriggerS_eq (k0 : Int) (n : Nat) (h0 : 0 ≤ k0) (hk : k0 + (16 : Nat) * (n : Int) ≤ 4611686018427387904) (hlen : (n : Int) ≤ 4611686018427387904) : laws_heldTriggerS (fillL fillTrigger (16 : Nat) k0 n) k0 = some (k0 + (16 : Nat) * (n : Int)) := by
  unfold laws_heldTriggerS
  rw [held_loop fillTrigger 16 (fillL fillTrigger (16 : Nat) k0 n) k0 n rfl (body := laws_heldTriggerS_l1 (fillL fillTrigger (16 : Nat) k0 n)) ?_ ?_ h0 hk hlen]
  · rfl
  · intro k i hx h0 hk hi
    have hlt := (List.getElem?_eq_some_iff.1 hx).1
    have hil : ((i : Int) < ((fillL fillTrigger (16 : Nat) k0 n).length : Int)) := by omega
    have hc : k + ((16 : Nat) : Int) = k + 1 + 1 + 1 + 1 + 1 + 1 + 1 + 1 + 1 + 1 + 1 + 1 + 1 + 1 + 1 + 1 := by omega
    unfold laws_heldTriggerS_l1
    simp (disch := omega) only [hil, decide_true, cond_true, idx_at hx, fillTrigger, wrap_id, bne_self_eq_false, cond_false, hc]
    first | done | rfl
  · intro k
    unfold laws_heldTriggerS_l1
    simp



/-! ### Pieces found -/
def pieceAt (s : T_State.D) (a : Int) : Int := match findL (fun (x : T_Piece.D) => x.1 == a) s.1 with | some k => (k : Int) | none => -1
theorem pieceAt_cases (s : T_State.D) (a : Int) : pieceAt s a = -1 ∨ ∃ (k : Nat) (x : T_Piece.D), pieceAt s a = k ∧ s.1[k]? = some x ∧ x.1 = a := by
  unfold pieceAt
  obtain ⟨h1, h2⟩ := findL_spec (fun (x : T_Piece.D) => x.1 == a) s.1
  cases hf : findL (fun (x : T_Piece.D) => x.1 == a) s.1 with
  | none => exact .inl rfl
  | some k =>
    obtain ⟨x, g1, g2, _⟩ := h2 k hf
    exact .inr ⟨k, x, rfl, g1, by simpa using g2⟩
theorem spec_PieceAt_eq (s : T_State.D) (a : Int) (h : s.1.length ≤ 1048576) : spec_PieceAt s a = some (pieceAt s a) := by
  unfold spec_PieceAt pieceAt
  rw [index_loop s.1 (body := spec_PieceAt_l1 s a) (fun (x : T_Piece.D) => x.1 == a) (fun i => i) (by omega) (fun i x hx => ?_) ?_]
  · cases findL (fun (x : T_Piece.D) => x.1 == a) s.1 <;> rfl
  · unfold spec_PieceAt_l1
    simp
  · unfold spec_PieceAt_l1
    have hlt := (List.getElem?_eq_some_iff.1 hx).1
    have : ((i : Int) < (s.1.length : Int)) := by omega
    simp only [this, decide_true, cond_true, idx_at hx]
theorem index_piece (xs : List T_Piece.D) (hl : xs.length ≤ 1048576) (p : T_Piece.D → Bool) (q : (T_Piece.D × Unit) → Option Bool) (hq : ∀ x, q (x, ()) = some (p x)) :
    slices_IndexFunc_impl_Piece xs q = some (match findL p xs with | some k => (k : Int) | none => -1) := by
  unfold slices_IndexFunc_impl_Piece
  rw [index_loop xs (body := slices_IndexFunc_impl_Piece_l1 xs q) p (fun i => i) (by omega) (fun i x hx => ?_) ?_]
  · cases findL p xs <;> rfl
  · unfold slices_IndexFunc_impl_Piece_l1
    simp
  · unfold slices_IndexFunc_impl_Piece_l1
    have hlt := (List.getElem?_eq_some_iff.1 hx).1
    have : ((i : Int) < (xs.length : Int)) := by omega
    simp only [this, decide_true, cond_true, idx_at hx, hq, Option.bind_some]
theorem impl_PieceAt_eq (s : T_State.D) (a : Int) (h : s.1.length ≤ 1048576) : impl_PieceAt s a = some (pieceAt s a) := by
  unfold impl_PieceAt pieceAt
  rw [index_piece s.1 h (fun (x : T_Piece.D) => x.1 == a) _ (fun x => rfl)]
  rfl


theorem hasTrait_eq (p : T_Piece.D) (t : Int) : spec_HasTrait p t = impl_HasTrait p t := by
  unfold spec_HasTrait impl_HasTrait
  cases h1 : t == 1 <;> cases h2 : t == 2 <;> cases h4 : t == 4 <;> cases h8 : t == 8 <;> cases h16 : t == 16 <;> cases h32 : t == 32 <;> simp only [cond_true, cond_false, Option.bind_some]
theorem hasTrait_some (p : T_Piece.D) (t : Int) : ∃ b, spec_HasTrait p t = some b := by
  unfold spec_HasTrait
  simp only [cond_eq_ite]
  repeat' split
  all_goals exact ⟨_, rfl⟩

def leftB (x : T_Note.D) : Bool := (x.1 == 6) || ((x.1 == 3) && ((x.2.2.2.2.1.2.2.2.1 == 2) && (x.2.1.2.2.2.2.2.1 != 2)))
theorem impl_left_eq (x : T_Note.D) : impl_left x = some (leftB x) := by
  unfold impl_left leftB
  cases (x.1 == 6) <;> cases (x.1 == 3) <;> cases (x.2.2.2.2.1.2.2.2.1 == 2) <;> rfl
theorem spec_left_eq (x : T_Note.D) : spec_l18Left x = some (leftB x) := by
  unfold spec_l18Left leftB
  cases (x.1 == 6) <;> cases (x.1 == 3) <;> cases (x.2.2.2.2.1.2.2.2.1 == 2) <;> rfl

/-! ### Seen -/
def hasTraitB (p : T_Piece.D) (t : Int) : Bool := (impl_HasTrait p t).getD false
theorem impl_HasTrait_eq (p : T_Piece.D) (t : Int) : impl_HasTrait p t = some (hasTraitB p t) := by
  obtain ⟨b, h⟩ := hasTrait_some p t
  rw [hasTrait_eq] at h
  unfold hasTraitB
  rw [h]; rfl
theorem spec_HasTrait_eq (p : T_Piece.D) (t : Int) : spec_HasTrait p t = some (hasTraitB p t) := by rw [hasTrait_eq, impl_HasTrait_eq]
theorem source_eq (s : T_State.D) (e : T_Event.D) (h : s.1.length ≤ 1048576) : ∃ p, spec_Source s e = some p ∧ impl_Source s e = some p := by
  unfold spec_Source impl_Source
  simp only [spec_PieceAt_eq s _ h, impl_PieceAt_eq s _ h, Option.bind_some]
  rcases pieceAt_cases s e.2.1 with h | ⟨k, x, h1, h2, _⟩
  · rw [h]
    cases (e.1 != 1) <;> exact ⟨_, rfl, rfl⟩
  · rw [h1, dec_neg (by omega)]
    cases (e.1 != 1)
    · simp only [cond_false, Option.bind_some, idx_at h2]; exact ⟨_, rfl, rfl⟩
    · exact ⟨_, rfl, rfl⟩
noncomputable def sourceV (s : T_State.D) (e : T_Event.D) : T_Piece.D := (impl_Source s e).getD (0, 0, 0, 0, 0, 0, 0, 0, 0, 0, 0, false, false, ())
theorem impl_Source_eq (s : T_State.D) (e : T_Event.D) (h : s.1.length ≤ 1048576) : impl_Source s e = some (sourceV s e) := by
  obtain ⟨p, _, h2⟩ := source_eq s e h
  unfold sourceV; rw [h2]; rfl
theorem spec_Source_eq (s : T_State.D) (e : T_Event.D) (h : s.1.length ≤ 1048576) : spec_Source s e = some (sourceV s e) := by
  obtain ⟨p, h1, h2⟩ := source_eq s e h
  unfold sourceV; rw [h2, h1]; rfl
noncomputable def seenG (s : T_State.D) (_ : Nat) (x : T_Note.D) : List T_Trigger.D :=
  bif leftB x && hasTraitB x.2.2.2.2.1 16 then [(1, x.2.2.2.2.1.2.2.1, 0, x.2.2.2.2)]
  else bif (x.1 == 1) && (decide (x.2.2.1 ≥ 1) && hasTraitB (sourceV s x.2.1) 32) then [(2, (sourceV s x.2.1).2.2.1, x.2.2.1, sourceV s x.2.1, ())] else []
theorem seenG_len (s : T_State.D) (i : Nat) (x : T_Note.D) : (seenG s i x).length ≤ 1 := by
  unfold seenG
  cases (leftB x && hasTraitB x.2.2.2.2.1 16) <;> cases ((x.1 == 1) && (decide (x.2.2.1 ≥ 1) && hasTraitB (sourceV s x.2.1) 32)) <;> simp
theorem left_one (x : T_Note.D) (h : leftB x = true) : (x.1 == 1) = false := by
  unfold leftB at h
  rw [beq_eq_false_iff_ne]
  intro e
  rw [e] at h
  simp at h
theorem impl_Seen_eq (s : T_State.D) (xs : List T_Note.D) (hs : s.1.length ≤ 1048576) (h : xs.length ≤ 1048576) : impl_Seen s xs = some (collect (seenG s) 0 xs) := by
  unfold impl_Seen
  rw [append_loop xs (seenG s) (fun s => s) (seenG_len s) (by omega) (fun t i x hI hx => ?_) (fun t => ?_)]
  · rfl
  · have hlt := (List.getElem?_eq_some_iff.1 hx).1
    have hil : ((i : Int) < (xs.length : Int)) := by omega
    unfold impl_Seen_l1 seenG
    simp only [hil, decide_true, cond_true, idx_at hx, impl_left_eq, impl_HasTrait_eq, impl_Source_eq s _ hs, Option.bind_some]
    have hr : ∀ (y : T_Trigger.D), (t.length + ([y] : List T_Trigger.D).length) * (24 * 16) ≤ room := fun y => by simp only [room, List.length_cons, List.length_nil]; omega
    simp only [hr, if_true]
    cases leftB x <;> cases hasTraitB x.2.2.2.2.1 16 <;> cases (x.1 == 1) <;> cases decide (x.2.2.1 ≥ 1) <;> cases hasTraitB (sourceV s x.2.1) 32 <;> simp
  · unfold impl_Seen_l1; simp
theorem spec_Seen_eq (s : T_State.D) (xs : List T_Note.D) (hs : s.1.length ≤ 1048576) (h : xs.length ≤ 1048576) : spec_Seen s xs = some (collect (seenG s) 0 xs) := by
  unfold spec_Seen
  rw [append_loop xs (seenG s) (fun s => s) (seenG_len s) (by omega) (fun t i x hI hx => ?_) (fun t => ?_)]
  · rfl
  · have hlt := (List.getElem?_eq_some_iff.1 hx).1
    have hil : ((i : Int) < (xs.length : Int)) := by omega
    unfold spec_Seen_l1 seenG
    simp only [hil, decide_true, cond_true, idx_at hx, spec_left_eq, spec_HasTrait_eq, spec_Source_eq s _ hs, Option.bind_some]
    have hr : ∀ (y : T_Trigger.D), (t.length + ([y] : List T_Trigger.D).length) * (24 * 16) ≤ room := fun y => by simp only [room, List.length_cons, List.length_nil]; omega
    simp only [hr, if_true]
    have h1 := left_one x
    cases hl : leftB x
    · simp only [cond_false, Option.bind_some, hr, if_true, Bool.false_and]
      cases (x.1 == 1) <;> cases decide (x.2.2.1 ≥ 1) <;> cases hasTraitB (sourceV s x.2.1) 32 <;> simp only [cond_true, cond_false, Option.bind_some, hr, if_true, Bool.and_true, Bool.and_false, Bool.false_and, List.append_nil]
    · rw [h1 hl]
      cases hasTraitB x.2.2.2.2.1 16 <;> simp
  · unfold spec_Seen_l1; simp
theorem law_Seen (s : T_State.D) (a : List T_Note.D) (ws0 : s.1.length ≤ maxLen) (ws1 : s.2.1.length ≤ maxLen) (wa0 : a.length ≤ maxLen) : laws_FnExactSeen s a = some true := by
  unfold laws_FnExactSeen
  rw [laws_szState_eq s _ (by omega) (by omega) ws0 ws1, Option.bind_some]
  by_cases gs : (s.1.length : Int) + s.2.1.length ≤ 1048576
  · rw [if_pos gs]
    simp (disch := omega) only [dec_neg, cond_false]
    rw [laws_szNoteS_eq a _ (by omega) (by omega) wa0, Option.bind_some]
    by_cases ga : (a.length : Int) ≤ 1048576 - s.1.length - s.2.1.length
    · rw [if_pos ga]
      simp (disch := omega) only [dec_neg, cond_false]
      obtain ⟨r, hr, e1, e2⟩ : ∃ r, r.length ≤ 1048576 ∧ spec_Seen s a = some r ∧ impl_Seen s a = some r := ⟨_, by have := collect_len (seenG s) (seenG_len s) a 0; omega, spec_Seen_eq s a (by omega) (by omega), impl_Seen_eq s a (by omega) (by omega)⟩
      simp (disch := omega) only [laws_toState_eq s (by omega) (by omega), laws_eqState_eq s s (by omega) (by omega), eqD_refl (t := T_State) rfl, laws_toNoteS_eq a (by omega), laws_eqNoteS_eq a a (by omega), eqD_refl (t := (.slice T_Note)) rfl, laws_eqTriggerS_eq r r (by omega), eqD_refl (t := (.slice T_Trigger)) rfl, laws_markState_eq s, laws_markNoteS_eq a, laws_markTriggerS_eq r, laws_heldTriggerS_eq (1) r.length, e1, e2, Option.bind_some, bne_self_eq_false, Bool.not_true, cond_false, cond_true, dec_neg]
    · rw [if_neg ga]; rfl
  · rw [if_neg gs]; rfl


end Go.Abs
