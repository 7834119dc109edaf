import Derived.Test.YtocdfakhhnbagaaGenM
import Derived.Test.YtocdfakhhnbagaaAbsPure
set_option linter.unusedVariables false
set_option linter.unusedSimpArgs false
namespace Go.Abs
theorem laws_toEvent_eq (a : T_Event.D) : laws_toEvent a = some a := by
  first | rfl | (unfold laws_toEvent; simp only [laws_toPiece_eq, laws_toEvent_eq, Option.bind_some]; rfl)
theorem laws_eqEvent_eq (a b : T_Event.D) : laws_eqEvent a b = some (eqD T_Event a b) := by
  unfold laws_eqEvent
  first | (simp only [bneIf]; rfl) | (simp only [laws_eqEvent_eq, laws_eqPiece_eq, Option.bind_some, bneIf, notIf]; rfl)

theorem laws_szPieceS_eq (a : List T_Piece.D) (l : Int) (h0 : 0 ≤ l) (h1 : l ≤ 1048576) (hn : a.length ≤ maxLen) : laws_szPieceS a l = some (if (a.length : Int) ≤ l then l - a.length else -1) := by
  unfold laws_szPieceS; exact sz_list h0 h1 (by simpa [maxLen] using hn)
theorem laws_toPiece_eq (a : T_Piece.D) : laws_toPiece a = some a := by
  first | rfl | (unfold laws_toPiece; simp only [laws_toPiece_eq, laws_toEvent_eq, Option.bind_some]; rfl)
theorem laws_toPieceS_eq (a : List T_Piece.D) (h : a.length ≤ 1048576) : laws_toPieceS a = some a := by
  unfold laws_toPieceS
  rw [if_pos (by omega), if_pos (by simp only [room]; omega), Int.toNat_natCast, copy_loop a _ (body := laws_toPieceS_l1 a) laws_toPiece (fun x _ => laws_toPiece_eq x) (by omega) (fun _ => rfl)]
  rfl
theorem laws_eqPiece_eq (a b : T_Piece.D) : laws_eqPiece a b = some (eqD T_Piece a b) := by
  unfold laws_eqPiece
  first | (simp only [bneIf]; rfl) | (simp only [laws_eqEvent_eq, laws_eqPiece_eq, Option.bind_some, bneIf, notIf]; rfl)
theorem laws_eqPieceS_eq (a b : List T_Piece.D) (h : a.length ≤ 1048576) : laws_eqPieceS a b = some (eqD (.slice T_Piece) a b) := by
  unfold laws_eqPieceS
  exact eq_lists (t := T_Piece) rfl a b (e := eqD T_Piece) (fun _ _ => rfl) (by omega) (fun i => by unfold laws_eqPieceS_l1; simp only [laws_eqPiece_eq, Option.bind_some])

theorem laws_szSideS_eq (a : List T_Side.D) (l : Int) (h0 : 0 ≤ l) (h1 : l ≤ 1048576) (hn : a.length ≤ maxLen) : laws_szSideS a l = some (if (a.length : Int) ≤ l then l - a.length else -1) := by
  unfold laws_szSideS; exact sz_list h0 h1 (by simpa [maxLen] using hn)
theorem laws_toSide_eq (a : T_Side.D) : laws_toSide a = some a := by
  first | rfl | (unfold laws_toSide; simp only [laws_toPiece_eq, laws_toEvent_eq, Option.bind_some]; rfl)
theorem laws_toSideS_eq (a : List T_Side.D) (h : a.length ≤ 1048576) : laws_toSideS a = some a := by
  unfold laws_toSideS
  rw [if_pos (by omega), if_pos (by simp only [room]; omega), Int.toNat_natCast, copy_loop a _ (body := laws_toSideS_l1 a) laws_toSide (fun x _ => laws_toSide_eq x) (by omega) (fun _ => rfl)]
  rfl
theorem laws_eqSide_eq (a b : T_Side.D) : laws_eqSide a b = some (eqD T_Side a b) := by
  unfold laws_eqSide
  first | (simp only [bneIf]; rfl) | (simp only [laws_eqEvent_eq, laws_eqPiece_eq, Option.bind_some, bneIf, notIf]; rfl)
theorem laws_eqSideS_eq (a b : List T_Side.D) (h : a.length ≤ 1048576) : laws_eqSideS a b = some (eqD (.slice T_Side) a b) := by
  unfold laws_eqSideS
  exact eq_lists (t := T_Side) rfl a b (e := eqD T_Side) (fun _ _ => rfl) (by omega) (fun i => by unfold laws_eqSideS_l1; simp only [laws_eqSide_eq, Option.bind_some])

theorem laws_eqNote_eq (a b : T_Note.D) : laws_eqNote a b = some (eqD T_Note a b) := by
  unfold laws_eqNote
  first | (simp only [bneIf]; rfl) | (simp only [laws_eqEvent_eq, laws_eqPiece_eq, Option.bind_some, bneIf, notIf]; rfl)
theorem laws_eqNoteS_eq (a b : List T_Note.D) (h : a.length ≤ 1048576) : laws_eqNoteS a b = some (eqD (.slice T_Note) a b) := by
  unfold laws_eqNoteS
  exact eq_lists (t := T_Note) rfl a b (e := eqD T_Note) (fun _ _ => rfl) (by omega) (fun i => by unfold laws_eqNoteS_l1; simp only [laws_eqNote_eq, Option.bind_some])

theorem laws_szState_eq (s : T_State.D) (l : Int) (h0 : 0 ≤ l) (h1 : l ≤ 1048576) (hp : s.1.length ≤ maxLen) (hs : s.2.1.length ≤ maxLen) : laws_szState s l = some (if (s.1.length : Int) + s.2.1.length ≤ l then l - s.1.length - s.2.1.length else -1) := by
  unfold laws_szState
  rw [laws_szPieceS_eq _ _ h0 h1 hp, Option.bind_some]
  by_cases g1 : (s.1.length : Int) ≤ l
  · rw [if_pos g1]
    have n1 : ¬ (l - (s.1.length : Int) < 0) := by omega
    simp only [n1, decide_false, cond_false]
    rw [laws_szSideS_eq _ _ (by omega) (by omega) hs, Option.bind_some]
    by_cases g2 : (s.2.1.length : Int) ≤ l - s.1.length
    · have n2 : ¬ (l - (s.1.length : Int) - s.2.1.length < 0) := by omega
      rw [if_pos g2, if_pos (by omega)]
      simp only [n2, decide_false, cond_false]
    · rw [if_neg g2, if_neg (by omega)]; rfl
  · rw [if_neg g1, if_neg (by omega)]; rfl
theorem laws_toState_eq (s : T_State.D) (hp : s.1.length ≤ 1048576) (hs : s.2.1.length ≤ 1048576) : laws_toState s = some s := by
  unfold laws_toState
  simp only [laws_toPieceS_eq _ hp, laws_toSideS_eq _ hs, Option.bind_some]
theorem laws_eqState_eq (a b : T_State.D) (hp : a.1.length ≤ 1048576) (hs : a.2.1.length ≤ 1048576) : laws_eqState a b = some (eqD T_State a b) := by
  unfold laws_eqState
  simp only [laws_eqPieceS_eq _ _ hp, laws_eqSideS_eq _ _ hs, Option.bind_some, bneIf, notIf]
  rfl

def fillSide (k : Int) : T_Side.D := (k, k + 1, ((k + 1 + 1).tmod 3 == 0), ())
theorem laws_markSideS_step (ys : List T_Side.D) (k : Int) (i : Nat) (hlt : i < ys.length) (h0 : 0 ≤ k) (hk : k ≤ 4611686018427387904) (hi : (i : Int) ≤ 4611686018427387904) : laws_markSideS_l1 (ys, k, (i : Int)) = some (.inl (ys.set i (fillSide k), k + (3 : Nat), (i : Int) + 1)) := by
  obtain ⟨x, hx⟩ : ∃ x, ys[i]? = some x := ⟨_, List.getElem?_eq_getElem hlt⟩
  have hil : ((i : Int) < (ys.length : Int)) := by omega
  have hc : k + ((3 : Nat) : Int) = k + 1 + 1 + 1 := by omega
  unfold laws_markSideS_l1 fillSide
  simp (disch := omega) only [hil, decide_true, cond_true, Int.toNat_natCast, idx_at hx, hx, Option.bind_some, idx_set hlt, get_set hlt, List.set_set, wrap_id, hc]
  first | done | rfl
theorem laws_markSideS_eq (xs : List T_Side.D) (k : Int) (h0 : 0 ≤ k) (hk : k + (3 : Nat) * (xs.length : Int) ≤ 4611686018427387904) (hlen : (xs.length : Int) ≤ 4611686018427387904) : laws_markSideS xs k = some (k + (3 : Nat) * (xs.length : Int), (fillL fillSide (3 : Nat) k xs.length, ())) := by
  unfold laws_markSideS
  rw [mark_loop fillSide 3 laws_markSideS_step (fun ys k => by unfold laws_markSideS_l1; simp) xs k h0 hk hlen]
  rfl

def fillPiece (k : Int) : T_Piece.D := (k, k + 1, k + 1 + 1, k + 1 + 1 + 1, k + 1 + 1 + 1 + 1, k + 1 + 1 + 1 + 1 + 1, k + 1 + 1 + 1 + 1 + 1 + 1, k + 1 + 1 + 1 + 1 + 1 + 1 + 1, k + 1 + 1 + 1 + 1 + 1 + 1 + 1 + 1, k + 1 + 1 + 1 + 1 + 1 + 1 + 1 + 1 + 1, k + 1 + 1 + 1 + 1 + 1 + 1 + 1 + 1 + 1 + 1, ((k + 1 + 1 + 1 + 1 + 1 + 1 + 1 + 1 + 1 + 1 + 1).tmod 3 == 0), ((k + 1 + 1 + 1 + 1 + 1 + 1 + 1 + 1 + 1 + 1 + 1 + 1).tmod 3 == 0), ())
theorem laws_markPieceS_step (ys : List T_Piece.D) (k : Int) (i : Nat) (hlt : i < ys.length) (h0 : 0 ≤ k) (hk : k ≤ 4611686018427387904) (hi : (i : Int) ≤ 4611686018427387904) : laws_markPieceS_l1 (ys, k, (i : Int)) = some (.inl (ys.set i (fillPiece k), k + (13 : Nat), (i : Int) + 1)) := by
  obtain ⟨x, hx⟩ : ∃ x, ys[i]? = some x := ⟨_, List.getElem?_eq_getElem hlt⟩
  have hil : ((i : Int) < (ys.length : Int)) := by omega
  have hc : k + ((13 : Nat) : Int) = k + 1 + 1 + 1 + 1 + 1 + 1 + 1 + 1 + 1 + 1 + 1 + 1 + 1 := by omega
  unfold laws_markPieceS_l1 fillPiece
  simp (disch := omega) only [hil, decide_true, cond_true, Int.toNat_natCast, idx_at hx, hx, Option.bind_some, idx_set hlt, get_set hlt, List.set_set, wrap_id, hc]
  first | done | rfl
theorem laws_markPieceS_eq (xs : List T_Piece.D) (k : Int) (h0 : 0 ≤ k) (hk : k + (13 : Nat) * (xs.length : Int) ≤ 4611686018427387904) (hlen : (xs.length : Int) ≤ 4611686018427387904) : laws_markPieceS xs k = some (k + (13 : Nat) * (xs.length : Int), (fillL fillPiece (13 : Nat) k xs.length, ())) := by
  unfold laws_markPieceS
  rw [mark_loop fillPiece 13 laws_markPieceS_step (fun ys k => by unfold laws_markPieceS_l1; simp) xs k h0 hk hlen]
  rfl

def fillNote (k : Int) : T_Note.D := (k, (k + 1, k + 1 + 1, k + 1 + 1 + 1, k + 1 + 1 + 1 + 1, k + 1 + 1 + 1 + 1 + 1, k + 1 + 1 + 1 + 1 + 1 + 1, ((k + 1 + 1 + 1 + 1 + 1 + 1 + 1).tmod 3 == 0), ()), k + 1 + 1 + 1 + 1 + 1 + 1 + 1 + 1, k + 1 + 1 + 1 + 1 + 1 + 1 + 1 + 1 + 1, (k + 1 + 1 + 1 + 1 + 1 + 1 + 1 + 1 + 1 + 1, k + 1 + 1 + 1 + 1 + 1 + 1 + 1 + 1 + 1 + 1 + 1, k + 1 + 1 + 1 + 1 + 1 + 1 + 1 + 1 + 1 + 1 + 1 + 1, k + 1 + 1 + 1 + 1 + 1 + 1 + 1 + 1 + 1 + 1 + 1 + 1 + 1, k + 1 + 1 + 1 + 1 + 1 + 1 + 1 + 1 + 1 + 1 + 1 + 1 + 1 + 1, k + 1 + 1 + 1 + 1 + 1 + 1 + 1 + 1 + 1 + 1 + 1 + 1 + 1 + 1 + 1, k + 1 + 1 + 1 + 1 + 1 + 1 + 1 + 1 + 1 + 1 + 1 + 1 + 1 + 1 + 1 + 1, k + 1 + 1 + 1 + 1 + 1 + 1 + 1 + 1 + 1 + 1 + 1 + 1 + 1 + 1 + 1 + 1 + 1, k + 1 + 1 + 1 + 1 + 1 + 1 + 1 + 1 + 1 + 1 + 1 + 1 + 1 + 1 + 1 + 1 + 1 + 1, k + 1 + 1 + 1 + 1 + 1 + 1 + 1 + 1 + 1 + 1 + 1 + 1 + 1 + 1 + 1 + 1 + 1 + 1 + 1, k + 1 + 1 + 1 + 1 + 1 + 1 + 1 + 1 + 1 + 1 + 1 + 1 + 1 + 1 + 1 + 1 + 1 + 1 + 1 + 1, ((k + 1 + 1 + 1 + 1 + 1 + 1 + 1 + 1 + 1 + 1 + 1 + 1 + 1 + 1 + 1 + 1 + 1 + 1 + 1 + 1 + 1).tmod 3 == 0), ((k + 1 + 1 + 1 + 1 + 1 + 1 + 1 + 1 + 1 + 1 + 1 + 1 + 1 + 1 + 1 + 1 + 1 + 1 + 1 + 1 + 1 + 1).tmod 3 == 0), ()), ())
theorem laws_markNoteS_step (ys : List T_Note.D) (k : Int) (i : Nat) (hlt : i < ys.length) (h0 : 0 ≤ k) (hk : k ≤ 4611686018427387904) (hi : (i : Int) ≤ 4611686018427387904) : laws_markNoteS_l1 (ys, k, (i : Int)) = some (.inl (ys.set i (fillNote k), k + (23 : Nat), (i : Int) + 1)) := by
  obtain ⟨x, hx⟩ : ∃ x, ys[i]? = some x := ⟨_, List.getElem?_eq_getElem hlt⟩
  have hil : ((i : Int) < (ys.length : Int)) := by omega
  have hc : k + ((23 : Nat) : Int) = k + 1 + 1 + 1 + 1 + 1 + 1 + 1 + 1 + 1 + 1 + 1 + 1 + 1 + 1 + 1 + 1 + 1 + 1 + 1 + 1 + 1 + 1 + 1 := by omega
  unfold laws_markNoteS_l1 fillNote
  simp (disch := omega) only [hil, decide_true, cond_true, Int.toNat_natCast, idx_at hx, hx, Option.bind_some, idx_set hlt, get_set hlt, List.set_set, wrap_id, hc]
  first | done | rfl
theorem laws_markNoteS_eq (xs : List T_Note.D) (k : Int) (h0 : 0 ≤ k) (hk : k + (23 : Nat) * (xs.length : Int) ≤ 4611686018427387904) (hlen : (xs.length : Int) ≤ 4611686018427387904) : laws_markNoteS xs k = some (k + (23 : Nat) * (xs.length : Int), (fillL fillNote (23 : Nat) k xs.length, ())) := by
  unfold laws_markNoteS
  rw [mark_loop fillNote 23 laws_markNoteS_step (fun ys k => by unfold laws_markNoteS_l1; simp) xs k h0 hk hlen]
  rfl

def markS (s : T_State.D) (k : Int) : T_State.D := (fillL fillPiece (13 : Nat) k s.1.length, fillL fillSide (3 : Nat) (k + (13 : Nat) * (s.1.length : Int)) s.2.1.length, s.2.2)
theorem laws_markState_eq (s : T_State.D) (k : Int) (h0 : 0 ≤ k) (h1 : k ≤ 4294967296) (hp : s.1.length ≤ 1048576) (hs : s.2.1.length ≤ 1048576) : laws_markState s k = some (k + (13 : Nat) * (s.1.length : Int) + (3 : Nat) * (s.2.1.length : Int), (markS s k, ())) := by
  unfold laws_markState
  rw [laws_markPieceS_eq _ k h0 (by omega) (by omega), Option.bind_some, laws_markSideS_eq _ _ (by omega) (by omega) (by omega)]
  rfl

theorem laws_heldSideS_eq (k0 : Int) (n : Nat) (h0 : 0 ≤ k0) (hk : k0 + (3 : Nat) * (n : Int) ≤ 4611686018427387904) (hlen : (n : Int) ≤ 4611686018427387904) : laws_heldSideS (fillL fillSide (3 : Nat) k0 n) k0 = some (k0 + (3 : Nat) * (n : Int)) := by
  unfold laws_heldSideS
  rw [held_loop fillSide 3 (fillL fillSide (3 : Nat) k0 n) k0 n rfl (body := laws_heldSideS_l1 (fillL fillSide (3 : Nat) k0 n)) ?_ ?_ h0 hk hlen]
  · rfl
  · intro k i hx h0 hk hi
    have hlt := (List.getElem?_eq_some_iff.1 hx).1
    have hil : ((i : Int) < ((fillL fillSide (3 : Nat) k0 n).length : Int)) := by omega
    have hc : k + ((3 : Nat) : Int) = k + 1 + 1 + 1 := by omega
    unfold laws_heldSideS_l1
    simp (disch := omega) only [hil, decide_true, cond_true, idx_at hx, fillSide, wrap_id, bne_self_eq_false, cond_false, hc]
    first | done | rfl
  · intro k
    unfold laws_heldSideS_l1
    simp

theorem laws_heldPieceS_eq (k0 : Int) (n : Nat) (h0 : 0 ≤ k0) (hk : k0 + (13 : Nat) * (n : Int) ≤ 4611686018427387904) (hlen : (n : Int) ≤ 4611686018427387904) : laws_heldPieceS (fillL fillPiece (13 : Nat) k0 n) k0 = some (k0 + (13 : Nat) * (n : Int)) := by
  unfold laws_heldPieceS
  rw [held_loop fillPiece 13 (fillL fillPiece (13 : Nat) k0 n) k0 n rfl (body := laws_heldPieceS_l1 (fillL fillPiece (13 : Nat) k0 n)) ?_ ?_ h0 hk hlen]
  · rfl
  · intro k i hx h0 hk hi
    have hlt := (List.getElem?_eq_some_iff.1 hx).1
    have hil : ((i : Int) < ((fillL fillPiece (13 : Nat) k0 n).length : Int)) := by omega
    have hc : k + ((13 : Nat) : Int) = k + 1 + 1 + 1 + 1 + 1 + 1 + 1 + 1 + 1 + 1 + 1 + 1 + 1 := by omega
    unfold laws_heldPieceS_l1
    simp (disch := omega) only [hil, decide_true, cond_true, idx_at hx, fillPiece, wrap_id, bne_self_eq_false, cond_false, hc]
    first | done | rfl
  · intro k
    unfold laws_heldPieceS_l1
    simp

theorem laws_heldNoteS_eq (k0 : Int) (n : Nat) (h0 : 0 ≤ k0) (hk : k0 + (23 : Nat) * (n : Int) ≤ 4611686018427387904) (hlen : (n : Int) ≤ 4611686018427387904) : laws_heldNoteS (fillL fillNote (23 : Nat) k0 n) k0 = some (k0 + (23 : Nat) * (n : Int)) := by
  unfold laws_heldNoteS
  rw [held_loop fillNote 23 (fillL fillNote (23 : Nat) k0 n) k0 n rfl (body := laws_heldNoteS_l1 (fillL fillNote (23 : Nat) k0 n)) ?_ ?_ h0 hk hlen]
  · rfl
  · intro k i hx h0 hk hi
    have hlt := (List.getElem?_eq_some_iff.1 hx).1
    have hil : ((i : Int) < ((fillL fillNote (23 : Nat) k0 n).length : Int)) := by omega
    have hc : k + ((23 : Nat) : Int) = k + 1 + 1 + 1 + 1 + 1 + 1 + 1 + 1 + 1 + 1 + 1 + 1 + 1 + 1 + 1 + 1 + 1 + 1 + 1 + 1 + 1 + 1 + 1 := by omega
    unfold laws_heldNoteS_l1
    simp (disch := omega) only [hil, decide_true, cond_true, idx_at hx, fillNote, wrap_id, bne_self_eq_false, cond_false, hc]
    first | done | rfl
  · intro k
    unfold laws_heldNoteS_l1
    simp

theorem laws_heldState_eq (s : T_State.D) (k : Int) (h0 : 0 ≤ k) (h1 : k ≤ 4294967296) (hp : s.1.length ≤ 1048576) (hs : s.2.1.length ≤ 1048576) : laws_heldState (markS s k) k = some (k + (13 : Nat) * (s.1.length : Int) + (3 : Nat) * (s.2.1.length : Int)) := by
  unfold laws_heldState markS
  rw [laws_heldPieceS_eq k _ h0 (by omega) (by omega), Option.bind_some, dec_neg (by omega)]
  simp only [cond_false]
  rw [laws_heldSideS_eq _ _ (by omega) (by omega) (by omega), Option.bind_some, dec_neg (by omega)]
  rfl
theorem laws_heldState_eq' (s : T_State.D) (k : Int) (h0 : 0 ≤ k) (h1 : k ≤ 4294967296) (hp : s.1.length ≤ 1048576) (hs : s.2.1.length ≤ 1048576) : laws_heldState ((markS s k).1, (markS s k).2.1, s.2.2) k = some (k + (13 : Nat) * (s.1.length : Int) + (3 : Nat) * (s.2.1.length : Int)) :=
  laws_heldState_eq s k h0 h1 hp hs


/-! ### Pieces found -/
def pieceAt (s : T_State.D) (a : Int) : Int := match findL (fun (x : T_Piece.D) => x.1 == a) s.1 with | some k => (k : Int) | none => -1
theorem pieceAt_cases (s : T_State.D) (a : Int) : pieceAt s a = -1 ∨ ∃ (k : Nat) (x : T_Piece.D), pieceAt s a = k ∧ s.1[k]? = some x ∧ x.1 = a := by
  unfold pieceAt
  obtain ⟨h1, h2⟩ := findL_spec (fun (x : T_Piece.D) => x.1 == a) s.1
  cases hf : findL (fun (x : T_Piece.D) => x.1 == a) s.1 with
  | none => exact .inl rfl
  | some k =>
    obtain ⟨x, g1, g2, _⟩ := h2 k hf
    exact .inr ⟨k, x, rfl, g1, by simpa using g2⟩
theorem spec_PieceAt_eq (s : T_State.D) (a : Int) (h : s.1.length ≤ 1048576) : spec_PieceAt s a = some (pieceAt s a) := by
  unfold spec_PieceAt pieceAt
  rw [index_loop s.1 (body := spec_PieceAt_l1 s a) (fun (x : T_Piece.D) => x.1 == a) (fun i => i) (by omega) (fun i x hx => ?_) ?_]
  · cases findL (fun (x : T_Piece.D) => x.1 == a) s.1 <;> rfl
  · unfold spec_PieceAt_l1
    simp
  · unfold spec_PieceAt_l1
    have hlt := (List.getElem?_eq_some_iff.1 hx).1
    have : ((i : Int) < (s.1.length : Int)) := by omega
    simp only [this, decide_true, cond_true, idx_at hx]
theorem index_piece (xs : List T_Piece.D) (hl : xs.length ≤ 1048576) (p : T_Piece.D → Bool) (q : (T_Piece.D × Unit) → Option Bool) (hq : ∀ x, q (x, ()) = some (p x)) :
    slices_IndexFunc_impl_Piece xs q = some (match findL p xs with | some k => (k : Int) | none => -1) := by
  unfold slices_IndexFunc_impl_Piece
  rw [index_loop xs (body := slices_IndexFunc_impl_Piece_l1 xs q) p (fun i => i) (by omega) (fun i x hx => ?_) ?_]
  · cases findL p xs <;> rfl
  · unfold slices_IndexFunc_impl_Piece_l1
    simp
  · unfold slices_IndexFunc_impl_Piece_l1
    have hlt := (List.getElem?_eq_some_iff.1 hx).1
    have : ((i : Int) < (xs.length : Int)) := by omega
    simp only [this, decide_true, cond_true, idx_at hx, hq, Option.bind_some]
theorem impl_PieceAt_eq (s : T_State.D) (a : Int) (h : s.1.length ≤ 1048576) : impl_PieceAt s a = some (pieceAt s a) := by
  unfold impl_PieceAt pieceAt
  rw [index_piece s.1 h (fun (x : T_Piece.D) => x.1 == a) _ (fun x => rfl)]
  rfl


/-! ### Numbers -/
theorem l1In_eq (a b c : Int) : spec_l1In a b c = some (decide (b ≤ a) && decide (a ≤ c)) := by
  unfold spec_l1In
  have : decide (a ≥ b) = decide (b ≤ a) := rfl
  simp only [this]
  cases decide (b ≤ a) <;> rfl
theorem from_eq (a b c : Int) : impl_from a b c = some (decide (b ≤ a) && decide (a ≤ c)) := by
  unfold impl_from
  have : decide (a ≥ b) = decide (b ≤ a) := rfl
  simp only [this]
  cases decide (b ≤ a) <;> rfl
def boundV (n : Int) : Int := if n > 2147483647 then 2147483647 else if n < -2147483647 then -2147483647 else n
theorem spec_Bound_eq (n : Int) : spec_Bound n = some (boundV n) := by
  unfold spec_Bound boundV
  simp only [cond_eq_ite, decide_eq_true_eq]
  split <;> (try split) <;> rfl
theorem impl_Bound_eq (n : Int) : impl_Bound n = some (boundV n) := by
  unfold impl_Bound boundV
  congr 1
  split <;> split <;> (try split) <;> (try split) <;> omega
def plusV (a b : Int) : Int := boundV (IntKind.wrap .i64 (boundV a + boundV b))
def lessV (a b : Int) : Int := boundV (IntKind.wrap .i64 (boundV a - boundV b))
theorem some_ite {c : Prop} [Decidable c] (a b : Bool) : (if c then some a else some b) = some (if c then a else b) := by split <;> rfl

/-! ### Pieces and states that are right -/
def pieceOkB (p : T_Piece.D) : Bool :=
  decide (1 ≤ p.1) && decide (p.1 ≤ 99) && decide (0 ≤ p.2.1) && decide (p.2.1 ≤ 2) && decide (0 ≤ p.2.2.1) && decide (p.2.2.1 ≤ 2) && decide (1 ≤ p.2.2.2.1) && decide (p.2.2.2.1 ≤ 4) && decide (0 ≤ p.2.2.2.2.1) && decide (p.2.2.2.2.1 ≤ 9999) &&
  decide (0 ≤ p.2.2.2.2.2.1) && decide (p.2.2.2.2.2.1 ≤ 999) && decide (0 ≤ p.2.2.2.2.2.2.1) && decide (p.2.2.2.2.2.2.1 ≤ 999) && decide (0 ≤ p.2.2.2.2.2.2.2.1) && decide (p.2.2.2.2.2.2.2.1 ≤ 63) && (
    if p.2.2.2.1 = 2 then decide (0 ≤ p.2.2.2.2.2.2.2.2.1) && decide (p.2.2.2.2.2.2.2.2.1 ≤ 2147483647) && decide (0 ≤ p.2.2.2.2.2.2.2.2.2.1) && decide (p.2.2.2.2.2.2.2.2.2.1 ≤ 2147483647) && decide (0 ≤ p.2.2.2.2.2.2.2.2.2.2.1) && decide (p.2.2.2.2.2.2.2.2.2.2.1 ≤ 2147483647)
    else (p.2.2.1 == p.2.1) && (p.2.2.2.2.2.2.2.2.1 == 0) && (p.2.2.2.2.2.2.2.2.2.1 == 0) && (p.2.2.2.2.2.2.2.2.2.2.1 == 0) && !p.2.2.2.2.2.2.2.2.2.2.2.1 && !p.2.2.2.2.2.2.2.2.2.2.2.2.1)
theorem spec_PieceOk_eq (p : T_Piece.D) : spec_PieceOk p = some (pieceOkB p) := by
  obtain ⟨i, o, sd, z, t, pw, tg, tr, pl, mi, mk, dl, bt, u⟩ := p
  unfold spec_PieceOk pieceOkB
  simp only [l1In_eq, Option.bind_some, cond_eq_ite, some_ite]
  congr 1
  rw [Bool.eq_iff_iff]
  by_cases h1 : z = 2
  · subst h1; simp; grind
  · simp [h1]; grind
theorem impl_PieceOk_eq (p : T_Piece.D) : impl_PieceOk p = some (pieceOkB p) := by
  obtain ⟨i, o, sd, z, t, pw, tg, tr, pl, mi, mk, dl, bt, u⟩ := p
  unfold impl_PieceOk pieceOkB impl_isId impl_isPlayer impl_isZone impl_isTime impl_isTraits impl_isAmount
  simp only [from_eq, Option.bind_some, cond_eq_ite, some_ite, bne]
  congr 1
  rw [Bool.eq_iff_iff]
  by_cases h1 : z = 2
  · subst h1; simp; grind
  · simp [h1]; grind
def sideOkB (x : T_Side.D) : Bool := decide (-2147483647 ≤ x.1) && decide (x.1 ≤ 2147483647) && (decide (0 ≤ x.2.1) && decide (x.2.1 ≤ 2147483647))
theorem spec_l5Side_eq (x : T_Side.D) : spec_l5Side x = some (sideOkB x) := by
  unfold spec_l5Side sideOkB
  simp only [l1In_eq, Option.bind_some]
  cases (decide (-2147483647 ≤ x.1) && decide (x.1 ≤ 2147483647)) <;> rfl
theorem impl_StateOk_1_eq (x : T_Side.D) : impl_StateOk_1 x = some (!sideOkB x) := by
  unfold impl_StateOk_1 sideOkB impl_isAmount
  simp only [impl_Bound_eq, from_eq, Option.bind_some]
  have : (boundV x.1 != x.1) = !(decide (-2147483647 ≤ x.1) && decide (x.1 ≤ 2147483647)) := by
    rw [Bool.eq_iff_iff]; unfold boundV; simp; grind
  rw [this]
  cases (decide (-2147483647 ≤ x.1) && decide (x.1 ≤ 2147483647)) <;> rfl

def anyI {α : Type} (p : Nat → α → Bool) : Nat → List α → Bool
  | _, [] => false
  | i, x :: r => p i x || anyI p (i + 1) r
theorem anyI_false {α : Type} (p : Nat → α → Bool) : ∀ (xs : List α) (k : Nat), anyI p k xs = false → ∀ (i : Nat) x, xs[i]? = some x → p (k + i) x = false
  | [], _, _, i, x, hx => by simp at hx
  | y :: xs, k, h, 0, x, hx => by
    simp only [anyI, Bool.or_eq_false_iff] at h
    simp at hx
    subst hx
    exact h.1
  | y :: xs, k, h, i + 1, x, hx => by
    simp only [anyI, Bool.or_eq_false_iff] at h
    have := anyI_false p xs (k + 1) h.2 i x (by simpa using hx)
    rwa [show k + (i + 1) = k + 1 + i by omega]
theorem any_loop {α β : Type} (xs : List α) {body : Int → Option (Int ⊕ (Int ⊕ β))} (p : Nat → α → Bool) (v : β) (hlen : xs.length ≤ 9223372036854775806)
    (hb : ∀ (i : Nat) x, xs[i]? = some x → body i = bif p i x then some (.inr (.inr v)) else some (.inl (IntKind.wrap .i64 ((i : Int) + 1))))
    (he : body xs.length = some (.inr (.inl xs.length))) :
    while_ body 0 = some (bif anyI p 0 xs then .inr v else .inl xs.length) := by
  have main : ∀ (r : List α) (k : Nat), xs.drop k = r → k ≤ xs.length → while_ body k = some (bif anyI p k r then .inr v else .inl xs.length) := by
    intro r
    induction r with
    | nil =>
      intro k h hk
      have : k = xs.length := by
        have := congrArg List.length h
        simp at this
        omega
      subst this
      exact while_done he
    | cons x r ih =>
      intro k h hk
      have hlt : k < xs.length := by
        have := congrArg List.length h
        simp at this
        omega
      have hx : xs[k]? = some x := by
        have := congrArg (fun l => l[0]?) h
        simpa using this
      have hr : xs.drop (k + 1) = r := by
        have := congrArg List.tail h
        simpa using this
      unfold anyI
      cases hp : p k x with
      | true =>
        refine while_done ?_
        rw [hb k x hx, hp]
        rfl
      | false =>
        refine while_step (s' := ((k + 1 : Nat) : Int)) ?_ (ih (k + 1) hr hlt)
        rw [hb k x hx, hp]
        simp only [cond_false]
        rw [wrap_id (by omega) (by omega)]
        rfl
  have := main xs 0 rfl (by omega)
  simpa using this

def badPiece (s : T_State.D) (i : Nat) (x : T_Piece.D) : Bool :=
  !pieceOkB x || decide (x.2.1 ≥ (s.2.1.length : Int)) || decide (x.2.2.1 ≥ (s.2.1.length : Int)) || decide (x.2.2.2.2.1 > s.2.2.2.1) || (decide (0 < i) && (s.1[i - 1]?).any (fun y => decide (y.1 ≥ x.1)))
def stateOkB (s : T_State.D) : Bool :=
  decide ((s.1.length : Int) ≤ 8) && (decide (2 ≤ (s.2.1.length : Int)) && decide ((s.2.1.length : Int) ≤ 3)) && (decide (0 ≤ s.2.2.1) && decide (s.2.2.1 ≤ (s.2.1.length : Int) - 1)) && (decide (0 ≤ s.2.2.2.1) && decide (s.2.2.2.1 ≤ 9999)) && !anyI (badPiece s) 0 s.1 && !s.2.1.any (fun x => !sideOkB x)
theorem prev_piece {s : T_State.D} {i : Nat} {x : T_Piece.D} (hx : s.1[i]? = some x) (hl : s.1.length ≤ 1048576) {R : Type} (κ : T_Piece.D → Option R) (h : 0 < i) : ∃ y, s.1[i - 1]? = some y ∧ idx s.1 (IntKind.wrap .i64 ((i : Int) - 1)) κ = κ y := by
  have hlt := (List.getElem?_eq_some_iff.1 hx).1
  have hy : s.1[i - 1]? = some (s.1[i - 1]'(by omega)) := List.getElem?_eq_getElem (by omega)
  refine ⟨_, hy, ?_⟩
  rw [wrap_id (by omega) (by omega), show ((i : Int) - 1) = ((i - 1 : Nat) : Int) by omega]
  exact idx_at hy
theorem any_any {α : Type} (p : α → Bool) : ∀ (xs : List α) (k : Nat), anyI (fun _ x => p x) k xs = xs.any p
  | [], _ => rfl
  | x :: xs, k => by simp [anyI, any_any p xs]
theorem pieceOk_sides {x : T_Piece.D} (h : pieceOkB x = true) : 0 ≤ x.2.1 ∧ 0 ≤ x.2.2.1 := by
  unfold pieceOkB at h
  simp only [Bool.and_eq_true, decide_eq_true_eq] at h
  exact ⟨h.1.1.1.1.1.1.1.1.1.1.1.1.1.1.2, h.1.1.1.1.1.1.1.1.1.1.1.1.2⟩
theorem in_side {a n : Int} (h : 0 ≤ a) : (decide (0 ≤ a) && decide (a ≤ n - 1)) = !decide (a ≥ n) := by
  by_cases hh : a ≥ n
  · rw [decide_eq_true hh, decide_eq_false (p := a ≤ n - 1) (by omega), Bool.and_false]; rfl
  · rw [decide_eq_false hh, decide_eq_true (p := a ≤ n - 1) (by omega), decide_eq_true h]; rfl
theorem index_side (xs : List T_Side.D) (hl : xs.length ≤ 1048576) (p : T_Side.D → Bool) (q : (T_Side.D × Unit) → Option Bool) (hq : ∀ x, q (x, ()) = some (p x)) :
    slices_IndexFunc_impl_Side xs q = some (match findL p xs with | some k => (k : Int) | none => -1) := by
  unfold slices_IndexFunc_impl_Side
  rw [index_loop xs (body := slices_IndexFunc_impl_Side_l1 xs q) p (fun i => i) (by omega) (fun i x hx => ?_) ?_]
  · cases findL p xs <;> rfl
  · unfold slices_IndexFunc_impl_Side_l1
    simp
  · unfold slices_IndexFunc_impl_Side_l1
    have hlt := (List.getElem?_eq_some_iff.1 hx).1
    have : ((i : Int) < (xs.length : Int)) := by omega
    simp only [this, decide_true, cond_true, idx_at hx, hq, Option.bind_some]
theorem findL_any {α : Type} (p : α → Bool) (xs : List α) : decide ((match findL p xs with | some k => (k : Int) | none => -1) ≥ 0) = xs.any p := by
  obtain ⟨h1, h2⟩ := findL_spec p xs
  cases hf : findL p xs with
  | none =>
    have : xs.any p = false := by rw [List.any_eq_false]; exact fun x hx => by simp [h1 hf x hx]
    rw [this]; rfl
  | some k =>
    obtain ⟨x, g1, g2, _⟩ := h2 k hf
    have : xs.any p = true := by rw [List.any_eq_true]; exact ⟨x, List.mem_of_getElem? g1, g2⟩
    rw [this]
    simp
theorem spec_StateOk_eq (s : T_State.D) (hp : s.1.length ≤ 1048576) (hs : s.2.1.length ≤ 1048576) : spec_StateOk s = some (stateOkB s) := by
  unfold spec_StateOk stateOkB
  simp only [l1In_eq, Option.bind_some]
  rw [wrap_id (by omega) (by omega)]
  have hd : decide ((s.1.length : Int) > 8) = !decide ((s.1.length : Int) ≤ 8) := by rw [Bool.eq_iff_iff]; simp
  rw [hd]
  cases decide ((s.1.length : Int) ≤ 8)
  · rfl
  cases (decide (2 ≤ (s.2.1.length : Int)) && decide ((s.2.1.length : Int) ≤ 3))
  · rfl
  cases (decide (0 ≤ s.2.2.1) && decide (s.2.2.1 ≤ (s.2.1.length : Int) - 1))
  · rfl
  cases (decide (0 ≤ s.2.2.2.1) && decide (s.2.2.2.1 ≤ 9999))
  · rfl
  simp only [Bool.not_true, cond_false, Option.bind_some, Bool.true_and]
  rw [any_loop s.1 (body := spec_StateOk_l1 s) (badPiece s) false (by omega) (fun i x hx => ?_) (by unfold spec_StateOk_l1; simp)]
  · rw [any_loop s.2.1 (body := spec_StateOk_l2 s) (fun _ x => !sideOkB x) false (by omega) (fun i x hx => ?_) (by unfold spec_StateOk_l2; simp), any_any]
    · cases anyI (badPiece s) 0 s.1 <;> cases s.2.1.any (fun x => !sideOkB x) <;> rfl
    · have hlt := (List.getElem?_eq_some_iff.1 hx).1
      have hil : ((i : Int) < (s.2.1.length : Int)) := by omega
      unfold spec_StateOk_l2
      simp only [hil, decide_true, cond_true, idx_at hx, spec_l5Side_eq, Option.bind_some]
  · have hlt := (List.getElem?_eq_some_iff.1 hx).1
    have hil : ((i : Int) < (s.1.length : Int)) := by omega
    unfold spec_StateOk_l1 badPiece
    simp only [hil, decide_true, cond_true, idx_at hx, spec_PieceOk_eq, Option.bind_some]
    by_cases hi : 0 < i
    · obtain ⟨y, hy, hk⟩ := prev_piece hx hp (fun x8 => bif decide (x8.1 ≥ x.1) then some true else bif decide (x.2.1 ≥ (s.2.1.length : Int)) then some true else bif decide (x.2.2.1 ≥ (s.2.1.length : Int)) then some true else some (decide (x.2.2.2.2.1 > s.2.2.2.1))) hi
      have h1 : decide ((i : Int) > 0) = true := by simp; omega
      have h2 : decide (0 < i) = true := by simpa using hi
      rw [h1, h2, hy]
      simp only [cond_true, hk, Option.any_some]
      cases pieceOkB x <;> cases decide (y.1 ≥ x.1) <;> cases decide (x.2.1 ≥ (s.2.1.length : Int)) <;> cases decide (x.2.2.1 ≥ (s.2.1.length : Int)) <;> cases decide (x.2.2.2.2.1 > s.2.2.2.1) <;> rfl
    · have h1 : decide ((i : Int) > 0) = false := by simp; omega
      have h2 : decide (0 < i) = false := by simpa using hi
      rw [h1, h2]
      simp only [cond_false]
      cases pieceOkB x <;> cases decide (x.2.1 ≥ (s.2.1.length : Int)) <;> cases decide (x.2.2.1 ≥ (s.2.1.length : Int)) <;> cases decide (x.2.2.2.2.1 > s.2.2.2.1) <;> rfl
theorem impl_StateOk_eq (s : T_State.D) (hp : s.1.length ≤ 1048576) (hs : s.2.1.length ≤ 1048576) : impl_StateOk s = some (stateOkB s) := by
  unfold impl_StateOk stateOkB impl_isSide impl_isTime
  simp only [from_eq, Option.bind_some]
  rw [wrap_id (by omega) (by omega)]
  have hd : decide ((s.1.length : Int) > 8) = !decide ((s.1.length : Int) ≤ 8) := by rw [Bool.eq_iff_iff]; simp
  rw [hd]
  cases decide ((s.1.length : Int) ≤ 8)
  · rfl
  cases (decide (2 ≤ (s.2.1.length : Int)) && decide ((s.2.1.length : Int) ≤ 3))
  · rfl
  cases (decide (0 ≤ s.2.2.1) && decide (s.2.2.1 ≤ (s.2.1.length : Int) - 1))
  · rfl
  cases (decide (0 ≤ s.2.2.2.1) && decide (s.2.2.2.1 ≤ 9999))
  · rfl
  simp only [Bool.not_true, cond_false, Option.bind_some, Bool.true_and]
  have hc : slices_ContainsFunc_impl_Side s.2.1 (fun q => impl_StateOk_1 q.1) = some (s.2.1.any (fun x => !sideOkB x)) := by
    unfold slices_ContainsFunc_impl_Side
    rw [index_side s.2.1 hs (fun x => !sideOkB x) _ (fun x => impl_StateOk_1_eq x), Option.bind_some, findL_any]
  rw [any_loop s.1 (body := impl_StateOk_l1 s) (badPiece s) false (by omega) (fun i x hx => ?_) (by unfold impl_StateOk_l1; simp)]
  · rw [hc]
    cases anyI (badPiece s) 0 s.1 <;> cases s.2.1.any (fun x => !sideOkB x) <;> rfl
  · have hlt := (List.getElem?_eq_some_iff.1 hx).1
    have hil : ((i : Int) < (s.1.length : Int)) := by omega
    unfold impl_StateOk_l1 badPiece impl_isSide
    simp only [hil, decide_true, cond_true, idx_at hx, impl_PieceOk_eq, from_eq, Option.bind_some]
    rw [wrap_id (n := (s.2.1.length : Int) - 1) (by omega) (by omega)]
    cases hok : pieceOkB x
    · rfl
    obtain ⟨g1, g2⟩ := pieceOk_sides hok
    have e1 : (decide (0 ≤ x.2.1) && decide (x.2.1 ≤ (s.2.1.length : Int) - 1)) = !decide (x.2.1 ≥ (s.2.1.length : Int)) := in_side g1
    have e2 : (decide (0 ≤ x.2.2.1) && decide (x.2.2.1 ≤ (s.2.1.length : Int) - 1)) = !decide (x.2.2.1 ≥ (s.2.1.length : Int)) := in_side g2
    rw [e1, e2]
    by_cases hi : 0 < i
    · obtain ⟨y, hy, hk⟩ := prev_piece hx hp (fun x10 => some (decide (x10.1 ≥ x.1))) hi
      have h1 : decide ((i : Int) > 0) = true := by simp; omega
      have h2 : decide (0 < i) = true := by simpa using hi
      rw [h1, h2, hy]
      simp only [cond_true, hk, Option.any_some]
      cases decide (y.1 ≥ x.1) <;> cases decide (x.2.1 ≥ (s.2.1.length : Int)) <;> cases decide (x.2.2.1 ≥ (s.2.1.length : Int)) <;> cases decide (x.2.2.2.2.1 > s.2.2.2.1) <;> rfl
    · have h1 : decide ((i : Int) > 0) = false := by simp; omega
      have h2 : decide (0 < i) = false := by simpa using hi
      rw [h1, h2]
      simp only [cond_false]
      cases decide (x.2.1 ≥ (s.2.1.length : Int)) <;> cases decide (x.2.2.1 ≥ (s.2.1.length : Int)) <;> cases decide (x.2.2.2.2.1 > s.2.2.2.1) <;> rfl

/-! ### Events that are right -/
def eventOkB (e : T_Event.D) : Bool :=
  let piece := decide (1 ≤ e.2.2.1) && decide (e.2.2.1 ≤ 99) && (e.2.2.2.1 == -1)
  let side := (e.2.2.1 == 0) && decide (0 ≤ e.2.2.2.1) && decide (e.2.2.2.1 ≤ 2)
  decide (0 ≤ e.2.2.2.2.1) && decide (e.2.2.2.2.1 ≤ 2147483647) && (
    if e.1 = 1 then decide (1 ≤ e.2.1) && decide (e.2.1 ≤ 99) && (piece || side) && (e.2.2.2.2.2.1 == 0) && !e.2.2.2.2.2.2.1
    else if e.1 = 2 then (e.2.1 == 0) && piece && decide (1 ≤ e.2.2.2.2.2.1) && decide (e.2.2.2.2.2.1 ≤ 4) && decide (e.2.2.2.2.1 ≤ 99) && ((e.2.2.2.2.2.1 == 2) || (e.2.2.2.2.1 == 0) && !e.2.2.2.2.2.2.1)
    else if e.1 = 3 ∨ e.1 = 4 then (e.2.1 == 0) && side && (e.2.2.2.2.2.1 == 0) && !e.2.2.2.2.2.2.1
    else if e.1 = 5 ∨ e.1 = 6 then (e.2.1 == 0) && piece && (e.2.2.2.2.2.1 == 0) && !e.2.2.2.2.2.2.1
    else false)

theorem spec_EventOk_eq (e : T_Event.D) : spec_EventOk e = some (eventOkB e) := by
  obtain ⟨k, s, p, d, n, z, bt, u⟩ := e
  unfold spec_EventOk eventOkB
  simp only [l1In_eq, Option.bind_some, cond_eq_ite, some_ite]
  congr 1
  rw [Bool.eq_iff_iff]
  by_cases h1 : k = 1
  · subst h1; simp; grind
  by_cases h2 : k = 2
  · subst h2; simp; grind
  by_cases h3 : k = 3
  · subst h3; simp; grind
  by_cases h4 : k = 4
  · subst h4; simp; grind
  by_cases h5 : k = 5
  · subst h5; simp; grind
  by_cases h6 : k = 6
  · subst h6; simp; grind
  simp [h1, h2, h3, h4, h5, h6]
theorem impl_EventOk_eq (e : T_Event.D) : impl_EventOk e = some (eventOkB e) := by
  obtain ⟨k, s, p, d, n, z, bt, u⟩ := e
  unfold impl_EventOk eventOkB impl_isAmount impl_onPiece impl_onPlayer impl_isId impl_isZone impl_isPlayer
  simp only [from_eq, Option.bind_some, cond_eq_ite, some_ite, bne]
  congr 1
  rw [Bool.eq_iff_iff]
  by_cases h1 : k = 1
  · subst h1; simp; grind
  by_cases h2 : k = 2
  · subst h2; simp; grind
  by_cases h3 : k = 3
  · subst h3; simp; grind
  by_cases h4 : k = 4
  · subst h4; simp; grind
  by_cases h5 : k = 5
  · subst h5; simp; grind
  by_cases h6 : k = 6
  · subst h6; simp; grind
  simp [h1, h2, h3, h4, h5, h6]

theorem eventOk_facts {k s p d n z : Int} {bt : Bool} {u : Unit} (h : eventOkB (k, s, p, d, n, z, bt, u) = true) :
    (k = 1 ∧ (1 ≤ p ∨ p = 0 ∧ 0 ≤ d)) ∨ (k = 2 ∧ 1 ≤ p) ∨ ((k = 3 ∨ k = 4) ∧ p = 0 ∧ 0 ≤ d) ∨ ((k = 5 ∨ k = 6) ∧ 1 ≤ p) := by
  unfold eventOkB at h
  by_cases h1 : k = 1
  · subst h1; simp at h; grind
  by_cases h2 : k = 2
  · subst h2; simp at h; grind
  by_cases h3 : k = 3
  · subst h3; simp at h; grind
  by_cases h4 : k = 4
  · subst h4; simp at h; grind
  by_cases h5 : k = 5
  · subst h5; simp at h; grind
  by_cases h6 : k = 6
  · subst h6; simp at h; grind
  simp [h1, h2, h3, h4, h5, h6] at h

theorem hasTrait_eq (p : T_Piece.D) (t : Int) : spec_HasTrait p t = impl_HasTrait p t := by
  unfold spec_HasTrait impl_HasTrait
  cases h1 : t == 1 <;> cases h2 : t == 2 <;> cases h4 : t == 4 <;> cases h8 : t == 8 <;> cases h16 : t == 16 <;> cases h32 : t == 32 <;> simp only [cond_true, cond_false, Option.bind_some]
theorem hasTrait_some (p : T_Piece.D) (t : Int) : ∃ b, spec_HasTrait p t = some b := by
  unfold spec_HasTrait
  simp only [cond_eq_ite]
  repeat' split
  all_goals exact ⟨_, rfl⟩

/-! ### Copies -/
theorem clonePiece_eq (xs : List T_Piece.D) (h : xs.length ≤ 1048576) : slices_Clone_impl_Piece xs = some xs := by
  unfold slices_Clone_impl_Piece
  rw [if_pos (by simp only [room, List.length_nil]; omega)]
  rfl
theorem cloneSide_eq (xs : List T_Side.D) (h : xs.length ≤ 1048576) : slices_Clone_impl_Side xs = some xs := by
  unfold slices_Clone_impl_Side
  rw [if_pos (by simp only [room, List.length_nil]; omega)]
  rfl
theorem impl_copy_eq (s : T_State.D) (hp : s.1.length ≤ 1048576) (hs : s.2.1.length ≤ 1048576) : impl_copyState s = some s := by
  unfold impl_copyState
  simp only [clonePiece_eq _ hp, cloneSide_eq _ hs, Option.bind_some]
theorem spec_copy_eq (s : T_State.D) (hp : s.1.length ≤ 1048576) (hs : s.2.1.length ≤ 1048576) : spec_l5Copy s = some s := by
  unfold spec_l5Copy
  rw [if_pos (by simp only [room, List.length_nil]; omega), if_pos (by simp only [room, List.length_nil]; omega)]
  rfl
theorem spec_Plus_eq (a b : Int) : spec_Plus a b = some (plusV a b) := by unfold spec_Plus; simp only [spec_Bound_eq, Option.bind_some]; rfl
theorem impl_Plus_eq (a b : Int) : impl_Plus a b = some (plusV a b) := by unfold impl_Plus; simp only [impl_Bound_eq, Option.bind_some]; rfl
theorem spec_Less_eq (a b : Int) : spec_Less a b = some (lessV a b) := by unfold spec_Less; simp only [spec_Bound_eq, Option.bind_some]; rfl
theorem impl_Less_eq (a b : Int) : impl_Less a b = some (lessV a b) := by unfold impl_Less; simp only [impl_Bound_eq, Option.bind_some]; rfl
/-- An element read to be written. -/
theorem ref_at {α R : Type} {xs : List α} {i : Nat} {x : α} {κ : α → Option R} (h : xs[i]? = some x) : (idx xs (i : Int) fun _ => (xs[((i : Int)).toNat]?).bind κ) = κ x := by
  rw [idx_at h, Int.toNat_natCast, h, Option.bind_some]
/-- Two states of the same size. -/
def sameSize (a b : T_State.D) : Prop := a.1.length = b.1.length ∧ a.2.1.length = b.2.1.length

/-! ### Carry -/
theorem carry_eq (s : T_State.D) (v : T_Event.D) (hp : s.1.length ≤ 1048576) (hs : s.2.1.length ≤ 1048576) : ∃ r, spec_Carry s v = some r ∧ impl_Carry s v = some r ∧ sameSize r.1 s := by
  unfold spec_Carry impl_Carry
  simp only [spec_copy_eq s hp hs, impl_copy_eq s hp hs, spec_PieceAt_eq s _ hp, impl_PieceAt_eq s _ hp, spec_StateOk_eq s hp hs, impl_StateOk_eq s hp hs, spec_EventOk_eq, impl_EventOk_eq, Option.bind_some]
  cases stateOkB s
  · exact ⟨_, rfl, rfl, rfl, rfl⟩
  cases eventOkB v
  · exact ⟨_, rfl, rfl, rfl, rfl⟩
  cases (v.1 != 2)
  case true => exact ⟨_, rfl, rfl, rfl, rfl⟩
  rcases pieceAt_cases s v.2.2.1 with h | ⟨k, x, h1, h2, _⟩
  · rw [h]; exact ⟨_, rfl, rfl, rfl, rfl⟩
  · rw [h1, dec_neg (by omega)]
    simp only [cond_false, Bool.not_true, Option.bind_some, idx_at h2, Int.toNat_natCast, h2]
    cases (x.2.2.2.1 == v.2.2.2.2.2.1)
    · simp only [cond_false]
      have e1 : ∀ a b, spec_Moved x a b = some (x.1, x.2.1, x.2.1, a, b, x.2.2.2.2.2.1, x.2.2.2.2.2.2.1, x.2.2.2.2.2.2.2.1, 0, 0, 0, false, false, ()) := fun a b => rfl
      have e2 : ∀ a b, impl_Moved x a b = some (x.1, x.2.1, x.2.1, a, b, x.2.2.2.2.2.1, x.2.2.2.2.2.2.1, x.2.2.2.2.2.2.2.1, 0, 0, 0, false, false, ()) := fun a b => rfl
      simp only [e1, e2, Option.bind_some]
      cases (v.2.2.2.2.2.1 == 2) <;> simp only [cond_true, cond_false, Option.bind_some] <;> exact ⟨_, rfl, rfl, by simp, rfl⟩
    · exact ⟨_, rfl, rfl, rfl, rfl⟩

/-! ### Bear -/
theorem side_in {s : T_State.D} {d : Int} (h0 : 0 ≤ d) (h : d < (s.2.1.length : Int)) : ∃ (j : Nat) (x : T_Side.D), d = j ∧ s.2.1[j]? = some x := by
  obtain ⟨j, rfl⟩ := Int.eq_ofNat_of_zero_le h0
  exact ⟨j, s.2.1[j]'(by omega), rfl, List.getElem?_eq_getElem (by omega)⟩
theorem bear_eq' (s : T_State.D) (k sr p d n z : Int) (bt : Bool) (u : Unit) (hp : s.1.length ≤ 1048576) (hs : s.2.1.length ≤ 1048576) : ∃ r, spec_Bear s (k, sr, p, d, n, z, bt, u) = some r ∧ impl_Bear s (k, sr, p, d, n, z, bt, u) = some r ∧ sameSize r.1 s := by
  unfold spec_Bear impl_Bear
  simp only [spec_copy_eq s hp hs, impl_copy_eq s hp hs, spec_StateOk_eq s hp hs, impl_StateOk_eq s hp hs, spec_EventOk_eq, impl_EventOk_eq, Option.bind_some]
  cases stateOkB s
  · exact ⟨_, rfl, rfl, rfl, rfl⟩
  cases hv : eventOkB (k, sr, p, d, n, z, bt, u)
  · exact ⟨_, rfl, rfl, rfl, rfl⟩
  unfold impl_reaches impl_isSide impl_fieldAt
  simp only [from_eq, spec_PieceAt_eq s _ hp, impl_PieceAt_eq s _ hp, spec_Plus_eq, impl_Plus_eq, spec_Less_eq, impl_Less_eq, Option.bind_some, Bool.not_true, cond_false]
  rw [wrap_id (n := (s.2.1.length : Int) - 1) (by omega) (by omega)]
  rcases eventOk_facts hv with ⟨rfl, _⟩ | ⟨rfl, _⟩ | ⟨hk, rfl, hd⟩ | ⟨hk, h1⟩
  · exact ⟨_, rfl, rfl, rfl, rfl⟩
  · exact ⟨_, rfl, rfl, rfl, rfl⟩
  · by_cases hlt : d < (s.2.1.length : Int)
    · obtain ⟨j, x, rfl, hx⟩ := side_in hd hlt
      have c1 : decide ((j : Int) ≥ (s.2.1.length : Int)) = false := decide_eq_false (by omega)
      have c2 : (decide (0 ≤ (j : Int)) && decide ((j : Int) ≤ (s.2.1.length : Int) - 1)) = true := by rw [decide_eq_true (by omega), decide_eq_true (by omega)]; rfl
      rcases hk with rfl | rfl <;> simp only [Int.reduceBEq, Int.reduceBNe, beq_self_eq_true, c1, c2, cond_true, cond_false, Option.bind_some, idx_at hx, Int.toNat_natCast, hx, Bool.not_true] <;> exact ⟨_, rfl, rfl, rfl, by simp⟩
    · have c1 : decide (d ≥ (s.2.1.length : Int)) = true := decide_eq_true (by omega)
      have c2 : (decide (0 ≤ d) && decide (d ≤ (s.2.1.length : Int) - 1)) = false := by rw [decide_eq_false (p := d ≤ (s.2.1.length : Int) - 1) (by omega), Bool.and_false]
      rcases hk with rfl | rfl <;> simp only [Int.reduceBEq, Int.reduceBNe, beq_self_eq_true, c1, c2, cond_true, cond_false, Option.bind_some, Bool.not_false] <;> exact ⟨_, rfl, rfl, rfl, rfl⟩
  · have p0 : (p == 0) = false := by rw [beq_eq_false_iff_ne]; omega
    rcases pieceAt_cases s p with h | ⟨i, x, e1, hx, _⟩
    · rcases hk with rfl | rfl <;> simp only [h, Int.reduceBEq, Int.reduceBNe, p0, cond_true, cond_false, Option.bind_some] <;> exact ⟨_, rfl, rfl, rfl, rfl⟩
    · have c1 : decide ((i : Int) ≥ 0) = true := by simp
      have c2 : decide ((i : Int) < 0) = false := dec_neg (by omega)
      rcases hk with rfl | rfl <;> simp only [e1, c1, c2, Int.reduceBEq, Int.reduceBNe, p0, cond_true, cond_false, Option.bind_some, idx_at hx, Int.toNat_natCast, hx] <;> cases (x.2.2.2.1 != 2) <;> simp only [c1, cond_true, cond_false, Option.bind_some, idx_at hx, Int.toNat_natCast, hx, Bool.not_true] <;> exact ⟨_, rfl, rfl, by first | rfl | simp, rfl⟩
theorem bear_eq (s : T_State.D) (v : T_Event.D) (hp : s.1.length ≤ 1048576) (hs : s.2.1.length ≤ 1048576) : ∃ r, spec_Bear s v = some r ∧ impl_Bear s v = some r ∧ sameSize r.1 s :=
  bear_eq' s v.1 v.2.1 v.2.2.1 v.2.2.2.1 v.2.2.2.2.1 v.2.2.2.2.2.1 v.2.2.2.2.2.2.1 v.2.2.2.2.2.2.2 hp hs

/-! ### Strike -/
theorem set_get {α : Type} {xs : List α} (j : Nat) (w : α) {i : Nat} {x : α} (h : xs[i]? = some x) : ∃ y, (xs.set j w)[i]? = some y :=
  ⟨_, List.getElem?_eq_getElem (by have := (List.getElem?_eq_some_iff.1 h).1; simpa using this)⟩
theorem side_cases (s : T_State.D) (d : Int) : (decide (0 ≤ d) && decide (d ≤ (s.2.1.length : Int) - 1)) = false ∨ ∃ (j : Nat) (y : T_Side.D), (decide (0 ≤ (j : Int)) && decide ((j : Int) ≤ (s.2.1.length : Int) - 1)) = true ∧ d = j ∧ s.2.1[j]? = some y := by
  by_cases h : 0 ≤ d ∧ d < (s.2.1.length : Int)
  · obtain ⟨j, y, e, hy⟩ := side_in (s := s) h.1 h.2
    have := (List.getElem?_eq_some_iff.1 hy).1
    exact .inr ⟨j, y, by rw [decide_eq_true (by omega), decide_eq_true (by omega)]; rfl, e, hy⟩
  · left
    by_cases h0 : 0 ≤ d
    · rw [decide_eq_false (p := d ≤ (s.2.1.length : Int) - 1) (by omega), Bool.and_false]
    · rw [decide_eq_false h0]; rfl
theorem strike_eq' (s : T_State.D) (q : T_Piece.D) (k sr p d n z : Int) (bt : Bool) (u : Unit) (hp : s.1.length ≤ 1048576) (hs : s.2.1.length ≤ 1048576) :
    ∃ r, spec_Strike s q (k, sr, p, d, n, z, bt, u) = some r ∧ impl_Strike s q (k, sr, p, d, n, z, bt, u) = some r ∧ sameSize r.1 s := by
  unfold spec_Strike impl_Strike
  simp only [spec_copy_eq s hp hs, impl_copy_eq s hp hs, spec_StateOk_eq s hp hs, impl_StateOk_eq s hp hs, spec_EventOk_eq, impl_EventOk_eq, Option.bind_some]
  cases stateOkB s
  · exact ⟨_, rfl, rfl, rfl, rfl⟩
  cases hv : eventOkB (k, sr, p, d, n, z, bt, u)
  · exact ⟨_, rfl, rfl, rfl, rfl⟩
  by_cases k1 : k = 1
  case neg =>
    have : (k != 1) = true := by simp [k1]
    rw [this]
    exact ⟨_, rfl, rfl, rfl, rfl⟩
  subst k1
  obtain ⟨b1, hb1⟩ := hasTrait_some q 1
  obtain ⟨b2, hb2⟩ := hasTrait_some q 2
  obtain ⟨b4, hb4⟩ := hasTrait_some q 4
  have hc1 : impl_HasTrait q 1 = some b1 := by rw [← hasTrait_eq]; exact hb1
  have hc2 : impl_HasTrait q 2 = some b2 := by rw [← hasTrait_eq]; exact hb2
  have hc4 : impl_HasTrait q 4 = some b4 := by rw [← hasTrait_eq]; exact hb4
  have hw : IntKind.wrap .i64 ((s.2.1.length : Int) - 1) = (s.2.1.length : Int) - 1 := wrap_id (by omega) (by omega)
  unfold impl_reaches impl_isSide impl_fieldAt
  simp only [hb1, hb2, hb4, hc1, hc2, hc4, from_eq, l1In_eq, hw, spec_PieceAt_eq s _ hp, impl_PieceAt_eq s _ hp, spec_Plus_eq, impl_Plus_eq, spec_Less_eq, impl_Less_eq, Option.bind_some, Bool.not_true, cond_false, bne_self_eq_false, List.length_set]
  have hq := side_cases s q.2.2.1
  have hf : (1 ≤ p ∨ p = 0 ∧ 0 ≤ d) := by rcases eventOk_facts hv with ⟨_, h⟩ | ⟨h, _⟩ | ⟨h, _⟩ | ⟨h, _⟩ <;> first | exact h | omega
  rcases hf with h1 | ⟨rfl, hd⟩
  · have p0 : (p == 0) = false := by rw [beq_eq_false_iff_ne]; omega
    rcases pieceAt_cases s p with h | ⟨i, x, e1, hx, _⟩
    · simp only [h, p0, cond_true, cond_false, Option.bind_some]; exact ⟨_, rfl, rfl, rfl, rfl⟩
    · have c1 : decide ((i : Int) ≥ 0) = true := by simp
      have c2 : decide ((i : Int) < 0) = false := dec_neg (by omega)
      have hil := (List.getElem?_eq_some_iff.1 hx).1
      obtain ⟨xi, xo, xs, xz, xt, xp, xg, xr, xl, xm, xk, xd, xb, xu⟩ := x
      simp only [e1, c1, c2, p0, cond_true, cond_false, Option.bind_some, idx_at hx]
      cases (xz != 2)
      case true => exact ⟨_, rfl, rfl, rfl, rfl⟩
      simp only [c1, cond_true, cond_false, Option.bind_some, idx_at hx, Int.toNat_natCast, hx, Bool.not_true, idx_set hil, get_set hil, List.set_set]
      rcases hq with hq | ⟨j, y, hq, hj, hy⟩
      · simp only [hq]
        cases b2 <;> cases b4 <;> cases xd <;> cases decide (n ≥ 1) <;> cases b1 <;> simp only [cond_true, cond_false, Option.bind_some, idx_set hil, get_set hil, List.set_set] <;> exact ⟨_, rfl, rfl, by simp, rfl⟩
      · simp only [hj, hq]
        cases b2 <;> cases b4 <;> cases xd <;> cases decide (n ≥ 1) <;> cases b1 <;> simp only [cond_true, cond_false, Option.bind_some, idx_set hil, get_set hil, List.set_set, idx_at hy, Int.toNat_natCast, hy] <;> exact ⟨_, rfl, rfl, by simp, by simp⟩
  · have p0 : ((0 : Int) == 0) = true := rfl
    by_cases hlt : d < (s.2.1.length : Int)
    · obtain ⟨j, x, rfl, hx⟩ := side_in hd hlt
      have c1 : decide ((j : Int) ≥ (s.2.1.length : Int)) = false := decide_eq_false (by omega)
      have c2 : (decide (0 ≤ (j : Int)) && decide ((j : Int) ≤ (s.2.1.length : Int) - 1)) = true := by rw [decide_eq_true (by omega), decide_eq_true (by omega)]; rfl
      simp only [p0, c1, c2, cond_true, cond_false, Option.bind_some, idx_at hx, Int.toNat_natCast, hx, Bool.not_true]
      rcases hq with hq | ⟨i, y, hq, hj, hy⟩
      · simp only [hq]
        cases b2 <;> cases b1 <;> simp only [cond_true, cond_false, Option.bind_some, idx_at hx, Int.toNat_natCast, hx] <;> exact ⟨_, rfl, rfl, rfl, by simp⟩
      · simp only [hj, hq]
        obtain ⟨y1, hy1⟩ := set_get j (x.1, plusV x.2.1 n, x.2.2) hy
        obtain ⟨y2, hy2⟩ := set_get j (lessV x.1 n, x.2) hy
        cases b2 <;> cases b1 <;> simp only [cond_true, cond_false, Option.bind_some, idx_at hx, Int.toNat_natCast, hx, idx_at hy1, hy1, idx_at hy2, hy2] <;> exact ⟨_, rfl, rfl, rfl, by simp⟩
    · have c1 : decide (d ≥ (s.2.1.length : Int)) = true := decide_eq_true (by omega)
      have c2 : (decide (0 ≤ d) && decide (d ≤ (s.2.1.length : Int) - 1)) = false := by rw [decide_eq_false (p := d ≤ (s.2.1.length : Int) - 1) (by omega), Bool.and_false]
      simp only [p0, c1, c2, cond_true, cond_false, Option.bind_some, Bool.not_false]
      exact ⟨_, rfl, rfl, rfl, rfl⟩
theorem strike_eq (s : T_State.D) (q : T_Piece.D) (v : T_Event.D) (hp : s.1.length ≤ 1048576) (hs : s.2.1.length ≤ 1048576) : ∃ r, spec_Strike s q v = some r ∧ impl_Strike s q v = some r ∧ sameSize r.1 s :=
  strike_eq' s q v.1 v.2.1 v.2.2.1 v.2.2.2.1 v.2.2.2.2.1 v.2.2.2.2.2.1 v.2.2.2.2.2.2.1 v.2.2.2.2.2.2.2 hp hs

theorem law_Strike (s : T_State.D) (q : T_Piece.D) (v : T_Event.D) (ws0 : s.1.length ≤ maxLen) (ws1 : s.2.1.length ≤ maxLen) : laws_FnExactStrike s q v = some true := by
  unfold laws_FnExactStrike
  rw [laws_szState_eq s _ (by omega) (by omega) ws0 ws1, Option.bind_some]
  by_cases gs : (s.1.length : Int) + s.2.1.length ≤ 1048576
  · rw [if_pos gs]
    simp (disch := omega) only [dec_neg, cond_false]
    obtain ⟨r, e1, e2, hr1, hr2⟩ := strike_eq s q v (by omega) (by omega)
    simp (disch := omega) only [laws_toState_eq s (by omega) (by omega), laws_eqState_eq s s (by omega) (by omega), eqD_refl (t := T_State) rfl, laws_toPiece_eq q, laws_eqPiece_eq q q, eqD_refl (t := T_Piece) rfl, laws_toEvent_eq v, laws_eqEvent_eq v v, eqD_refl (t := T_Event) rfl, laws_eqState_eq r.1 r.1 (by omega) (by omega), laws_markState_eq s, laws_markState_eq r.1, laws_heldState_eq r.1 (1), laws_heldState_eq' r.1 (1), e1, e2, Option.bind_some, bne_self_eq_false, Bool.not_true, cond_false, cond_true, dec_neg]
  · rw [if_neg gs]; rfl

theorem law_Carry (s : T_State.D) (v : T_Event.D) (ws0 : s.1.length ≤ maxLen) (ws1 : s.2.1.length ≤ maxLen) : laws_FnExactCarry s v = some true := by
  unfold laws_FnExactCarry
  rw [laws_szState_eq s _ (by omega) (by omega) ws0 ws1, Option.bind_some]
  by_cases gs : (s.1.length : Int) + s.2.1.length ≤ 1048576
  · rw [if_pos gs]
    simp (disch := omega) only [dec_neg, cond_false]
    obtain ⟨r, e1, e2, hr1, hr2⟩ := carry_eq s v (by omega) (by omega)
    simp (disch := omega) only [laws_toState_eq s (by omega) (by omega), laws_eqState_eq s s (by omega) (by omega), eqD_refl (t := T_State) rfl, laws_toEvent_eq v, laws_eqEvent_eq v v, eqD_refl (t := T_Event) rfl, laws_eqState_eq r.1 r.1 (by omega) (by omega), laws_markState_eq s, laws_markState_eq r.1, laws_heldState_eq r.1 (1), laws_heldState_eq' r.1 (1), e1, e2, Option.bind_some, bne_self_eq_false, Bool.not_true, cond_false, cond_true, dec_neg]
  · rw [if_neg gs]; rfl

theorem law_Bear (s : T_State.D) (v : T_Event.D) (ws0 : s.1.length ≤ maxLen) (ws1 : s.2.1.length ≤ maxLen) : laws_FnExactBear s v = some true := by
  unfold laws_FnExactBear
  rw [laws_szState_eq s _ (by omega) (by omega) ws0 ws1, Option.bind_some]
  by_cases gs : (s.1.length : Int) + s.2.1.length ≤ 1048576
  · rw [if_pos gs]
    simp (disch := omega) only [dec_neg, cond_false]
    obtain ⟨r, e1, e2, hr1, hr2⟩ := bear_eq s v (by omega) (by omega)
    simp (disch := omega) only [laws_toState_eq s (by omega) (by omega), laws_eqState_eq s s (by omega) (by omega), eqD_refl (t := T_State) rfl, laws_toEvent_eq v, laws_eqEvent_eq v v, eqD_refl (t := T_Event) rfl, laws_eqState_eq r.1 r.1 (by omega) (by omega), laws_markState_eq s, laws_markState_eq r.1, laws_heldState_eq r.1 (1), laws_heldState_eq' r.1 (1), e1, e2, Option.bind_some, bne_self_eq_false, Bool.not_true, cond_false, cond_true, dec_neg]
  · rw [if_neg gs]; rfl

/-! ### Doomed -/
theorem bound_eq (n : Int) : spec_Bound n = impl_Bound n := by
  unfold spec_Bound impl_Bound
  simp only [cond_eq_ite, decide_eq_true_eq]
  split <;> split <;> (try split) <;> (try split) <;> first | rfl | (congr 1; omega) | omega
theorem plus_eq (a b : Int) : spec_Plus a b = impl_Plus a b := by unfold spec_Plus impl_Plus; simp only [bound_eq]
theorem less_eq (a b : Int) : spec_Less a b = impl_Less a b := by unfold spec_Less impl_Less; simp only [bound_eq]
theorem tough_eq (p : T_Piece.D) : spec_ToughOf p = impl_ToughOf p := by unfold spec_ToughOf impl_ToughOf; simp only [plus_eq, less_eq]
theorem tough_some (p : T_Piece.D) : ∃ m, impl_ToughOf p = some m := by simp [impl_ToughOf, impl_Plus, impl_Less, impl_Bound]
theorem doomed_eq (p : T_Piece.D) : ∃ b, spec_Doomed p = some b ∧ impl_Doomed p = some b ∧ (b = true → (p.2.2.2.1 == 2) = true) := by
  unfold spec_Doomed impl_Doomed
  obtain ⟨m, hm⟩ := tough_some p
  obtain ⟨b, hb⟩ := hasTrait_some p 8
  simp only [tough_eq, hm, ← hasTrait_eq, hb, Option.bind_some]
  unfold bne
  cases h : p.2.2.2.1 == 2 <;> simp only [Bool.not_true, Bool.not_false, cond_true, cond_false]
  · exact ⟨_, rfl, rfl, by simp⟩
  · cases decide (m ≤ 0) <;> cases b <;> cases p.2.2.2.2.2.2.2.2.2.2.2.1 <;> exact ⟨_, rfl, rfl, by simp⟩
def doomedB (p : T_Piece.D) : Bool := (impl_Doomed p).getD false
theorem impl_Doomed_eq (p : T_Piece.D) : impl_Doomed p = some (doomedB p) := by
  obtain ⟨b, _, h, _⟩ := doomed_eq p
  unfold doomedB
  rw [h]; rfl
theorem spec_Doomed_eq (p : T_Piece.D) : spec_Doomed p = some (doomedB p) := by
  obtain ⟨b, h1, h, _⟩ := doomed_eq p
  unfold doomedB
  rw [h, h1]; rfl
theorem doomed_zone (p : T_Piece.D) (h : doomedB p = true) : (p.2.2.2.1 == 2) = true := by
  obtain ⟨b, _, h2, h3⟩ := doomed_eq p
  unfold doomedB at h
  rw [h2] at h
  exact h3 h

/-! ### Round, Quiet, Settle -/
theorem set_self {α : Type} : ∀ {ys : List α} {i : Nat} {x : α}, ys[i]? = some x → ys.set i x = ys
  | [], _, _, _ => by simp
  | y :: ys, 0, x, h => by simp at h; simp [h]
  | y :: ys, i + 1, x, h => by simp only [List.set_cons_succ]; rw [set_self (by simpa using h)]
/-- A loop that lays a new element for each, and appends notes. -/
theorem map_loop {α β T R : Type} (xs : List α) (f : α → α) (g : Nat → α → List β) (mk : List β → List α → Int → T) (r : T → R) {body : T → Option (T ⊕ R)} (n0 : List β) (hg : ∀ i x, (g i x).length ≤ 1) (hlen : xs.length ≤ 1048576)
    (hb : ∀ (ns : List β) (ys : List α) (i : Nat) x, ns.length ≤ n0.length + i → i < 1048576 → ys.length = xs.length → xs[i]? = some x → ys[i]? = some x → body (mk ns ys (i : Int)) = some (.inl (mk (ns ++ g i x) (ys.set i (f x)) (IntKind.wrap .i64 ((i : Int) + 1)))))
    (he : ∀ (ns : List β) (ys : List α), body (mk ns ys (xs.length : Int)) = some (.inr (r (mk ns ys (xs.length : Int))))) :
    while_ body (mk n0 xs 0) = some (r (mk (n0 ++ collect g 0 xs) (xs.map f) (xs.length : Int))) := by
  have main : ∀ (l p q : List α) (ns : List β), xs = p ++ l → q.length = p.length → ns.length ≤ n0.length + p.length → while_ body (mk ns (q ++ l) (p.length : Int)) = some (r (mk (ns ++ collect g p.length l) (q ++ l.map f) (xs.length : Int))) := by
    intro l
    induction l with
    | nil =>
      intro p q ns e hq hn
      refine while_done ?_
      have : p.length = xs.length := by rw [e]; simp
      rw [this, he]
      simp [collect]
    | cons x l ih =>
      intro p q ns e hq hn
      have hlt : p.length < xs.length := by rw [e]; simp
      have hx : xs[p.length]? = some x := by rw [e]; simp
      have hy : (q ++ x :: l)[p.length]? = some x := by rw [← hq]; simp
      have h1 := hb ns (q ++ x :: l) p.length x hn (by omega) (by rw [e]; simp [hq]) hx hy
      rw [wrap_id (by omega) (by omega)] at h1
      have h2 := ih (p ++ [x]) (q ++ [f x]) (ns ++ g p.length x) (by rw [e]; simp) (by simp [hq]) (by have := hg p.length x; simp only [List.length_append, List.length_cons, List.length_nil]; omega)
      refine while_step h1 ?_
      have e1 : (q ++ x :: l).set p.length (f x) = q ++ [f x] ++ l := by rw [← hq]; simp
      rw [e1]
      have e2 : ((p ++ [x]).length : Int) = (p.length : Int) + 1 := by simp
      rw [e2] at h2
      rw [h2]
      simp [collect, List.append_assoc]
  have := main xs [] [] n0 rfl rfl (by simp)
  simpa using this
def losesB (x : T_Side.D) : Bool := !x.2.2.1 && (decide (x.1 ≤ 0) || decide (x.2.1 ≥ 10))
def sideR (x : T_Side.D) : T_Side.D := bif losesB x then (x.1, x.2.1, true, ()) else x
def noteS (i : Nat) (x : T_Side.D) : List T_Note.D := bif losesB x then [(5, (0, 0, 0, 0, 0, 0, false, ()), 0, (i : Int), (0, 0, 0, 0, 0, 0, 0, 0, 0, 0, 0, false, false, ()), ())] else []
def pairN (p : T_Piece.D) : Int := if p.2.2.2.2.2.2.2.2.2.1 < p.2.2.2.2.2.2.2.2.1 then p.2.2.2.2.2.2.2.2.2.1 else p.2.2.2.2.2.2.2.2.1
def pairUpB (p : T_Piece.D) : Bool := (p.2.2.2.1 == 2) && decide (pairN p > 0)
def pieceR (c : Int) (p : T_Piece.D) : T_Piece.D :=
  bif doomedB p then (p.1, p.2.1, p.2.1, 3, c, p.2.2.2.2.2.1, p.2.2.2.2.2.2.1, p.2.2.2.2.2.2.2.1, 0, 0, 0, false, false, ())
  else bif pairUpB p then (p.1, p.2.1, p.2.2.1, p.2.2.2.1, p.2.2.2.2.1, p.2.2.2.2.2.1, p.2.2.2.2.2.2.1, p.2.2.2.2.2.2.2.1, IntKind.wrap .i64 (p.2.2.2.2.2.2.2.2.1 - pairN p), IntKind.wrap .i64 (p.2.2.2.2.2.2.2.2.2.1 - pairN p), p.2.2.2.2.2.2.2.2.2.2)
  else p
def noteP (_ : Nat) (p : T_Piece.D) : List T_Note.D :=
  bif doomedB p then [(6, (0, 0, 0, 0, 0, 0, false, ()), 0, 0, p, ())] else bif pairUpB p then [(7, (0, 0, 0, 0, 0, 0, false, ()), pairN p, 0, p, ())] else []
theorem noteS_len (i : Nat) (x : T_Side.D) : (noteS i x).length ≤ 1 := by unfold noteS; cases losesB x <;> simp
theorem noteP_len (i : Nat) (x : T_Piece.D) : (noteP i x).length ≤ 1 := by unfold noteP; cases doomedB x <;> cases pairUpB x <;> simp
abbrev RS := (List T_Note.D) × (Int × ((List T_Piece.D) × ((List T_Side.D) × (Int × (Int × Unit)))))
def upV (a b : Int) : Int := if (if b < a then b else a) > 0 then (if b < a then b else a) else 0
theorem spec_Upto_eq' (a b : Int) : ∃ m, spec_Upto a b = some m ∧ (if (if b < a then b else a) > 0 then m = (if b < a then b else a) else ¬ m > 0) := by
  unfold spec_Upto
  simp only [cond_eq_ite, decide_eq_true_eq]
  split <;> simp only [Option.bind_some] <;> split <;> refine ⟨_, rfl, ?_⟩ <;> split <;> omega
theorem side_loop (s : T_State.D) (hs : s.2.1.length ≤ 1048576) : while_ (impl_Round_l1 s) ([], 0, s) = some (collect noteS 0 s.2.1, (s.2.1.length : Int), (s.1, s.2.1.map sideR, s.2.2)) := by
  have := map_loop s.2.1 sideR noteS (fun ns ys i => (ns, i, (s.1, ys, s.2.2))) (fun t => t) (body := impl_Round_l1 s) [] noteS_len hs (fun ns ys i x hn hi hl hx hy => ?_) (fun ns ys => ?_)
  · simpa using this
  · have hlt := (List.getElem?_eq_some_iff.1 hx).1
    have hil : ((i : Int) < (s.2.1.length : Int)) := by omega
    unfold impl_Round_l1 sideR noteS losesB
    simp only [hil, decide_true, cond_true, idx_at hx, Int.toNat_natCast, idx_at hy, hy, Option.bind_some]
    rw [if_pos (by simp only [room, List.length_cons, List.length_nil] at *; omega)]
    have := set_self hy
    cases x.2.2.1 <;> cases decide (x.1 ≤ 0) <;> cases decide (x.2.1 ≥ 10) <;> simp [this]
  · unfold impl_Round_l1; simp
theorem side_loop' (s : T_State.D) (hs : s.2.1.length ≤ 1048576) : while_ (spec_Round_l1 s) ([], 0, s) = some (collect noteS 0 s.2.1, (s.2.1.length : Int), (s.1, s.2.1.map sideR, s.2.2)) := by
  have := map_loop s.2.1 sideR noteS (fun ns ys i => (ns, i, (s.1, ys, s.2.2))) (fun t => t) (body := spec_Round_l1 s) [] noteS_len hs (fun ns ys i x hn hi hl hx hy => ?_) (fun ns ys => ?_)
  · simpa using this
  · have hlt := (List.getElem?_eq_some_iff.1 hx).1
    have hil : ((i : Int) < (s.2.1.length : Int)) := by omega
    unfold spec_Round_l1 sideR noteS losesB
    simp only [hil, decide_true, cond_true, idx_at hx, Int.toNat_natCast, idx_at hy, hy, Option.bind_some]
    rw [if_pos (by simp only [room, List.length_cons, List.length_nil] at *; omega)]
    have := set_self hy
    cases x.2.2.1 <;> cases decide (x.1 ≤ 0) <;> cases decide (x.2.1 ≥ 10) <;> simp [this]
  · unfold spec_Round_l1; simp
theorem piece_loop (s : T_State.D) (n0 : List T_Note.D) (t : (List T_Side.D) × (Int × (Int × Unit))) (hn0 : n0.length ≤ 1048576) (hp : s.1.length ≤ 1048576) :
    while_ (impl_Round_l2 s) (n0, 0, (s.1, t)) = some (n0 ++ collect noteP 0 s.1, (s.1.length : Int), (s.1.map (pieceR s.2.2.2.1), t)) := by
  refine map_loop s.1 (pieceR s.2.2.2.1) noteP (fun ns ys i => (ns, i, (ys, t))) (fun t => t) (body := impl_Round_l2 s) n0 noteP_len hp (fun ns ys i x hn hi hl hx hy => ?_) (fun ns ys => ?_)
  · have hlt := (List.getElem?_eq_some_iff.1 hx).1
    have hil : ((i : Int) < (s.1.length : Int)) := by omega
    have hly : i < ys.length := by omega
    have hm : ∀ a b, impl_Moved x a b = some (x.1, x.2.1, x.2.1, a, b, x.2.2.2.2.2.1, x.2.2.2.2.2.2.1, x.2.2.2.2.2.2.2.1, 0, 0, 0, false, false, ()) := fun a b => rfl
    have hself := set_self hy
    unfold impl_Round_l2 pieceR noteP
    simp only [hil, decide_true, cond_true, idx_at hx, impl_Doomed_eq, Option.bind_some, Int.toNat_natCast, idx_at hy, hy, hm, idx_set hly, get_set hly, List.set_set]
    cases doomedB x
    · simp only [cond_false]
      change ((bif x.2.2.2.1 == 2 then some (decide (pairN x > 0)) else some false).bind fun o17 => _) = _
      unfold pairUpB
      cases (x.2.2.2.1 == 2) <;> cases decide (pairN x > 0) <;> simp only [cond_true, cond_false, Option.bind_some, Bool.and_true, Bool.and_false, Bool.true_and, Bool.false_and, hself, List.append_nil]
      rw [if_pos (by simp only [room, List.length_cons, List.length_nil] at *; omega)]
      rfl
    · simp only [cond_true]
      rw [if_pos (by simp only [room, List.length_cons, List.length_nil] at *; omega)]
  · unfold impl_Round_l2; simp
theorem piece_loop' (s : T_State.D) (n0 : List T_Note.D) (t : (List T_Side.D) × (Int × (Int × Unit))) (hn0 : n0.length ≤ 1048576) (hp : s.1.length ≤ 1048576) :
    while_ (spec_Round_l2 s) (n0, 0, (s.1, t)) = some (n0 ++ collect noteP 0 s.1, (s.1.length : Int), (s.1.map (pieceR s.2.2.2.1), t)) := by
  refine map_loop s.1 (pieceR s.2.2.2.1) noteP (fun ns ys i => (ns, i, (ys, t))) (fun t => t) (body := spec_Round_l2 s) n0 noteP_len hp (fun ns ys i x hn hi hl hx hy => ?_) (fun ns ys => ?_)
  · have hlt := (List.getElem?_eq_some_iff.1 hx).1
    have hil : ((i : Int) < (s.1.length : Int)) := by omega
    have hly : i < ys.length := by omega
    have hm : ∀ a b, spec_Moved x a b = some (x.1, x.2.1, x.2.1, a, b, x.2.2.2.2.2.1, x.2.2.2.2.2.2.1, x.2.2.2.2.2.2.2.1, 0, 0, 0, false, false, ()) := fun a b => rfl
    have hself := set_self hy
    obtain ⟨m, hm1, hm2⟩ := spec_Upto_eq' x.2.2.2.2.2.2.2.2.1 x.2.2.2.2.2.2.2.2.2.1
    change (if pairN x > 0 then m = pairN x else ¬ m > 0) at hm2
    unfold spec_Round_l2 pieceR noteP
    simp only [hil, decide_true, cond_true, idx_at hx, spec_Doomed_eq, Option.bind_some, Int.toNat_natCast, idx_at hy, hy, hm, hm1, idx_set hly, get_set hly, List.set_set]
    cases doomedB x
    · simp only [cond_false]
      unfold pairUpB
      by_cases hpos : pairN x > 0
      · rw [if_pos hpos] at hm2
        subst hm2
        rw [decide_eq_true hpos]
        cases (x.2.2.2.1 == 2) <;> simp only [cond_true, cond_false, Option.bind_some, Bool.and_true, Bool.and_false, Bool.true_and, Bool.false_and, hself, List.append_nil]
        rw [if_pos (by simp only [room, List.length_cons, List.length_nil] at *; omega)]
        rfl
      · rw [if_neg hpos] at hm2
        rw [decide_eq_false hpos, decide_eq_false hm2]
        cases (x.2.2.2.1 == 2) <;> simp only [cond_true, cond_false, Option.bind_some, Bool.and_true, Bool.and_false, Bool.true_and, Bool.false_and, hself, List.append_nil]
    · simp only [cond_true]
      rw [if_pos (by simp only [room, List.length_cons, List.length_nil] at *; omega)]
      rfl
  · unfold spec_Round_l2; simp
def roundV (s : T_State.D) : T_State.D × ((List T_Note.D) × Unit) :=
  if stateOkB s then ((s.1.map (pieceR s.2.2.2.1), s.2.1.map sideR, s.2.2), collect noteS 0 s.2.1 ++ collect noteP 0 s.1, ()) else (s, [], ())
theorem impl_Round_eq (s : T_State.D) (hp : s.1.length ≤ 1048576) (hs : s.2.1.length ≤ 1048576) : impl_Round s = some (roundV s) := by
  unfold impl_Round roundV
  simp only [impl_copy_eq s hp hs, impl_StateOk_eq s hp hs, Option.bind_some]
  cases stateOkB s
  · rfl
  · simp only [Bool.not_true, cond_false, if_true, side_loop s hs, Option.bind_some]
    rw [piece_loop s _ _ (by have := collect_len noteS noteS_len s.2.1 0; omega) hp]
    rfl
theorem spec_Round_eq (s : T_State.D) (hp : s.1.length ≤ 1048576) (hs : s.2.1.length ≤ 1048576) : spec_Round s = some (roundV s) := by
  unfold spec_Round roundV
  simp only [spec_copy_eq s hp hs, spec_StateOk_eq s hp hs, Option.bind_some]
  cases stateOkB s
  · rfl
  · simp only [Bool.not_true, cond_false, if_true, side_loop' s hs, Option.bind_some]
    rw [piece_loop' s _ _ (by have := collect_len noteS noteS_len s.2.1 0; omega) hp]
    rfl
theorem round_size (s : T_State.D) : sameSize (roundV s).1 s := by
  unfold roundV sameSize
  split <;> simp
theorem round_notes (s : T_State.D) : (roundV s).2.1.length ≤ s.1.length + s.2.1.length := by
  unfold roundV
  split
  · have h1 := collect_len noteS noteS_len s.2.1 0
    have h2 := collect_len noteP noteP_len s.1 0
    simp only [List.length_append]
    omega
  · simp
theorem round_eq (s : T_State.D) (hp : s.1.length ≤ 1048576) (hs : s.2.1.length ≤ 1048576) : ∃ r, spec_Round s = some r ∧ impl_Round s = some r ∧ sameSize r.1 s ∧ r.2.1.length ≤ s.1.length + s.2.1.length :=
  ⟨_, spec_Round_eq s hp hs, impl_Round_eq s hp hs, round_size s, round_notes s⟩
theorem quiet_eq (s : T_State.D) (hp : s.1.length ≤ 1048576) (hs : s.2.1.length ≤ 1048576) : ∃ r, spec_Quiet s = some r ∧ impl_Quiet s = some r := by
  unfold spec_Quiet impl_Quiet
  simp only [spec_Round_eq s hp hs, impl_Round_eq s hp hs, Option.bind_some]
  exact ⟨_, rfl, rfl⟩

theorem law_Round (s : T_State.D) (ws0 : s.1.length ≤ maxLen) (ws1 : s.2.1.length ≤ maxLen) : laws_FnExactRound s = some true := by
  unfold laws_FnExactRound
  rw [laws_szState_eq s _ (by omega) (by omega) ws0 ws1, Option.bind_some]
  by_cases gs : (s.1.length : Int) + s.2.1.length ≤ 1048576
  · rw [if_pos gs]
    simp (disch := omega) only [dec_neg, cond_false]
    obtain ⟨r, e1, e2, ⟨hr1, hr2⟩, hr3⟩ := round_eq s (by omega) (by omega)
    simp (disch := omega) only [laws_toState_eq s (by omega) (by omega), laws_eqState_eq s s (by omega) (by omega), eqD_refl (t := T_State) rfl, laws_eqState_eq r.1 r.1 (by omega) (by omega), laws_eqNoteS_eq r.2.1 r.2.1 (by omega), eqD_refl (t := (.slice T_Note)) rfl, laws_markState_eq s, laws_markState_eq r.1, laws_heldState_eq r.1 (1), laws_heldState_eq' r.1 (1), laws_markNoteS_eq r.2.1, laws_heldNoteS_eq (1 + (13 : Nat) * (r.1.1.length : Int) + (3 : Nat) * (r.1.2.1.length : Int)) r.2.1.length, e1, e2, Option.bind_some, bne_self_eq_false, Bool.not_true, cond_false, cond_true, dec_neg]
  · rw [if_neg gs]; rfl

theorem law_Quiet (s : T_State.D) (ws0 : s.1.length ≤ maxLen) (ws1 : s.2.1.length ≤ maxLen) : laws_FnExactQuiet s = some true := by
  unfold laws_FnExactQuiet
  rw [laws_szState_eq s _ (by omega) (by omega) ws0 ws1, Option.bind_some]
  by_cases gs : (s.1.length : Int) + s.2.1.length ≤ 1048576
  · rw [if_pos gs]
    simp (disch := omega) only [dec_neg, cond_false]
    obtain ⟨r, e1, e2⟩ := quiet_eq s (by omega) (by omega)
    simp (disch := omega) only [laws_toState_eq s (by omega) (by omega), laws_eqState_eq s s (by omega) (by omega), eqD_refl (t := T_State) rfl, e1, e2, Option.bind_some, bne_self_eq_false, Bool.not_true, cond_false, cond_true, dec_neg]
  · rw [if_neg gs]; rfl

/-! ### Settle: each round with a note lowers a weight -/
def wS (x : T_Side.D) : Nat := bif x.2.2.1 then 0 else 1
def wP (p : T_Piece.D) : Nat := bif p.2.2.2.1 == 2 then (if pairN p > 0 then 2 else 1) else 0
def weight (s : T_State.D) : Nat := (s.2.1.map wS).sum + (s.1.map wP).sum
theorem wS_step (i : Nat) (x : T_Side.D) : (noteS i x).length + wS (sideR x) ≤ wS x := by
  unfold noteS sideR
  cases h : losesB x
  · simp
  · have : x.2.2.1 = false := by unfold losesB at h; cases hx : x.2.2.1 <;> simp [hx] at h ⊢
    simp [wS, this]
theorem pair_zero (a b : Int) : (if IntKind.wrap .i64 (b - (if b < a then b else a)) < IntKind.wrap .i64 (a - (if b < a then b else a)) then IntKind.wrap .i64 (b - (if b < a then b else a)) else IntKind.wrap .i64 (a - (if b < a then b else a))) ≤ 0 := by
  have h0 : IntKind.wrap .i64 0 = 0 := by decide
  by_cases h : b < a
  · rw [if_pos h, Int.sub_self, h0]; split <;> omega
  · rw [if_neg h, Int.sub_self, h0]; split <;> omega
theorem wP_step (c : Int) (i : Nat) (p : T_Piece.D) : (noteP i p).length + wP (pieceR c p) ≤ wP p := by
  unfold noteP pieceR
  cases h : doomedB p
  · cases h2 : pairUpB p
    · simp
    · unfold pairUpB at h2
      rw [Bool.and_eq_true, decide_eq_true_eq] at h2
      have e1 : wP p = 2 := by unfold wP; rw [h2.1]; simp only [cond_true]; rw [if_pos h2.2]
      rw [e1]
      simp only [cond_true, cond_false, List.length_cons, List.length_nil]
      have := pair_zero p.2.2.2.2.2.2.2.2.1 p.2.2.2.2.2.2.2.2.2.1
      unfold wP
      simp only [h2.1, cond_true]
      rw [if_neg]
      · omega
      · unfold pairN; simp only; unfold pairN at *; omega
  · have hz := doomed_zone p h
    simp only [cond_true, List.length_cons, List.length_nil]
    unfold wP
    rw [hz]
    simp only [cond_true]
    have : ((3 : Int) == 2) = false := rfl
    simp only [this, cond_false]
    split <;> omega
theorem collect_weight {α β : Type} (g : Nat → α → List β) (f : α → α) (w : α → Nat) (h : ∀ i x, (g i x).length + w (f x) ≤ w x) : ∀ (xs : List α) (i : Nat), (collect g i xs).length + ((xs.map f).map w).sum ≤ (xs.map w).sum
  | [], _ => by simp [collect]
  | x :: xs, i => by
    have h1 := collect_weight g f w h xs (i + 1)
    have h2 := h i x
    simp only [collect, List.length_append, List.map_cons, List.sum_cons]
    omega
theorem round_weight (s : T_State.D) : (roundV s).2.1.length + weight (roundV s).1 ≤ weight s := by
  unfold roundV
  split
  · have h1 := collect_weight noteS sideR wS wS_step s.2.1 0
    have h2 := collect_weight noteP (pieceR s.2.2.2.1) wP (wP_step _) s.1 0
    simp only [weight, List.length_append]
    omega
  · simp
theorem sum_le {α : Type} (w : α → Nat) (k : Nat) (h : ∀ x, w x ≤ k) : ∀ (xs : List α), (xs.map w).sum ≤ k * xs.length
  | [] => by simp
  | x :: xs => by have h1 := sum_le w k h xs; have h2 := h x; simp only [List.map_cons, List.sum_cons, List.length_cons, Nat.mul_add]; omega
theorem weight_le (s : T_State.D) : weight s ≤ s.2.1.length + 2 * s.1.length := by
  have h1 := sum_le wS 1 (fun x => by unfold wS; cases x.2.2.1 <;> simp) s.2.1
  have h2 := sum_le wP 2 (fun p => by unfold wP; cases p.2.2.2.1 == 2 <;> simp only [cond_true, cond_false] <;> (try split) <;> omega) s.1
  unfold weight
  omega
theorem stateOk_small {s : T_State.D} (h : stateOkB s = true) : s.1.length ≤ 8 ∧ s.2.1.length ≤ 3 := by
  unfold stateOkB at h
  simp only [Bool.and_eq_true] at h
  have h1 := of_decide_eq_true h.1.1.1.1.1
  have h2 := of_decide_eq_true h.1.1.1.1.2.2
  exact ⟨by omega, by omega⟩
theorem settle_loop (s : T_State.D) (hp : s.1.length ≤ 1048576) (hs : s.2.1.length ≤ 1048576) (u : T_State.D) :
    ∃ r, while_ impl_Settle_l1 ([], 0, u, s) = some r ∧ sameSize r.2.2 s ∧ r.1.length ≤ 1048576 := by
  cases hok : stateOkB s with
  | false =>
    refine ⟨([], 0, s), while_done ?_, ⟨rfl, rfl⟩, by simp⟩
    unfold impl_Settle_l1
    simp only [impl_Round_eq s hp hs, Option.bind_some]
    have : (roundV s).2.1 = [] := by unfold roundV; rw [hok]; rfl
    rw [this]; rfl
  | true =>
    obtain ⟨l1, l2⟩ := stateOk_small hok
    have hw := weight_le s
    obtain ⟨r, h1, h2⟩ := while_inv (body := impl_Settle_l1) (fun t => weight t.2.2.2) (fun t => sameSize t.2.2.2 s ∧ t.1.length + weight t.2.2.2 ≤ weight s) (fun r => sameSize r.2.2 s ∧ r.1.length ≤ 1048576) (by
      rintro ⟨all, n, u, t⟩ ⟨⟨z1, z2⟩, z3⟩
      simp only at z1 z2 z3
      have hr := round_weight t
      have hz := round_size t
      unfold impl_Settle_l1
      simp only [impl_Round_eq t (by omega) (by omega), Option.bind_some]
      by_cases hn : (roundV t).2.1.length = 0
      · right
        have : (((roundV t).2.1.length : Int) == 0) = true := by rw [hn]; rfl
        rw [this]
        exact ⟨_, rfl, ⟨z1, z2⟩, by simp only; omega⟩
      · left
        have : (((roundV t).2.1.length : Int) == 0) = false := by rw [beq_eq_false_iff_ne]; omega
        rw [this]
        simp only [cond_false]
        rw [if_pos (by simp only [room]; omega)]
        refine ⟨_, rfl, ⟨⟨hz.1.trans z1, hz.2.trans z2⟩, ?_⟩, ?_⟩
        · simp only [List.length_append]; omega
        · simp only; omega) ([], 0, u, s) ⟨⟨rfl, rfl⟩, by simp⟩
    exact ⟨r, h1, h2⟩
theorem settle_body (t : _) (hp : t.2.2.2.1.length ≤ 1048576) (hs : t.2.2.2.2.1.length ≤ 1048576) : spec_Settle_l1 t = impl_Settle_l1 t := by
  unfold spec_Settle_l1 impl_Settle_l1
  rw [spec_Round_eq _ hp hs, impl_Round_eq _ hp hs]
theorem while_same {S R : Type} {b1 b2 : S → Option (S ⊕ R)} (I : S → Prop) (h : ∀ s, I s → b1 s = b2 s) (hk : ∀ s s', I s → b2 s = some (.inl s') → I s') {s : S} {r : R} (hI : I s) (hr : while_ b2 s = some r) : while_ b1 s = some r := by
  obtain ⟨n, hn⟩ := while_iter hr
  refine while_of_iter (n := n) ?_
  clear hr
  induction n generalizing s with
  | zero => simp [while_.iter] at hn
  | succ n ih =>
    simp only [while_.iter] at hn ⊢
    rw [h s hI]
    cases hb : b2 s with
    | none => rw [hb] at hn; cases hn
    | some x =>
      rw [hb, Option.bind_some] at hn
      rw [Option.bind_some]
      cases x with
      | inl s' => exact ih (hk s s' hI hb) hn
      | inr q => exact hn
theorem settle_eq (s : T_State.D) (hp : s.1.length ≤ 1048576) (hs : s.2.1.length ≤ 1048576) : ∃ r, spec_Settle s = some r ∧ impl_Settle s = some r ∧ sameSize r.1 s ∧ r.2.1.length ≤ 1048576 := by
  obtain ⟨r, h1, h2, h3⟩ := settle_loop s hp hs ([], [], 0, 0, ())
  have h4 : while_ spec_Settle_l1 ([], 0, ([], [], 0, 0, ()), s) = some r := by
    refine while_same (b2 := impl_Settle_l1) (fun t => t.2.2.2.1.length ≤ 1048576 ∧ t.2.2.2.2.1.length ≤ 1048576) (fun t h => settle_body t h.1 h.2) ?_ ⟨hp, hs⟩ h1
    rintro ⟨all, n, u, t⟩ t' ⟨g1, g2⟩ hb
    simp only at g1 g2
    have hz := round_size t
    unfold impl_Settle_l1 at hb
    simp only [impl_Round_eq t g1 g2, Option.bind_some] at hb
    cases hc : (((roundV t).2.1.length : Int) == 0) with
    | true => rw [hc] at hb; simp at hb
    | false =>
      rw [hc] at hb
      simp only [cond_false] at hb
      split at hb
      · simp only [Option.some.injEq, Sum.inl.injEq] at hb
        subst hb
        exact ⟨by simp only; rw [hz.1]; exact g1, by simp only; rw [hz.2]; exact g2⟩
      · cases hb
  refine ⟨(r.2.2, r.1, r.2.1, ()), ?_, ?_, h2, h3⟩
  · unfold spec_Settle
    simp only [spec_copy_eq s hp hs, Option.bind_some, h4]
  · unfold impl_Settle
    simp only [impl_copy_eq s hp hs, Option.bind_some, h1]

theorem law_Settle (s : T_State.D) (ws0 : s.1.length ≤ maxLen) (ws1 : s.2.1.length ≤ maxLen) : laws_FnExactSettle s = some true := by
  unfold laws_FnExactSettle
  rw [laws_szState_eq s _ (by omega) (by omega) ws0 ws1, Option.bind_some]
  by_cases gs : (s.1.length : Int) + s.2.1.length ≤ 1048576
  · rw [if_pos gs]
    simp (disch := omega) only [dec_neg, cond_false]
    obtain ⟨r, e1, e2, ⟨hr1, hr2⟩, hr3⟩ := settle_eq s (by omega) (by omega)
    simp (disch := omega) only [laws_toState_eq s (by omega) (by omega), laws_eqState_eq s s (by omega) (by omega), eqD_refl (t := T_State) rfl, laws_eqState_eq r.1 r.1 (by omega) (by omega), laws_eqNoteS_eq r.2.1 r.2.1 (by omega), eqD_refl (t := (.slice T_Note)) rfl, laws_markState_eq s, laws_markState_eq r.1, laws_heldState_eq r.1 (1), laws_heldState_eq' r.1 (1), laws_markNoteS_eq r.2.1, laws_heldNoteS_eq (1 + (13 : Nat) * (r.1.1.length : Int) + (3 : Nat) * (r.1.2.1.length : Int)) r.2.1.length, e1, e2, Option.bind_some, bne_self_eq_false, Bool.not_true, cond_false, cond_true, dec_neg]
  · rw [if_neg gs]; rfl

end Go.Abs
