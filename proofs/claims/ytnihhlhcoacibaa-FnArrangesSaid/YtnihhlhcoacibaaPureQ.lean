import Derived.Test.YtnihhlhcoacibaaGenQ
import Derived.Test.YtnihhlhcoacibaaAbsDraw
set_option linter.unusedVariables false
set_option linter.unusedSimpArgs false
namespace Go.Abs

theorem laws_szPieceS_eq (a : List T_Piece.D) (l : Int) (h0 : 0 ≤ l) (h1 : l ≤ 1048576) (hn : a.length ≤ maxLen) : laws_szPieceS a l = some (if (a.length : Int) ≤ l then l - a.length else -1) := by
  unfold laws_szPieceS; exact sz_list h0 h1 (by simpa [maxLen] using hn)
theorem laws_toPiece_eq (a : T_Piece.D) : laws_toPiece a = some a := by
  first | rfl | (unfold laws_toPiece; simp only [laws_toPiece_eq, Option.bind_some]; rfl)
theorem laws_toPieceS_eq (a : List T_Piece.D) (h : a.length ≤ 1048576) : laws_toPieceS a = some a := by
  unfold laws_toPieceS
  rw [if_pos (by omega), if_pos (by simp only [room]; omega), Int.toNat_natCast, copy_loop a _ (body := laws_toPieceS_l1 a) laws_toPiece (fun x _ => laws_toPiece_eq x) (by omega) (fun _ => rfl)]
  rfl
theorem laws_eqPiece_eq (a b : T_Piece.D) : laws_eqPiece a b = some (eqD T_Piece a b) := by
  unfold laws_eqPiece
  first | (simp only [bneIf]; rfl) | (simp only [laws_eqPiece_eq, Option.bind_some, bneIf, notIf]; rfl)
theorem laws_eqPieceS_eq (a b : List T_Piece.D) (h : a.length ≤ 1048576) : laws_eqPieceS a b = some (eqD (.slice T_Piece) a b) := by
  unfold laws_eqPieceS
  exact eq_lists (t := T_Piece) rfl a b (e := eqD T_Piece) (fun _ _ => rfl) (by omega) (fun i => by unfold laws_eqPieceS_l1; simp only [laws_eqPiece_eq, Option.bind_some])

theorem laws_szSideS_eq (a : List T_Side.D) (l : Int) (h0 : 0 ≤ l) (h1 : l ≤ 1048576) (hn : a.length ≤ maxLen) : laws_szSideS a l = some (if (a.length : Int) ≤ l then l - a.length else -1) := by
  unfold laws_szSideS; exact sz_list h0 h1 (by simpa [maxLen] using hn)
theorem laws_toSide_eq (a : T_Side.D) : laws_toSide a = some a := by
  first | rfl | (unfold laws_toSide; simp only [laws_toPiece_eq, Option.bind_some]; rfl)
theorem laws_toSideS_eq (a : List T_Side.D) (h : a.length ≤ 1048576) : laws_toSideS a = some a := by
  unfold laws_toSideS
  rw [if_pos (by omega), if_pos (by simp only [room]; omega), Int.toNat_natCast, copy_loop a _ (body := laws_toSideS_l1 a) laws_toSide (fun x _ => laws_toSide_eq x) (by omega) (fun _ => rfl)]
  rfl
theorem laws_eqSide_eq (a b : T_Side.D) : laws_eqSide a b = some (eqD T_Side a b) := by
  unfold laws_eqSide
  first | (simp only [bneIf]; rfl) | (simp only [laws_eqPiece_eq, Option.bind_some, bneIf, notIf]; rfl)
theorem laws_eqSideS_eq (a b : List T_Side.D) (h : a.length ≤ 1048576) : laws_eqSideS a b = some (eqD (.slice T_Side) a b) := by
  unfold laws_eqSideS
  exact eq_lists (t := T_Side) rfl a b (e := eqD T_Side) (fun _ _ => rfl) (by omega) (fun i => by unfold laws_eqSideS_l1; simp only [laws_eqSide_eq, Option.bind_some])

theorem laws_toIntS_eq (a : List Int) (h : a.length ≤ 1048576) : laws_toIntS a = some a := by
  unfold laws_toIntS
  rw [if_pos (by omega), if_pos (by simp only [room]; omega), Int.toNat_natCast, copy_loop a _ (body := laws_toIntS_l1 a) some (fun x _ => rfl) (by omega) (fun _ => rfl)]
  rfl
theorem laws_eqIntS_eq (a b : List Int) (h : a.length ≤ 1048576) : laws_eqIntS a b = some (eqD (.slice (.int .i64)) a b) := by
  unfold laws_eqIntS
  exact eq_lists (t := .int .i64) rfl a b (e := fun (x y : Int) => x == y) (fun _ _ => rfl) (by omega) (fun i => rfl)

theorem laws_szTriggerS_eq (a : List T_Trigger.D) (l : Int) (h0 : 0 ≤ l) (h1 : l ≤ 1048576) (hn : a.length ≤ maxLen) : laws_szTriggerS a l = some (if (a.length : Int) ≤ l then l - a.length else -1) := by
  unfold laws_szTriggerS; exact sz_list h0 h1 (by simpa [maxLen] using hn)
theorem laws_toTrigger_eq (a : T_Trigger.D) : laws_toTrigger a = some a := by
  first | rfl | (unfold laws_toTrigger; simp only [laws_toPiece_eq, Option.bind_some]; rfl)
theorem laws_toTriggerS_eq (a : List T_Trigger.D) (h : a.length ≤ 1048576) : laws_toTriggerS a = some a := by
  unfold laws_toTriggerS
  rw [if_pos (by omega), if_pos (by simp only [room]; omega), Int.toNat_natCast, copy_loop a _ (body := laws_toTriggerS_l1 a) laws_toTrigger (fun x _ => laws_toTrigger_eq x) (by omega) (fun _ => rfl)]
  rfl
theorem laws_eqTrigger_eq (a b : T_Trigger.D) : laws_eqTrigger a b = some (eqD T_Trigger a b) := by
  unfold laws_eqTrigger
  first | (simp only [bneIf]; rfl) | (simp only [laws_eqPiece_eq, Option.bind_some, bneIf, notIf]; rfl)
theorem laws_eqTriggerS_eq (a b : List T_Trigger.D) (h : a.length ≤ 1048576) : laws_eqTriggerS a b = some (eqD (.slice T_Trigger) a b) := by
  unfold laws_eqTriggerS
  exact eq_lists (t := T_Trigger) rfl a b (e := eqD T_Trigger) (fun _ _ => rfl) (by omega) (fun i => by unfold laws_eqTriggerS_l1; simp only [laws_eqTrigger_eq, Option.bind_some])

theorem laws_szState_eq (s : T_State.D) (l : Int) (h0 : 0 ≤ l) (h1 : l ≤ 1048576) (hp : s.1.length ≤ maxLen) (hs : s.2.1.length ≤ maxLen) : laws_szState s l = some (if (s.1.length : Int) + s.2.1.length ≤ l then l - s.1.length - s.2.1.length else -1) := by
  unfold laws_szState
  rw [laws_szPieceS_eq _ _ h0 h1 hp, Option.bind_some]
  by_cases g1 : (s.1.length : Int) ≤ l
  · rw [if_pos g1]
    have n1 : ¬ (l - (s.1.length : Int) < 0) := by omega
    simp only [n1, decide_false, cond_false]
    rw [laws_szSideS_eq _ _ (by omega) (by omega) hs, Option.bind_some]
    by_cases g2 : (s.2.1.length : Int) ≤ l - s.1.length
    · have n2 : ¬ (l - (s.1.length : Int) - s.2.1.length < 0) := by omega
      rw [if_pos g2, if_pos (by omega)]
      simp only [n2, decide_false, cond_false]
    · rw [if_neg g2, if_neg (by omega)]; rfl
  · rw [if_neg g1, if_neg (by omega)]; rfl
theorem laws_toState_eq (s : T_State.D) (hp : s.1.length ≤ 1048576) (hs : s.2.1.length ≤ 1048576) : laws_toState s = some s := by
  unfold laws_toState
  simp only [laws_toPieceS_eq _ hp, laws_toSideS_eq _ hs, Option.bind_some]
theorem laws_eqState_eq (a b : T_State.D) (hp : a.1.length ≤ 1048576) (hs : a.2.1.length ≤ 1048576) : laws_eqState a b = some (eqD T_State a b) := by
  unfold laws_eqState
  simp only [laws_eqPieceS_eq _ _ hp, laws_eqSideS_eq _ _ hs, Option.bind_some, bneIf, notIf]
  rfl

def fillInt (k : Int) : Int := k
theorem laws_markIntS_step (ys : List Int) (k : Int) (i : Nat) (hlt : i < ys.length) (h0 : 0 ≤ k) (hk : k ≤ 4611686018427387904) (hi : (i : Int) ≤ 4611686018427387904) : laws_markIntS_l1 (ys, k, (i : Int)) = some (.inl (ys.set i (fillInt k), k + (1 : Nat), (i : Int) + 1)) := by
  obtain ⟨x, hx⟩ : ∃ x, ys[i]? = some x := ⟨_, List.getElem?_eq_getElem hlt⟩
  have hil : ((i : Int) < (ys.length : Int)) := by omega
  have hc : k + ((1 : Nat) : Int) = k + 1 := by omega
  unfold laws_markIntS_l1 fillInt
  simp (disch := omega) only [hil, decide_true, cond_true, Int.toNat_natCast, idx_at hx, hx, Option.bind_some, idx_set hlt, get_set hlt, List.set_set, wrap_id, hc]
  first | done | rfl
theorem laws_markIntS_eq (xs : List Int) (k : Int) (h0 : 0 ≤ k) (hk : k + (1 : Nat) * (xs.length : Int) ≤ 4611686018427387904) (hlen : (xs.length : Int) ≤ 4611686018427387904) : laws_markIntS xs k = some (k + (1 : Nat) * (xs.length : Int), (fillL fillInt (1 : Nat) k xs.length, ())) := by
  unfold laws_markIntS
  rw [mark_loop fillInt 1 laws_markIntS_step (fun ys k => by unfold laws_markIntS_l1; simp) xs k h0 hk hlen]
  rfl

def fillSide (k : Int) : T_Side.D := (k, k + 1, ((k + 1 + 1).tmod 3 == 0), ())
theorem laws_markSideS_step (ys : List T_Side.D) (k : Int) (i : Nat) (hlt : i < ys.length) (h0 : 0 ≤ k) (hk : k ≤ 4611686018427387904) (hi : (i : Int) ≤ 4611686018427387904) : laws_markSideS_l1 (ys, k, (i : Int)) = some (.inl (ys.set i (fillSide k), k + (3 : Nat), (i : Int) + 1)) := by
  obtain ⟨x, hx⟩ : ∃ x, ys[i]? = some x := ⟨_, List.getElem?_eq_getElem hlt⟩
  have hil : ((i : Int) < (ys.length : Int)) := by omega
  have hc : k + ((3 : Nat) : Int) = k + 1 + 1 + 1 := by omega
  unfold laws_markSideS_l1 fillSide
  simp (disch := omega) only [hil, decide_true, cond_true, Int.toNat_natCast, idx_at hx, hx, Option.bind_some, idx_set hlt, get_set hlt, List.set_set, wrap_id, hc]
  first | done | rfl
theorem laws_markSideS_eq (xs : List T_Side.D) (k : Int) (h0 : 0 ≤ k) (hk : k + (3 : Nat) * (xs.length : Int) ≤ 4611686018427387904) (hlen : (xs.length : Int) ≤ 4611686018427387904) : laws_markSideS xs k = some (k + (3 : Nat) * (xs.length : Int), (fillL fillSide (3 : Nat) k xs.length, ())) := by
  unfold laws_markSideS
  rw [mark_loop fillSide 3 laws_markSideS_step (fun ys k => by unfold laws_markSideS_l1; simp) xs k h0 hk hlen]
  rfl

def fillPiece (k : Int) : T_Piece.D := (k, k + 1, k + 1 + 1, k + 1 + 1 + 1, k + 1 + 1 + 1 + 1, k + 1 + 1 + 1 + 1 + 1, k + 1 + 1 + 1 + 1 + 1 + 1, k + 1 + 1 + 1 + 1 + 1 + 1 + 1, k + 1 + 1 + 1 + 1 + 1 + 1 + 1 + 1, k + 1 + 1 + 1 + 1 + 1 + 1 + 1 + 1 + 1, k + 1 + 1 + 1 + 1 + 1 + 1 + 1 + 1 + 1 + 1, ((k + 1 + 1 + 1 + 1 + 1 + 1 + 1 + 1 + 1 + 1 + 1).tmod 3 == 0), ((k + 1 + 1 + 1 + 1 + 1 + 1 + 1 + 1 + 1 + 1 + 1 + 1).tmod 3 == 0), ())
theorem laws_markPieceS_step (ys : List T_Piece.D) (k : Int) (i : Nat) (hlt : i < ys.length) (h0 : 0 ≤ k) (hk : k ≤ 4611686018427387904) (hi : (i : Int) ≤ 4611686018427387904) : laws_markPieceS_l1 (ys, k, (i : Int)) = some (.inl (ys.set i (fillPiece k), k + (13 : Nat), (i : Int) + 1)) := by
  obtain ⟨x, hx⟩ : ∃ x, ys[i]? = some x := ⟨_, List.getElem?_eq_getElem hlt⟩
  have hil : ((i : Int) < (ys.length : Int)) := by omega
  have hc : k + ((13 : Nat) : Int) = k + 1 + 1 + 1 + 1 + 1 + 1 + 1 + 1 + 1 + 1 + 1 + 1 + 1 := by omega
  unfold laws_markPieceS_l1 fillPiece
  simp (disch := omega) only [hil, decide_true, cond_true, Int.toNat_natCast, idx_at hx, hx, Option.bind_some, idx_set hlt, get_set hlt, List.set_set, wrap_id, hc]
  first | done | rfl
theorem laws_markPieceS_eq (xs : List T_Piece.D) (k : Int) (h0 : 0 ≤ k) (hk : k + (13 : Nat) * (xs.length : Int) ≤ 4611686018427387904) (hlen : (xs.length : Int) ≤ 4611686018427387904) : laws_markPieceS xs k = some (k + (13 : Nat) * (xs.length : Int), (fillL fillPiece (13 : Nat) k xs.length, ())) := by
  unfold laws_markPieceS
  rw [mark_loop fillPiece 13 laws_markPieceS_step (fun ys k => by unfold laws_markPieceS_l1; simp) xs k h0 hk hlen]
  rfl

def fillTrigger (k : Int) : T_Trigger.D := (k, k + 1, k + 1 + 1, (k + 1 + 1 + 1, k + 1 + 1 + 1 + 1, k + 1 + 1 + 1 + 1 + 1, k + 1 + 1 + 1 + 1 + 1 + 1, k + 1 + 1 + 1 + 1 + 1 + 1 + 1, k + 1 + 1 + 1 + 1 + 1 + 1 + 1 + 1, k + 1 + 1 + 1 + 1 + 1 + 1 + 1 + 1 + 1, k + 1 + 1 + 1 + 1 + 1 + 1 + 1 + 1 + 1 + 1, k + 1 + 1 + 1 + 1 + 1 + 1 + 1 + 1 + 1 + 1 + 1, k + 1 + 1 + 1 + 1 + 1 + 1 + 1 + 1 + 1 + 1 + 1 + 1, k + 1 + 1 + 1 + 1 + 1 + 1 + 1 + 1 + 1 + 1 + 1 + 1 + 1, ((k + 1 + 1 + 1 + 1 + 1 + 1 + 1 + 1 + 1 + 1 + 1 + 1 + 1 + 1).tmod 3 == 0), ((k + 1 + 1 + 1 + 1 + 1 + 1 + 1 + 1 + 1 + 1 + 1 + 1 + 1 + 1 + 1).tmod 3 == 0), ()), ())
theorem laws_markTriggerS_step (ys : List T_Trigger.D) (k : Int) (i : Nat) (hlt : i < ys.length) (h0 : 0 ≤ k) (hk : k ≤ 4611686018427387904) (hi : (i : Int) ≤ 4611686018427387904) : laws_markTriggerS_l1 (ys, k, (i : Int)) = some (.inl (ys.set i (fillTrigger k), k + (16 : Nat), (i : Int) + 1)) := by
  obtain ⟨x, hx⟩ : ∃ x, ys[i]? = some x := ⟨_, List.getElem?_eq_getElem hlt⟩
  have hil : ((i : Int) < (ys.length : Int)) := by omega
  have hc : k + ((16 : Nat) : Int) = k + 1 + 1 + 1 + 1 + 1 + 1 + 1 + 1 + 1 + 1 + 1 + 1 + 1 + 1 + 1 + 1 := by omega
  unfold laws_markTriggerS_l1 fillTrigger
  simp (disch := omega) only [hil, decide_true, cond_true, Int.toNat_natCast, idx_at hx, hx, Option.bind_some, idx_set hlt, get_set hlt, List.set_set, wrap_id, hc]
  first | done | rfl
theorem laws_markTriggerS_eq (xs : List T_Trigger.D) (k : Int) (h0 : 0 ≤ k) (hk : k + (16 : Nat) * (xs.length : Int) ≤ 4611686018427387904) (hlen : (xs.length : Int) ≤ 4611686018427387904) : laws_markTriggerS xs k = some (k + (16 : Nat) * (xs.length : Int), (fillL fillTrigger (16 : Nat) k xs.length, ())) := by
  unfold laws_markTriggerS
  rw [mark_loop fillTrigger 16 laws_markTriggerS_step (fun ys k => by unfold laws_markTriggerS_l1; simp) xs k h0 hk hlen]
  rfl

def markS (s : T_State.D) (k : Int) : T_State.D := (fillL fillPiece (13 : Nat) k s.1.length, fillL fillSide (3 : Nat) (k + (13 : Nat) * (s.1.length : Int)) s.2.1.length, s.2.2)
theorem laws_markState_eq (s : T_State.D) (k : Int) (h0 : 0 ≤ k) (h1 : k ≤ 4294967296) (hp : s.1.length ≤ 1048576) (hs : s.2.1.length ≤ 1048576) : laws_markState s k = some (k + (13 : Nat) * (s.1.length : Int) + (3 : Nat) * (s.2.1.length : Int), (markS s k, ())) := by
  unfold laws_markState
  rw [laws_markPieceS_eq _ k h0 (by omega) (by omega), Option.bind_some, laws_markSideS_eq _ _ (by omega) (by omega) (by omega)]
  rfl

theorem laws_heldIntS_eq (k0 : Int) (n : Nat) (h0 : 0 ≤ k0) (hk : k0 + (1 : Nat) * (n : Int) ≤ 4611686018427387904) (hlen : (n : Int) ≤ 4611686018427387904) : laws_heldIntS (fillL fillInt (1 : Nat) k0 n) k0 = some (k0 + (1 : Nat) * (n : Int)) := by
  unfold laws_heldIntS
  rw [held_loop fillInt 1 (fillL fillInt (1 : Nat) k0 n) k0 n rfl (body := laws_heldIntS_l1 (fillL fillInt (1 : Nat) k0 n)) ?_ ?_ h0 hk hlen]
  · rfl
  · intro k i hx h0 hk hi
    have hlt := (List.getElem?_eq_some_iff.1 hx).1
    have hil : ((i : Int) < ((fillL fillInt (1 : Nat) k0 n).length : Int)) := by omega
    have hc : k + ((1 : Nat) : Int) = k + 1 := by omega
    unfold laws_heldIntS_l1
    simp (disch := omega) only [hil, decide_true, cond_true, idx_at hx, fillInt, wrap_id, bne_self_eq_false, cond_false, hc]
    first | done | rfl
  · intro k
    unfold laws_heldIntS_l1
    simp

theorem laws_heldTriggerS_eq (k0 : Int) (n : Nat) (h0 : 0 ≤ k0) (hk : k0 + (16 : Nat) * (n : Int) ≤ 4611686018427387904) (hlen : (n : Int) ≤ 4611686018427387904) : laws_heldTriggerS (fillL fillTrigger (16 : Nat) k0 n) k0 = some (k0 + (16 : Nat) * (n : Int)) := by
  unfold laws_heldTriggerS
  rw [held_loop fillTrigger 16 (fillL fillTrigger (16 : Nat) k0 n) k0 n rfl (body := laws_heldTriggerS_l1 (fillL fillTrigger (16 : Nat) k0 n)) ?_ ?_ h0 hk hlen]
  · rfl
  · intro k i hx h0 hk hi
    have hlt := (List.getElem?_eq_some_iff.1 hx).1
    have hil : ((i : Int) < ((fillL fillTrigger (16 : Nat) k0 n).length : Int)) := by omega
    have hc : k + ((16 : Nat) : Int) = k + 1 + 1 + 1 + 1 + 1 + 1 + 1 + 1 + 1 + 1 + 1 + 1 + 1 + 1 + 1 + 1 := by omega
    unfold laws_heldTriggerS_l1
    simp (disch := omega) only [hil, decide_true, cond_true, idx_at hx, fillTrigger, wrap_id, bne_self_eq_false, cond_false, hc]
    first | done | rfl
  · intro k
    unfold laws_heldTriggerS_l1
    simp


theorem l1In_eq (a b c : Int) : spec_l1In a b c = some (decide (b ≤ a) && decide (a ≤ c)) := by
  unfold spec_l1In
  have : decide (a ≥ b) = decide (b ≤ a) := rfl
  simp only [this]
  cases decide (b ≤ a) <;> rfl
theorem from_eq (a b c : Int) : impl_from a b c = some (decide (b ≤ a) && decide (a ≤ c)) := by
  unfold impl_from
  have : decide (a ≥ b) = decide (b ≤ a) := rfl
  simp only [this]
  cases decide (b ≤ a) <;> rfl

/-! ### TurnOrder -/
def turnG (a n : Int) (i : Nat) (_ : T_Side.D) : List Int := [(IntKind.wrap .i64 (a + (i : Int))).tmod n]
theorem turnG_len (a n : Int) (i : Nat) (x : T_Side.D) : (turnG a n i x).length ≤ 1 := by simp [turnG]
def orderV (s : T_State.D) : List Int := if (decide (0 ≤ s.2.2.1) && decide (s.2.2.1 ≤ IntKind.wrap .i64 ((s.2.1.length : Int) - 1))) = true then collect (turnG s.2.2.1 s.2.1.length) 0 s.2.1 else []
theorem orderV_len (s : T_State.D) : (orderV s).length ≤ s.2.1.length := by
  unfold orderV
  split
  · exact collect_len _ (turnG_len _ _) _ _
  · simp
theorem spec_TurnOrder_eq (s : T_State.D) (h : s.2.1.length ≤ 1048576) : spec_TurnOrder s = some (orderV s) := by
  unfold orderV
  by_cases hin : (decide (0 ≤ s.2.2.1) && decide (s.2.2.1 ≤ IntKind.wrap .i64 ((s.2.1.length : Int) - 1))) = true
  · rw [if_pos hin]
    unfold spec_TurnOrder
    rw [append_loop s.2.1 (turnG s.2.2.1 s.2.1.length) (fun s => s) (turnG_len _ _) (by omega) (fun t i x hI hx => ?_) (fun t => ?_)]
    · rfl
    · have hlt := (List.getElem?_eq_some_iff.1 hx).1
      have hil : ((i : Int) < (s.2.1.length : Int)) := by omega
      unfold spec_TurnOrder_l1 turnG
      simp only [hil, decide_true, cond_true, l1In_eq, hin, Option.bind_some]
      rw [if_neg (by omega), if_pos (by simp only [room, List.length_cons, List.length_nil]; omega)]
    · unfold spec_TurnOrder_l1; simp
  · rw [if_neg hin]
    have hin : (decide (0 ≤ s.2.2.1) && decide (s.2.2.1 ≤ IntKind.wrap .i64 ((s.2.1.length : Int) - 1))) = false := by simpa using hin
    unfold spec_TurnOrder
    rw [while_done (r := ([], 0)) (by unfold spec_TurnOrder_l1; simp only [l1In_eq, hin, Option.bind_some]; cases decide ((0 : Int) < (s.2.1.length : Int)) <;> rfl)]
    rfl
theorem impl_TurnOrder_eq (s : T_State.D) (h : s.2.1.length ≤ 1048576) : impl_TurnOrder s = some (orderV s) := by
  unfold orderV
  by_cases hin : (decide (0 ≤ s.2.2.1) && decide (s.2.2.1 ≤ IntKind.wrap .i64 ((s.2.1.length : Int) - 1))) = true
  · rw [if_pos hin]
    unfold impl_TurnOrder impl_isSide
    simp only [from_eq, hin, Option.bind_some, Bool.not_true, cond_false]
    rw [append_loop s.2.1 (turnG s.2.2.1 s.2.1.length) (fun s => s) (turnG_len _ _) (by omega) (fun t i x hI hx => ?_) (fun t => ?_)]
    · rfl
    · have hlt := (List.getElem?_eq_some_iff.1 hx).1
      have hil : ((i : Int) < (s.2.1.length : Int)) := by omega
      unfold impl_TurnOrder_l1 turnG
      simp only [hil, decide_true, cond_true]
      rw [if_neg (by omega), if_pos (by simp only [room, List.length_cons, List.length_nil]; omega)]
    · unfold impl_TurnOrder_l1; simp
  · rw [if_neg hin]
    have hin : (decide (0 ≤ s.2.2.1) && decide (s.2.2.1 ≤ IntKind.wrap .i64 ((s.2.1.length : Int) - 1))) = false := by simpa using hin
    unfold impl_TurnOrder impl_isSide
    simp only [from_eq, hin, Option.bind_some, Bool.not_false, cond_true]
theorem tmod_two {m n : Int} (h0 : 0 ≤ m) (h1 : m < 2 * n) : m.tmod n = if m < n then m else m - n := by
  split
  · exact Int.tmod_eq_of_lt h0 (by assumption)
  · rename_i h
    rw [Int.tmod_eq_emod_of_nonneg h0, ← Int.sub_emod_right, Int.emod_eq_of_lt (by omega) (by omega)]
theorem turn_mem {a n : Int} : ∀ (xs : List T_Side.D) (i : Nat) (x : Int), x ∈ collect (turnG a n) i xs → ∃ j : Nat, i ≤ j ∧ j < i + xs.length ∧ x = (IntKind.wrap .i64 (a + (j : Int))).tmod n
  | [], i, x, h => by simp [collect] at h
  | y :: xs, i, x, h => by
    simp only [collect, turnG, List.mem_append, List.mem_singleton] at h
    rcases h with rfl | h
    · exact ⟨i, Nat.le_refl _, by simp, rfl⟩
    · obtain ⟨j, h1, h2, h3⟩ := turn_mem xs (i + 1) x h
      exact ⟨j, by omega, by simp; omega, h3⟩
theorem turn_nodup {a : Int} {n : Nat} (h0 : 0 ≤ a) (h1 : a < n) (hn : n ≤ 1048576) : ∀ (xs : List T_Side.D) (i : Nat), i + xs.length ≤ n → (collect (turnG a n) i xs).Nodup
  | [], i, _ => by simp [collect]
  | y :: xs, i, h => by
    simp only [List.length_cons] at h
    simp only [collect, turnG, List.singleton_append, List.nodup_cons]
    refine ⟨fun hm => ?_, turn_nodup h0 h1 hn xs (i + 1) (by omega)⟩
    obtain ⟨j, g1, g2, g3⟩ := turn_mem xs (i + 1) _ hm
    rw [wrap_id (by omega) (by omega), wrap_id (by omega) (by omega), tmod_two (by omega) (by omega), tmod_two (by omega) (by omega)] at g3
    split at g3 <;> split at g3 <;> omega
theorem orderV_nodup (s : T_State.D) (h : s.2.1.length ≤ 1048576) : (orderV s).Nodup := by
  unfold orderV
  split
  · rename_i hin
    simp only [Bool.and_eq_true, decide_eq_true_eq] at hin
    rw [wrap_id (by omega) (by omega)] at hin
    have key : ∀ a : Int, a ≤ (s.2.1.length : Int) - 1 → a < s.2.1.length := fun a h => by omega
    exact turn_nodup hin.1 (key _ hin.2) h _ _ (by omega)
  · simp

theorem index_Trigger (xs : List T_Trigger.D) (hl : xs.length ≤ 1048576) (p : T_Trigger.D → Bool) (q : (T_Trigger.D × Unit) → Option Bool) (hq : ∀ x, q (x, ()) = some (p x)) :
    slices_IndexFunc_impl_Trigger xs q = some (match findL p xs with | some k => (k : Int) | none => -1) := by
  unfold slices_IndexFunc_impl_Trigger
  rw [index_loop xs (body := slices_IndexFunc_impl_Trigger_l1 xs q) p (fun i => i) (by omega) (fun i x hx => ?_) ?_]
  · cases findL p xs <;> rfl
  · unfold slices_IndexFunc_impl_Trigger_l1
    simp
  · unfold slices_IndexFunc_impl_Trigger_l1
    have hlt := (List.getElem?_eq_some_iff.1 hx).1
    have : ((i : Int) < (xs.length : Int)) := by omega
    simp only [this, decide_true, cond_true, idx_at hx, hq, Option.bind_some]
theorem deleteFunc_Trigger (xs : List T_Trigger.D) (hl : xs.length ≤ 1048576) (p : T_Trigger.D → Bool) (q : (T_Trigger.D × Unit) → Option Bool) (hq : ∀ x, q (x, ()) = some (p x)) :
    slices_DeleteFunc_impl_Trigger xs q = some (xs.filter (fun x => !p x), ()) := by
  unfold slices_DeleteFunc_impl_Trigger
  rw [index_Trigger xs hl p q hq, Option.bind_some]
  obtain ⟨h1, h2⟩ := findL_spec p xs
  cases hf : findL p xs with
  | none =>
    have : xs.filter (fun x => !p x) = xs := by rw [List.filter_eq_self]; intro x hx; simp [h1 hf x hx]
    rw [this]; rfl
  | some k =>
    obtain ⟨x, g1, g2, g3⟩ := h2 k hf
    have hk := (List.getElem?_eq_some_iff.1 g1).1
    have n1 : ((k : Int) == -1) = false := by simp
    simp only [n1, cond_false]
    rw [wrap_id (by omega) (by omega)]
    obtain ⟨ys, m, e1, e2, e3, e4⟩ : ∃ (ys : List T_Trigger.D) (m : Nat), while_ (slices_DeleteFunc_impl_Trigger_l1 q) (xs, (k : Int), (k : Int) + 1) = some (ys, (m : Int), (xs.length : Int)) ∧ ys.length = xs.length ∧ m ≤ xs.length ∧ ys.take m = xs.filter (fun x => !p x) := by
      refine delete_loop xs (body := slices_DeleteFunc_impl_Trigger_l1 q) p (fun s => s) (by omega) (fun ys i j x hx hij hl' => ?_) (fun ys i hl' => ?_) k x g1 g2 g3
      · have hlt := (List.getElem?_eq_some_iff.1 hx).1
        have hil : ((j : Int) < (ys.length : Int)) := by omega
        obtain ⟨y, hy⟩ : ∃ y, ys[i]? = some y := ⟨_, List.getElem?_eq_getElem (by omega)⟩
        unfold slices_DeleteFunc_impl_Trigger_l1
        simp (disch := omega) only [hil, decide_true, cond_true, Int.toNat_natCast, idx_at hx, hx, hq, Option.bind_some, idx_at hy, hy, wrap_id]
        cases p x <;> rfl
      · unfold slices_DeleteFunc_impl_Trigger_l1
        have : ¬ ((xs.length : Int) < (ys.length : Int)) := by omega
        simp only [this, decide_false, cond_false]
    rw [e1, Option.bind_some]
    have t1 : 0 ≤ (m : Int) := by omega
    have t2 : (m : Int) ≤ (ys.length : Int) := by omega
    simp only [t1, t2, if_true, Int.le_refl, Int.toNat_natCast]
    have z1 : m ≤ ys.length := by omega
    rw [if_pos (by simp only [List.length_append, List.length_take, List.length_replicate, List.length_drop]; omega)]
    have : ∀ (zs : List T_Trigger.D), (ys.take m ++ zs).take m = ys.take m := fun zs => by rw [List.take_append_of_le_length (by simp; omega), List.take_take, Nat.min_self]
    rw [List.append_assoc, this, e4]
    simp
theorem spec_TriggersOf_eq (xs : List T_Trigger.D) (a : Int) (h : xs.length ≤ 1048576) : spec_TriggersOf xs a = some (xs.filter fun x => x.2.1 == a) := by
  unfold spec_TriggersOf
  rw [append_loop xs (fun _ x => if x.2.1 == a then [x] else []) (fun s => s) (fun _ x => by split <;> simp) (by omega) (fun t i x hI hx => ?_) (fun t => ?_)]
  · rw [Option.bind_some, collect_filter]
  · have hlt := (List.getElem?_eq_some_iff.1 hx).1
    have hil : ((i : Int) < (xs.length : Int)) := by omega
    unfold spec_TriggersOf_l1
    simp only [hil, decide_true, cond_true, idx_at hx]
    rw [if_pos (by simp only [room, List.length_cons, List.length_nil]; omega)]
    cases (x.2.1 == a) <;> simp
  · unfold spec_TriggersOf_l1; simp
theorem impl_TriggersOf_eq (xs : List T_Trigger.D) (a : Int) (h : xs.length ≤ 1048576) : impl_TriggersOf xs a = some (xs.filter fun x => x.2.1 == a) := by
  unfold impl_TriggersOf slices_Clone_impl_Trigger
  rw [if_pos (by simp only [room, List.length_nil]; omega)]
  simp only [Option.bind_some, List.nil_append]
  rw [deleteFunc_Trigger xs h (fun x => x.2.1 != a) _ (fun x => rfl)]
  simp [bne]

theorem spec_Has_eq (l : List Int) (a : Int) (h : l.length ≤ 1048576) : spec_Has l a = some (l.any (fun x => x == a)) := by
  unfold spec_Has
  rw [index_loop l (body := spec_Has_l1 l a) (fun x => x == a) (fun _ => true) (by omega) (fun i x hx => ?_) ?_]
  · obtain ⟨h1, h2⟩ := findL_spec (fun x => x == a) l
    cases hf : findL (fun x => x == a) l with
    | none =>
      have : l.any (fun x => x == a) = false := by rw [List.any_eq_false]; exact fun x hx => by simpa using h1 hf x hx
      rw [this]; rfl
    | some k =>
      obtain ⟨x, g1, g2, _⟩ := h2 k hf
      have : l.any (fun x => x == a) = true := by rw [List.any_eq_true]; exact ⟨x, List.mem_of_getElem? g1, g2⟩
      rw [this]; rfl
  · unfold spec_Has_l1
    simp
  · unfold spec_Has_l1
    have hlt := (List.getElem?_eq_some_iff.1 hx).1
    have : ((i : Int) < (l.length : Int)) := by omega
    simp only [this, decide_true, cond_true, idx_at hx]

/-! ### Pick, Arrange -/
def pickK (cs : List Int) (n : Int) : Int := match cs with
  | [] => 0
  | c :: _ => if n < 2 then 0 else if c.tmod n < 0 then c.tmod n + n else c.tmod n
def pickR (cs : List Int) (n : Int) : List Int := match cs with
  | [] => []
  | c :: r => if n < 2 then c :: r else r
theorem pickK_in (cs : List Int) {n : Int} (h : 1 ≤ n) : 0 ≤ pickK cs n ∧ pickK cs n < n := by
  unfold pickK
  split
  · omega
  · rename_i c r
    split
    · omega
    · have h1 := Int.tmod_lt_of_pos c (show 0 < n by omega)
      have h2 : -n < c.tmod n := by
        have := Int.tmod_lt_of_pos (-c) (show 0 < n by omega)
        rw [Int.neg_tmod] at this
        omega
      split <;> omega
theorem pickR_suffix (cs : List Int) (n : Int) : pickR cs n <:+ cs := by
  unfold pickR
  split
  · exact List.suffix_refl _
  · split
    · exact List.suffix_refl _
    · exact List.suffix_cons _ _
theorem clone_int_eq (a : List Int) (h : a.length ≤ 1048576) : slices_Clone_int a = some a := by
  unfold slices_Clone_int
  rw [if_pos (by simp only [room, List.length_nil]; omega), List.nil_append]
theorem impl_Pick_eq (cs : List Int) (n : Int) (h : cs.length ≤ 1048576) (hn : n ≤ 1048576) : impl_Pick cs n = some (pickK cs n, pickR cs n, ()) := by
  unfold impl_Pick
  by_cases h2 : n < 2
  · rw [decide_eq_true h2]
    simp only [cond_true, Option.bind_some, clone_int_eq cs h]
    unfold pickK pickR
    cases cs <;> simp [h2]
  · rw [decide_eq_false h2]
    cases cs with
    | nil => simp [pickK, pickR, clone_int_eq]
    | cons c r =>
      have h1 := Int.tmod_lt_of_pos c (show 0 < n by omega)
      have h3 : -n < c.tmod n := by
        have := Int.tmod_lt_of_pos (-c) (show 0 < n by omega)
        rw [Int.neg_tmod] at this
        omega
      have hl : ((c :: r).length : Int) = (r.length : Int) + 1 := by simp
      have e0 : (((c :: r).length : Int) == 0) = false := by rw [hl, beq_eq_false_iff_ne]; omega
      have ei : ∀ {R : Type} (κ : Int → Option R), idx (c :: r) 0 κ = κ c := fun κ => idx_at (i := 0) rfl
      simp only [cond_false, e0, Option.bind_some, ei]
      rw [if_neg (by omega)]
      simp only [List.length_cons] at h
      simp only [pickK, pickR, if_neg h2]
      by_cases hneg : c.tmod n < 0
      · rw [decide_eq_true hneg, if_pos hneg]
        simp only [cond_true, Option.bind_some]
        rw [wrap_id (by omega) (by omega), if_pos (by omega), if_pos (by omega), if_pos (by omega)]
        have : (((c :: r).take ((c :: r).length : Int).toNat).drop (1 : Int).toNat) = r := by simp
        rw [this, clone_int_eq r (by omega)]
        rfl
      · rw [decide_eq_false hneg, if_neg hneg]
        simp only [cond_false, Option.bind_some]
        rw [if_pos (by omega), if_pos (by omega), if_pos (by omega)]
        have : (((c :: r).take ((c :: r).length : Int).toNat).drop (1 : Int).toNat) = r := by simp
        rw [this, clone_int_eq r (by omega)]
        rfl
theorem spec_Pick_eq (cs : List Int) (n : Int) (h : cs.length ≤ 1048576) (hn : n ≤ 1048576) : spec_Pick cs n = some (pickK cs n, pickR cs n, ()) := by
  unfold spec_Pick
  by_cases h2 : n < 2
  · rw [decide_eq_true h2]
    simp only [cond_true, Option.bind_some]
    rw [if_pos (by simp only [room, List.length_nil]; omega)]
    unfold pickK pickR
    cases cs <;> simp [h2]
  · rw [decide_eq_false h2]
    cases cs with
    | nil => simp [pickK, pickR, room]
    | cons c r =>
      have h1 := Int.tmod_lt_of_pos c (show 0 < n by omega)
      have h3 : -n < c.tmod n := by
        have := Int.tmod_lt_of_pos (-c) (show 0 < n by omega)
        rw [Int.neg_tmod] at this
        omega
      have hl : ((c :: r).length : Int) = (r.length : Int) + 1 := by simp
      have e0 : (((c :: r).length : Int) == 0) = false := by rw [hl, beq_eq_false_iff_ne]; omega
      have ei : ∀ {R : Type} (κ : Int → Option R), idx (c :: r) 0 κ = κ c := fun κ => idx_at (i := 0) rfl
      simp only [cond_false, e0, Option.bind_some, ei]
      rw [if_neg (by omega)]
      simp only [List.length_cons] at h
      simp only [pickK, pickR, if_neg h2]
      have hd : (((c :: r).take ((c :: r).length : Int).toNat).drop (1 : Int).toNat) = r := by simp
      by_cases hneg : c.tmod n < 0
      · rw [decide_eq_true hneg, if_pos hneg]
        simp only [cond_true, Option.bind_some]
        rw [wrap_id (by omega) (by omega), if_pos (by omega), if_pos (by omega), if_pos (by omega), hd, if_pos (by simp only [room, List.length_nil]; omega)]
        rfl
      · rw [decide_eq_false hneg, if_neg hneg]
        simp only [cond_false, Option.bind_some]
        rw [if_pos (by omega), if_pos (by omega), if_pos (by omega), hd, if_pos (by simp only [room, List.length_nil]; omega)]
        rfl
theorem delete_eq (xs : List T_Trigger.D) (k : Nat) (h : k < xs.length) (hl : xs.length ≤ 1048576) : slices_Delete_impl_Trigger xs (k : Int) (IntKind.wrap .i64 ((k : Int) + 1)) = some (xs.eraseIdx k, ()) := by
  unfold slices_Delete_impl_Trigger
  rw [wrap_id (by omega) (by omega)]
  have e0 : ((k : Int) == (k : Int) + 1) = false := by rw [beq_eq_false_iff_ne]; omega
  have t1 : ((k : Int) + 1).toNat = k + 1 := by omega
  have t2 : (xs.length : Int).toNat = xs.length := by omega
  have t3 : k + (xs.length - (k + 1)) - 0 = xs.length - 1 := by omega
  have t4 : k + (xs.length - (k + 1)) = xs.length - 1 := by omega
  simp only [e0, cond_false, t1, t2, Int.toNat_natCast, t3, t4]
  rw [if_pos (by omega), if_pos (by omega), if_pos (by omega), if_pos (by omega), if_pos (by omega), if_pos (by omega), if_pos (by omega), if_pos (by omega), if_pos (by omega), if_pos (by omega), if_pos (by omega), if_pos (by omega), if_pos (by omega), if_pos (by omega), if_pos (by omega)]
  have hlen : (xs.take k ++ (xs.take xs.length).drop (k + 1) ++ xs.drop (xs.length - 1)).length = xs.length := by simp; omega
  rw [if_pos (by rw [hlen]; omega)]
  rw [List.drop_zero, List.append_assoc, List.take_append_of_le_length (by rw [List.length_take, hlen]; omega), List.take_take, show min (xs.length - 1) (xs.length - 1 - 0) = xs.length - 1 by omega, List.append_assoc, ← List.append_assoc, List.take_append_of_le_length (by simp; omega), List.take_of_length_le (by simp; omega), List.take_length, List.eraseIdx_eq_take_drop_succ]
def orderL : Nat → List Int → List T_Trigger.D → List Int × List T_Trigger.D
  | 0, cs, _ => (cs, [])
  | n + 1, cs, own => match own[(pickK cs own.length).toNat]? with
    | none => (cs, [])
    | some x => ((orderL n (pickR cs own.length) (own.eraseIdx (pickK cs own.length).toNat)).1, x :: (orderL n (pickR cs own.length) (own.eraseIdx (pickK cs own.length).toNat)).2)
theorem orderL_succ (n : Nat) (cs : List Int) (own : List T_Trigger.D) : orderL (n + 1) cs own = match own[(pickK cs own.length).toNat]? with
    | none => (cs, [])
    | some x => ((orderL n (pickR cs own.length) (own.eraseIdx (pickK cs own.length).toNat)).1, x :: (orderL n (pickR cs own.length) (own.eraseIdx (pickK cs own.length).toNat)).2) := rfl
theorem eraseIdx_perm {α : Type} : ∀ (l : List α) (k : Nat) (x : α), l[k]? = some x → (x :: l.eraseIdx k).Perm l
  | [], k, x, h => by simp at h
  | a :: l, 0, x, h => by simp at h; subst h; simp
  | a :: l, k + 1, x, h => by
    simp only [List.getElem?_cons_succ] at h
    simp only [List.eraseIdx_cons_succ]
    exact (List.Perm.swap a x _).trans ((eraseIdx_perm l k x h).cons a)
theorem orderL_spec : ∀ (n : Nat) (cs : List Int) (own : List T_Trigger.D), own.length = n → (orderL n cs own).2.Perm own ∧ (orderL n cs own).1 <:+ cs
  | 0, cs, own, h => by
    have : own = [] := List.eq_nil_of_length_eq_zero h
    subst this
    exact ⟨List.Perm.nil, List.suffix_refl _⟩
  | n + 1, cs, own, h => by
    obtain ⟨h1, h2⟩ := pickK_in cs (n := own.length) (by omega)
    have hk : (pickK cs own.length).toNat < own.length := by omega
    have hx := List.getElem?_eq_getElem hk
    obtain ⟨g1, g2⟩ := orderL_spec n (pickR cs own.length) (own.eraseIdx (pickK cs own.length).toNat) (by rw [List.length_eraseIdx_of_lt hk]; omega)
    unfold orderL
    rw [hx]
    exact ⟨(g1.cons _).trans (eraseIdx_perm own _ _ hx), g2.trans (pickR_suffix _ _)⟩
theorem impl_own_loop : ∀ (n : Nat) (cs : List Int) (out own : List T_Trigger.D), own.length = n → n ≤ 1048576 → out.length + n ≤ 1048576 → cs.length ≤ 1048576 →
    while_ impl_Arrange_l1 (cs, out, own) = some ((orderL n cs own).1, out ++ (orderL n cs own).2, [])
  | 0, cs, out, own, h, _, _, _ => by
    have : own = [] := List.eq_nil_of_length_eq_zero h
    subst this
    refine while_done ?_
    unfold impl_Arrange_l1 orderL
    simp
  | n + 1, cs, out, own, h, hn, ho, hc => by
    obtain ⟨h1, h2⟩ := pickK_in cs (n := own.length) (by omega)
    obtain ⟨k, hk⟩ := Int.eq_ofNat_of_zero_le h1
    have hkl : k < own.length := by omega
    have hx := List.getElem?_eq_getElem hkl
    have hr := (pickR_suffix cs own.length).length_le
    have ih := impl_own_loop n (pickR cs own.length) (out ++ [own[k]]) (own.eraseIdx k) (by rw [List.length_eraseIdx_of_lt hkl]; omega) (by omega) (by simp; omega) (by omega)
    refine while_step (s' := (pickR cs own.length, out ++ [own[k]], own.eraseIdx k)) ?_ ?_
    · unfold impl_Arrange_l1
      have hp : (own.length : Int) > 0 := by omega
      simp only [hp, decide_true, cond_true, impl_Pick_eq cs own.length hc (by omega), Option.bind_some, hk, idx_at hx, Int.toNat_natCast, hx]
      rw [if_pos (by simp only [room, List.length_cons, List.length_nil]; omega), delete_eq own k hkl (by omega), Option.bind_some]
    · rw [ih]
      rw [orderL_succ, hk, Int.toNat_natCast, hx]
      simp
theorem spec_own_loop : ∀ (n : Nat) (cs : List Int) (out own : List T_Trigger.D), own.length = n → n ≤ 1048576 → out.length + n ≤ 1048576 → cs.length ≤ 1048576 →
    while_ spec_Arrange_l1 (out, cs, own) = some (out ++ (orderL n cs own).2, (orderL n cs own).1, [])
  | 0, cs, out, own, h, _, _, _ => by
    have : own = [] := List.eq_nil_of_length_eq_zero h
    subst this
    refine while_done ?_
    unfold spec_Arrange_l1 orderL
    simp
  | n + 1, cs, out, own, h, hn, ho, hc => by
    obtain ⟨h1, h2⟩ := pickK_in cs (n := own.length) (by omega)
    obtain ⟨k, hk⟩ := Int.eq_ofNat_of_zero_le h1
    have hkl : k < own.length := by omega
    have hx := List.getElem?_eq_getElem hkl
    have hr := (pickR_suffix cs own.length).length_le
    have ih := spec_own_loop n (pickR cs own.length) (out ++ [own[k]]) (own.eraseIdx k) (by rw [List.length_eraseIdx_of_lt hkl]; omega) (by omega) (by simp; omega) (by omega)
    refine while_step (s' := (out ++ [own[k]], pickR cs own.length, own.eraseIdx k)) ?_ ?_
    · unfold spec_Arrange_l1
      have hp : (own.length : Int) > 0 := by omega
      have t1 : ((k : Int) + 1).toNat = k + 1 := by omega
      have t2 : (own.length : Int).toNat = own.length := by omega
      simp only [hp, decide_true, cond_true, spec_Pick_eq cs own.length hc (by omega), Option.bind_some, hk, idx_at hx, Int.toNat_natCast, hx]
      rw [wrap_id (by omega) (by omega)]
      have l1 : ((own.take k).drop (0 : Int).toNat).length = k := by simp; omega
      have l2 : ((own.take own.length).drop ((k : Int) + 1).toNat).length = own.length - (k + 1) := by rw [t1]; simp
      rw [if_pos (by simp only [room, List.length_cons, List.length_nil]; omega), if_pos (by omega), if_pos (by omega), if_pos (by omega), if_pos (by rw [l1]; simp only [room, List.length_nil]; omega), if_pos (by omega), if_pos (by omega), if_pos (by omega), if_pos (by rw [List.nil_append, l1, l2]; simp only [room]; omega)]
      simp [t1, List.eraseIdx_eq_take_drop_succ]
    · rw [ih]
      rw [orderL_succ, hk, Int.toNat_natCast, hx]
      simp
def keepL (l : List T_Trigger.D) (done : List Int) : List T_Trigger.D := l.filter fun x => !(done.any fun z => z == x.2.1)
def arrL (l : List T_Trigger.D) : List Int → List Int → List Int × List T_Trigger.D
  | [], cs => (cs, [])
  | s :: r, cs => ((arrL l r (orderL (l.filter fun x => x.2.1 == s).length cs (l.filter fun x => x.2.1 == s)).1).1, (orderL (l.filter fun x => x.2.1 == s).length cs (l.filter fun x => x.2.1 == s)).2 ++ (arrL l r (orderL (l.filter fun x => x.2.1 == s).length cs (l.filter fun x => x.2.1 == s)).1).2)
theorem keep_own (l : List T_Trigger.D) (done : List Int) (s : Int) (h : s ∉ done) : (keepL l done).filter (fun x => x.2.1 == s) = l.filter fun x => x.2.1 == s := by
  unfold keepL
  rw [List.filter_filter]
  refine List.filter_congr fun x _ => ?_
  cases hx : x.2.1 == s with
  | false => rfl
  | true =>
    have hx := eq_of_beq hx
    have : (done.any fun z => z == x.2.1) = false := by
      rw [List.any_eq_false]
      intro z hz hzs
      have := eq_of_beq hzs
      rw [hx] at this
      exact h (this ▸ hz)
    rw [this]; rfl
theorem keep_rest (l : List T_Trigger.D) (done : List Int) (s : Int) : (keepL l done).filter (fun x => !(x.2.1 == s)) = keepL l (done ++ [s]) := by
  unfold keepL
  rw [List.filter_filter]
  refine List.filter_congr fun x _ => ?_
  rw [List.any_append]
  simp only [List.any_cons, List.any_nil, Bool.or_false, Bool.not_or]
  rw [Bool.and_comm, show (x.2.1 == s) = (s == x.2.1) from Bool.eq_iff_iff.2 (by simp only [beq_iff_eq]; exact eq_comm)]
theorem filter_parts {α : Type} (p : α → Bool) : ∀ (l : List α), (l.filter p).length + (l.filter fun x => !p x).length = l.length
  | [] => rfl
  | a :: l => by
    have := filter_parts p l
    cases h : p a <;> simp [h] <;> omega
theorem impl_side_loop (l : List T_Trigger.D) (sides : List Int) (hl : l.length ≤ 1048576) (hs : sides.length ≤ 1048576) (hn : sides.Nodup) : ∀ (rem done cs : List Int) (out : List T_Trigger.D), sides = done ++ rem → cs.length ≤ 1048576 → out.length + (keepL l done).length = l.length →
    while_ (impl_Arrange_l2 sides) (cs, out, keepL l done, (done.length : Int)) = some ((arrL l rem cs).1, out ++ (arrL l rem cs).2, keepL l sides, (sides.length : Int)) ∧ (out ++ (arrL l rem cs).2).length + (keepL l sides).length = l.length ∧ (arrL l rem cs).1 <:+ cs
  | [], done, cs, out, e, hc, ho => by
    simp only [List.append_nil] at e
    subst e
    refine ⟨while_done ?_, by simpa [arrL] using ho, List.suffix_refl _⟩
    unfold impl_Arrange_l2 arrL
    simp
  | s :: rem, done, cs, out, e, hc, ho => by
    have hnd : s ∉ done := by
      rw [e, List.nodup_append] at hn
      exact fun hm => hn.2.2 s hm s (by simp) rfl
    have hlt : done.length < sides.length := by rw [e]; simp
    have hx : sides[done.length]? = some s := by rw [e]; simp
    have hkl : (keepL l done).length ≤ l.length := List.length_filter_le _ _
    have hown := keep_own l done s hnd
    have hrest := keep_rest l done s
    have hparts := filter_parts (fun x : T_Trigger.D => x.2.1 == s) (keepL l done)
    rw [hown, hrest] at hparts
    obtain ⟨p1, p2⟩ := orderL_spec _ cs (l.filter fun x => x.2.1 == s) rfl
    have hpl := p1.length_eq
    have hsl := p2.length_le
    obtain ⟨i1, i2, i3⟩ := impl_side_loop l sides hl hs hn rem (done ++ [s]) (orderL (l.filter fun x => x.2.1 == s).length cs (l.filter fun x => x.2.1 == s)).1 (out ++ (orderL (l.filter fun x => x.2.1 == s).length cs (l.filter fun x => x.2.1 == s)).2) (by rw [e]; simp) (by omega) (by rw [List.length_append]; omega)
    refine ⟨while_step (s' := ((orderL (l.filter fun x => x.2.1 == s).length cs (l.filter fun x => x.2.1 == s)).1, out ++ (orderL (l.filter fun x => x.2.1 == s).length cs (l.filter fun x => x.2.1 == s)).2, keepL l (done ++ [s]), ((done ++ [s]).length : Int))) ?_ ?_, ?_, i3.trans p2⟩
    · have hil : ((done.length : Int) < (sides.length : Int)) := by omega
      unfold impl_Arrange_l2
      simp only [hil, decide_true, cond_true, idx_at hx, Int.toNat_natCast, hx, Option.bind_some]
      rw [impl_TriggersOf_eq _ _ (by omega), hown, Option.bind_some, deleteFunc_Trigger _ (by omega) (fun x => x.2.1 == s) _ (fun x => rfl), hrest, Option.bind_some,
        impl_own_loop _ cs out _ rfl (by omega) (by omega) hc, Option.bind_some, wrap_id (by omega) (by omega)]
      simp
    · rw [i1]
      simp [arrL]
    · simpa [arrL, List.append_assoc] using i2
theorem spec_side_loop (l : List T_Trigger.D) (sides : List Int) (hl : l.length ≤ 1048576) (hs : sides.length ≤ 1048576) (hn : sides.Nodup) : ∀ (rem done cs : List Int) (out : List T_Trigger.D), sides = done ++ rem → cs.length ≤ 1048576 → out.length + (keepL l done).length = l.length →
    while_ (spec_Arrange_l2 l sides) (out, cs, (done.length : Int)) = some (out ++ (arrL l rem cs).2, (arrL l rem cs).1, (sides.length : Int))
  | [], done, cs, out, e, hc, ho => by
    simp only [List.append_nil] at e
    subst e
    refine while_done ?_
    unfold spec_Arrange_l2 arrL
    simp
  | s :: rem, done, cs, out, e, hc, ho => by
    have hnd : s ∉ done := by
      rw [e, List.nodup_append] at hn
      exact fun hm => hn.2.2 s hm s (by simp) rfl
    have hlt : done.length < sides.length := by rw [e]; simp
    have hx : sides[done.length]? = some s := by rw [e]; simp
    have hkl : (keepL l done).length ≤ l.length := List.length_filter_le _ _
    have hown := keep_own l done s hnd
    have hrest := keep_rest l done s
    have hparts := filter_parts (fun x : T_Trigger.D => x.2.1 == s) (keepL l done)
    rw [hown, hrest] at hparts
    obtain ⟨p1, p2⟩ := orderL_spec _ cs (l.filter fun x => x.2.1 == s) rfl
    have hpl := p1.length_eq
    have hsl := p2.length_le
    have i1 := spec_side_loop l sides hl hs hn rem (done ++ [s]) (orderL (l.filter fun x => x.2.1 == s).length cs (l.filter fun x => x.2.1 == s)).1 (out ++ (orderL (l.filter fun x => x.2.1 == s).length cs (l.filter fun x => x.2.1 == s)).2) (by rw [e]; simp) (by omega) (by rw [List.length_append]; omega)
    refine while_step (s' := (out ++ (orderL (l.filter fun x => x.2.1 == s).length cs (l.filter fun x => x.2.1 == s)).2, (orderL (l.filter fun x => x.2.1 == s).length cs (l.filter fun x => x.2.1 == s)).1, ((done ++ [s]).length : Int))) ?_ ?_
    · have hil : ((done.length : Int) < (sides.length : Int)) := by omega
      unfold spec_Arrange_l2
      simp only [hil, decide_true, cond_true, idx_at hx, Int.toNat_natCast, hx, Option.bind_some]
      rw [spec_TriggersOf_eq _ _ (by omega), Option.bind_some, spec_own_loop _ cs out _ rfl (by omega) (by omega) hc, Option.bind_some, wrap_id (by omega) (by omega)]
      simp
    · rw [i1]
      simp [arrL]
noncomputable def arrangeV (s : T_State.D) (l : List T_Trigger.D) (cs : List Int) : List T_Trigger.D × List Int := ((arrL l (orderV s) cs).2 ++ keepL l (orderV s), (arrL l (orderV s) cs).1)
theorem arrange_eq (s : T_State.D) (l : List T_Trigger.D) (cs : List Int) (hs : s.2.1.length ≤ 1048576) (hl : l.length ≤ 1048576) (hc : cs.length ≤ 1048576) :
    spec_Arrange s l cs = some ((arrangeV s l cs).1, (arrangeV s l cs).2, ()) ∧ impl_Arrange s l cs = some ((arrangeV s l cs).1, (arrangeV s l cs).2, ()) ∧ (arrangeV s l cs).1.length = l.length ∧ (arrangeV s l cs).2 <:+ cs := by
  have hol := orderV_len s
  have hk0 : keepL l [] = l := by unfold keepL; simp
  have hn := orderV_nodup s hs
  obtain ⟨h1, h2, h3⟩ := impl_side_loop l (orderV s) hl (by omega) hn (orderV s) [] cs [] rfl hc (by rw [hk0]; simp)
  have h4 := spec_side_loop l (orderV s) hl (by omega) hn (orderV s) [] cs [] rfl hc (by rw [hk0]; simp)
  simp only [List.nil_append, List.length_nil, hk0, Int.natCast_zero] at h1 h2 h4
  refine ⟨?_, ?_, by unfold arrangeV; simp only [List.length_append]; exact h2, h3⟩
  · unfold spec_Arrange
    rw [if_pos (by simp only [room, List.length_nil]; omega), spec_TurnOrder_eq s hs, Option.bind_some, List.nil_append, h4, Option.bind_some]
    have key : while_ (spec_Arrange_l3 l (orderV s)) ((arrL l (orderV s) cs).2, 0) = some ((arrL l (orderV s) cs).2 ++ keepL l (orderV s), (l.length : Int)) := by
      have := (fold_loop l (body := spec_Arrange_l3 l (orderV s)) (fun (t : List T_Trigger.D) _ x => t ++ (if (!((orderV s).any fun z => z == x.2.1)) then [x] else [])) (fun i t => t.length ≤ (arrL l (orderV s) cs).2.length + i) (fun t => t) (arrL l (orderV s) cs).2 (by omega) (by omega) (fun t i x hI hx => ⟨?_, ?_⟩) (fun t hI => ?_)).1
      · rw [this, foldIx_collect (fun _ (x : T_Trigger.D) => if (!((orderV s).any fun z => z == x.2.1)) then [x] else []), collect_filter]
        rfl
      · have hlt := (List.getElem?_eq_some_iff.1 hx).1
        have hil : ((i : Int) < (l.length : Int)) := by omega
        unfold spec_Arrange_l3
        simp only [hil, decide_true, cond_true, idx_at hx, Option.bind_some]
        rw [spec_Has_eq _ _ (by omega), Option.bind_some, if_pos (by simp only [room, List.length_cons, List.length_nil]; omega)]
        cases ((orderV s).any fun z => z == x.2.1) <;> simp
      · rw [List.length_append]
        split <;> simp <;> omega
      · unfold spec_Arrange_l3; simp
    rw [key, Option.bind_some]
    rfl
  · unfold impl_Arrange slices_Clone_impl_Trigger
    rw [if_pos (by simp only [room, List.length_nil]; omega), clone_int_eq cs hc]
    simp only [Option.bind_some, List.nil_append, impl_TurnOrder_eq s hs, h1]
    rw [if_pos (by simp only [room]; omega)]
    rfl

theorem law_Arrange (s : T_State.D) (a : List T_Trigger.D) (c : List Int) (ws0 : s.1.length ≤ maxLen) (ws1 : s.2.1.length ≤ maxLen) (wa0 : a.length ≤ maxLen) (wc0 : c.length ≤ maxLen) : laws_FnExactArrange s a c = some true := by
  unfold laws_FnExactArrange
  by_cases gc : (c.length : Int) > 1048576
  · rw [decide_eq_true gc]; rfl
  rw [decide_eq_false gc]; simp only [cond_false]
  rw [laws_szState_eq s _ (by omega) (by omega) ws0 ws1, Option.bind_some]
  by_cases gs : (s.1.length : Int) + s.2.1.length ≤ 1048576
  · rw [if_pos gs]
    simp (disch := omega) only [dec_neg, cond_false]
    rw [laws_szTriggerS_eq a _ (by omega) (by omega) wa0, Option.bind_some]
    by_cases ga : (a.length : Int) ≤ 1048576 - s.1.length - s.2.1.length
    · rw [if_pos ga]
      simp (disch := omega) only [dec_neg, cond_false]
      obtain ⟨e1', e2', hr1, hr2⟩ := arrange_eq s a c (by omega) (by omega) (by omega)
      obtain ⟨r, hr, e1, e2⟩ : ∃ r, (r.1.length ≤ 1048576 ∧ r.2.1.length ≤ 1048576) ∧ spec_Arrange s a c = some r ∧ impl_Arrange s a c = some r := ⟨_, ⟨by simp only; omega, by have := hr2.length_le; simp only; omega⟩, e1', e2'⟩
      simp (disch := omega) only [laws_toState_eq s (by omega) (by omega), laws_eqState_eq s s (by omega) (by omega), eqD_refl (t := T_State) rfl, laws_toTriggerS_eq a (by omega), laws_eqTriggerS_eq a a (by omega), eqD_refl (t := (.slice T_Trigger)) rfl, laws_toIntS_eq c (by omega), laws_eqIntS_eq c c (by omega), eqD_refl (t := (.slice (.int .i64))) rfl, laws_eqTriggerS_eq r.1 r.1 (by omega), laws_eqIntS_eq r.2.1 r.2.1 (by omega), laws_markState_eq s, laws_markTriggerS_eq a, laws_markIntS_eq c, laws_markTriggerS_eq r.1, laws_heldTriggerS_eq (1) r.1.length, laws_markIntS_eq r.2.1, laws_heldIntS_eq (1 + (16 : Nat) * (r.1.length : Int)) r.2.1.length, e1, e2, Option.bind_some, bne_self_eq_false, Bool.not_true, cond_false, cond_true, dec_neg]
    · rw [if_neg ga]; rfl
  · rw [if_neg gs]; rfl

theorem laws_sameInts_eq (a b : List Int) (h : a.length ≤ 1048576) : laws_sameInts a b = some (eqD (.slice (.int .i64)) a b) := by
  unfold laws_sameInts
  exact eq_lists (t := .int .i64) rfl a b (e := fun (x y : Int) => x == y) (fun _ _ => rfl) (by omega) (fun i => rfl)

/-! ### Draws: they end, and the cursor stays right -/
def curOk (c : T_l1Cur.D) : Prop := 0 ≤ c.2.1 ∧ c.1.length ≤ 1048576
theorem l1Byte_ok' (b : List Int) (i g : Int) (u : Unit) (h0 : 0 ≤ i) (h1 : b.length ≤ 1048576) : Tot (spec_l1Byte (b, i, g, u)) (fun y => curOk y.2.1 ∧ 0 ≤ y.1 ∧ y.1 ≤ 255) := by
  unfold spec_l1Byte
  simp only
  rw [if_pos (by decide), if_pos (by decide)]
  refine Tot.bif (fun hl => ?_) (fun _ => ?_)
  · have hl : i < (b.length : Int) := of_decide_eq_true hl
    refine Tot.idx h0 hl fun n x e hx => ?_
    obtain ⟨m, e1, e2⟩ := mask_byte (IntKind.wrap .i64 (IntKind.wrap .i64 (BitVec.ofInt (IntKind.bits .i64) (IntKind.wrap .i64 (BitVec.ofInt (IntKind.bits .i64) ((IntKind.wrap .i64 ((IntKind.wrap .i64 (g * 6364136223846793005)) + 1442695040888963407)).fdiv (2 ^ min (33 : Int).toNat (IntKind.bits .i64))) ^^^ BitVec.ofInt (IntKind.bits .i64) ((IntKind.wrap .i64 ((IntKind.wrap .i64 (g * 6364136223846793005)) + 1442695040888963407)).fdiv (2 ^ min (47 : Int).toNat (IntKind.bits .i64)))).toNat) &&& BitVec.ofInt (IntKind.bits .i64) 255).toNat + IntKind.wrap .i64 x))
    refine Tot.pure ⟨⟨?_, h1⟩, ?_, ?_⟩
    · show (0 : Int) ≤ IntKind.wrap .i64 (i + 1)
      rw [wrap_id (by omega) (by omega)]; omega
    · simp only; rw [e1]; omega
    · simp only; rw [e1]; omega
  · obtain ⟨m, e1, e2⟩ := mask_byte (IntKind.wrap .i64 (BitVec.ofInt (IntKind.bits .i64) ((IntKind.wrap .i64 ((IntKind.wrap .i64 (g * 6364136223846793005)) + 1442695040888963407)).fdiv (2 ^ min (33 : Int).toNat (IntKind.bits .i64))) ^^^ BitVec.ofInt (IntKind.bits .i64) ((IntKind.wrap .i64 ((IntKind.wrap .i64 (g * 6364136223846793005)) + 1442695040888963407)).fdiv (2 ^ min (47 : Int).toNat (IntKind.bits .i64)))).toNat)
    refine Tot.pure ⟨⟨h0, h1⟩, ?_, ?_⟩
    · simp only; rw [e1]; omega
    · simp only; rw [e1]; omega
theorem l1Byte_ok (c : T_l1Cur.D) (h : curOk c) : Tot (spec_l1Byte c) (fun y => curOk y.2.1 ∧ 0 ≤ y.1 ∧ y.1 ≤ 255) := l1Byte_ok' c.1 c.2.1 c.2.2.1 c.2.2.2 h.1 h.2
theorem l1Below_ok (c : T_l1Cur.D) (n : Int) (h : curOk c) : Tot (spec_l1Below c n) (fun y => curOk y.2.1 ∧ 0 ≤ y.1 ∧ (0 < n → y.1 < n)) := by
  unfold spec_l1Below
  refine Tot.bif (fun hn => ?_) (fun hn => ?_)
  · have hn : n ≤ 0 := of_decide_eq_true hn
    exact Tot.pure ⟨h, Int.le_refl _, fun h => by omega⟩
  · have hn : ¬ n ≤ 0 := of_decide_eq_false hn
    refine Tot.bif (fun _ => ?_) (fun _ => ?_)
    · refine Tot.bind (l1Byte_ok c h) ?_
      rintro y ⟨hc, h0, h1⟩
      rw [if_neg (by omega)]
      exact Tot.pure ⟨hc, Int.tmod_nonneg _ h0, fun hp => Int.tmod_lt_of_pos _ hp⟩
    · refine Tot.bind (l1Byte_ok c h) ?_
      rintro y2 ⟨hc2, h20, h21⟩
      refine Tot.bind (l1Byte_ok _ hc2) ?_
      rintro y3 ⟨hc3, h30, h31⟩
      refine Tot.bind (l1Byte_ok _ hc3) ?_
      rintro y4 ⟨hc4, h40, h41⟩
      show Tot (if n = 0 then none else some ((IntKind.wrap .i64 (IntKind.wrap .i64 (IntKind.wrap .i64 (y2.1 * 65536) + IntKind.wrap .i64 (y3.1 * 256)) + y4.1)).tmod n, y4.2)) _
      rw [wrap_id (n := y2.1 * 65536) (by omega) (by omega), wrap_id (n := y3.1 * 256) (by omega) (by omega), wrap_id (n := y2.1 * 65536 + y3.1 * 256) (by omega) (by omega), wrap_id (n := y2.1 * 65536 + y3.1 * 256 + y4.1) (by omega) (by omega), if_neg (by omega)]
      exact Tot.pure ⟨hc4, Int.tmod_nonneg _ (by omega), fun hp => Int.tmod_lt_of_pos _ hp⟩
theorem l1Int_ok (c : T_l1Cur.D) (l : List Int) (h : curOk c) (hl : 0 < l.length) : Tot (spec_l1Int c l) (fun y => curOk y.2.1 ∧ y.1 ∈ l) := by
  unfold spec_l1Int
  refine Tot.bind (l1Below_ok c _ h) ?_
  rintro y ⟨hc, h0, h1⟩
  refine Tot.idx h0 (h1 (by omega)) fun n x e hx => ?_
  exact Tot.pure ⟨hc, List.mem_of_getElem? hx⟩
theorem l1Once_ok (c : T_l1Cur.D) (n : Int) (h : curOk c) : Tot (spec_l1Once c n) (fun y => curOk y.2.1 ∧ True) := by
  unfold spec_l1Once
  refine Tot.bind (l1Below_ok c _ h) ?_
  rintro y ⟨hc, h0, h1⟩
  exact Tot.pure ⟨hc, trivial⟩
theorem l1Odd_ok (c : T_l1Cur.D) (h : curOk c) : Tot (spec_l1Odd c) (fun y => curOk y.2.1 ∧ True) := by
  unfold spec_l1Odd
  refine Tot.bind (l1Int_ok c _ h (by decide)) ?_
  rintro y ⟨hc, _⟩
  exact Tot.pure ⟨hc, trivial⟩
theorem l1Raw_ok (c : T_l1Cur.D) (h : curOk c) : Tot (spec_l1Raw c) (fun y => curOk y.2.1 ∧ True) := by
  unfold spec_l1Raw
  refine Tot.bind (l1Once_ok c _ h) ?_
  rintro y ⟨hc, _⟩
  refine Tot.bif (fun _ => ?_) (fun _ => ?_)
  · refine Tot.bind (l1Odd_ok _ hc) ?_
    rintro y ⟨hc, _⟩
    exact Tot.pure ⟨hc, trivial⟩
  · refine Tot.bind (l1Int_ok _ _ hc (by decide)) ?_
    rintro y ⟨hc, _⟩
    exact Tot.pure ⟨hc, trivial⟩
theorem l4Draw_ok (c : T_l1Cur.D) (id : Int) (h : curOk c) : Tot (spec_l4Draw c id) (fun y => curOk y.2.1 ∧ True) := by
  unfold spec_l4Draw
  refine Tot.bind (l1Below_ok c _ h) ?_
  rintro y1 ⟨_, _⟩
  refine Tot.bind (l1Int_ok _ _ (by assumption) (by decide)) ?_
  rintro y2 ⟨_, _⟩
  refine Tot.bind (l1Below_ok _ _ (by assumption)) ?_
  rintro y3 ⟨_, _⟩
  refine Tot.bind (l1Below_ok _ _ (by assumption)) ?_
  rintro y4 ⟨_, _⟩
  refine Tot.bind (l1Below_ok _ _ (by assumption)) ?_
  rintro y5 ⟨h5, _⟩
  refine Tot.bind (P := fun o => curOk o.2.1) (Tot.while (fun s => curOk s.2.1 ∧ 0 ≤ s.1 ∧ s.1 ≤ 6) (fun s => 6 - s.1.toNat) ?_ ⟨h5, by simp only; omega, by simp only; omega⟩) ?_
  · rintro ⟨i, cc, t⟩ ⟨g1, g2, g3⟩
    simp only at g1 g2 g3
    unfold spec_l4Draw_l1
    simp only
    refine Tot.bif (fun hl => ?_) (fun _ => ?_)
    · have hl : i < (6 : Int) := of_decide_eq_true hl
      refine Tot.idx g2 (by simpa using hl) fun n x e hx => ?_
      subst e
      rw [Int.toNat_natCast, hx, Option.bind_some]
      refine Tot.bind (l1Once_ok _ _ g1) ?_
      rintro y ⟨hc, _⟩
      refine Tot.bif (fun _ => ?_) (fun _ => ?_) <;> refine Tot.pure ⟨⟨hc, ?_, ?_⟩, ?_⟩ <;> simp only <;> rw [wrap_id (by omega) (by omega)] <;> omega
    · exact Tot.pure g1
  · rintro o ho
    refine Tot.bif (fun _ => Tot.pure ⟨ho, trivial⟩) (fun _ => ?_)
    refine Tot.bind (l1Once_ok _ _ ho) ?_
    rintro y12 ⟨h12, _⟩
    refine Tot.bind (P := fun _ => True) (Tot.bif (fun _ => Tot.pure trivial) (fun _ => Tot.pure trivial)) ?_
    rintro o13 _
    refine Tot.bind (l1Int_ok _ _ h12 (by decide)) ?_
    rintro y14 ⟨h14, _⟩
    refine Tot.bind (l1Int_ok _ _ h14 (by decide)) ?_
    rintro y15 ⟨h15, _⟩
    refine Tot.bind (l1Int_ok _ _ h15 (by decide)) ?_
    rintro y16 ⟨h16, _⟩
    refine Tot.bind (l1Once_ok _ _ h16) ?_
    rintro y17 ⟨h17, _⟩
    exact Tot.pure ⟨h17, trivial⟩
theorem l4Any_ok (c : T_l1Cur.D) (h : curOk c) : Tot (spec_l4Any c) (fun y => curOk y.2.1 ∧ True) := by
  unfold spec_l4Any
  refine Tot.bind (l1Below_ok c _ h) ?_
  rintro y1 ⟨h1, _⟩
  refine Tot.bind (l4Draw_ok _ _ h1) ?_
  rintro y2 ⟨h2, _⟩
  refine Tot.bind (l1Below_ok _ _ h2) ?_
  rintro y3 ⟨h3, _⟩
  repeat' first
    | refine Tot.bif (fun _ => ?_) (fun _ => ?_)
    | (refine Tot.bind (l1Int_ok _ _ h3 (by decide)) ?_; rintro y ⟨hy, _⟩; exact Tot.pure ⟨hy, trivial⟩)
    | (refine Tot.bind (l1Raw_ok _ h3) ?_; rintro y ⟨hy, _⟩; exact Tot.pure ⟨hy, trivial⟩)
    | exact Tot.pure ⟨h3, trivial⟩
theorem l5Draw_ok (c : T_l1Cur.D) (h : curOk c) : Tot (spec_l5Draw c) (fun y => curOk y.2.1 ∧ 1 ≤ y.1.1.length ∧ y.1.1.length ≤ 6 ∧ y.1.2.1.length = 2) := by
  unfold spec_l5Draw
  refine Tot.bind (P := fun s => s.1.length = 0 ∧ s.2.1.length = 2) ⟨_, rfl, rfl, rfl⟩ ?_
  rintro y1 ⟨p1, p2⟩
  refine Tot.bind (l1Below_ok c _ h) ?_
  rintro y2 ⟨h2, _⟩
  refine Tot.bind (l1Below_ok _ _ h2) ?_
  rintro y3 ⟨h3, _⟩
  refine Tot.bind (P := fun o => curOk o.2.1 ∧ o.2.2.1.length = 0 ∧ o.2.2.2.1.length = 2) (Tot.while (fun s => curOk s.2.1 ∧ s.2.2.1.length = 0 ∧ s.2.2.2.1.length = 2 ∧ 0 ≤ s.1 ∧ s.1 ≤ 2) (fun s => 2 - s.1.toNat) ?_ ⟨h3, p1, p2, by simp only; omega, by simp only; omega⟩) ?_
  · rintro ⟨i, cc, ps, ss, t⟩ ⟨g1, g2, g3, g4, g5⟩
    simp only at g1 g2 g3 g4 g5
    unfold spec_l5Draw_l1
    simp only
    refine Tot.bif (fun hl => ?_) (fun _ => Tot.pure ⟨g1, g2, g3⟩)
    have hl : i < (2 : Int) := of_decide_eq_true hl
    refine Tot.bind (l1Int_ok _ _ g1 (by decide)) ?_
    rintro y7 ⟨h7, _⟩
    refine Tot.idx g4 (by omega) fun n x e hx => ?_
    subst e
    rw [Int.toNat_natCast, hx, Option.bind_some]
    refine Tot.bind (l1Int_ok _ _ h7 (by decide)) ?_
    rintro y10 ⟨h10, _⟩
    have hn : n < ss.length := by omega
    rw [idx_set hn, get_set hn, Option.bind_some]
    refine Tot.pure ⟨⟨h10, g2, by simp only [List.length_set]; exact g3, ?_, ?_⟩, ?_⟩ <;> simp only <;> rw [wrap_id (by omega) (by omega)] <;> omega
  · rintro o ⟨g1, g2, g3⟩
    refine Tot.bind (l1Below_ok _ _ g1) ?_
    rintro y14 ⟨h14, h14a, h14b⟩
    have hlt := h14b (by decide)
    rw [wrap_id (n := 1 + y14.1) (by omega) (by omega)]
    refine Tot.bind (P := fun o => curOk o.2.2.1 ∧ 1 ≤ o.2.2.2.1.length ∧ o.2.2.2.1.length ≤ 6 ∧ o.2.2.2.2.1.length = 2) (Tot.while (fun s => curOk s.2.2.1 ∧ 0 ≤ s.2.1 ∧ (s.2.2.2.1.length : Int) + s.2.1 = 1 + y14.1 ∧ s.2.2.2.2.1.length = 2) (fun s => s.2.1.toNat) ?_ ⟨h14, by simp only; omega, by simp only; omega, g3⟩) ?_
    · rintro ⟨id, i, cc, ps, ss, t⟩ ⟨k1, k2, k3, k4⟩
      simp only at k1 k2 k3 k4
      unfold spec_l5Draw_l2
      simp only
      refine Tot.bif (fun hl => ?_) (fun hl => Tot.pure ⟨k1, ?_, ?_, k4⟩)
      · have hl : i > 0 := of_decide_eq_true hl
        refine Tot.bind (l1Below_ok _ _ k1) ?_
        rintro y18 ⟨h18, _⟩
        refine Tot.bind (l4Draw_ok _ _ h18) ?_
        rintro y19 ⟨h19, _⟩
        rw [if_pos (by simp only [room, List.length_cons, List.length_nil]; omega)]
        refine Tot.pure ⟨⟨h19, ?_, ?_, k4⟩, ?_⟩ <;> simp only [List.length_append, List.length_cons, List.length_nil] <;> rw [wrap_id (n := i - 1) (by omega) (by omega)] <;> omega
      · have hl : ¬ i > 0 := of_decide_eq_false hl
        simp only; omega
      · have hl : ¬ i > 0 := of_decide_eq_false hl
        simp only; omega
    · rintro o ⟨k1, k2⟩
      exact Tot.pure ⟨k1, k2⟩
theorem l5Any_ok (c : T_l1Cur.D) (h : curOk c) : Tot (spec_l5Any c) (fun y => curOk y.2.1 ∧ y.1.1.length ≤ 20 ∧ y.1.2.1.length ≤ 3) := by
  unfold spec_l5Any
  refine Tot.bind (l5Draw_ok c h) ?_
  rintro ⟨⟨ps, ss, t⟩, c1⟩ ⟨h1, g1, g2, g3⟩
  simp only at h1 g1 g2 g3
  refine Tot.bind (l1Below_ok _ _ h1) ?_
  rintro y2 ⟨h2, _⟩
  refine Tot.bif (fun _ => ?_) (fun _ => ?_)
  · refine Tot.bind (l1Int_ok _ _ h2 (by decide)) ?_
    rintro y ⟨hy, _⟩
    exact Tot.pure ⟨hy, by simp only; omega, by simp only; omega⟩
  refine Tot.bif (fun _ => ?_) (fun _ => ?_)
  · refine Tot.bind (l1Int_ok _ _ h2 (by decide)) ?_
    rintro y ⟨hy, _⟩
    exact Tot.pure ⟨hy, by simp only; omega, by simp only; omega⟩
  refine Tot.bif (fun _ => ?_) (fun _ => ?_)
  · refine Tot.bind (l1Raw_ok _ h2) ?_
    rintro y ⟨hy, _⟩
    rw [if_pos (by simp only [room, List.length_cons, List.length_nil]; omega)]
    exact Tot.pure ⟨hy, by simp only; omega, by simp only [List.length_append, List.length_cons, List.length_nil]; omega⟩
  refine Tot.bif (fun _ => ?_) (fun _ => ?_)
  · refine Tot.bind (l1Raw_ok _ h2) ?_
    rintro y ⟨hy, _⟩
    refine Tot.idx (by decide) (by simp only; omega) fun n x e hx => ?_
    have : n = 0 := by omega
    subst this
    rw [show ((0 : Int)).toNat = 0 from rfl, hx, Option.bind_some]
    exact Tot.pure ⟨hy, by simp only; omega, by simp only [List.length_set]; omega⟩
  refine Tot.bif (fun _ => ?_) (fun _ => ?_)
  · refine Tot.bind (l4Any_ok _ h2) ?_
    rintro y ⟨hy, _⟩
    rw [if_pos (by simp only [room, List.length_cons, List.length_nil]; omega)]
    exact Tot.pure ⟨hy, by simp only [List.length_append, List.length_cons, List.length_nil]; omega, by simp only; omega⟩
  refine Tot.bif (fun _ => ?_) (fun _ => ?_)
  · rw [if_pos (by decide), if_pos (by decide), if_pos (by simp only; omega)]
    exact Tot.pure ⟨h2, by simp only; omega, by simp only [List.length_drop, List.length_take]; omega⟩
  refine Tot.bif (fun _ => ?_) (fun _ => ?_)
  · refine Tot.bind (l4Any_ok _ h2) ?_
    rintro y ⟨hy, _⟩
    refine Tot.idx (by decide) (by simp only; omega) fun n x e hx => ?_
    have : n = 0 := by omega
    subst this
    rw [show ((0 : Int)).toNat = 0 from rfl, hx, Option.bind_some]
    exact Tot.pure ⟨hy, by simp only [List.length_set]; omega, by simp only; omega⟩
  refine Tot.bif (fun _ => ?_) (fun _ => ?_)
  · refine Tot.bind (P := fun o => curOk o.2.1 ∧ o.2.2.1.length ≤ 20 ∧ o.2.2.2.1.length ≤ 3) (Tot.while (fun s => curOk s.2.1 ∧ 40 ≤ s.1 ∧ s.1 ≤ 46 ∧ (s.2.2.1.length : Int) ≤ s.1 - 34 ∧ s.2.2.2.1.length ≤ 3) (fun s => 46 - s.1.toNat) ?_ ⟨h2, by simp only; omega, by simp only; omega, by simp only; omega, by simp only; omega⟩) ?_
    · rintro ⟨i, cc, ps, ss, t⟩ ⟨k1, k2, k3, k4, k5⟩
      simp only at k1 k2 k3 k4 k5
      unfold spec_l5Any_l1
      simp only
      refine Tot.bif (fun hl => ?_) (fun hl => Tot.pure ⟨k1, by simp only; omega, k5⟩)
      have hl : i < 46 := of_decide_eq_true hl
      refine Tot.bind (l4Draw_ok _ _ k1) ?_
      rintro y ⟨hy, _⟩
      rw [if_pos (by simp only [room, List.length_cons, List.length_nil]; omega)]
      refine Tot.pure ⟨⟨hy, ?_, ?_, ?_, k5⟩, ?_⟩ <;> simp only [List.length_append, List.length_cons, List.length_nil] <;> rw [wrap_id (n := i + 1) (by omega) (by omega)] <;> omega
    · rintro o ⟨k1, k2, k3⟩
      exact Tot.pure ⟨k1, k2, k3⟩
  exact Tot.pure ⟨h2, by simp only; omega, by simp only; omega⟩
theorem l1New_ok (code : List Int) (hl : code.length ≤ 1048576) : Tot (spec_l1New code) (fun c => curOk c) := by
  unfold spec_l1New
  refine Tot.bind (P := fun _ => True) (Tot.while (fun s => 0 ≤ s.2 ∧ s.2 ≤ (code.length : Int)) (fun s => code.length - s.2.toNat) ?_ ⟨by simp only; omega, by simp only; omega⟩) ?_
  · rintro ⟨g, i⟩ ⟨k1, k2⟩
    simp only at k1 k2
    unfold spec_l1New_l1
    simp only
    refine Tot.bind (P := fun o => o = true → i < (code.length : Int)) (Tot.bif (fun hl => Tot.pure (fun _ => of_decide_eq_true hl)) (fun _ => Tot.pure (fun h => by cases h))) ?_
    rintro o ho
    refine Tot.bif (fun hb => ?_) (fun _ => Tot.pure trivial)
    have hlt := ho hb
    refine Tot.idx k1 hlt fun n x e hx => ?_
    refine Tot.pure ⟨⟨?_, ?_⟩, ?_⟩ <;> simp only <;> rw [wrap_id (n := i + 1) (by omega) (by omega)] <;> omega
  · rintro o _
    exact Tot.pure ⟨Int.le_refl _, hl⟩

/-! ### Draws of triggers, choices -/
theorem l20List_ok (c : T_l1Cur.D) (h : curOk c) : Tot (spec_l20List c) (fun y => curOk y.2.1 ∧ y.1.1.1.length ≤ 20 ∧ y.1.1.2.1.length ≤ 3 ∧ y.1.2.1.length ≤ 5) := by
  unfold spec_l20List
  refine Tot.bind (l5Draw_ok c h) ?_
  rintro y1 ⟨h1, g1, g2, g3⟩
  refine Tot.bind (l1Below_ok _ _ h1) ?_
  rintro y2 ⟨h2, h2a, h2b⟩
  have h2c := h2b (by decide)
  refine Tot.bind (P := fun o => curOk o.2.2 ∧ o.1.length ≤ 5) (Tot.while (fun s => curOk s.2.2 ∧ 0 ≤ s.2.1 ∧ (s.1.length : Int) + s.2.1 ≤ 5) (fun s => s.2.1.toNat) ?_ ⟨h2, h2a, by simp only [List.length_nil]; omega⟩) ?_
  · rintro ⟨l, i, cc⟩ ⟨k1, k2, k3⟩
    simp only at k1 k2 k3
    unfold spec_l20List_l1
    simp only
    refine Tot.bif (fun hl => ?_) (fun _ => Tot.pure ⟨k1, by simp only; omega⟩)
    have hl : i > 0 := of_decide_eq_true hl
    refine Tot.bind (l1Below_ok _ _ k1) ?_
    rintro y5 ⟨h5, _⟩
    refine Tot.bind (l4Draw_ok _ _ h5) ?_
    rintro y6 ⟨h6, _⟩
    refine Tot.bind (l1Below_ok _ _ h6) ?_
    rintro y7 ⟨h7, _⟩
    refine Tot.bind (l1Int_ok _ _ h7 (by decide)) ?_
    rintro y8 ⟨h8, _⟩
    refine Tot.bind (l1Below_ok _ _ h8) ?_
    rintro y9 ⟨h9, _⟩
    rw [if_pos (by simp only [room, List.length_cons, List.length_nil]; omega)]
    refine Tot.pure ⟨⟨h9, ?_, ?_⟩, ?_⟩ <;> simp only [List.length_append, List.length_cons, List.length_nil] <;> rw [wrap_id (n := i - 1) (by omega) (by omega)] <;> omega
  · rintro o ⟨k1, k2⟩
    refine Tot.bind (l1Once_ok _ _ k1) ?_
    rintro y11 ⟨h11, _⟩
    refine Tot.bif (fun _ => ?_) (fun _ => Tot.pure ⟨h11, by simp only; omega, by simp only; omega, k2⟩)
    refine Tot.bind (l5Any_ok _ h11) ?_
    rintro y12 ⟨h12, e1, e2⟩
    exact Tot.pure ⟨h12, e1, e2, k2⟩
theorem l12Choices_ok (c : T_l1Cur.D) (h : curOk c) : Tot (spec_l12Choices c) (fun y => curOk y.2.1 ∧ y.1.length ≤ 8) := by
  unfold spec_l12Choices
  refine Tot.bind (l1Below_ok c _ h) ?_
  rintro y1 ⟨h1, h1a, h1b⟩
  have h1c := h1b (by decide)
  refine Tot.bind (P := fun o => curOk o.2.2 ∧ o.1.length ≤ 8) (Tot.while (fun s => curOk s.2.2 ∧ 0 ≤ s.2.1 ∧ (s.1.length : Int) + s.2.1 ≤ 8) (fun s => s.2.1.toNat) ?_ ⟨h1, h1a, by simp only [List.length_nil]; omega⟩) ?_
  · rintro ⟨l, i, cc⟩ ⟨k1, k2, k3⟩
    simp only at k1 k2 k3
    unfold spec_l12Choices_l1
    simp only
    refine Tot.bif (fun hl => ?_) (fun _ => Tot.pure ⟨k1, by simp only; omega⟩)
    have hl : i > 0 := of_decide_eq_true hl
    refine Tot.bind (l1Int_ok _ _ k1 (by decide)) ?_
    rintro y4 ⟨h4, _⟩
    rw [if_pos (by simp only [room, List.length_cons, List.length_nil]; omega)]
    refine Tot.pure ⟨⟨h4, ?_, ?_⟩, ?_⟩ <;> simp only [List.length_append, List.length_cons, List.length_nil] <;> rw [wrap_id (n := i - 1) (by omega) (by omega)] <;> omega
  · rintro o ⟨k1, k2⟩
    exact Tot.pure ⟨k1, k2⟩

/-! ### FnArranges -/
theorem drawArrange_ok (code : List Int) (hl : code.length ≤ 1048576) : Tot (spec_DrawArrange code) (fun y => y.1.1.length ≤ 20 ∧ y.1.2.1.length ≤ 3 ∧ y.2.1.length ≤ 5 ∧ y.2.2.1.length ≤ 8) := by
  unfold spec_DrawArrange
  refine Tot.bind (l1New_ok code hl) ?_
  rintro c hc
  refine Tot.bind (l20List_ok c hc) ?_
  rintro y2 ⟨h2, g1, g2, g3⟩
  refine Tot.bind (l12Choices_ok _ h2) ?_
  rintro y3 ⟨h3, g4⟩
  exact Tot.pure ⟨g1, g2, g3, g4⟩
theorem drawSameTriggers_ok (code : List Int) (hl : code.length ≤ 1048576) : Tot (spec_DrawSameTriggers code) (fun y => y.1.length ≤ 5 ∧ y.2.1.length ≤ 5) := by
  unfold spec_DrawSameTriggers
  refine Tot.bind (l1New_ok code hl) ?_
  rintro c hc
  refine Tot.bind (l20List_ok c hc) ?_
  rintro y2 ⟨h2, g1, g2, g3⟩
  refine Tot.bind (l1Once_ok _ _ h2) ?_
  rintro y3 ⟨h3, _⟩
  refine Tot.bif (fun _ => ?_) (fun _ => ?_)
  · rw [if_pos (by simp only [room, List.length_nil]; omega)]
    exact Tot.pure ⟨g3, by simpa using g3⟩
  · refine Tot.bind (l20List_ok _ h3) ?_
    rintro y4 ⟨h4, _, _, k3⟩
    exact Tot.pure ⟨g3, k3⟩
theorem drawTriggersOf_ok (code : List Int) (hl : code.length ≤ 1048576) : Tot (spec_DrawTriggersOf code) (fun y => y.1.length ≤ 5) := by
  unfold spec_DrawTriggersOf
  refine Tot.bind (l1New_ok code hl) ?_
  rintro c hc
  refine Tot.bind (l20List_ok c hc) ?_
  rintro y2 ⟨h2, g1, g2, g3⟩
  refine Tot.bind (l1Below_ok _ _ h2) ?_
  rintro y3 ⟨h3, _⟩
  exact Tot.pure g3
theorem spec_SameTriggers_eq (a b : List T_Trigger.D) (h : a.length ≤ 1048576) : spec_SameTriggers a b = some (eqD (.slice T_Trigger) a b) := by
  unfold spec_SameTriggers
  exact eq_lists (t := T_Trigger) rfl a b (e := eqD T_Trigger) (fun _ _ => rfl) (by omega) (fun i => rfl)
theorem impl_SameTriggers_eq (a b : List T_Trigger.D) (h : a.length ≤ 1048576) : impl_SameTriggers a b = some (eqD (.slice T_Trigger) a b) := by
  unfold impl_SameTriggers
  rw [show slices_Equal_impl_Trigger a b = some (eqD (.slice T_Trigger) a b) from eq_lists (t := T_Trigger) rfl a b (e := eqD T_Trigger) (fun _ _ => rfl) (by omega) (fun i => rfl)]
  rfl
theorem ends_eq (a b : List Int) (h : b <:+ a) (hl : a.length ≤ 1048576) : laws_ends a b = some true := by
  have hle := h.length_le
  unfold laws_ends
  rw [decide_eq_true (by omega : (b.length : Int) ≤ (a.length : Int)), wrap_id (by omega) (by omega)]
  simp only [cond_true]
  rw [if_pos (by omega), if_pos (by omega), if_pos (by omega)]
  have e : (a.take (a.length : Int).toNat).drop ((a.length : Int) - (b.length : Int)).toNat = b := by
    rw [Int.toNat_natCast, List.take_length, show ((a.length : Int) - (b.length : Int)).toNat = a.length - b.length by omega]
    obtain ⟨t, rfl⟩ := h
    simp
  rw [e, laws_sameInts_eq b b (by omega), eqD_refl (t := .slice (.int .i64)) rfl]
  rfl
theorem arr_perm (l : List T_Trigger.D) : ∀ (rem done cs : List Int), (done ++ rem).Nodup → ((arrL l rem cs).2 ++ keepL l (done ++ rem)).Perm (keepL l done)
  | [], done, cs, _ => by simp [arrL]
  | s :: rem, done, cs, hn => by
    have hnd : s ∉ done := by
      rw [List.nodup_append] at hn
      exact fun hm => hn.2.2 s hm s (by simp) rfl
    obtain ⟨p1, p2⟩ := orderL_spec _ cs (l.filter fun x => x.2.1 == s) rfl
    have ih := arr_perm l rem (done ++ [s]) (orderL (l.filter fun x => x.2.1 == s).length cs (l.filter fun x => x.2.1 == s)).1 (by simpa using hn)
    have hp : ((keepL l done).filter (fun x => x.2.1 == s) ++ (keepL l done).filter (fun x => !(x.2.1 == s))).Perm (keepL l done) := List.filter_append_perm _ _
    rw [keep_own l done s hnd, keep_rest l done s] at hp
    simp only [List.append_assoc, List.singleton_append] at ih
    unfold arrL
    rw [List.append_assoc]
    exact (p1.append ih).trans hp
theorem arrange_perm (s : T_State.D) (l : List T_Trigger.D) (cs : List Int) (hs : s.2.1.length ≤ 1048576) : (arrangeV s l cs).1.Perm l := by
  have := arr_perm l (orderV s) [] cs (by simpa using orderV_nodup s hs)
  have hk0 : keepL l [] = l := by unfold keepL; simp
  rw [hk0, List.nil_append] at this
  exact this
theorem arr_drop (l : List T_Trigger.D) (sides cs : List Int) (j : Nat) (s : Int) (h : sides[j]? = some s) : arrL l (sides.drop j) cs = ((arrL l (sides.drop (j + 1)) (orderL (l.filter fun x => x.2.1 == s).length cs (l.filter fun x => x.2.1 == s)).1).1, (orderL (l.filter fun x => x.2.1 == s).length cs (l.filter fun x => x.2.1 == s)).2 ++ (arrL l (sides.drop (j + 1)) (orderL (l.filter fun x => x.2.1 == s).length cs (l.filter fun x => x.2.1 == s)).1).2) := by
  have hj := (List.getElem?_eq_some_iff.1 h).1
  have e : sides.drop j = s :: sides.drop (j + 1) := by
    rw [List.drop_eq_getElem_cons hj]
    congr 1
    rw [List.getElem?_eq_getElem hj] at h
    simpa using h
  rw [e]
  rfl
theorem count_step (p : T_Trigger.D → Bool) (l : List T_Trigger.D) (k : Nat) (x : T_Trigger.D) (h : l[k]? = some x) : (l.take (k + 1)).countP p = (l.take k).countP p + (if p x then 1 else 0) := by
  have hk := (List.getElem?_eq_some_iff.1 h).1
  rw [List.take_add_one, h, Option.toList_some, List.countP_append]
  simp [List.countP_cons]
set_option maxHeartbeats 1000000 in
theorem law_FnArranges (code : List Int) (w : code.length ≤ maxLen) : laws_FnArranges code = some true := by
  unfold laws_FnArranges laws_big
  by_cases hb : (code.length : Int) > 1048576
  · rw [decide_eq_true hb]; rfl
  · have hl : code.length ≤ 1048576 := by omega
    obtain ⟨⟨s, l, cs, u⟩, hp, d1, d2, d3, d4⟩ := drawArrange_ok code hl
    obtain ⟨⟨a, b, u1⟩, hq, b1, b2⟩ := drawSameTriggers_ok code hl
    obtain ⟨⟨t, n, u2⟩, ht, t1⟩ := drawTriggersOf_ok code hl
    simp only at d1 d2 d3 d4 b1 b2 t1
    obtain ⟨e1, e2, e3, e4⟩ := arrange_eq s l cs (by omega) (by omega) (by omega)
    have hpm := arrange_perm s l cs (by omega)
    have h5 := e4.length_le
    have h6 := orderV_len s
    have hlt : (t.filter fun x => x.2.1 == n).length ≤ 5 := Nat.le_trans (List.length_filter_le _ _) t1
    have hxl : ((arrangeV s l cs).1.length : Int) = (l.length : Int) := by omega
    rw [decide_eq_false hb]
    have E : (arrangeV s l cs).1 = [] ++ (arrL l ((orderV s).drop 0) cs).2 ++ keepL l (orderV s) := rfl
    simp only [hp, hq, ht, e1, e2, Option.bind_some, cond_false, impl_TurnOrder_eq s (by omega), spec_TurnOrder_eq s (by omega), impl_SameTriggers_eq _ _ (show (arrangeV s l cs).1.length ≤ 1048576 by omega), impl_SameTriggers_eq a b (by omega), spec_SameTriggers_eq a b (by omega),
      laws_sameInts_eq _ _ (show (arrangeV s l cs).2.length ≤ 1048576 by omega), laws_sameInts_eq _ _ (show (orderV s).length ≤ 1048576 by omega), impl_TriggersOf_eq t n (by omega), spec_TriggersOf_eq t n (by omega), impl_SameTriggers_eq _ _ (show (t.filter fun x => x.2.1 == n).length ≤ 1048576 by omega),
      eqD_refl (t := .slice T_Trigger) rfl, eqD_refl (t := .slice (.int .i64)) rfl, bne_self_eq_false, Bool.not_true, ends_eq cs _ e4 (by omega), hxl]
    generalize arrangeV s l cs = X at *
    obtain ⟨x, rs⟩ := X
    simp only at e3 e4 hpm h5 hxl E
    have f1 : Tot (while_ (laws_FnArranges_l2 (s, l, cs, u) (x, rs, ()) (orderV s)) (0, 0)) (fun o => ∃ q, o = .inl q) := by
      refine Tot.while (fun st => ∃ (j : Nat) (cs' : List Int) (p : List T_Trigger.D), st.2 = (j : Int) ∧ j ≤ (orderV s).length ∧ x = p ++ (arrL l ((orderV s).drop j) cs').2 ++ keepL l (orderV s) ∧ st.1 = (p.length : Int)) (fun st => (orderV s).length - st.2.toNat) ?_ ⟨0, cs, [], rfl, by omega, E, rfl⟩
      rintro ⟨fr, i⟩ ⟨j, cs', p, rfl, hj, hx, hfr⟩
      simp only at hfr
      subst hfr
      unfold laws_FnArranges_l2
      refine Tot.bif (fun hlt => ?_) (fun _ => Tot.pure ⟨_, rfl⟩)
      have hlt : (j : Int) < ((orderV s).length : Int) := of_decide_eq_true hlt
      have hjl : j < (orderV s).length := by omega
      have hs := List.getElem?_eq_getElem hjl
      obtain ⟨p1, p2⟩ := orderL_spec _ cs' (l.filter fun x => x.2.1 == (orderV s)[j]) rfl
      have hol := p1.length_eq
      rw [arr_drop l _ cs' j _ hs] at hx
      simp only at hx
      have hxlen := congrArg List.length hx
      simp only [List.length_append] at hxlen
      simp only [idx_at hs, Int.toNat_natCast, hs, Option.bind_some, impl_TriggersOf_eq l _ (show l.length ≤ 1048576 by omega)]
      have hfl : (l.filter fun x => x.2.1 == (orderV s)[j]).length ≤ 5 := Nat.le_trans (List.length_filter_le _ _) d3
      refine Tot.bind (P := fun o => ∃ q, o = .inl q) (Tot.while (fun k => (p.length : Int) ≤ k ∧ k ≤ (p.length : Int) + ((l.filter fun x => x.2.1 == (orderV s)[j]).length : Int)) (fun k => ((p.length : Int) + ((l.filter fun x => x.2.1 == (orderV s)[j]).length : Int) - k).toNat) ?_ ⟨Int.le_refl _, by omega⟩) ?_
      · rintro k ⟨k1, k2⟩
        unfold laws_FnArranges_l1
        simp only
        rw [wrap_id (n := (p.length : Int) + _) (by omega) (by omega)]
        refine Tot.bif (fun hk => ?_) (fun _ => Tot.pure ⟨_, rfl⟩)
        have hk := of_decide_eq_true hk
        obtain ⟨m, rfl⟩ := Int.eq_ofNat_of_zero_le (show 0 ≤ k by omega)
        have hmx : m < x.length := by omega
        obtain ⟨z, hxm⟩ : ∃ z, x[m]? = some z := ⟨_, List.getElem?_eq_getElem hmx⟩
        have hside : z.2.1 = (orderV s)[j] := by
          have g : z ∈ (orderL (l.filter fun x => x.2.1 == (orderV s)[j]).length cs' (l.filter fun x => x.2.1 == (orderV s)[j])).2 := by
            refine List.mem_iff_getElem?.2 ⟨m - p.length, ?_⟩
            have h7 := hxm
            rw [hx, List.append_assoc, List.getElem?_append_right (by omega), List.append_assoc, List.getElem?_append_left (by omega)] at h7
            exact h7
          have g2 := p1.subset g
          rw [List.mem_filter] at g2
          exact eq_of_beq g2.2
        simp only [idx_at hxm, Int.toNat_natCast, hxm, idx_at hs, hs, Option.bind_some, hside, bne_self_eq_false, cond_false]
        refine Tot.pure ⟨⟨?_, ?_⟩, ?_⟩ <;> rw [wrap_id (by omega) (by omega)] <;> omega
      · rintro o ⟨q, rfl⟩
        simp only
        rw [wrap_id (n := (p.length : Int) + _) (by omega) (by omega), wrap_id (n := (j : Int) + 1) (by omega) (by omega)]
        refine Tot.pure ⟨⟨j + 1, (orderL (l.filter fun x => x.2.1 == (orderV s)[j]).length cs' (l.filter fun x => x.2.1 == (orderV s)[j])).1, p ++ (orderL (l.filter fun x => x.2.1 == (orderV s)[j]).length cs' (l.filter fun x => x.2.1 == (orderV s)[j])).2, by simp only; omega, by omega, by rw [hx]; simp only [List.append_assoc], by simp only [List.length_append, hol]; omega⟩, by simp only; omega⟩
    have f2 : Tot (while_ (laws_FnArranges_l4 (s, l, cs, u) (x, rs, ())) 0) (fun o => ∃ q, o = .inl q) := by
      refine Tot.while (fun i => 0 ≤ i ∧ i ≤ (l.length : Int)) (fun i => l.length - i.toNat) ?_ ⟨Int.le_refl _, by omega⟩
      rintro i ⟨i1, i2⟩
      unfold laws_FnArranges_l4
      simp only
      refine Tot.bif (fun hi => ?_) (fun _ => Tot.pure ⟨_, rfl⟩)
      have hi := of_decide_eq_true hi
      obtain ⟨m, rfl⟩ := Int.eq_ofNat_of_zero_le i1
      have hml : m < l.length := by omega
      have hm := List.getElem?_eq_getElem hml
      refine Tot.bind (P := fun o => o.1 = 0) (Tot.while (fun st => ∃ k : Nat, st.2 = (k : Int) ∧ k ≤ l.length ∧ st.1 = ((l.take k).countP (fun y => eqD T_Trigger y l[m]) : Int) - ((x.take k).countP (fun y => eqD T_Trigger y l[m]) : Int)) (fun st => l.length - st.2.toNat) ?_ ⟨0, rfl, by omega, by simp⟩) ?_
      · rintro ⟨c, k'⟩ ⟨k, rfl, hk, hc⟩
        simp only at hc
        subst hc
        unfold laws_FnArranges_l3
        simp only
        refine Tot.bif (fun hkl => ?_) (fun hkl => Tot.pure ?_)
        · have hkl := of_decide_eq_true hkl
          have hk1 : k < l.length := by omega
          have hl1 := List.getElem?_eq_getElem hk1
          have hx1 : x[k]? = some (x[k]'(by omega)) := List.getElem?_eq_getElem (by omega)
          have c1 := count_step (fun y => eqD T_Trigger y l[m]) l k _ hl1
          have c2 := count_step (fun y => eqD T_Trigger y l[m]) x k _ hx1
          have c3 : (l.take k).countP (fun y => eqD T_Trigger y l[m]) ≤ 5 := Nat.le_trans List.countP_le_length (by rw [List.length_take]; omega)
          have c4 : (x.take k).countP (fun y => eqD T_Trigger y l[m]) ≤ 5 := Nat.le_trans List.countP_le_length (by rw [List.length_take]; omega)
          simp only [idx_at hl1, idx_at hm, Int.toNat_natCast, hl1, hm, idx_at hx1, hx1, Option.bind_some]
          refine Tot.bind (P := fun o => o = ((l.take (k + 1)).countP (fun y => eqD T_Trigger y l[m]) : Int) - ((x.take k).countP (fun y => eqD T_Trigger y l[m]) : Int)) ?_ ?_
          · show Tot (bif eqD T_Trigger l[k] l[m] then _ else _) _
            rw [c1]
            cases eqD T_Trigger l[k] l[m] with
            | true => refine Tot.pure ?_; rw [wrap_id (by omega) (by omega)]; simp; omega
            | false => refine Tot.pure ?_; simp
          · rintro o rfl
            refine Tot.bind (P := fun o => o = ((l.take (k + 1)).countP (fun y => eqD T_Trigger y l[m]) : Int) - ((x.take (k + 1)).countP (fun y => eqD T_Trigger y l[m]) : Int)) ?_ ?_
            · show Tot (bif eqD T_Trigger (x[k]'(by omega)) l[m] then _ else _) _
              rw [c2]
              have c5 : (l.take (k + 1)).countP (fun y => eqD T_Trigger y l[m]) ≤ 6 := Nat.le_trans List.countP_le_length (by rw [List.length_take]; omega)
              cases eqD T_Trigger (x[k]'(by omega)) l[m] with
              | true => refine Tot.pure ?_; rw [wrap_id (by omega) (by omega)]; simp; omega
              | false => refine Tot.pure ?_; simp
            · rintro o rfl
              rw [wrap_id (n := (k : Int) + 1) (by omega) (by omega)]
              exact Tot.pure ⟨⟨k + 1, by simp only; omega, by omega, rfl⟩, by simp only; omega⟩
        · have hkl := of_decide_eq_false hkl
          have hk2 : k = l.length := by omega
          simp only
          rw [hk2, List.take_length, show l.length = x.length by omega, List.take_length, hpm.countP_eq]
          omega
      · rintro o ho
        rw [ho]
        simp only [bne_self_eq_false, cond_false]
        rw [wrap_id (by omega) (by omega)]
        exact Tot.pure ⟨⟨by omega, by omega⟩, by omega⟩
    obtain ⟨_, g1, q1, rfl⟩ := f1
    obtain ⟨_, g2, q2, rfl⟩ := f2
    simp only [g1, g2, Option.bind_some]

end Go.Abs
