/- PLAIN LAWS: pieces, events, triggers, states; no program in sight. -/
import Derived.Test.YtlcdhpledofneaaAbsPure
import Derived.Test.YtlcdhpledofneaaGen
set_option linter.unusedVariables false
set_option linter.unusedSimpArgs false
namespace Go.Abs

theorem laws_szEventS_eq (a : List T_Event.D) (l : Int) (h0 : 0 ≤ l) (h1 : l ≤ 1048576) (hn : a.length ≤ maxLen) : laws_szEventS a l = some (if (a.length : Int) ≤ l then l - a.length else -1) := by
  unfold laws_szEventS; exact sz_list h0 h1 (by simpa [maxLen] using hn)
theorem laws_toEvent_eq (a : T_Event.D) : laws_toEvent a = some a := by
  first | rfl | (unfold laws_toEvent; simp only [laws_toPiece_eq, laws_toEvent_eq, Option.bind_some]; rfl)
theorem laws_toEventS_eq (a : List T_Event.D) (h : a.length ≤ 1048576) : laws_toEventS a = some a := by
  unfold laws_toEventS
  rw [if_pos (by omega), if_pos (by simp only [room]; omega), Int.toNat_natCast, copy_loop a _ (body := laws_toEventS_l1 a) laws_toEvent (fun x _ => laws_toEvent_eq x) (by omega) (fun _ => rfl)]
  rfl
theorem laws_eqEvent_eq (a b : T_Event.D) : laws_eqEvent a b = some (eqD T_Event a b) := by
  unfold laws_eqEvent
  first | (simp only [bneIf]; rfl) | (simp only [laws_eqEvent_eq, laws_eqPiece_eq, Option.bind_some, bneIf, notIf]; rfl)
theorem laws_eqEventS_eq (a b : List T_Event.D) (h : a.length ≤ 1048576) : laws_eqEventS a b = some (eqD (.slice T_Event) a b) := by
  unfold laws_eqEventS
  exact eq_lists (t := T_Event) rfl a b (e := eqD T_Event) (fun _ _ => rfl) (by omega) (fun i => by unfold laws_eqEventS_l1; simp only [laws_eqEvent_eq, Option.bind_some])

theorem laws_szPieceS_eq (a : List T_Piece.D) (l : Int) (h0 : 0 ≤ l) (h1 : l ≤ 1048576) (hn : a.length ≤ maxLen) : laws_szPieceS a l = some (if (a.length : Int) ≤ l then l - a.length else -1) := by
  unfold laws_szPieceS; exact sz_list h0 h1 (by simpa [maxLen] using hn)
theorem laws_toPiece_eq (a : T_Piece.D) : laws_toPiece a = some a := by
  first | rfl | (unfold laws_toPiece; simp only [laws_toPiece_eq, laws_toEvent_eq, Option.bind_some]; rfl)
theorem laws_toPieceS_eq (a : List T_Piece.D) (h : a.length ≤ 1048576) : laws_toPieceS a = some a := by
  unfold laws_toPieceS
  rw [if_pos (by omega), if_pos (by simp only [room]; omega), Int.toNat_natCast, copy_loop a _ (body := laws_toPieceS_l1 a) laws_toPiece (fun x _ => laws_toPiece_eq x) (by omega) (fun _ => rfl)]
  rfl
theorem laws_eqPiece_eq (a b : T_Piece.D) : laws_eqPiece a b = some (eqD T_Piece a b) := by
  unfold laws_eqPiece
  first | (simp only [bneIf]; rfl) | (simp only [laws_eqEvent_eq, laws_eqPiece_eq, Option.bind_some, bneIf, notIf]; rfl)
theorem laws_eqPieceS_eq (a b : List T_Piece.D) (h : a.length ≤ 1048576) : laws_eqPieceS a b = some (eqD (.slice T_Piece) a b) := by
  unfold laws_eqPieceS
  exact eq_lists (t := T_Piece) rfl a b (e := eqD T_Piece) (fun _ _ => rfl) (by omega) (fun i => by unfold laws_eqPieceS_l1; simp only [laws_eqPiece_eq, Option.bind_some])

theorem laws_szSideS_eq (a : List T_Side.D) (l : Int) (h0 : 0 ≤ l) (h1 : l ≤ 1048576) (hn : a.length ≤ maxLen) : laws_szSideS a l = some (if (a.length : Int) ≤ l then l - a.length else -1) := by
  unfold laws_szSideS; exact sz_list h0 h1 (by simpa [maxLen] using hn)
theorem laws_toSide_eq (a : T_Side.D) : laws_toSide a = some a := by
  first | rfl | (unfold laws_toSide; simp only [laws_toPiece_eq, laws_toEvent_eq, Option.bind_some]; rfl)
theorem laws_toSideS_eq (a : List T_Side.D) (h : a.length ≤ 1048576) : laws_toSideS a = some a := by
  unfold laws_toSideS
  rw [if_pos (by omega), if_pos (by simp only [room]; omega), Int.toNat_natCast, copy_loop a _ (body := laws_toSideS_l1 a) laws_toSide (fun x _ => laws_toSide_eq x) (by omega) (fun _ => rfl)]
  rfl
theorem laws_eqSide_eq (a b : T_Side.D) : laws_eqSide a b = some (eqD T_Side a b) := by
  unfold laws_eqSide
  first | (simp only [bneIf]; rfl) | (simp only [laws_eqEvent_eq, laws_eqPiece_eq, Option.bind_some, bneIf, notIf]; rfl)
theorem laws_eqSideS_eq (a b : List T_Side.D) (h : a.length ≤ 1048576) : laws_eqSideS a b = some (eqD (.slice T_Side) a b) := by
  unfold laws_eqSideS
  exact eq_lists (t := T_Side) rfl a b (e := eqD T_Side) (fun _ _ => rfl) (by omega) (fun i => by unfold laws_eqSideS_l1; simp only [laws_eqSide_eq, Option.bind_some])

theorem laws_szTriggerS_eq (a : List T_Trigger.D) (l : Int) (h0 : 0 ≤ l) (h1 : l ≤ 1048576) (hn : a.length ≤ maxLen) : laws_szTriggerS a l = some (if (a.length : Int) ≤ l then l - a.length else -1) := by
  unfold laws_szTriggerS; exact sz_list h0 h1 (by simpa [maxLen] using hn)
theorem laws_toTrigger_eq (a : T_Trigger.D) : laws_toTrigger a = some a := by
  first | rfl | (unfold laws_toTrigger; simp only [laws_toPiece_eq, laws_toEvent_eq, Option.bind_some]; rfl)
theorem laws_toTriggerS_eq (a : List T_Trigger.D) (h : a.length ≤ 1048576) : laws_toTriggerS a = some a := by
  unfold laws_toTriggerS
  rw [if_pos (by omega), if_pos (by simp only [room]; omega), Int.toNat_natCast, copy_loop a _ (body := laws_toTriggerS_l1 a) laws_toTrigger (fun x _ => laws_toTrigger_eq x) (by omega) (fun _ => rfl)]
  rfl
theorem laws_eqTrigger_eq (a b : T_Trigger.D) : laws_eqTrigger a b = some (eqD T_Trigger a b) := by
  unfold laws_eqTrigger
  first | (simp only [bneIf]; rfl) | (simp only [laws_eqEvent_eq, laws_eqPiece_eq, Option.bind_some, bneIf, notIf]; rfl)
theorem laws_eqTriggerS_eq (a b : List T_Trigger.D) (h : a.length ≤ 1048576) : laws_eqTriggerS a b = some (eqD (.slice T_Trigger) a b) := by
  unfold laws_eqTriggerS
  exact eq_lists (t := T_Trigger) rfl a b (e := eqD T_Trigger) (fun _ _ => rfl) (by omega) (fun i => by unfold laws_eqTriggerS_l1; simp only [laws_eqTrigger_eq, Option.bind_some])

theorem laws_szState_eq (s : T_State.D) (l : Int) (h0 : 0 ≤ l) (h1 : l ≤ 1048576) (hp : s.1.length ≤ maxLen) (hs : s.2.1.length ≤ maxLen) : laws_szState s l = some (if (s.1.length : Int) + s.2.1.length ≤ l then l - s.1.length - s.2.1.length else -1) := by
  unfold laws_szState
  rw [laws_szPieceS_eq _ _ h0 h1 hp, Option.bind_some]
  by_cases g1 : (s.1.length : Int) ≤ l
  · rw [if_pos g1]
    have n1 : ¬ (l - (s.1.length : Int) < 0) := by omega
    simp only [n1, decide_false, cond_false]
    rw [laws_szSideS_eq _ _ (by omega) (by omega) hs, Option.bind_some]
    by_cases g2 : (s.2.1.length : Int) ≤ l - s.1.length
    · have n2 : ¬ (l - (s.1.length : Int) - s.2.1.length < 0) := by omega
      rw [if_pos g2, if_pos (by omega)]
      simp only [n2, decide_false, cond_false]
    · rw [if_neg g2, if_neg (by omega)]; rfl
  · rw [if_neg g1, if_neg (by omega)]; rfl
theorem laws_toState_eq (s : T_State.D) (hp : s.1.length ≤ 1048576) (hs : s.2.1.length ≤ 1048576) : laws_toState s = some s := by
  unfold laws_toState
  simp only [laws_toPieceS_eq _ hp, laws_toSideS_eq _ hs, Option.bind_some]
theorem laws_eqState_eq (a b : T_State.D) (hp : a.1.length ≤ 1048576) (hs : a.2.1.length ≤ 1048576) : laws_eqState a b = some (eqD T_State a b) := by
  unfold laws_eqState
  simp only [laws_eqPieceS_eq _ _ hp, laws_eqSideS_eq _ _ hs, Option.bind_some, bneIf, notIf]
  rfl


theorem bound_eq (n : Int) : spec_Bound n = impl_Bound n := by
  unfold spec_Bound impl_Bound
  simp only [cond_eq_ite, decide_eq_true_eq]
  split <;> split <;> (try split) <;> (try split) <;> first | rfl | (congr 1; omega) | omega
theorem plus_eq (a b : Int) : spec_Plus a b = impl_Plus a b := by unfold spec_Plus impl_Plus; simp only [bound_eq]
theorem less_eq (a b : Int) : spec_Less a b = impl_Less a b := by unfold spec_Less impl_Less; simp only [bound_eq]
theorem tough_eq (p : T_Piece.D) : spec_ToughOf p = impl_ToughOf p := by unfold spec_ToughOf impl_ToughOf; simp only [plus_eq, less_eq]
theorem tough_some (p : T_Piece.D) : ∃ m, impl_ToughOf p = some m := by simp [impl_ToughOf, impl_Plus, impl_Less, impl_Bound]
theorem hasTrait_eq (p : T_Piece.D) (t : Int) : spec_HasTrait p t = impl_HasTrait p t := by
  unfold spec_HasTrait impl_HasTrait
  cases h1 : t == 1 <;> cases h2 : t == 2 <;> cases h4 : t == 4 <;> cases h8 : t == 8 <;> cases h16 : t == 16 <;> cases h32 : t == 32 <;> simp only [cond_true, cond_false, Option.bind_some]
theorem hasTrait_some (p : T_Piece.D) (t : Int) : ∃ b, spec_HasTrait p t = some b := by
  unfold spec_HasTrait
  simp only [cond_eq_ite]
  repeat' split
  all_goals exact ⟨_, rfl⟩
theorem doomed_eq (p : T_Piece.D) : ∃ b, spec_Doomed p = some b ∧ impl_Doomed p = some b := by
  unfold spec_Doomed impl_Doomed
  obtain ⟨m, hm⟩ := tough_some p
  obtain ⟨b, hb⟩ := hasTrait_some p 8
  simp only [tough_eq, hm, ← hasTrait_eq, hb, Option.bind_some]
  unfold bne
  cases h : p.2.2.2.1 == 2 <;> simp only [Bool.not_true, Bool.not_false, cond_true, cond_false]
  · exact ⟨_, rfl, rfl⟩
  · cases decide (m ≤ 0) <;> cases b <;> cases p.2.2.2.2.2.2.2.2.2.2.2.1 <;> exact ⟨_, rfl, rfl⟩
theorem law_Doomed (p : T_Piece.D) : laws_FnExactDoomed p = some true := by
  unfold laws_FnExactDoomed
  obtain ⟨b, h1, h2⟩ := doomed_eq p
  simp only [laws_toPiece_eq, h1, h2, Option.bind_some, bne_self_eq_false, cond_false]

theorem l1In_eq (a b c : Int) : spec_l1In a b c = some (decide (b ≤ a) && decide (a ≤ c)) := by
  unfold spec_l1In
  have : decide (a ≥ b) = decide (b ≤ a) := rfl
  simp only [this]
  cases decide (b ≤ a) <;> rfl
theorem from_eq (a b c : Int) : impl_from a b c = some (decide (b ≤ a) && decide (a ≤ c)) := by
  unfold impl_from
  have : decide (a ≥ b) = decide (b ≤ a) := rfl
  simp only [this]
  cases decide (b ≤ a) <;> rfl
def eventOkB (e : T_Event.D) : Bool :=
  let piece := decide (1 ≤ e.2.2.1) && decide (e.2.2.1 ≤ 99) && (e.2.2.2.1 == -1)
  let side := (e.2.2.1 == 0) && decide (0 ≤ e.2.2.2.1) && decide (e.2.2.2.1 ≤ 2)
  decide (0 ≤ e.2.2.2.2.1) && decide (e.2.2.2.2.1 ≤ 2147483647) && (
    if e.1 = 1 then decide (1 ≤ e.2.1) && decide (e.2.1 ≤ 99) && (piece || side) && (e.2.2.2.2.2.1 == 0) && !e.2.2.2.2.2.2.1
    else if e.1 = 2 then (e.2.1 == 0) && piece && decide (1 ≤ e.2.2.2.2.2.1) && decide (e.2.2.2.2.2.1 ≤ 4) && decide (e.2.2.2.2.1 ≤ 99) && ((e.2.2.2.2.2.1 == 2) || (e.2.2.2.2.1 == 0) && !e.2.2.2.2.2.2.1)
    else if e.1 = 3 ∨ e.1 = 4 then (e.2.1 == 0) && side && (e.2.2.2.2.2.1 == 0) && !e.2.2.2.2.2.2.1
    else if e.1 = 5 ∨ e.1 = 6 then (e.2.1 == 0) && piece && (e.2.2.2.2.2.1 == 0) && !e.2.2.2.2.2.2.1
    else false)

theorem some_ite {c : Prop} [Decidable c] (a b : Bool) : (if c then some a else some b) = some (if c then a else b) := by split <;> rfl
theorem spec_EventOk_eq (e : T_Event.D) : spec_EventOk e = some (eventOkB e) := by
  obtain ⟨k, s, p, d, n, z, bt, u⟩ := e
  unfold spec_EventOk eventOkB
  simp only [l1In_eq, Option.bind_some, cond_eq_ite, some_ite]
  congr 1
  rw [Bool.eq_iff_iff]
  by_cases h1 : k = 1
  · subst h1; simp; grind
  by_cases h2 : k = 2
  · subst h2; simp; grind
  by_cases h3 : k = 3
  · subst h3; simp; grind
  by_cases h4 : k = 4
  · subst h4; simp; grind
  by_cases h5 : k = 5
  · subst h5; simp; grind
  by_cases h6 : k = 6
  · subst h6; simp; grind
  simp [h1, h2, h3, h4, h5, h6]
theorem impl_EventOk_eq (e : T_Event.D) : impl_EventOk e = some (eventOkB e) := by
  obtain ⟨k, s, p, d, n, z, bt, u⟩ := e
  unfold impl_EventOk eventOkB impl_isAmount impl_onPiece impl_onPlayer impl_isId impl_isZone impl_isPlayer
  simp only [from_eq, Option.bind_some, cond_eq_ite, some_ite, bne]
  congr 1
  rw [Bool.eq_iff_iff]
  by_cases h1 : k = 1
  · subst h1; simp; grind
  by_cases h2 : k = 2
  · subst h2; simp; grind
  by_cases h3 : k = 3
  · subst h3; simp; grind
  by_cases h4 : k = 4
  · subst h4; simp; grind
  by_cases h5 : k = 5
  · subst h5; simp; grind
  by_cases h6 : k = 6
  · subst h6; simp; grind
  simp [h1, h2, h3, h4, h5, h6]

theorem upto_eq (a b : Int) (hb : 0 ≤ b) : spec_Upto a b = impl_Upto a b := by
  unfold spec_Upto impl_Upto
  simp only [cond_eq_ite, decide_eq_true_eq]
  split <;> simp only [Option.bind_some] <;> (try split) <;> (try split) <;> (try split) <;> first | rfl | (congr 1; omega) | omega
theorem over_eq (p : T_Piece.D) (n : Int) : spec_Over p n = impl_Over p n := by
  unfold spec_Over impl_Over
  simp only [tough_eq, less_eq, upto_eq _ 2147483647 (by decide)]
theorem over_some (p : T_Piece.D) (n : Int) : ∃ m, impl_Over p n = some m := by
  simp [impl_Over, impl_ToughOf, impl_Plus, impl_Less, impl_Upto, impl_Bound]
theorem law_Over (p : T_Piece.D) (n : Int) : laws_FnExactOver p n = some true := by
  unfold laws_FnExactOver
  obtain ⟨m, h⟩ := over_some p n
  simp only [laws_toPiece_eq, over_eq, h, Option.bind_some, bne_self_eq_false, cond_false]

theorem index_event (xs : List T_Event.D) (hl : xs.length ≤ 1048576) (p : T_Event.D → Bool) (q : (T_Event.D × Unit) → Option Bool) (hq : ∀ x, q (x, ()) = some (p x)) :
    slices_IndexFunc_impl_Event xs q = some (match findL p xs with | some k => (k : Int) | none => -1) := by
  unfold slices_IndexFunc_impl_Event
  rw [index_loop xs (body := slices_IndexFunc_impl_Event_l1 xs q) p (fun i => i) (by omega) (fun i x hx => ?_) ?_]
  · cases findL p xs <;> rfl
  · unfold slices_IndexFunc_impl_Event_l1
    simp
  · unfold slices_IndexFunc_impl_Event_l1
    have hlt := (List.getElem?_eq_some_iff.1 hx).1
    have : ((i : Int) < (xs.length : Int)) := by omega
    simp only [this, decide_true, cond_true, idx_at hx, hq, Option.bind_some]
theorem contains_event (xs : List T_Event.D) (hl : xs.length ≤ 1048576) (p : T_Event.D → Bool) (q : (T_Event.D × Unit) → Option Bool) (hq : ∀ x, q (x, ()) = some (p x)) :
    slices_ContainsFunc_impl_Event xs q = some (xs.any p) := by
  unfold slices_ContainsFunc_impl_Event
  rw [index_event xs hl p q hq, Option.bind_some]
  obtain ⟨h1, h2⟩ := findL_spec p xs
  cases hf : findL p xs with
  | none =>
    have : xs.any p = false := by rw [List.any_eq_false]; exact fun x hx => by simp [h1 hf x hx]
    rw [this]; rfl
  | some k =>
    obtain ⟨x, g1, g2, _⟩ := h2 k hf
    have : xs.any p = true := by rw [List.any_eq_true]; exact ⟨x, List.mem_of_getElem? g1, g2⟩
    rw [this]
    simp
theorem impl_BatchOk_eq (xs : List T_Event.D) (hl : xs.length ≤ 1048576) : impl_BatchOk xs = some (decide ((xs.length : Int) ≤ 4) && xs.all eventOkB) := by
  unfold impl_BatchOk
  rw [contains_event xs hl (fun e => !eventOkB e) _ (fun x => by simp only [impl_BatchOk_1, impl_EventOk_eq, Option.bind_some])]
  cases decide ((xs.length : Int) ≤ 4)
  · rfl
  · simp only [cond_true, Option.bind_some, Bool.true_and]
    congr 1
    rw [List.not_any_eq_all_not]
    simp
theorem spec_BatchOk_eq (xs : List T_Event.D) (hl : xs.length ≤ 1048576) : spec_BatchOk xs = some (decide ((xs.length : Int) ≤ 4) && xs.all eventOkB) := by
  unfold spec_BatchOk
  rw [index_loop xs (body := spec_BatchOk_l1 xs) (fun e => !eventOkB e) (fun _ => false) (by omega) (fun i x hx => ?_) ?_]
  · obtain ⟨h1, h2⟩ := findL_spec (fun e => !eventOkB e) xs
    cases hf : findL (fun e => !eventOkB e) xs with
    | none =>
      have : xs.all eventOkB = true := by rw [List.all_eq_true]; exact fun x hx => by simpa using h1 hf x hx
      rw [this, Bool.and_true]; rfl
    | some k =>
      obtain ⟨x, g1, g2, _⟩ := h2 k hf
      have : xs.all eventOkB = false := by rw [List.all_eq_false]; exact ⟨x, List.mem_of_getElem? g1, by simpa using g2⟩
      rw [this, Bool.and_false]; rfl
  · unfold spec_BatchOk_l1
    simp
  · unfold spec_BatchOk_l1
    have hlt := (List.getElem?_eq_some_iff.1 hx).1
    have : ((i : Int) < (xs.length : Int)) := by omega
    simp only [this, decide_true, cond_true, idx_at hx, spec_EventOk_eq, Option.bind_some]
theorem law_BatchOk (a : List T_Event.D) (ha : a.length ≤ maxLen) : laws_FnExactBatchOk a = some true := by
  unfold laws_FnExactBatchOk
  rw [laws_szEventS_eq a _ (by omega) (by omega) ha, Option.bind_some]
  by_cases h1 : (a.length : Int) ≤ 1048576
  · rw [if_pos h1]
    have n1 : ¬ (1048576 - (a.length : Int) < 0) := by omega
    simp only [n1, decide_false, cond_false, laws_toEventS_eq a (by omega), Option.bind_some, spec_BatchOk_eq a (by omega), impl_BatchOk_eq a (by omega), bne_self_eq_false, laws_eqEventS_eq a a (by omega), eqD_refl (t := .slice T_Event) rfl, Bool.not_true]
  · rw [if_neg h1]; rfl

theorem spec_SameEvents_eq (a b : List T_Event.D) (h : a.length ≤ 1048576) : spec_SameEvents a b = some (eqD (.slice T_Event) a b) := by
  unfold spec_SameEvents
  exact eq_lists (t := T_Event) rfl a b (e := eqD T_Event) (fun _ _ => rfl) (by omega) (fun i => rfl)
theorem impl_SameEvents_eq (a b : List T_Event.D) (h : a.length ≤ 1048576) : impl_SameEvents a b = some (eqD (.slice T_Event) a b) := by
  unfold impl_SameEvents
  rw [show slices_Equal_impl_Event a b = some (eqD (.slice T_Event) a b) from eq_lists (t := T_Event) rfl a b (e := eqD T_Event) (fun _ _ => rfl) (by omega) (fun i => rfl)]
  rfl
theorem law_SameEvents (a b : List T_Event.D) (ha : a.length ≤ maxLen) (hb : b.length ≤ maxLen) : laws_FnExactSameEvents a b = some true := by
  unfold laws_FnExactSameEvents
  rw [laws_szEventS_eq a _ (by omega) (by omega) ha, Option.bind_some]
  by_cases h1 : (a.length : Int) ≤ 1048576
  · rw [if_pos h1]
    have n1 : ¬ (1048576 - (a.length : Int) < 0) := by omega
    simp only [n1, decide_false, cond_false]
    rw [laws_szEventS_eq b _ (by omega) (by omega) hb, Option.bind_some]
    by_cases h2 : (b.length : Int) ≤ 1048576 - a.length
    · rw [if_pos h2]
      have n2 : ¬ (1048576 - (a.length : Int) - b.length < 0) := by omega
      simp only [n2, decide_false, cond_false, laws_toEventS_eq a (by omega), laws_toEventS_eq b (by omega), Option.bind_some, spec_SameEvents_eq a b (by omega), impl_SameEvents_eq a b (by omega), bne_self_eq_false,
        laws_eqEventS_eq a a (by omega), laws_eqEventS_eq b b (by omega), eqD_refl (t := .slice T_Event) rfl, Bool.not_true]
    · rw [if_neg h2]; rfl
  · rw [if_neg h1]; rfl

theorem spec_SameTriggers_eq (a b : List T_Trigger.D) (h : a.length ≤ 1048576) : spec_SameTriggers a b = some (eqD (.slice T_Trigger) a b) := by
  unfold spec_SameTriggers
  exact eq_lists (t := T_Trigger) rfl a b (e := eqD T_Trigger) (fun _ _ => rfl) (by omega) (fun i => rfl)
theorem impl_SameTriggers_eq (a b : List T_Trigger.D) (h : a.length ≤ 1048576) : impl_SameTriggers a b = some (eqD (.slice T_Trigger) a b) := by
  unfold impl_SameTriggers
  rw [show slices_Equal_impl_Trigger a b = some (eqD (.slice T_Trigger) a b) from eq_lists (t := T_Trigger) rfl a b (e := eqD T_Trigger) (fun _ _ => rfl) (by omega) (fun i => rfl)]
  rfl
theorem law_SameTriggers (a b : List T_Trigger.D) (ha : a.length ≤ maxLen) (hb : b.length ≤ maxLen) : laws_FnExactSameTriggers a b = some true := by
  unfold laws_FnExactSameTriggers
  rw [laws_szTriggerS_eq a _ (by omega) (by omega) ha, Option.bind_some]
  by_cases h1 : (a.length : Int) ≤ 1048576
  · rw [if_pos h1]
    have n1 : ¬ (1048576 - (a.length : Int) < 0) := by omega
    simp only [n1, decide_false, cond_false]
    rw [laws_szTriggerS_eq b _ (by omega) (by omega) hb, Option.bind_some]
    by_cases h2 : (b.length : Int) ≤ 1048576 - a.length
    · rw [if_pos h2]
      have n2 : ¬ (1048576 - (a.length : Int) - b.length < 0) := by omega
      simp only [n2, decide_false, cond_false, laws_toTriggerS_eq a (by omega), laws_toTriggerS_eq b (by omega), Option.bind_some, spec_SameTriggers_eq a b (by omega), impl_SameTriggers_eq a b (by omega), bne_self_eq_false,
        laws_eqTriggerS_eq a a (by omega), laws_eqTriggerS_eq b b (by omega), eqD_refl (t := .slice T_Trigger) rfl, Bool.not_true]
    · rw [if_neg h2]; rfl
  · rw [if_neg h1]; rfl

theorem rounds_eq (s : T_State.D) : spec_RoundsMost s = impl_RoundsMost s := by
  unfold spec_RoundsMost impl_RoundsMost; rfl
theorem law_RoundsMost (s : T_State.D) (hp : s.1.length ≤ maxLen) (hs : s.2.1.length ≤ maxLen) : laws_FnExactRoundsMost s = some true := by
  unfold laws_FnExactRoundsMost
  rw [laws_szState_eq s _ (by omega) (by omega) hp hs, Option.bind_some]
  by_cases h1 : (s.1.length : Int) + s.2.1.length ≤ 1048576
  · rw [if_pos h1]
    have n1 : ¬ (1048576 - (s.1.length : Int) - s.2.1.length < 0) := by omega
    obtain ⟨m, hm⟩ : ∃ m, impl_RoundsMost s = some m := ⟨_, rfl⟩
    simp only [n1, decide_false, cond_false, laws_toState_eq s (by omega) (by omega), Option.bind_some, rounds_eq, hm, bne_self_eq_false, laws_eqState_eq s s (by omega) (by omega), eqD_refl (t := T_State) rfl, Bool.not_true]
  · rw [if_neg h1]; rfl
end Go.Abs
